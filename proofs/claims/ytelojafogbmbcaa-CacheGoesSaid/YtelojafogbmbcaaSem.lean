import Derived.Test.YtelojafogbmbcaaChecked
import Derived.Test.YtelojafogbmbcaaSxM
set_option linter.unusedVariables false
namespace Go.Proofs.Ytelojafogbmbcaa
open Go Go.Sx

/-- gosem.cut.init -/
abbrev i_gosem_cut_init : FuncId := 2
def gosem_cut_init  (R : TR [] → Pr) : Pr :=
  Cl Try.prog 1 [] true [] fun r1 =>
  R ()
def gosem_cut_init_ann : Ann := .leaf
set_option maxRecDepth 100000 in
theorem gosem_cut_init_den  (R : TR [] → Pr) : den Try.prog gosem_cut_init_ann (Try.f2.body.getD .skip) (retQ Try.prog Try.f2.results.toList true [] R) (env0 1 []) = gosem_cut_init  R := by
  kernel_rfl
set_option maxRecDepth 100000 in
theorem gosem_cut_init_call  {R : TR [] → Pr} {w : World} (h : gosem_cut_init  R w) : Cl Try.prog 2 [] true [] R w :=
  call_of (P := Try.prog) (tup := true) (rs := []) Try.checked.mixed gosem_cut_init_ann (by kernel_rfl) Try.func2 (by kernel_rfl) Try.ntmps2 (by show Nat.beq Try.f2.results.size 1 = false; kernel_rfl) (by rw [← gosem_cut_init_den] at h; exact h)

/-- sumpter/sumpterlaw10.CachePinned -/
abbrev i_sumpterlaw10_CachePinned : FuncId := 3
def sumpterlaw10_CachePinned (p_places : Int) (p_l : Sl) (R : TR [.sc .b] → Pr) : Pr :=
  Cl Try.prog 6 [] false [.sc .b] fun r1 =>
  Req (6 ≠ (0 : Int)) <|
  Req (6 ≠ (0 : Int)) <|
  Cl Try.prog 8 [(.int .i64 6), (.int .i64 (-1))] false [.sc .p] fun r2 =>
  Cl Try.prog 7 [(.int .i64 (w64 (1 + ((w64 (((p_places : Int).tmod 6) + 6)).tmod 6)))), (.iface 28 (.pointer r2.1))] true [.sc .p, .sc (.i .i64)] fun r3 =>
  Jp (σ := Bool × Unit) (fun s5 =>
  Br s5.1 (
  Br r1.1 (
  R ((!(Option.isNone r3.1)), ())) (
  R (false, ()))) (
  New #[(.int .i64 0), (.int .i64 0), (.int .i64 0), (.int .i64 0), (.int .i64 0), (.int .i64 0), (.int .i64 0), (.int .i64 0)] 30 fun a6 =>
  Lp (σ := Bool × Int × Unit) (fun L7 s8 =>
  Br (decide ((s8.2.1 : Int) < ((p_l.len : Nat) : Int))) (
  Ix p_l s8.2.1 4 fun a9 =>
  LdI .i64 (a9.add 0) fun x10 =>
  LdI .i64 (a9.add 1) fun x11 =>
  LdS (a9.add 2) fun x12 =>
  LdI .u64 (a9.add 3) fun x13 =>
  New #[(.int .i64 0), (.int .i64 0), (.string (BA [])), (.int .u64 0)] 33 fun a14 =>
  St (a14.add 0) (.int .i64 x10) <|
  St (a14.add 1) (.int .i64 x11) <|
  St (a14.add 2) (.string x12) <|
  St (a14.add 3) (.int .u64 x13) <|
  LdI .i64 (a14.add 1) fun x15 =>
  Req (6 ≠ (0 : Int)) <|
  Req (6 ≠ (0 : Int)) <|
  Jp (σ := Bool × Unit) (fun s17 =>
  Lp (σ := Bool × Int × Int × Unit) (fun L18 s19 =>
  Br (decide ((s19.2.2.1 : Int) ≤ 6)) (
  Jp (σ := Int × Unit) (fun s21 =>
  Jp (σ := Bool × Unit) (fun s23 =>
  Br s23.1 (
  R (false, ())) (
  L18 (s19.1, s21.1, (w64 (s19.2.2.1 + 1)), ()))) fun J22 =>
  IxR a6 8 s19.2.2.1 1 fun a24 =>
  LdI .i64 a24 fun x25 =>
  Br (decide ((x25 : Int) > 0)) (
  Cl Try.prog 11 [(.pointer r3.1), (.int .i64 s19.2.2.1)] false [.sc .b] fun r26 =>
  J22 ((!r26.1), ())) (
  J22 (false, ()))) fun J20 =>
  Cl Try.prog 11 [(.pointer r3.1), (.int .i64 s19.2.2.1)] false [.sc .b] fun r27 =>
  Br r27.1 (
  J20 ((w64 (s19.2.1 + 1)), ())) (
  J20 (s19.2.1, ()))) (
  Br (decide ((s19.2.1 : Int) > (w64 (1 + ((w64 (((p_places : Int).tmod 6) + 6)).tmod 6))))) (
  R (false, ())) (
  L7 (s19.1, (w64 (s8.2.1 + 1)), ())))) (s17.1, 0, 1, ())) fun J16 =>
  LdI .i64 (a14.add 0) fun x28 =>
  Br ((x28 : Int) == 1) (
  Cl Try.prog 9 [(.pointer r3.1), (.int .i64 (w64 (1 + ((w64 (((x15 : Int).tmod 6) + 6)).tmod 6))))] false [.sc (.i .i64)] fun r29 =>
  IxR a6 8 (w64 (1 + ((w64 (((x15 : Int).tmod 6) + 6)).tmod 6))) 1 fun a30 =>
  LdI .i64 a30 fun x31 =>
  Br (!(((r29.1 : Int) == 0) == (decide ((x31 : Int) > 0)))) (
  R (false, ())) (
  IxR a6 8 (w64 (1 + ((w64 (((x15 : Int).tmod 6) + 6)).tmod 6))) 1 fun a32 =>
  LdI .i64 a32 fun x33 =>
  Br (decide ((x33 : Int) > 0)) (
  IxR a6 8 (w64 (1 + ((w64 (((x15 : Int).tmod 6) + 6)).tmod 6))) 1 fun a34 =>
  LdI .i64 a34 fun x35 =>
  IxR a6 8 (w64 (1 + ((w64 (((x15 : Int).tmod 6) + 6)).tmod 6))) 1 fun a36 =>
  St a36 (.int .i64 (w64 (x35 - 1))) <|
  J16 (s8.1, ())) (
  J16 (s8.1, ())))) (
  Cl Try.prog 10 [(.pointer r3.1), (.int .i64 (w64 (1 + ((w64 (((x15 : Int).tmod 6) + 6)).tmod 6))))] true [.sc .sl, .sc (.i .i64)] fun r37 =>
  Jp (σ := Unit) (fun s39 =>
  Jp (σ := Bool × Unit) (fun s41 =>
  Br s41.1 (
  R (false, ())) (
  J16 (s8.1, ()))) fun J40 =>
  Br ((r37.2.1 : Int) != 0) (
  J40 (((r37.2.1 : Int) != 100), ())) (
  J40 (false, ()))) fun J38 =>
  Br ((r37.2.1 : Int) == 0) (
  IxR a6 8 (w64 (1 + ((w64 (((x15 : Int).tmod 6) + 6)).tmod 6))) 1 fun a42 =>
  LdI .i64 a42 fun x43 =>
  IxR a6 8 (w64 (1 + ((w64 (((x15 : Int).tmod 6) + 6)).tmod 6))) 1 fun a44 =>
  St a44 (.int .i64 (w64 (x43 + 1))) <|
  J38 ()) (
  J38 ()))) (
  R (r1.1, ()))) (false, 0, ()))) fun J4 =>
  Br (Option.isNone r3.1) (
  J4 (true, ())) (
  Br ((r3.2.1 : Int) != 0) (
  J4 (true, ())) (
  J4 ((decide ((((p_l.len : Nat) : Int) : Int) > 200)), ())))
def sumpterlaw10_CachePinned_ann : Ann := .seq .leaf (.seq .leaf (.seq .leaf (.seq .leaf (.seq (.seq (.join [(40, .sc .b)] .leaf) (.cond (.seq .leaf .leaf) .leaf)) (.seq .leaf (.seq (.seq .leaf (.block (.loop [(4, .sc .b), (48, .sc (.i .i64))] (.seq .leaf (.seq (.cond .leaf .leaf) (.seq (.block (.seq .leaf (.seq .leaf (.seq (.join [(4, .sc .b)] (.seq .leaf (.cond (.seq .leaf (.seq (.seq .leaf (.cond (.seq .leaf .leaf) .leaf)) (.seq .leaf (.cond .leaf .leaf)))) (.seq .leaf (.seq (.join [] (.seq .leaf (.cond .leaf .leaf))) (.seq (.join [(98, .sc .b)] .leaf) (.cond (.seq .leaf .leaf) .leaf))))))) (.seq .leaf (.seq (.seq .leaf (.block (.loop [(4, .sc .b), (15, .sc (.i .i64)), (16, .sc (.i .i64))] (.seq (.seq .leaf (.cond .leaf .leaf)) (.seq (.block (.seq (.join [(15, .sc (.i .i64))] (.seq .leaf (.cond .leaf .leaf))) (.seq (.join [(117, .sc .b)] .leaf) (.cond (.seq .leaf .leaf) .leaf)))) .leaf))))) (.seq .leaf (.cond (.seq .leaf .leaf) .leaf)))))))) .leaf)))))) (.seq .leaf .leaf)))))))
set_option maxRecDepth 100000 in
theorem sumpterlaw10_CachePinned_den (p_places : Int) (p_l : Sl) (R : TR [.sc .b] → Pr) : den Try.prog sumpterlaw10_CachePinned_ann (Try.f3.body.getD .skip) (retQ Try.prog Try.f3.results.toList false [.sc .b] R) (env0 123 [(.int .i64 p_places), (.slice p_l.p p_l.len p_l.cap)]) = sumpterlaw10_CachePinned p_places p_l R := by
  kernel_rfl
set_option maxRecDepth 100000 in
theorem sumpterlaw10_CachePinned_call (p_places : Int) (p_l : Sl) {R : TR [.sc .b] → Pr} {w : World} (h : sumpterlaw10_CachePinned p_places p_l R w) : Cl Try.prog 3 [(.int .i64 p_places), (.slice p_l.p p_l.len p_l.cap)] false [.sc .b] R w :=
  call_of (P := Try.prog) (tup := false) (rs := [.sc .b]) Try.checked.mixed sumpterlaw10_CachePinned_ann (by kernel_rfl) Try.func3 (by kernel_rfl) Try.ntmps3 (by show Try.f3.results.size = 1; kernel_rfl) (by rw [← sumpterlaw10_CachePinned_den] at h; exact h)

/-- sumpter/sumpterlaw10.CacheGoes -/
abbrev i_sumpterlaw10_CacheGoes : FuncId := 4
def sumpterlaw10_CacheGoes (p_places : Int) (p_left : Int) (p_l : Sl) (R : TR [.sc .b] → Pr) : Pr :=
  Cl Try.prog 6 [] false [.sc .b] fun r1 =>
  Cl Try.prog 8 [(.int .i64 6), (.int .i64 p_left)] false [.sc .p] fun r2 =>
  Cl Try.prog 7 [(.int .i64 p_places), (.iface 28 (.pointer r2.1))] true [.sc .p, .sc (.i .i64)] fun r3 =>
  Cl Try.prog 8 [(.int .i64 6), (.int .i64 p_left)] false [.sc .p] fun r4 =>
  Cl Try.prog 12 [(.int .i64 p_places), (.pointer r4.1)] true [.sc .p, .sc (.i .i64)] fun r5 =>
  Cl Try.prog 7 [(.int .i64 p_places), .nilIface] true [.sc .p, .sc (.i .i64)] fun r6 =>
  Jp (σ := Bool × Unit) (fun s8 =>
  Br s8.1 (
  R (false, ())) (
  Jp (σ := Bool × Unit) (fun s10 =>
  Br s10.1 (
  R (r1.1, ())) (
  Lp (σ := Bool × Int × Unit) (fun L11 s12 =>
  Br (decide ((s12.2.1 : Int) < ((p_l.len : Nat) : Int))) (
  Ix p_l s12.2.1 4 fun a13 =>
  LdI .i64 (a13.add 0) fun x14 =>
  LdI .i64 (a13.add 1) fun x15 =>
  LdS (a13.add 2) fun x16 =>
  LdI .u64 (a13.add 3) fun x17 =>
  New #[(.int .i64 0), (.int .i64 0), (.string (BA [])), (.int .u64 0)] 33 fun a18 =>
  St (a18.add 0) (.int .i64 x14) <|
  St (a18.add 1) (.int .i64 x15) <|
  St (a18.add 2) (.string x16) <|
  St (a18.add 3) (.int .u64 x17) <|
  LdS (a18.add 2) fun x19 =>
  StoB 5 x19 fun r20 =>
  Jp (σ := Bool × Unit) (fun s22 =>
  Lp (σ := Int × Unit) (fun L23 s24 =>
  Br (decide ((s24.1 : Int) < ((r20.len : Nat) : Int))) (
  Ix r20 s24.1 1 fun a25 =>
  LdI .u8 a25 fun x26 =>
  Ix r20 s24.1 1 fun a27 =>
  St a27 (.int .u8 (IntKind.u8.wrap (x26 + 1))) <|
  L23 ((w64 (s24.1 + 1)), ())) (
  Jp (σ := Bool × Unit) (fun s29 =>
  Br s29.1 (
  R (false, ())) (
  L11 (s12.1, (w64 (s12.2.1 + 1)), ()))) fun J28 =>
  Br (!s22.1) (
  J28 (true, ())) (
  Cl Try.prog 19 [(.pointer r3.1), (.pointer r2.1), (.pointer r5.1)] false [.sc .b] fun r30 =>
  J28 ((!r30.1), ())))) (0, ())) fun J21 =>
  LdI .i64 (a18.add 0) fun x31 =>
  Br ((x31 : Int) == 0) (
  LdI .i64 (a18.add 1) fun x32 =>
  Cl Try.prog 10 [(.pointer r3.1), (.int .i64 x32)] true [.sc .sl, .sc (.i .i64)] fun r33 =>
  LdI .i64 (a18.add 1) fun x34 =>
  Cl Try.prog 13 [(.pointer r5.1), (.int .i64 x34)] true [.sc .s, .sc (.i .i64)] fun r35 =>
  Jp (σ := Bool × Unit) (fun s37 =>
  Lp (σ := Int × Unit) (fun L38 s39 =>
  Br (decide ((s39.1 : Int) < ((r33.1.len : Nat) : Int))) (
  Ix r33.1 s39.1 1 fun a40 =>
  LdI .u8 a40 fun x41 =>
  Ix r33.1 s39.1 1 fun a42 =>
  St a42 (.int .u8 (IntKind.u8.wrap (x41 + 1))) <|
  L38 ((w64 (s39.1 + 1)), ())) (
  J21 (s37.1, ()))) (0, ())) fun J36 =>
  BtoS r33.1 fun s43 =>
  Br (seq s43 r35.1) (
  J36 (((r33.2.1 : Int) == r35.2.1), ())) (
  J36 (false, ()))) (
  Br ((x31 : Int) == 1) (
  Dr <|
  LdI .i64 (a18.add 1) fun x44 =>
  LdI .i64 (a18.add 1) fun x45 =>
  Cl Try.prog 9 [(.pointer r3.1), (.int .i64 x44)] false [.sc (.i .i64)] fun r46 =>
  Both (LdI .i64 (a18.add 1) fun x47 =>
  fun _ => ((.int .i64 x47) : Value) = (.int .i64 x45)) <|
  Cl Try.prog 14 [(.pointer r5.1), (.int .i64 x45)] false [.sc (.i .i64)] fun r48 =>
  J21 (((r46.1 : Int) == r48.1), ())) (
  Br ((x31 : Int) == 2) (
  Dr <|
  LdI .i64 (a18.add 1) fun x49 =>
  LdI .u64 (a18.add 3) fun x50 =>
  LdI .i64 (a18.add 1) fun x51 =>
  LdS (a18.add 2) fun x52 =>
  LdI .u64 (a18.add 3) fun x53 =>
  Cl Try.prog 15 [(.pointer r3.1), (.int .i64 x49), (.slice r20.p r20.len r20.cap), (.int .u64 x50)] false [.sc (.i .i64)] fun r54 =>
  Both (LdI .u64 (a18.add 3) fun x55 =>
  fun _ => ((.int .u64 x55) : Value) = (.int .u64 x53)) <|
  Both (LdS (a18.add 2) fun x56 =>
  fun _ => ((.string x56) : Value) = (.string x52)) <|
  Both (LdI .i64 (a18.add 1) fun x57 =>
  fun _ => ((.int .i64 x57) : Value) = (.int .i64 x51)) <|
  Cl Try.prog 16 [(.pointer r5.1), (.int .i64 x51), (.string x52), (.int .u64 x53)] false [.sc (.i .i64)] fun r58 =>
  J21 (((r54.1 : Int) == r58.1), ())) (
  Br ((x31 : Int) == 3) (
  Cl Try.prog 17 [(.pointer r3.1)] false [.sc (.i .i64)] fun r59 =>
  Cl Try.prog 18 [(.pointer r5.1)] false [.sc (.i .i64)] fun r60 =>
  J21 (((r59.1 : Int) == r60.1), ())) (
  Br ((x31 : Int) == 4) (
  Dr <|
  Nn r2.1 fun a61 =>
  LdI .u64 (a61.add 1) fun x62 =>
  LdI .u64 (a18.add 3) fun x63 =>
  Nn r2.1 fun a64 =>
  St (a64.add 1) (.int .u64 (if (x63 : Int) > x62 then x63 else x62)) <|
  Dr <|
  Nn r5.1 fun a65 =>
  LdP (a65.add 2) fun x66 =>
  Nn r5.1 fun a67 =>
  LdP (a67.add 2) fun x68 =>
  Nn x68 fun a69 =>
  LdI .u64 (a69.add 1) fun x70 =>
  LdI .u64 (a18.add 3) fun x71 =>
  Nn x66 fun a72 =>
  St (a72.add 1) (.int .u64 (if (x71 : Int) > x70 then x71 else x70)) <|
  J21 (true, ())) (
  J21 (true, ()))))))) (
  R (r1.1, ()))) (false, 0, ()))) fun J9 =>
  Br (Option.isNone r3.1) (
  J9 (true, ())) (
  J9 ((decide ((((p_l.len : Nat) : Int) : Int) > 200)), ())))) fun J7 =>
  Br ((r3.2.1 : Int) != r5.2.1) (
  J7 (true, ())) (
  Br (!((Option.isNone r3.1) == (Option.isNone r5.1))) (
  J7 (true, ())) (
  Br (!(Option.isNone r6.1)) (
  J7 (true, ())) (
  J7 (((r6.2.1 : Int) != 1), ()))))
def sumpterlaw10_CacheGoes_ann : Ann := .seq .leaf (.seq .leaf (.seq .leaf (.seq .leaf (.seq .leaf (.seq .leaf (.seq (.seq (.join [(64, .sc .b)] .leaf) (.cond (.seq .leaf .leaf) .leaf)) (.seq (.seq (.join [(71, .sc .b)] .leaf) (.cond (.seq .leaf .leaf) .leaf)) (.seq (.seq .leaf (.block (.loop [(6, .sc .b), (75, .sc (.i .i64))] (.seq .leaf (.seq (.cond .leaf .leaf) (.seq (.block (.seq .leaf (.seq .leaf (.seq .leaf (.seq (.join [(18, .sc .b)] (.seq .leaf (.block (.seq .leaf (.cond (.seq .leaf (.seq .leaf (.seq (.join [(18, .sc .b)] .leaf) (.seq .leaf (.block (.loop [(111, .sc (.i .i64))] (.seq .leaf (.seq (.cond .leaf .leaf) (.seq (.block (.seq .leaf .leaf)) .leaf))))))))) (.seq .leaf (.cond .leaf (.seq .leaf (.cond .leaf (.seq .leaf (.cond .leaf (.seq .leaf (.cond (.seq .leaf .leaf) .leaf))))))))))))) (.seq (.seq .leaf (.block (.loop [(187, .sc (.i .i64))] (.seq .leaf (.seq (.cond .leaf .leaf) (.seq (.block (.seq .leaf .leaf)) .leaf)))))) (.seq (.join [(205, .sc .b)] .leaf) (.cond (.seq .leaf .leaf) .leaf)))))))) .leaf)))))) (.seq .leaf .leaf)))))))))
set_option maxRecDepth 100000 in
theorem sumpterlaw10_CacheGoes_den (p_places : Int) (p_left : Int) (p_l : Sl) (R : TR [.sc .b] → Pr) : den Try.prog sumpterlaw10_CacheGoes_ann (Try.f4.body.getD .skip) (retQ Try.prog Try.f4.results.toList false [.sc .b] R) (env0 208 [(.int .i64 p_places), (.int .i64 p_left), (.slice p_l.p p_l.len p_l.cap)]) = sumpterlaw10_CacheGoes p_places p_left p_l R := by
  kernel_rfl
set_option maxRecDepth 100000 in
theorem sumpterlaw10_CacheGoes_call (p_places : Int) (p_left : Int) (p_l : Sl) {R : TR [.sc .b] → Pr} {w : World} (h : sumpterlaw10_CacheGoes p_places p_left p_l R w) : Cl Try.prog 4 [(.int .i64 p_places), (.int .i64 p_left), (.slice p_l.p p_l.len p_l.cap)] false [.sc .b] R w :=
  call_of (P := Try.prog) (tup := false) (rs := [.sc .b]) Try.checked.mixed sumpterlaw10_CacheGoes_ann (by kernel_rfl) Try.func4 (by kernel_rfl) Try.ntmps4 (by show Try.f4.results.size = 1; kernel_rfl) (by rw [← sumpterlaw10_CacheGoes_den] at h; exact h)

/-- sumpter/sumpterlaw10.CacheRule -/
abbrev i_sumpterlaw10_CacheRule : FuncId := 5
def sumpterlaw10_CacheRule (p_places : Int) (p_l : Sl) (R : TR [.sc .b] → Pr) : Pr :=
  Cl Try.prog 6 [] false [.sc .b] fun r1 =>
  Req (6 ≠ (0 : Int)) <|
  Req (6 ≠ (0 : Int)) <|
  Cl Try.prog 8 [(.int .i64 6), (.int .i64 (-1))] false [.sc .p] fun r2 =>
  Cl Try.prog 7 [(.int .i64 (w64 (1 + ((w64 (((p_places : Int).tmod 6) + 6)).tmod 6)))), (.iface 28 (.pointer r2.1))] true [.sc .p, .sc (.i .i64)] fun r3 =>
  Jp (σ := Bool × Unit) (fun s5 =>
  Br s5.1 (
  Br r1.1 (
  R ((!(Option.isNone r3.1)), ())) (
  R (false, ()))) (
  New #[(.string (BA [])), (.string (BA [])), (.string (BA [])), (.string (BA [])), (.string (BA [])), (.string (BA [])), (.string (BA []))] 57 fun a6 =>
  New #[(.int .u64 0), (.int .u64 0), (.int .u64 0), (.int .u64 0), (.int .u64 0), (.int .u64 0), (.int .u64 0)] 58 fun a7 =>
  Lp (σ := Int × Unit) (fun L8 s9 =>
  Br (decide ((s9.1 : Int) ≤ 6)) (
  Nn r2.1 fun a10 =>
  LdM (a10.add 0) fun x11 =>
  LkK .s (BA []) (.int .i64) x11 (.int .i64 s9.1) fun x12 b13 =>
  IxR a6 7 s9.1 1 fun a14 =>
  St a14 (.string x12) <|
  L8 ((w64 (s9.1 + 1)), ())) (
  Lp (σ := Bool × Int × Int × Unit) (fun L15 s16 =>
  Br (decide ((s16.2.2.1 : Int) < ((p_l.len : Nat) : Int))) (
  Ix p_l s16.2.2.1 4 fun a17 =>
  LdI .i64 (a17.add 0) fun x18 =>
  LdI .i64 (a17.add 1) fun x19 =>
  LdS (a17.add 2) fun x20 =>
  LdI .u64 (a17.add 3) fun x21 =>
  New #[(.int .i64 0), (.int .i64 0), (.string (BA [])), (.int .u64 0)] 33 fun a22 =>
  St (a22.add 0) (.int .i64 x18) <|
  St (a22.add 1) (.int .i64 x19) <|
  St (a22.add 2) (.string x20) <|
  St (a22.add 3) (.int .u64 x21) <|
  LdI .i64 (a22.add 1) fun x23 =>
  Req (6 ≠ (0 : Int)) <|
  Req (6 ≠ (0 : Int)) <|
  Cl Try.prog 10 [(.pointer r3.1), (.int .i64 (w64 (1 + ((w64 (((x23 : Int).tmod 6) + 6)).tmod 6))))] true [.sc .sl, .sc (.i .i64)] fun r24 =>
  Jp (σ := Bool × Unit) (fun s26 =>
  Nn r2.1 fun a27 =>
  LdL (a27.add 2) fun x28 =>
  Lp (σ := Bool × Int × Int × Unit) (fun L29 s30 =>
  Br (decide ((s30.2.2.1 : Int) < ((x28.len : Nat) : Int))) (
  Ix x28 s30.2.2.1 4 fun a31 =>
  LdI .i64 (a31.add 0) fun x32 =>
  LdI .i64 (a31.add 1) fun x33 =>
  LdI .u64 (a31.add 2) fun x34 =>
  LdS (a31.add 3) fun x35 =>
  New #[(.int .i64 0), (.int .i64 0), (.int .u64 0), (.string (BA []))] 60 fun a36 =>
  St (a36.add 0) (.int .i64 x32) <|
  St (a36.add 1) (.int .i64 x33) <|
  St (a36.add 2) (.int .u64 x34) <|
  St (a36.add 3) (.string x35) <|
  Jp (σ := Int × Unit) (fun s38 =>
  Jp (σ := Bool × Unit) (fun s40 =>
  Br s40.1 (
  R (false, ())) (
  L29 (s30.1, s38.1, (w64 (s30.2.2.1 + 1)), ()))) fun J39 =>
  Dr <|
  Br (decide ((s30.2.2.1 : Int) ≥ s16.2.1)) (
  LdI .i64 (a36.add 0) fun x41 =>
  Br ((x41 : Int) == 2) (
  LdI .i64 (a36.add 1) fun x42 =>
  IxR a7 7 x42 1 fun a43 =>
  LdI .u64 a43 fun x44 =>
  Br (decide ((x44 : Int) > s38.1)) (
  J39 (true, ())) (
  LdS (a36.add 3) fun x45 =>
  LdI .i64 (a36.add 1) fun x46 =>
  IxR a6 7 x46 1 fun a47 =>
  LdS a47 fun x48 =>
  J39 ((!(seq x45 x48)), ()))) (
  J39 (false, ()))) (
  J39 (false, ()))) fun J37 =>
  LdI .i64 (a36.add 0) fun x49 =>
  Br ((x49 : Int) == 3) (
  LdI .u64 (a36.add 2) fun x50 =>
  J37 ((if (x50 : Int) > s30.2.1 then x50 else s30.2.1), ())) (
  J37 (s30.2.1, ()))) (
  Nn r2.1 fun a51 =>
  LdL (a51.add 2) fun x52 =>
  L15 (s30.1, ((x52.len : Nat) : Int), (w64 (s16.2.2.1 + 1)), ()))) (s26.1, 0, 0, ())) fun J25 =>
  Br ((r24.2.1 : Int) == 0) (
  Dr <|
  BtoS r24.1 fun s53 =>
  IxR a6 7 (w64 (1 + ((w64 (((x23 : Int).tmod 6) + 6)).tmod 6))) 1 fun a54 =>
  LdS a54 fun x55 =>
  Br (!(seq s53 x55)) (
  R (false, ())) (
  Jp (σ := Bool × Unit) (fun s57 =>
  Jp (σ := Bool × Unit) (fun s59 =>
  Br s59.1 (
  R (false, ())) (
  J25 (s57.1, ()))) fun J58 =>
  LdI .i64 (a22.add 0) fun x60 =>
  Br ((x60 : Int) != 1) (
  Cl Try.prog 9 [(.pointer r3.1), (.int .i64 (w64 (1 + ((w64 (((x23 : Int).tmod 6) + 6)).tmod 6))))] false [.sc (.i .i64)] fun r61 =>
  J58 (((r61.1 : Int) != 0), ())) (
  J58 (false, ()))) fun J56 =>
  LdI .i64 (a22.add 0) fun x62 =>
  Br ((x62 : Int) == 2) (
  LdS (a22.add 2) fun x63 =>
  StoB 5 x63 fun r64 =>
  LdI .u64 (a22.add 3) fun x65 =>
  Cl Try.prog 15 [(.pointer r3.1), (.int .i64 (w64 (1 + ((w64 (((x23 : Int).tmod 6) + 6)).tmod 6)))), (.slice r64.p r64.len r64.cap), (.int .u64 x65)] false [.sc (.i .i64)] fun r66 =>
  Br ((r66.1 : Int) != 0) (
  R (false, ())) (
  LdS (a22.add 2) fun x67 =>
  IxR a6 7 (w64 (1 + ((w64 (((x23 : Int).tmod 6) + 6)).tmod 6))) 1 fun a68 =>
  St a68 (.string x67) <|
  Dr <|
  IxR a7 7 (w64 (1 + ((w64 (((x23 : Int).tmod 6) + 6)).tmod 6))) 1 fun a69 =>
  LdI .u64 a69 fun x70 =>
  LdI .u64 (a22.add 3) fun x71 =>
  IxR a7 7 (w64 (1 + ((w64 (((x23 : Int).tmod 6) + 6)).tmod 6))) 1 fun a72 =>
  St a72 (.int .u64 (if (x71 : Int) > x70 then x71 else x70)) <|
  J56 (s16.1, ()))) (
  J56 (s16.1, ())))) (
  J25 (s16.1, ()))) (
  Jp (σ := Bool × Unit) (fun s74 =>
  Br s74.1 (
  R (false, ())) (
  Lp (σ := Bool × Int × Unit) (fun L75 s76 =>
  Br (decide ((s76.2.1 : Int) ≤ 6)) (
  Dr <|
  Nn r2.1 fun a77 =>
  LdM (a77.add 0) fun x78 =>
  LkK .s (BA []) (.int .i64) x78 (.int .i64 s76.2.1) fun x79 b80 =>
  IxR a6 7 s76.2.1 1 fun a81 =>
  LdS a81 fun x82 =>
  Br (!(seq x79 x82)) (
  R (false, ())) (
  L75 (s76.1, (w64 (s76.2.1 + 1)), ()))) (
  R (r1.1, ()))) (s16.1, 1, ()))) fun J73 =>
  Cl Try.prog 17 [(.pointer r3.1)] false [.sc (.i .i64)] fun r83 =>
  Br ((r83.1 : Int) != 0) (
  J73 (true, ())) (
  Cl Try.prog 20 [(.pointer r3.1)] false [.sc .sl] fun r84 =>
  J73 (((((r84.1.len : Nat) : Int) : Int) != 0), ())))) (false, 0, 0, ()))) (1, ()))) fun J4 =>
  Br (Option.isNone r3.1) (
  J4 (true, ())) (
  Br ((r3.2.1 : Int) != 0) (
  J4 (true, ())) (
  J4 ((decide ((((p_l.len : Nat) : Int) : Int) > 200)), ())))
def sumpterlaw10_CacheRule_ann : Ann := .seq .leaf (.seq .leaf (.seq .leaf (.seq .leaf (.seq .leaf (.seq (.seq (.join [(46, .sc .b)] .leaf) (.cond (.seq .leaf .leaf) .leaf)) (.seq .leaf (.seq .leaf (.seq (.seq .leaf (.block (.loop [(11, .sc (.i .i64))] (.seq (.seq .leaf (.cond .leaf .leaf)) (.seq (.block .leaf) .leaf))))) (.seq .leaf (.seq (.seq .leaf (.block (.loop [(4, .sc .b), (12, .sc (.i .i64)), (66, .sc (.i .i64))] (.seq .leaf (.seq (.cond .leaf .leaf) (.seq (.block (.seq .leaf (.seq .leaf (.seq .leaf (.seq (.join [(4, .sc .b)] (.seq .leaf (.cond (.seq (.seq .leaf (.cond (.seq .leaf .leaf) .leaf)) (.seq (.join [(4, .sc .b)] (.seq .leaf (.cond (.seq (.seq .leaf (.cond (.seq .leaf .leaf) .leaf)) (.seq .leaf .leaf)) .leaf))) (.seq (.join [(122, .sc .b)] .leaf) (.cond (.seq .leaf .leaf) .leaf)))) .leaf))) (.seq .leaf (.seq (.seq .leaf (.block (.loop [(4, .sc .b), (18, .sc (.i .u64)), (128, .sc (.i .i64))] (.seq .leaf (.seq (.cond .leaf .leaf) (.seq (.block (.seq .leaf (.seq (.join [(18, .sc (.i .u64))] (.seq .leaf (.cond .leaf .leaf))) (.seq (.join [(164, .sc .b)] .leaf) (.cond (.seq .leaf .leaf) .leaf))))) .leaf)))))) .leaf))))))) .leaf)))))) (.seq (.seq (.join [(180, .sc .b)] .leaf) (.cond (.seq .leaf .leaf) .leaf)) (.seq (.seq .leaf (.block (.loop [(4, .sc .b), (21, .sc (.i .i64))] (.seq (.seq .leaf (.cond .leaf .leaf)) (.seq (.block (.seq .leaf (.cond (.seq .leaf .leaf) .leaf))) .leaf))))) (.seq .leaf .leaf)))))))))))))
set_option maxRecDepth 100000 in
theorem sumpterlaw10_CacheRule_den (p_places : Int) (p_l : Sl) (R : TR [.sc .b] → Pr) : den Try.prog sumpterlaw10_CacheRule_ann (Try.f5.body.getD .skip) (retQ Try.prog Try.f5.results.toList false [.sc .b] R) (env0 196 [(.int .i64 p_places), (.slice p_l.p p_l.len p_l.cap)]) = sumpterlaw10_CacheRule p_places p_l R := by
  kernel_rfl
set_option maxRecDepth 100000 in
theorem sumpterlaw10_CacheRule_call (p_places : Int) (p_l : Sl) {R : TR [.sc .b] → Pr} {w : World} (h : sumpterlaw10_CacheRule p_places p_l R w) : Cl Try.prog 5 [(.int .i64 p_places), (.slice p_l.p p_l.len p_l.cap)] false [.sc .b] R w :=
  call_of (P := Try.prog) (tup := false) (rs := [.sc .b]) Try.checked.mixed sumpterlaw10_CacheRule_ann (by kernel_rfl) Try.func5 (by kernel_rfl) Try.ntmps5 (by show Try.f5.results.size = 1; kernel_rfl) (by rw [← sumpterlaw10_CacheRule_den] at h; exact h)

/-- sumpter/sumpterlaw10.live -/
abbrev i_sumpterlaw10_live : FuncId := 6
def sumpterlaw10_live  (R : TR [.sc .b] → Pr) : Pr :=
  Cl Try.prog 8 [(.int .i64 5), (.int .i64 (-1))] false [.sc .p] fun r1 =>
  Cl Try.prog 7 [(.int .i64 2), (.iface 28 (.pointer r1.1))] true [.sc .p, .sc (.i .i64)] fun r2 =>
  Jp (σ := Bool × Unit) (fun s4 =>
  Br s4.1 (
  R (false, ())) (
  Cl Try.prog 10 [(.pointer r2.1), (.int .i64 1)] true [.sc .sl, .sc (.i .i64)] fun r5 =>
  Cl Try.prog 10 [(.pointer r2.1), (.int .i64 2)] true [.sc .sl, .sc (.i .i64)] fun r6 =>
  Cl Try.prog 10 [(.pointer r2.1), (.int .i64 3)] true [.sc .sl, .sc (.i .i64)] fun r7 =>
  Cl Try.prog 9 [(.pointer r2.1), (.int .i64 1)] false [.sc (.i .i64)] fun r8 =>
  Cl Try.prog 9 [(.pointer r2.1), (.int .i64 2)] false [.sc (.i .i64)] fun r9 =>
  Cl Try.prog 15 [(.pointer r2.1), (.int .i64 1), (.slice none 0 0), (.int .u64 0)] false [.sc (.i .i64)] fun r10 =>
  Cl Try.prog 10 [(.pointer r2.1), (.int .i64 3)] true [.sc .sl, .sc (.i .i64)] fun r11 =>
  BtoS r5.1 fun s12 =>
  Br (seq s12 (BA [98])) (
  Br ((r5.2.1 : Int) == 0) (
  Br ((r7.2.1 : Int) == 100) (
  Br ((r10.1 : Int) == 5) (
  BtoS r11.1 fun s13 =>
  Br (seq s13 (BA [100])) (
  Br ((r11.2.1 : Int) == 0) (
  Cl Try.prog 11 [(.pointer r2.1), (.int .i64 1)] false [.sc .b] fun r14 =>
  Br (!r14.1) (
  Cl Try.prog 11 [(.pointer r2.1), (.int .i64 2)] false [.sc .b] fun r15 =>
  Br r15.1 (
  Cl Try.prog 11 [(.pointer r2.1), (.int .i64 3)] false [.sc .b] fun r16 =>
  R (r16.1, ())) (
  R (false, ()))) (
  R (false, ()))) (
  R (false, ()))) (
  R (false, ()))) (
  R (false, ()))) (
  R (false, ()))) (
  R (false, ()))) (
  R (false, ())))) fun J3 =>
  Br (Option.isNone r2.1) (
  J3 (true, ())) (
  J3 (((r2.2.1 : Int) != 0), ()))
def sumpterlaw10_live_ann : Ann := .seq .leaf (.seq .leaf (.seq .leaf (.seq (.seq (.join [(23, .sc .b)] .leaf) (.cond (.seq .leaf .leaf) .leaf)) (.seq .leaf (.seq .leaf (.seq .leaf (.seq .leaf (.seq .leaf (.seq .leaf (.seq .leaf (.seq .leaf .leaf)))))))))))
set_option maxRecDepth 100000 in
theorem sumpterlaw10_live_den  (R : TR [.sc .b] → Pr) : den Try.prog sumpterlaw10_live_ann (Try.f6.body.getD .skip) (retQ Try.prog Try.f6.results.toList false [.sc .b] R) (env0 84 []) = sumpterlaw10_live  R := by
  kernel_rfl
set_option maxRecDepth 100000 in
theorem sumpterlaw10_live_call  {R : TR [.sc .b] → Pr} {w : World} (h : sumpterlaw10_live  R w) : Cl Try.prog 6 [] false [.sc .b] R w :=
  call_of (P := Try.prog) (tup := false) (rs := [.sc .b]) Try.checked.mixed sumpterlaw10_live_ann (by kernel_rfl) Try.func6 (by kernel_rfl) Try.ntmps6 (by show Try.f6.results.size = 1; kernel_rfl) (by rw [← sumpterlaw10_live_den] at h; exact h)

/-- sumpter/cache.New -/
abbrev i_cache_New : FuncId := 7
def cache_New (p_places : Int) (p_b : Value) (R : TR [.sc .p, .sc (.i .i64)] → Pr) : Pr :=
  Jp (σ := Bool × Unit) (fun s2 =>
  Br s2.1 (
  R (none, 1, ())) (
  Mk 69 1 8 (zc Try.prog 69) p_places p_places fun r3 =>
  NewObj (.map #[] 0) fun m4 =>
  Req ((p_b : Value).oneCell' = true) <|
  New #[(.slice r3.p r3.len r3.cap), (.map (some m4)), (.int .i64 0), p_b] 68 fun a5 =>
  R ((some a5), 0, ()))) fun J1 =>
  Br (decide ((p_places : Int) < 1)) (
  J1 (true, ())) (
  Br (decide ((p_places : Int) > 64)) (
  J1 (true, ())) (
  NilI p_b fun b6 =>
  J1 (b6, ())))
def cache_New_ann : Ann := .seq .leaf (.seq (.seq (.join [(15, .sc .b)] .leaf) (.cond (.seq .leaf .leaf) .leaf)) (.seq .leaf .leaf))
set_option maxRecDepth 100000 in
theorem cache_New_den (p_places : Int) (p_b : Value) (R : TR [.sc .p, .sc (.i .i64)] → Pr) : den Try.prog cache_New_ann (Try.f7.body.getD .skip) (retQ Try.prog Try.f7.results.toList true [.sc .p, .sc (.i .i64)] R) (env0 22 [(.int .i64 p_places), p_b]) = cache_New p_places p_b R := by
  kernel_rfl
set_option maxRecDepth 100000 in
theorem cache_New_call (p_places : Int) (p_b : Value) {R : TR [.sc .p, .sc (.i .i64)] → Pr} {w : World} (h : cache_New p_places p_b R w) : Cl Try.prog 7 [(.int .i64 p_places), p_b] true [.sc .p, .sc (.i .i64)] R w :=
  call_of (P := Try.prog) (tup := true) (rs := [.sc .p, .sc (.i .i64)]) Try.checked.mixed cache_New_ann (by kernel_rfl) Try.func7 (by kernel_rfl) Try.ntmps7 (by show Nat.beq Try.f7.results.size 1 = false; kernel_rfl) (by rw [← cache_New_den] at h; exact h)

/-- sumpter/sumpterref10.NewBack -/
abbrev i_sumpterref10_NewBack : FuncId := 8
def sumpterref10_NewBack (p_n : Int) (p_left : Int) (R : TR [.sc .p] → Pr) : Pr :=
  NewObj (.map #[] 0) fun m1 =>
  New #[(.map (some m1)), (.int .u64 0), (.slice none 0 0), (.int .i64 p_left)] 51 fun a2 =>
  Lp (σ := Int × Unit) (fun L3 s4 =>
  Br (decide ((s4.1 : Int) ≤ p_n)) (
  Dr <|
  LdM (a2.add 0) fun x5 =>
  New #[(.int .u8 (IntKind.u8.wrap ((w64 (97 + s4.1)))))] 5 fun a6 =>
  Both (LdM (a2.add 0) fun x7 =>
  fun _ => ((.map x7) : Value) = (.map x5)) <|
  BtoS ⟨(some a6), 1, 1⟩ fun s8 =>
  MSet (.int .i64) x5 (.int .i64 s4.1) (.string s8) <|
  L3 ((w64 (s4.1 + 1)), ())) (
  R ((some a2), ()))) (1, ())
def sumpterref10_NewBack_ann : Ann := .seq .leaf (.seq .leaf (.seq (.seq .leaf (.block (.loop [(6, .sc (.i .i64))] (.seq (.seq .leaf (.cond .leaf .leaf)) (.seq (.block .leaf) .leaf))))) (.seq .leaf .leaf)))
set_option maxRecDepth 100000 in
theorem sumpterref10_NewBack_den (p_n : Int) (p_left : Int) (R : TR [.sc .p] → Pr) : den Try.prog sumpterref10_NewBack_ann (Try.f8.body.getD .skip) (retQ Try.prog Try.f8.results.toList false [.sc .p] R) (env0 27 [(.int .i64 p_n), (.int .i64 p_left)]) = sumpterref10_NewBack p_n p_left R := by
  kernel_rfl
set_option maxRecDepth 100000 in
theorem sumpterref10_NewBack_call (p_n : Int) (p_left : Int) {R : TR [.sc .p] → Pr} {w : World} (h : sumpterref10_NewBack p_n p_left R w) : Cl Try.prog 8 [(.int .i64 p_n), (.int .i64 p_left)] false [.sc .p] R w :=
  call_of (P := Try.prog) (tup := false) (rs := [.sc .p]) Try.checked.mixed sumpterref10_NewBack_ann (by kernel_rfl) Try.func8 (by kernel_rfl) Try.ntmps8 (by show Try.f8.results.size = 1; kernel_rfl) (by rw [← sumpterref10_NewBack_den] at h; exact h)

/-- (*sumpter/cache.Cache).Unpin -/
abbrev i_cache_Cache_Unpin : FuncId := 9
def cache_Cache_Unpin (p_c : Option Addr) (p_id : Int) (R : TR [.sc (.i .i64)] → Pr) : Pr :=
  Cl Try.prog 21 [(.pointer p_c), (.int .i64 p_id)] true [.sc .p, .sc .b] fun r1 =>
  Jp (σ := Bool × Unit) (fun s3 =>
  Br s3.1 (
  R (5, ())) (
  Nn r1.1 fun a4 =>
  LdI .i64 (a4.add 1) fun x5 =>
  Nn r1.1 fun a6 =>
  St (a6.add 1) (.int .i64 (w64 (x5 - 1))) <|
  R (0, ()))) fun J2 =>
  Br (!r1.2.1) (
  J2 (true, ())) (
  Nn r1.1 fun a7 =>
  LdI .i64 (a7.add 1) fun x8 =>
  J2 (((x8 : Int) == 0), ()))
def cache_Cache_Unpin_ann : Ann := .seq .leaf (.seq .leaf (.seq (.seq (.join [(21, .sc .b)] .leaf) (.cond (.seq .leaf .leaf) .leaf)) (.seq .leaf (.seq .leaf .leaf))))
set_option maxRecDepth 100000 in
theorem cache_Cache_Unpin_den (p_c : Option Addr) (p_id : Int) (R : TR [.sc (.i .i64)] → Pr) : den Try.prog cache_Cache_Unpin_ann (Try.f9.body.getD .skip) (retQ Try.prog Try.f9.results.toList false [.sc (.i .i64)] R) (env0 29 [(.pointer p_c), (.int .i64 p_id)]) = cache_Cache_Unpin p_c p_id R := by
  kernel_rfl
set_option maxRecDepth 100000 in
theorem cache_Cache_Unpin_call (p_c : Option Addr) (p_id : Int) {R : TR [.sc (.i .i64)] → Pr} {w : World} (h : cache_Cache_Unpin p_c p_id R w) : Cl Try.prog 9 [(.pointer p_c), (.int .i64 p_id)] false [.sc (.i .i64)] R w :=
  call_of (P := Try.prog) (tup := false) (rs := [.sc (.i .i64)]) Try.checked.mixed cache_Cache_Unpin_ann (by kernel_rfl) Try.func9 (by kernel_rfl) Try.ntmps9 (by show Try.f9.results.size = 1; kernel_rfl) (by rw [← cache_Cache_Unpin_den] at h; exact h)

/-- (*sumpter/cache.Cache).Pin -/
abbrev i_cache_Cache_Pin : FuncId := 10
def cache_Cache_Pin (p_c : Option Addr) (p_id : Int) (R : TR [.sc .sl, .sc (.i .i64)] → Pr) : Pr :=
  Cl Try.prog 21 [(.pointer p_c), (.int .i64 p_id)] true [.sc .p, .sc .b] fun r1 =>
  Br r1.2.1 (
  Nn r1.1 fun a2 =>
  LdI .i64 (a2.add 1) fun x3 =>
  Nn r1.1 fun a4 =>
  St (a4.add 1) (.int .i64 (w64 (x3 + 1))) <|
  Nn r1.1 fun a5 =>
  St (a5.add 3) (.bool true) <|
  Nn r1.1 fun a6 =>
  LdL (a6.add 2) fun x7 =>
  Cl Try.prog 22 [(.slice x7.p x7.len x7.cap)] false [.sc .sl] fun r8 =>
  R (r8.1, 0, ())) (
  Cl Try.prog 23 [(.pointer p_c)] true [.sc (.i .i64), .sc (.i .i64)] fun r9 =>
  Br ((r9.2.1 : Int) != 0) (
  R (⟨none, 0, 0⟩, r9.2.1, ())) (
  Nn p_c fun a10 =>
  LdV (a10.add 3) fun x11 =>
  Inv Try.prog x11 "Load" [(.int .i64 p_id)] true [.sc .sl, .sc (.i .i64)] fun r12 =>
  Br ((r12.2.1 : Int) != 0) (
  R (⟨none, 0, 0⟩, r12.2.1, ())) (
  Dr <|
  Nn p_c fun a13 =>
  LdL (a13.add 0) fun x14 =>
  Nn p_c fun a15 =>
  LdM (a15.add 1) fun x16 =>
  Cl Try.prog 22 [(.slice r12.1.p r12.1.len r12.1.cap)] false [.sc .sl] fun r17 =>
  Both (LdM (a15.add 1) fun x18 =>
  fun _ => ((.map x18) : Value) = (.map x16)) <|
  Both (LdL (a13.add 0) fun x19 =>
  fun _ => ((.slice x19.p x19.len x19.cap) : Value) = (.slice x14.p x14.len x14.cap)) <|
  New #[(.int .i64 p_id), (.int .i64 1), (.slice r17.1.p r17.1.len r17.1.cap), (.bool true), (.bool false), (.int .u64 0)] 73 fun a20 =>
  Both (LdM (a15.add 1) fun x21 =>
  fun _ => ((.map x21) : Value) = (.map x16)) <|
  Both (LdL (a13.add 0) fun x22 =>
  fun _ => ((.slice x22.p x22.len x22.cap) : Value) = (.slice x14.p x14.len x14.cap)) <|
  Ix x14 r9.1 1 fun a23 =>
  St a23 (.pointer (some a20)) <|
  MEnt (.int .i64) x16 (.int .i64 p_id) (.int .i64 0) fun v24 v25 =>
  MPut x16 v25 (.int .i64 r9.1) <|
  Cl Try.prog 22 [(.slice r12.1.p r12.1.len r12.1.cap)] false [.sc .sl] fun r26 =>
  R (r26.1, 0, ()))))
def cache_Cache_Pin_ann : Ann := .seq .leaf (.seq (.seq .leaf (.seq .leaf (.cond (.seq .leaf (.seq .leaf (.seq .leaf .leaf))) .leaf))) (.seq .leaf (.seq (.seq .leaf (.cond (.seq .leaf .leaf) .leaf)) (.seq .leaf (.seq (.seq .leaf (.cond (.seq .leaf .leaf) .leaf)) (.seq .leaf (.seq .leaf .leaf)))))))
set_option maxRecDepth 100000 in
theorem cache_Cache_Pin_den (p_c : Option Addr) (p_id : Int) (R : TR [.sc .sl, .sc (.i .i64)] → Pr) : den Try.prog cache_Cache_Pin_ann (Try.f10.body.getD .skip) (retQ Try.prog Try.f10.results.toList true [.sc .sl, .sc (.i .i64)] R) (env0 74 [(.pointer p_c), (.int .i64 p_id)]) = cache_Cache_Pin p_c p_id R := by
  kernel_rfl
set_option maxRecDepth 100000 in
theorem cache_Cache_Pin_call (p_c : Option Addr) (p_id : Int) {R : TR [.sc .sl, .sc (.i .i64)] → Pr} {w : World} (h : cache_Cache_Pin p_c p_id R w) : Cl Try.prog 10 [(.pointer p_c), (.int .i64 p_id)] true [.sc .sl, .sc (.i .i64)] R w :=
  call_of (P := Try.prog) (tup := true) (rs := [.sc .sl, .sc (.i .i64)]) Try.checked.mixed cache_Cache_Pin_ann (by kernel_rfl) Try.func10 (by kernel_rfl) Try.ntmps10 (by show Nat.beq Try.f10.results.size 1 = false; kernel_rfl) (by rw [← cache_Cache_Pin_den] at h; exact h)

/-- (*sumpter/cache.Cache).Has -/
abbrev i_cache_Cache_Has : FuncId := 11
def cache_Cache_Has (p_c : Option Addr) (p_id : Int) (R : TR [.sc .b] → Pr) : Pr :=
  Cl Try.prog 21 [(.pointer p_c), (.int .i64 p_id)] true [.sc .p, .sc .b] fun r1 =>
  R (r1.2.1, ())
def cache_Cache_Has_ann : Ann := .seq .leaf (.seq .leaf (.seq .leaf .leaf))
set_option maxRecDepth 100000 in
theorem cache_Cache_Has_den (p_c : Option Addr) (p_id : Int) (R : TR [.sc .b] → Pr) : den Try.prog cache_Cache_Has_ann (Try.f11.body.getD .skip) (retQ Try.prog Try.f11.results.toList false [.sc .b] R) (env0 14 [(.pointer p_c), (.int .i64 p_id)]) = cache_Cache_Has p_c p_id R := by
  kernel_rfl
set_option maxRecDepth 100000 in
theorem cache_Cache_Has_call (p_c : Option Addr) (p_id : Int) {R : TR [.sc .b] → Pr} {w : World} (h : cache_Cache_Has p_c p_id R w) : Cl Try.prog 11 [(.pointer p_c), (.int .i64 p_id)] false [.sc .b] R w :=
  call_of (P := Try.prog) (tup := false) (rs := [.sc .b]) Try.checked.mixed cache_Cache_Has_ann (by kernel_rfl) Try.func11 (by kernel_rfl) Try.ntmps11 (by show Try.f11.results.size = 1; kernel_rfl) (by rw [← cache_Cache_Has_den] at h; exact h)

/-- sumpter/sumpterref10.New -/
abbrev i_sumpterref10_New : FuncId := 12
def sumpterref10_New (p_places : Int) (p_b : Option Addr) (R : TR [.sc .p, .sc (.i .i64)] → Pr) : Pr :=
  Jp (σ := Bool × Unit) (fun s2 =>
  Br s2.1 (
  R (none, 1, ())) (
  Mk 79 7 56 (zc Try.prog 79) p_places p_places fun r3 =>
  New #[(.slice r3.p r3.len r3.cap), (.int .i64 0), (.pointer p_b)] 54 fun a4 =>
  R ((some a4), 0, ()))) fun J1 =>
  Br (decide ((p_places : Int) < 1)) (
  J1 (true, ())) (
  J1 ((decide ((p_places : Int) > 64)), ()))
def sumpterref10_New_ann : Ann := .seq .leaf (.seq (.seq (.join [(11, .sc .b)] .leaf) (.cond (.seq .leaf .leaf) .leaf)) (.seq .leaf .leaf))
set_option maxRecDepth 100000 in
theorem sumpterref10_New_den (p_places : Int) (p_b : Option Addr) (R : TR [.sc .p, .sc (.i .i64)] → Pr) : den Try.prog sumpterref10_New_ann (Try.f12.body.getD .skip) (retQ Try.prog Try.f12.results.toList true [.sc .p, .sc (.i .i64)] R) (env0 17 [(.int .i64 p_places), (.pointer p_b)]) = sumpterref10_New p_places p_b R := by
  kernel_rfl
set_option maxRecDepth 100000 in
theorem sumpterref10_New_call (p_places : Int) (p_b : Option Addr) {R : TR [.sc .p, .sc (.i .i64)] → Pr} {w : World} (h : sumpterref10_New p_places p_b R w) : Cl Try.prog 12 [(.int .i64 p_places), (.pointer p_b)] true [.sc .p, .sc (.i .i64)] R w :=
  call_of (P := Try.prog) (tup := true) (rs := [.sc .p, .sc (.i .i64)]) Try.checked.mixed sumpterref10_New_ann (by kernel_rfl) Try.func12 (by kernel_rfl) Try.ntmps12 (by show Nat.beq Try.f12.results.size 1 = false; kernel_rfl) (by rw [← sumpterref10_New_den] at h; exact h)

/-- (*sumpter/sumpterref10.Cache).Pin -/
abbrev i_sumpterref10_Cache_Pin : FuncId := 13
def sumpterref10_Cache_Pin (p_c : Option Addr) (p_id : Int) (R : TR [.sc .s, .sc (.i .i64)] → Pr) : Pr :=
  Cl Try.prog 24 [(.pointer p_c), (.int .i64 p_id)] false [.sc (.i .i64)] fun r1 =>
  Br (decide ((r1.1 : Int) ≥ 0)) (
  Nn p_c fun a2 =>
  LdL (a2.add 0) fun x3 =>
  Ix x3 r1.1 7 fun a4 =>
  LdI .i64 (a4.add 2) fun x5 =>
  Ix x3 r1.1 7 fun a6 =>
  St (a6.add 2) (.int .i64 (w64 (x5 + 1))) <|
  Nn p_c fun a7 =>
  LdL (a7.add 0) fun x8 =>
  Ix x8 r1.1 7 fun a9 =>
  St (a9.add 4) (.bool true) <|
  Nn p_c fun a10 =>
  LdL (a10.add 0) fun x11 =>
  Ix x11 r1.1 7 fun a12 =>
  LdS (a12.add 3) fun x13 =>
  R (x13, 0, ())) (
  Cl Try.prog 25 [(.pointer p_c)] true [.sc (.i .i64), .sc (.i .i64)] fun r14 =>
  Br ((r14.2.1 : Int) != 0) (
  R ((BA []), r14.2.1, ())) (
  Nn p_c fun a15 =>
  LdP (a15.add 2) fun x16 =>
  Cl Try.prog 26 [(.pointer x16), (.int .i64 p_id)] true [.sc .sl, .sc (.i .i64)] fun r17 =>
  Br ((r17.2.1 : Int) != 0) (
  R ((BA []), r17.2.1, ())) (
  Dr <|
  Nn p_c fun a18 =>
  LdL (a18.add 0) fun x19 =>
  BtoS r17.1 fun s20 =>
  Ix x19 r14.1 7 fun a21 =>
  St (a21.add 0) (.bool true) <|
  St (a21.add 1) (.int .i64 p_id) <|
  St (a21.add 2) (.int .i64 1) <|
  St (a21.add 3) (.string s20) <|
  St (a21.add 4) (.bool true) <|
  St (a21.add 5) (.bool false) <|
  St (a21.add 6) (.int .u64 0) <|
  BtoS r17.1 fun s22 =>
  R (s22, 0, ()))))
def sumpterref10_Cache_Pin_ann : Ann := .seq .leaf (.seq .leaf (.seq (.seq .leaf (.cond (.seq .leaf (.seq .leaf (.seq .leaf .leaf))) .leaf)) (.seq .leaf (.seq (.seq .leaf (.cond (.seq .leaf .leaf) .leaf)) (.seq .leaf (.seq (.seq .leaf (.cond (.seq .leaf .leaf) .leaf)) (.seq .leaf (.seq .leaf .leaf))))))))
set_option maxRecDepth 100000 in
theorem sumpterref10_Cache_Pin_den (p_c : Option Addr) (p_id : Int) (R : TR [.sc .s, .sc (.i .i64)] → Pr) : den Try.prog sumpterref10_Cache_Pin_ann (Try.f13.body.getD .skip) (retQ Try.prog Try.f13.results.toList true [.sc .s, .sc (.i .i64)] R) (env0 72 [(.pointer p_c), (.int .i64 p_id)]) = sumpterref10_Cache_Pin p_c p_id R := by
  kernel_rfl
set_option maxRecDepth 100000 in
theorem sumpterref10_Cache_Pin_call (p_c : Option Addr) (p_id : Int) {R : TR [.sc .s, .sc (.i .i64)] → Pr} {w : World} (h : sumpterref10_Cache_Pin p_c p_id R w) : Cl Try.prog 13 [(.pointer p_c), (.int .i64 p_id)] true [.sc .s, .sc (.i .i64)] R w :=
  call_of (P := Try.prog) (tup := true) (rs := [.sc .s, .sc (.i .i64)]) Try.checked.mixed sumpterref10_Cache_Pin_ann (by kernel_rfl) Try.func13 (by kernel_rfl) Try.ntmps13 (by show Nat.beq Try.f13.results.size 1 = false; kernel_rfl) (by rw [← sumpterref10_Cache_Pin_den] at h; exact h)

/-- (*sumpter/sumpterref10.Cache).Unpin -/
abbrev i_sumpterref10_Cache_Unpin : FuncId := 14
def sumpterref10_Cache_Unpin (p_c : Option Addr) (p_id : Int) (R : TR [.sc (.i .i64)] → Pr) : Pr :=
  Cl Try.prog 24 [(.pointer p_c), (.int .i64 p_id)] false [.sc (.i .i64)] fun r1 =>
  Jp (σ := Bool × Unit) (fun s3 =>
  Br s3.1 (
  R (5, ())) (
  Nn p_c fun a4 =>
  LdL (a4.add 0) fun x5 =>
  Ix x5 r1.1 7 fun a6 =>
  LdI .i64 (a6.add 2) fun x7 =>
  Ix x5 r1.1 7 fun a8 =>
  St (a8.add 2) (.int .i64 (w64 (x7 - 1))) <|
  R (0, ()))) fun J2 =>
  Br (decide ((r1.1 : Int) < 0)) (
  J2 (true, ())) (
  Nn p_c fun a9 =>
  LdL (a9.add 0) fun x10 =>
  Ix x10 r1.1 7 fun a11 =>
  LdI .i64 (a11.add 2) fun x12 =>
  J2 (((x12 : Int) == 0), ()))
def sumpterref10_Cache_Unpin_ann : Ann := .seq .leaf (.seq .leaf (.seq (.seq (.join [(21, .sc .b)] .leaf) (.cond (.seq .leaf .leaf) .leaf)) (.seq .leaf (.seq .leaf .leaf))))
set_option maxRecDepth 100000 in
theorem sumpterref10_Cache_Unpin_den (p_c : Option Addr) (p_id : Int) (R : TR [.sc (.i .i64)] → Pr) : den Try.prog sumpterref10_Cache_Unpin_ann (Try.f14.body.getD .skip) (retQ Try.prog Try.f14.results.toList false [.sc (.i .i64)] R) (env0 33 [(.pointer p_c), (.int .i64 p_id)]) = sumpterref10_Cache_Unpin p_c p_id R := by
  kernel_rfl
set_option maxRecDepth 100000 in
theorem sumpterref10_Cache_Unpin_call (p_c : Option Addr) (p_id : Int) {R : TR [.sc (.i .i64)] → Pr} {w : World} (h : sumpterref10_Cache_Unpin p_c p_id R w) : Cl Try.prog 14 [(.pointer p_c), (.int .i64 p_id)] false [.sc (.i .i64)] R w :=
  call_of (P := Try.prog) (tup := false) (rs := [.sc (.i .i64)]) Try.checked.mixed sumpterref10_Cache_Unpin_ann (by kernel_rfl) Try.func14 (by kernel_rfl) Try.ntmps14 (by show Try.f14.results.size = 1; kernel_rfl) (by rw [← sumpterref10_Cache_Unpin_den] at h; exact h)

/-- (*sumpter/cache.Cache).Put -/
abbrev i_cache_Cache_Put : FuncId := 15
def cache_Cache_Put (p_c : Option Addr) (p_id : Int) (p_b : Sl) (p_lsn : Int) (R : TR [.sc (.i .i64)] → Pr) : Pr :=
  Cl Try.prog 21 [(.pointer p_c), (.int .i64 p_id)] true [.sc .p, .sc .b] fun r1 =>
  Jp (σ := Bool × Unit) (fun s3 =>
  Br s3.1 (
  R (5, ())) (
  Jp (σ := Unit) (fun s5 =>
  Dr <|
  Nn r1.1 fun a6 =>
  LdI .u64 (a6.add 5) fun x7 =>
  Cl Try.prog 22 [(.slice p_b.p p_b.len p_b.cap)] false [.sc .sl] fun r8 =>
  Both (LdI .u64 (a6.add 5) fun x9 =>
  fun _ => ((.int .u64 x9) : Value) = (.int .u64 x7)) <|
  Nn r1.1 fun a10 =>
  St (a10.add 2) (.slice r8.1.p r8.1.len r8.1.cap) <|
  Nn r1.1 fun a11 =>
  St (a11.add 4) (.bool true) <|
  Nn r1.1 fun a12 =>
  St (a12.add 3) (.bool true) <|
  Nn r1.1 fun a13 =>
  St (a13.add 5) (.int .u64 (if (p_lsn : Int) > x7 then p_lsn else x7)) <|
  R (0, ())) fun J4 =>
  Nn r1.1 fun a14 =>
  LdB (a14.add 4) fun x15 =>
  Br (!x15) (
  Nn r1.1 fun a16 =>
  St (a16.add 5) (.int .u64 0) <|
  J4 ()) (
  J4 ()))) fun J2 =>
  Br (!r1.2.1) (
  J2 (true, ())) (
  Nn r1.1 fun a17 =>
  LdI .i64 (a17.add 1) fun x18 =>
  J2 (((x18 : Int) == 0), ()))
def cache_Cache_Put_ann : Ann := .seq .leaf (.seq .leaf (.seq (.seq (.join [(25, .sc .b)] .leaf) (.cond (.seq .leaf .leaf) .leaf)) (.seq (.join [] (.seq .leaf (.cond .leaf .leaf))) (.seq .leaf (.seq .leaf .leaf)))))
set_option maxRecDepth 100000 in
theorem cache_Cache_Put_den (p_c : Option Addr) (p_id : Int) (p_b : Sl) (p_lsn : Int) (R : TR [.sc (.i .i64)] → Pr) : den Try.prog cache_Cache_Put_ann (Try.f15.body.getD .skip) (retQ Try.prog Try.f15.results.toList false [.sc (.i .i64)] R) (env0 54 [(.pointer p_c), (.int .i64 p_id), (.slice p_b.p p_b.len p_b.cap), (.int .u64 p_lsn)]) = cache_Cache_Put p_c p_id p_b p_lsn R := by
  kernel_rfl
set_option maxRecDepth 100000 in
theorem cache_Cache_Put_call (p_c : Option Addr) (p_id : Int) (p_b : Sl) (p_lsn : Int) {R : TR [.sc (.i .i64)] → Pr} {w : World} (h : cache_Cache_Put p_c p_id p_b p_lsn R w) : Cl Try.prog 15 [(.pointer p_c), (.int .i64 p_id), (.slice p_b.p p_b.len p_b.cap), (.int .u64 p_lsn)] false [.sc (.i .i64)] R w :=
  call_of (P := Try.prog) (tup := false) (rs := [.sc (.i .i64)]) Try.checked.mixed cache_Cache_Put_ann (by kernel_rfl) Try.func15 (by kernel_rfl) Try.ntmps15 (by show Try.f15.results.size = 1; kernel_rfl) (by rw [← cache_Cache_Put_den] at h; exact h)

/-- (*sumpter/sumpterref10.Cache).Put -/
abbrev i_sumpterref10_Cache_Put : FuncId := 16
def sumpterref10_Cache_Put (p_c : Option Addr) (p_id : Int) (p_b : ByteArray) (p_lsn : Int) (R : TR [.sc (.i .i64)] → Pr) : Pr :=
  Cl Try.prog 24 [(.pointer p_c), (.int .i64 p_id)] false [.sc (.i .i64)] fun r1 =>
  Jp (σ := Bool × Unit) (fun s3 =>
  Br s3.1 (
  R (5, ())) (
  Nn p_c fun a4 =>
  LdL (a4.add 0) fun x5 =>
  Ix x5 r1.1 7 fun a6 =>
  Jp (σ := Int × Unit) (fun s8 =>
  St (a6.add 3) (.string p_b) <|
  St (a6.add 5) (.bool true) <|
  St (a6.add 4) (.bool true) <|
  St (a6.add 6) (.int .u64 s8.1) <|
  R (0, ())) fun J7 =>
  LdB (a6.add 5) fun x9 =>
  Br x9 (
  LdI .u64 (a6.add 6) fun x10 =>
  J7 ((if (x10 : Int) > p_lsn then x10 else p_lsn), ())) (
  J7 (p_lsn, ())))) fun J2 =>
  Br (decide ((r1.1 : Int) < 0)) (
  J2 (true, ())) (
  Nn p_c fun a11 =>
  LdL (a11.add 0) fun x12 =>
  Ix x12 r1.1 7 fun a13 =>
  LdI .i64 (a13.add 2) fun x14 =>
  J2 (((x14 : Int) == 0), ()))
def sumpterref10_Cache_Put_ann : Ann := .seq .leaf (.seq .leaf (.seq (.seq (.join [(26, .sc .b)] .leaf) (.cond (.seq .leaf .leaf) .leaf)) (.seq .leaf (.seq (.join [(3, .sc (.i .u64))] (.seq .leaf (.cond .leaf .leaf))) (.seq .leaf (.seq .leaf (.seq .leaf (.seq .leaf (.seq .leaf .leaf)))))))))
set_option maxRecDepth 100000 in
theorem sumpterref10_Cache_Put_den (p_c : Option Addr) (p_id : Int) (p_b : ByteArray) (p_lsn : Int) (R : TR [.sc (.i .i64)] → Pr) : den Try.prog sumpterref10_Cache_Put_ann (Try.f16.body.getD .skip) (retQ Try.prog Try.f16.results.toList false [.sc (.i .i64)] R) (env0 57 [(.pointer p_c), (.int .i64 p_id), (.string p_b), (.int .u64 p_lsn)]) = sumpterref10_Cache_Put p_c p_id p_b p_lsn R := by
  kernel_rfl
set_option maxRecDepth 100000 in
theorem sumpterref10_Cache_Put_call (p_c : Option Addr) (p_id : Int) (p_b : ByteArray) (p_lsn : Int) {R : TR [.sc (.i .i64)] → Pr} {w : World} (h : sumpterref10_Cache_Put p_c p_id p_b p_lsn R w) : Cl Try.prog 16 [(.pointer p_c), (.int .i64 p_id), (.string p_b), (.int .u64 p_lsn)] false [.sc (.i .i64)] R w :=
  call_of (P := Try.prog) (tup := false) (rs := [.sc (.i .i64)]) Try.checked.mixed sumpterref10_Cache_Put_ann (by kernel_rfl) Try.func16 (by kernel_rfl) Try.ntmps16 (by show Try.f16.results.size = 1; kernel_rfl) (by rw [← sumpterref10_Cache_Put_den] at h; exact h)

/-- (*sumpter/cache.Cache).Flush -/
abbrev i_cache_Cache_Flush : FuncId := 17
def cache_Cache_Flush (p_c : Option Addr) (R : TR [.sc (.i .i64)] → Pr) : Pr :=
  Nn p_c fun a1 =>
  LdL (a1.add 0) fun x2 =>
  Lp (σ := Int × Int × Unit) (fun L3 s4 =>
  Br (decide ((s4.2.1 : Int) < ((x2.len : Nat) : Int))) (
  Ix x2 s4.2.1 1 fun a5 =>
  LdP a5 fun x6 =>
  Cl Try.prog 27 [(.pointer p_c), (.pointer x6)] false [.sc (.i .i64)] fun r7 =>
  Br ((r7.1 : Int) != 0) (
  R (r7.1, ())) (
  L3 (s4.1, (w64 (s4.2.1 + 1)), ()))) (
  R (0, ()))) (0, 0, ())
def cache_Cache_Flush_ann : Ann := .seq .leaf (.seq (.seq .leaf (.block (.loop [(2, .sc (.i .i64)), (11, .sc (.i .i64))] (.seq .leaf (.seq (.cond .leaf .leaf) (.seq (.block (.seq .leaf (.seq .leaf (.seq .leaf (.cond (.seq .leaf .leaf) .leaf))))) .leaf)))))) (.seq .leaf .leaf))
set_option maxRecDepth 100000 in
theorem cache_Cache_Flush_den (p_c : Option Addr) (R : TR [.sc (.i .i64)] → Pr) : den Try.prog cache_Cache_Flush_ann (Try.f17.body.getD .skip) (retQ Try.prog Try.f17.results.toList false [.sc (.i .i64)] R) (env0 22 [(.pointer p_c)]) = cache_Cache_Flush p_c R := by
  kernel_rfl
set_option maxRecDepth 100000 in
theorem cache_Cache_Flush_call (p_c : Option Addr) {R : TR [.sc (.i .i64)] → Pr} {w : World} (h : cache_Cache_Flush p_c R w) : Cl Try.prog 17 [(.pointer p_c)] false [.sc (.i .i64)] R w :=
  call_of (P := Try.prog) (tup := false) (rs := [.sc (.i .i64)]) Try.checked.mixed cache_Cache_Flush_ann (by kernel_rfl) Try.func17 (by kernel_rfl) Try.ntmps17 (by show Try.f17.results.size = 1; kernel_rfl) (by rw [← cache_Cache_Flush_den] at h; exact h)

/-- (*sumpter/sumpterref10.Cache).Flush -/
abbrev i_sumpterref10_Cache_Flush : FuncId := 18
def sumpterref10_Cache_Flush (p_c : Option Addr) (R : TR [.sc (.i .i64)] → Pr) : Pr :=
  Nn p_c fun a1 =>
  LdL (a1.add 0) fun x2 =>
  Lp (σ := Int × Int × Unit) (fun L3 s4 =>
  Br (decide ((s4.2.1 : Int) < ((x2.len : Nat) : Int))) (
  Cl Try.prog 28 [(.pointer p_c), (.int .i64 s4.2.1)] false [.sc (.i .i64)] fun r5 =>
  Br ((r5.1 : Int) != 0) (
  R (r5.1, ())) (
  L3 (s4.1, (w64 (s4.2.1 + 1)), ()))) (
  R (0, ()))) (0, 0, ())
def sumpterref10_Cache_Flush_ann : Ann := .seq .leaf (.seq (.seq .leaf (.block (.loop [(2, .sc (.i .i64)), (10, .sc (.i .i64))] (.seq .leaf (.seq (.cond .leaf .leaf) (.seq (.block (.seq .leaf (.seq .leaf (.seq .leaf (.cond (.seq .leaf .leaf) .leaf))))) .leaf)))))) (.seq .leaf .leaf))
set_option maxRecDepth 100000 in
theorem sumpterref10_Cache_Flush_den (p_c : Option Addr) (R : TR [.sc (.i .i64)] → Pr) : den Try.prog sumpterref10_Cache_Flush_ann (Try.f18.body.getD .skip) (retQ Try.prog Try.f18.results.toList false [.sc (.i .i64)] R) (env0 20 [(.pointer p_c)]) = sumpterref10_Cache_Flush p_c R := by
  kernel_rfl
set_option maxRecDepth 100000 in
theorem sumpterref10_Cache_Flush_call (p_c : Option Addr) {R : TR [.sc (.i .i64)] → Pr} {w : World} (h : sumpterref10_Cache_Flush p_c R w) : Cl Try.prog 18 [(.pointer p_c)] false [.sc (.i .i64)] R w :=
  call_of (P := Try.prog) (tup := false) (rs := [.sc (.i .i64)]) Try.checked.mixed sumpterref10_Cache_Flush_ann (by kernel_rfl) Try.func18 (by kernel_rfl) Try.ntmps18 (by show Try.f18.results.size = 1; kernel_rfl) (by rw [← sumpterref10_Cache_Flush_den] at h; exact h)

/-- sumpter/sumpterlaw10.same -/
abbrev i_sumpterlaw10_same : FuncId := 19
def sumpterlaw10_same (p_c : Option Addr) (p_b : Option Addr) (p_x : Option Addr) (R : TR [.sc .b] → Pr) : Pr :=
  Cl Try.prog 20 [(.pointer p_c)] false [.sc .sl] fun r1 =>
  Cl Try.prog 29 [(.pointer p_x)] false [.sc .sl] fun r2 =>
  Jp (σ := Bool × Unit) (fun s4 =>
  Br s4.1 (
  R (false, ())) (
  Lp (σ := Bool × Int × Unit) (fun L5 s6 =>
  Br (decide ((s6.2.1 : Int) < ((r1.1.len : Nat) : Int))) (
  Dr <|
  Ix r1.1 s6.2.1 1 fun a7 =>
  LdI .i64 a7 fun x8 =>
  Ix r2.1 s6.2.1 1 fun a9 =>
  LdI .i64 a9 fun x10 =>
  Br ((x8 : Int) != x10) (
  R (false, ())) (
  Ix r1.1 s6.2.1 1 fun a11 =>
  St a11 (.int .i64 (-7)) <|
  L5 (s6.1, (w64 (s6.2.1 + 1)), ()))) (
  Nn p_b fun a12 =>
  LdL (a12.add 2) fun x13 =>
  Lp (σ := Bool × Int × Unit) (fun L14 s15 =>
  Br (decide ((s15.2.1 : Int) < ((x13.len : Nat) : Int))) (
  Dr <|
  Nn p_b fun a16 =>
  LdL (a16.add 2) fun x17 =>
  Ix x17 s15.2.1 4 fun a18 =>
  LdI .i64 (a18.add 0) fun x19 =>
  LdI .i64 (a18.add 1) fun x20 =>
  LdI .u64 (a18.add 2) fun x21 =>
  LdS (a18.add 3) fun x22 =>
  Nn p_x fun a23 =>
  LdP (a23.add 2) fun x24 =>
  Nn x24 fun a25 =>
  LdL (a25.add 2) fun x26 =>
  Ix x26 s15.2.1 4 fun a27 =>
  LdI .i64 (a27.add 0) fun x28 =>
  LdI .i64 (a27.add 1) fun x29 =>
  LdI .u64 (a27.add 2) fun x30 =>
  LdS (a27.add 3) fun x31 =>
  Br (!(((x19 : Int) == x28) && (((x20 : Int) == x29) && (((x21 : Int) == x30) && ((seq x22 x31) && true))))) (
  R (false, ())) (
  L14 (s15.1, (w64 (s15.2.1 + 1)), ()))) (
  Lp (σ := Bool × Int × Unit) (fun L32 s33 =>
  Br (decide ((s33.2.1 : Int) ≤ 9)) (
  Nn p_x fun a34 =>
  LdL (a34.add 0) fun x35 =>
  Lp (σ := Bool × Int × Unit) (fun L36 s37 =>
  Br (decide ((s37.2.1 : Int) < ((x35.len : Nat) : Int))) (
  Jp (σ := Bool × Unit) (fun s39 =>
  L36 (s39.1, (w64 (s37.2.1 + 1)), ())) fun J38 =>
  Ix x35 s37.2.1 7 fun a40 =>
  LdB (a40.add 0) fun x41 =>
  LdI .i64 (a40.add 1) fun x42 =>
  LdI .i64 (a40.add 2) fun x43 =>
  LdS (a40.add 3) fun x44 =>
  LdB (a40.add 4) fun x45 =>
  LdB (a40.add 5) fun x46 =>
  LdI .u64 (a40.add 6) fun x47 =>
  New #[(.bool false), (.int .i64 0), (.int .i64 0), (.string (BA [])), (.bool false), (.bool false), (.int .u64 0)] 79 fun a48 =>
  St (a48.add 0) (.bool x41) <|
  St (a48.add 1) (.int .i64 x42) <|
  St (a48.add 2) (.int .i64 x43) <|
  St (a48.add 3) (.string x44) <|
  St (a48.add 4) (.bool x45) <|
  St (a48.add 5) (.bool x46) <|
  St (a48.add 6) (.int .u64 x47) <|
  Br s37.1 (
  J38 (true, ())) (
  LdB (a48.add 0) fun x49 =>
  Br x49 (
  LdI .i64 (a48.add 1) fun x50 =>
  J38 (((x50 : Int) == s33.2.1), ())) (
  J38 (false, ())))) (
  Cl Try.prog 11 [(.pointer p_c), (.int .i64 s33.2.1)] false [.sc .b] fun r51 =>
  Br (!(r51.1 == s37.1)) (
  R (false, ())) (
  L32 (s33.1, (w64 (s33.2.1 + 1)), ())))) (false, 0, ())) (
  R (true, ()))) (s15.1, (-1), ()))) (s6.1, 0, ()))) (false, 0, ()))) fun J3 =>
  Dr <|
  Br ((((r1.1.len : Nat) : Int) : Int) != ((r2.1.len : Nat) : Int)) (
  J3 (true, ())) (
  Nn p_b fun a52 =>
  LdL (a52.add 2) fun x53 =>
  Nn p_x fun a54 =>
  LdP (a54.add 2) fun x55 =>
  Nn x55 fun a56 =>
  LdL (a56.add 2) fun x57 =>
  Br ((((x53.len : Nat) : Int) : Int) != ((x57.len : Nat) : Int)) (
  J3 (true, ())) (
  Nn p_b fun a58 =>
  LdI .u64 (a58.add 1) fun x59 =>
  Nn p_x fun a60 =>
  LdP (a60.add 2) fun x61 =>
  Nn x61 fun a62 =>
  LdI .u64 (a62.add 1) fun x63 =>
  J3 (((x59 : Int) != x63), ())))
def sumpterlaw10_same_ann : Ann := .seq .leaf (.seq .leaf (.seq .leaf (.seq (.seq (.join [(53, .sc .b)] .leaf) (.cond (.seq .leaf .leaf) .leaf)) (.seq (.seq .leaf (.block (.loop [(6, .sc .b), (56, .sc (.i .i64))] (.seq .leaf (.seq (.cond .leaf .leaf) (.seq (.block (.seq .leaf (.seq (.seq .leaf (.cond (.seq .leaf .leaf) .leaf)) .leaf))) .leaf)))))) (.seq (.seq .leaf (.block (.loop [(6, .sc .b), (77, .sc (.i .i64))] (.seq .leaf (.seq (.cond .leaf .leaf) (.seq (.block (.seq .leaf (.seq .leaf (.cond (.seq .leaf .leaf) .leaf)))) .leaf)))))) (.seq (.seq .leaf (.block (.loop [(6, .sc .b), (11, .sc (.i .i64))] (.seq (.seq .leaf (.cond .leaf .leaf)) (.seq (.block (.seq .leaf (.seq (.seq .leaf (.block (.loop [(12, .sc .b), (108, .sc (.i .i64))] (.seq .leaf (.seq (.cond .leaf .leaf) (.seq (.join [(12, .sc .b)] (.block (.seq .leaf .leaf))) .leaf)))))) (.seq .leaf (.cond (.seq .leaf .leaf) .leaf))))) .leaf))))) (.seq .leaf .leaf)))))))
set_option maxRecDepth 100000 in
theorem sumpterlaw10_same_den (p_c : Option Addr) (p_b : Option Addr) (p_x : Option Addr) (R : TR [.sc .b] → Pr) : den Try.prog sumpterlaw10_same_ann (Try.f19.body.getD .skip) (retQ Try.prog Try.f19.results.toList false [.sc .b] R) (env0 129 [(.pointer p_c), (.pointer p_b), (.pointer p_x)]) = sumpterlaw10_same p_c p_b p_x R := by
  kernel_rfl
set_option maxRecDepth 100000 in
theorem sumpterlaw10_same_call (p_c : Option Addr) (p_b : Option Addr) (p_x : Option Addr) {R : TR [.sc .b] → Pr} {w : World} (h : sumpterlaw10_same p_c p_b p_x R w) : Cl Try.prog 19 [(.pointer p_c), (.pointer p_b), (.pointer p_x)] false [.sc .b] R w :=
  call_of (P := Try.prog) (tup := false) (rs := [.sc .b]) Try.checked.mixed sumpterlaw10_same_ann (by kernel_rfl) Try.func19 (by kernel_rfl) Try.ntmps19 (by show Try.f19.results.size = 1; kernel_rfl) (by rw [← sumpterlaw10_same_den] at h; exact h)

/-- (*sumpter/cache.Cache).Dirty -/
abbrev i_cache_Cache_Dirty : FuncId := 20
def cache_Cache_Dirty (p_c : Option Addr) (R : TR [.sc .sl] → Pr) : Pr :=
  Nn p_c fun a1 =>
  LdL (a1.add 0) fun x2 =>
  Lp (σ := Sl × Int × Unit) (fun L3 s4 =>
  Br (decide ((s4.2.1 : Int) < ((x2.len : Nat) : Int))) (
  Jp (σ := Sl × Unit) (fun s6 =>
  L3 (s6.1, (w64 (s4.2.1 + 1)), ())) fun J5 =>
  Ix x2 s4.2.1 1 fun a7 =>
  LdP a7 fun x8 =>
  Jp (σ := Bool × Unit) (fun s10 =>
  Br s10.1 (
  Nn x8 fun a11 =>
  LdI .i64 (a11.add 0) fun x12 =>
  New #[(.int .i64 x12)] 3 fun a13 =>
  App 3 1 8 (zc Try.prog 3) s4.1 1 (srcS (some a13) 1 1) fun r14 =>
  J5 (r14, ())) (
  J5 (s4.1, ()))) fun J9 =>
  Br (!(Option.isNone x8)) (
  Nn x8 fun a15 =>
  LdB (a15.add 4) fun x16 =>
  J9 (x16, ())) (
  J9 (false, ()))) (
  Cl Try.prog 30 [(.slice s4.1.p s4.1.len s4.1.cap)] true [] fun r17 =>
  R (s4.1, ()))) (⟨none, 0, 0⟩, 0, ())
def cache_Cache_Dirty_ann : Ann := .seq .leaf (.seq .leaf (.seq (.seq .leaf (.block (.loop [(3, .sc .sl), (11, .sc (.i .i64))] (.seq .leaf (.seq (.cond .leaf .leaf) (.seq (.join [(3, .sc .sl)] (.block (.seq .leaf (.seq (.join [(22, .sc .b)] .leaf) (.cond .leaf .leaf))))) .leaf)))))) (.seq .leaf (.seq .leaf .leaf))))
set_option maxRecDepth 100000 in
theorem cache_Cache_Dirty_den (p_c : Option Addr) (R : TR [.sc .sl] → Pr) : den Try.prog cache_Cache_Dirty_ann (Try.f20.body.getD .skip) (retQ Try.prog Try.f20.results.toList false [.sc .sl] R) (env0 34 [(.pointer p_c)]) = cache_Cache_Dirty p_c R := by
  kernel_rfl
set_option maxRecDepth 100000 in
theorem cache_Cache_Dirty_call (p_c : Option Addr) {R : TR [.sc .sl] → Pr} {w : World} (h : cache_Cache_Dirty p_c R w) : Cl Try.prog 20 [(.pointer p_c)] false [.sc .sl] R w :=
  call_of (P := Try.prog) (tup := false) (rs := [.sc .sl]) Try.checked.mixed cache_Cache_Dirty_ann (by kernel_rfl) Try.func20 (by kernel_rfl) Try.ntmps20 (by show Try.f20.results.size = 1; kernel_rfl) (by rw [← cache_Cache_Dirty_den] at h; exact h)

/-- (*sumpter/cache.Cache).find -/
abbrev i_cache_Cache_find : FuncId := 21
def cache_Cache_find (p_c : Option Addr) (p_id : Int) (R : TR [.sc .p, .sc .b] → Pr) : Pr :=
  Nn p_c fun a1 =>
  LdM (a1.add 1) fun x2 =>
  LkK (.i .i64) 0 (.int .i64) x2 (.int .i64 p_id) fun x3 b4 =>
  Br (!b4) (
  R (none, false, ())) (
  Nn p_c fun a5 =>
  LdL (a5.add 0) fun x6 =>
  Ix x6 x3 1 fun a7 =>
  LdP a7 fun x8 =>
  R (x8, true, ()))
def cache_Cache_find_ann : Ann := .seq .leaf (.seq .leaf (.seq (.seq .leaf (.cond (.seq .leaf .leaf) .leaf)) (.seq .leaf .leaf)))
set_option maxRecDepth 100000 in
theorem cache_Cache_find_den (p_c : Option Addr) (p_id : Int) (R : TR [.sc .p, .sc .b] → Pr) : den Try.prog cache_Cache_find_ann (Try.f21.body.getD .skip) (retQ Try.prog Try.f21.results.toList true [.sc .p, .sc .b] R) (env0 26 [(.pointer p_c), (.int .i64 p_id)]) = cache_Cache_find p_c p_id R := by
  kernel_rfl
set_option maxRecDepth 100000 in
theorem cache_Cache_find_call (p_c : Option Addr) (p_id : Int) {R : TR [.sc .p, .sc .b] → Pr} {w : World} (h : cache_Cache_find p_c p_id R w) : Cl Try.prog 21 [(.pointer p_c), (.int .i64 p_id)] true [.sc .p, .sc .b] R w :=
  call_of (P := Try.prog) (tup := true) (rs := [.sc .p, .sc .b]) Try.checked.mixed cache_Cache_find_ann (by kernel_rfl) Try.func21 (by kernel_rfl) Try.ntmps21 (by show Nat.beq Try.f21.results.size 1 = false; kernel_rfl) (by rw [← cache_Cache_find_den] at h; exact h)

/-- slices.Clone[[]byte,byte] -/
abbrev i_slices_Clone : FuncId := 22
def slices_Clone (p_s : Sl) (R : TR [.sc .sl] → Pr) : Pr :=
  Br (Option.isNone p_s.p) (
  R (⟨none, 0, 0⟩, ())) (
  New #[] 5 fun a1 =>
  App 5 1 1 (zc Try.prog 5) ⟨(some a1), 0, 0⟩ p_s.len (srcS p_s.p p_s.len 1) fun r2 =>
  R (r2, ()))
def slices_Clone_ann : Ann := .seq .leaf (.seq (.seq .leaf (.cond (.seq .leaf .leaf) .leaf)) (.seq .leaf .leaf))
set_option maxRecDepth 100000 in
theorem slices_Clone_den (p_s : Sl) (R : TR [.sc .sl] → Pr) : den Try.prog slices_Clone_ann (Try.f22.body.getD .skip) (retQ Try.prog Try.f22.results.toList false [.sc .sl] R) (env0 8 [(.slice p_s.p p_s.len p_s.cap)]) = slices_Clone p_s R := by
  kernel_rfl
set_option maxRecDepth 100000 in
theorem slices_Clone_call (p_s : Sl) {R : TR [.sc .sl] → Pr} {w : World} (h : slices_Clone p_s R w) : Cl Try.prog 22 [(.slice p_s.p p_s.len p_s.cap)] false [.sc .sl] R w :=
  call_of (P := Try.prog) (tup := false) (rs := [.sc .sl]) Try.checked.mixed slices_Clone_ann (by kernel_rfl) Try.func22 (by kernel_rfl) Try.ntmps22 (by show Try.f22.results.size = 1; kernel_rfl) (by rw [← slices_Clone_den] at h; exact h)

/-- (*sumpter/cache.Cache).room -/
abbrev i_cache_Cache_room : FuncId := 23
def cache_Cache_room (p_c : Option Addr) (R : TR [.sc (.i .i64), .sc (.i .i64)] → Pr) : Pr :=
  Nn p_c fun a1 =>
  LdL (a1.add 0) fun x2 =>
  Cl Try.prog 31 [(.slice x2.p x2.len x2.cap), (.pointer none)] false [.sc (.i .i64)] fun r3 =>
  Br (decide ((r3.1 : Int) ≥ 0)) (
  R (r3.1, 0, ())) (
  Nn p_c fun a4 =>
  LdL (a4.add 0) fun x5 =>
  Cl Try.prog 32 [(.slice x5.p x5.len x5.cap), (.func (.func 33) #[] #[])] false [.sc .b] fun r6 =>
  Br (!r6.1) (
  R (0, 100, ())) (
  Lp (σ := Int × Int × Unit) (fun L7 s8 =>
  Dr <|
  Nn p_c fun a9 =>
  LdI .i64 (a9.add 2) fun x10 =>
  Nn p_c fun a11 =>
  LdL (a11.add 0) fun x12 =>
  Nn p_c fun a13 =>
  LdI .i64 (a13.add 2) fun x14 =>
  Ix x12 x14 1 fun a15 =>
  LdP a15 fun x16 =>
  Dr <|
  Nn p_c fun a17 =>
  LdI .i64 (a17.add 2) fun x18 =>
  Nn p_c fun a19 =>
  LdL (a19.add 0) fun x20 =>
  Req (((x20.len : Nat) : Int) ≠ (0 : Int)) <|
  Nn p_c fun a21 =>
  St (a21.add 2) (.int .i64 ((w64 (x18 + 1)).tmod ((x20.len : Nat) : Int))) <|
  Nn x16 fun a22 =>
  LdI .i64 (a22.add 1) fun x23 =>
  Br (decide ((x23 : Int) > 0)) (
  L7 (s8.1, s8.2.1, ())) (
  Nn x16 fun a24 =>
  LdB (a24.add 3) fun x25 =>
  Br x25 (
  Nn x16 fun a26 =>
  St (a26.add 3) (.bool false) <|
  L7 (s8.1, s8.2.1, ())) (
  Cl Try.prog 27 [(.pointer p_c), (.pointer x16)] false [.sc (.i .i64)] fun r27 =>
  Br ((r27.1 : Int) != 0) (
  R (0, r27.1, ())) (
  Nn p_c fun a28 =>
  LdL (a28.add 0) fun x29 =>
  Ix x29 x10 1 fun a30 =>
  St a30 (.pointer none) <|
  Dr <|
  Nn p_c fun a31 =>
  LdM (a31.add 1) fun x32 =>
  Nn x16 fun a33 =>
  LdI .i64 (a33.add 0) fun x34 =>
  MDel (.int .i64) x32 (.int .i64 x34) <|
  R (x10, 0, ()))))) (0, 0, ())))
def cache_Cache_room_ann : Ann := .seq .leaf (.seq (.seq .leaf (.seq .leaf (.cond (.seq .leaf .leaf) .leaf))) (.seq (.seq .leaf (.cond (.seq .leaf .leaf) .leaf)) (.block (.loop [(2, .sc (.i .i64)), (3, .sc (.i .i64))] (.block (.seq .leaf (.seq .leaf (.seq (.seq .leaf (.cond .leaf .leaf)) (.seq (.seq .leaf (.cond (.seq .leaf .leaf) .leaf)) (.seq (.seq .leaf (.seq .leaf (.cond (.seq .leaf .leaf) .leaf))) (.seq .leaf (.seq .leaf (.seq .leaf .leaf)))))))))))))
set_option maxRecDepth 100000 in
theorem cache_Cache_room_den (p_c : Option Addr) (R : TR [.sc (.i .i64), .sc (.i .i64)] → Pr) : den Try.prog cache_Cache_room_ann (Try.f23.body.getD .skip) (retQ Try.prog Try.f23.results.toList true [.sc (.i .i64), .sc (.i .i64)] R) (env0 83 [(.pointer p_c)]) = cache_Cache_room p_c R := by
  kernel_rfl
set_option maxRecDepth 100000 in
theorem cache_Cache_room_call (p_c : Option Addr) {R : TR [.sc (.i .i64), .sc (.i .i64)] → Pr} {w : World} (h : cache_Cache_room p_c R w) : Cl Try.prog 23 [(.pointer p_c)] true [.sc (.i .i64), .sc (.i .i64)] R w :=
  call_of (P := Try.prog) (tup := true) (rs := [.sc (.i .i64), .sc (.i .i64)]) Try.checked.mixed cache_Cache_room_ann (by kernel_rfl) Try.func23 (by kernel_rfl) Try.ntmps23 (by show Nat.beq Try.f23.results.size 1 = false; kernel_rfl) (by rw [← cache_Cache_room_den] at h; exact h)

/-- (*sumpter/sumpterref10.Cache).find -/
abbrev i_sumpterref10_Cache_find : FuncId := 24
def sumpterref10_Cache_find (p_c : Option Addr) (p_id : Int) (R : TR [.sc (.i .i64)] → Pr) : Pr :=
  Nn p_c fun a1 =>
  LdL (a1.add 0) fun x2 =>
  Lp (σ := Int × Int × Unit) (fun L3 s4 =>
  Br (decide ((s4.2.1 : Int) < ((x2.len : Nat) : Int))) (
  Ix x2 s4.2.1 7 fun a5 =>
  LdB (a5.add 0) fun x6 =>
  LdI .i64 (a5.add 1) fun x7 =>
  LdI .i64 (a5.add 2) fun x8 =>
  LdS (a5.add 3) fun x9 =>
  LdB (a5.add 4) fun x10 =>
  LdB (a5.add 5) fun x11 =>
  LdI .u64 (a5.add 6) fun x12 =>
  New #[(.bool false), (.int .i64 0), (.int .i64 0), (.string (BA [])), (.bool false), (.bool false), (.int .u64 0)] 79 fun a13 =>
  St (a13.add 0) (.bool x6) <|
  St (a13.add 1) (.int .i64 x7) <|
  St (a13.add 2) (.int .i64 x8) <|
  St (a13.add 3) (.string x9) <|
  St (a13.add 4) (.bool x10) <|
  St (a13.add 5) (.bool x11) <|
  St (a13.add 6) (.int .u64 x12) <|
  Jp (σ := Bool × Unit) (fun s15 =>
  Br s15.1 (
  R (s4.2.1, ())) (
  L3 (s4.1, (w64 (s4.2.1 + 1)), ()))) fun J14 =>
  LdB (a13.add 0) fun x16 =>
  Br x16 (
  LdI .i64 (a13.add 1) fun x17 =>
  J14 (((x17 : Int) == p_id), ())) (
  J14 (false, ()))) (
  R ((-1), ()))) (0, 0, ())
def sumpterref10_Cache_find_ann : Ann := .seq .leaf (.seq (.seq .leaf (.block (.loop [(4, .sc (.i .i64)), (12, .sc (.i .i64))] (.seq .leaf (.seq (.cond .leaf .leaf) (.seq (.block (.seq .leaf (.seq (.join [(24, .sc .b)] .leaf) (.cond (.seq .leaf .leaf) .leaf)))) .leaf)))))) (.seq .leaf .leaf))
set_option maxRecDepth 100000 in
theorem sumpterref10_Cache_find_den (p_c : Option Addr) (p_id : Int) (R : TR [.sc (.i .i64)] → Pr) : den Try.prog sumpterref10_Cache_find_ann (Try.f24.body.getD .skip) (retQ Try.prog Try.f24.results.toList false [.sc (.i .i64)] R) (env0 27 [(.pointer p_c), (.int .i64 p_id)]) = sumpterref10_Cache_find p_c p_id R := by
  kernel_rfl
set_option maxRecDepth 100000 in
theorem sumpterref10_Cache_find_call (p_c : Option Addr) (p_id : Int) {R : TR [.sc (.i .i64)] → Pr} {w : World} (h : sumpterref10_Cache_find p_c p_id R w) : Cl Try.prog 24 [(.pointer p_c), (.int .i64 p_id)] false [.sc (.i .i64)] R w :=
  call_of (P := Try.prog) (tup := false) (rs := [.sc (.i .i64)]) Try.checked.mixed sumpterref10_Cache_find_ann (by kernel_rfl) Try.func24 (by kernel_rfl) Try.ntmps24 (by show Try.f24.results.size = 1; kernel_rfl) (by rw [← sumpterref10_Cache_find_den] at h; exact h)

/-- (*sumpter/sumpterref10.Cache).free -/
abbrev i_sumpterref10_Cache_free : FuncId := 25
def sumpterref10_Cache_free (p_c : Option Addr) (R : TR [.sc (.i .i64), .sc (.i .i64)] → Pr) : Pr :=
  Nn p_c fun a1 =>
  LdL (a1.add 0) fun x2 =>
  Lp (σ := Int × Int × Bool × Int × Unit) (fun L3 s4 =>
  Br (decide ((s4.2.2.2.1 : Int) < ((x2.len : Nat) : Int))) (
  Jp (σ := Int × Int × Bool × Unit) (fun s6 =>
  L3 (s6.1, s6.2.1, s6.2.2.1, (w64 (s4.2.2.2.1 + 1)), ())) fun J5 =>
  Ix x2 s4.2.2.2.1 7 fun a7 =>
  LdB (a7.add 0) fun x8 =>
  LdI .i64 (a7.add 1) fun x9 =>
  LdI .i64 (a7.add 2) fun x10 =>
  LdS (a7.add 3) fun x11 =>
  LdB (a7.add 4) fun x12 =>
  LdB (a7.add 5) fun x13 =>
  LdI .u64 (a7.add 6) fun x14 =>
  New #[(.bool false), (.int .i64 0), (.int .i64 0), (.string (BA [])), (.bool false), (.bool false), (.int .u64 0)] 79 fun a15 =>
  St (a15.add 0) (.bool x8) <|
  St (a15.add 1) (.int .i64 x9) <|
  St (a15.add 2) (.int .i64 x10) <|
  St (a15.add 3) (.string x11) <|
  St (a15.add 4) (.bool x12) <|
  St (a15.add 5) (.bool x13) <|
  St (a15.add 6) (.int .u64 x14) <|
  LdB (a15.add 0) fun x16 =>
  Br (!x16) (
  R (s4.2.2.2.1, 0, ())) (
  Br s4.2.2.1 (
  LdI .i64 (a15.add 2) fun x17 =>
  J5 (s4.1, s4.2.1, (decide ((x17 : Int) > 0)), ())) (
  J5 (s4.1, s4.2.1, false, ())))) (
  Br s4.2.2.1 (
  R (0, 100, ())) (
  Lp (σ := Int × Int × Unit) (fun L18 s19 =>
  Nn p_c fun a20 =>
  LdI .i64 (a20.add 1) fun x21 =>
  Dr <|
  Nn p_c fun a22 =>
  LdI .i64 (a22.add 1) fun x23 =>
  Nn p_c fun a24 =>
  LdL (a24.add 0) fun x25 =>
  Req (((x25.len : Nat) : Int) ≠ (0 : Int)) <|
  Nn p_c fun a26 =>
  St (a26.add 1) (.int .i64 ((w64 (x23 + 1)).tmod ((x25.len : Nat) : Int))) <|
  Nn p_c fun a27 =>
  LdL (a27.add 0) fun x28 =>
  Ix x28 x21 7 fun a29 =>
  LdI .i64 (a29.add 2) fun x30 =>
  Br (decide ((x30 : Int) > 0)) (
  L18 (s19.1, s19.2.1, ())) (
  LdB (a29.add 4) fun x31 =>
  Br x31 (
  St (a29.add 4) (.bool false) <|
  L18 (s19.1, s19.2.1, ())) (
  Cl Try.prog 28 [(.pointer p_c), (.int .i64 x21)] false [.sc (.i .i64)] fun r32 =>
  Br ((r32.1 : Int) != 0) (
  R (0, r32.1, ())) (
  Nn p_c fun a33 =>
  LdL (a33.add 0) fun x34 =>
  Ix x34 x21 7 fun a35 =>
  St (a35.add 0) (.bool false) <|
  St (a35.add 1) (.int .i64 0) <|
  St (a35.add 2) (.int .i64 0) <|
  St (a35.add 3) (.string (BA [])) <|
  St (a35.add 4) (.bool false) <|
  St (a35.add 5) (.bool false) <|
  St (a35.add 6) (.int .u64 0) <|
  R (x21, 0, ()))))) (s4.1, s4.2.1, ())))) (0, 0, true, 0, ())
def sumpterref10_Cache_free_ann : Ann := .seq .leaf (.seq .leaf (.seq (.seq .leaf (.block (.loop [(2, .sc (.i .i64)), (3, .sc (.i .i64)), (4, .sc .b), (15, .sc (.i .i64))] (.seq .leaf (.seq (.cond .leaf .leaf) (.seq (.join [(2, .sc (.i .i64)), (3, .sc (.i .i64)), (4, .sc .b)] (.block (.seq .leaf (.seq (.seq .leaf (.cond (.seq .leaf .leaf) .leaf)) .leaf)))) .leaf)))))) (.seq (.seq .leaf (.cond (.seq .leaf .leaf) .leaf)) (.block (.loop [(2, .sc (.i .i64)), (3, .sc (.i .i64))] (.block (.seq .leaf (.seq .leaf (.seq .leaf (.block (.seq .leaf (.cond .leaf (.seq .leaf (.cond .leaf (.seq (.seq .leaf (.seq .leaf (.cond (.seq .leaf .leaf) .leaf))) (.seq .leaf (.seq .leaf .leaf)))))))))))))))))
set_option maxRecDepth 100000 in
theorem sumpterref10_Cache_free_den (p_c : Option Addr) (R : TR [.sc (.i .i64), .sc (.i .i64)] → Pr) : den Try.prog sumpterref10_Cache_free_ann (Try.f25.body.getD .skip) (retQ Try.prog Try.f25.results.toList true [.sc (.i .i64), .sc (.i .i64)] R) (env0 84 [(.pointer p_c)]) = sumpterref10_Cache_free p_c R := by
  kernel_rfl
set_option maxRecDepth 100000 in
theorem sumpterref10_Cache_free_call (p_c : Option Addr) {R : TR [.sc (.i .i64), .sc (.i .i64)] → Pr} {w : World} (h : sumpterref10_Cache_free p_c R w) : Cl Try.prog 25 [(.pointer p_c)] true [.sc (.i .i64), .sc (.i .i64)] R w :=
  call_of (P := Try.prog) (tup := true) (rs := [.sc (.i .i64), .sc (.i .i64)]) Try.checked.mixed sumpterref10_Cache_free_ann (by kernel_rfl) Try.func25 (by kernel_rfl) Try.ntmps25 (by show Nat.beq Try.f25.results.size 1 = false; kernel_rfl) (by rw [← sumpterref10_Cache_free_den] at h; exact h)

/-- (*sumpter/sumpterref10.Back).Load -/
abbrev i_sumpterref10_Back_Load : FuncId := 26
def sumpterref10_Back_Load (p_b : Option Addr) (p_id : Int) (R : TR [.sc .sl, .sc (.i .i64)] → Pr) : Pr :=
  Cl Try.prog 34 [(.pointer p_b), (.agg #[(.int .i64 1), (.int .i64 p_id), (.int .u64 0), (.string (BA []))])] false [.sc .b] fun r1 =>
  Br r1.1 (
  R (⟨none, 0, 0⟩, 60, ())) (
  Nn p_b fun a2 =>
  LdM (a2.add 0) fun x3 =>
  LkK .s (BA []) (.int .i64) x3 (.int .i64 p_id) fun x4 b5 =>
  Br (!b5) (
  R (⟨none, 0, 0⟩, 90, ())) (
  StoB 5 x4 fun r6 =>
  R (r6, 0, ())))
def sumpterref10_Back_Load_ann : Ann := .seq .leaf (.seq (.seq .leaf (.cond (.seq .leaf .leaf) .leaf)) (.seq .leaf (.seq (.seq .leaf (.cond (.seq .leaf .leaf) .leaf)) (.seq .leaf .leaf))))
set_option maxRecDepth 100000 in
theorem sumpterref10_Back_Load_den (p_b : Option Addr) (p_id : Int) (R : TR [.sc .sl, .sc (.i .i64)] → Pr) : den Try.prog sumpterref10_Back_Load_ann (Try.f26.body.getD .skip) (retQ Try.prog Try.f26.results.toList true [.sc .sl, .sc (.i .i64)] R) (env0 25 [(.pointer p_b), (.int .i64 p_id)]) = sumpterref10_Back_Load p_b p_id R := by
  kernel_rfl
set_option maxRecDepth 100000 in
theorem sumpterref10_Back_Load_call (p_b : Option Addr) (p_id : Int) {R : TR [.sc .sl, .sc (.i .i64)] → Pr} {w : World} (h : sumpterref10_Back_Load p_b p_id R w) : Cl Try.prog 26 [(.pointer p_b), (.int .i64 p_id)] true [.sc .sl, .sc (.i .i64)] R w :=
  call_of (P := Try.prog) (tup := true) (rs := [.sc .sl, .sc (.i .i64)]) Try.checked.mixed sumpterref10_Back_Load_ann (by kernel_rfl) Try.func26 (by kernel_rfl) Try.ntmps26 (by show Nat.beq Try.f26.results.size 1 = false; kernel_rfl) (by rw [← sumpterref10_Back_Load_den] at h; exact h)

/-- (*sumpter/cache.Cache).clean -/
abbrev i_cache_Cache_clean : FuncId := 27
def cache_Cache_clean (p_c : Option Addr) (p_p : Option Addr) (R : TR [.sc (.i .i64)] → Pr) : Pr :=
  Jp (σ := Bool × Unit) (fun s2 =>
  Br s2.1 (
  R (0, ())) (
  Jp (σ := Int × Unit) (fun s4 =>
  Dr <|
  Nn p_c fun a5 =>
  LdV (a5.add 3) fun x6 =>
  Nn p_p fun a7 =>
  LdI .i64 (a7.add 0) fun x8 =>
  Nn p_p fun a9 =>
  LdL (a9.add 2) fun x10 =>
  nilCheckD x6 fun v11 =>
  Cl Try.prog 22 [(.slice x10.p x10.len x10.cap)] false [.sc .sl] fun r12 =>
  Both (LdI .i64 (a7.add 0) fun x13 =>
  fun _ => ((.int .i64 x13) : Value) = (.int .i64 x8)) <|
  Both (LdV (a5.add 3) fun x14 =>
  fun _ => (x14 : Value) = x6) <|
  Inv Try.prog x6 "Save" [(.int .i64 x8), (.slice r12.1.p r12.1.len r12.1.cap)] false [.sc (.i .i64)] fun r15 =>
  Br ((r15.1 : Int) != 0) (
  R (r15.1, ())) (
  Nn p_p fun a16 =>
  St (a16.add 4) (.bool false) <|
  R (0, ()))) fun J3 =>
  Dr <|
  Nn p_c fun a17 =>
  LdV (a17.add 3) fun x18 =>
  Nn p_p fun a19 =>
  LdI .u64 (a19.add 5) fun x20 =>
  Inv Try.prog x18 "Safe" [] false [.sc (.i .u64)] fun r21 =>
  Both (LdI .u64 (a19.add 5) fun x22 =>
  fun _ => ((.int .u64 x22) : Value) = (.int .u64 x20)) <|
  Br (decide ((r21.1 : Int) < x20)) (
  Dr <|
  Nn p_c fun a23 =>
  LdV (a23.add 3) fun x24 =>
  Nn p_p fun a25 =>
  LdI .u64 (a25.add 5) fun x26 =>
  nilCheckD x24 fun v27 =>
  Inv Try.prog x24 "Force" [(.int .u64 x26)] false [.sc (.i .i64)] fun r28 =>
  Br ((r28.1 : Int) != 0) (
  R (r28.1, ())) (
  J3 (0, ()))) (
  J3 (0, ())))) fun J1 =>
  Br (Option.isNone p_p) (
  J1 (true, ())) (
  Nn p_p fun a29 =>
  LdB (a29.add 4) fun x30 =>
  J1 ((!x30), ()))
def cache_Cache_clean_ann : Ann := .seq .leaf (.seq (.seq (.join [(15, .sc .b)] .leaf) (.cond (.seq .leaf .leaf) .leaf)) (.seq (.join [(4, .sc (.i .i64))] (.seq .leaf (.cond (.seq .leaf (.seq .leaf (.cond (.seq .leaf .leaf) .leaf))) .leaf))) (.seq (.seq .leaf (.seq .leaf (.cond (.seq .leaf .leaf) .leaf))) (.seq .leaf (.seq .leaf .leaf)))))
set_option maxRecDepth 100000 in
theorem cache_Cache_clean_den (p_c : Option Addr) (p_p : Option Addr) (R : TR [.sc (.i .i64)] → Pr) : den Try.prog cache_Cache_clean_ann (Try.f27.body.getD .skip) (retQ Try.prog Try.f27.results.toList false [.sc (.i .i64)] R) (env0 62 [(.pointer p_c), (.pointer p_p)]) = cache_Cache_clean p_c p_p R := by
  kernel_rfl
set_option maxRecDepth 100000 in
theorem cache_Cache_clean_call (p_c : Option Addr) (p_p : Option Addr) {R : TR [.sc (.i .i64)] → Pr} {w : World} (h : cache_Cache_clean p_c p_p R w) : Cl Try.prog 27 [(.pointer p_c), (.pointer p_p)] false [.sc (.i .i64)] R w :=
  call_of (P := Try.prog) (tup := false) (rs := [.sc (.i .i64)]) Try.checked.mixed cache_Cache_clean_ann (by kernel_rfl) Try.func27 (by kernel_rfl) Try.ntmps27 (by show Try.f27.results.size = 1; kernel_rfl) (by rw [← cache_Cache_clean_den] at h; exact h)

/-- (*sumpter/sumpterref10.Cache).back -/
abbrev i_sumpterref10_Cache_back : FuncId := 28
def sumpterref10_Cache_back (p_c : Option Addr) (p_i : Int) (R : TR [.sc (.i .i64)] → Pr) : Pr :=
  Nn p_c fun a1 =>
  LdL (a1.add 0) fun x2 =>
  Ix x2 p_i 7 fun a3 =>
  Jp (σ := Bool × Unit) (fun s5 =>
  Br s5.1 (
  R (0, ())) (
  Jp (σ := Int × Unit) (fun s7 =>
  Dr <|
  Nn p_c fun a8 =>
  LdP (a8.add 2) fun x9 =>
  LdI .i64 (a3.add 1) fun x10 =>
  LdS (a3.add 3) fun x11 =>
  StoB 5 x11 fun r12 =>
  Both (LdI .i64 (a3.add 1) fun x13 =>
  fun _ => ((.int .i64 x13) : Value) = (.int .i64 x10)) <|
  Both (LdP (a8.add 2) fun x14 =>
  fun _ => ((.pointer x14) : Value) = (.pointer x9)) <|
  Cl Try.prog 37 [(.pointer x9), (.int .i64 x10), (.slice r12.p r12.len r12.cap)] false [.sc (.i .i64)] fun r15 =>
  Br ((r15.1 : Int) != 0) (
  R (r15.1, ())) (
  St (a3.add 5) (.bool false) <|
  R (0, ()))) fun J6 =>
  Dr <|
  Nn p_c fun a16 =>
  LdP (a16.add 2) fun x17 =>
  LdI .u64 (a3.add 6) fun x18 =>
  Cl Try.prog 35 [(.pointer x17)] false [.sc (.i .u64)] fun r19 =>
  Both (LdI .u64 (a3.add 6) fun x20 =>
  fun _ => ((.int .u64 x20) : Value) = (.int .u64 x18)) <|
  Br (decide ((r19.1 : Int) < x18)) (
  Dr <|
  Nn p_c fun a21 =>
  LdP (a21.add 2) fun x22 =>
  LdI .u64 (a3.add 6) fun x23 =>
  Cl Try.prog 36 [(.pointer x22), (.int .u64 x23)] false [.sc (.i .i64)] fun r24 =>
  Br ((r24.1 : Int) != 0) (
  R (r24.1, ())) (
  J6 (0, ()))) (
  J6 (0, ())))) fun J4 =>
  LdB (a3.add 0) fun x25 =>
  Br (!x25) (
  J4 (true, ())) (
  LdB (a3.add 5) fun x26 =>
  J4 ((!x26), ()))
def sumpterref10_Cache_back_ann : Ann := .seq .leaf (.seq .leaf (.seq (.seq (.join [(25, .sc .b)] .leaf) (.cond (.seq .leaf .leaf) .leaf)) (.seq (.join [(4, .sc (.i .i64))] (.seq .leaf (.cond (.seq .leaf (.seq .leaf (.cond (.seq .leaf .leaf) .leaf))) .leaf))) (.seq (.seq .leaf (.seq .leaf (.cond (.seq .leaf .leaf) .leaf))) (.seq .leaf (.seq .leaf .leaf))))))
set_option maxRecDepth 100000 in
theorem sumpterref10_Cache_back_den (p_c : Option Addr) (p_i : Int) (R : TR [.sc (.i .i64)] → Pr) : den Try.prog sumpterref10_Cache_back_ann (Try.f28.body.getD .skip) (retQ Try.prog Try.f28.results.toList false [.sc (.i .i64)] R) (env0 68 [(.pointer p_c), (.int .i64 p_i)]) = sumpterref10_Cache_back p_c p_i R := by
  kernel_rfl
set_option maxRecDepth 100000 in
theorem sumpterref10_Cache_back_call (p_c : Option Addr) (p_i : Int) {R : TR [.sc (.i .i64)] → Pr} {w : World} (h : sumpterref10_Cache_back p_c p_i R w) : Cl Try.prog 28 [(.pointer p_c), (.int .i64 p_i)] false [.sc (.i .i64)] R w :=
  call_of (P := Try.prog) (tup := false) (rs := [.sc (.i .i64)]) Try.checked.mixed sumpterref10_Cache_back_ann (by kernel_rfl) Try.func28 (by kernel_rfl) Try.ntmps28 (by show Try.f28.results.size = 1; kernel_rfl) (by rw [← sumpterref10_Cache_back_den] at h; exact h)

/-- (*sumpter/sumpterref10.Cache).Dirty -/
abbrev i_sumpterref10_Cache_Dirty : FuncId := 29
def sumpterref10_Cache_Dirty (p_c : Option Addr) (R : TR [.sc .sl] → Pr) : Pr :=
  Nn p_c fun a1 =>
  LdL (a1.add 0) fun x2 =>
  Lp (σ := Sl × Int × Unit) (fun L3 s4 =>
  Br (decide ((s4.2.1 : Int) < ((x2.len : Nat) : Int))) (
  Jp (σ := Sl × Unit) (fun s6 =>
  L3 (s6.1, (w64 (s4.2.1 + 1)), ())) fun J5 =>
  Ix x2 s4.2.1 7 fun a7 =>
  LdB (a7.add 0) fun x8 =>
  LdI .i64 (a7.add 1) fun x9 =>
  LdI .i64 (a7.add 2) fun x10 =>
  LdS (a7.add 3) fun x11 =>
  LdB (a7.add 4) fun x12 =>
  LdB (a7.add 5) fun x13 =>
  LdI .u64 (a7.add 6) fun x14 =>
  New #[(.bool false), (.int .i64 0), (.int .i64 0), (.string (BA [])), (.bool false), (.bool false), (.int .u64 0)] 79 fun a15 =>
  St (a15.add 0) (.bool x8) <|
  St (a15.add 1) (.int .i64 x9) <|
  St (a15.add 2) (.int .i64 x10) <|
  St (a15.add 3) (.string x11) <|
  St (a15.add 4) (.bool x12) <|
  St (a15.add 5) (.bool x13) <|
  St (a15.add 6) (.int .u64 x14) <|
  Jp (σ := Bool × Unit) (fun s17 =>
  Br s17.1 (
  J5 (s4.1, ())) (
  Lp (σ := Int × Unit) (fun L18 s19 =>
  Jp (σ := Bool × Unit) (fun s21 =>
  Br s21.1 (
  L18 ((w64 (s19.1 + 1)), ())) (
  Req ((0 : Int) ≤ s19.1 ∧ s19.1 ≤ ((s4.1.cap : Nat) : Int)) <|
  App 3 1 8 (zc Try.prog 3) ⟨none, 0, 0⟩ ((Int.toNat s19.1) - 0) (srcS (slOff s4.1.p s4.1.cap 0 1) ((Int.toNat s19.1) - 0) 1) fun r22 =>
  LdI .i64 (a15.add 1) fun x23 =>
  New #[(.int .i64 x23)] 3 fun a24 =>
  App 3 1 8 (zc Try.prog 3) r22 1 (srcS (some a24) 1 1) fun r25 =>
  Req ((0 : Int) ≤ s19.1 ∧ s19.1 ≤ ((s4.1.len : Nat) : Int)) <|
  App 3 1 8 (zc Try.prog 3) r25 (s4.1.len - (Int.toNat s19.1)) (srcS (slOff s4.1.p s4.1.cap (Int.toNat s19.1) 1) (s4.1.len - (Int.toNat s19.1)) 1) fun r26 =>
  J5 (r26, ()))) fun J20 =>
  Dr <|
  Br (decide ((s19.1 : Int) < ((s4.1.len : Nat) : Int))) (
  Ix s4.1 s19.1 1 fun a27 =>
  LdI .i64 a27 fun x28 =>
  LdI .i64 (a15.add 1) fun x29 =>
  J20 ((decide ((x28 : Int) < x29)), ())) (
  J20 (false, ()))) (0, ()))) fun J16 =>
  LdB (a15.add 0) fun x30 =>
  Br (!x30) (
  J16 (true, ())) (
  LdB (a15.add 5) fun x31 =>
  J16 ((!x31), ()))) (
  R (s4.1, ()))) (⟨none, 0, 0⟩, 0, ())
def sumpterref10_Cache_Dirty_ann : Ann := .seq .leaf (.seq .leaf (.seq (.seq .leaf (.block (.loop [(3, .sc .sl), (13, .sc (.i .i64))] (.seq .leaf (.seq (.cond .leaf .leaf) (.seq (.join [(3, .sc .sl)] (.block (.seq .leaf (.seq (.seq (.join [(24, .sc .b)] .leaf) (.cond .leaf .leaf)) (.seq .leaf (.seq (.block (.loop [(6, .sc (.i .i64))] (.seq (.seq (.join [(37, .sc .b)] .leaf) (.cond .leaf .leaf)) (.block .leaf)))) (.seq .leaf (.seq .leaf .leaf)))))))) .leaf)))))) (.seq .leaf .leaf)))
set_option maxRecDepth 100000 in
theorem sumpterref10_Cache_Dirty_den (p_c : Option Addr) (R : TR [.sc .sl] → Pr) : den Try.prog sumpterref10_Cache_Dirty_ann (Try.f29.body.getD .skip) (retQ Try.prog Try.f29.results.toList false [.sc .sl] R) (env0 56 [(.pointer p_c)]) = sumpterref10_Cache_Dirty p_c R := by
  kernel_rfl
set_option maxRecDepth 100000 in
theorem sumpterref10_Cache_Dirty_call (p_c : Option Addr) {R : TR [.sc .sl] → Pr} {w : World} (h : sumpterref10_Cache_Dirty p_c R w) : Cl Try.prog 29 [(.pointer p_c)] false [.sc .sl] R w :=
  call_of (P := Try.prog) (tup := false) (rs := [.sc .sl]) Try.checked.mixed sumpterref10_Cache_Dirty_ann (by kernel_rfl) Try.func29 (by kernel_rfl) Try.ntmps29 (by show Try.f29.results.size = 1; kernel_rfl) (by rw [← sumpterref10_Cache_Dirty_den] at h; exact h)

/-- slices.Sort[[]int,int] -/
abbrev i_slices_Sort : FuncId := 30
def slices_Sort (p_x : Sl) (R : TR [] → Pr) : Pr :=
  Cl Try.prog 39 [(.int .u64 (IntKind.u64.wrap (((p_x.len : Nat) : Int))))] false [.sc (.i .i64)] fun r1 =>
  Cl Try.prog 38 [(.slice p_x.p p_x.len p_x.cap), (.int .i64 0), (.int .i64 ((p_x.len : Nat) : Int)), (.int .i64 r1.1)] true [] fun r2 =>
  R ()
def slices_Sort_ann : Ann := .seq .leaf .leaf
set_option maxRecDepth 100000 in
theorem slices_Sort_den (p_x : Sl) (R : TR [] → Pr) : den Try.prog slices_Sort_ann (Try.f30.body.getD .skip) (retQ Try.prog Try.f30.results.toList true [] R) (env0 11 [(.slice p_x.p p_x.len p_x.cap)]) = slices_Sort p_x R := by
  kernel_rfl
set_option maxRecDepth 100000 in
theorem slices_Sort_call (p_x : Sl) {R : TR [] → Pr} {w : World} (h : slices_Sort p_x R w) : Cl Try.prog 30 [(.slice p_x.p p_x.len p_x.cap)] true [] R w :=
  call_of (P := Try.prog) (tup := true) (rs := []) Try.checked.mixed slices_Sort_ann (by kernel_rfl) Try.func30 (by kernel_rfl) Try.ntmps30 (by show Nat.beq Try.f30.results.size 1 = false; kernel_rfl) (by rw [← slices_Sort_den] at h; exact h)

/-- slices.Index[[]*sumpter/cache.place,*sumpter/cache.place] -/
abbrev i_slices_Index : FuncId := 31
def slices_Index (p_s : Sl) (p_v : Option Addr) (R : TR [.sc (.i .i64)] → Pr) : Pr :=
  Lp (σ := Int × Int × Unit) (fun L1 s2 =>
  Br (decide ((s2.2.1 : Int) < ((p_s.len : Nat) : Int))) (
  Ix p_s s2.2.1 1 fun a3 =>
  LdP a3 fun x4 =>
  PtrE p_v x4 fun b5 =>
  Br b5 (
  R (s2.2.1, ())) (
  L1 (s2.1, (w64 (s2.2.1 + 1)), ()))) (
  R ((-1), ()))) (0, 0, ())
def slices_Index_ann : Ann := .seq .leaf (.seq (.seq .leaf (.block (.loop [(4, .sc (.i .i64)), (8, .sc (.i .i64))] (.seq .leaf (.seq (.cond .leaf .leaf) (.seq (.block (.seq .leaf (.seq .leaf (.cond (.seq .leaf .leaf) .leaf)))) .leaf)))))) (.seq .leaf .leaf))
set_option maxRecDepth 100000 in
theorem slices_Index_den (p_s : Sl) (p_v : Option Addr) (R : TR [.sc (.i .i64)] → Pr) : den Try.prog slices_Index_ann (Try.f31.body.getD .skip) (retQ Try.prog Try.f31.results.toList false [.sc (.i .i64)] R) (env0 19 [(.slice p_s.p p_s.len p_s.cap), (.pointer p_v)]) = slices_Index p_s p_v R := by
  kernel_rfl
set_option maxRecDepth 100000 in
theorem slices_Index_call (p_s : Sl) (p_v : Option Addr) {R : TR [.sc (.i .i64)] → Pr} {w : World} (h : slices_Index p_s p_v R w) : Cl Try.prog 31 [(.slice p_s.p p_s.len p_s.cap), (.pointer p_v)] false [.sc (.i .i64)] R w :=
  call_of (P := Try.prog) (tup := false) (rs := [.sc (.i .i64)]) Try.checked.mixed slices_Index_ann (by kernel_rfl) Try.func31 (by kernel_rfl) Try.ntmps31 (by show Try.f31.results.size = 1; kernel_rfl) (by rw [← slices_Index_den] at h; exact h)

/-- slices.ContainsFunc[[]*sumpter/cache.place,*sumpter/cache.place] -/
abbrev i_slices_ContainsFunc : FuncId := 32
def slices_ContainsFunc (p_s : Sl) (p_f : Value) (R : TR [.sc .b] → Pr) : Pr :=
  Cl Try.prog 40 [(.slice p_s.p p_s.len p_s.cap), p_f] false [.sc (.i .i64)] fun r1 =>
  R ((decide ((r1.1 : Int) ≥ 0)), ())
def slices_ContainsFunc_ann : Ann := .seq .leaf (.seq .leaf .leaf)
set_option maxRecDepth 100000 in
theorem slices_ContainsFunc_den (p_s : Sl) (p_f : Value) (R : TR [.sc .b] → Pr) : den Try.prog slices_ContainsFunc_ann (Try.f32.body.getD .skip) (retQ Try.prog Try.f32.results.toList false [.sc .b] R) (env0 9 [(.slice p_s.p p_s.len p_s.cap), p_f]) = slices_ContainsFunc p_s p_f R := by
  kernel_rfl
set_option maxRecDepth 100000 in
theorem slices_ContainsFunc_call (p_s : Sl) (p_f : Value) {R : TR [.sc .b] → Pr} {w : World} (h : slices_ContainsFunc p_s p_f R w) : Cl Try.prog 32 [(.slice p_s.p p_s.len p_s.cap), p_f] false [.sc .b] R w :=
  call_of (P := Try.prog) (tup := false) (rs := [.sc .b]) Try.checked.mixed slices_ContainsFunc_ann (by kernel_rfl) Try.func32 (by kernel_rfl) Try.ntmps32 (by show Try.f32.results.size = 1; kernel_rfl) (by rw [← slices_ContainsFunc_den] at h; exact h)

/-- (*sumpter/cache.Cache).room$1 -/
abbrev i_cache_Cache_room_1 : FuncId := 33
def cache_Cache_room_1 (p_p : Option Addr) (R : TR [.sc .b] → Pr) : Pr :=
  Nn p_p fun a1 =>
  LdI .i64 (a1.add 1) fun x2 =>
  R (((x2 : Int) == 0), ())
def cache_Cache_room_1_ann : Ann := .seq .leaf (.seq .leaf .leaf)
set_option maxRecDepth 100000 in
theorem cache_Cache_room_1_den (p_p : Option Addr) (R : TR [.sc .b] → Pr) : den Try.prog cache_Cache_room_1_ann (Try.f33.body.getD .skip) (retQ Try.prog Try.f33.results.toList false [.sc .b] R) (env0 8 [(.pointer p_p)]) = cache_Cache_room_1 p_p R := by
  kernel_rfl
set_option maxRecDepth 100000 in
theorem cache_Cache_room_1_call (p_p : Option Addr) {R : TR [.sc .b] → Pr} {w : World} (h : cache_Cache_room_1 p_p R w) : Cl Try.prog 33 [(.pointer p_p)] false [.sc .b] R w :=
  call_of (P := Try.prog) (tup := false) (rs := [.sc .b]) Try.checked.mixed cache_Cache_room_1_ann (by kernel_rfl) Try.func33 (by kernel_rfl) Try.ntmps33 (by show Try.f33.results.size = 1; kernel_rfl) (by rw [← cache_Cache_room_1_den] at h; exact h)

/-- (*sumpter/sumpterref10.Back).fails -/
abbrev i_sumpterref10_Back_fails : FuncId := 34
def sumpterref10_Back_fails (p_b : Option Addr) (p_c_0 : Int) (p_c_1 : Int) (p_c_2 : Int) (p_c_3 : ByteArray) (R : TR [.sc .b] → Pr) : Pr :=
  New #[(.int .i64 p_c_0), (.int .i64 p_c_1), (.int .u64 p_c_2), (.string p_c_3)] 60 fun a1 =>
  Dr <|
  Nn p_b fun a2 =>
  LdL (a2.add 2) fun x3 =>
  LdI .i64 (a1.add 0) fun x4 =>
  LdI .i64 (a1.add 1) fun x5 =>
  LdI .u64 (a1.add 2) fun x6 =>
  LdS (a1.add 3) fun x7 =>
  New #[(.int .i64 x4), (.int .i64 x5), (.int .u64 x6), (.string x7)] 60 fun a8 =>
  Both (LdL (a2.add 2) fun x9 =>
  fun _ => ((.slice x9.p x9.len x9.cap) : Value) = (.slice x3.p x3.len x3.cap)) <|
  App 60 4 40 (zc Try.prog 60) x3 1 (srcS (some a8) 1 4) fun r10 =>
  Nn p_b fun a11 =>
  St (a11.add 2) (.slice r10.p r10.len r10.cap) <|
  Nn p_b fun a12 =>
  LdI .i64 (a12.add 3) fun x13 =>
  Br ((x13 : Int) == 0) (
  R (true, ())) (
  Jp (σ := Unit) (fun s15 =>
  R (false, ())) fun J14 =>
  Nn p_b fun a16 =>
  LdI .i64 (a16.add 3) fun x17 =>
  Br (decide ((x17 : Int) > 0)) (
  Nn p_b fun a18 =>
  LdI .i64 (a18.add 3) fun x19 =>
  Nn p_b fun a20 =>
  St (a20.add 3) (.int .i64 (w64 (x19 - 1))) <|
  J14 ()) (
  J14 ()))
def sumpterref10_Back_fails_ann : Ann := .seq .leaf (.seq .leaf (.seq (.seq .leaf (.cond (.seq .leaf .leaf) .leaf)) (.seq (.join [] (.seq .leaf (.cond .leaf .leaf))) (.seq .leaf .leaf))))
set_option maxRecDepth 100000 in
theorem sumpterref10_Back_fails_den (p_b : Option Addr) (p_c_0 : Int) (p_c_1 : Int) (p_c_2 : Int) (p_c_3 : ByteArray) (R : TR [.sc .b] → Pr) : den Try.prog sumpterref10_Back_fails_ann (Try.f34.body.getD .skip) (retQ Try.prog Try.f34.results.toList false [.sc .b] R) (env0 32 [(.pointer p_b), (.agg #[(.int .i64 p_c_0), (.int .i64 p_c_1), (.int .u64 p_c_2), (.string p_c_3)])]) = sumpterref10_Back_fails p_b p_c_0 p_c_1 p_c_2 p_c_3 R := by
  kernel_rfl
set_option maxRecDepth 100000 in
theorem sumpterref10_Back_fails_call (p_b : Option Addr) (p_c_0 : Int) (p_c_1 : Int) (p_c_2 : Int) (p_c_3 : ByteArray) {R : TR [.sc .b] → Pr} {w : World} (h : sumpterref10_Back_fails p_b p_c_0 p_c_1 p_c_2 p_c_3 R w) : Cl Try.prog 34 [(.pointer p_b), (.agg #[(.int .i64 p_c_0), (.int .i64 p_c_1), (.int .u64 p_c_2), (.string p_c_3)])] false [.sc .b] R w :=
  call_of (P := Try.prog) (tup := false) (rs := [.sc .b]) Try.checked.mixed sumpterref10_Back_fails_ann (by kernel_rfl) Try.func34 (by kernel_rfl) Try.ntmps34 (by show Try.f34.results.size = 1; kernel_rfl) (by rw [← sumpterref10_Back_fails_den] at h; exact h)

/-- (*sumpter/sumpterref10.Back).Safe -/
abbrev i_sumpterref10_Back_Safe : FuncId := 35
def sumpterref10_Back_Safe (p_b : Option Addr) (R : TR [.sc (.i .u64)] → Pr) : Pr :=
  Nn p_b fun a1 =>
  LdI .u64 (a1.add 1) fun x2 =>
  R (x2, ())
def sumpterref10_Back_Safe_ann : Ann := .seq .leaf (.seq .leaf .leaf)
set_option maxRecDepth 100000 in
theorem sumpterref10_Back_Safe_den (p_b : Option Addr) (R : TR [.sc (.i .u64)] → Pr) : den Try.prog sumpterref10_Back_Safe_ann (Try.f35.body.getD .skip) (retQ Try.prog Try.f35.results.toList false [.sc (.i .u64)] R) (env0 7 [(.pointer p_b)]) = sumpterref10_Back_Safe p_b R := by
  kernel_rfl
set_option maxRecDepth 100000 in
theorem sumpterref10_Back_Safe_call (p_b : Option Addr) {R : TR [.sc (.i .u64)] → Pr} {w : World} (h : sumpterref10_Back_Safe p_b R w) : Cl Try.prog 35 [(.pointer p_b)] false [.sc (.i .u64)] R w :=
  call_of (P := Try.prog) (tup := false) (rs := [.sc (.i .u64)]) Try.checked.mixed sumpterref10_Back_Safe_ann (by kernel_rfl) Try.func35 (by kernel_rfl) Try.ntmps35 (by show Try.f35.results.size = 1; kernel_rfl) (by rw [← sumpterref10_Back_Safe_den] at h; exact h)

/-- (*sumpter/sumpterref10.Back).Force -/
abbrev i_sumpterref10_Back_Force : FuncId := 36
def sumpterref10_Back_Force (p_b : Option Addr) (p_lsn : Int) (R : TR [.sc (.i .i64)] → Pr) : Pr :=
  Cl Try.prog 34 [(.pointer p_b), (.agg #[(.int .i64 3), (.int .i64 0), (.int .u64 p_lsn), (.string (BA []))])] false [.sc .b] fun r1 =>
  Br r1.1 (
  R (60, ())) (
  Nn p_b fun a2 =>
  LdI .u64 (a2.add 1) fun x3 =>
  Nn p_b fun a4 =>
  St (a4.add 1) (.int .u64 (if (p_lsn : Int) > x3 then p_lsn else x3)) <|
  R (0, ()))
def sumpterref10_Back_Force_ann : Ann := .seq .leaf (.seq (.seq .leaf (.cond (.seq .leaf .leaf) .leaf)) (.seq .leaf (.seq .leaf .leaf)))
set_option maxRecDepth 100000 in
theorem sumpterref10_Back_Force_den (p_b : Option Addr) (p_lsn : Int) (R : TR [.sc (.i .i64)] → Pr) : den Try.prog sumpterref10_Back_Force_ann (Try.f36.body.getD .skip) (retQ Try.prog Try.f36.results.toList false [.sc (.i .i64)] R) (env0 18 [(.pointer p_b), (.int .u64 p_lsn)]) = sumpterref10_Back_Force p_b p_lsn R := by
  kernel_rfl
set_option maxRecDepth 100000 in
theorem sumpterref10_Back_Force_call (p_b : Option Addr) (p_lsn : Int) {R : TR [.sc (.i .i64)] → Pr} {w : World} (h : sumpterref10_Back_Force p_b p_lsn R w) : Cl Try.prog 36 [(.pointer p_b), (.int .u64 p_lsn)] false [.sc (.i .i64)] R w :=
  call_of (P := Try.prog) (tup := false) (rs := [.sc (.i .i64)]) Try.checked.mixed sumpterref10_Back_Force_ann (by kernel_rfl) Try.func36 (by kernel_rfl) Try.ntmps36 (by show Try.f36.results.size = 1; kernel_rfl) (by rw [← sumpterref10_Back_Force_den] at h; exact h)

/-- (*sumpter/sumpterref10.Back).Save -/
abbrev i_sumpterref10_Back_Save : FuncId := 37
def sumpterref10_Back_Save (p_b : Option Addr) (p_id : Int) (p_x : Sl) (R : TR [.sc (.i .i64)] → Pr) : Pr :=
  BtoS p_x fun s1 =>
  Cl Try.prog 34 [(.pointer p_b), (.agg #[(.int .i64 2), (.int .i64 p_id), (.int .u64 0), (.string s1)])] false [.sc .b] fun r2 =>
  Br r2.1 (
  R (60, ())) (
  Dr <|
  Nn p_b fun a3 =>
  LdM (a3.add 0) fun x4 =>
  BtoS p_x fun s5 =>
  MSet (.int .i64) x4 (.int .i64 p_id) (.string s5) <|
  R (0, ()))
def sumpterref10_Back_Save_ann : Ann := .seq .leaf (.seq (.seq .leaf (.cond (.seq .leaf .leaf) .leaf)) (.seq .leaf (.seq .leaf .leaf)))
set_option maxRecDepth 100000 in
theorem sumpterref10_Back_Save_den (p_b : Option Addr) (p_id : Int) (p_x : Sl) (R : TR [.sc (.i .i64)] → Pr) : den Try.prog sumpterref10_Back_Save_ann (Try.f37.body.getD .skip) (retQ Try.prog Try.f37.results.toList false [.sc (.i .i64)] R) (env0 20 [(.pointer p_b), (.int .i64 p_id), (.slice p_x.p p_x.len p_x.cap)]) = sumpterref10_Back_Save p_b p_id p_x R := by
  kernel_rfl
set_option maxRecDepth 100000 in
theorem sumpterref10_Back_Save_call (p_b : Option Addr) (p_id : Int) (p_x : Sl) {R : TR [.sc (.i .i64)] → Pr} {w : World} (h : sumpterref10_Back_Save p_b p_id p_x R w) : Cl Try.prog 37 [(.pointer p_b), (.int .i64 p_id), (.slice p_x.p p_x.len p_x.cap)] false [.sc (.i .i64)] R w :=
  call_of (P := Try.prog) (tup := false) (rs := [.sc (.i .i64)]) Try.checked.mixed sumpterref10_Back_Save_ann (by kernel_rfl) Try.func37 (by kernel_rfl) Try.ntmps37 (by show Try.f37.results.size = 1; kernel_rfl) (by rw [← sumpterref10_Back_Save_den] at h; exact h)

/-- slices.pdqsortOrdered[int] -/
abbrev i_slices_pdqsortOrdered : FuncId := 38
def slices_pdqsortOrdered (p_data : Sl) (p_a : Int) (p_b : Int) (p_limit : Int) (R : TR [] → Pr) : Pr :=
  Lp (σ := Int × Int × Int × Bool × Bool × Unit) (fun L1 s2 =>
  Br (decide (((w64 (s2.2.1 - s2.1)) : Int) ≤ 12)) (
  Cl Try.prog 41 [(.slice p_data.p p_data.len p_data.cap), (.int .i64 s2.1), (.int .i64 s2.2.1)] true [] fun r3 =>
  R ()) (
  Br ((s2.2.2.1 : Int) == 0) (
  Cl Try.prog 42 [(.slice p_data.p p_data.len p_data.cap), (.int .i64 s2.1), (.int .i64 s2.2.1)] true [] fun r4 =>
  R ()) (
  Jp (σ := Int × Unit) (fun s6 =>
  Cl Try.prog 44 [(.slice p_data.p p_data.len p_data.cap), (.int .i64 s2.1), (.int .i64 s2.2.1)] true [.sc (.i .i64), .sc (.i .i64)] fun r7 =>
  Jp (σ := Int × Int × Unit) (fun s9 =>
  Jp (σ := Unit) (fun s11 =>
  Jp (σ := Bool × Unit) (fun s13 =>
  Br s13.1 (
  Cl Try.prog 48 [(.slice p_data.p p_data.len p_data.cap), (.int .i64 s2.1), (.int .i64 s2.2.1), (.int .i64 s9.1)] false [.sc (.i .i64)] fun r14 =>
  L1 (r14.1, s2.2.1, s6.1, s2.2.2.2.1, s2.2.2.2.2.1, ())) (
  Cl Try.prog 49 [(.slice p_data.p p_data.len p_data.cap), (.int .i64 s2.1), (.int .i64 s2.2.1), (.int .i64 s9.1)] true [.sc (.i .i64), .sc .b] fun r15 =>
  Req (8 ≠ (0 : Int)) <|
  Br (decide (((w64 (r15.1 - s2.1)) : Int) < (w64 (s2.2.1 - r15.1)))) (
  Cl Try.prog 38 [(.slice p_data.p p_data.len p_data.cap), (.int .i64 s2.1), (.int .i64 r15.1), (.int .i64 s6.1)] true [] fun r16 =>
  L1 ((w64 (r15.1 + 1)), s2.2.1, s6.1, (decide (((w64 (r15.1 - s2.1)) : Int) ≥ (w64 ((w64 (s2.2.1 - s2.1)).tdiv 8)))), r15.2.1, ())) (
  Cl Try.prog 38 [(.slice p_data.p p_data.len p_data.cap), (.int .i64 (w64 (r15.1 + 1))), (.int .i64 s2.2.1), (.int .i64 s6.1)] true [] fun r17 =>
  L1 (s2.1, r15.1, s6.1, (decide (((w64 (s2.2.1 - r15.1)) : Int) ≥ (w64 ((w64 (s2.2.1 - s2.1)).tdiv 8)))), r15.2.1, ())))) fun J12 =>
  Dr <|
  Br (decide ((s2.1 : Int) > 0)) (
  Ix p_data (w64 (s2.1 - 1)) 1 fun a18 =>
  LdI .i64 a18 fun x19 =>
  Ix p_data s9.1 1 fun a20 =>
  LdI .i64 a20 fun x21 =>
  Cl Try.prog 47 [(.int .i64 x19), (.int .i64 x21)] false [.sc .b] fun r22 =>
  J12 ((!r22.1), ())) (
  J12 (false, ()))) fun J10 =>
  Jp (σ := Bool × Unit) (fun s24 =>
  Br s24.1 (
  Cl Try.prog 46 [(.slice p_data.p p_data.len p_data.cap), (.int .i64 s2.1), (.int .i64 s2.2.1)] false [.sc .b] fun r25 =>
  Br r25.1 (
  R ()) (
  J10 ())) (
  J10 ())) fun J23 =>
  Br s2.2.2.2.1 (
  Br s2.2.2.2.2.1 (
  J23 (((s9.2.1 : Int) == 1), ())) (
  J23 (false, ()))) (
  J23 (false, ()))) fun J8 =>
  Br ((r7.2.1 : Int) == 2) (
  Cl Try.prog 45 [(.slice p_data.p p_data.len p_data.cap), (.int .i64 s2.1), (.int .i64 s2.2.1)] true [] fun r26 =>
  J8 ((w64 ((w64 (s2.2.1 - 1)) - (w64 (r7.1 - s2.1)))), 1, ())) (
  J8 (r7.1, r7.2.1, ()))) fun J5 =>
  Br (!s2.2.2.2.1) (
  Cl Try.prog 43 [(.slice p_data.p p_data.len p_data.cap), (.int .i64 s2.1), (.int .i64 s2.2.1)] true [] fun r27 =>
  J5 ((w64 (s2.2.2.1 - 1)), ())) (
  J5 (s2.2.2.1, ()))))) (p_a, p_b, p_limit, true, true, ())
def slices_pdqsortOrdered_ann : Ann := .seq .leaf (.seq .leaf (.block (.loop [(1, .sc (.i .i64)), (2, .sc (.i .i64)), (3, .sc (.i .i64)), (8, .sc .b), (9, .sc .b)] (.block (.seq .leaf (.seq (.seq .leaf (.cond (.seq .leaf .leaf) .leaf)) (.seq (.seq .leaf (.cond (.seq .leaf .leaf) .leaf)) (.seq (.join [(3, .sc (.i .i64))] (.seq .leaf (.cond (.seq .leaf .leaf) .leaf))) (.seq .leaf (.seq (.join [(11, .sc (.i .i64)), (12, .sc (.i .i64))] (.seq .leaf (.cond (.seq .leaf (.seq .leaf .leaf)) .leaf))) (.seq (.join [] (.seq (.join [(68, .sc .b)] .leaf) (.cond (.seq .leaf (.cond .leaf .leaf)) .leaf))) (.seq (.seq (.join [(87, .sc .b)] .leaf) (.cond (.seq .leaf (.seq .leaf .leaf)) .leaf)) (.seq .leaf (.seq .leaf (.seq .leaf (.seq .leaf (.seq .leaf (.cond (.seq .leaf (.seq .leaf .leaf)) (.seq .leaf (.seq .leaf .leaf))))))))))))))))))))
set_option maxRecDepth 100000 in
theorem slices_pdqsortOrdered_den (p_data : Sl) (p_a : Int) (p_b : Int) (p_limit : Int) (R : TR [] → Pr) : den Try.prog slices_pdqsortOrdered_ann (Try.f38.body.getD .skip) (retQ Try.prog Try.f38.results.toList true [] R) (env0 134 [(.slice p_data.p p_data.len p_data.cap), (.int .i64 p_a), (.int .i64 p_b), (.int .i64 p_limit)]) = slices_pdqsortOrdered p_data p_a p_b p_limit R := by
  kernel_rfl
set_option maxRecDepth 100000 in
theorem slices_pdqsortOrdered_call (p_data : Sl) (p_a : Int) (p_b : Int) (p_limit : Int) {R : TR [] → Pr} {w : World} (h : slices_pdqsortOrdered p_data p_a p_b p_limit R w) : Cl Try.prog 38 [(.slice p_data.p p_data.len p_data.cap), (.int .i64 p_a), (.int .i64 p_b), (.int .i64 p_limit)] true [] R w :=
  call_of (P := Try.prog) (tup := true) (rs := []) Try.checked.mixed slices_pdqsortOrdered_ann (by kernel_rfl) Try.func38 (by kernel_rfl) Try.ntmps38 (by show Nat.beq Try.f38.results.size 1 = false; kernel_rfl) (by rw [← slices_pdqsortOrdered_den] at h; exact h)

/-- math/bits.Len -/
abbrev i_math_bits_Len : FuncId := 39
def math_bits_Len (p_x : Int) (R : TR [.sc (.i .i64)] → Pr) : Pr :=
  Cl Try.prog 51 [(.int .u64 p_x)] false [.sc (.i .i64)] fun r1 =>
  R (r1.1, ())
def math_bits_Len_ann : Ann := .seq .leaf (.seq (.cond .leaf .leaf) (.seq .leaf .leaf))
set_option maxRecDepth 100000 in
theorem math_bits_Len_den (p_x : Int) (R : TR [.sc (.i .i64)] → Pr) : den Try.prog math_bits_Len_ann (Try.f39.body.getD .skip) (retQ Try.prog Try.f39.results.toList false [.sc (.i .i64)] R) (env0 8 [(.int .u64 p_x)]) = math_bits_Len p_x R := by
  kernel_rfl
set_option maxRecDepth 100000 in
theorem math_bits_Len_call (p_x : Int) {R : TR [.sc (.i .i64)] → Pr} {w : World} (h : math_bits_Len p_x R w) : Cl Try.prog 39 [(.int .u64 p_x)] false [.sc (.i .i64)] R w :=
  call_of (P := Try.prog) (tup := false) (rs := [.sc (.i .i64)]) Try.checked.mixed math_bits_Len_ann (by kernel_rfl) Try.func39 (by kernel_rfl) Try.ntmps39 (by show Try.f39.results.size = 1; kernel_rfl) (by rw [← math_bits_Len_den] at h; exact h)

/-- slices.IndexFunc[[]*sumpter/cache.place,*sumpter/cache.place] -/
abbrev i_slices_IndexFunc : FuncId := 40
def slices_IndexFunc (p_s : Sl) (p_f : Value) (R : TR [.sc (.i .i64)] → Pr) : Pr :=
  Lp (σ := Int × Int × Unit) (fun L1 s2 =>
  Br (decide ((s2.2.1 : Int) < ((p_s.len : Nat) : Int))) (
  Ix p_s s2.2.1 1 fun a3 =>
  LdP a3 fun x4 =>
  CallV Try.prog p_f [(.pointer x4)] false [.sc .b] fun r5 =>
  Br r5.1 (
  R (s2.2.1, ())) (
  L1 (s2.1, (w64 (s2.2.1 + 1)), ()))) (
  R ((-1), ()))) (0, 0, ())
def slices_IndexFunc_ann : Ann := .seq .leaf (.seq (.seq .leaf (.block (.loop [(4, .sc (.i .i64)), (8, .sc (.i .i64))] (.seq .leaf (.seq (.cond .leaf .leaf) (.seq (.block (.seq .leaf (.seq .leaf (.cond (.seq .leaf .leaf) .leaf)))) .leaf)))))) (.seq .leaf .leaf))
set_option maxRecDepth 100000 in
theorem slices_IndexFunc_den (p_s : Sl) (p_f : Value) (R : TR [.sc (.i .i64)] → Pr) : den Try.prog slices_IndexFunc_ann (Try.f40.body.getD .skip) (retQ Try.prog Try.f40.results.toList false [.sc (.i .i64)] R) (env0 19 [(.slice p_s.p p_s.len p_s.cap), p_f]) = slices_IndexFunc p_s p_f R := by
  kernel_rfl
set_option maxRecDepth 100000 in
theorem slices_IndexFunc_call (p_s : Sl) (p_f : Value) {R : TR [.sc (.i .i64)] → Pr} {w : World} (h : slices_IndexFunc p_s p_f R w) : Cl Try.prog 40 [(.slice p_s.p p_s.len p_s.cap), p_f] false [.sc (.i .i64)] R w :=
  call_of (P := Try.prog) (tup := false) (rs := [.sc (.i .i64)]) Try.checked.mixed slices_IndexFunc_ann (by kernel_rfl) Try.func40 (by kernel_rfl) Try.ntmps40 (by show Try.f40.results.size = 1; kernel_rfl) (by rw [← slices_IndexFunc_den] at h; exact h)

/-- slices.insertionSortOrdered[int] -/
abbrev i_slices_insertionSortOrdered : FuncId := 41
def slices_insertionSortOrdered (p_data : Sl) (p_a : Int) (p_b : Int) (R : TR [] → Pr) : Pr :=
  Lp (σ := Int × Unit) (fun L1 s2 =>
  Br (decide ((s2.1 : Int) < p_b)) (
  Lp (σ := Int × Unit) (fun L3 s4 =>
  Jp (σ := Bool × Unit) (fun s6 =>
  Br s6.1 (
  Dr <|
  Ix p_data (w64 (s4.1 - 1)) 1 fun a7 =>
  LdI .i64 a7 fun x8 =>
  Ix p_data s4.1 1 fun a9 =>
  LdI .i64 a9 fun x10 =>
  Ix p_data s4.1 1 fun a11 =>
  St a11 (.int .i64 x8) <|
  Ix p_data (w64 (s4.1 - 1)) 1 fun a12 =>
  St a12 (.int .i64 x10) <|
  L3 ((w64 (s4.1 - 1)), ())) (
  L1 ((w64 (s2.1 + 1)), ()))) fun J5 =>
  Dr <|
  Br (decide ((s4.1 : Int) > p_a)) (
  Ix p_data s4.1 1 fun a13 =>
  LdI .i64 a13 fun x14 =>
  Ix p_data (w64 (s4.1 - 1)) 1 fun a15 =>
  LdI .i64 a15 fun x16 =>
  Cl Try.prog 47 [(.int .i64 x14), (.int .i64 x16)] false [.sc .b] fun r17 =>
  J5 (r17.1, ())) (
  J5 (false, ()))) (s2.1, ())) (
  R ())) ((w64 (p_a + 1)), ())
def slices_insertionSortOrdered_ann : Ann := .seq .leaf (.block (.loop [(6, .sc (.i .i64))] (.seq (.seq .leaf (.cond .leaf .leaf)) (.seq (.block (.seq .leaf (.block (.loop [(7, .sc (.i .i64))] (.seq (.seq (.join [(30, .sc .b)] .leaf) (.cond .leaf .leaf)) (.seq (.block .leaf) .leaf)))))) .leaf))))
set_option maxRecDepth 100000 in
theorem slices_insertionSortOrdered_den (p_data : Sl) (p_a : Int) (p_b : Int) (R : TR [] → Pr) : den Try.prog slices_insertionSortOrdered_ann (Try.f41.body.getD .skip) (retQ Try.prog Try.f41.results.toList true [] R) (env0 49 [(.slice p_data.p p_data.len p_data.cap), (.int .i64 p_a), (.int .i64 p_b)]) = slices_insertionSortOrdered p_data p_a p_b R := by
  kernel_rfl
set_option maxRecDepth 100000 in
theorem slices_insertionSortOrdered_call (p_data : Sl) (p_a : Int) (p_b : Int) {R : TR [] → Pr} {w : World} (h : slices_insertionSortOrdered p_data p_a p_b R w) : Cl Try.prog 41 [(.slice p_data.p p_data.len p_data.cap), (.int .i64 p_a), (.int .i64 p_b)] true [] R w :=
  call_of (P := Try.prog) (tup := true) (rs := []) Try.checked.mixed slices_insertionSortOrdered_ann (by kernel_rfl) Try.func41 (by kernel_rfl) Try.ntmps41 (by show Nat.beq Try.f41.results.size 1 = false; kernel_rfl) (by rw [← slices_insertionSortOrdered_den] at h; exact h)

/-- slices.heapSortOrdered[int] -/
abbrev i_slices_heapSortOrdered : FuncId := 42
def slices_heapSortOrdered (p_data : Sl) (p_a : Int) (p_b : Int) (R : TR [] → Pr) : Pr :=
  Req (2 ≠ (0 : Int)) <|
  Lp (σ := Int × Unit) (fun L1 s2 =>
  Br (decide ((s2.1 : Int) ≥ 0)) (
  Cl Try.prog 52 [(.slice p_data.p p_data.len p_data.cap), (.int .i64 s2.1), (.int .i64 (w64 (p_b - p_a))), (.int .i64 p_a)] true [] fun r3 =>
  L1 ((w64 (s2.1 - 1)), ())) (
  Lp (σ := Int × Unit) (fun L4 s5 =>
  Br (decide ((s5.1 : Int) ≥ 0)) (
  Dr <|
  Ix p_data (w64 (p_a + s5.1)) 1 fun a6 =>
  LdI .i64 a6 fun x7 =>
  Ix p_data p_a 1 fun a8 =>
  LdI .i64 a8 fun x9 =>
  Ix p_data p_a 1 fun a10 =>
  St a10 (.int .i64 x7) <|
  Ix p_data (w64 (p_a + s5.1)) 1 fun a11 =>
  St a11 (.int .i64 x9) <|
  Cl Try.prog 52 [(.slice p_data.p p_data.len p_data.cap), (.int .i64 0), (.int .i64 s5.1), (.int .i64 p_a)] true [] fun r12 =>
  L4 ((w64 (s5.1 - 1)), ())) (
  R ())) ((w64 ((w64 (p_b - p_a)) - 1)), ()))) ((w64 ((w64 ((w64 (p_b - p_a)) - 1)).tdiv 2)), ())
def slices_heapSortOrdered_ann : Ann := .seq .leaf (.seq .leaf (.seq .leaf (.seq (.seq .leaf (.block (.loop [(9, .sc (.i .i64))] (.seq (.seq .leaf (.cond .leaf .leaf)) (.seq (.block .leaf) .leaf))))) (.seq .leaf (.block (.loop [(10, .sc (.i .i64))] (.seq (.seq .leaf (.cond .leaf .leaf)) (.seq (.block (.seq .leaf .leaf)) .leaf))))))))
set_option maxRecDepth 100000 in
theorem slices_heapSortOrdered_den (p_data : Sl) (p_a : Int) (p_b : Int) (R : TR [] → Pr) : den Try.prog slices_heapSortOrdered_ann (Try.f42.body.getD .skip) (retQ Try.prog Try.f42.results.toList true [] R) (env0 56 [(.slice p_data.p p_data.len p_data.cap), (.int .i64 p_a), (.int .i64 p_b)]) = slices_heapSortOrdered p_data p_a p_b R := by
  kernel_rfl
set_option maxRecDepth 100000 in
theorem slices_heapSortOrdered_call (p_data : Sl) (p_a : Int) (p_b : Int) {R : TR [] → Pr} {w : World} (h : slices_heapSortOrdered p_data p_a p_b R w) : Cl Try.prog 42 [(.slice p_data.p p_data.len p_data.cap), (.int .i64 p_a), (.int .i64 p_b)] true [] R w :=
  call_of (P := Try.prog) (tup := true) (rs := []) Try.checked.mixed slices_heapSortOrdered_ann (by kernel_rfl) Try.func42 (by kernel_rfl) Try.ntmps42 (by show Nat.beq Try.f42.results.size 1 = false; kernel_rfl) (by rw [← slices_heapSortOrdered_den] at h; exact h)

/-- slices.breakPatternsOrdered[int] -/
abbrev i_slices_breakPatternsOrdered : FuncId := 43
def slices_breakPatternsOrdered (p_data : Sl) (p_a : Int) (p_b : Int) (R : TR [] → Pr) : Pr :=
  Br (decide (((w64 (p_b - p_a)) : Int) ≥ 8)) (
  New #[(.int .u64 0)] 107 fun a1 =>
  St a1 (.int .u64 (IntKind.u64.wrap ((w64 (p_b - p_a))))) <|
  Cl Try.prog 53 [(.int .i64 (w64 (p_b - p_a)))] false [.sc (.i .u64)] fun r2 =>
  Req (4 ≠ (0 : Int)) <|
  Lp (σ := Int × Unit) (fun L3 s4 =>
  Req (4 ≠ (0 : Int)) <|
  Br (decide ((s4.1 : Int) ≤ (w64 ((w64 (p_a + (w64 ((w64 ((w64 (p_b - p_a)).tdiv 4)) * 2)))) + 1)))) (
  Cl Try.prog 54 [(.pointer (some a1))] false [.sc (.i .u64)] fun r5 =>
  Jp (σ := Int × Unit) (fun s7 =>
  Dr <|
  Ix p_data (w64 (p_a + s7.1)) 1 fun a8 =>
  LdI .i64 a8 fun x9 =>
  Ix p_data s4.1 1 fun a10 =>
  LdI .i64 a10 fun x11 =>
  Ix p_data s4.1 1 fun a12 =>
  St a12 (.int .i64 x9) <|
  Ix p_data (w64 (p_a + s7.1)) 1 fun a13 =>
  St a13 (.int .i64 x11) <|
  L3 ((w64 (s4.1 + 1)), ())) fun J6 =>
  Br (decide (((w64 ((iand .u64 r5.1 (IntKind.u64.wrap (r2.1 - 1))))) : Int) ≥ (w64 (p_b - p_a)))) (
  J6 ((w64 ((w64 ((iand .u64 r5.1 (IntKind.u64.wrap (r2.1 - 1))))) - (w64 (p_b - p_a)))), ())) (
  J6 ((w64 ((iand .u64 r5.1 (IntKind.u64.wrap (r2.1 - 1))))), ()))) (
  R ())) ((w64 ((w64 (p_a + (w64 ((w64 ((w64 (p_b - p_a)).tdiv 4)) * 2)))) - 1)), ())) (
  R ())
def slices_breakPatternsOrdered_ann : Ann := .seq .leaf (.seq .leaf (.cond (.seq .leaf (.seq .leaf (.seq .leaf (.block (.loop [(9, .sc (.i .i64))] (.seq (.seq .leaf (.cond .leaf .leaf)) (.seq (.block (.seq .leaf (.seq (.join [(10, .sc (.i .i64))] (.seq .leaf (.cond .leaf .leaf))) .leaf))) .leaf))))))) .leaf))
set_option maxRecDepth 100000 in
theorem slices_breakPatternsOrdered_den (p_data : Sl) (p_a : Int) (p_b : Int) (R : TR [] → Pr) : den Try.prog slices_breakPatternsOrdered_ann (Try.f43.body.getD .skip) (retQ Try.prog Try.f43.results.toList true [] R) (env0 65 [(.slice p_data.p p_data.len p_data.cap), (.int .i64 p_a), (.int .i64 p_b)]) = slices_breakPatternsOrdered p_data p_a p_b R := by
  kernel_rfl
set_option maxRecDepth 100000 in
theorem slices_breakPatternsOrdered_call (p_data : Sl) (p_a : Int) (p_b : Int) {R : TR [] → Pr} {w : World} (h : slices_breakPatternsOrdered p_data p_a p_b R w) : Cl Try.prog 43 [(.slice p_data.p p_data.len p_data.cap), (.int .i64 p_a), (.int .i64 p_b)] true [] R w :=
  call_of (P := Try.prog) (tup := true) (rs := []) Try.checked.mixed slices_breakPatternsOrdered_ann (by kernel_rfl) Try.func43 (by kernel_rfl) Try.ntmps43 (by show Nat.beq Try.f43.results.size 1 = false; kernel_rfl) (by rw [← slices_breakPatternsOrdered_den] at h; exact h)

/-- slices.choosePivotOrdered[int] -/
abbrev i_slices_choosePivotOrdered : FuncId := 44
def slices_choosePivotOrdered (p_data : Sl) (p_a : Int) (p_b : Int) (R : TR [.sc (.i .i64), .sc (.i .i64)] → Pr) : Pr :=
  New #[(.int .i64 0)] 3 fun a1 =>
  Req (4 ≠ (0 : Int)) <|
  Req (4 ≠ (0 : Int)) <|
  Req (4 ≠ (0 : Int)) <|
  Jp (σ := Int × Unit) (fun s3 =>
  LdI .i64 a1 fun x4 =>
  Br ((x4 : Int) == 0) (
  R (s3.1, 1, ())) (
  Br ((x4 : Int) == 12) (
  R (s3.1, 2, ())) (
  R (s3.1, 0, ())))) fun J2 =>
  Br (decide (((w64 (p_b - p_a)) : Int) ≥ 8)) (
  Jp (σ := Int × Int × Int × Unit) (fun s6 =>
  Cl Try.prog 56 [(.slice p_data.p p_data.len p_data.cap), (.int .i64 s6.1), (.int .i64 s6.2.1), (.int .i64 s6.2.2.1), (.pointer (some a1))] false [.sc (.i .i64)] fun r7 =>
  J2 (r7.1, ())) fun J5 =>
  Br (decide (((w64 (p_b - p_a)) : Int) ≥ 50)) (
  Cl Try.prog 55 [(.slice p_data.p p_data.len p_data.cap), (.int .i64 (w64 (p_a + (w64 ((w64 ((w64 (p_b - p_a)).tdiv 4)) * 1))))), (.pointer (some a1))] false [.sc (.i .i64)] fun r8 =>
  Cl Try.prog 55 [(.slice p_data.p p_data.len p_data.cap), (.int .i64 (w64 (p_a + (w64 ((w64 ((w64 (p_b - p_a)).tdiv 4)) * 2))))), (.pointer (some a1))] false [.sc (.i .i64)] fun r9 =>
  Cl Try.prog 55 [(.slice p_data.p p_data.len p_data.cap), (.int .i64 (w64 (p_a + (w64 ((w64 ((w64 (p_b - p_a)).tdiv 4)) * 3))))), (.pointer (some a1))] false [.sc (.i .i64)] fun r10 =>
  J5 (r8.1, r9.1, r10.1, ())) (
  J5 ((w64 (p_a + (w64 ((w64 ((w64 (p_b - p_a)).tdiv 4)) * 1)))), (w64 (p_a + (w64 ((w64 ((w64 (p_b - p_a)).tdiv 4)) * 2)))), (w64 (p_a + (w64 ((w64 ((w64 (p_b - p_a)).tdiv 4)) * 3)))), ()))) (
  J2 ((w64 (p_a + (w64 ((w64 ((w64 (p_b - p_a)).tdiv 4)) * 2)))), ()))
def slices_choosePivotOrdered_ann : Ann := .seq .leaf (.seq .leaf (.seq .leaf (.seq .leaf (.seq .leaf (.seq .leaf (.seq (.join [(11, .sc (.i .i64))] (.seq .leaf (.cond (.seq (.join [(10, .sc (.i .i64)), (11, .sc (.i .i64)), (12, .sc (.i .i64))] (.seq .leaf (.cond (.seq .leaf (.seq .leaf .leaf)) .leaf))) .leaf) .leaf))) (.seq .leaf (.block (.seq .leaf (.cond (.seq .leaf .leaf) (.seq .leaf (.cond (.seq .leaf .leaf) (.seq .leaf .leaf)))))))))))))
set_option maxRecDepth 100000 in
theorem slices_choosePivotOrdered_den (p_data : Sl) (p_a : Int) (p_b : Int) (R : TR [.sc (.i .i64), .sc (.i .i64)] → Pr) : den Try.prog slices_choosePivotOrdered_ann (Try.f44.body.getD .skip) (retQ Try.prog Try.f44.results.toList true [.sc (.i .i64), .sc (.i .i64)] R) (env0 57 [(.slice p_data.p p_data.len p_data.cap), (.int .i64 p_a), (.int .i64 p_b)]) = slices_choosePivotOrdered p_data p_a p_b R := by
  kernel_rfl
set_option maxRecDepth 100000 in
theorem slices_choosePivotOrdered_call (p_data : Sl) (p_a : Int) (p_b : Int) {R : TR [.sc (.i .i64), .sc (.i .i64)] → Pr} {w : World} (h : slices_choosePivotOrdered p_data p_a p_b R w) : Cl Try.prog 44 [(.slice p_data.p p_data.len p_data.cap), (.int .i64 p_a), (.int .i64 p_b)] true [.sc (.i .i64), .sc (.i .i64)] R w :=
  call_of (P := Try.prog) (tup := true) (rs := [.sc (.i .i64), .sc (.i .i64)]) Try.checked.mixed slices_choosePivotOrdered_ann (by kernel_rfl) Try.func44 (by kernel_rfl) Try.ntmps44 (by show Nat.beq Try.f44.results.size 1 = false; kernel_rfl) (by rw [← slices_choosePivotOrdered_den] at h; exact h)

/-- slices.reverseRangeOrdered[int] -/
abbrev i_slices_reverseRangeOrdered : FuncId := 45
def slices_reverseRangeOrdered (p_data : Sl) (p_a : Int) (p_b : Int) (R : TR [] → Pr) : Pr :=
  Lp (σ := Int × Int × Unit) (fun L1 s2 =>
  Br (decide ((s2.1 : Int) < s2.2.1)) (
  Dr <|
  Ix p_data s2.2.1 1 fun a3 =>
  LdI .i64 a3 fun x4 =>
  Ix p_data s2.1 1 fun a5 =>
  LdI .i64 a5 fun x6 =>
  Ix p_data s2.1 1 fun a7 =>
  St a7 (.int .i64 x4) <|
  Ix p_data s2.2.1 1 fun a8 =>
  St a8 (.int .i64 x6) <|
  L1 ((w64 (s2.1 + 1)), (w64 (s2.2.1 - 1)), ())) (
  R ())) (p_a, (w64 (p_b - 1)), ())
def slices_reverseRangeOrdered_ann : Ann := .seq .leaf (.seq .leaf (.block (.loop [(6, .sc (.i .i64)), (7, .sc (.i .i64))] (.seq (.seq .leaf (.cond .leaf .leaf)) (.block (.seq .leaf (.seq .leaf .leaf)))))))
set_option maxRecDepth 100000 in
theorem slices_reverseRangeOrdered_den (p_data : Sl) (p_a : Int) (p_b : Int) (R : TR [] → Pr) : den Try.prog slices_reverseRangeOrdered_ann (Try.f45.body.getD .skip) (retQ Try.prog Try.f45.results.toList true [] R) (env0 32 [(.slice p_data.p p_data.len p_data.cap), (.int .i64 p_a), (.int .i64 p_b)]) = slices_reverseRangeOrdered p_data p_a p_b R := by
  kernel_rfl
set_option maxRecDepth 100000 in
theorem slices_reverseRangeOrdered_call (p_data : Sl) (p_a : Int) (p_b : Int) {R : TR [] → Pr} {w : World} (h : slices_reverseRangeOrdered p_data p_a p_b R w) : Cl Try.prog 45 [(.slice p_data.p p_data.len p_data.cap), (.int .i64 p_a), (.int .i64 p_b)] true [] R w :=
  call_of (P := Try.prog) (tup := true) (rs := []) Try.checked.mixed slices_reverseRangeOrdered_ann (by kernel_rfl) Try.func45 (by kernel_rfl) Try.ntmps45 (by show Nat.beq Try.f45.results.size 1 = false; kernel_rfl) (by rw [← slices_reverseRangeOrdered_den] at h; exact h)

/-- slices.partialInsertionSortOrdered[int] -/
abbrev i_slices_partialInsertionSortOrdered : FuncId := 46
def slices_partialInsertionSortOrdered (p_data : Sl) (p_a : Int) (p_b : Int) (R : TR [.sc .b] → Pr) : Pr :=
  Lp (σ := Bool × Int × Int × Unit) (fun L1 s2 =>
  Br (decide ((s2.2.2.1 : Int) < 5)) (
  Jp (σ := Bool × Int × Unit) (fun s4 =>
  L1 (s4.1, s4.2.1, (w64 (s2.2.2.1 + 1)), ())) fun J3 =>
  Lp (σ := Int × Unit) (fun L5 s6 =>
  Jp (σ := Bool × Unit) (fun s8 =>
  Br s8.1 (
  L5 ((w64 (s6.1 + 1)), ())) (
  Br ((s6.1 : Int) == p_b) (
  R (true, ())) (
  Br (decide (((w64 (p_b - p_a)) : Int) < 50)) (
  R (false, ())) (
  Dr <|
  Ix p_data (w64 (s6.1 - 1)) 1 fun a9 =>
  LdI .i64 a9 fun x10 =>
  Ix p_data s6.1 1 fun a11 =>
  LdI .i64 a11 fun x12 =>
  Ix p_data s6.1 1 fun a13 =>
  St a13 (.int .i64 x10) <|
  Ix p_data (w64 (s6.1 - 1)) 1 fun a14 =>
  St a14 (.int .i64 x12) <|
  Jp (σ := Unit) (fun s16 =>
  Br (decide (((w64 (p_b - s6.1)) : Int) ≥ 2)) (
  Lp (σ := Int × Unit) (fun L17 s18 =>
  Br (decide ((s18.1 : Int) < p_b)) (
  Dr <|
  Ix p_data s18.1 1 fun a19 =>
  LdI .i64 a19 fun x20 =>
  Ix p_data (w64 (s18.1 - 1)) 1 fun a21 =>
  LdI .i64 a21 fun x22 =>
  Cl Try.prog 47 [(.int .i64 x20), (.int .i64 x22)] false [.sc .b] fun r23 =>
  Br (!r23.1) (
  J3 (s2.1, s6.1, ())) (
  Dr <|
  Ix p_data (w64 (s18.1 - 1)) 1 fun a24 =>
  LdI .i64 a24 fun x25 =>
  Ix p_data s18.1 1 fun a26 =>
  LdI .i64 a26 fun x27 =>
  Ix p_data s18.1 1 fun a28 =>
  St a28 (.int .i64 x25) <|
  Ix p_data (w64 (s18.1 - 1)) 1 fun a29 =>
  St a29 (.int .i64 x27) <|
  L17 ((w64 (s18.1 + 1)), ()))) (
  J3 (s2.1, s6.1, ()))) ((w64 (s6.1 + 1)), ())) (
  J3 (s2.1, s6.1, ()))) fun J15 =>
  Br (decide (((w64 (s6.1 - p_a)) : Int) ≥ 2)) (
  Lp (σ := Int × Unit) (fun L30 s31 =>
  Br (decide ((s31.1 : Int) ≥ 1)) (
  Dr <|
  Ix p_data s31.1 1 fun a32 =>
  LdI .i64 a32 fun x33 =>
  Ix p_data (w64 (s31.1 - 1)) 1 fun a34 =>
  LdI .i64 a34 fun x35 =>
  Cl Try.prog 47 [(.int .i64 x33), (.int .i64 x35)] false [.sc .b] fun r36 =>
  Br (!r36.1) (
  J15 ()) (
  Dr <|
  Ix p_data (w64 (s31.1 - 1)) 1 fun a37 =>
  LdI .i64 a37 fun x38 =>
  Ix p_data s31.1 1 fun a39 =>
  LdI .i64 a39 fun x40 =>
  Ix p_data s31.1 1 fun a41 =>
  St a41 (.int .i64 x38) <|
  Ix p_data (w64 (s31.1 - 1)) 1 fun a42 =>
  St a42 (.int .i64 x40) <|
  L30 ((w64 (s31.1 - 1)), ()))) (
  J15 ())) ((w64 (s6.1 - 1)), ())) (
  J15 ()))))) fun J7 =>
  Dr <|
  Br (decide ((s6.1 : Int) < p_b)) (
  Ix p_data s6.1 1 fun a43 =>
  LdI .i64 a43 fun x44 =>
  Ix p_data (w64 (s6.1 - 1)) 1 fun a45 =>
  LdI .i64 a45 fun x46 =>
  Cl Try.prog 47 [(.int .i64 x44), (.int .i64 x46)] false [.sc .b] fun r47 =>
  J7 ((!r47.1), ())) (
  J7 (false, ()))) (s2.2.1, ())) (
  R (false, ()))) (false, (w64 (p_a + 1)), 0, ())
def slices_partialInsertionSortOrdered_ann : Ann := .seq .leaf (.seq .leaf (.seq (.seq .leaf (.block (.loop [(6, .sc .b), (7, .sc (.i .i64)), (8, .sc (.i .i64))] (.seq (.seq .leaf (.cond .leaf .leaf)) (.seq (.join [(6, .sc .b), (7, .sc (.i .i64))] (.block (.seq (.block (.loop [(7, .sc (.i .i64))] (.seq (.seq (.join [(32, .sc .b)] .leaf) (.cond .leaf .leaf)) (.block .leaf)))) (.seq (.seq .leaf (.cond (.seq .leaf .leaf) .leaf)) (.seq (.seq .leaf (.cond (.seq .leaf .leaf) .leaf)) (.seq .leaf (.seq (.join [] (.seq .leaf (.cond (.seq .leaf (.block (.loop [(9, .sc (.i .i64))] (.seq (.seq .leaf (.cond .leaf .leaf)) (.seq (.block (.seq (.seq .leaf (.cond .leaf .leaf)) .leaf)) .leaf))))) .leaf))) (.seq .leaf (.cond (.seq .leaf (.block (.loop [(10, .sc (.i .i64))] (.seq (.seq .leaf (.cond .leaf .leaf)) (.seq (.block (.seq (.seq .leaf (.cond .leaf .leaf)) .leaf)) .leaf))))) .leaf))))))))) .leaf))))) (.seq .leaf .leaf)))
set_option maxRecDepth 100000 in
theorem slices_partialInsertionSortOrdered_den (p_data : Sl) (p_a : Int) (p_b : Int) (R : TR [.sc .b] → Pr) : den Try.prog slices_partialInsertionSortOrdered_ann (Try.f46.body.getD .skip) (retQ Try.prog Try.f46.results.toList false [.sc .b] R) (env0 133 [(.slice p_data.p p_data.len p_data.cap), (.int .i64 p_a), (.int .i64 p_b)]) = slices_partialInsertionSortOrdered p_data p_a p_b R := by
  kernel_rfl
set_option maxRecDepth 100000 in
theorem slices_partialInsertionSortOrdered_call (p_data : Sl) (p_a : Int) (p_b : Int) {R : TR [.sc .b] → Pr} {w : World} (h : slices_partialInsertionSortOrdered p_data p_a p_b R w) : Cl Try.prog 46 [(.slice p_data.p p_data.len p_data.cap), (.int .i64 p_a), (.int .i64 p_b)] false [.sc .b] R w :=
  call_of (P := Try.prog) (tup := false) (rs := [.sc .b]) Try.checked.mixed slices_partialInsertionSortOrdered_ann (by kernel_rfl) Try.func46 (by kernel_rfl) Try.ntmps46 (by show Try.f46.results.size = 1; kernel_rfl) (by rw [← slices_partialInsertionSortOrdered_den] at h; exact h)

/-- cmp.Less[int] -/
abbrev i_cmp_Less : FuncId := 47
def cmp_Less (p_x : Int) (p_y : Int) (R : TR [.sc .b] → Pr) : Pr :=
  Cl Try.prog 57 [(.int .i64 p_x)] false [.sc .b] fun r1 =>
  Br r1.1 (
  Cl Try.prog 57 [(.int .i64 p_y)] false [.sc .b] fun r2 =>
  Br (!r2.1) (
  R (true, ())) (
  R ((decide ((p_x : Int) < p_y)), ()))) (
  R ((decide ((p_x : Int) < p_y)), ()))
def cmp_Less_ann : Ann := .seq .leaf (.seq .leaf .leaf)
set_option maxRecDepth 100000 in
theorem cmp_Less_den (p_x : Int) (p_y : Int) (R : TR [.sc .b] → Pr) : den Try.prog cmp_Less_ann (Try.f47.body.getD .skip) (retQ Try.prog Try.f47.results.toList false [.sc .b] R) (env0 17 [(.int .i64 p_x), (.int .i64 p_y)]) = cmp_Less p_x p_y R := by
  kernel_rfl
set_option maxRecDepth 100000 in
theorem cmp_Less_call (p_x : Int) (p_y : Int) {R : TR [.sc .b] → Pr} {w : World} (h : cmp_Less p_x p_y R w) : Cl Try.prog 47 [(.int .i64 p_x), (.int .i64 p_y)] false [.sc .b] R w :=
  call_of (P := Try.prog) (tup := false) (rs := [.sc .b]) Try.checked.mixed cmp_Less_ann (by kernel_rfl) Try.func47 (by kernel_rfl) Try.ntmps47 (by show Try.f47.results.size = 1; kernel_rfl) (by rw [← cmp_Less_den] at h; exact h)

/-- slices.partitionEqualOrdered[int] -/
abbrev i_slices_partitionEqualOrdered : FuncId := 48
def slices_partitionEqualOrdered (p_data : Sl) (p_a : Int) (p_b : Int) (p_pivot : Int) (R : TR [.sc (.i .i64)] → Pr) : Pr :=
  Dr <|
  Ix p_data p_pivot 1 fun a1 =>
  LdI .i64 a1 fun x2 =>
  Ix p_data p_a 1 fun a3 =>
  LdI .i64 a3 fun x4 =>
  Ix p_data p_a 1 fun a5 =>
  St a5 (.int .i64 x2) <|
  Ix p_data p_pivot 1 fun a6 =>
  St a6 (.int .i64 x4) <|
  Lp (σ := Int × Int × Unit) (fun L7 s8 =>
  Lp (σ := Int × Unit) (fun L9 s10 =>
  Jp (σ := Bool × Unit) (fun s12 =>
  Br s12.1 (
  L9 ((w64 (s10.1 + 1)), ())) (
  Lp (σ := Int × Unit) (fun L13 s14 =>
  Jp (σ := Bool × Unit) (fun s16 =>
  Br s16.1 (
  L13 ((w64 (s14.1 - 1)), ())) (
  Br (decide ((s10.1 : Int) > s14.1)) (
  R (s10.1, ())) (
  Dr <|
  Ix p_data s14.1 1 fun a17 =>
  LdI .i64 a17 fun x18 =>
  Ix p_data s10.1 1 fun a19 =>
  LdI .i64 a19 fun x20 =>
  Ix p_data s10.1 1 fun a21 =>
  St a21 (.int .i64 x18) <|
  Ix p_data s14.1 1 fun a22 =>
  St a22 (.int .i64 x20) <|
  L7 ((w64 (s10.1 + 1)), (w64 (s14.1 - 1)), ())))) fun J15 =>
  Dr <|
  Br (decide ((s10.1 : Int) ≤ s14.1)) (
  Ix p_data p_a 1 fun a23 =>
  LdI .i64 a23 fun x24 =>
  Ix p_data s14.1 1 fun a25 =>
  LdI .i64 a25 fun x26 =>
  Cl Try.prog 47 [(.int .i64 x24), (.int .i64 x26)] false [.sc .b] fun r27 =>
  J15 (r27.1, ())) (
  J15 (false, ()))) (s8.2.1, ()))) fun J11 =>
  Dr <|
  Br (decide ((s10.1 : Int) ≤ s8.2.1)) (
  Ix p_data p_a 1 fun a28 =>
  LdI .i64 a28 fun x29 =>
  Ix p_data s10.1 1 fun a30 =>
  LdI .i64 a30 fun x31 =>
  Cl Try.prog 47 [(.int .i64 x29), (.int .i64 x31)] false [.sc .b] fun r32 =>
  J11 ((!r32.1), ())) (
  J11 (false, ()))) (s8.1, ())) ((w64 (p_a + 1)), (w64 (p_b - 1)), ())
def slices_partitionEqualOrdered_ann : Ann := .seq .leaf (.seq .leaf (.seq .leaf (.seq (.block (.loop [(9, .sc (.i .i64)), (10, .sc (.i .i64))] (.block (.seq (.block (.loop [(9, .sc (.i .i64))] (.seq (.seq (.join [(43, .sc .b)] .leaf) (.cond .leaf .leaf)) (.block .leaf)))) (.seq (.block (.loop [(10, .sc (.i .i64))] (.seq (.seq (.join [(59, .sc .b)] .leaf) (.cond .leaf .leaf)) (.block .leaf)))) (.seq (.seq .leaf (.cond .leaf .leaf)) (.seq .leaf (.seq .leaf .leaf)))))))) (.seq .leaf .leaf))))
set_option maxRecDepth 100000 in
theorem slices_partitionEqualOrdered_den (p_data : Sl) (p_a : Int) (p_b : Int) (p_pivot : Int) (R : TR [.sc (.i .i64)] → Pr) : den Try.prog slices_partitionEqualOrdered_ann (Try.f48.body.getD .skip) (retQ Try.prog Try.f48.results.toList false [.sc (.i .i64)] R) (env0 84 [(.slice p_data.p p_data.len p_data.cap), (.int .i64 p_a), (.int .i64 p_b), (.int .i64 p_pivot)]) = slices_partitionEqualOrdered p_data p_a p_b p_pivot R := by
  kernel_rfl
set_option maxRecDepth 100000 in
theorem slices_partitionEqualOrdered_call (p_data : Sl) (p_a : Int) (p_b : Int) (p_pivot : Int) {R : TR [.sc (.i .i64)] → Pr} {w : World} (h : slices_partitionEqualOrdered p_data p_a p_b p_pivot R w) : Cl Try.prog 48 [(.slice p_data.p p_data.len p_data.cap), (.int .i64 p_a), (.int .i64 p_b), (.int .i64 p_pivot)] false [.sc (.i .i64)] R w :=
  call_of (P := Try.prog) (tup := false) (rs := [.sc (.i .i64)]) Try.checked.mixed slices_partitionEqualOrdered_ann (by kernel_rfl) Try.func48 (by kernel_rfl) Try.ntmps48 (by show Try.f48.results.size = 1; kernel_rfl) (by rw [← slices_partitionEqualOrdered_den] at h; exact h)

/-- slices.partitionOrdered[int] -/
abbrev i_slices_partitionOrdered : FuncId := 49
def slices_partitionOrdered (p_data : Sl) (p_a : Int) (p_b : Int) (p_pivot : Int) (R : TR [.sc (.i .i64), .sc .b] → Pr) : Pr :=
  Dr <|
  Ix p_data p_pivot 1 fun a1 =>
  LdI .i64 a1 fun x2 =>
  Ix p_data p_a 1 fun a3 =>
  LdI .i64 a3 fun x4 =>
  Ix p_data p_a 1 fun a5 =>
  St a5 (.int .i64 x2) <|
  Ix p_data p_pivot 1 fun a6 =>
  St a6 (.int .i64 x4) <|
  Lp (σ := Int × Unit) (fun L7 s8 =>
  Jp (σ := Bool × Unit) (fun s10 =>
  Br s10.1 (
  L7 ((w64 (s8.1 + 1)), ())) (
  Lp (σ := Int × Unit) (fun L11 s12 =>
  Jp (σ := Bool × Unit) (fun s14 =>
  Br s14.1 (
  L11 ((w64 (s12.1 - 1)), ())) (
  Br (decide ((s8.1 : Int) > s12.1)) (
  Dr <|
  Ix p_data p_a 1 fun a15 =>
  LdI .i64 a15 fun x16 =>
  Ix p_data s12.1 1 fun a17 =>
  LdI .i64 a17 fun x18 =>
  Ix p_data s12.1 1 fun a19 =>
  St a19 (.int .i64 x16) <|
  Ix p_data p_a 1 fun a20 =>
  St a20 (.int .i64 x18) <|
  R (s12.1, true, ())) (
  Dr <|
  Ix p_data s12.1 1 fun a21 =>
  LdI .i64 a21 fun x22 =>
  Ix p_data s8.1 1 fun a23 =>
  LdI .i64 a23 fun x24 =>
  Ix p_data s8.1 1 fun a25 =>
  St a25 (.int .i64 x22) <|
  Ix p_data s12.1 1 fun a26 =>
  St a26 (.int .i64 x24) <|
  Lp (σ := Int × Int × Unit) (fun L27 s28 =>
  Lp (σ := Int × Unit) (fun L29 s30 =>
  Jp (σ := Bool × Unit) (fun s32 =>
  Br s32.1 (
  L29 ((w64 (s30.1 + 1)), ())) (
  Lp (σ := Int × Unit) (fun L33 s34 =>
  Jp (σ := Bool × Unit) (fun s36 =>
  Br s36.1 (
  L33 ((w64 (s34.1 - 1)), ())) (
  Br (decide ((s30.1 : Int) > s34.1)) (
  Dr <|
  Ix p_data p_a 1 fun a37 =>
  LdI .i64 a37 fun x38 =>
  Ix p_data s34.1 1 fun a39 =>
  LdI .i64 a39 fun x40 =>
  Ix p_data s34.1 1 fun a41 =>
  St a41 (.int .i64 x38) <|
  Ix p_data p_a 1 fun a42 =>
  St a42 (.int .i64 x40) <|
  R (s34.1, false, ())) (
  Dr <|
  Ix p_data s34.1 1 fun a43 =>
  LdI .i64 a43 fun x44 =>
  Ix p_data s30.1 1 fun a45 =>
  LdI .i64 a45 fun x46 =>
  Ix p_data s30.1 1 fun a47 =>
  St a47 (.int .i64 x44) <|
  Ix p_data s34.1 1 fun a48 =>
  St a48 (.int .i64 x46) <|
  L27 ((w64 (s30.1 + 1)), (w64 (s34.1 - 1)), ())))) fun J35 =>
  Dr <|
  Br (decide ((s30.1 : Int) ≤ s34.1)) (
  Ix p_data s34.1 1 fun a49 =>
  LdI .i64 a49 fun x50 =>
  Ix p_data p_a 1 fun a51 =>
  LdI .i64 a51 fun x52 =>
  Cl Try.prog 47 [(.int .i64 x50), (.int .i64 x52)] false [.sc .b] fun r53 =>
  J35 ((!r53.1), ())) (
  J35 (false, ()))) (s28.2.1, ()))) fun J31 =>
  Dr <|
  Br (decide ((s30.1 : Int) ≤ s28.2.1)) (
  Ix p_data s30.1 1 fun a54 =>
  LdI .i64 a54 fun x55 =>
  Ix p_data p_a 1 fun a56 =>
  LdI .i64 a56 fun x57 =>
  Cl Try.prog 47 [(.int .i64 x55), (.int .i64 x57)] false [.sc .b] fun r58 =>
  J31 (r58.1, ())) (
  J31 (false, ()))) (s28.1, ())) ((w64 (s8.1 + 1)), (w64 (s12.1 - 1)), ())))) fun J13 =>
  Dr <|
  Br (decide ((s8.1 : Int) ≤ s12.1)) (
  Ix p_data s12.1 1 fun a59 =>
  LdI .i64 a59 fun x60 =>
  Ix p_data p_a 1 fun a61 =>
  LdI .i64 a61 fun x62 =>
  Cl Try.prog 47 [(.int .i64 x60), (.int .i64 x62)] false [.sc .b] fun r63 =>
  J13 ((!r63.1), ())) (
  J13 (false, ()))) ((w64 (p_b - 1)), ()))) fun J9 =>
  Dr <|
  Br (decide ((s8.1 : Int) ≤ (w64 (p_b - 1)))) (
  Ix p_data s8.1 1 fun a64 =>
  LdI .i64 a64 fun x65 =>
  Ix p_data p_a 1 fun a66 =>
  LdI .i64 a66 fun x67 =>
  Cl Try.prog 47 [(.int .i64 x65), (.int .i64 x67)] false [.sc .b] fun r68 =>
  J9 (r68.1, ())) (
  J9 (false, ()))) ((w64 (p_a + 1)), ())
def slices_partitionOrdered_ann : Ann := .seq .leaf (.seq .leaf (.seq .leaf (.seq (.block (.loop [(10, .sc (.i .i64))] (.seq (.seq (.join [(43, .sc .b)] .leaf) (.cond .leaf .leaf)) (.block .leaf)))) (.seq (.block (.loop [(11, .sc (.i .i64))] (.seq (.seq (.join [(60, .sc .b)] .leaf) (.cond .leaf .leaf)) (.block .leaf)))) (.seq (.seq .leaf (.cond (.seq .leaf (.seq .leaf .leaf)) .leaf)) (.seq .leaf (.seq .leaf (.seq .leaf (.seq (.block (.loop [(10, .sc (.i .i64)), (11, .sc (.i .i64))] (.block (.seq (.block (.loop [(10, .sc (.i .i64))] (.seq (.seq (.join [(112, .sc .b)] .leaf) (.cond .leaf .leaf)) (.block .leaf)))) (.seq (.block (.loop [(11, .sc (.i .i64))] (.seq (.seq (.join [(129, .sc .b)] .leaf) (.cond .leaf .leaf)) (.block .leaf)))) (.seq (.seq .leaf (.cond .leaf .leaf)) (.seq .leaf (.seq .leaf .leaf)))))))) (.seq .leaf (.seq .leaf .leaf)))))))))))
set_option maxRecDepth 100000 in
theorem slices_partitionOrdered_den (p_data : Sl) (p_a : Int) (p_b : Int) (p_pivot : Int) (R : TR [.sc (.i .i64), .sc .b] → Pr) : den Try.prog slices_partitionOrdered_ann (Try.f49.body.getD .skip) (retQ Try.prog Try.f49.results.toList true [.sc (.i .i64), .sc .b] R) (env0 168 [(.slice p_data.p p_data.len p_data.cap), (.int .i64 p_a), (.int .i64 p_b), (.int .i64 p_pivot)]) = slices_partitionOrdered p_data p_a p_b p_pivot R := by
  kernel_rfl
set_option maxRecDepth 100000 in
theorem slices_partitionOrdered_call (p_data : Sl) (p_a : Int) (p_b : Int) (p_pivot : Int) {R : TR [.sc (.i .i64), .sc .b] → Pr} {w : World} (h : slices_partitionOrdered p_data p_a p_b p_pivot R w) : Cl Try.prog 49 [(.slice p_data.p p_data.len p_data.cap), (.int .i64 p_a), (.int .i64 p_b), (.int .i64 p_pivot)] true [.sc (.i .i64), .sc .b] R w :=
  call_of (P := Try.prog) (tup := true) (rs := [.sc (.i .i64), .sc .b]) Try.checked.mixed slices_partitionOrdered_ann (by kernel_rfl) Try.func49 (by kernel_rfl) Try.ntmps49 (by show Nat.beq Try.f49.results.size 1 = false; kernel_rfl) (by rw [← slices_partitionOrdered_den] at h; exact h)

/-- math/bits.Len32 -/
abbrev i_math_bits_Len32 : FuncId := 50
def math_bits_Len32 (p_x : Int) (R : TR [.sc (.i .i64)] → Pr) : Pr :=
  Jp (σ := Int × Int × Unit) (fun s2 =>
  Jp (σ := Int × Int × Unit) (fun s4 =>
  IxS (BA [0, 1, 2, 2, 3, 3, 3, 3, 4, 4, 4, 4, 4, 4, 4, 4, 5, 5, 5, 5, 5, 5, 5, 5, 5, 5, 5, 5, 5, 5, 5, 5, 6, 6, 6, 6, 6, 6, 6, 6, 6, 6, 6, 6, 6, 6, 6, 6, 6, 6, 6, 6, 6, 6, 6, 6, 6, 6, 6, 6, 6, 6, 6, 6, 7, 7, 7, 7, 7, 7, 7, 7, 7, 7, 7, 7, 7, 7, 7, 7, 7, 7, 7, 7, 7, 7, 7, 7, 7, 7, 7, 7, 7, 7, 7, 7, 7, 7, 7, 7, 7, 7, 7, 7, 7, 7, 7, 7, 7, 7, 7, 7, 7, 7, 7, 7, 7, 7, 7, 7, 7, 7, 7, 7, 7, 7, 7, 7, 8, 8, 8, 8, 8, 8, 8, 8, 8, 8, 8, 8, 8, 8, 8, 8, 8, 8, 8, 8, 8, 8, 8, 8, 8, 8, 8, 8, 8, 8, 8, 8, 8, 8, 8, 8, 8, 8, 8, 8, 8, 8, 8, 8, 8, 8, 8, 8, 8, 8, 8, 8, 8, 8, 8, 8, 8, 8, 8, 8, 8, 8, 8, 8, 8, 8, 8, 8, 8, 8, 8, 8, 8, 8, 8, 8, 8, 8, 8, 8, 8, 8, 8, 8, 8, 8, 8, 8, 8, 8, 8, 8, 8, 8, 8, 8, 8, 8, 8, 8, 8, 8, 8, 8, 8, 8, 8, 8, 8, 8, 8, 8, 8, 8, 8, 8, 8, 8, 8, 8, 8, 8, 8, 8, 8, 8, 8, 8]) (IntKind.u8.wrap (s4.1)) fun c5 =>
  R ((w64 (s4.2.1 + (w64 (c5)))), ())) fun J3 =>
  Br (decide ((s2.1 : Int) ≥ 256)) (
  Req ((0 : Int) ≤ 8) <|
  J3 ((ishr .u32 s2.1 8), (w64 (s2.2.1 + 8)), ())) (
  J3 (s2.1, s2.2.1, ()))) fun J1 =>
  Br (decide ((p_x : Int) ≥ 65536)) (
  Req ((0 : Int) ≤ 16) <|
  J1 ((ishr .u32 p_x 16), 16, ())) (
  J1 (p_x, 0, ()))
def math_bits_Len32_ann : Ann := .seq .leaf (.seq (.join [(0, .sc (.i .u32)), (2, .sc (.i .i64))] (.seq .leaf (.cond (.seq .leaf .leaf) .leaf))) (.seq (.join [(0, .sc (.i .u32)), (2, .sc (.i .i64))] (.seq .leaf (.cond (.seq .leaf .leaf) .leaf))) (.seq .leaf .leaf)))
set_option maxRecDepth 100000 in
theorem math_bits_Len32_den (p_x : Int) (R : TR [.sc (.i .i64)] → Pr) : den Try.prog math_bits_Len32_ann (Try.f50.body.getD .skip) (retQ Try.prog Try.f50.results.toList false [.sc (.i .i64)] R) (env0 19 [(.int .u32 p_x)]) = math_bits_Len32 p_x R := by
  kernel_rfl
set_option maxRecDepth 100000 in
theorem math_bits_Len32_call (p_x : Int) {R : TR [.sc (.i .i64)] → Pr} {w : World} (h : math_bits_Len32 p_x R w) : Cl Try.prog 50 [(.int .u32 p_x)] false [.sc (.i .i64)] R w :=
  call_of (P := Try.prog) (tup := false) (rs := [.sc (.i .i64)]) Try.checked.mixed math_bits_Len32_ann (by kernel_rfl) Try.func50 (by kernel_rfl) Try.ntmps50 (by show Try.f50.results.size = 1; kernel_rfl) (by rw [← math_bits_Len32_den] at h; exact h)

/-- math/bits.Len64 -/
abbrev i_math_bits_Len64 : FuncId := 51
def math_bits_Len64 (p_x : Int) (R : TR [.sc (.i .i64)] → Pr) : Pr :=
  Jp (σ := Int × Int × Unit) (fun s2 =>
  Jp (σ := Int × Int × Unit) (fun s4 =>
  Jp (σ := Int × Int × Unit) (fun s6 =>
  IxS (BA [0, 1, 2, 2, 3, 3, 3, 3, 4, 4, 4, 4, 4, 4, 4, 4, 5, 5, 5, 5, 5, 5, 5, 5, 5, 5, 5, 5, 5, 5, 5, 5, 6, 6, 6, 6, 6, 6, 6, 6, 6, 6, 6, 6, 6, 6, 6, 6, 6, 6, 6, 6, 6, 6, 6, 6, 6, 6, 6, 6, 6, 6, 6, 6, 7, 7, 7, 7, 7, 7, 7, 7, 7, 7, 7, 7, 7, 7, 7, 7, 7, 7, 7, 7, 7, 7, 7, 7, 7, 7, 7, 7, 7, 7, 7, 7, 7, 7, 7, 7, 7, 7, 7, 7, 7, 7, 7, 7, 7, 7, 7, 7, 7, 7, 7, 7, 7, 7, 7, 7, 7, 7, 7, 7, 7, 7, 7, 7, 8, 8, 8, 8, 8, 8, 8, 8, 8, 8, 8, 8, 8, 8, 8, 8, 8, 8, 8, 8, 8, 8, 8, 8, 8, 8, 8, 8, 8, 8, 8, 8, 8, 8, 8, 8, 8, 8, 8, 8, 8, 8, 8, 8, 8, 8, 8, 8, 8, 8, 8, 8, 8, 8, 8, 8, 8, 8, 8, 8, 8, 8, 8, 8, 8, 8, 8, 8, 8, 8, 8, 8, 8, 8, 8, 8, 8, 8, 8, 8, 8, 8, 8, 8, 8, 8, 8, 8, 8, 8, 8, 8, 8, 8, 8, 8, 8, 8, 8, 8, 8, 8, 8, 8, 8, 8, 8, 8, 8, 8, 8, 8, 8, 8, 8, 8, 8, 8, 8, 8, 8, 8, 8, 8, 8, 8, 8, 8]) (IntKind.u8.wrap (s6.1)) fun c7 =>
  R ((w64 (s6.2.1 + (w64 (c7)))), ())) fun J5 =>
  Br (decide ((s4.1 : Int) ≥ 256)) (
  Req ((0 : Int) ≤ 8) <|
  J5 ((ishr .u64 s4.1 8), (w64 (s4.2.1 + 8)), ())) (
  J5 (s4.1, s4.2.1, ()))) fun J3 =>
  Br (decide ((s2.1 : Int) ≥ 65536)) (
  Req ((0 : Int) ≤ 16) <|
  J3 ((ishr .u64 s2.1 16), (w64 (s2.2.1 + 16)), ())) (
  J3 (s2.1, s2.2.1, ()))) fun J1 =>
  Br (decide ((p_x : Int) ≥ 4294967296)) (
  Req ((0 : Int) ≤ 32) <|
  J1 ((ishr .u64 p_x 32), 32, ())) (
  J1 (p_x, 0, ()))
def math_bits_Len64_ann : Ann := .seq .leaf (.seq (.join [(0, .sc (.i .u64)), (2, .sc (.i .i64))] (.seq .leaf (.cond (.seq .leaf .leaf) .leaf))) (.seq (.join [(0, .sc (.i .u64)), (2, .sc (.i .i64))] (.seq .leaf (.cond (.seq .leaf .leaf) .leaf))) (.seq (.join [(0, .sc (.i .u64)), (2, .sc (.i .i64))] (.seq .leaf (.cond (.seq .leaf .leaf) .leaf))) (.seq .leaf .leaf))))
set_option maxRecDepth 100000 in
theorem math_bits_Len64_den (p_x : Int) (R : TR [.sc (.i .i64)] → Pr) : den Try.prog math_bits_Len64_ann (Try.f51.body.getD .skip) (retQ Try.prog Try.f51.results.toList false [.sc (.i .i64)] R) (env0 25 [(.int .u64 p_x)]) = math_bits_Len64 p_x R := by
  kernel_rfl
set_option maxRecDepth 100000 in
theorem math_bits_Len64_call (p_x : Int) {R : TR [.sc (.i .i64)] → Pr} {w : World} (h : math_bits_Len64 p_x R w) : Cl Try.prog 51 [(.int .u64 p_x)] false [.sc (.i .i64)] R w :=
  call_of (P := Try.prog) (tup := false) (rs := [.sc (.i .i64)]) Try.checked.mixed math_bits_Len64_ann (by kernel_rfl) Try.func51 (by kernel_rfl) Try.ntmps51 (by show Try.f51.results.size = 1; kernel_rfl) (by rw [← math_bits_Len64_den] at h; exact h)

/-- slices.siftDownOrdered[int] -/
abbrev i_slices_siftDownOrdered : FuncId := 52
def slices_siftDownOrdered (p_data : Sl) (p_lo : Int) (p_hi : Int) (p_first : Int) (R : TR [] → Pr) : Pr :=
  Lp (σ := Int × Unit) (fun L1 s2 =>
  Br (decide (((w64 ((w64 (2 * s2.1)) + 1)) : Int) ≥ p_hi)) (
  R ()) (
  Jp (σ := Int × Unit) (fun s4 =>
  Dr <|
  Ix p_data (w64 (p_first + s2.1)) 1 fun a5 =>
  LdI .i64 a5 fun x6 =>
  Ix p_data (w64 (p_first + s4.1)) 1 fun a7 =>
  LdI .i64 a7 fun x8 =>
  Cl Try.prog 47 [(.int .i64 x6), (.int .i64 x8)] false [.sc .b] fun r9 =>
  Br (!r9.1) (
  R ()) (
  Dr <|
  Ix p_data (w64 (p_first + s4.1)) 1 fun a10 =>
  LdI .i64 a10 fun x11 =>
  Ix p_data (w64 (p_first + s2.1)) 1 fun a12 =>
  LdI .i64 a12 fun x13 =>
  Ix p_data (w64 (p_first + s2.1)) 1 fun a14 =>
  St a14 (.int .i64 x11) <|
  Ix p_data (w64 (p_first + s4.1)) 1 fun a15 =>
  St a15 (.int .i64 x13) <|
  L1 (s4.1, ()))) fun J3 =>
  Jp (σ := Bool × Unit) (fun s17 =>
  Br s17.1 (
  J3 ((w64 ((w64 ((w64 (2 * s2.1)) + 1)) + 1)), ())) (
  J3 ((w64 ((w64 (2 * s2.1)) + 1)), ()))) fun J16 =>
  Dr <|
  Br (decide (((w64 ((w64 ((w64 (2 * s2.1)) + 1)) + 1)) : Int) < p_hi)) (
  Ix p_data (w64 (p_first + (w64 ((w64 (2 * s2.1)) + 1)))) 1 fun a18 =>
  LdI .i64 a18 fun x19 =>
  Ix p_data (w64 ((w64 (p_first + (w64 ((w64 (2 * s2.1)) + 1)))) + 1)) 1 fun a20 =>
  LdI .i64 a20 fun x21 =>
  Cl Try.prog 47 [(.int .i64 x19), (.int .i64 x21)] false [.sc .b] fun r22 =>
  J16 (r22.1, ())) (
  J16 (false, ())))) (p_lo, ())
def slices_siftDownOrdered_ann : Ann := .seq .leaf (.block (.loop [(8, .sc (.i .i64))] (.block (.seq .leaf (.seq (.seq .leaf (.cond .leaf .leaf)) (.seq (.join [(9, .sc (.i .i64))] (.seq (.join [(36, .sc .b)] .leaf) (.cond .leaf .leaf))) (.seq (.seq .leaf (.cond .leaf .leaf)) (.seq .leaf .leaf))))))))
set_option maxRecDepth 100000 in
theorem slices_siftDownOrdered_den (p_data : Sl) (p_lo : Int) (p_hi : Int) (p_first : Int) (R : TR [] → Pr) : den Try.prog slices_siftDownOrdered_ann (Try.f52.body.getD .skip) (retQ Try.prog Try.f52.results.toList true [] R) (env0 76 [(.slice p_data.p p_data.len p_data.cap), (.int .i64 p_lo), (.int .i64 p_hi), (.int .i64 p_first)]) = slices_siftDownOrdered p_data p_lo p_hi p_first R := by
  kernel_rfl
set_option maxRecDepth 100000 in
theorem slices_siftDownOrdered_call (p_data : Sl) (p_lo : Int) (p_hi : Int) (p_first : Int) {R : TR [] → Pr} {w : World} (h : slices_siftDownOrdered p_data p_lo p_hi p_first R w) : Cl Try.prog 52 [(.slice p_data.p p_data.len p_data.cap), (.int .i64 p_lo), (.int .i64 p_hi), (.int .i64 p_first)] true [] R w :=
  call_of (P := Try.prog) (tup := true) (rs := []) Try.checked.mixed slices_siftDownOrdered_ann (by kernel_rfl) Try.func52 (by kernel_rfl) Try.ntmps52 (by show Nat.beq Try.f52.results.size 1 = false; kernel_rfl) (by rw [← slices_siftDownOrdered_den] at h; exact h)

/-- slices.nextPowerOfTwo -/
abbrev i_slices_nextPowerOfTwo : FuncId := 53
def slices_nextPowerOfTwo (p_length : Int) (R : TR [.sc (.i .u64)] → Pr) : Pr :=
  Cl Try.prog 39 [(.int .u64 (IntKind.u64.wrap (p_length)))] false [.sc (.i .i64)] fun r1 =>
  Req ((0 : Int) ≤ r1.1) <|
  R ((ishl .u64 1 r1.1), ())
def slices_nextPowerOfTwo_ann : Ann := .seq .leaf (.seq .leaf .leaf)
set_option maxRecDepth 100000 in
theorem slices_nextPowerOfTwo_den (p_length : Int) (R : TR [.sc (.i .u64)] → Pr) : den Try.prog slices_nextPowerOfTwo_ann (Try.f53.body.getD .skip) (retQ Try.prog Try.f53.results.toList false [.sc (.i .u64)] R) (env0 7 [(.int .i64 p_length)]) = slices_nextPowerOfTwo p_length R := by
  kernel_rfl
set_option maxRecDepth 100000 in
theorem slices_nextPowerOfTwo_call (p_length : Int) {R : TR [.sc (.i .u64)] → Pr} {w : World} (h : slices_nextPowerOfTwo p_length R w) : Cl Try.prog 53 [(.int .i64 p_length)] false [.sc (.i .u64)] R w :=
  call_of (P := Try.prog) (tup := false) (rs := [.sc (.i .u64)]) Try.checked.mixed slices_nextPowerOfTwo_ann (by kernel_rfl) Try.func53 (by kernel_rfl) Try.ntmps53 (by show Try.f53.results.size = 1; kernel_rfl) (by rw [← slices_nextPowerOfTwo_den] at h; exact h)

/-- (*slices.xorshift).Next -/
abbrev i_slices_xorshift_Next : FuncId := 54
def slices_xorshift_Next (p_r : Option Addr) (R : TR [.sc (.i .u64)] → Pr) : Pr :=
  Dr <|
  Nn p_r fun a1 =>
  LdI .u64 a1 fun x2 =>
  Nn p_r fun a3 =>
  LdI .u64 a3 fun x4 =>
  Req ((0 : Int) ≤ 13) <|
  Nn p_r fun a5 =>
  St a5 (.int .u64 (ixor .u64 x2 (ishl .u64 x4 13))) <|
  Dr <|
  Nn p_r fun a6 =>
  LdI .u64 a6 fun x7 =>
  Nn p_r fun a8 =>
  LdI .u64 a8 fun x9 =>
  Req ((0 : Int) ≤ 7) <|
  Nn p_r fun a10 =>
  St a10 (.int .u64 (ixor .u64 x7 (ishr .u64 x9 7))) <|
  Dr <|
  Nn p_r fun a11 =>
  LdI .u64 a11 fun x12 =>
  Nn p_r fun a13 =>
  LdI .u64 a13 fun x14 =>
  Req ((0 : Int) ≤ 17) <|
  Nn p_r fun a15 =>
  St a15 (.int .u64 (ixor .u64 x12 (ishl .u64 x14 17))) <|
  Nn p_r fun a16 =>
  LdI .u64 a16 fun x17 =>
  R (x17, ())
def slices_xorshift_Next_ann : Ann := .seq .leaf (.seq .leaf (.seq .leaf (.seq .leaf (.seq .leaf .leaf))))
set_option maxRecDepth 100000 in
theorem slices_xorshift_Next_den (p_r : Option Addr) (R : TR [.sc (.i .u64)] → Pr) : den Try.prog slices_xorshift_Next_ann (Try.f54.body.getD .skip) (retQ Try.prog Try.f54.results.toList false [.sc (.i .u64)] R) (env0 33 [(.pointer p_r)]) = slices_xorshift_Next p_r R := by
  kernel_rfl
set_option maxRecDepth 100000 in
theorem slices_xorshift_Next_call (p_r : Option Addr) {R : TR [.sc (.i .u64)] → Pr} {w : World} (h : slices_xorshift_Next p_r R w) : Cl Try.prog 54 [(.pointer p_r)] false [.sc (.i .u64)] R w :=
  call_of (P := Try.prog) (tup := false) (rs := [.sc (.i .u64)]) Try.checked.mixed slices_xorshift_Next_ann (by kernel_rfl) Try.func54 (by kernel_rfl) Try.ntmps54 (by show Try.f54.results.size = 1; kernel_rfl) (by rw [← slices_xorshift_Next_den] at h; exact h)

/-- slices.medianAdjacentOrdered[int] -/
abbrev i_slices_medianAdjacentOrdered : FuncId := 55
def slices_medianAdjacentOrdered (p_data : Sl) (p_a : Int) (p_swaps : Option Addr) (R : TR [.sc (.i .i64)] → Pr) : Pr :=
  Cl Try.prog 56 [(.slice p_data.p p_data.len p_data.cap), (.int .i64 (w64 (p_a - 1))), (.int .i64 p_a), (.int .i64 (w64 (p_a + 1))), (.pointer p_swaps)] false [.sc (.i .i64)] fun r1 =>
  R (r1.1, ())
def slices_medianAdjacentOrdered_ann : Ann := .seq .leaf (.seq .leaf .leaf)
set_option maxRecDepth 100000 in
theorem slices_medianAdjacentOrdered_den (p_data : Sl) (p_a : Int) (p_swaps : Option Addr) (R : TR [.sc (.i .i64)] → Pr) : den Try.prog slices_medianAdjacentOrdered_ann (Try.f55.body.getD .skip) (retQ Try.prog Try.f55.results.toList false [.sc (.i .i64)] R) (env0 15 [(.slice p_data.p p_data.len p_data.cap), (.int .i64 p_a), (.pointer p_swaps)]) = slices_medianAdjacentOrdered p_data p_a p_swaps R := by
  kernel_rfl
set_option maxRecDepth 100000 in
theorem slices_medianAdjacentOrdered_call (p_data : Sl) (p_a : Int) (p_swaps : Option Addr) {R : TR [.sc (.i .i64)] → Pr} {w : World} (h : slices_medianAdjacentOrdered p_data p_a p_swaps R w) : Cl Try.prog 55 [(.slice p_data.p p_data.len p_data.cap), (.int .i64 p_a), (.pointer p_swaps)] false [.sc (.i .i64)] R w :=
  call_of (P := Try.prog) (tup := false) (rs := [.sc (.i .i64)]) Try.checked.mixed slices_medianAdjacentOrdered_ann (by kernel_rfl) Try.func55 (by kernel_rfl) Try.ntmps55 (by show Try.f55.results.size = 1; kernel_rfl) (by rw [← slices_medianAdjacentOrdered_den] at h; exact h)

/-- slices.medianOrdered[int] -/
abbrev i_slices_medianOrdered : FuncId := 56
def slices_medianOrdered (p_data : Sl) (p_a : Int) (p_b : Int) (p_c : Int) (p_swaps : Option Addr) (R : TR [.sc (.i .i64)] → Pr) : Pr :=
  Cl Try.prog 58 [(.slice p_data.p p_data.len p_data.cap), (.int .i64 p_a), (.int .i64 p_b), (.pointer p_swaps)] true [.sc (.i .i64), .sc (.i .i64)] fun r1 =>
  Cl Try.prog 58 [(.slice p_data.p p_data.len p_data.cap), (.int .i64 r1.2.1), (.int .i64 p_c), (.pointer p_swaps)] true [.sc (.i .i64), .sc (.i .i64)] fun r2 =>
  Cl Try.prog 58 [(.slice p_data.p p_data.len p_data.cap), (.int .i64 r1.1), (.int .i64 r2.1), (.pointer p_swaps)] true [.sc (.i .i64), .sc (.i .i64)] fun r3 =>
  R (r3.2.1, ())
def slices_medianOrdered_ann : Ann := .seq .leaf (.seq .leaf (.seq .leaf (.seq .leaf (.seq .leaf .leaf))))
set_option maxRecDepth 100000 in
theorem slices_medianOrdered_den (p_data : Sl) (p_a : Int) (p_b : Int) (p_c : Int) (p_swaps : Option Addr) (R : TR [.sc (.i .i64)] → Pr) : den Try.prog slices_medianOrdered_ann (Try.f56.body.getD .skip) (retQ Try.prog Try.f56.results.toList false [.sc (.i .i64)] R) (env0 36 [(.slice p_data.p p_data.len p_data.cap), (.int .i64 p_a), (.int .i64 p_b), (.int .i64 p_c), (.pointer p_swaps)]) = slices_medianOrdered p_data p_a p_b p_c p_swaps R := by
  kernel_rfl
set_option maxRecDepth 100000 in
theorem slices_medianOrdered_call (p_data : Sl) (p_a : Int) (p_b : Int) (p_c : Int) (p_swaps : Option Addr) {R : TR [.sc (.i .i64)] → Pr} {w : World} (h : slices_medianOrdered p_data p_a p_b p_c p_swaps R w) : Cl Try.prog 56 [(.slice p_data.p p_data.len p_data.cap), (.int .i64 p_a), (.int .i64 p_b), (.int .i64 p_c), (.pointer p_swaps)] false [.sc (.i .i64)] R w :=
  call_of (P := Try.prog) (tup := false) (rs := [.sc (.i .i64)]) Try.checked.mixed slices_medianOrdered_ann (by kernel_rfl) Try.func56 (by kernel_rfl) Try.ntmps56 (by show Try.f56.results.size = 1; kernel_rfl) (by rw [← slices_medianOrdered_den] at h; exact h)

/-- cmp.isNaN[int] -/
abbrev i_cmp_isNaN : FuncId := 57
def cmp_isNaN (p_x : Int) (R : TR [.sc .b] → Pr) : Pr :=
  R (((p_x : Int) != p_x), ())
def cmp_isNaN_ann : Ann := .seq .leaf (.seq .leaf .leaf)
set_option maxRecDepth 100000 in
theorem cmp_isNaN_den (p_x : Int) (R : TR [.sc .b] → Pr) : den Try.prog cmp_isNaN_ann (Try.f57.body.getD .skip) (retQ Try.prog Try.f57.results.toList false [.sc .b] R) (env0 6 [(.int .i64 p_x)]) = cmp_isNaN p_x R := by
  kernel_rfl
set_option maxRecDepth 100000 in
theorem cmp_isNaN_call (p_x : Int) {R : TR [.sc .b] → Pr} {w : World} (h : cmp_isNaN p_x R w) : Cl Try.prog 57 [(.int .i64 p_x)] false [.sc .b] R w :=
  call_of (P := Try.prog) (tup := false) (rs := [.sc .b]) Try.checked.mixed cmp_isNaN_ann (by kernel_rfl) Try.func57 (by kernel_rfl) Try.ntmps57 (by show Try.f57.results.size = 1; kernel_rfl) (by rw [← cmp_isNaN_den] at h; exact h)

/-- slices.order2Ordered[int] -/
abbrev i_slices_order2Ordered : FuncId := 58
def slices_order2Ordered (p_data : Sl) (p_a : Int) (p_b : Int) (p_swaps : Option Addr) (R : TR [.sc (.i .i64), .sc (.i .i64)] → Pr) : Pr :=
  Dr <|
  Ix p_data p_b 1 fun a1 =>
  LdI .i64 a1 fun x2 =>
  Ix p_data p_a 1 fun a3 =>
  LdI .i64 a3 fun x4 =>
  Cl Try.prog 47 [(.int .i64 x2), (.int .i64 x4)] false [.sc .b] fun r5 =>
  Br r5.1 (
  Nn p_swaps fun a6 =>
  LdI .i64 a6 fun x7 =>
  Nn p_swaps fun a8 =>
  St a8 (.int .i64 (w64 (x7 + 1))) <|
  R (p_b, p_a, ())) (
  R (p_a, p_b, ()))
def slices_order2Ordered_ann : Ann := .seq .leaf (.seq (.seq .leaf (.cond (.seq .leaf (.seq .leaf .leaf)) .leaf)) (.seq .leaf .leaf))
set_option maxRecDepth 100000 in
theorem slices_order2Ordered_den (p_data : Sl) (p_a : Int) (p_b : Int) (p_swaps : Option Addr) (R : TR [.sc (.i .i64), .sc (.i .i64)] → Pr) : den Try.prog slices_order2Ordered_ann (Try.f58.body.getD .skip) (retQ Try.prog Try.f58.results.toList true [.sc (.i .i64), .sc (.i .i64)] R) (env0 28 [(.slice p_data.p p_data.len p_data.cap), (.int .i64 p_a), (.int .i64 p_b), (.pointer p_swaps)]) = slices_order2Ordered p_data p_a p_b p_swaps R := by
  kernel_rfl
set_option maxRecDepth 100000 in
theorem slices_order2Ordered_call (p_data : Sl) (p_a : Int) (p_b : Int) (p_swaps : Option Addr) {R : TR [.sc (.i .i64), .sc (.i .i64)] → Pr} {w : World} (h : slices_order2Ordered p_data p_a p_b p_swaps R w) : Cl Try.prog 58 [(.slice p_data.p p_data.len p_data.cap), (.int .i64 p_a), (.int .i64 p_b), (.pointer p_swaps)] true [.sc (.i .i64), .sc (.i .i64)] R w :=
  call_of (P := Try.prog) (tup := true) (rs := [.sc (.i .i64), .sc (.i .i64)]) Try.checked.mixed slices_order2Ordered_ann (by kernel_rfl) Try.func58 (by kernel_rfl) Try.ntmps58 (by show Nat.beq Try.f58.results.size 1 = false; kernel_rfl) (by rw [← slices_order2Ordered_den] at h; exact h)

end Go.Proofs.Ytelojafogbmbcaa
