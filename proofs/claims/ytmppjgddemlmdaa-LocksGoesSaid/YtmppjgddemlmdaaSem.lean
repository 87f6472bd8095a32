import Derived.Test.YtmppjgddemlmdaaChecked
import Derived.Test.YtmppjgddemlmdaaSxM
set_option linter.unusedVariables false
namespace Go.Proofs.Ytmppjgddemlmdaa
open Go Go.Sx

/-- gosem.cut.init -/
abbrev i_gosem_cut_init : FuncId := 2
def gosem_cut_init  (R : TR [] → Pr) : Pr :=
  Ex Try.prog 1 [] true [] fun r1 =>
  R ()
def gosem_cut_init_ann : Ann := .leaf
set_option maxRecDepth 100000 in
theorem gosem_cut_init_den  (R : TR [] → Pr) : den Try.prog gosem_cut_init_ann (Try.f2.body.getD .skip) (retQ Try.prog Try.f2.results.toList true [] R) [] (env0 1 []) = gosem_cut_init  R := by
  kernel_rfl
set_option maxRecDepth 100000 in
theorem gosem_cut_init_call  {R : TR [] → Pr} {w : World} (h : gosem_cut_init  R w) : Cl Try.prog 2 [] true [] R w :=
  call_of (P := Try.prog) (tup := true) (rs := []) Try.checked.mixed gosem_cut_init_ann (by kernel_rfl) Try.func2 (by kernel_rfl) Try.ntmps2 (by show Nat.beq Try.f2.results.size 1 = false; kernel_rfl) (by rw [← gosem_cut_init_den] at h; exact h)

/-- sumpter/sumpterlaw16.LocksReads -/
abbrev i_sumpterlaw16_LocksReads : FuncId := 3
def sumpterlaw16_LocksReads (p_l : Sl) (R : TR [.sc .b] → Pr) : Pr :=
  Cl Try.prog 8 [] false [.sc .b] fun r1 =>
  Cl Try.prog 9 [] false [.sc .p] fun r2 =>
  Jp (σ := Bool × Unit) (fun s4 =>
  Br s4.1 (
  Br r1.1 (
  R ((!(Option.isNone r2.1)), ())) (
  R (false, ()))) (
  Lp (σ := Bool × Int × Unit) (fun L5 s6 =>
  Br (decide ((s6.2.1 : Int) < ((p_l.len : Nat) : Int))) (
  Jp (σ := Bool × Unit) (fun s8 =>
  L5 (s8.1, (w64 (s6.2.1 + 1)), ())) fun J7 =>
  Ix p_l s6.2.1 6 fun a9 =>
  LdI .i64 (a9.add 0) fun x10 =>
  LdI .u64 (a9.add 1) fun x11 =>
  LdS (a9.add 2) fun x12 =>
  LdS (a9.add 3) fun x13 =>
  LdB (a9.add 4) fun x14 =>
  LdB (a9.add 5) fun x15 =>
  New #[(.int .i64 0), (.int .u64 0), (.string (BA [])), (.string (BA [])), (.bool false), (.bool false)] 32 fun a16 =>
  St (a16.add 0) (.int .i64 x10) <|
  St (a16.add 1) (.int .u64 x11) <|
  St (a16.add 2) (.string x12) <|
  St (a16.add 3) (.string x13) <|
  St (a16.add 4) (.bool x14) <|
  St (a16.add 5) (.bool x15) <|
  St ((a16.add 2).add 2) (.bool false) <|
  LdI .i64 (a16.add 0) fun x17 =>
  Br ((x17 : Int) != 0) (
  LdI .u64 (a16.add 1) fun x18 =>
  Cl Try.prog 10 [(.pointer r2.1), (.int .u64 x18)] true [.sc .sl, .sc .sl] fun r19 =>
  J7 (s6.1, ())) (
  LdI .u64 (a16.add 1) fun x20 =>
  LdS ((a16.add 2).add 0) fun x21 =>
  LdS ((a16.add 2).add 1) fun x22 =>
  LdB ((a16.add 2).add 2) fun x23 =>
  Cl Try.prog 11 [(.pointer r2.1), (.int .u64 x20), (.agg #[(.string x21), (.string x22), (.bool x23)])] true [.sc (.i .i64), .sc .sl, .sc .sl, .sc (.i .i64)] fun r24 =>
  Jp (σ := Bool × Unit) (fun s26 =>
  Br s26.1 (
  R (false, ())) (
  J7 (s6.1, ()))) fun J25 =>
  Br ((r24.2.2.2.1 : Int) == 0) (
  Br ((r24.1 : Int) != 1) (
  J25 (true, ())) (
  Br (decide (((w64 (((r24.2.1.len : Nat) : Int) + ((r24.2.2.1.len : Nat) : Int))) : Int) > 0)) (
  J25 (true, ())) (
  Br ((r24.2.2.2.1 : Int) != 0) (
  LdS (((a16.add 2).add 0).add 0) fun x27 =>
  LdS (((a16.add 2).add 0).add 1) fun x28 =>
  Cl Try.prog 12 [(.agg #[(.string x27), (.string x28)])] false [.sc (.i .i64)] fun r29 =>
  J25 (((r29.1 : Int) == 0), ())) (
  J25 (false, ()))))) (
  Br ((r24.2.2.2.1 : Int) != 0) (
  LdS (((a16.add 2).add 0).add 0) fun x30 =>
  LdS (((a16.add 2).add 0).add 1) fun x31 =>
  Cl Try.prog 12 [(.agg #[(.string x30), (.string x31)])] false [.sc (.i .i64)] fun r32 =>
  J25 (((r32.1 : Int) == 0), ())) (
  J25 (false, ()))))) (
  Br r1.1 (
  Cl Try.prog 13 [(.pointer r2.1)] false [.sc .sl] fun r33 =>
  R (((((r33.1.len : Nat) : Int) : Int) == 0), ())) (
  R (false, ())))) (false, 0, ()))) fun J3 =>
  Br (Option.isNone r2.1) (
  J3 (true, ())) (
  J3 ((decide ((((p_l.len : Nat) : Int) : Int) > 60)), ()))
def sumpterlaw16_LocksReads_ann : Ann := .seq .leaf (.seq .leaf (.seq .leaf (.seq (.seq (.join [(19, .sc .b)] .leaf) (.cond (.seq .leaf .leaf) .leaf)) (.seq (.seq .leaf (.block (.loop [(2, .sc .b), (27, .sc (.i .i64))] (.seq .leaf (.seq (.cond .leaf .leaf) (.seq (.join [(2, .sc .b)] (.block (.seq .leaf (.seq .leaf (.seq (.seq .leaf (.cond (.seq .leaf .leaf) .leaf)) (.seq .leaf (.seq (.join [(75, .sc .b)] .leaf) (.cond (.seq .leaf .leaf) .leaf)))))))) .leaf)))))) (.seq .leaf .leaf)))))
set_option maxRecDepth 100000 in
theorem sumpterlaw16_LocksReads_den (p_l : Sl) (R : TR [.sc .b] → Pr) : den Try.prog sumpterlaw16_LocksReads_ann (Try.f3.body.getD .skip) (retQ Try.prog Try.f3.results.toList false [.sc .b] R) [] (env0 84 [(.slice p_l.p p_l.len p_l.cap)]) = sumpterlaw16_LocksReads p_l R := by
  kernel_rfl
set_option maxRecDepth 100000 in
theorem sumpterlaw16_LocksReads_call (p_l : Sl) {R : TR [.sc .b] → Pr} {w : World} (h : sumpterlaw16_LocksReads p_l R w) : Cl Try.prog 3 [(.slice p_l.p p_l.len p_l.cap)] false [.sc .b] R w :=
  call_of (P := Try.prog) (tup := false) (rs := [.sc .b]) Try.checked.mixed sumpterlaw16_LocksReads_ann (by kernel_rfl) Try.func3 (by kernel_rfl) Try.ntmps3 (by show Try.f3.results.size = 1; kernel_rfl) (by rw [← sumpterlaw16_LocksReads_den] at h; exact h)

/-- sumpter/sumpterlaw16.LocksElder -/
abbrev i_sumpterlaw16_LocksElder : FuncId := 4
def sumpterlaw16_LocksElder (p_l : Sl) (p_last_0 : ByteArray) (p_last_1 : ByteArray) (p_last_2 : Bool) (R : TR [.sc .b] → Pr) : Pr :=
  New #[(.string p_last_0), (.string p_last_1), (.bool p_last_2)] 30 fun a1 =>
  Cl Try.prog 8 [] false [.sc .b] fun r2 =>
  Cl Try.prog 9 [] false [.sc .p] fun r3 =>
  Jp (σ := Bool × Unit) (fun s5 =>
  Br s5.1 (
  Br r2.1 (
  R ((!(Option.isNone r3.1)), ())) (
  R (false, ()))) (
  Lp (σ := Int × Unit) (fun L6 s7 =>
  Br (decide ((s7.1 : Int) < ((p_l.len : Nat) : Int))) (
  Jp (σ := Unit) (fun s9 =>
  L6 ((w64 (s7.1 + 1)), ())) fun J8 =>
  Ix p_l s7.1 6 fun a10 =>
  LdI .i64 (a10.add 0) fun x11 =>
  LdI .u64 (a10.add 1) fun x12 =>
  LdS (a10.add 2) fun x13 =>
  LdS (a10.add 3) fun x14 =>
  LdB (a10.add 4) fun x15 =>
  LdB (a10.add 5) fun x16 =>
  New #[(.int .i64 0), (.int .u64 0), (.string (BA [])), (.string (BA [])), (.bool false), (.bool false)] 32 fun a17 =>
  St (a17.add 0) (.int .i64 x11) <|
  St (a17.add 1) (.int .u64 x12) <|
  St (a17.add 2) (.string x13) <|
  St (a17.add 3) (.string x14) <|
  St (a17.add 4) (.bool x15) <|
  St (a17.add 5) (.bool x16) <|
  LdI .u64 (a17.add 1) fun x18 =>
  Br ((x18 : Int) == 0) (
  J8 ()) (
  LdI .i64 (a17.add 0) fun x19 =>
  Br ((x19 : Int) == 0) (
  LdI .u64 (a17.add 1) fun x20 =>
  LdS ((a17.add 2).add 0) fun x21 =>
  LdS ((a17.add 2).add 1) fun x22 =>
  LdB ((a17.add 2).add 2) fun x23 =>
  Cl Try.prog 11 [(.pointer r3.1), (.int .u64 x20), (.agg #[(.string x21), (.string x22), (.bool x23)])] true [.sc (.i .i64), .sc .sl, .sc .sl, .sc (.i .i64)] fun r24 =>
  J8 ()) (
  LdI .u64 (a17.add 1) fun x25 =>
  Cl Try.prog 10 [(.pointer r3.1), (.int .u64 x25)] true [.sc .sl, .sc .sl] fun r26 =>
  J8 ()))) (
  LdS (a1.add 0) fun x27 =>
  LdS (a1.add 1) fun x28 =>
  LdB (a1.add 2) fun x29 =>
  Cl Try.prog 11 [(.pointer r3.1), (.int .u64 0), (.agg #[(.string x27), (.string x28), (.bool x29)])] true [.sc (.i .i64), .sc .sl, .sc .sl, .sc (.i .i64)] fun r30 =>
  Jp (σ := Bool × Unit) (fun s32 =>
  Br s32.1 (
  R (false, ())) (
  Lp (σ := Bool × Int × Unit) (fun L33 s34 =>
  Br (decide ((s34.2.1 : Int) < ((r30.2.2.1.len : Nat) : Int))) (
  Ix r30.2.2.1 s34.2.1 1 fun a35 =>
  LdI .u64 a35 fun x36 =>
  Br ((x36 : Int) == 0) (
  R (false, ())) (
  L33 (s34.1, (w64 (s34.2.1 + 1)), ()))) (
  Cl Try.prog 14 [(.pointer r3.1)] false [.sc .sl] fun r37 =>
  Lp (σ := Bool × Int × Unit) (fun L38 s39 =>
  Br (decide ((s39.2.1 : Int) < ((r37.1.len : Nat) : Int))) (
  Jp (σ := Bool × Unit) (fun s41 =>
  L38 (s41.1, (w64 (s39.2.1 + 1)), ())) fun J40 =>
  Ix r37.1 s39.2.1 1 fun a42 =>
  LdI .u64 a42 fun x43 =>
  Br ((x43 : Int) == 0) (
  J40 (s39.1, ())) (
  Cl Try.prog 10 [(.pointer r3.1), (.int .u64 x43)] true [.sc .sl, .sc .sl] fun r44 =>
  Lp (σ := Bool × Int × Unit) (fun L45 s46 =>
  Br (decide ((s46.2.1 : Int) < ((r44.2.1.len : Nat) : Int))) (
  Ix r44.2.1 s46.2.1 1 fun a47 =>
  LdI .u64 a47 fun x48 =>
  Br ((x48 : Int) == 0) (
  R (false, ())) (
  L45 (s46.1, (w64 (s46.2.1 + 1)), ()))) (
  J40 (s46.1, ()))) (s39.1, 0, ()))) (
  Br r2.1 (
  Cl Try.prog 15 [(.pointer r3.1), (.int .u64 0)] false [.sc .sl] fun r49 =>
  R (((((r49.1.len : Nat) : Int) : Int) == 1), ())) (
  R (false, ())))) (s34.1, 0, ()))) (false, 0, ()))) fun J31 =>
  Br ((r30.2.2.2.1 : Int) != 0) (
  J31 (true, ())) (
  Br ((r30.1 : Int) != 1) (
  J31 (((r30.1 : Int) != 2), ())) (
  J31 (false, ()))))) (0, ()))) fun J4 =>
  Br (Option.isNone r3.1) (
  J4 (true, ())) (
  Br (decide ((((p_l.len : Nat) : Int) : Int) > 60)) (
  J4 (true, ())) (
  LdS ((a1.add 0).add 0) fun x50 =>
  LdS ((a1.add 0).add 1) fun x51 =>
  Cl Try.prog 12 [(.agg #[(.string x50), (.string x51)])] false [.sc (.i .i64)] fun r52 =>
  J4 (((r52.1 : Int) != 0), ())))
def sumpterlaw16_LocksElder_ann : Ann := .seq .leaf (.seq .leaf (.seq .leaf (.seq (.seq (.join [(35, .sc .b)] .leaf) (.cond (.seq .leaf .leaf) .leaf)) (.seq (.seq .leaf (.block (.loop [(43, .sc (.i .i64))] (.seq .leaf (.seq (.cond .leaf .leaf) (.seq (.join [] (.block (.seq .leaf (.seq (.seq .leaf (.cond .leaf .leaf)) (.seq .leaf (.cond .leaf .leaf)))))) .leaf)))))) (.seq .leaf (.seq (.seq (.join [(81, .sc .b)] .leaf) (.cond (.seq .leaf .leaf) .leaf)) (.seq (.seq .leaf (.block (.loop [(4, .sc .b), (84, .sc (.i .i64))] (.seq .leaf (.seq (.cond .leaf .leaf) (.seq (.block (.seq .leaf (.seq .leaf (.cond (.seq .leaf .leaf) .leaf)))) .leaf)))))) (.seq (.seq .leaf (.block (.loop [(4, .sc .b), (94, .sc (.i .i64))] (.seq .leaf (.seq (.cond .leaf .leaf) (.seq (.join [(4, .sc .b)] (.block (.seq .leaf (.seq (.seq .leaf (.cond .leaf .leaf)) (.seq .leaf (.seq .leaf (.block (.loop [(4, .sc .b), (108, .sc (.i .i64))] (.seq .leaf (.seq (.cond .leaf .leaf) (.seq (.block (.seq .leaf (.seq .leaf (.cond (.seq .leaf .leaf) .leaf)))) .leaf))))))))))) .leaf)))))) (.seq .leaf .leaf)))))))))
set_option maxRecDepth 100000 in
theorem sumpterlaw16_LocksElder_den (p_l : Sl) (p_last_0 : ByteArray) (p_last_1 : ByteArray) (p_last_2 : Bool) (R : TR [.sc .b] → Pr) : den Try.prog sumpterlaw16_LocksElder_ann (Try.f4.body.getD .skip) (retQ Try.prog Try.f4.results.toList false [.sc .b] R) [] (env0 123 [(.slice p_l.p p_l.len p_l.cap), (.agg #[(.string p_last_0), (.string p_last_1), (.bool p_last_2)])]) = sumpterlaw16_LocksElder p_l p_last_0 p_last_1 p_last_2 R := by
  kernel_rfl
set_option maxRecDepth 100000 in
theorem sumpterlaw16_LocksElder_call (p_l : Sl) (p_last_0 : ByteArray) (p_last_1 : ByteArray) (p_last_2 : Bool) {R : TR [.sc .b] → Pr} {w : World} (h : sumpterlaw16_LocksElder p_l p_last_0 p_last_1 p_last_2 R w) : Cl Try.prog 4 [(.slice p_l.p p_l.len p_l.cap), (.agg #[(.string p_last_0), (.string p_last_1), (.bool p_last_2)])] false [.sc .b] R w :=
  call_of (P := Try.prog) (tup := false) (rs := [.sc .b]) Try.checked.mixed sumpterlaw16_LocksElder_ann (by kernel_rfl) Try.func4 (by kernel_rfl) Try.ntmps4 (by show Try.f4.results.size = 1; kernel_rfl) (by rw [← sumpterlaw16_LocksElder_den] at h; exact h)

/-- sumpter/sumpterlaw16.LocksApart -/
abbrev i_sumpterlaw16_LocksApart : FuncId := 5
def sumpterlaw16_LocksApart (p_l : Sl) (R : TR [.sc .b] → Pr) : Pr :=
  Cl Try.prog 8 [] false [.sc .b] fun r1 =>
  Cl Try.prog 9 [] false [.sc .p] fun r2 =>
  Jp (σ := Bool × Unit) (fun s4 =>
  Br s4.1 (
  Br r1.1 (
  R ((!(Option.isNone r2.1)), ())) (
  R (false, ()))) (
  Lp (σ := Bool × Int × Unit) (fun L5 s6 =>
  Br (decide ((s6.2.1 : Int) < ((p_l.len : Nat) : Int))) (
  Ix p_l s6.2.1 6 fun a7 =>
  LdI .i64 (a7.add 0) fun x8 =>
  LdI .u64 (a7.add 1) fun x9 =>
  LdS (a7.add 2) fun x10 =>
  LdS (a7.add 3) fun x11 =>
  LdB (a7.add 4) fun x12 =>
  LdB (a7.add 5) fun x13 =>
  New #[(.int .i64 0), (.int .u64 0), (.string (BA [])), (.string (BA [])), (.bool false), (.bool false)] 32 fun a14 =>
  St (a14.add 0) (.int .i64 x8) <|
  St (a14.add 1) (.int .u64 x9) <|
  St (a14.add 2) (.string x10) <|
  St (a14.add 3) (.string x11) <|
  St (a14.add 4) (.bool x12) <|
  St (a14.add 5) (.bool x13) <|
  Jp (σ := Bool × Sl × Sl × Unit) (fun s16 =>
  Lp (σ := Bool × Int × Unit) (fun L17 s18 =>
  Br (decide ((s18.2.1 : Int) < ((s16.2.2.1.len : Nat) : Int))) (
  Ix s16.2.2.1 s18.2.1 1 fun a19 =>
  LdI .u64 a19 fun x20 =>
  Cl Try.prog 15 [(.pointer r2.1), (.int .u64 x20)] false [.sc .sl] fun r21 =>
  Br (decide ((((r21.1.len : Nat) : Int) : Int) > 0)) (
  R (false, ())) (
  L17 (s18.1, (w64 (s18.2.1 + 1)), ()))) (
  Cl Try.prog 13 [(.pointer r2.1)] false [.sc .sl] fun r22 =>
  Lp (σ := Bool × Int × Unit) (fun L23 s24 =>
  Br (decide ((s24.2.1 : Int) < ((r22.1.len : Nat) : Int))) (
  Ix r22.1 s24.2.1 4 fun a25 =>
  LdI .u64 (a25.add 0) fun x26 =>
  LdS (a25.add 1) fun x27 =>
  LdS (a25.add 2) fun x28 =>
  LdB (a25.add 3) fun x29 =>
  New #[(.int .u64 0), (.string (BA [])), (.string (BA [])), (.bool false)] 48 fun a30 =>
  St (a30.add 0) (.int .u64 x26) <|
  St (a30.add 1) (.string x27) <|
  St (a30.add 2) (.string x28) <|
  St (a30.add 3) (.bool x29) <|
  App 26 1 8 (zc Try.prog 26) ⟨none, 0, 0⟩ s16.2.1.len (srcS s16.2.1.p s16.2.1.len 1) fun r31 =>
  App 26 1 8 (zc Try.prog 26) r31 s16.2.2.1.len (srcS s16.2.2.1.p s16.2.2.1.len 1) fun r32 =>
  Lp (σ := Bool × Int × Unit) (fun L33 s34 =>
  Br (decide ((s34.2.1 : Int) < ((r32.len : Nat) : Int))) (
  Ix r32 s34.2.1 1 fun a35 =>
  LdI .u64 a35 fun x36 =>
  LdI .u64 (a30.add 0) fun x37 =>
  Br ((x37 : Int) == x36) (
  R (false, ())) (
  L33 (s34.1, (w64 (s34.2.1 + 1)), ()))) (
  L23 (s34.1, (w64 (s24.2.1 + 1)), ()))) (s24.1, 0, ())) (
  Cl Try.prog 16 [(.pointer r2.1)] false [.sc .b] fun r38 =>
  Br (!r38.1) (
  R (false, ())) (
  L5 (s24.1, (w64 (s6.2.1 + 1)), ())))) (s18.1, 0, ()))) (s16.1, 0, ())) fun J15 =>
  LdI .i64 (a14.add 0) fun x39 =>
  Br ((x39 : Int) == 0) (
  LdI .u64 (a14.add 1) fun x40 =>
  LdS ((a14.add 2).add 0) fun x41 =>
  LdS ((a14.add 2).add 1) fun x42 =>
  LdB ((a14.add 2).add 2) fun x43 =>
  Cl Try.prog 11 [(.pointer r2.1), (.int .u64 x40), (.agg #[(.string x41), (.string x42), (.bool x43)])] true [.sc (.i .i64), .sc .sl, .sc .sl, .sc (.i .i64)] fun r44 =>
  J15 (s6.1, r44.2.1, r44.2.2.1, ())) (
  LdI .u64 (a14.add 1) fun x45 =>
  Cl Try.prog 10 [(.pointer r2.1), (.int .u64 x45)] true [.sc .sl, .sc .sl] fun r46 =>
  LdI .u64 (a14.add 1) fun x47 =>
  Cl Try.prog 15 [(.pointer r2.1), (.int .u64 x47)] false [.sc .sl] fun r48 =>
  Br (decide ((((r48.1.len : Nat) : Int) : Int) > 0)) (
  R (false, ())) (
  J15 (s6.1, r46.1, r46.2.1, ())))) (
  R (r1.1, ()))) (false, 0, ()))) fun J3 =>
  Br (Option.isNone r2.1) (
  J3 (true, ())) (
  J3 ((decide ((((p_l.len : Nat) : Int) : Int) > 100)), ()))
def sumpterlaw16_LocksApart_ann : Ann := .seq .leaf (.seq .leaf (.seq .leaf (.seq (.seq (.join [(27, .sc .b)] .leaf) (.cond (.seq .leaf .leaf) .leaf)) (.seq (.seq .leaf (.block (.loop [(2, .sc .b), (35, .sc (.i .i64))] (.seq .leaf (.seq (.cond .leaf .leaf) (.seq (.block (.seq .leaf (.seq .leaf (.seq (.join [(2, .sc .b), (7, .sc .sl), (8, .sc .sl)] (.seq .leaf (.cond (.seq .leaf .leaf) (.seq .leaf (.seq .leaf (.cond (.seq .leaf .leaf) .leaf)))))) (.seq (.seq .leaf (.block (.loop [(2, .sc .b), (70, .sc (.i .i64))] (.seq .leaf (.seq (.cond .leaf .leaf) (.seq (.block (.seq .leaf (.seq .leaf (.cond (.seq .leaf .leaf) .leaf)))) .leaf)))))) (.seq (.seq .leaf (.block (.loop [(2, .sc .b), (83, .sc (.i .i64))] (.seq .leaf (.seq (.cond .leaf .leaf) (.seq (.block (.seq .leaf (.seq .leaf (.block (.loop [(2, .sc .b), (92, .sc (.i .i64))] (.seq .leaf (.seq (.cond .leaf .leaf) (.seq (.block (.seq .leaf (.seq .leaf (.cond (.seq .leaf .leaf) .leaf)))) .leaf)))))))) .leaf)))))) (.seq .leaf (.cond (.seq .leaf .leaf) .leaf)))))))) .leaf)))))) (.seq .leaf .leaf)))))
set_option maxRecDepth 100000 in
theorem sumpterlaw16_LocksApart_den (p_l : Sl) (R : TR [.sc .b] → Pr) : den Try.prog sumpterlaw16_LocksApart_ann (Try.f5.body.getD .skip) (retQ Try.prog Try.f5.results.toList false [.sc .b] R) [] (env0 107 [(.slice p_l.p p_l.len p_l.cap)]) = sumpterlaw16_LocksApart p_l R := by
  kernel_rfl
set_option maxRecDepth 100000 in
theorem sumpterlaw16_LocksApart_call (p_l : Sl) {R : TR [.sc .b] → Pr} {w : World} (h : sumpterlaw16_LocksApart p_l R w) : Cl Try.prog 5 [(.slice p_l.p p_l.len p_l.cap)] false [.sc .b] R w :=
  call_of (P := Try.prog) (tup := false) (rs := [.sc .b]) Try.checked.mixed sumpterlaw16_LocksApart_ann (by kernel_rfl) Try.func5 (by kernel_rfl) Try.ntmps5 (by show Try.f5.results.size = 1; kernel_rfl) (by rw [← sumpterlaw16_LocksApart_den] at h; exact h)

/-- sumpter/sumpterlaw16.LocksEnd -/
abbrev i_sumpterlaw16_LocksEnd : FuncId := 6
def sumpterlaw16_LocksEnd (p_l : Sl) (p_turn : Int) (R : TR [.sc .b] → Pr) : Pr :=
  Cl Try.prog 8 [] false [.sc .b] fun r1 =>
  Cl Try.prog 9 [] false [.sc .p] fun r2 =>
  Jp (σ := Bool × Unit) (fun s4 =>
  Br s4.1 (
  Br r1.1 (
  R ((!(Option.isNone r2.1)), ())) (
  R (false, ()))) (
  Lp (σ := Int × Unit) (fun L5 s6 =>
  Br (decide ((s6.1 : Int) < ((p_l.len : Nat) : Int))) (
  Jp (σ := Unit) (fun s8 =>
  L5 ((w64 (s6.1 + 1)), ())) fun J7 =>
  Ix p_l s6.1 6 fun a9 =>
  LdI .i64 (a9.add 0) fun x10 =>
  LdI .u64 (a9.add 1) fun x11 =>
  LdS (a9.add 2) fun x12 =>
  LdS (a9.add 3) fun x13 =>
  LdB (a9.add 4) fun x14 =>
  LdB (a9.add 5) fun x15 =>
  New #[(.int .i64 0), (.int .u64 0), (.string (BA [])), (.string (BA [])), (.bool false), (.bool false)] 32 fun a16 =>
  St (a16.add 0) (.int .i64 x10) <|
  St (a16.add 1) (.int .u64 x11) <|
  St (a16.add 2) (.string x12) <|
  St (a16.add 3) (.string x13) <|
  St (a16.add 4) (.bool x14) <|
  St (a16.add 5) (.bool x15) <|
  LdI .i64 (a16.add 0) fun x17 =>
  Br ((x17 : Int) == 0) (
  LdI .u64 (a16.add 1) fun x18 =>
  LdS ((a16.add 2).add 0) fun x19 =>
  LdS ((a16.add 2).add 1) fun x20 =>
  LdB ((a16.add 2).add 2) fun x21 =>
  Cl Try.prog 11 [(.pointer r2.1), (.int .u64 x18), (.agg #[(.string x19), (.string x20), (.bool x21)])] true [.sc (.i .i64), .sc .sl, .sc .sl, .sc (.i .i64)] fun r22 =>
  J7 ()) (
  LdI .u64 (a16.add 1) fun x23 =>
  Cl Try.prog 10 [(.pointer r2.1), (.int .u64 x23)] true [.sc .sl, .sc .sl] fun r24 =>
  J7 ())) (
  Lp (σ := Bool × Int × Unit) (fun L25 s26 =>
  Br (decide ((s26.2.1 : Int) < 1000)) (
  Cl Try.prog 14 [(.pointer r2.1)] false [.sc .sl] fun r27 =>
  Lp (σ := Sl × Int × Unit) (fun L28 s29 =>
  Br (decide ((s29.2.1 : Int) < ((r27.1.len : Nat) : Int))) (
  Jp (σ := Sl × Unit) (fun s31 =>
  L28 (s31.1, (w64 (s29.2.1 + 1)), ())) fun J30 =>
  Ix r27.1 s29.2.1 1 fun a32 =>
  LdI .u64 a32 fun x33 =>
  Cl Try.prog 15 [(.pointer r2.1), (.int .u64 x33)] false [.sc .sl] fun r34 =>
  Br (decide ((((r34.1.len : Nat) : Int) : Int) > 0)) (
  New #[(.int .u64 x33)] 26 fun a35 =>
  App 26 1 8 (zc Try.prog 26) s29.1 1 (srcS (some a35) 1 1) fun r36 =>
  J30 (r36, ())) (
  J30 (s29.1, ()))) (
  Br ((((s29.1.len : Nat) : Int) : Int) == 0) (
  Br r1.1 (
  Cl Try.prog 14 [(.pointer r2.1)] false [.sc .sl] fun r37 =>
  Br ((((r37.1.len : Nat) : Int) : Int) == 0) (
  Cl Try.prog 13 [(.pointer r2.1)] false [.sc .sl] fun r38 =>
  R (((((r38.1.len : Nat) : Int) : Int) == 0), ())) (
  R (false, ()))) (
  R (false, ()))) (
  Req (((s29.1.len : Nat) : Int) ≠ (0 : Int)) <|
  Req (((s29.1.len : Nat) : Int) ≠ (0 : Int)) <|
  Ix s29.1 ((w64 (((p_turn : Int).tmod ((s29.1.len : Nat) : Int)) + ((s29.1.len : Nat) : Int))).tmod ((s29.1.len : Nat) : Int)) 1 fun a39 =>
  LdI .u64 a39 fun x40 =>
  Cl Try.prog 10 [(.pointer r2.1), (.int .u64 x40)] true [.sc .sl, .sc .sl] fun r41 =>
  L25 (s26.1, (w64 (s26.2.1 + 1)), ())))) (⟨none, 0, 0⟩, 0, ())) (
  R (false, ()))) (false, 0, ()))) (0, ()))) fun J3 =>
  Br (Option.isNone r2.1) (
  J3 (true, ())) (
  J3 ((decide ((((p_l.len : Nat) : Int) : Int) > 200)), ()))
def sumpterlaw16_LocksEnd_ann : Ann := .seq .leaf (.seq .leaf (.seq .leaf (.seq (.seq (.join [(20, .sc .b)] .leaf) (.cond (.seq .leaf .leaf) .leaf)) (.seq (.seq .leaf (.block (.loop [(28, .sc (.i .i64))] (.seq .leaf (.seq (.cond .leaf .leaf) (.seq (.join [] (.block (.seq .leaf (.seq .leaf (.cond .leaf .leaf))))) .leaf)))))) (.seq (.seq .leaf (.block (.loop [(4, .sc .b), (46, .sc (.i .i64))] (.seq .leaf (.seq (.cond .leaf .leaf) (.seq (.block (.seq .leaf (.seq (.seq .leaf (.block (.loop [(9, .sc .sl), (51, .sc (.i .i64))] (.seq .leaf (.seq (.cond .leaf .leaf) (.seq (.join [(9, .sc .sl)] (.block (.seq .leaf (.seq .leaf (.cond .leaf .leaf))))) .leaf)))))) (.seq (.seq .leaf (.cond (.seq .leaf .leaf) .leaf)) .leaf)))) .leaf)))))) (.seq .leaf .leaf))))))
set_option maxRecDepth 100000 in
theorem sumpterlaw16_LocksEnd_den (p_l : Sl) (p_turn : Int) (R : TR [.sc .b] → Pr) : den Try.prog sumpterlaw16_LocksEnd_ann (Try.f6.body.getD .skip) (retQ Try.prog Try.f6.results.toList false [.sc .b] R) [] (env0 97 [(.slice p_l.p p_l.len p_l.cap), (.int .i64 p_turn)]) = sumpterlaw16_LocksEnd p_l p_turn R := by
  kernel_rfl
set_option maxRecDepth 100000 in
theorem sumpterlaw16_LocksEnd_call (p_l : Sl) (p_turn : Int) {R : TR [.sc .b] → Pr} {w : World} (h : sumpterlaw16_LocksEnd p_l p_turn R w) : Cl Try.prog 6 [(.slice p_l.p p_l.len p_l.cap), (.int .i64 p_turn)] false [.sc .b] R w :=
  call_of (P := Try.prog) (tup := false) (rs := [.sc .b]) Try.checked.mixed sumpterlaw16_LocksEnd_ann (by kernel_rfl) Try.func6 (by kernel_rfl) Try.ntmps6 (by show Try.f6.results.size = 1; kernel_rfl) (by rw [← sumpterlaw16_LocksEnd_den] at h; exact h)

/-- sumpter/sumpterlaw16.LocksGoes -/
abbrev i_sumpterlaw16_LocksGoes : FuncId := 7
def sumpterlaw16_LocksGoes (p_l : Sl) (R : TR [.sc .b] → Pr) : Pr :=
  Cl Try.prog 8 [] false [.sc .b] fun r1 =>
  Cl Try.prog 9 [] false [.sc .p] fun r2 =>
  New #[(.slice none 0 0), (.slice none 0 0)] 54 fun a3 =>
  Jp (σ := Bool × Unit) (fun s5 =>
  Br s5.1 (
  Br r1.1 (
  R ((!(Option.isNone r2.1)), ())) (
  R (false, ()))) (
  Lp (σ := Bool × Option Addr × Int × Unit) (fun L6 s7 =>
  Br (decide ((s7.2.2.1 : Int) < ((p_l.len : Nat) : Int))) (
  Jp (σ := Bool × Option Addr × Unit) (fun s9 =>
  L6 (s9.1, s9.2.1, (w64 (s7.2.2.1 + 1)), ())) fun J8 =>
  Ix p_l s7.2.2.1 6 fun a10 =>
  LdI .i64 (a10.add 0) fun x11 =>
  LdI .u64 (a10.add 1) fun x12 =>
  LdS (a10.add 2) fun x13 =>
  LdS (a10.add 3) fun x14 =>
  LdB (a10.add 4) fun x15 =>
  LdB (a10.add 5) fun x16 =>
  New #[(.int .i64 0), (.int .u64 0), (.string (BA [])), (.string (BA [])), (.bool false), (.bool false)] 32 fun a17 =>
  St (a17.add 0) (.int .i64 x11) <|
  St (a17.add 1) (.int .u64 x12) <|
  St (a17.add 2) (.string x13) <|
  St (a17.add 3) (.string x14) <|
  St (a17.add 4) (.bool x15) <|
  St (a17.add 5) (.bool x16) <|
  Jp (σ := Bool × Unit) (fun s19 =>
  Jp (σ := Bool × Unit) (fun s21 =>
  Br s21.1 (
  R (false, ())) (
  LdB (a17.add 5) fun x22 =>
  Br x22 (
  Cl Try.prog 21 [(.pointer s7.2.1)] false [.sc .p] fun r23 =>
  Br (Option.isNone r23.1) (
  R (false, ())) (
  LdI .u64 (a17.add 1) fun x24 =>
  Cl Try.prog 10 [(.pointer s7.2.1), (.int .u64 x24)] true [.sc .sl, .sc .sl] fun r25 =>
  Cl Try.prog 11 [(.pointer s7.2.1), (.int .u64 0), (.agg #[(.string (BA [])), (.string (BA [])), (.bool true)])] true [.sc (.i .i64), .sc .sl, .sc .sl, .sc (.i .i64)] fun r26 =>
  J8 (s7.1, r23.1, ()))) (
  J8 (s7.1, s7.2.1, ())))) fun J20 =>
  Br (!s19.1) (
  J20 (true, ())) (
  Cl Try.prog 20 [(.pointer s7.2.1), (.pointer (some a3))] false [.sc .b] fun r27 =>
  J20 ((!r27.1), ()))) fun J18 =>
  LdI .i64 (a17.add 0) fun x28 =>
  Br ((x28 : Int) == 0) (
  LdI .u64 (a17.add 1) fun x29 =>
  LdS ((a17.add 2).add 0) fun x30 =>
  LdS ((a17.add 2).add 1) fun x31 =>
  LdB ((a17.add 2).add 2) fun x32 =>
  Cl Try.prog 11 [(.pointer s7.2.1), (.int .u64 x29), (.agg #[(.string x30), (.string x31), (.bool x32)])] true [.sc (.i .i64), .sc .sl, .sc .sl, .sc (.i .i64)] fun r33 =>
  LdI .u64 (a17.add 1) fun x34 =>
  LdS ((a17.add 2).add 0) fun x35 =>
  LdS ((a17.add 2).add 1) fun x36 =>
  LdB ((a17.add 2).add 2) fun x37 =>
  Cl Try.prog 17 [(.pointer (some a3)), (.int .u64 x34), (.agg #[(.string x35), (.string x36), (.bool x37)])] true [.sc (.i .i64), .sc .sl, .sc .sl, .sc (.i .i64)] fun r38 =>
  Br ((r33.1 : Int) == r38.1) (
  Cl Try.prog 18 [(.slice r33.2.1.p r33.2.1.len r33.2.1.cap), (.slice r38.2.1.p r38.2.1.len r38.2.1.cap)] false [.sc .b] fun r39 =>
  Br r39.1 (
  Cl Try.prog 18 [(.slice r33.2.2.1.p r33.2.2.1.len r33.2.2.1.cap), (.slice r38.2.2.1.p r38.2.2.1.len r38.2.2.1.cap)] false [.sc .b] fun r40 =>
  Br r40.1 (
  J18 (((r33.2.2.2.1 : Int) == r38.2.2.2.1), ())) (
  J18 (false, ()))) (
  J18 (false, ()))) (
  J18 (false, ()))) (
  LdI .u64 (a17.add 1) fun x41 =>
  Cl Try.prog 10 [(.pointer s7.2.1), (.int .u64 x41)] true [.sc .sl, .sc .sl] fun r42 =>
  LdI .u64 (a17.add 1) fun x43 =>
  Cl Try.prog 19 [(.pointer (some a3)), (.int .u64 x43)] true [.sc .sl, .sc .sl] fun r44 =>
  Cl Try.prog 18 [(.slice r42.1.p r42.1.len r42.1.cap), (.slice r44.1.p r44.1.len r44.1.cap)] false [.sc .b] fun r45 =>
  Br r45.1 (
  Cl Try.prog 18 [(.slice r42.2.1.p r42.2.1.len r42.2.1.cap), (.slice r44.2.1.p r44.2.1.len r44.2.1.cap)] false [.sc .b] fun r46 =>
  J18 (r46.1, ())) (
  J18 (false, ())))) (
  R (r1.1, ()))) (false, r2.1, 0, ()))) fun J4 =>
  Br (Option.isNone r2.1) (
  J4 (true, ())) (
  J4 ((decide ((((p_l.len : Nat) : Int) : Int) > 200)), ()))
def sumpterlaw16_LocksGoes_ann : Ann := .seq .leaf (.seq .leaf (.seq .leaf (.seq .leaf (.seq (.seq (.join [(32, .sc .b)] .leaf) (.cond (.seq .leaf .leaf) .leaf)) (.seq (.seq .leaf (.block (.loop [(2, .sc .b), (4, .sc .p), (40, .sc (.i .i64))] (.seq .leaf (.seq (.cond .leaf .leaf) (.seq (.join [(2, .sc .b), (4, .sc .p)] (.block (.seq .leaf (.seq .leaf (.seq (.join [(8, .sc .b)] (.seq .leaf (.cond (.seq .leaf (.seq .leaf .leaf)) (.seq .leaf (.seq .leaf .leaf))))) (.seq (.seq (.join [(116, .sc .b)] .leaf) (.cond (.seq .leaf .leaf) .leaf)) (.seq .leaf (.cond (.seq .leaf (.seq (.seq .leaf (.cond (.seq .leaf .leaf) .leaf)) (.seq .leaf (.seq .leaf .leaf)))) .leaf)))))))) .leaf)))))) (.seq .leaf .leaf))))))
set_option maxRecDepth 100000 in
theorem sumpterlaw16_LocksGoes_den (p_l : Sl) (R : TR [.sc .b] → Pr) : den Try.prog sumpterlaw16_LocksGoes_ann (Try.f7.body.getD .skip) (retQ Try.prog Try.f7.results.toList false [.sc .b] R) [] (env0 133 [(.slice p_l.p p_l.len p_l.cap)]) = sumpterlaw16_LocksGoes p_l R := by
  kernel_rfl
set_option maxRecDepth 100000 in
theorem sumpterlaw16_LocksGoes_call (p_l : Sl) {R : TR [.sc .b] → Pr} {w : World} (h : sumpterlaw16_LocksGoes p_l R w) : Cl Try.prog 7 [(.slice p_l.p p_l.len p_l.cap)] false [.sc .b] R w :=
  call_of (P := Try.prog) (tup := false) (rs := [.sc .b]) Try.checked.mixed sumpterlaw16_LocksGoes_ann (by kernel_rfl) Try.func7 (by kernel_rfl) Try.ntmps7 (by show Try.f7.results.size = 1; kernel_rfl) (by rw [← sumpterlaw16_LocksGoes_den] at h; exact h)

/-- sumpter/sumpterlaw16.live -/
abbrev i_sumpterlaw16_live : FuncId := 8
def sumpterlaw16_live  (R : TR [.sc .b] → Pr) : Pr :=
  Cl Try.prog 9 [] false [.sc .p] fun r1 =>
  Br (Option.isNone r1.1) (
  R (false, ())) (
  New #[(.string (BA [])), (.string (BA [])), (.bool false)] 30 fun a2 =>
  St (a2.add 0) (.string (BA [97])) <|
  St (a2.add 1) (.string (BA [97, 0])) <|
  St (a2.add 2) (.bool false) <|
  LdS (a2.add 0) fun x3 =>
  LdS (a2.add 1) fun x4 =>
  LdB (a2.add 2) fun x5 =>
  New #[(.string (BA [])), (.string (BA [])), (.bool false)] 30 fun a6 =>
  St (a6.add 0) (.string x3) <|
  St (a6.add 1) (.string x4) <|
  St (a6.add 2) (.bool x5) <|
  St (a6.add 2) (.bool true) <|
  LdS (a6.add 0) fun x7 =>
  LdS (a6.add 1) fun x8 =>
  LdB (a6.add 2) fun x9 =>
  Cl Try.prog 11 [(.pointer r1.1), (.int .u64 2), (.agg #[(.string x7), (.string x8), (.bool x9)])] true [.sc (.i .i64), .sc .sl, .sc .sl, .sc (.i .i64)] fun r10 =>
  LdS (a2.add 0) fun x11 =>
  LdS (a2.add 1) fun x12 =>
  LdB (a2.add 2) fun x13 =>
  Cl Try.prog 11 [(.pointer r1.1), (.int .u64 3), (.agg #[(.string x11), (.string x12), (.bool x13)])] true [.sc (.i .i64), .sc .sl, .sc .sl, .sc (.i .i64)] fun r14 =>
  LdS (a2.add 0) fun x15 =>
  LdS (a2.add 1) fun x16 =>
  LdB (a2.add 2) fun x17 =>
  Cl Try.prog 11 [(.pointer r1.1), (.int .u64 1), (.agg #[(.string x15), (.string x16), (.bool x17)])] true [.sc (.i .i64), .sc .sl, .sc .sl, .sc (.i .i64)] fun r18 =>
  LdS (a2.add 0) fun x19 =>
  LdS (a2.add 1) fun x20 =>
  LdB (a2.add 2) fun x21 =>
  Cl Try.prog 11 [(.pointer r1.1), (.int .u64 1), (.agg #[(.string x19), (.string x20), (.bool x21)])] true [.sc (.i .i64), .sc .sl, .sc .sl, .sc (.i .i64)] fun r22 =>
  Cl Try.prog 10 [(.pointer r1.1), (.int .u64 2)] true [.sc .sl, .sc .sl] fun r23 =>
  Br ((r10.1 : Int) == 1) (
  Br ((r10.2.2.2.1 : Int) == 0) (
  Br ((r14.1 : Int) == 3) (
  Br ((r14.2.2.2.1 : Int) == 0) (
  Br ((r18.1 : Int) == 2) (
  Br ((r18.2.2.2.1 : Int) == 0) (
  Br ((r22.2.2.2.1 : Int) == 4) (
  Br ((((r23.1.len : Nat) : Int) : Int) == 1) (
  Ix r23.1 0 1 fun a24 =>
  LdI .u64 a24 fun x25 =>
  Br ((x25 : Int) == 1) (
  Br ((((r23.2.1.len : Nat) : Int) : Int) == 0) (
  R (true, ())) (
  R (false, ()))) (
  R (false, ()))) (
  R (false, ()))) (
  R (false, ()))) (
  R (false, ()))) (
  R (false, ()))) (
  R (false, ()))) (
  R (false, ()))) (
  R (false, ()))) (
  R (false, ())))
def sumpterlaw16_live_ann : Ann := .seq .leaf (.seq .leaf (.seq (.seq .leaf (.cond (.seq .leaf .leaf) .leaf)) (.seq .leaf (.seq .leaf (.seq .leaf (.seq .leaf (.seq .leaf (.seq .leaf (.seq .leaf (.seq .leaf (.seq .leaf .leaf)))))))))))
set_option maxRecDepth 100000 in
theorem sumpterlaw16_live_den  (R : TR [.sc .b] → Pr) : den Try.prog sumpterlaw16_live_ann (Try.f8.body.getD .skip) (retQ Try.prog Try.f8.results.toList false [.sc .b] R) [] (env0 114 []) = sumpterlaw16_live  R := by
  kernel_rfl
set_option maxRecDepth 100000 in
theorem sumpterlaw16_live_call  {R : TR [.sc .b] → Pr} {w : World} (h : sumpterlaw16_live  R w) : Cl Try.prog 8 [] false [.sc .b] R w :=
  call_of (P := Try.prog) (tup := false) (rs := [.sc .b]) Try.checked.mixed sumpterlaw16_live_ann (by kernel_rfl) Try.func8 (by kernel_rfl) Try.ntmps8 (by show Try.f8.results.size = 1; kernel_rfl) (by rw [← sumpterlaw16_live_den] at h; exact h)

/-- sumpter/locks.New -/
abbrev i_locks_New : FuncId := 9
def locks_New  (R : TR [.sc .p] → Pr) : Pr :=
  New #[(.slice none 0 0), (.slice none 0 0)] 58 fun a1 =>
  R ((some a1), ())
def locks_New_ann : Ann := .seq .leaf (.seq .leaf .leaf)
set_option maxRecDepth 100000 in
theorem locks_New_den  (R : TR [.sc .p] → Pr) : den Try.prog locks_New_ann (Try.f9.body.getD .skip) (retQ Try.prog Try.f9.results.toList false [.sc .p] R) [] (env0 3 []) = locks_New  R := by
  kernel_rfl
set_option maxRecDepth 100000 in
theorem locks_New_call  {R : TR [.sc .p] → Pr} {w : World} (h : locks_New  R w) : Cl Try.prog 9 [] false [.sc .p] R w :=
  call_of (P := Try.prog) (tup := false) (rs := [.sc .p]) Try.checked.mixed locks_New_ann (by kernel_rfl) Try.func9 (by kernel_rfl) Try.ntmps9 (by show Try.f9.results.size = 1; kernel_rfl) (by rw [← locks_New_den] at h; exact h)

/-- (*sumpter/locks.Table).Release -/
abbrev i_locks_Table_Release : FuncId := 10
def locks_Table_Release (p_t : Option Addr) (p_txn : Int) (R : TR [.sc .sl, .sc .sl] → Pr) : Pr :=
  Cl Try.prog 22 [(.pointer p_t), (.int .u64 p_txn)] true [] fun r1 =>
  Cl Try.prog 23 [(.pointer p_t), (.slice none 0 0)] true [.sc .sl, .sc .sl] fun r2 =>
  R (r2.1, r2.2.1, ())
def locks_Table_Release_ann : Ann := .seq .leaf (.seq .leaf (.seq .leaf .leaf))
set_option maxRecDepth 100000 in
theorem locks_Table_Release_den (p_t : Option Addr) (p_txn : Int) (R : TR [.sc .sl, .sc .sl] → Pr) : den Try.prog locks_Table_Release_ann (Try.f10.body.getD .skip) (retQ Try.prog Try.f10.results.toList true [.sc .sl, .sc .sl] R) [] (env0 13 [(.pointer p_t), (.int .u64 p_txn)]) = locks_Table_Release p_t p_txn R := by
  kernel_rfl
set_option maxRecDepth 100000 in
theorem locks_Table_Release_call (p_t : Option Addr) (p_txn : Int) {R : TR [.sc .sl, .sc .sl] → Pr} {w : World} (h : locks_Table_Release p_t p_txn R w) : Cl Try.prog 10 [(.pointer p_t), (.int .u64 p_txn)] true [.sc .sl, .sc .sl] R w :=
  call_of (P := Try.prog) (tup := true) (rs := [.sc .sl, .sc .sl]) Try.checked.mixed locks_Table_Release_ann (by kernel_rfl) Try.func10 (by kernel_rfl) Try.ntmps10 (by show Nat.beq Try.f10.results.size 1 = false; kernel_rfl) (by rw [← locks_Table_Release_den] at h; exact h)

/-- (*sumpter/locks.Table).Ask -/
abbrev i_locks_Table_Ask : FuncId := 11
def locks_Table_Ask (p_t : Option Addr) (p_txn : Int) (p_l_0 : ByteArray) (p_l_1 : ByteArray) (p_l_2 : Bool) (R : TR [.sc (.i .i64), .sc .sl, .sc .sl, .sc (.i .i64)] → Pr) : Pr :=
  New #[(.string p_l_0), (.string p_l_1), (.bool p_l_2)] 30 fun a1 =>
  LdS ((a1.add 0).add 0) fun x2 =>
  LdS ((a1.add 0).add 1) fun x3 =>
  Cl Try.prog 12 [(.agg #[(.string x2), (.string x3)])] false [.sc (.i .i64)] fun r4 =>
  Br ((r4.1 : Int) != 0) (
  R (0, ⟨none, 0, 0⟩, ⟨none, 0, 0⟩, 21, ())) (
  Dr <|
  Nn p_t fun a5 =>
  LdL (a5.add 1) fun x6 =>
  Cl Try.prog 25 [(.int .u64 p_txn)] false [.sc .v] fun r7 =>
  Both (LdL (a5.add 1) fun x8 =>
  fun _ => ((.slice x8.p x8.len x8.cap) : Value) = (.slice x6.p x6.len x6.cap)) <|
  Cl Try.prog 24 [(.slice x6.p x6.len x6.cap), r7.1] false [.sc .b] fun r9 =>
  Br r9.1 (
  R (0, ⟨none, 0, 0⟩, ⟨none, 0, 0⟩, 4, ())) (
  LdS (a1.add 0) fun x10 =>
  LdS (a1.add 1) fun x11 =>
  LdB (a1.add 2) fun x12 =>
  New #[(.int .u64 0), (.string (BA [])), (.string (BA [])), (.bool false)] 48 fun a13 =>
  St (a13.add 0) (.int .u64 p_txn) <|
  St (a13.add 1) (.string x10) <|
  St (a13.add 2) (.string x11) <|
  St (a13.add 3) (.bool x12) <|
  Nn p_t fun a14 =>
  LdL (a14.add 0) fun x15 =>
  Lp (σ := Int × Sl × Sl × Int × Int × Bool × Int × Unit) (fun L16 s17 =>
  Br (decide ((s17.2.2.2.2.2.2.1 : Int) < ((x15.len : Nat) : Int))) (
  Jp (σ := Int × Sl × Sl × Int × Int × Bool × Unit) (fun s19 =>
  L16 (s19.1, s19.2.1, s19.2.2.1, s19.2.2.2.1, s19.2.2.2.2.1, s19.2.2.2.2.2.1, (w64 (s17.2.2.2.2.2.2.1 + 1)), ())) fun J18 =>
  Ix x15 s17.2.2.2.2.2.2.1 4 fun a20 =>
  LdI .u64 (a20.add 0) fun x21 =>
  LdS (a20.add 1) fun x22 =>
  LdS (a20.add 2) fun x23 =>
  LdB (a20.add 3) fun x24 =>
  New #[(.int .u64 0), (.string (BA [])), (.string (BA [])), (.bool false)] 48 fun a25 =>
  St (a25.add 0) (.int .u64 x21) <|
  St (a25.add 1) (.string x22) <|
  St (a25.add 2) (.string x23) <|
  St (a25.add 3) (.bool x24) <|
  Jp (σ := Bool × Unit) (fun s27 =>
  Br s27.1 (
  R (1, ⟨none, 0, 0⟩, ⟨none, 0, 0⟩, 0, ())) (
  Dr <|
  LdI .u64 (a13.add 0) fun x28 =>
  LdS (a13.add 1) fun x29 =>
  LdS (a13.add 2) fun x30 =>
  LdB (a13.add 3) fun x31 =>
  LdI .u64 (a25.add 0) fun x32 =>
  LdS (a25.add 1) fun x33 =>
  LdS (a25.add 2) fun x34 =>
  LdB (a25.add 3) fun x35 =>
  Cl Try.prog 27 [(.agg #[(.int .u64 x28), (.string x29), (.string x30), (.bool x31)])] false [.sc .v] fun r36 =>
  Both (LdI .u64 (a25.add 0) fun x37 =>
  LdS (a25.add 1) fun x38 =>
  LdS (a25.add 2) fun x39 =>
  LdB (a25.add 3) fun x40 =>
  fun _ => ((.agg #[(.int .u64 x37), (.string x38), (.string x39), (.bool x40)]) : Value) = (.agg #[(.int .u64 x32), (.string x33), (.string x34), (.bool x35)])) <|
  CallV Try.prog r36.1 [(.agg #[(.int .u64 x32), (.string x33), (.string x34), (.bool x35)])] false [.sc .b] fun r41 =>
  Br r41.1 (
  Br s17.2.2.2.2.2.1 (
  LdI .u64 (a25.add 0) fun x42 =>
  J18 (s17.1, s17.2.1, s17.2.2.1, s17.2.2.2.1, (w64 (s17.2.2.2.2.1 + 1)), (decide ((x42 : Int) > p_txn)), ())) (
  J18 (s17.1, s17.2.1, s17.2.2.1, s17.2.2.2.1, (w64 (s17.2.2.2.2.1 + 1)), false, ()))) (
  J18 (s17.1, s17.2.1, s17.2.2.1, s17.2.2.2.1, s17.2.2.2.2.1, s17.2.2.2.2.2.1, ())))) fun J26 =>
  LdI .u64 (a25.add 0) fun x43 =>
  Br ((x43 : Int) == p_txn) (
  LdS (((a25.add 1).add 0).add 0) fun x44 =>
  LdS (((a25.add 1).add 0).add 1) fun x45 =>
  LdS ((a1.add 0).add 0) fun x46 =>
  LdS ((a1.add 0).add 1) fun x47 =>
  Cl Try.prog 26 [(.agg #[(.string x44), (.string x45)]), (.agg #[(.string x46), (.string x47)])] false [.sc .b] fun r48 =>
  Br r48.1 (
  LdB ((a25.add 1).add 2) fun x49 =>
  Br x49 (
  J26 (true, ())) (
  LdB (a1.add 2) fun x50 =>
  J26 ((!x50), ()))) (
  J26 (false, ()))) (
  J26 (false, ()))) (
  Dr <|
  Nn p_t fun a51 =>
  LdL (a51.add 0) fun x52 =>
  Nn p_t fun a53 =>
  LdL (a53.add 1) fun x54 =>
  Br (decide (((w64 (((x52.len : Nat) : Int) + ((x54.len : Nat) : Int))) : Int) ≥ 192)) (
  R (3, ⟨none, 0, 0⟩, ⟨none, 0, 0⟩, 0, ())) (
  Br ((s17.2.2.2.2.1 : Int) == 0) (
  LdI .u64 (a13.add 0) fun x55 =>
  LdS (a13.add 1) fun x56 =>
  LdS (a13.add 2) fun x57 =>
  LdB (a13.add 3) fun x58 =>
  Cl Try.prog 28 [(.pointer p_t), (.agg #[(.int .u64 x55), (.string x56), (.string x57), (.bool x58)])] false [.sc .sl] fun r59 =>
  Cl Try.prog 23 [(.pointer p_t), (.slice r59.1.p r59.1.len r59.1.cap)] true [.sc .sl, .sc .sl] fun r60 =>
  R (1, r60.1, r60.2.1, 0, ())) (
  Br s17.2.2.2.2.2.1 (
  Nn p_t fun a61 =>
  LdL (a61.add 1) fun x62 =>
  Cl Try.prog 29 [(.slice x62.p x62.len x62.cap), (.int .u64 p_txn), (.func (.func 30) #[] #[])] true [.sc (.i .i64), .sc .b] fun r63 =>
  Dr <|
  Nn p_t fun a64 =>
  LdL (a64.add 1) fun x65 =>
  LdI .u64 (a13.add 0) fun x66 =>
  LdS (a13.add 1) fun x67 =>
  LdS (a13.add 2) fun x68 =>
  LdB (a13.add 3) fun x69 =>
  New #[(.int .u64 x66), (.string x67), (.string x68), (.bool x69)] 48 fun a70 =>
  Both (LdL (a64.add 1) fun x71 =>
  fun _ => ((.slice x71.p x71.len x71.cap) : Value) = (.slice x65.p x65.len x65.cap)) <|
  Cl Try.prog 32 [(.slice x65.p x65.len x65.cap), (.int .i64 r63.1), (.slice (some a70) 1 1)] false [.sc .sl] fun r72 =>
  Nn p_t fun a73 =>
  St (a73.add 1) (.slice r72.1.p r72.1.len r72.1.cap) <|
  R (2, ⟨none, 0, 0⟩, ⟨none, 0, 0⟩, 0, ())) (
  R (3, ⟨none, 0, 0⟩, ⟨none, 0, 0⟩, 0, ())))))) (0, ⟨none, 0, 0⟩, ⟨none, 0, 0⟩, 0, 0, true, 0, ())))
def locks_Table_Ask_ann : Ann := .seq .leaf (.seq (.seq .leaf (.cond (.seq .leaf .leaf) .leaf)) (.seq (.seq .leaf (.cond (.seq .leaf .leaf) .leaf)) (.seq .leaf (.seq .leaf (.seq (.seq .leaf (.block (.loop [(6, .sc (.i .i64)), (7, .sc .sl), (8, .sc .sl), (9, .sc (.i .i64)), (11, .sc (.i .i64)), (12, .sc .b), (36, .sc (.i .i64))] (.seq .leaf (.seq (.cond .leaf .leaf) (.seq (.join [(6, .sc (.i .i64)), (7, .sc .sl), (8, .sc .sl), (9, .sc (.i .i64)), (11, .sc (.i .i64)), (12, .sc .b)] (.block (.seq .leaf (.seq (.seq (.join [(61, .sc .b)] .leaf) (.cond (.seq .leaf .leaf) .leaf)) (.seq .leaf (.cond (.seq .leaf .leaf) .leaf)))))) .leaf)))))) (.seq (.block (.seq .leaf (.cond (.seq .leaf .leaf) (.seq .leaf (.cond (.seq .leaf (.seq .leaf .leaf)) (.seq .leaf (.cond (.seq .leaf (.seq .leaf (.seq .leaf .leaf))) .leaf))))))) (.seq .leaf .leaf)))))))
set_option maxRecDepth 100000 in
theorem locks_Table_Ask_den (p_t : Option Addr) (p_txn : Int) (p_l_0 : ByteArray) (p_l_1 : ByteArray) (p_l_2 : Bool) (R : TR [.sc (.i .i64), .sc .sl, .sc .sl, .sc (.i .i64)] → Pr) : den Try.prog locks_Table_Ask_ann (Try.f11.body.getD .skip) (retQ Try.prog Try.f11.results.toList true [.sc (.i .i64), .sc .sl, .sc .sl, .sc (.i .i64)] R) [] (env0 124 [(.pointer p_t), (.int .u64 p_txn), (.agg #[(.string p_l_0), (.string p_l_1), (.bool p_l_2)])]) = locks_Table_Ask p_t p_txn p_l_0 p_l_1 p_l_2 R := by
  kernel_rfl
set_option maxRecDepth 100000 in
theorem locks_Table_Ask_call (p_t : Option Addr) (p_txn : Int) (p_l_0 : ByteArray) (p_l_1 : ByteArray) (p_l_2 : Bool) {R : TR [.sc (.i .i64), .sc .sl, .sc .sl, .sc (.i .i64)] → Pr} {w : World} (h : locks_Table_Ask p_t p_txn p_l_0 p_l_1 p_l_2 R w) : Cl Try.prog 11 [(.pointer p_t), (.int .u64 p_txn), (.agg #[(.string p_l_0), (.string p_l_1), (.bool p_l_2)])] true [.sc (.i .i64), .sc .sl, .sc .sl, .sc (.i .i64)] R w :=
  call_of (P := Try.prog) (tup := true) (rs := [.sc (.i .i64), .sc .sl, .sc .sl, .sc (.i .i64)]) Try.checked.mixed locks_Table_Ask_ann (by kernel_rfl) Try.func11 (by kernel_rfl) Try.ntmps11 (by show Nat.beq Try.f11.results.size 1 = false; kernel_rfl) (by rw [← locks_Table_Ask_den] at h; exact h)

/-- sumpter/span.Check -/
abbrev i_span_Check : FuncId := 12
def span_Check (p_r_0 : ByteArray) (p_r_1 : ByteArray) (R : TR [.sc (.i .i64)] → Pr) : Pr :=
  New #[(.string p_r_0), (.string p_r_1)] 28 fun a1 =>
  Dr <|
  LdS (a1.add 0) fun x2 =>
  LdS (a1.add 1) fun x3 =>
  Cl Try.prog 33 [] false [.ag [.s, .s]] fun r4 =>
  Both (LdS (a1.add 0) fun x5 =>
  LdS (a1.add 1) fun x6 =>
  fun _ => ((.agg #[(.string x5), (.string x6)]) : Value) = (.agg #[(.string x2), (.string x3)])) <|
  Br ((seq x2 r4.1.1) && ((seq x3 r4.1.2.1) && true)) (
  R (0, ())) (
  Jp (σ := Bool × Unit) (fun s8 =>
  Br s8.1 (
  R (21, ())) (
  R (0, ()))) fun J7 =>
  Jp (σ := Bool × Unit) (fun s10 =>
  Br s10.1 (
  J7 (s10.1, ())) (
  LdS (a1.add 1) fun x11 =>
  Br (!(seq x11 (BA []))) (
  LdS (a1.add 0) fun x12 =>
  LdS (a1.add 1) fun x13 =>
  J7 ((!(slt x12 x13)), ())) (
  J7 (false, ())))) fun J9 =>
  LdS (a1.add 0) fun x14 =>
  Br (decide ((((x14.size : Nat) : Int) : Int) > 12)) (
  J9 (true, ())) (
  LdS (a1.add 1) fun x15 =>
  J9 ((decide ((((x15.size : Nat) : Int) : Int) > 12)), ())))
def span_Check_ann : Ann := .seq .leaf (.seq (.block (.seq .leaf (.cond (.seq .leaf .leaf) (.seq (.join [(7, .sc .b)] (.seq (.join [(7, .sc .b)] .leaf) (.cond .leaf .leaf))) (.cond (.seq .leaf .leaf) .leaf))))) (.seq .leaf .leaf))
set_option maxRecDepth 100000 in
theorem span_Check_den (p_r_0 : ByteArray) (p_r_1 : ByteArray) (R : TR [.sc (.i .i64)] → Pr) : den Try.prog span_Check_ann (Try.f12.body.getD .skip) (retQ Try.prog Try.f12.results.toList false [.sc (.i .i64)] R) [] (env0 28 [(.agg #[(.string p_r_0), (.string p_r_1)])]) = span_Check p_r_0 p_r_1 R := by
  kernel_rfl
set_option maxRecDepth 100000 in
theorem span_Check_call (p_r_0 : ByteArray) (p_r_1 : ByteArray) {R : TR [.sc (.i .i64)] → Pr} {w : World} (h : span_Check p_r_0 p_r_1 R w) : Cl Try.prog 12 [(.agg #[(.string p_r_0), (.string p_r_1)])] false [.sc (.i .i64)] R w :=
  call_of (P := Try.prog) (tup := false) (rs := [.sc (.i .i64)]) Try.checked.mixed span_Check_ann (by kernel_rfl) Try.func12 (by kernel_rfl) Try.ntmps12 (by show Try.f12.results.size = 1; kernel_rfl) (by rw [← span_Check_den] at h; exact h)

/-- (*sumpter/locks.Table).Waiting -/
abbrev i_locks_Table_Waiting : FuncId := 13
def locks_Table_Waiting (p_t : Option Addr) (R : TR [.sc .sl] → Pr) : Pr :=
  Nn p_t fun a1 =>
  LdL (a1.add 1) fun x2 =>
  Cl Try.prog 34 [(.slice x2.p x2.len x2.cap)] false [.sc .sl] fun r3 =>
  R (r3.1, ())
def locks_Table_Waiting_ann : Ann := .seq .leaf (.seq .leaf .leaf)
set_option maxRecDepth 100000 in
theorem locks_Table_Waiting_den (p_t : Option Addr) (R : TR [.sc .sl] → Pr) : den Try.prog locks_Table_Waiting_ann (Try.f13.body.getD .skip) (retQ Try.prog Try.f13.results.toList false [.sc .sl] R) [] (env0 8 [(.pointer p_t)]) = locks_Table_Waiting p_t R := by
  kernel_rfl
set_option maxRecDepth 100000 in
theorem locks_Table_Waiting_call (p_t : Option Addr) {R : TR [.sc .sl] → Pr} {w : World} (h : locks_Table_Waiting p_t R w) : Cl Try.prog 13 [(.pointer p_t)] false [.sc .sl] R w :=
  call_of (P := Try.prog) (tup := false) (rs := [.sc .sl]) Try.checked.mixed locks_Table_Waiting_ann (by kernel_rfl) Try.func13 (by kernel_rfl) Try.ntmps13 (by show Try.f13.results.size = 1; kernel_rfl) (by rw [← locks_Table_Waiting_den] at h; exact h)

/-- (*sumpter/locks.Table).Txns -/
abbrev i_locks_Table_Txns : FuncId := 14
def locks_Table_Txns (p_t : Option Addr) (R : TR [.sc .sl] → Pr) : Pr :=
  Dr <|
  Nn p_t fun a1 =>
  LdL (a1.add 0) fun x2 =>
  Nn p_t fun a3 =>
  LdL (a3.add 1) fun x4 =>
  New #[(.slice x2.p x2.len x2.cap), (.slice x4.p x4.len x4.cap)] 40 fun a5 =>
  Cl Try.prog 35 [(.slice (some a5) 2 2)] false [.sc .sl] fun r6 =>
  Lp (σ := Sl × Int × Unit) (fun L7 s8 =>
  Br (decide ((s8.2.1 : Int) < ((r6.1.len : Nat) : Int))) (
  Ix r6.1 s8.2.1 4 fun a9 =>
  LdI .u64 (a9.add 0) fun x10 =>
  LdS (a9.add 1) fun x11 =>
  LdS (a9.add 2) fun x12 =>
  LdB (a9.add 3) fun x13 =>
  New #[(.int .u64 0), (.string (BA [])), (.string (BA [])), (.bool false)] 48 fun a14 =>
  St (a14.add 0) (.int .u64 x10) <|
  St (a14.add 1) (.string x11) <|
  St (a14.add 2) (.string x12) <|
  St (a14.add 3) (.bool x13) <|
  LdI .u64 (a14.add 0) fun x15 =>
  New #[(.int .u64 x15)] 26 fun a16 =>
  App 26 1 8 (zc Try.prog 26) s8.1 1 (srcS (some a16) 1 1) fun r17 =>
  L7 (r17, (w64 (s8.2.1 + 1)), ())) (
  Cl Try.prog 36 [(.slice s8.1.p s8.1.len s8.1.cap)] false [.sc .sl] fun r18 =>
  R (r18.1, ()))) (⟨none, 0, 0⟩, 0, ())
def locks_Table_Txns_ann : Ann := .seq .leaf (.seq .leaf (.seq (.seq .leaf (.block (.loop [(3, .sc .sl), (17, .sc (.i .i64))] (.seq .leaf (.seq (.cond .leaf .leaf) (.seq (.block (.seq .leaf .leaf)) .leaf)))))) (.seq .leaf .leaf)))
set_option maxRecDepth 100000 in
theorem locks_Table_Txns_den (p_t : Option Addr) (R : TR [.sc .sl] → Pr) : den Try.prog locks_Table_Txns_ann (Try.f14.body.getD .skip) (retQ Try.prog Try.f14.results.toList false [.sc .sl] R) [] (env0 29 [(.pointer p_t)]) = locks_Table_Txns p_t R := by
  kernel_rfl
set_option maxRecDepth 100000 in
theorem locks_Table_Txns_call (p_t : Option Addr) {R : TR [.sc .sl] → Pr} {w : World} (h : locks_Table_Txns p_t R w) : Cl Try.prog 14 [(.pointer p_t)] false [.sc .sl] R w :=
  call_of (P := Try.prog) (tup := false) (rs := [.sc .sl]) Try.checked.mixed locks_Table_Txns_ann (by kernel_rfl) Try.func14 (by kernel_rfl) Try.ntmps14 (by show Try.f14.results.size = 1; kernel_rfl) (by rw [← locks_Table_Txns_den] at h; exact h)

/-- (*sumpter/locks.Table).Holds -/
abbrev i_locks_Table_Holds : FuncId := 15
def locks_Table_Holds (p_t : Option Addr) (p_txn : Int) (R : TR [.sc .sl] → Pr) : Pr :=
  Nn p_t fun a1 =>
  LdL (a1.add 0) fun x2 =>
  Lp (σ := Sl × Int × Unit) (fun L3 s4 =>
  Br (decide ((s4.2.1 : Int) < ((x2.len : Nat) : Int))) (
  Jp (σ := Sl × Unit) (fun s6 =>
  L3 (s6.1, (w64 (s4.2.1 + 1)), ())) fun J5 =>
  Ix x2 s4.2.1 4 fun a7 =>
  LdI .u64 (a7.add 0) fun x8 =>
  LdS (a7.add 1) fun x9 =>
  LdS (a7.add 2) fun x10 =>
  LdB (a7.add 3) fun x11 =>
  New #[(.int .u64 0), (.string (BA [])), (.string (BA [])), (.bool false)] 48 fun a12 =>
  St (a12.add 0) (.int .u64 x8) <|
  St (a12.add 1) (.string x9) <|
  St (a12.add 2) (.string x10) <|
  St (a12.add 3) (.bool x11) <|
  LdI .u64 (a12.add 0) fun x13 =>
  Br ((x13 : Int) == p_txn) (
  LdS ((a12.add 1).add 0) fun x14 =>
  LdS ((a12.add 1).add 1) fun x15 =>
  LdB ((a12.add 1).add 2) fun x16 =>
  New #[(.string x14), (.string x15), (.bool x16)] 30 fun a17 =>
  App 30 3 40 (zc Try.prog 30) s4.1 1 (srcS (some a17) 1 3) fun r18 =>
  J5 (r18, ())) (
  J5 (s4.1, ()))) (
  R (s4.1, ()))) (⟨none, 0, 0⟩, 0, ())
def locks_Table_Holds_ann : Ann := .seq .leaf (.seq .leaf (.seq (.seq .leaf (.block (.loop [(5, .sc .sl), (13, .sc (.i .i64))] (.seq .leaf (.seq (.cond .leaf .leaf) (.seq (.join [(5, .sc .sl)] (.block (.seq .leaf (.seq .leaf (.cond .leaf .leaf))))) .leaf)))))) (.seq .leaf .leaf)))
set_option maxRecDepth 100000 in
theorem locks_Table_Holds_den (p_t : Option Addr) (p_txn : Int) (R : TR [.sc .sl] → Pr) : den Try.prog locks_Table_Holds_ann (Try.f15.body.getD .skip) (retQ Try.prog Try.f15.results.toList false [.sc .sl] R) [] (env0 28 [(.pointer p_t), (.int .u64 p_txn)]) = locks_Table_Holds p_t p_txn R := by
  kernel_rfl
set_option maxRecDepth 100000 in
theorem locks_Table_Holds_call (p_t : Option Addr) (p_txn : Int) {R : TR [.sc .sl] → Pr} {w : World} (h : locks_Table_Holds p_t p_txn R w) : Cl Try.prog 15 [(.pointer p_t), (.int .u64 p_txn)] false [.sc .sl] R w :=
  call_of (P := Try.prog) (tup := false) (rs := [.sc .sl]) Try.checked.mixed locks_Table_Holds_ann (by kernel_rfl) Try.func15 (by kernel_rfl) Try.ntmps15 (by show Try.f15.results.size = 1; kernel_rfl) (by rw [← locks_Table_Holds_den] at h; exact h)

/-- sumpter/sumpterlaw16.sound -/
abbrev i_sumpterlaw16_sound : FuncId := 16
def sumpterlaw16_sound (p_t : Option Addr) (R : TR [.sc .b] → Pr) : Pr :=
  Cl Try.prog 14 [(.pointer p_t)] false [.sc .sl] fun r1 =>
  Lp (σ := Bool × Int × Unit) (fun L2 s3 =>
  Br (decide ((s3.2.1 : Int) < ((r1.1.len : Nat) : Int))) (
  Ix r1.1 s3.2.1 1 fun a4 =>
  LdI .u64 a4 fun x5 =>
  Lp (σ := Bool × Int × Unit) (fun L6 s7 =>
  Br (decide ((s7.2.1 : Int) < ((r1.1.len : Nat) : Int))) (
  Ix r1.1 s7.2.1 1 fun a8 =>
  LdI .u64 a8 fun x9 =>
  Cl Try.prog 15 [(.pointer p_t), (.int .u64 x5)] false [.sc .sl] fun r10 =>
  Lp (σ := Bool × Int × Unit) (fun L11 s12 =>
  Br (decide ((s12.2.1 : Int) < ((r10.1.len : Nat) : Int))) (
  Ix r10.1 s12.2.1 3 fun a13 =>
  LdS (a13.add 0) fun x14 =>
  LdS (a13.add 1) fun x15 =>
  LdB (a13.add 2) fun x16 =>
  New #[(.string (BA [])), (.string (BA [])), (.bool false)] 30 fun a17 =>
  St (a17.add 0) (.string x14) <|
  St (a17.add 1) (.string x15) <|
  St (a17.add 2) (.bool x16) <|
  Cl Try.prog 15 [(.pointer p_t), (.int .u64 x9)] false [.sc .sl] fun r18 =>
  Lp (σ := Bool × Int × Unit) (fun L19 s20 =>
  Br (decide ((s20.2.1 : Int) < ((r18.1.len : Nat) : Int))) (
  Ix r18.1 s20.2.1 3 fun a21 =>
  LdS (a21.add 0) fun x22 =>
  LdS (a21.add 1) fun x23 =>
  LdB (a21.add 2) fun x24 =>
  New #[(.string (BA [])), (.string (BA [])), (.bool false)] 30 fun a25 =>
  St (a25.add 0) (.string x22) <|
  St (a25.add 1) (.string x23) <|
  St (a25.add 2) (.bool x24) <|
  Jp (σ := Bool × Unit) (fun s27 =>
  Br s27.1 (
  R (false, ())) (
  L19 (s20.1, (w64 (s20.2.1 + 1)), ()))) fun J26 =>
  Br ((x5 : Int) != x9) (
  LdS (a17.add 0) fun x28 =>
  LdS (a17.add 1) fun x29 =>
  LdB (a17.add 2) fun x30 =>
  LdS (a25.add 0) fun x31 =>
  LdS (a25.add 1) fun x32 =>
  LdB (a25.add 2) fun x33 =>
  Cl Try.prog 37 [(.agg #[(.string x28), (.string x29), (.bool x30)]), (.agg #[(.string x31), (.string x32), (.bool x33)])] false [.sc .b] fun r34 =>
  J26 (r34.1, ())) (
  J26 (false, ()))) (
  L11 (s20.1, (w64 (s12.2.1 + 1)), ()))) (s12.1, 0, ())) (
  L6 (s12.1, (w64 (s7.2.1 + 1)), ()))) (s7.1, 0, ())) (
  L2 (s7.1, (w64 (s3.2.1 + 1)), ()))) (s3.1, 0, ())) (
  Cl Try.prog 13 [(.pointer p_t)] false [.sc .sl] fun r35 =>
  Lp (σ := Bool × Int × Unit) (fun L36 s37 =>
  Br (decide ((s37.2.1 : Int) < ((r35.1.len : Nat) : Int))) (
  Ix r35.1 s37.2.1 4 fun a38 =>
  LdI .u64 (a38.add 0) fun x39 =>
  LdS (a38.add 1) fun x40 =>
  LdS (a38.add 2) fun x41 =>
  LdB (a38.add 3) fun x42 =>
  New #[(.int .u64 0), (.string (BA [])), (.string (BA [])), (.bool false)] 48 fun a43 =>
  St (a43.add 0) (.int .u64 x39) <|
  St (a43.add 1) (.string x40) <|
  St (a43.add 2) (.string x41) <|
  St (a43.add 3) (.bool x42) <|
  Lp (σ := Bool × Bool × Int × Unit) (fun L44 s45 =>
  Br (decide ((s45.2.2.1 : Int) < ((r1.1.len : Nat) : Int))) (
  Ix r1.1 s45.2.2.1 1 fun a46 =>
  LdI .u64 a46 fun x47 =>
  Cl Try.prog 15 [(.pointer p_t), (.int .u64 x47)] false [.sc .sl] fun r48 =>
  Lp (σ := Bool × Bool × Int × Unit) (fun L49 s50 =>
  Br (decide ((s50.2.2.1 : Int) < ((r48.1.len : Nat) : Int))) (
  Jp (σ := Bool × Bool × Unit) (fun s52 =>
  L49 (s52.1, s52.2.1, (w64 (s50.2.2.1 + 1)), ())) fun J51 =>
  Ix r48.1 s50.2.2.1 3 fun a53 =>
  LdS (a53.add 0) fun x54 =>
  LdS (a53.add 1) fun x55 =>
  LdB (a53.add 2) fun x56 =>
  New #[(.string (BA [])), (.string (BA [])), (.bool false)] 30 fun a57 =>
  St (a57.add 0) (.string x54) <|
  St (a57.add 1) (.string x55) <|
  St (a57.add 2) (.bool x56) <|
  Jp (σ := Bool × Unit) (fun s59 =>
  Br s59.1 (
  J51 (s50.1, s50.2.1, ())) (
  LdI .u64 (a43.add 0) fun x60 =>
  Br (decide ((x47 : Int) ≤ x60)) (
  R (false, ())) (
  J51 (s50.1, true, ())))) fun J58 =>
  LdI .u64 (a43.add 0) fun x61 =>
  Br ((x47 : Int) == x61) (
  J58 (true, ())) (
  LdS ((a43.add 1).add 0) fun x62 =>
  LdS ((a43.add 1).add 1) fun x63 =>
  LdB ((a43.add 1).add 2) fun x64 =>
  LdS (a57.add 0) fun x65 =>
  LdS (a57.add 1) fun x66 =>
  LdB (a57.add 2) fun x67 =>
  Cl Try.prog 37 [(.agg #[(.string x62), (.string x63), (.bool x64)]), (.agg #[(.string x65), (.string x66), (.bool x67)])] false [.sc .b] fun r68 =>
  J58 ((!r68.1), ()))) (
  L44 (s50.1, s50.2.1, (w64 (s45.2.2.1 + 1)), ()))) (s45.1, s45.2.1, 0, ())) (
  Br (!s45.2.1) (
  R (false, ())) (
  L36 (s45.1, (w64 (s37.2.1 + 1)), ())))) (s37.1, false, 0, ())) (
  R (true, ()))) (s3.1, 0, ()))) (false, 0, ())
def sumpterlaw16_sound_ann : Ann := .seq .leaf (.seq .leaf (.seq (.seq .leaf (.block (.loop [(2, .sc .b), (23, .sc (.i .i64))] (.seq .leaf (.seq (.cond .leaf .leaf) (.seq (.block (.seq .leaf (.seq .leaf (.block (.loop [(2, .sc .b), (29, .sc (.i .i64))] (.seq .leaf (.seq (.cond .leaf .leaf) (.seq (.block (.seq .leaf (.seq .leaf (.block (.loop [(2, .sc .b), (37, .sc (.i .i64))] (.seq .leaf (.seq (.cond .leaf .leaf) (.seq (.block (.seq .leaf (.seq .leaf (.block (.loop [(2, .sc .b), (45, .sc (.i .i64))] (.seq .leaf (.seq (.cond .leaf .leaf) (.seq (.block (.seq .leaf (.seq (.join [(56, .sc .b)] .leaf) (.cond (.seq .leaf .leaf) .leaf)))) .leaf)))))))) .leaf)))))))) .leaf)))))))) .leaf)))))) (.seq (.seq .leaf (.block (.loop [(2, .sc .b), (64, .sc (.i .i64))] (.seq .leaf (.seq (.cond .leaf .leaf) (.seq (.block (.seq .leaf (.seq .leaf (.seq (.seq .leaf (.block (.loop [(2, .sc .b), (14, .sc .b), (70, .sc (.i .i64))] (.seq .leaf (.seq (.cond .leaf .leaf) (.seq (.block (.seq .leaf (.seq .leaf (.block (.loop [(2, .sc .b), (14, .sc .b), (78, .sc (.i .i64))] (.seq .leaf (.seq (.cond .leaf .leaf) (.seq (.join [(2, .sc .b), (14, .sc .b)] (.block (.seq .leaf (.seq (.seq (.join [(92, .sc .b)] .leaf) (.cond .leaf .leaf)) (.seq .leaf (.seq .leaf (.cond (.seq .leaf .leaf) .leaf))))))) .leaf)))))))) .leaf)))))) (.seq .leaf (.cond (.seq .leaf .leaf) .leaf)))))) .leaf)))))) (.seq .leaf .leaf))))
set_option maxRecDepth 100000 in
theorem sumpterlaw16_sound_den (p_t : Option Addr) (R : TR [.sc .b] → Pr) : den Try.prog sumpterlaw16_sound_ann (Try.f16.body.getD .skip) (retQ Try.prog Try.f16.results.toList false [.sc .b] R) [] (env0 102 [(.pointer p_t)]) = sumpterlaw16_sound p_t R := by
  kernel_rfl
set_option maxRecDepth 100000 in
theorem sumpterlaw16_sound_call (p_t : Option Addr) {R : TR [.sc .b] → Pr} {w : World} (h : sumpterlaw16_sound p_t R w) : Cl Try.prog 16 [(.pointer p_t)] false [.sc .b] R w :=
  call_of (P := Try.prog) (tup := false) (rs := [.sc .b]) Try.checked.mixed sumpterlaw16_sound_ann (by kernel_rfl) Try.func16 (by kernel_rfl) Try.ntmps16 (by show Try.f16.results.size = 1; kernel_rfl) (by rw [← sumpterlaw16_sound_den] at h; exact h)

/-- (*sumpter/sumpterref16.Table).Ask -/
abbrev i_sumpterref16_Table_Ask : FuncId := 17
def sumpterref16_Table_Ask (p_t : Option Addr) (p_txn : Int) (p_l_0 : ByteArray) (p_l_1 : ByteArray) (p_l_2 : Bool) (R : TR [.sc (.i .i64), .sc .sl, .sc .sl, .sc (.i .i64)] → Pr) : Pr :=
  New #[(.string p_l_0), (.string p_l_1), (.bool p_l_2)] 30 fun a1 =>
  LdS ((a1.add 0).add 0) fun x2 =>
  LdS ((a1.add 0).add 1) fun x3 =>
  Cl Try.prog 38 [(.agg #[(.string x2), (.string x3)])] false [.sc (.i .i64)] fun r4 =>
  Br ((r4.1 : Int) != 0) (
  R (0, ⟨none, 0, 0⟩, ⟨none, 0, 0⟩, 21, ())) (
  Cl Try.prog 39 [(.pointer p_t), (.int .u64 p_txn)] false [.sc .b] fun r5 =>
  Br r5.1 (
  R (0, ⟨none, 0, 0⟩, ⟨none, 0, 0⟩, 4, ())) (
  LdS (a1.add 0) fun x6 =>
  LdS (a1.add 1) fun x7 =>
  LdB (a1.add 2) fun x8 =>
  New #[(.int .u64 0), (.string (BA [])), (.string (BA [])), (.bool false)] 78 fun a9 =>
  St (a9.add 0) (.int .u64 p_txn) <|
  St (a9.add 1) (.string x6) <|
  St (a9.add 2) (.string x7) <|
  St (a9.add 3) (.bool x8) <|
  Nn p_t fun a10 =>
  LdL (a10.add 0) fun x11 =>
  Lp (σ := Int × Sl × Sl × Int × Bool × Int × Unit) (fun L12 s13 =>
  Br (decide ((s13.2.2.2.2.2.1 : Int) < ((x11.len : Nat) : Int))) (
  Jp (σ := Int × Sl × Sl × Int × Bool × Unit) (fun s15 =>
  L12 (s15.1, s15.2.1, s15.2.2.1, s15.2.2.2.1, s15.2.2.2.2.1, (w64 (s13.2.2.2.2.2.1 + 1)), ())) fun J14 =>
  Ix x11 s13.2.2.2.2.2.1 4 fun a16 =>
  LdI .u64 (a16.add 0) fun x17 =>
  LdS (a16.add 1) fun x18 =>
  LdS (a16.add 2) fun x19 =>
  LdB (a16.add 3) fun x20 =>
  New #[(.int .u64 0), (.string (BA [])), (.string (BA [])), (.bool false)] 78 fun a21 =>
  St (a21.add 0) (.int .u64 x17) <|
  St (a21.add 1) (.string x18) <|
  St (a21.add 2) (.string x19) <|
  St (a21.add 3) (.bool x20) <|
  Jp (σ := Bool × Unit) (fun s23 =>
  Br s23.1 (
  R (1, ⟨none, 0, 0⟩, ⟨none, 0, 0⟩, 0, ())) (
  Jp (σ := Bool × Unit) (fun s25 =>
  Br s25.1 (
  J14 (s13.1, s13.2.1, s13.2.2.1, s13.2.2.2.1, false, ())) (
  J14 (s13.1, s13.2.1, s13.2.2.1, s13.2.2.2.1, s13.2.2.2.2.1, ()))) fun J24 =>
  LdI .u64 (a21.add 0) fun x26 =>
  LdS (a21.add 1) fun x27 =>
  LdS (a21.add 2) fun x28 =>
  LdB (a21.add 3) fun x29 =>
  LdI .u64 (a9.add 0) fun x30 =>
  LdS (a9.add 1) fun x31 =>
  LdS (a9.add 2) fun x32 =>
  LdB (a9.add 3) fun x33 =>
  Cl Try.prog 41 [(.agg #[(.int .u64 x26), (.string x27), (.string x28), (.bool x29)]), (.agg #[(.int .u64 x30), (.string x31), (.string x32), (.bool x33)])] false [.sc .b] fun r34 =>
  Br r34.1 (
  LdI .u64 (a21.add 0) fun x35 =>
  J24 ((decide ((x35 : Int) < p_txn)), ())) (
  J24 (false, ())))) fun J22 =>
  LdI .u64 (a21.add 0) fun x36 =>
  Br ((x36 : Int) == p_txn) (
  LdS (((a21.add 1).add 0).add 0) fun x37 =>
  LdS (((a21.add 1).add 0).add 1) fun x38 =>
  LdS ((a1.add 0).add 0) fun x39 =>
  LdS ((a1.add 0).add 1) fun x40 =>
  Cl Try.prog 40 [(.agg #[(.string x37), (.string x38)]), (.agg #[(.string x39), (.string x40)])] false [.sc .b] fun r41 =>
  Br r41.1 (
  LdB ((a21.add 1).add 2) fun x42 =>
  Br x42 (
  J22 (true, ())) (
  LdB (a1.add 2) fun x43 =>
  J22 ((!x43), ()))) (
  J22 (false, ()))) (
  J22 (false, ()))) (
  Dr <|
  Nn p_t fun a44 =>
  LdL (a44.add 0) fun x45 =>
  Nn p_t fun a46 =>
  LdL (a46.add 1) fun x47 =>
  Br (decide (((w64 (((x45.len : Nat) : Int) + ((x47.len : Nat) : Int))) : Int) ≥ 192)) (
  R (3, ⟨none, 0, 0⟩, ⟨none, 0, 0⟩, 0, ())) (
  LdI .u64 (a9.add 0) fun x48 =>
  LdS (a9.add 1) fun x49 =>
  LdS (a9.add 2) fun x50 =>
  LdB (a9.add 3) fun x51 =>
  Cl Try.prog 42 [(.pointer p_t), (.agg #[(.int .u64 x48), (.string x49), (.string x50), (.bool x51)])] false [.sc .b] fun r52 =>
  Br r52.1 (
  LdI .u64 (a9.add 0) fun x53 =>
  LdS (a9.add 1) fun x54 =>
  LdS (a9.add 2) fun x55 =>
  LdB (a9.add 3) fun x56 =>
  Cl Try.prog 43 [(.pointer p_t), (.agg #[(.int .u64 x53), (.string x54), (.string x55), (.bool x56)])] false [.sc .sl] fun r57 =>
  Cl Try.prog 44 [(.pointer p_t), (.slice r57.1.p r57.1.len r57.1.cap)] true [.sc .sl, .sc .sl] fun r58 =>
  R (1, r58.1, r58.2.1, 0, ())) (
  Br s13.2.2.2.2.1 (
  LdI .u64 (a9.add 0) fun x59 =>
  LdS (a9.add 1) fun x60 =>
  LdS (a9.add 2) fun x61 =>
  LdB (a9.add 3) fun x62 =>
  Cl Try.prog 45 [(.pointer p_t), (.agg #[(.int .u64 x59), (.string x60), (.string x61), (.bool x62)])] true [] fun r63 =>
  R (2, ⟨none, 0, 0⟩, ⟨none, 0, 0⟩, 0, ())) (
  R (3, ⟨none, 0, 0⟩, ⟨none, 0, 0⟩, 0, ())))))) (0, ⟨none, 0, 0⟩, ⟨none, 0, 0⟩, 0, true, 0, ())))
def sumpterref16_Table_Ask_ann : Ann := .seq .leaf (.seq (.seq .leaf (.cond (.seq .leaf .leaf) .leaf)) (.seq (.seq .leaf (.cond (.seq .leaf .leaf) .leaf)) (.seq .leaf (.seq .leaf (.seq (.seq .leaf (.block (.loop [(6, .sc (.i .i64)), (7, .sc .sl), (8, .sc .sl), (9, .sc (.i .i64)), (11, .sc .b), (29, .sc (.i .i64))] (.seq .leaf (.seq (.cond .leaf .leaf) (.seq (.join [(6, .sc (.i .i64)), (7, .sc .sl), (8, .sc .sl), (9, .sc (.i .i64)), (11, .sc .b)] (.block (.seq .leaf (.seq (.seq (.join [(54, .sc .b)] .leaf) (.cond (.seq .leaf .leaf) .leaf)) (.seq (.join [(63, .sc .b)] .leaf) (.cond .leaf .leaf)))))) .leaf)))))) (.seq (.seq .leaf (.cond (.seq .leaf .leaf) .leaf)) (.seq (.seq .leaf (.cond (.seq .leaf (.seq .leaf (.seq .leaf .leaf))) .leaf)) (.seq (.seq .leaf (.cond (.seq .leaf (.seq .leaf .leaf)) .leaf)) (.seq .leaf .leaf)))))))))
set_option maxRecDepth 100000 in
theorem sumpterref16_Table_Ask_den (p_t : Option Addr) (p_txn : Int) (p_l_0 : ByteArray) (p_l_1 : ByteArray) (p_l_2 : Bool) (R : TR [.sc (.i .i64), .sc .sl, .sc .sl, .sc (.i .i64)] → Pr) : den Try.prog sumpterref16_Table_Ask_ann (Try.f17.body.getD .skip) (retQ Try.prog Try.f17.results.toList true [.sc (.i .i64), .sc .sl, .sc .sl, .sc (.i .i64)] R) [] (env0 95 [(.pointer p_t), (.int .u64 p_txn), (.agg #[(.string p_l_0), (.string p_l_1), (.bool p_l_2)])]) = sumpterref16_Table_Ask p_t p_txn p_l_0 p_l_1 p_l_2 R := by
  kernel_rfl
set_option maxRecDepth 100000 in
theorem sumpterref16_Table_Ask_call (p_t : Option Addr) (p_txn : Int) (p_l_0 : ByteArray) (p_l_1 : ByteArray) (p_l_2 : Bool) {R : TR [.sc (.i .i64), .sc .sl, .sc .sl, .sc (.i .i64)] → Pr} {w : World} (h : sumpterref16_Table_Ask p_t p_txn p_l_0 p_l_1 p_l_2 R w) : Cl Try.prog 17 [(.pointer p_t), (.int .u64 p_txn), (.agg #[(.string p_l_0), (.string p_l_1), (.bool p_l_2)])] true [.sc (.i .i64), .sc .sl, .sc .sl, .sc (.i .i64)] R w :=
  call_of (P := Try.prog) (tup := true) (rs := [.sc (.i .i64), .sc .sl, .sc .sl, .sc (.i .i64)]) Try.checked.mixed sumpterref16_Table_Ask_ann (by kernel_rfl) Try.func17 (by kernel_rfl) Try.ntmps17 (by show Nat.beq Try.f17.results.size 1 = false; kernel_rfl) (by rw [← sumpterref16_Table_Ask_den] at h; exact h)

/-- sumpter/sumpterlaw16.numbers -/
abbrev i_sumpterlaw16_numbers : FuncId := 18
def sumpterlaw16_numbers (p_a : Sl) (p_b : Sl) (R : TR [.sc .b] → Pr) : Pr :=
  Br ((((p_a.len : Nat) : Int) : Int) != ((p_b.len : Nat) : Int)) (
  R (false, ())) (
  Lp (σ := Bool × Int × Unit) (fun L1 s2 =>
  Br (decide ((s2.2.1 : Int) < ((p_a.len : Nat) : Int))) (
  Dr <|
  Ix p_a s2.2.1 1 fun a3 =>
  LdI .u64 a3 fun x4 =>
  Ix p_b s2.2.1 1 fun a5 =>
  LdI .u64 a5 fun x6 =>
  Br ((x4 : Int) != x6) (
  R (false, ())) (
  Ix p_a s2.2.1 1 fun a7 =>
  St a7 (.int .u64 0) <|
  L1 (s2.1, (w64 (s2.2.1 + 1)), ()))) (
  R (true, ()))) (false, 0, ()))
def sumpterlaw16_numbers_ann : Ann := .seq .leaf (.seq (.seq .leaf (.cond (.seq .leaf .leaf) .leaf)) (.seq (.seq .leaf (.block (.loop [(4, .sc .b), (13, .sc (.i .i64))] (.seq .leaf (.seq (.cond .leaf .leaf) (.seq (.block (.seq .leaf (.seq (.seq .leaf (.cond (.seq .leaf .leaf) .leaf)) .leaf))) .leaf)))))) (.seq .leaf .leaf)))
set_option maxRecDepth 100000 in
theorem sumpterlaw16_numbers_den (p_a : Sl) (p_b : Sl) (R : TR [.sc .b] → Pr) : den Try.prog sumpterlaw16_numbers_ann (Try.f18.body.getD .skip) (retQ Try.prog Try.f18.results.toList false [.sc .b] R) [] (env0 29 [(.slice p_a.p p_a.len p_a.cap), (.slice p_b.p p_b.len p_b.cap)]) = sumpterlaw16_numbers p_a p_b R := by
  kernel_rfl
set_option maxRecDepth 100000 in
theorem sumpterlaw16_numbers_call (p_a : Sl) (p_b : Sl) {R : TR [.sc .b] → Pr} {w : World} (h : sumpterlaw16_numbers p_a p_b R w) : Cl Try.prog 18 [(.slice p_a.p p_a.len p_a.cap), (.slice p_b.p p_b.len p_b.cap)] false [.sc .b] R w :=
  call_of (P := Try.prog) (tup := false) (rs := [.sc .b]) Try.checked.mixed sumpterlaw16_numbers_ann (by kernel_rfl) Try.func18 (by kernel_rfl) Try.ntmps18 (by show Try.f18.results.size = 1; kernel_rfl) (by rw [← sumpterlaw16_numbers_den] at h; exact h)

/-- (*sumpter/sumpterref16.Table).Release -/
abbrev i_sumpterref16_Table_Release : FuncId := 19
def sumpterref16_Table_Release (p_t : Option Addr) (p_txn : Int) (R : TR [.sc .sl, .sc .sl] → Pr) : Pr :=
  Nn p_t fun a1 =>
  LdL (a1.add 0) fun x2 =>
  Cl Try.prog 46 [(.slice x2.p x2.len x2.cap), (.int .u64 p_txn)] false [.sc .sl] fun r3 =>
  Nn p_t fun a4 =>
  St (a4.add 0) (.slice r3.1.p r3.1.len r3.1.cap) <|
  Nn p_t fun a5 =>
  LdL (a5.add 1) fun x6 =>
  Cl Try.prog 46 [(.slice x6.p x6.len x6.cap), (.int .u64 p_txn)] false [.sc .sl] fun r7 =>
  Nn p_t fun a8 =>
  St (a8.add 1) (.slice r7.1.p r7.1.len r7.1.cap) <|
  Cl Try.prog 44 [(.pointer p_t), (.slice none 0 0)] true [.sc .sl, .sc .sl] fun r9 =>
  R (r9.1, r9.2.1, ())
def sumpterref16_Table_Release_ann : Ann := .seq .leaf (.seq .leaf (.seq .leaf (.seq .leaf .leaf)))
set_option maxRecDepth 100000 in
theorem sumpterref16_Table_Release_den (p_t : Option Addr) (p_txn : Int) (R : TR [.sc .sl, .sc .sl] → Pr) : den Try.prog sumpterref16_Table_Release_ann (Try.f19.body.getD .skip) (retQ Try.prog Try.f19.results.toList true [.sc .sl, .sc .sl] R) [] (env0 28 [(.pointer p_t), (.int .u64 p_txn)]) = sumpterref16_Table_Release p_t p_txn R := by
  kernel_rfl
set_option maxRecDepth 100000 in
theorem sumpterref16_Table_Release_call (p_t : Option Addr) (p_txn : Int) {R : TR [.sc .sl, .sc .sl] → Pr} {w : World} (h : sumpterref16_Table_Release p_t p_txn R w) : Cl Try.prog 19 [(.pointer p_t), (.int .u64 p_txn)] true [.sc .sl, .sc .sl] R w :=
  call_of (P := Try.prog) (tup := true) (rs := [.sc .sl, .sc .sl]) Try.checked.mixed sumpterref16_Table_Release_ann (by kernel_rfl) Try.func19 (by kernel_rfl) Try.ntmps19 (by show Nat.beq Try.f19.results.size 1 = false; kernel_rfl) (by rw [← sumpterref16_Table_Release_den] at h; exact h)

/-- sumpter/sumpterlaw16.same -/
abbrev i_sumpterlaw16_same : FuncId := 20
def sumpterlaw16_same (p_t : Option Addr) (p_x : Option Addr) (R : TR [.sc .b] → Pr) : Pr :=
  Cl Try.prog 13 [(.pointer p_t)] false [.sc .sl] fun r1 =>
  Nn p_x fun a2 =>
  LdL (a2.add 1) fun x3 =>
  Br ((((r1.1.len : Nat) : Int) : Int) != ((x3.len : Nat) : Int)) (
  R (false, ())) (
  Lp (σ := Bool × Int × Unit) (fun L4 s5 =>
  Br (decide ((s5.2.1 : Int) < ((r1.1.len : Nat) : Int))) (
  Jp (σ := Bool × Unit) (fun s7 =>
  Br s7.1 (
  R (false, ())) (
  Ix r1.1 s5.2.1 4 fun a8 =>
  St (a8.add 0) (.int .u64 0) <|
  L4 (s5.1, (w64 (s5.2.1 + 1)), ()))) fun J6 =>
  Dr <|
  Ix r1.1 s5.2.1 4 fun a9 =>
  LdI .u64 (a9.add 0) fun x10 =>
  Nn p_x fun a11 =>
  LdL (a11.add 1) fun x12 =>
  Ix x12 s5.2.1 4 fun a13 =>
  LdI .u64 (a13.add 0) fun x14 =>
  Br ((x10 : Int) != x14) (
  J6 (true, ())) (
  Ix r1.1 s5.2.1 4 fun a15 =>
  LdS ((a15.add 1).add 0) fun x16 =>
  LdS ((a15.add 1).add 1) fun x17 =>
  LdB ((a15.add 1).add 2) fun x18 =>
  Nn p_x fun a19 =>
  LdL (a19.add 1) fun x20 =>
  Ix x20 s5.2.1 4 fun a21 =>
  LdS ((a21.add 1).add 0) fun x22 =>
  LdS ((a21.add 1).add 1) fun x23 =>
  LdB ((a21.add 1).add 2) fun x24 =>
  J6 ((!(((seq x16 x22) && ((seq x17 x23) && true)) && ((x18 == x24) && true))), ()))) (
  Cl Try.prog 47 [(.pointer p_x)] false [.sc .sl] fun r25 =>
  Lp (σ := Bool × Int × Unit) (fun L26 s27 =>
  Br (decide ((s27.2.1 : Int) < ((r25.1.len : Nat) : Int))) (
  Ix r25.1 s27.2.1 1 fun a28 =>
  LdI .u64 a28 fun x29 =>
  Cl Try.prog 15 [(.pointer p_t), (.int .u64 x29)] false [.sc .sl] fun r30 =>
  Cl Try.prog 48 [(.pointer p_x), (.int .u64 x29)] false [.sc .sl] fun r31 =>
  Br ((((r30.1.len : Nat) : Int) : Int) != ((r31.1.len : Nat) : Int)) (
  R (false, ())) (
  Lp (σ := Bool × Int × Unit) (fun L32 s33 =>
  Br (decide ((s33.2.1 : Int) < ((r30.1.len : Nat) : Int))) (
  Dr <|
  Ix r30.1 s33.2.1 3 fun a34 =>
  LdS (a34.add 0) fun x35 =>
  LdS (a34.add 1) fun x36 =>
  LdB (a34.add 2) fun x37 =>
  Ix r31.1 s33.2.1 3 fun a38 =>
  LdS (a38.add 0) fun x39 =>
  LdS (a38.add 1) fun x40 =>
  LdB (a38.add 2) fun x41 =>
  Br (!(((seq x35 x39) && ((seq x36 x40) && true)) && ((x37 == x41) && true))) (
  R (false, ())) (
  Ix r30.1 s33.2.1 3 fun a42 =>
  LdB (a42.add 2) fun x43 =>
  Ix r30.1 s33.2.1 3 fun a44 =>
  St (a44.add 2) (.bool (!x43)) <|
  L32 (s33.1, (w64 (s33.2.1 + 1)), ()))) (
  L26 (s33.1, (w64 (s27.2.1 + 1)), ()))) (s27.1, 0, ()))) (
  Cl Try.prog 14 [(.pointer p_t)] false [.sc .sl] fun r45 =>
  Cl Try.prog 47 [(.pointer p_x)] false [.sc .sl] fun r46 =>
  Cl Try.prog 18 [(.slice r45.1.p r45.1.len r45.1.cap), (.slice r46.1.p r46.1.len r46.1.cap)] false [.sc .b] fun r47 =>
  R (r47.1, ()))) (s5.1, 0, ()))) (false, 0, ()))
def sumpterlaw16_same_ann : Ann := .seq .leaf (.seq .leaf (.seq (.seq .leaf (.cond (.seq .leaf .leaf) .leaf)) (.seq (.seq .leaf (.block (.loop [(4, .sc .b), (24, .sc (.i .i64))] (.seq .leaf (.seq (.cond .leaf .leaf) (.seq (.block (.seq .leaf (.seq (.seq (.join [(56, .sc .b)] .leaf) (.cond (.seq .leaf .leaf) .leaf)) .leaf))) .leaf)))))) (.seq (.seq .leaf (.block (.loop [(4, .sc .b), (65, .sc (.i .i64))] (.seq .leaf (.seq (.cond .leaf .leaf) (.seq (.block (.seq .leaf (.seq .leaf (.seq .leaf (.seq (.seq .leaf (.cond (.seq .leaf .leaf) .leaf)) (.seq .leaf (.block (.loop [(4, .sc .b), (82, .sc (.i .i64))] (.seq .leaf (.seq (.cond .leaf .leaf) (.seq (.block (.seq .leaf (.seq (.seq .leaf (.cond (.seq .leaf .leaf) .leaf)) .leaf))) .leaf))))))))))) .leaf)))))) (.seq .leaf .leaf)))))
set_option maxRecDepth 100000 in
theorem sumpterlaw16_same_den (p_t : Option Addr) (p_x : Option Addr) (R : TR [.sc .b] → Pr) : den Try.prog sumpterlaw16_same_ann (Try.f20.body.getD .skip) (retQ Try.prog Try.f20.results.toList false [.sc .b] R) [] (env0 111 [(.pointer p_t), (.pointer p_x)]) = sumpterlaw16_same p_t p_x R := by
  kernel_rfl
set_option maxRecDepth 100000 in
theorem sumpterlaw16_same_call (p_t : Option Addr) (p_x : Option Addr) {R : TR [.sc .b] → Pr} {w : World} (h : sumpterlaw16_same p_t p_x R w) : Cl Try.prog 20 [(.pointer p_t), (.pointer p_x)] false [.sc .b] R w :=
  call_of (P := Try.prog) (tup := false) (rs := [.sc .b]) Try.checked.mixed sumpterlaw16_same_ann (by kernel_rfl) Try.func20 (by kernel_rfl) Try.ntmps20 (by show Try.f20.results.size = 1; kernel_rfl) (by rw [← sumpterlaw16_same_den] at h; exact h)

/-- (*sumpter/locks.Table).Clone -/
abbrev i_locks_Table_Clone : FuncId := 21
def locks_Table_Clone (p_t : Option Addr) (R : TR [.sc .p] → Pr) : Pr :=
  Dr <|
  Nn p_t fun a1 =>
  LdL (a1.add 0) fun x2 =>
  Nn p_t fun a3 =>
  LdL (a3.add 1) fun x4 =>
  Cl Try.prog 34 [(.slice x2.p x2.len x2.cap)] false [.sc .sl] fun r5 =>
  Both (LdL (a3.add 1) fun x6 =>
  fun _ => ((.slice x6.p x6.len x6.cap) : Value) = (.slice x4.p x4.len x4.cap)) <|
  Cl Try.prog 34 [(.slice x4.p x4.len x4.cap)] false [.sc .sl] fun r7 =>
  New #[(.slice r5.1.p r5.1.len r5.1.cap), (.slice r7.1.p r7.1.len r7.1.cap)] 58 fun a8 =>
  R ((some a8), ())
def locks_Table_Clone_ann : Ann := .seq .leaf (.seq .leaf .leaf)
set_option maxRecDepth 100000 in
theorem locks_Table_Clone_den (p_t : Option Addr) (R : TR [.sc .p] → Pr) : den Try.prog locks_Table_Clone_ann (Try.f21.body.getD .skip) (retQ Try.prog Try.f21.results.toList false [.sc .p] R) [] (env0 15 [(.pointer p_t)]) = locks_Table_Clone p_t R := by
  kernel_rfl
set_option maxRecDepth 100000 in
theorem locks_Table_Clone_call (p_t : Option Addr) {R : TR [.sc .p] → Pr} {w : World} (h : locks_Table_Clone p_t R w) : Cl Try.prog 21 [(.pointer p_t)] false [.sc .p] R w :=
  call_of (P := Try.prog) (tup := false) (rs := [.sc .p]) Try.checked.mixed locks_Table_Clone_ann (by kernel_rfl) Try.func21 (by kernel_rfl) Try.ntmps21 (by show Try.f21.results.size = 1; kernel_rfl) (by rw [← locks_Table_Clone_den] at h; exact h)

/-- (*sumpter/locks.Table).drop -/
abbrev i_locks_Table_drop : FuncId := 22
def locks_Table_drop (p_t : Option Addr) (p_txn : Int) (R : TR [] → Pr) : Pr :=
  Dr <|
  Nn p_t fun a1 =>
  LdL (a1.add 0) fun x2 =>
  Cl Try.prog 25 [(.int .u64 p_txn)] false [.sc .v] fun r3 =>
  Both (LdL (a1.add 0) fun x4 =>
  fun _ => ((.slice x4.p x4.len x4.cap) : Value) = (.slice x2.p x2.len x2.cap)) <|
  Cl Try.prog 49 [(.slice x2.p x2.len x2.cap), r3.1] false [.sc .sl] fun r5 =>
  Nn p_t fun a6 =>
  St (a6.add 0) (.slice r5.1.p r5.1.len r5.1.cap) <|
  Dr <|
  Nn p_t fun a7 =>
  LdL (a7.add 1) fun x8 =>
  Cl Try.prog 25 [(.int .u64 p_txn)] false [.sc .v] fun r9 =>
  Both (LdL (a7.add 1) fun x10 =>
  fun _ => ((.slice x10.p x10.len x10.cap) : Value) = (.slice x8.p x8.len x8.cap)) <|
  Cl Try.prog 49 [(.slice x8.p x8.len x8.cap), r9.1] false [.sc .sl] fun r11 =>
  Nn p_t fun a12 =>
  St (a12.add 1) (.slice r11.1.p r11.1.len r11.1.cap) <|
  R ()
def locks_Table_drop_ann : Ann := .seq .leaf .leaf
set_option maxRecDepth 100000 in
theorem locks_Table_drop_den (p_t : Option Addr) (p_txn : Int) (R : TR [] → Pr) : den Try.prog locks_Table_drop_ann (Try.f22.body.getD .skip) (retQ Try.prog Try.f22.results.toList true [] R) [] (env0 24 [(.pointer p_t), (.int .u64 p_txn)]) = locks_Table_drop p_t p_txn R := by
  kernel_rfl
set_option maxRecDepth 100000 in
theorem locks_Table_drop_call (p_t : Option Addr) (p_txn : Int) {R : TR [] → Pr} {w : World} (h : locks_Table_drop p_t p_txn R w) : Cl Try.prog 22 [(.pointer p_t), (.int .u64 p_txn)] true [] R w :=
  call_of (P := Try.prog) (tup := true) (rs := []) Try.checked.mixed locks_Table_drop_ann (by kernel_rfl) Try.func22 (by kernel_rfl) Try.ntmps22 (by show Nat.beq Try.f22.results.size 1 = false; kernel_rfl) (by rw [← locks_Table_drop_den] at h; exact h)

/-- (*sumpter/locks.Table).settle -/
abbrev i_locks_Table_settle : FuncId := 23
def locks_Table_settle (p_t : Option Addr) (p_dead : Sl) (R : TR [.sc .sl, .sc .sl] → Pr) : Pr :=
  New #[(.pointer p_t)] 24 fun a1 =>
  Lp (σ := Sl × Sl × Sl × Sl × Unit) (fun L2 s3 =>
  LdP a1 fun x4 =>
  Nn x4 fun a5 =>
  LdL (a5.add 1) fun x6 =>
  Cl Try.prog 50 [(.slice x6.p x6.len x6.cap), (.func (.func 51) #[] #[(.pointer (some a1))])] false [.sc (.i .i64)] fun r7 =>
  Br (decide ((r7.1 : Int) < 0)) (
  Cl Try.prog 36 [(.slice s3.2.2.2.1.p s3.2.2.2.1.len s3.2.2.2.1.cap)] false [.sc .sl] fun r8 =>
  Cl Try.prog 36 [(.slice s3.1.p s3.1.len s3.1.cap)] false [.sc .sl] fun r9 =>
  R (r8.1, r9.1, ())) (
  LdP a1 fun x10 =>
  Nn x10 fun a11 =>
  LdL (a11.add 1) fun x12 =>
  Ix x12 r7.1 4 fun a13 =>
  LdI .u64 (a13.add 0) fun x14 =>
  LdS (a13.add 1) fun x15 =>
  LdS (a13.add 2) fun x16 =>
  LdB (a13.add 3) fun x17 =>
  New #[(.int .u64 0), (.string (BA [])), (.string (BA [])), (.bool false)] 48 fun a18 =>
  St (a18.add 0) (.int .u64 x14) <|
  St (a18.add 1) (.string x15) <|
  St (a18.add 2) (.string x16) <|
  St (a18.add 3) (.bool x17) <|
  Dr <|
  LdP a1 fun x19 =>
  LdP a1 fun x20 =>
  Nn x20 fun a21 =>
  LdL (a21.add 1) fun x22 =>
  Cl Try.prog 52 [(.slice x22.p x22.len x22.cap), (.int .i64 r7.1), (.int .i64 (w64 (r7.1 + 1)))] false [.sc .sl] fun r23 =>
  Both (LdP a1 fun x24 =>
  fun _ => ((.pointer x24) : Value) = (.pointer x19)) <|
  Nn x19 fun a25 =>
  St (a25.add 1) (.slice r23.1.p r23.1.len r23.1.cap) <|
  LdI .u64 (a18.add 0) fun x26 =>
  New #[(.int .u64 x26)] 26 fun a27 =>
  App 26 1 8 (zc Try.prog 26) s3.2.2.2.1 1 (srcS (some a27) 1 1) fun r28 =>
  LdP a1 fun x29 =>
  LdI .u64 (a18.add 0) fun x30 =>
  LdS (a18.add 1) fun x31 =>
  LdS (a18.add 2) fun x32 =>
  LdB (a18.add 3) fun x33 =>
  Cl Try.prog 28 [(.pointer x29), (.agg #[(.int .u64 x30), (.string x31), (.string x32), (.bool x33)])] false [.sc .sl] fun r34 =>
  App 26 1 8 (zc Try.prog 26) s3.1 r34.1.len (srcS r34.1.p r34.1.len 1) fun r35 =>
  L2 (r35, s3.2.1, s3.2.2.1, r28, ()))) (p_dead, ⟨none, 0, 0⟩, ⟨none, 0, 0⟩, ⟨none, 0, 0⟩, ())
def locks_Table_settle_ann : Ann := .seq .leaf (.seq .leaf (.block (.loop [(1, .sc .sl), (4, .sc .sl), (5, .sc .sl), (6, .sc .sl)] (.block (.seq .leaf (.seq (.seq .leaf (.cond (.seq .leaf .leaf) .leaf)) (.seq .leaf (.seq .leaf (.seq .leaf .leaf)))))))))
set_option maxRecDepth 100000 in
theorem locks_Table_settle_den (p_t : Option Addr) (p_dead : Sl) (R : TR [.sc .sl, .sc .sl] → Pr) : den Try.prog locks_Table_settle_ann (Try.f23.body.getD .skip) (retQ Try.prog Try.f23.results.toList true [.sc .sl, .sc .sl] R) [] (env0 49 [(.pointer p_t), (.slice p_dead.p p_dead.len p_dead.cap)]) = locks_Table_settle p_t p_dead R := by
  kernel_rfl
set_option maxRecDepth 100000 in
theorem locks_Table_settle_call (p_t : Option Addr) (p_dead : Sl) {R : TR [.sc .sl, .sc .sl] → Pr} {w : World} (h : locks_Table_settle p_t p_dead R w) : Cl Try.prog 23 [(.pointer p_t), (.slice p_dead.p p_dead.len p_dead.cap)] true [.sc .sl, .sc .sl] R w :=
  call_of (P := Try.prog) (tup := true) (rs := [.sc .sl, .sc .sl]) Try.checked.mixed locks_Table_settle_ann (by kernel_rfl) Try.func23 (by kernel_rfl) Try.ntmps23 (by show Nat.beq Try.f23.results.size 1 = false; kernel_rfl) (by rw [← locks_Table_settle_den] at h; exact h)

/-- slices.ContainsFunc[[]sumpter/locks.Ask,sumpter/locks.Ask] -/
abbrev i_slices_ContainsFunc : FuncId := 24
def slices_ContainsFunc (p_s : Sl) (p_f : Value) (R : TR [.sc .b] → Pr) : Pr :=
  Cl Try.prog 50 [(.slice p_s.p p_s.len p_s.cap), p_f] false [.sc (.i .i64)] fun r1 =>
  R ((decide ((r1.1 : Int) ≥ 0)), ())
def slices_ContainsFunc_ann : Ann := .seq .leaf (.seq .leaf .leaf)
set_option maxRecDepth 100000 in
theorem slices_ContainsFunc_den (p_s : Sl) (p_f : Value) (R : TR [.sc .b] → Pr) : den Try.prog slices_ContainsFunc_ann (Try.f24.body.getD .skip) (retQ Try.prog Try.f24.results.toList false [.sc .b] R) [] (env0 9 [(.slice p_s.p p_s.len p_s.cap), p_f]) = slices_ContainsFunc p_s p_f R := by
  kernel_rfl
set_option maxRecDepth 100000 in
theorem slices_ContainsFunc_call (p_s : Sl) (p_f : Value) {R : TR [.sc .b] → Pr} {w : World} (h : slices_ContainsFunc p_s p_f R w) : Cl Try.prog 24 [(.slice p_s.p p_s.len p_s.cap), p_f] false [.sc .b] R w :=
  call_of (P := Try.prog) (tup := false) (rs := [.sc .b]) Try.checked.mixed slices_ContainsFunc_ann (by kernel_rfl) Try.func24 (by kernel_rfl) Try.ntmps24 (by show Try.f24.results.size = 1; kernel_rfl) (by rw [← slices_ContainsFunc_den] at h; exact h)

/-- sumpter/locks.of -/
abbrev i_locks_of : FuncId := 25
def locks_of (p_txn : Int) (R : TR [.sc .v] → Pr) : Pr :=
  New #[(.int .u64 p_txn)] 26 fun a1 =>
  R ((.func (.func 53) #[] #[(.pointer (some a1))]), ())
def locks_of_ann : Ann := .seq .leaf (.seq .leaf .leaf)
set_option maxRecDepth 100000 in
theorem locks_of_den (p_txn : Int) (R : TR [.sc .v] → Pr) : den Try.prog locks_of_ann (Try.f25.body.getD .skip) (retQ Try.prog Try.f25.results.toList false [.sc .v] R) [] (env0 4 [(.int .u64 p_txn)]) = locks_of p_txn R := by
  kernel_rfl
set_option maxRecDepth 100000 in
theorem locks_of_call (p_txn : Int) {R : TR [.sc .v] → Pr} {w : World} (h : locks_of p_txn R w) : Cl Try.prog 25 [(.int .u64 p_txn)] false [.sc .v] R w :=
  call_of (P := Try.prog) (tup := false) (rs := [.sc .v]) Try.checked.mixed locks_of_ann (by kernel_rfl) Try.func25 (by kernel_rfl) Try.ntmps25 (by show Try.f25.results.size = 1; kernel_rfl) (by rw [← locks_of_den] at h; exact h)

/-- sumpter/span.Covers -/
abbrev i_span_Covers : FuncId := 26
def span_Covers (p_a_0 : ByteArray) (p_a_1 : ByteArray) (p_b_0 : ByteArray) (p_b_1 : ByteArray) (R : TR [.sc .b] → Pr) : Pr :=
  New #[(.string p_a_0), (.string p_a_1)] 28 fun a1 =>
  New #[(.string p_b_0), (.string p_b_1)] 28 fun a2 =>
  Dr <|
  LdS (a1.add 0) fun x3 =>
  LdS (a1.add 1) fun x4 =>
  Cl Try.prog 12 [(.agg #[(.string x3), (.string x4)])] false [.sc (.i .i64)] fun r5 =>
  Br ((r5.1 : Int) == 0) (
  LdS (a2.add 0) fun x6 =>
  LdS (a2.add 1) fun x7 =>
  Cl Try.prog 12 [(.agg #[(.string x6), (.string x7)])] false [.sc (.i .i64)] fun r8 =>
  Br ((r8.1 : Int) == 0) (
  LdS (a1.add 0) fun x9 =>
  LdS (a2.add 0) fun x10 =>
  Br (slt x9 x10 || seq x9 x10) (
  LdS (a1.add 1) fun x11 =>
  LdS (a2.add 1) fun x12 =>
  LdS (a2.add 1) fun x13 =>
  Cl Try.prog 54 [(.string x11), (.string x12)] false [.sc .s] fun r14 =>
  Both (LdS (a2.add 1) fun x15 =>
  fun _ => ((.string x15) : Value) = (.string x13)) <|
  R ((seq r14.1 x13), ())) (
  R (false, ()))) (
  R (false, ()))) (
  R (false, ()))
def span_Covers_ann : Ann := .seq .leaf (.seq .leaf .leaf)
set_option maxRecDepth 100000 in
theorem span_Covers_den (p_a_0 : ByteArray) (p_a_1 : ByteArray) (p_b_0 : ByteArray) (p_b_1 : ByteArray) (R : TR [.sc .b] → Pr) : den Try.prog span_Covers_ann (Try.f26.body.getD .skip) (retQ Try.prog Try.f26.results.toList false [.sc .b] R) [] (env0 30 [(.agg #[(.string p_a_0), (.string p_a_1)]), (.agg #[(.string p_b_0), (.string p_b_1)])]) = span_Covers p_a_0 p_a_1 p_b_0 p_b_1 R := by
  kernel_rfl
set_option maxRecDepth 100000 in
theorem span_Covers_call (p_a_0 : ByteArray) (p_a_1 : ByteArray) (p_b_0 : ByteArray) (p_b_1 : ByteArray) {R : TR [.sc .b] → Pr} {w : World} (h : span_Covers p_a_0 p_a_1 p_b_0 p_b_1 R w) : Cl Try.prog 26 [(.agg #[(.string p_a_0), (.string p_a_1)]), (.agg #[(.string p_b_0), (.string p_b_1)])] false [.sc .b] R w :=
  call_of (P := Try.prog) (tup := false) (rs := [.sc .b]) Try.checked.mixed span_Covers_ann (by kernel_rfl) Try.func26 (by kernel_rfl) Try.ntmps26 (by show Try.f26.results.size = 1; kernel_rfl) (by rw [← span_Covers_den] at h; exact h)

/-- sumpter/locks.against -/
abbrev i_locks_against : FuncId := 27
def locks_against (p_x_0 : Int) (p_x_1 : ByteArray) (p_x_2 : ByteArray) (p_x_3 : Bool) (R : TR [.sc .v] → Pr) : Pr :=
  New #[(.int .u64 p_x_0), (.string p_x_1), (.string p_x_2), (.bool p_x_3)] 48 fun a1 =>
  R ((.func (.func 55) #[] #[(.pointer (some a1))]), ())
def locks_against_ann : Ann := .seq .leaf (.seq .leaf .leaf)
set_option maxRecDepth 100000 in
theorem locks_against_den (p_x_0 : Int) (p_x_1 : ByteArray) (p_x_2 : ByteArray) (p_x_3 : Bool) (R : TR [.sc .v] → Pr) : den Try.prog locks_against_ann (Try.f27.body.getD .skip) (retQ Try.prog Try.f27.results.toList false [.sc .v] R) [] (env0 4 [(.agg #[(.int .u64 p_x_0), (.string p_x_1), (.string p_x_2), (.bool p_x_3)])]) = locks_against p_x_0 p_x_1 p_x_2 p_x_3 R := by
  kernel_rfl
set_option maxRecDepth 100000 in
theorem locks_against_call (p_x_0 : Int) (p_x_1 : ByteArray) (p_x_2 : ByteArray) (p_x_3 : Bool) {R : TR [.sc .v] → Pr} {w : World} (h : locks_against p_x_0 p_x_1 p_x_2 p_x_3 R w) : Cl Try.prog 27 [(.agg #[(.int .u64 p_x_0), (.string p_x_1), (.string p_x_2), (.bool p_x_3)])] false [.sc .v] R w :=
  call_of (P := Try.prog) (tup := false) (rs := [.sc .v]) Try.checked.mixed locks_against_ann (by kernel_rfl) Try.func27 (by kernel_rfl) Try.ntmps27 (by show Try.f27.results.size = 1; kernel_rfl) (by rw [← locks_against_den] at h; exact h)

/-- (*sumpter/locks.Table).grant -/
abbrev i_locks_Table_grant : FuncId := 28
def locks_Table_grant (p_t : Option Addr) (p_x_0 : Int) (p_x_1 : ByteArray) (p_x_2 : ByteArray) (p_x_3 : Bool) (R : TR [.sc .sl] → Pr) : Pr :=
  New #[(.int .u64 p_x_0), (.string p_x_1), (.string p_x_2), (.bool p_x_3)] 48 fun a1 =>
  Dr <|
  Nn p_t fun a2 =>
  LdL (a2.add 0) fun x3 =>
  LdI .u64 (a1.add 0) fun x4 =>
  LdS (a1.add 1) fun x5 =>
  LdS (a1.add 2) fun x6 =>
  LdB (a1.add 3) fun x7 =>
  New #[(.int .u64 x4), (.string x5), (.string x6), (.bool x7)] 48 fun a8 =>
  Both (LdL (a2.add 0) fun x9 =>
  fun _ => ((.slice x9.p x9.len x9.cap) : Value) = (.slice x3.p x3.len x3.cap)) <|
  App 48 4 48 (zc Try.prog 48) x3 1 (srcS (some a8) 1 4) fun r10 =>
  Nn p_t fun a11 =>
  St (a11.add 0) (.slice r10.p r10.len r10.cap) <|
  LdI .u64 (a1.add 0) fun x12 =>
  LdS (a1.add 1) fun x13 =>
  LdS (a1.add 2) fun x14 =>
  LdB (a1.add 3) fun x15 =>
  Cl Try.prog 27 [(.agg #[(.int .u64 x12), (.string x13), (.string x14), (.bool x15)])] false [.sc .v] fun r16 =>
  Nn p_t fun a17 =>
  LdL (a17.add 1) fun x18 =>
  Lp (σ := Sl × Int × Unit) (fun L19 s20 =>
  Br (decide ((s20.2.1 : Int) < ((x18.len : Nat) : Int))) (
  Jp (σ := Sl × Unit) (fun s22 =>
  L19 (s22.1, (w64 (s20.2.1 + 1)), ())) fun J21 =>
  Ix x18 s20.2.1 4 fun a23 =>
  LdI .u64 (a23.add 0) fun x24 =>
  LdS (a23.add 1) fun x25 =>
  LdS (a23.add 2) fun x26 =>
  LdB (a23.add 3) fun x27 =>
  New #[(.int .u64 0), (.string (BA [])), (.string (BA [])), (.bool false)] 48 fun a28 =>
  St (a28.add 0) (.int .u64 x24) <|
  St (a28.add 1) (.string x25) <|
  St (a28.add 2) (.string x26) <|
  St (a28.add 3) (.bool x27) <|
  Jp (σ := Bool × Unit) (fun s30 =>
  Br s30.1 (
  LdI .u64 (a28.add 0) fun x31 =>
  New #[(.int .u64 x31)] 26 fun a32 =>
  App 26 1 8 (zc Try.prog 26) s20.1 1 (srcS (some a32) 1 1) fun r33 =>
  J21 (r33, ())) (
  J21 (s20.1, ()))) fun J29 =>
  LdI .u64 (a28.add 0) fun x34 =>
  LdI .u64 (a1.add 0) fun x35 =>
  Br (decide ((x34 : Int) > x35)) (
  LdI .u64 (a28.add 0) fun x36 =>
  LdS (a28.add 1) fun x37 =>
  LdS (a28.add 2) fun x38 =>
  LdB (a28.add 3) fun x39 =>
  CallV Try.prog r16.1 [(.agg #[(.int .u64 x36), (.string x37), (.string x38), (.bool x39)])] false [.sc .b] fun r40 =>
  J29 (r40.1, ())) (
  J29 (false, ()))) (
  Lp (σ := Int × Unit) (fun L41 s42 =>
  Br (decide ((s42.1 : Int) < ((s20.1.len : Nat) : Int))) (
  Ix s20.1 s42.1 1 fun a43 =>
  LdI .u64 a43 fun x44 =>
  Cl Try.prog 22 [(.pointer p_t), (.int .u64 x44)] true [] fun r45 =>
  L41 ((w64 (s42.1 + 1)), ())) (
  R (s20.1, ()))) (0, ()))) (⟨none, 0, 0⟩, 0, ())
def locks_Table_grant_ann : Ann := .seq .leaf (.seq .leaf (.seq .leaf (.seq .leaf (.seq (.seq .leaf (.block (.loop [(5, .sc .sl), (28, .sc (.i .i64))] (.seq .leaf (.seq (.cond .leaf .leaf) (.seq (.join [(5, .sc .sl)] (.block (.seq .leaf (.seq (.join [(41, .sc .b)] .leaf) (.cond .leaf .leaf))))) .leaf)))))) (.seq (.seq .leaf (.block (.loop [(50, .sc (.i .i64))] (.seq .leaf (.seq (.cond .leaf .leaf) (.seq (.block (.seq .leaf .leaf)) .leaf)))))) (.seq .leaf .leaf))))))
set_option maxRecDepth 100000 in
theorem locks_Table_grant_den (p_t : Option Addr) (p_x_0 : Int) (p_x_1 : ByteArray) (p_x_2 : ByteArray) (p_x_3 : Bool) (R : TR [.sc .sl] → Pr) : den Try.prog locks_Table_grant_ann (Try.f28.body.getD .skip) (retQ Try.prog Try.f28.results.toList false [.sc .sl] R) [] (env0 59 [(.pointer p_t), (.agg #[(.int .u64 p_x_0), (.string p_x_1), (.string p_x_2), (.bool p_x_3)])]) = locks_Table_grant p_t p_x_0 p_x_1 p_x_2 p_x_3 R := by
  kernel_rfl
set_option maxRecDepth 100000 in
theorem locks_Table_grant_call (p_t : Option Addr) (p_x_0 : Int) (p_x_1 : ByteArray) (p_x_2 : ByteArray) (p_x_3 : Bool) {R : TR [.sc .sl] → Pr} {w : World} (h : locks_Table_grant p_t p_x_0 p_x_1 p_x_2 p_x_3 R w) : Cl Try.prog 28 [(.pointer p_t), (.agg #[(.int .u64 p_x_0), (.string p_x_1), (.string p_x_2), (.bool p_x_3)])] false [.sc .sl] R w :=
  call_of (P := Try.prog) (tup := false) (rs := [.sc .sl]) Try.checked.mixed locks_Table_grant_ann (by kernel_rfl) Try.func28 (by kernel_rfl) Try.ntmps28 (by show Try.f28.results.size = 1; kernel_rfl) (by rw [← locks_Table_grant_den] at h; exact h)

/-- slices.BinarySearchFunc[[]sumpter/locks.Ask,sumpter/locks.Ask,uint64] -/
abbrev i_slices_BinarySearchFunc : FuncId := 29
def slices_BinarySearchFunc (p_x : Sl) (p_target : Int) (p_cmp : Value) (R : TR [.sc (.i .i64), .sc .b] → Pr) : Pr :=
  Lp (σ := Int × Int × Unit) (fun L1 s2 =>
  Br (decide ((s2.1 : Int) < s2.2.1)) (
  Req ((0 : Int) ≤ 1) <|
  Ix p_x (w64 ((ishr .u64 (IntKind.u64.wrap ((w64 (s2.1 + s2.2.1)))) 1))) 4 fun a3 =>
  LdI .u64 (a3.add 0) fun x4 =>
  LdS (a3.add 1) fun x5 =>
  LdS (a3.add 2) fun x6 =>
  LdB (a3.add 3) fun x7 =>
  CallV Try.prog p_cmp [(.agg #[(.int .u64 x4), (.string x5), (.string x6), (.bool x7)]), (.int .u64 p_target)] false [.sc (.i .i64)] fun r8 =>
  Br (decide ((r8.1 : Int) < 0)) (
  L1 ((w64 ((w64 ((ishr .u64 (IntKind.u64.wrap ((w64 (s2.1 + s2.2.1)))) 1))) + 1)), s2.2.1, ())) (
  L1 (s2.1, (w64 ((ishr .u64 (IntKind.u64.wrap ((w64 (s2.1 + s2.2.1)))) 1))), ()))) (
  Br (decide ((s2.1 : Int) < ((p_x.len : Nat) : Int))) (
  Ix p_x s2.1 4 fun a9 =>
  LdI .u64 (a9.add 0) fun x10 =>
  LdS (a9.add 1) fun x11 =>
  LdS (a9.add 2) fun x12 =>
  LdB (a9.add 3) fun x13 =>
  CallV Try.prog p_cmp [(.agg #[(.int .u64 x10), (.string x11), (.string x12), (.bool x13)]), (.int .u64 p_target)] false [.sc (.i .i64)] fun r14 =>
  R (s2.1, ((r14.1 : Int) == 0), ())) (
  R (s2.1, false, ())))) (0, ((p_x.len : Nat) : Int), ())
def slices_BinarySearchFunc_ann : Ann := .seq .leaf (.seq .leaf (.seq .leaf (.seq (.block (.loop [(9, .sc (.i .i64)), (10, .sc (.i .i64))] (.seq (.seq .leaf (.cond .leaf .leaf)) (.block (.seq .leaf (.seq .leaf (.cond .leaf .leaf))))))) (.seq .leaf .leaf))))
set_option maxRecDepth 100000 in
theorem slices_BinarySearchFunc_den (p_x : Sl) (p_target : Int) (p_cmp : Value) (R : TR [.sc (.i .i64), .sc .b] → Pr) : den Try.prog slices_BinarySearchFunc_ann (Try.f29.body.getD .skip) (retQ Try.prog Try.f29.results.toList true [.sc (.i .i64), .sc .b] R) [] (env0 49 [(.slice p_x.p p_x.len p_x.cap), (.int .u64 p_target), p_cmp]) = slices_BinarySearchFunc p_x p_target p_cmp R := by
  kernel_rfl
set_option maxRecDepth 100000 in
theorem slices_BinarySearchFunc_call (p_x : Sl) (p_target : Int) (p_cmp : Value) {R : TR [.sc (.i .i64), .sc .b] → Pr} {w : World} (h : slices_BinarySearchFunc p_x p_target p_cmp R w) : Cl Try.prog 29 [(.slice p_x.p p_x.len p_x.cap), (.int .u64 p_target), p_cmp] true [.sc (.i .i64), .sc .b] R w :=
  call_of (P := Try.prog) (tup := true) (rs := [.sc (.i .i64), .sc .b]) Try.checked.mixed slices_BinarySearchFunc_ann (by kernel_rfl) Try.func29 (by kernel_rfl) Try.ntmps29 (by show Nat.beq Try.f29.results.size 1 = false; kernel_rfl) (by rw [← slices_BinarySearchFunc_den] at h; exact h)

/-- (*sumpter/locks.Table).Ask$1 -/
abbrev i_locks_Table_Ask_1 : FuncId := 30
def locks_Table_Ask_1 (p_w_0 : Int) (p_w_1 : ByteArray) (p_w_2 : ByteArray) (p_w_3 : Bool) (p_n : Int) (R : TR [.sc (.i .i64)] → Pr) : Pr :=
  New #[(.int .u64 p_w_0), (.string p_w_1), (.string p_w_2), (.bool p_w_3)] 48 fun a1 =>
  LdI .u64 (a1.add 0) fun x2 =>
  Cl Try.prog 31 [(.int .u64 x2), (.int .u64 p_n)] false [.sc (.i .i64)] fun r3 =>
  R (r3.1, ())
def locks_Table_Ask_1_ann : Ann := .seq .leaf (.seq .leaf .leaf)
set_option maxRecDepth 100000 in
theorem locks_Table_Ask_1_den (p_w_0 : Int) (p_w_1 : ByteArray) (p_w_2 : ByteArray) (p_w_3 : Bool) (p_n : Int) (R : TR [.sc (.i .i64)] → Pr) : den Try.prog locks_Table_Ask_1_ann (Try.f30.body.getD .skip) (retQ Try.prog Try.f30.results.toList false [.sc (.i .i64)] R) [] (env0 9 [(.agg #[(.int .u64 p_w_0), (.string p_w_1), (.string p_w_2), (.bool p_w_3)]), (.int .u64 p_n)]) = locks_Table_Ask_1 p_w_0 p_w_1 p_w_2 p_w_3 p_n R := by
  kernel_rfl
set_option maxRecDepth 100000 in
theorem locks_Table_Ask_1_call (p_w_0 : Int) (p_w_1 : ByteArray) (p_w_2 : ByteArray) (p_w_3 : Bool) (p_n : Int) {R : TR [.sc (.i .i64)] → Pr} {w : World} (h : locks_Table_Ask_1 p_w_0 p_w_1 p_w_2 p_w_3 p_n R w) : Cl Try.prog 30 [(.agg #[(.int .u64 p_w_0), (.string p_w_1), (.string p_w_2), (.bool p_w_3)]), (.int .u64 p_n)] false [.sc (.i .i64)] R w :=
  call_of (P := Try.prog) (tup := false) (rs := [.sc (.i .i64)]) Try.checked.mixed locks_Table_Ask_1_ann (by kernel_rfl) Try.func30 (by kernel_rfl) Try.ntmps30 (by show Try.f30.results.size = 1; kernel_rfl) (by rw [← locks_Table_Ask_1_den] at h; exact h)

/-- cmp.Compare[uint64] -/
abbrev i_cmp_Compare : FuncId := 31
def cmp_Compare (p_x : Int) (p_y : Int) (R : TR [.sc (.i .i64)] → Pr) : Pr :=
  Cl Try.prog 57 [(.int .u64 p_x)] false [.sc .b] fun r1 =>
  Cl Try.prog 57 [(.int .u64 p_y)] false [.sc .b] fun r2 =>
  Br r1.1 (
  Br r2.1 (
  R (0, ())) (
  R ((-1), ()))) (
  Br r2.1 (
  R (1, ())) (
  Br (decide ((p_x : Int) < p_y)) (
  R ((-1), ())) (
  Br (decide ((p_x : Int) > p_y)) (
  R (1, ())) (
  R (0, ())))))
def cmp_Compare_ann : Ann := .seq .leaf (.seq .leaf (.seq .leaf (.seq (.seq .leaf (.cond (.seq (.seq .leaf (.cond (.seq .leaf .leaf) .leaf)) (.seq .leaf .leaf)) .leaf)) (.seq (.seq .leaf (.cond (.seq .leaf .leaf) .leaf)) (.seq (.seq .leaf (.cond (.seq .leaf .leaf) .leaf)) (.seq (.seq .leaf (.cond (.seq .leaf .leaf) .leaf)) (.seq .leaf .leaf)))))))
set_option maxRecDepth 100000 in
theorem cmp_Compare_den (p_x : Int) (p_y : Int) (R : TR [.sc (.i .i64)] → Pr) : den Try.prog cmp_Compare_ann (Try.f31.body.getD .skip) (retQ Try.prog Try.f31.results.toList false [.sc (.i .i64)] R) [] (env0 20 [(.int .u64 p_x), (.int .u64 p_y)]) = cmp_Compare p_x p_y R := by
  kernel_rfl
set_option maxRecDepth 100000 in
theorem cmp_Compare_call (p_x : Int) (p_y : Int) {R : TR [.sc (.i .i64)] → Pr} {w : World} (h : cmp_Compare p_x p_y R w) : Cl Try.prog 31 [(.int .u64 p_x), (.int .u64 p_y)] false [.sc (.i .i64)] R w :=
  call_of (P := Try.prog) (tup := false) (rs := [.sc (.i .i64)]) Try.checked.mixed cmp_Compare_ann (by kernel_rfl) Try.func31 (by kernel_rfl) Try.ntmps31 (by show Try.f31.results.size = 1; kernel_rfl) (by rw [← cmp_Compare_den] at h; exact h)

/-- slices.Insert[[]sumpter/locks.Ask,sumpter/locks.Ask] -/
abbrev i_slices_Insert : FuncId := 32
def slices_Insert (p_s : Sl) (p_i : Int) (p_v : Sl) (R : TR [.sc .sl] → Pr) : Pr :=
  Req ((0 : Int) ≤ p_i ∧ p_i ≤ ((p_s.len : Nat) : Int)) <|
  Br ((((p_v.len : Nat) : Int) : Int) == 0) (
  R (p_s, ())) (
  Br ((p_i : Int) == ((p_s.len : Nat) : Int)) (
  App 48 4 48 (zc Try.prog 48) p_s p_v.len (srcS p_v.p p_v.len 4) fun r1 =>
  R (r1, ())) (
  Br (decide (((w64 (((p_s.len : Nat) : Int) + ((p_v.len : Nat) : Int))) : Int) > ((p_s.cap : Nat) : Int))) (
  Req ((0 : Int) ≤ p_i ∧ p_i ≤ ((p_s.cap : Nat) : Int)) <|
  AppZ 48 4 48 (zc Try.prog 48) ⟨(slOff p_s.p p_s.cap 0 4), ((Int.toNat p_i) - 0), (p_s.cap - 0)⟩ (w64 ((w64 (((p_s.len : Nat) : Int) + ((p_v.len : Nat) : Int))) - p_i)) fun r2 =>
  Req ((0 : Int) ≤ p_i ∧ p_i ≤ ((r2.len : Nat) : Int)) <|
  Cpy 4 (slOff r2.p r2.cap (Int.toNat p_i) 4) (Nat.min p_v.len (r2.len - (Int.toNat p_i))) (srcS p_v.p (Nat.min p_v.len (r2.len - (Int.toNat p_i))) 4) <|
  Dr <|
  Req ((0 : Int) ≤ (w64 (p_i + ((p_v.len : Nat) : Int))) ∧ (w64 (p_i + ((p_v.len : Nat) : Int))) ≤ ((r2.len : Nat) : Int)) <|
  Req ((0 : Int) ≤ p_i ∧ p_i ≤ ((p_s.len : Nat) : Int)) <|
  Cpy 4 (slOff r2.p r2.cap (Int.toNat (w64 (p_i + ((p_v.len : Nat) : Int)))) 4) (Nat.min (p_s.len - (Int.toNat p_i)) (r2.len - (Int.toNat (w64 (p_i + ((p_v.len : Nat) : Int)))))) (srcS (slOff p_s.p p_s.cap (Int.toNat p_i) 4) (Nat.min (p_s.len - (Int.toNat p_i)) (r2.len - (Int.toNat (w64 (p_i + ((p_v.len : Nat) : Int)))))) 4) <|
  R (r2, ())) (
  Req ((0 : Int) ≤ (w64 (((p_s.len : Nat) : Int) + ((p_v.len : Nat) : Int))) ∧ (w64 (((p_s.len : Nat) : Int) + ((p_v.len : Nat) : Int))) ≤ ((p_s.cap : Nat) : Int)) <|
  Req ((0 : Int) ≤ (w64 (p_i + ((p_v.len : Nat) : Int))) ∧ (w64 (p_i + ((p_v.len : Nat) : Int))) ≤ ((((Int.toNat (w64 (((p_s.len : Nat) : Int) + ((p_v.len : Nat) : Int)))) - 0) : Nat) : Int)) <|
  Ex Try.prog 58 [(.slice p_v.p p_v.len p_v.cap), (.slice (slOff (slOff p_s.p p_s.cap 0 4) (p_s.cap - 0) (Int.toNat (w64 (p_i + ((p_v.len : Nat) : Int)))) 4) (((Int.toNat (w64 (((p_s.len : Nat) : Int) + ((p_v.len : Nat) : Int)))) - 0) - (Int.toNat (w64 (p_i + ((p_v.len : Nat) : Int))))) ((p_s.cap - 0) - (Int.toNat (w64 (p_i + ((p_v.len : Nat) : Int))))))] false [.sc .b] fun r3 =>
  Br (!r3.1) (
  Dr <|
  Req ((0 : Int) ≤ (w64 (p_i + ((p_v.len : Nat) : Int))) ∧ (w64 (p_i + ((p_v.len : Nat) : Int))) ≤ ((((Int.toNat (w64 (((p_s.len : Nat) : Int) + ((p_v.len : Nat) : Int)))) - 0) : Nat) : Int)) <|
  Req ((0 : Int) ≤ p_i ∧ p_i ≤ ((((Int.toNat (w64 (((p_s.len : Nat) : Int) + ((p_v.len : Nat) : Int)))) - 0) : Nat) : Int)) <|
  Cpy 4 (slOff (slOff p_s.p p_s.cap 0 4) (p_s.cap - 0) (Int.toNat (w64 (p_i + ((p_v.len : Nat) : Int)))) 4) (Nat.min (((Int.toNat (w64 (((p_s.len : Nat) : Int) + ((p_v.len : Nat) : Int)))) - 0) - (Int.toNat p_i)) (((Int.toNat (w64 (((p_s.len : Nat) : Int) + ((p_v.len : Nat) : Int)))) - 0) - (Int.toNat (w64 (p_i + ((p_v.len : Nat) : Int)))))) (srcS (slOff (slOff p_s.p p_s.cap 0 4) (p_s.cap - 0) (Int.toNat p_i) 4) (Nat.min (((Int.toNat (w64 (((p_s.len : Nat) : Int) + ((p_v.len : Nat) : Int)))) - 0) - (Int.toNat p_i)) (((Int.toNat (w64 (((p_s.len : Nat) : Int) + ((p_v.len : Nat) : Int)))) - 0) - (Int.toNat (w64 (p_i + ((p_v.len : Nat) : Int)))))) 4) <|
  Req ((0 : Int) ≤ p_i ∧ p_i ≤ ((((Int.toNat (w64 (((p_s.len : Nat) : Int) + ((p_v.len : Nat) : Int)))) - 0) : Nat) : Int)) <|
  Cpy 4 (slOff (slOff p_s.p p_s.cap 0 4) (p_s.cap - 0) (Int.toNat p_i) 4) (Nat.min p_v.len (((Int.toNat (w64 (((p_s.len : Nat) : Int) + ((p_v.len : Nat) : Int)))) - 0) - (Int.toNat p_i))) (srcS p_v.p (Nat.min p_v.len (((Int.toNat (w64 (((p_s.len : Nat) : Int) + ((p_v.len : Nat) : Int)))) - 0) - (Int.toNat p_i))) 4) <|
  R (⟨(slOff p_s.p p_s.cap 0 4), ((Int.toNat (w64 (((p_s.len : Nat) : Int) + ((p_v.len : Nat) : Int)))) - 0), (p_s.cap - 0)⟩, ())) (
  Req ((0 : Int) ≤ ((p_s.len : Nat) : Int) ∧ ((p_s.len : Nat) : Int) ≤ ((((Int.toNat (w64 (((p_s.len : Nat) : Int) + ((p_v.len : Nat) : Int)))) - 0) : Nat) : Int)) <|
  Cpy 4 (slOff (slOff p_s.p p_s.cap 0 4) (p_s.cap - 0) (Int.toNat ((p_s.len : Nat) : Int)) 4) (Nat.min p_v.len (((Int.toNat (w64 (((p_s.len : Nat) : Int) + ((p_v.len : Nat) : Int)))) - 0) - (Int.toNat ((p_s.len : Nat) : Int)))) (srcS p_v.p (Nat.min p_v.len (((Int.toNat (w64 (((p_s.len : Nat) : Int) + ((p_v.len : Nat) : Int)))) - 0) - (Int.toNat ((p_s.len : Nat) : Int)))) 4) <|
  Req ((0 : Int) ≤ p_i ∧ p_i ≤ ((((Int.toNat (w64 (((p_s.len : Nat) : Int) + ((p_v.len : Nat) : Int)))) - 0) : Nat) : Int)) <|
  Cl Try.prog 59 [(.slice (slOff (slOff p_s.p p_s.cap 0 4) (p_s.cap - 0) (Int.toNat p_i) 4) (((Int.toNat (w64 (((p_s.len : Nat) : Int) + ((p_v.len : Nat) : Int)))) - 0) - (Int.toNat p_i)) ((p_s.cap - 0) - (Int.toNat p_i))), (.int .i64 ((p_v.len : Nat) : Int))] true [] fun r4 =>
  R (⟨(slOff p_s.p p_s.cap 0 4), ((Int.toNat (w64 (((p_s.len : Nat) : Int) + ((p_v.len : Nat) : Int)))) - 0), (p_s.cap - 0)⟩, ())))))
def slices_Insert_ann : Ann := .seq .leaf (.seq .leaf (.seq .leaf (.seq (.seq .leaf (.cond (.seq .leaf .leaf) .leaf)) (.seq .leaf (.seq (.seq .leaf (.cond (.seq .leaf .leaf) .leaf)) (.seq (.seq .leaf (.cond (.seq .leaf (.seq .leaf (.seq .leaf (.seq .leaf .leaf)))) .leaf)) (.seq .leaf (.seq (.seq .leaf (.cond (.seq .leaf (.seq .leaf (.seq .leaf .leaf))) .leaf)) (.seq .leaf (.seq .leaf (.seq .leaf .leaf)))))))))))
set_option maxRecDepth 100000 in
theorem slices_Insert_den (p_s : Sl) (p_i : Int) (p_v : Sl) (R : TR [.sc .sl] → Pr) : den Try.prog slices_Insert_ann (Try.f32.body.getD .skip) (retQ Try.prog Try.f32.results.toList false [.sc .sl] R) [] (env0 95 [(.slice p_s.p p_s.len p_s.cap), (.int .i64 p_i), (.slice p_v.p p_v.len p_v.cap)]) = slices_Insert p_s p_i p_v R := by
  kernel_rfl
set_option maxRecDepth 100000 in
theorem slices_Insert_call (p_s : Sl) (p_i : Int) (p_v : Sl) {R : TR [.sc .sl] → Pr} {w : World} (h : slices_Insert p_s p_i p_v R w) : Cl Try.prog 32 [(.slice p_s.p p_s.len p_s.cap), (.int .i64 p_i), (.slice p_v.p p_v.len p_v.cap)] false [.sc .sl] R w :=
  call_of (P := Try.prog) (tup := false) (rs := [.sc .sl]) Try.checked.mixed slices_Insert_ann (by kernel_rfl) Try.func32 (by kernel_rfl) Try.ntmps32 (by show Try.f32.results.size = 1; kernel_rfl) (by rw [← slices_Insert_den] at h; exact h)

/-- sumpter/span.all -/
abbrev i_span_all : FuncId := 33
def span_all  (R : TR [.ag [.s, .s]] → Pr) : Pr :=
  New #[(.string (BA [])), (.string (BA []))] 28 fun a1 =>
  St (a1.add 0) (.string (BA [])) <|
  St (a1.add 1) (.string (BA [])) <|
  LdS (a1.add 0) fun x2 =>
  LdS (a1.add 1) fun x3 =>
  R ((x2, x3, ()), ())
def span_all_ann : Ann := .seq .leaf (.seq .leaf .leaf)
set_option maxRecDepth 100000 in
theorem span_all_den  (R : TR [.ag [.s, .s]] → Pr) : den Try.prog span_all_ann (Try.f33.body.getD .skip) (retQ Try.prog Try.f33.results.toList false [.ag [.s, .s]] R) [] (env0 2 []) = span_all  R := by
  kernel_rfl
set_option maxRecDepth 100000 in
theorem span_all_call  {R : TR [.ag [.s, .s]] → Pr} {w : World} (h : span_all  R w) : Cl Try.prog 33 [] false [.ag [.s, .s]] R w :=
  call_of (P := Try.prog) (tup := false) (rs := [.ag [.s, .s]]) Try.checked.mixed span_all_ann (by kernel_rfl) Try.func33 (by kernel_rfl) Try.ntmps33 (by show Try.f33.results.size = 1; kernel_rfl) (by rw [← span_all_den] at h; exact h)

/-- slices.Clone[[]sumpter/locks.Ask,sumpter/locks.Ask] -/
abbrev i_slices_Clone : FuncId := 34
def slices_Clone (p_s : Sl) (R : TR [.sc .sl] → Pr) : Pr :=
  Br (Option.isNone p_s.p) (
  R (⟨none, 0, 0⟩, ())) (
  New #[] 48 fun a1 =>
  App 48 4 48 (zc Try.prog 48) ⟨(some a1), 0, 0⟩ p_s.len (srcS p_s.p p_s.len 4) fun r2 =>
  R (r2, ()))
def slices_Clone_ann : Ann := .seq .leaf (.seq (.seq .leaf (.cond (.seq .leaf .leaf) .leaf)) (.seq .leaf .leaf))
set_option maxRecDepth 100000 in
theorem slices_Clone_den (p_s : Sl) (R : TR [.sc .sl] → Pr) : den Try.prog slices_Clone_ann (Try.f34.body.getD .skip) (retQ Try.prog Try.f34.results.toList false [.sc .sl] R) [] (env0 8 [(.slice p_s.p p_s.len p_s.cap)]) = slices_Clone p_s R := by
  kernel_rfl
set_option maxRecDepth 100000 in
theorem slices_Clone_call (p_s : Sl) {R : TR [.sc .sl] → Pr} {w : World} (h : slices_Clone p_s R w) : Cl Try.prog 34 [(.slice p_s.p p_s.len p_s.cap)] false [.sc .sl] R w :=
  call_of (P := Try.prog) (tup := false) (rs := [.sc .sl]) Try.checked.mixed slices_Clone_ann (by kernel_rfl) Try.func34 (by kernel_rfl) Try.ntmps34 (by show Try.f34.results.size = 1; kernel_rfl) (by rw [← slices_Clone_den] at h; exact h)

/-- slices.Concat[[]sumpter/locks.Ask,sumpter/locks.Ask] -/
abbrev i_slices_Concat : FuncId := 35
def slices_Concat (p_slices : Sl) (R : TR [.sc .sl] → Pr) : Pr :=
  Lp (σ := Int × Int × Unit) (fun L1 s2 =>
  Br (decide ((s2.2.1 : Int) < ((p_slices.len : Nat) : Int))) (
  Ix p_slices s2.2.1 1 fun a3 =>
  LdL a3 fun x4 =>
  Br (decide (((w64 (s2.1 + ((x4.len : Nat) : Int))) : Int) < 0)) (
  F) (
  L1 ((w64 (s2.1 + ((x4.len : Nat) : Int))), (w64 (s2.2.1 + 1)), ()))) (
  Cl Try.prog 60 [(.slice none 0 0), (.int .i64 s2.1)] false [.sc .sl] fun r5 =>
  Lp (σ := Sl × Int × Unit) (fun L6 s7 =>
  Br (decide ((s7.2.1 : Int) < ((p_slices.len : Nat) : Int))) (
  Ix p_slices s7.2.1 1 fun a8 =>
  LdL a8 fun x9 =>
  App 48 4 48 (zc Try.prog 48) s7.1 x9.len (srcS x9.p x9.len 4) fun r10 =>
  L6 (r10, (w64 (s7.2.1 + 1)), ())) (
  R (s7.1, ()))) (r5.1, 0, ()))) (0, 0, ())
def slices_Concat_ann : Ann := .seq .leaf (.seq .leaf (.seq (.seq .leaf (.block (.loop [(3, .sc (.i .i64)), (11, .sc (.i .i64))] (.seq .leaf (.seq (.cond .leaf .leaf) (.seq (.block (.seq .leaf (.seq .leaf (.seq .leaf (.cond .leaf .leaf))))) .leaf)))))) (.seq .leaf (.seq (.seq .leaf (.block (.loop [(6, .sc .sl), (27, .sc (.i .i64))] (.seq .leaf (.seq (.cond .leaf .leaf) (.seq (.block (.seq .leaf .leaf)) .leaf)))))) (.seq .leaf .leaf)))))
set_option maxRecDepth 100000 in
theorem slices_Concat_den (p_slices : Sl) (R : TR [.sc .sl] → Pr) : den Try.prog slices_Concat_ann (Try.f35.body.getD .skip) (retQ Try.prog Try.f35.results.toList false [.sc .sl] R) [] (env0 36 [(.slice p_slices.p p_slices.len p_slices.cap)]) = slices_Concat p_slices R := by
  kernel_rfl
set_option maxRecDepth 100000 in
theorem slices_Concat_call (p_slices : Sl) {R : TR [.sc .sl] → Pr} {w : World} (h : slices_Concat p_slices R w) : Cl Try.prog 35 [(.slice p_slices.p p_slices.len p_slices.cap)] false [.sc .sl] R w :=
  call_of (P := Try.prog) (tup := false) (rs := [.sc .sl]) Try.checked.mixed slices_Concat_ann (by kernel_rfl) Try.func35 (by kernel_rfl) Try.ntmps35 (by show Try.f35.results.size = 1; kernel_rfl) (by rw [← slices_Concat_den] at h; exact h)

/-- sumpter/locks.set -/
abbrev i_locks_set : FuncId := 36
def locks_set (p_l : Sl) (R : TR [.sc .sl] → Pr) : Pr :=
  Cl Try.prog 61 [(.slice p_l.p p_l.len p_l.cap)] true [] fun r1 =>
  Cl Try.prog 62 [(.slice p_l.p p_l.len p_l.cap)] false [.sc .sl] fun r2 =>
  R (r2.1, ())
def locks_set_ann : Ann := .seq .leaf (.seq .leaf (.seq .leaf .leaf))
set_option maxRecDepth 100000 in
theorem locks_set_den (p_l : Sl) (R : TR [.sc .sl] → Pr) : den Try.prog locks_set_ann (Try.f36.body.getD .skip) (retQ Try.prog Try.f36.results.toList false [.sc .sl] R) [] (env0 7 [(.slice p_l.p p_l.len p_l.cap)]) = locks_set p_l R := by
  kernel_rfl
set_option maxRecDepth 100000 in
theorem locks_set_call (p_l : Sl) {R : TR [.sc .sl] → Pr} {w : World} (h : locks_set p_l R w) : Cl Try.prog 36 [(.slice p_l.p p_l.len p_l.cap)] false [.sc .sl] R w :=
  call_of (P := Try.prog) (tup := false) (rs := [.sc .sl]) Try.checked.mixed locks_set_ann (by kernel_rfl) Try.func36 (by kernel_rfl) Try.ntmps36 (by show Try.f36.results.size = 1; kernel_rfl) (by rw [← locks_set_den] at h; exact h)

/-- sumpter/sumpterlaw16.inWay -/
abbrev i_sumpterlaw16_inWay : FuncId := 37
def sumpterlaw16_inWay (p_a_0 : ByteArray) (p_a_1 : ByteArray) (p_a_2 : Bool) (p_b_0 : ByteArray) (p_b_1 : ByteArray) (p_b_2 : Bool) (R : TR [.sc .b] → Pr) : Pr :=
  New #[(.string p_a_0), (.string p_a_1), (.bool p_a_2)] 30 fun a1 =>
  New #[(.string p_b_0), (.string p_b_1), (.bool p_b_2)] 30 fun a2 =>
  LdS ((a1.add 0).add 0) fun x3 =>
  LdS ((a1.add 0).add 1) fun x4 =>
  LdS ((a2.add 0).add 0) fun x5 =>
  LdS ((a2.add 0).add 1) fun x6 =>
  Cl Try.prog 56 [(.agg #[(.string x3), (.string x4)]), (.agg #[(.string x5), (.string x6)])] true [.ag [.s, .s], .sc .b] fun r7 =>
  New #[(.string (BA [])), (.string (BA []))] 28 fun a8 =>
  St (a8.add 0) (.string r7.1.1) <|
  St (a8.add 1) (.string r7.1.2.1) <|
  Br r7.2.1 (
  LdB (a1.add 2) fun x9 =>
  Br x9 (
  R (true, ())) (
  LdB (a2.add 2) fun x10 =>
  R (x10, ()))) (
  R (false, ()))
def sumpterlaw16_inWay_ann : Ann := .seq .leaf (.seq .leaf (.seq .leaf .leaf))
set_option maxRecDepth 100000 in
theorem sumpterlaw16_inWay_den (p_a_0 : ByteArray) (p_a_1 : ByteArray) (p_a_2 : Bool) (p_b_0 : ByteArray) (p_b_1 : ByteArray) (p_b_2 : Bool) (R : TR [.sc .b] → Pr) : den Try.prog sumpterlaw16_inWay_ann (Try.f37.body.getD .skip) (retQ Try.prog Try.f37.results.toList false [.sc .b] R) [] (env0 24 [(.agg #[(.string p_a_0), (.string p_a_1), (.bool p_a_2)]), (.agg #[(.string p_b_0), (.string p_b_1), (.bool p_b_2)])]) = sumpterlaw16_inWay p_a_0 p_a_1 p_a_2 p_b_0 p_b_1 p_b_2 R := by
  kernel_rfl
set_option maxRecDepth 100000 in
theorem sumpterlaw16_inWay_call (p_a_0 : ByteArray) (p_a_1 : ByteArray) (p_a_2 : Bool) (p_b_0 : ByteArray) (p_b_1 : ByteArray) (p_b_2 : Bool) {R : TR [.sc .b] → Pr} {w : World} (h : sumpterlaw16_inWay p_a_0 p_a_1 p_a_2 p_b_0 p_b_1 p_b_2 R w) : Cl Try.prog 37 [(.agg #[(.string p_a_0), (.string p_a_1), (.bool p_a_2)]), (.agg #[(.string p_b_0), (.string p_b_1), (.bool p_b_2)])] false [.sc .b] R w :=
  call_of (P := Try.prog) (tup := false) (rs := [.sc .b]) Try.checked.mixed sumpterlaw16_inWay_ann (by kernel_rfl) Try.func37 (by kernel_rfl) Try.ntmps37 (by show Try.f37.results.size = 1; kernel_rfl) (by rw [← sumpterlaw16_inWay_den] at h; exact h)

/-- sumpter/sumpterref02.Check -/
abbrev i_sumpterref02_Check : FuncId := 38
def sumpterref02_Check (p_r_0 : ByteArray) (p_r_1 : ByteArray) (R : TR [.sc (.i .i64)] → Pr) : Pr :=
  New #[(.string p_r_0), (.string p_r_1)] 28 fun a1 =>
  Jp (σ := Bool × Unit) (fun s3 =>
  Br s3.1 (
  R (21, ())) (
  R (0, ()))) fun J2 =>
  LdS (a1.add 0) fun x4 =>
  Br (decide ((((x4.size : Nat) : Int) : Int) > 12)) (
  J2 (true, ())) (
  LdS (a1.add 1) fun x5 =>
  Br (decide ((((x5.size : Nat) : Int) : Int) > 12)) (
  J2 (true, ())) (
  LdS (a1.add 1) fun x6 =>
  Br (!(seq x6 (BA []))) (
  LdS (a1.add 0) fun x7 =>
  LdS (a1.add 1) fun x8 =>
  J2 ((!(slt x7 x8)), ())) (
  J2 (false, ()))))
def sumpterref02_Check_ann : Ann := .seq .leaf (.seq (.seq (.join [(24, .sc .b)] .leaf) (.cond (.seq .leaf .leaf) .leaf)) (.seq .leaf .leaf))
set_option maxRecDepth 100000 in
theorem sumpterref02_Check_den (p_r_0 : ByteArray) (p_r_1 : ByteArray) (R : TR [.sc (.i .i64)] → Pr) : den Try.prog sumpterref02_Check_ann (Try.f38.body.getD .skip) (retQ Try.prog Try.f38.results.toList false [.sc (.i .i64)] R) [] (env0 25 [(.agg #[(.string p_r_0), (.string p_r_1)])]) = sumpterref02_Check p_r_0 p_r_1 R := by
  kernel_rfl
set_option maxRecDepth 100000 in
theorem sumpterref02_Check_call (p_r_0 : ByteArray) (p_r_1 : ByteArray) {R : TR [.sc (.i .i64)] → Pr} {w : World} (h : sumpterref02_Check p_r_0 p_r_1 R w) : Cl Try.prog 38 [(.agg #[(.string p_r_0), (.string p_r_1)])] false [.sc (.i .i64)] R w :=
  call_of (P := Try.prog) (tup := false) (rs := [.sc (.i .i64)]) Try.checked.mixed sumpterref02_Check_ann (by kernel_rfl) Try.func38 (by kernel_rfl) Try.ntmps38 (by show Try.f38.results.size = 1; kernel_rfl) (by rw [← sumpterref02_Check_den] at h; exact h)

/-- (*sumpter/sumpterref16.Table).waits -/
abbrev i_sumpterref16_Table_waits : FuncId := 39
def sumpterref16_Table_waits (p_t : Option Addr) (p_txn : Int) (R : TR [.sc .b] → Pr) : Pr :=
  Nn p_t fun a1 =>
  LdL (a1.add 1) fun x2 =>
  Lp (σ := Bool × Int × Unit) (fun L3 s4 =>
  Br (decide ((s4.2.1 : Int) < ((x2.len : Nat) : Int))) (
  Ix x2 s4.2.1 4 fun a5 =>
  LdI .u64 (a5.add 0) fun x6 =>
  LdS (a5.add 1) fun x7 =>
  LdS (a5.add 2) fun x8 =>
  LdB (a5.add 3) fun x9 =>
  New #[(.int .u64 0), (.string (BA [])), (.string (BA [])), (.bool false)] 78 fun a10 =>
  St (a10.add 0) (.int .u64 x6) <|
  St (a10.add 1) (.string x7) <|
  St (a10.add 2) (.string x8) <|
  St (a10.add 3) (.bool x9) <|
  LdI .u64 (a10.add 0) fun x11 =>
  Br ((x11 : Int) == p_txn) (
  R (true, ())) (
  L3 (s4.1, (w64 (s4.2.1 + 1)), ()))) (
  R (false, ()))) (false, 0, ())
def sumpterref16_Table_waits_ann : Ann := .seq .leaf (.seq (.seq .leaf (.block (.loop [(4, .sc .b), (12, .sc (.i .i64))] (.seq .leaf (.seq (.cond .leaf .leaf) (.seq (.block (.seq .leaf (.seq .leaf (.cond (.seq .leaf .leaf) .leaf)))) .leaf)))))) (.seq .leaf .leaf))
set_option maxRecDepth 100000 in
theorem sumpterref16_Table_waits_den (p_t : Option Addr) (p_txn : Int) (R : TR [.sc .b] → Pr) : den Try.prog sumpterref16_Table_waits_ann (Try.f39.body.getD .skip) (retQ Try.prog Try.f39.results.toList false [.sc .b] R) [] (env0 21 [(.pointer p_t), (.int .u64 p_txn)]) = sumpterref16_Table_waits p_t p_txn R := by
  kernel_rfl
set_option maxRecDepth 100000 in
theorem sumpterref16_Table_waits_call (p_t : Option Addr) (p_txn : Int) {R : TR [.sc .b] → Pr} {w : World} (h : sumpterref16_Table_waits p_t p_txn R w) : Cl Try.prog 39 [(.pointer p_t), (.int .u64 p_txn)] false [.sc .b] R w :=
  call_of (P := Try.prog) (tup := false) (rs := [.sc .b]) Try.checked.mixed sumpterref16_Table_waits_ann (by kernel_rfl) Try.func39 (by kernel_rfl) Try.ntmps39 (by show Try.f39.results.size = 1; kernel_rfl) (by rw [← sumpterref16_Table_waits_den] at h; exact h)

/-- sumpter/sumpterref02.Covers -/
abbrev i_sumpterref02_Covers : FuncId := 40
def sumpterref02_Covers (p_a_0 : ByteArray) (p_a_1 : ByteArray) (p_b_0 : ByteArray) (p_b_1 : ByteArray) (R : TR [.sc .b] → Pr) : Pr :=
  New #[(.string p_a_0), (.string p_a_1)] 28 fun a1 =>
  New #[(.string p_b_0), (.string p_b_1)] 28 fun a2 =>
  LdS (a1.add 0) fun x3 =>
  LdS (a1.add 1) fun x4 =>
  Cl Try.prog 38 [(.agg #[(.string x3), (.string x4)])] false [.sc (.i .i64)] fun r5 =>
  Br ((r5.1 : Int) == 0) (
  LdS (a2.add 0) fun x6 =>
  LdS (a2.add 1) fun x7 =>
  Cl Try.prog 38 [(.agg #[(.string x6), (.string x7)])] false [.sc (.i .i64)] fun r8 =>
  Br ((r8.1 : Int) == 0) (
  LdS (a1.add 0) fun x9 =>
  LdS (a2.add 0) fun x10 =>
  Br (slt x9 x10 || seq x9 x10) (
  LdS (a1.add 1) fun x11 =>
  LdS (a2.add 1) fun x12 =>
  Cl Try.prog 63 [(.string x11), (.string x12)] false [.sc .b] fun r13 =>
  R ((!r13.1), ())) (
  R (false, ()))) (
  R (false, ()))) (
  R (false, ()))
def sumpterref02_Covers_ann : Ann := .seq .leaf (.seq .leaf .leaf)
set_option maxRecDepth 100000 in
theorem sumpterref02_Covers_den (p_a_0 : ByteArray) (p_a_1 : ByteArray) (p_b_0 : ByteArray) (p_b_1 : ByteArray) (R : TR [.sc .b] → Pr) : den Try.prog sumpterref02_Covers_ann (Try.f40.body.getD .skip) (retQ Try.prog Try.f40.results.toList false [.sc .b] R) [] (env0 28 [(.agg #[(.string p_a_0), (.string p_a_1)]), (.agg #[(.string p_b_0), (.string p_b_1)])]) = sumpterref02_Covers p_a_0 p_a_1 p_b_0 p_b_1 R := by
  kernel_rfl
set_option maxRecDepth 100000 in
theorem sumpterref02_Covers_call (p_a_0 : ByteArray) (p_a_1 : ByteArray) (p_b_0 : ByteArray) (p_b_1 : ByteArray) {R : TR [.sc .b] → Pr} {w : World} (h : sumpterref02_Covers p_a_0 p_a_1 p_b_0 p_b_1 R w) : Cl Try.prog 40 [(.agg #[(.string p_a_0), (.string p_a_1)]), (.agg #[(.string p_b_0), (.string p_b_1)])] false [.sc .b] R w :=
  call_of (P := Try.prog) (tup := false) (rs := [.sc .b]) Try.checked.mixed sumpterref02_Covers_ann (by kernel_rfl) Try.func40 (by kernel_rfl) Try.ntmps40 (by show Try.f40.results.size = 1; kernel_rfl) (by rw [← sumpterref02_Covers_den] at h; exact h)

/-- sumpter/sumpterref16.Way -/
abbrev i_sumpterref16_Way : FuncId := 41
def sumpterref16_Way (p_a_0 : Int) (p_a_1 : ByteArray) (p_a_2 : ByteArray) (p_a_3 : Bool) (p_b_0 : Int) (p_b_1 : ByteArray) (p_b_2 : ByteArray) (p_b_3 : Bool) (R : TR [.sc .b] → Pr) : Pr :=
  New #[(.int .u64 p_a_0), (.string p_a_1), (.string p_a_2), (.bool p_a_3)] 78 fun a1 =>
  New #[(.int .u64 p_b_0), (.string p_b_1), (.string p_b_2), (.bool p_b_3)] 78 fun a2 =>
  LdS (((a1.add 1).add 0).add 0) fun x3 =>
  LdS (((a1.add 1).add 0).add 1) fun x4 =>
  LdS (((a2.add 1).add 0).add 0) fun x5 =>
  LdS (((a2.add 1).add 0).add 1) fun x6 =>
  Cl Try.prog 64 [(.agg #[(.string x3), (.string x4)]), (.agg #[(.string x5), (.string x6)])] true [.ag [.s, .s], .sc .b] fun r7 =>
  New #[(.string (BA [])), (.string (BA []))] 28 fun a8 =>
  St (a8.add 0) (.string r7.1.1) <|
  St (a8.add 1) (.string r7.1.2.1) <|
  LdI .u64 (a1.add 0) fun x9 =>
  LdI .u64 (a2.add 0) fun x10 =>
  Br ((x9 : Int) != x10) (
  Br r7.2.1 (
  LdB ((a1.add 1).add 2) fun x11 =>
  Br x11 (
  R (true, ())) (
  LdB ((a2.add 1).add 2) fun x12 =>
  R (x12, ()))) (
  R (false, ()))) (
  R (false, ()))
def sumpterref16_Way_ann : Ann := .seq .leaf (.seq .leaf (.seq .leaf .leaf))
set_option maxRecDepth 100000 in
theorem sumpterref16_Way_den (p_a_0 : Int) (p_a_1 : ByteArray) (p_a_2 : ByteArray) (p_a_3 : Bool) (p_b_0 : Int) (p_b_1 : ByteArray) (p_b_2 : ByteArray) (p_b_3 : Bool) (R : TR [.sc .b] → Pr) : den Try.prog sumpterref16_Way_ann (Try.f41.body.getD .skip) (retQ Try.prog Try.f41.results.toList false [.sc .b] R) [] (env0 35 [(.agg #[(.int .u64 p_a_0), (.string p_a_1), (.string p_a_2), (.bool p_a_3)]), (.agg #[(.int .u64 p_b_0), (.string p_b_1), (.string p_b_2), (.bool p_b_3)])]) = sumpterref16_Way p_a_0 p_a_1 p_a_2 p_a_3 p_b_0 p_b_1 p_b_2 p_b_3 R := by
  kernel_rfl
set_option maxRecDepth 100000 in
theorem sumpterref16_Way_call (p_a_0 : Int) (p_a_1 : ByteArray) (p_a_2 : ByteArray) (p_a_3 : Bool) (p_b_0 : Int) (p_b_1 : ByteArray) (p_b_2 : ByteArray) (p_b_3 : Bool) {R : TR [.sc .b] → Pr} {w : World} (h : sumpterref16_Way p_a_0 p_a_1 p_a_2 p_a_3 p_b_0 p_b_1 p_b_2 p_b_3 R w) : Cl Try.prog 41 [(.agg #[(.int .u64 p_a_0), (.string p_a_1), (.string p_a_2), (.bool p_a_3)]), (.agg #[(.int .u64 p_b_0), (.string p_b_1), (.string p_b_2), (.bool p_b_3)])] false [.sc .b] R w :=
  call_of (P := Try.prog) (tup := false) (rs := [.sc .b]) Try.checked.mixed sumpterref16_Way_ann (by kernel_rfl) Try.func41 (by kernel_rfl) Try.ntmps41 (by show Try.f41.results.size = 1; kernel_rfl) (by rw [← sumpterref16_Way_den] at h; exact h)

/-- (*sumpter/sumpterref16.Table).free -/
abbrev i_sumpterref16_Table_free : FuncId := 42
def sumpterref16_Table_free (p_t : Option Addr) (p_x_0 : Int) (p_x_1 : ByteArray) (p_x_2 : ByteArray) (p_x_3 : Bool) (R : TR [.sc .b] → Pr) : Pr :=
  New #[(.int .u64 p_x_0), (.string p_x_1), (.string p_x_2), (.bool p_x_3)] 78 fun a1 =>
  Nn p_t fun a2 =>
  LdL (a2.add 0) fun x3 =>
  Lp (σ := Bool × Int × Unit) (fun L4 s5 =>
  Br (decide ((s5.2.1 : Int) < ((x3.len : Nat) : Int))) (
  Ix x3 s5.2.1 4 fun a6 =>
  LdI .u64 (a6.add 0) fun x7 =>
  LdS (a6.add 1) fun x8 =>
  LdS (a6.add 2) fun x9 =>
  LdB (a6.add 3) fun x10 =>
  New #[(.int .u64 0), (.string (BA [])), (.string (BA [])), (.bool false)] 78 fun a11 =>
  St (a11.add 0) (.int .u64 x7) <|
  St (a11.add 1) (.string x8) <|
  St (a11.add 2) (.string x9) <|
  St (a11.add 3) (.bool x10) <|
  LdI .u64 (a11.add 0) fun x12 =>
  LdS (a11.add 1) fun x13 =>
  LdS (a11.add 2) fun x14 =>
  LdB (a11.add 3) fun x15 =>
  LdI .u64 (a1.add 0) fun x16 =>
  LdS (a1.add 1) fun x17 =>
  LdS (a1.add 2) fun x18 =>
  LdB (a1.add 3) fun x19 =>
  Cl Try.prog 41 [(.agg #[(.int .u64 x12), (.string x13), (.string x14), (.bool x15)]), (.agg #[(.int .u64 x16), (.string x17), (.string x18), (.bool x19)])] false [.sc .b] fun r20 =>
  Br r20.1 (
  R (false, ())) (
  L4 (s5.1, (w64 (s5.2.1 + 1)), ()))) (
  R (true, ()))) (false, 0, ())
def sumpterref16_Table_free_ann : Ann := .seq .leaf (.seq (.seq .leaf (.block (.loop [(4, .sc .b), (12, .sc (.i .i64))] (.seq .leaf (.seq (.cond .leaf .leaf) (.seq (.block (.seq .leaf (.seq .leaf (.cond (.seq .leaf .leaf) .leaf)))) .leaf)))))) (.seq .leaf .leaf))
set_option maxRecDepth 100000 in
theorem sumpterref16_Table_free_den (p_t : Option Addr) (p_x_0 : Int) (p_x_1 : ByteArray) (p_x_2 : ByteArray) (p_x_3 : Bool) (R : TR [.sc .b] → Pr) : den Try.prog sumpterref16_Table_free_ann (Try.f42.body.getD .skip) (retQ Try.prog Try.f42.results.toList false [.sc .b] R) [] (env0 20 [(.pointer p_t), (.agg #[(.int .u64 p_x_0), (.string p_x_1), (.string p_x_2), (.bool p_x_3)])]) = sumpterref16_Table_free p_t p_x_0 p_x_1 p_x_2 p_x_3 R := by
  kernel_rfl
set_option maxRecDepth 100000 in
theorem sumpterref16_Table_free_call (p_t : Option Addr) (p_x_0 : Int) (p_x_1 : ByteArray) (p_x_2 : ByteArray) (p_x_3 : Bool) {R : TR [.sc .b] → Pr} {w : World} (h : sumpterref16_Table_free p_t p_x_0 p_x_1 p_x_2 p_x_3 R w) : Cl Try.prog 42 [(.pointer p_t), (.agg #[(.int .u64 p_x_0), (.string p_x_1), (.string p_x_2), (.bool p_x_3)])] false [.sc .b] R w :=
  call_of (P := Try.prog) (tup := false) (rs := [.sc .b]) Try.checked.mixed sumpterref16_Table_free_ann (by kernel_rfl) Try.func42 (by kernel_rfl) Try.ntmps42 (by show Try.f42.results.size = 1; kernel_rfl) (by rw [← sumpterref16_Table_free_den] at h; exact h)

/-- (*sumpter/sumpterref16.Table).grant -/
abbrev i_sumpterref16_Table_grant : FuncId := 43
def sumpterref16_Table_grant (p_t : Option Addr) (p_x_0 : Int) (p_x_1 : ByteArray) (p_x_2 : ByteArray) (p_x_3 : Bool) (R : TR [.sc .sl] → Pr) : Pr :=
  New #[(.int .u64 p_x_0), (.string p_x_1), (.string p_x_2), (.bool p_x_3)] 78 fun a1 =>
  Dr <|
  Nn p_t fun a2 =>
  LdL (a2.add 0) fun x3 =>
  Nn p_t fun a4 =>
  LdL (a4.add 0) fun x5 =>
  Nn p_t fun a6 =>
  LdL (a6.add 0) fun x7 =>
  Req ((0 : Int) ≤ ((x7.len : Nat) : Int) ∧ ((x7.len : Nat) : Int) ≤ ((x3.cap : Nat) : Int)) <|
  Req ((0 : Int) ≤ ((x5.len : Nat) : Int) ∧ ((x5.len : Nat) : Int) ≤ (((Int.toNat ((x7.len : Nat) : Int)) : Nat) : Int)) <|
  LdI .u64 (a1.add 0) fun x8 =>
  LdS (a1.add 1) fun x9 =>
  LdS (a1.add 2) fun x10 =>
  LdB (a1.add 3) fun x11 =>
  New #[(.int .u64 x8), (.string x9), (.string x10), (.bool x11)] 78 fun a12 =>
  Both (LdL (a6.add 0) fun x13 =>
  fun _ => ((.slice x13.p x13.len x13.cap) : Value) = (.slice x7.p x7.len x7.cap)) <|
  Both (LdL (a4.add 0) fun x14 =>
  fun _ => ((.slice x14.p x14.len x14.cap) : Value) = (.slice x5.p x5.len x5.cap)) <|
  Both (LdL (a2.add 0) fun x15 =>
  fun _ => ((.slice x15.p x15.len x15.cap) : Value) = (.slice x3.p x3.len x3.cap)) <|
  App 78 4 48 (zc Try.prog 78) ⟨(slOff x3.p (Int.toNat ((x7.len : Nat) : Int)) 0 4), ((Int.toNat ((x5.len : Nat) : Int)) - 0), ((Int.toNat ((x7.len : Nat) : Int)) - 0)⟩ 1 (srcS (some a12) 1 4) fun r16 =>
  Nn p_t fun a17 =>
  St (a17.add 0) (.slice r16.p r16.len r16.cap) <|
  Nn p_t fun a18 =>
  LdL (a18.add 1) fun x19 =>
  Lp (σ := Sl × Int × Unit) (fun L20 s21 =>
  Br (decide ((s21.2.1 : Int) < ((x19.len : Nat) : Int))) (
  Jp (σ := Sl × Unit) (fun s23 =>
  L20 (s23.1, (w64 (s21.2.1 + 1)), ())) fun J22 =>
  Ix x19 s21.2.1 4 fun a24 =>
  LdI .u64 (a24.add 0) fun x25 =>
  LdS (a24.add 1) fun x26 =>
  LdS (a24.add 2) fun x27 =>
  LdB (a24.add 3) fun x28 =>
  New #[(.int .u64 0), (.string (BA [])), (.string (BA [])), (.bool false)] 78 fun a29 =>
  St (a29.add 0) (.int .u64 x25) <|
  St (a29.add 1) (.string x26) <|
  St (a29.add 2) (.string x27) <|
  St (a29.add 3) (.bool x28) <|
  Jp (σ := Bool × Unit) (fun s31 =>
  Br s31.1 (
  LdI .u64 (a29.add 0) fun x32 =>
  Cl Try.prog 65 [(.slice s21.1.p s21.1.len s21.1.cap), (.int .u64 x32)] false [.sc .sl] fun r33 =>
  J22 (r33.1, ())) (
  J22 (s21.1, ()))) fun J30 =>
  LdI .u64 (a29.add 0) fun x34 =>
  LdI .u64 (a1.add 0) fun x35 =>
  Br (decide ((x34 : Int) > x35)) (
  LdI .u64 (a29.add 0) fun x36 =>
  LdS (a29.add 1) fun x37 =>
  LdS (a29.add 2) fun x38 =>
  LdB (a29.add 3) fun x39 =>
  LdI .u64 (a1.add 0) fun x40 =>
  LdS (a1.add 1) fun x41 =>
  LdS (a1.add 2) fun x42 =>
  LdB (a1.add 3) fun x43 =>
  Cl Try.prog 41 [(.agg #[(.int .u64 x36), (.string x37), (.string x38), (.bool x39)]), (.agg #[(.int .u64 x40), (.string x41), (.string x42), (.bool x43)])] false [.sc .b] fun r44 =>
  J30 (r44.1, ())) (
  J30 (false, ()))) (
  Lp (σ := Int × Unit) (fun L45 s46 =>
  Br (decide ((s46.1 : Int) < ((s21.1.len : Nat) : Int))) (
  Ix s21.1 s46.1 1 fun a47 =>
  LdI .u64 a47 fun x48 =>
  Nn p_t fun a49 =>
  LdL (a49.add 0) fun x50 =>
  Cl Try.prog 46 [(.slice x50.p x50.len x50.cap), (.int .u64 x48)] false [.sc .sl] fun r51 =>
  Nn p_t fun a52 =>
  St (a52.add 0) (.slice r51.1.p r51.1.len r51.1.cap) <|
  Nn p_t fun a53 =>
  LdL (a53.add 1) fun x54 =>
  Cl Try.prog 46 [(.slice x54.p x54.len x54.cap), (.int .u64 x48)] false [.sc .sl] fun r55 =>
  Nn p_t fun a56 =>
  St (a56.add 1) (.slice r55.1.p r55.1.len r55.1.cap) <|
  L45 ((w64 (s46.1 + 1)), ())) (
  R (s21.1, ()))) (0, ()))) (⟨none, 0, 0⟩, 0, ())
def sumpterref16_Table_grant_ann : Ann := .seq .leaf (.seq .leaf (.seq .leaf (.seq (.seq .leaf (.block (.loop [(5, .sc .sl), (36, .sc (.i .i64))] (.seq .leaf (.seq (.cond .leaf .leaf) (.seq (.join [(5, .sc .sl)] (.block (.seq .leaf (.seq (.join [(49, .sc .b)] .leaf) (.cond .leaf .leaf))))) .leaf)))))) (.seq (.seq .leaf (.block (.loop [(57, .sc (.i .i64))] (.seq .leaf (.seq (.cond .leaf .leaf) (.seq (.block (.seq .leaf (.seq .leaf .leaf))) .leaf)))))) (.seq .leaf .leaf)))))
set_option maxRecDepth 100000 in
theorem sumpterref16_Table_grant_den (p_t : Option Addr) (p_x_0 : Int) (p_x_1 : ByteArray) (p_x_2 : ByteArray) (p_x_3 : Bool) (R : TR [.sc .sl] → Pr) : den Try.prog sumpterref16_Table_grant_ann (Try.f43.body.getD .skip) (retQ Try.prog Try.f43.results.toList false [.sc .sl] R) [] (env0 81 [(.pointer p_t), (.agg #[(.int .u64 p_x_0), (.string p_x_1), (.string p_x_2), (.bool p_x_3)])]) = sumpterref16_Table_grant p_t p_x_0 p_x_1 p_x_2 p_x_3 R := by
  kernel_rfl
set_option maxRecDepth 100000 in
theorem sumpterref16_Table_grant_call (p_t : Option Addr) (p_x_0 : Int) (p_x_1 : ByteArray) (p_x_2 : ByteArray) (p_x_3 : Bool) {R : TR [.sc .sl] → Pr} {w : World} (h : sumpterref16_Table_grant p_t p_x_0 p_x_1 p_x_2 p_x_3 R w) : Cl Try.prog 43 [(.pointer p_t), (.agg #[(.int .u64 p_x_0), (.string p_x_1), (.string p_x_2), (.bool p_x_3)])] false [.sc .sl] R w :=
  call_of (P := Try.prog) (tup := false) (rs := [.sc .sl]) Try.checked.mixed sumpterref16_Table_grant_ann (by kernel_rfl) Try.func43 (by kernel_rfl) Try.ntmps43 (by show Try.f43.results.size = 1; kernel_rfl) (by rw [← sumpterref16_Table_grant_den] at h; exact h)

/-- (*sumpter/sumpterref16.Table).settle -/
abbrev i_sumpterref16_Table_settle : FuncId := 44
def sumpterref16_Table_settle (p_t : Option Addr) (p_dead : Sl) (R : TR [.sc .sl, .sc .sl] → Pr) : Pr :=
  Lp (σ := Sl × Sl × Sl × Sl × Unit) (fun L1 s2 =>
  Cl Try.prog 66 [(.pointer p_t)] true [.ag [(.i .u64), .s, .s, .b], .sc .b] fun r3 =>
  New #[(.int .u64 0), (.string (BA [])), (.string (BA [])), (.bool false)] 78 fun a4 =>
  St (a4.add 0) (.int .u64 r3.1.1) <|
  St (a4.add 1) (.string r3.1.2.1) <|
  St (a4.add 2) (.string r3.1.2.2.1) <|
  St (a4.add 3) (.bool r3.1.2.2.2.1) <|
  Br (!r3.2.1) (
  R (s2.2.2.2.1, s2.1, ())) (
  Dr <|
  Nn p_t fun a5 =>
  LdL (a5.add 1) fun x6 =>
  LdI .u64 (a4.add 0) fun x7 =>
  Cl Try.prog 46 [(.slice x6.p x6.len x6.cap), (.int .u64 x7)] false [.sc .sl] fun r8 =>
  Nn p_t fun a9 =>
  St (a9.add 1) (.slice r8.1.p r8.1.len r8.1.cap) <|
  LdI .u64 (a4.add 0) fun x10 =>
  Cl Try.prog 65 [(.slice s2.2.2.2.1.p s2.2.2.2.1.len s2.2.2.2.1.cap), (.int .u64 x10)] false [.sc .sl] fun r11 =>
  LdI .u64 (a4.add 0) fun x12 =>
  LdS (a4.add 1) fun x13 =>
  LdS (a4.add 2) fun x14 =>
  LdB (a4.add 3) fun x15 =>
  Cl Try.prog 43 [(.pointer p_t), (.agg #[(.int .u64 x12), (.string x13), (.string x14), (.bool x15)])] false [.sc .sl] fun r16 =>
  Lp (σ := Sl × Int × Unit) (fun L17 s18 =>
  Br (decide ((s18.2.1 : Int) < ((r16.1.len : Nat) : Int))) (
  Ix r16.1 s18.2.1 1 fun a19 =>
  LdI .u64 a19 fun x20 =>
  Cl Try.prog 65 [(.slice s18.1.p s18.1.len s18.1.cap), (.int .u64 x20)] false [.sc .sl] fun r21 =>
  L17 (r21.1, (w64 (s18.2.1 + 1)), ())) (
  L1 (s18.1, s2.2.1, s2.2.2.1, r11.1, ()))) (s2.1, 0, ()))) (p_dead, ⟨none, 0, 0⟩, ⟨none, 0, 0⟩, ⟨none, 0, 0⟩, ())
def sumpterref16_Table_settle_ann : Ann := .seq .leaf (.seq .leaf (.block (.loop [(1, .sc .sl), (4, .sc .sl), (5, .sc .sl), (6, .sc .sl)] (.block (.seq .leaf (.seq (.seq .leaf (.cond (.seq .leaf .leaf) .leaf)) (.seq .leaf (.seq .leaf (.seq .leaf (.block (.loop [(1, .sc .sl), (38, .sc (.i .i64))] (.seq .leaf (.seq (.cond .leaf .leaf) (.seq (.block (.seq .leaf .leaf)) .leaf))))))))))))))
set_option maxRecDepth 100000 in
theorem sumpterref16_Table_settle_den (p_t : Option Addr) (p_dead : Sl) (R : TR [.sc .sl, .sc .sl] → Pr) : den Try.prog sumpterref16_Table_settle_ann (Try.f44.body.getD .skip) (retQ Try.prog Try.f44.results.toList true [.sc .sl, .sc .sl] R) [] (env0 46 [(.pointer p_t), (.slice p_dead.p p_dead.len p_dead.cap)]) = sumpterref16_Table_settle p_t p_dead R := by
  kernel_rfl
set_option maxRecDepth 100000 in
theorem sumpterref16_Table_settle_call (p_t : Option Addr) (p_dead : Sl) {R : TR [.sc .sl, .sc .sl] → Pr} {w : World} (h : sumpterref16_Table_settle p_t p_dead R w) : Cl Try.prog 44 [(.pointer p_t), (.slice p_dead.p p_dead.len p_dead.cap)] true [.sc .sl, .sc .sl] R w :=
  call_of (P := Try.prog) (tup := true) (rs := [.sc .sl, .sc .sl]) Try.checked.mixed sumpterref16_Table_settle_ann (by kernel_rfl) Try.func44 (by kernel_rfl) Try.ntmps44 (by show Nat.beq Try.f44.results.size 1 = false; kernel_rfl) (by rw [← sumpterref16_Table_settle_den] at h; exact h)

/-- (*sumpter/sumpterref16.Table).wait -/
abbrev i_sumpterref16_Table_wait : FuncId := 45
def sumpterref16_Table_wait (p_t : Option Addr) (p_x_0 : Int) (p_x_1 : ByteArray) (p_x_2 : ByteArray) (p_x_3 : Bool) (R : TR [] → Pr) : Pr :=
  New #[(.int .u64 p_x_0), (.string p_x_1), (.string p_x_2), (.bool p_x_3)] 78 fun a1 =>
  Lp (σ := Int × Unit) (fun L2 s3 =>
  Jp (σ := Bool × Unit) (fun s5 =>
  Br s5.1 (
  L2 ((w64 (s3.1 + 1)), ())) (
  Nn p_t fun a6 =>
  LdL (a6.add 1) fun x7 =>
  Req ((0 : Int) ≤ s3.1 ∧ s3.1 ≤ ((x7.cap : Nat) : Int)) <|
  App 78 4 48 (zc Try.prog 78) ⟨none, 0, 0⟩ ((Int.toNat s3.1) - 0) (srcS (slOff x7.p x7.cap 0 4) ((Int.toNat s3.1) - 0) 4) fun r8 =>
  LdI .u64 (a1.add 0) fun x9 =>
  LdS (a1.add 1) fun x10 =>
  LdS (a1.add 2) fun x11 =>
  LdB (a1.add 3) fun x12 =>
  New #[(.int .u64 x9), (.string x10), (.string x11), (.bool x12)] 78 fun a13 =>
  App 78 4 48 (zc Try.prog 78) r8 1 (srcS (some a13) 1 4) fun r14 =>
  Nn p_t fun a15 =>
  LdL (a15.add 1) fun x16 =>
  Req ((0 : Int) ≤ s3.1 ∧ s3.1 ≤ ((x16.len : Nat) : Int)) <|
  App 78 4 48 (zc Try.prog 78) r14 (x16.len - (Int.toNat s3.1)) (srcS (slOff x16.p x16.cap (Int.toNat s3.1) 4) (x16.len - (Int.toNat s3.1)) 4) fun r17 =>
  Nn p_t fun a18 =>
  St (a18.add 1) (.slice r17.p r17.len r17.cap) <|
  R ())) fun J4 =>
  Dr <|
  Nn p_t fun a19 =>
  LdL (a19.add 1) fun x20 =>
  Br (decide ((s3.1 : Int) < ((x20.len : Nat) : Int))) (
  Nn p_t fun a21 =>
  LdL (a21.add 1) fun x22 =>
  Ix x22 s3.1 4 fun a23 =>
  LdI .u64 (a23.add 0) fun x24 =>
  LdI .u64 (a1.add 0) fun x25 =>
  J4 ((decide ((x24 : Int) < x25)), ())) (
  J4 (false, ()))) (0, ())
def sumpterref16_Table_wait_ann : Ann := .seq .leaf (.seq .leaf (.seq (.block (.loop [(4, .sc (.i .i64))] (.seq (.seq (.join [(25, .sc .b)] .leaf) (.cond .leaf .leaf)) (.block .leaf)))) (.seq .leaf (.seq .leaf .leaf))))
set_option maxRecDepth 100000 in
theorem sumpterref16_Table_wait_den (p_t : Option Addr) (p_x_0 : Int) (p_x_1 : ByteArray) (p_x_2 : ByteArray) (p_x_3 : Bool) (R : TR [] → Pr) : den Try.prog sumpterref16_Table_wait_ann (Try.f45.body.getD .skip) (retQ Try.prog Try.f45.results.toList true [] R) [] (env0 50 [(.pointer p_t), (.agg #[(.int .u64 p_x_0), (.string p_x_1), (.string p_x_2), (.bool p_x_3)])]) = sumpterref16_Table_wait p_t p_x_0 p_x_1 p_x_2 p_x_3 R := by
  kernel_rfl
set_option maxRecDepth 100000 in
theorem sumpterref16_Table_wait_call (p_t : Option Addr) (p_x_0 : Int) (p_x_1 : ByteArray) (p_x_2 : ByteArray) (p_x_3 : Bool) {R : TR [] → Pr} {w : World} (h : sumpterref16_Table_wait p_t p_x_0 p_x_1 p_x_2 p_x_3 R w) : Cl Try.prog 45 [(.pointer p_t), (.agg #[(.int .u64 p_x_0), (.string p_x_1), (.string p_x_2), (.bool p_x_3)])] true [] R w :=
  call_of (P := Try.prog) (tup := true) (rs := []) Try.checked.mixed sumpterref16_Table_wait_ann (by kernel_rfl) Try.func45 (by kernel_rfl) Try.ntmps45 (by show Nat.beq Try.f45.results.size 1 = false; kernel_rfl) (by rw [← sumpterref16_Table_wait_den] at h; exact h)

/-- sumpter/sumpterref16.without -/
abbrev i_sumpterref16_without : FuncId := 46
def sumpterref16_without (p_l : Sl) (p_txn : Int) (R : TR [.sc .sl] → Pr) : Pr :=
  Lp (σ := Sl × Int × Unit) (fun L1 s2 =>
  Br (decide ((s2.2.1 : Int) < ((p_l.len : Nat) : Int))) (
  Jp (σ := Sl × Unit) (fun s4 =>
  L1 (s4.1, (w64 (s2.2.1 + 1)), ())) fun J3 =>
  Ix p_l s2.2.1 4 fun a5 =>
  LdI .u64 (a5.add 0) fun x6 =>
  LdS (a5.add 1) fun x7 =>
  LdS (a5.add 2) fun x8 =>
  LdB (a5.add 3) fun x9 =>
  New #[(.int .u64 0), (.string (BA [])), (.string (BA [])), (.bool false)] 78 fun a10 =>
  St (a10.add 0) (.int .u64 x6) <|
  St (a10.add 1) (.string x7) <|
  St (a10.add 2) (.string x8) <|
  St (a10.add 3) (.bool x9) <|
  LdI .u64 (a10.add 0) fun x11 =>
  Br ((x11 : Int) != p_txn) (
  LdI .u64 (a10.add 0) fun x12 =>
  LdS (a10.add 1) fun x13 =>
  LdS (a10.add 2) fun x14 =>
  LdB (a10.add 3) fun x15 =>
  New #[(.int .u64 x12), (.string x13), (.string x14), (.bool x15)] 78 fun a16 =>
  App 78 4 48 (zc Try.prog 78) s2.1 1 (srcS (some a16) 1 4) fun r17 =>
  J3 (r17, ())) (
  J3 (s2.1, ()))) (
  R (s2.1, ()))) (⟨none, 0, 0⟩, 0, ())
def sumpterref16_without_ann : Ann := .seq .leaf (.seq .leaf (.seq (.seq .leaf (.block (.loop [(5, .sc .sl), (10, .sc (.i .i64))] (.seq .leaf (.seq (.cond .leaf .leaf) (.seq (.join [(5, .sc .sl)] (.block (.seq .leaf (.seq .leaf (.cond .leaf .leaf))))) .leaf)))))) (.seq .leaf .leaf)))
set_option maxRecDepth 100000 in
theorem sumpterref16_without_den (p_l : Sl) (p_txn : Int) (R : TR [.sc .sl] → Pr) : den Try.prog sumpterref16_without_ann (Try.f46.body.getD .skip) (retQ Try.prog Try.f46.results.toList false [.sc .sl] R) [] (env0 24 [(.slice p_l.p p_l.len p_l.cap), (.int .u64 p_txn)]) = sumpterref16_without p_l p_txn R := by
  kernel_rfl
set_option maxRecDepth 100000 in
theorem sumpterref16_without_call (p_l : Sl) (p_txn : Int) {R : TR [.sc .sl] → Pr} {w : World} (h : sumpterref16_without p_l p_txn R w) : Cl Try.prog 46 [(.slice p_l.p p_l.len p_l.cap), (.int .u64 p_txn)] false [.sc .sl] R w :=
  call_of (P := Try.prog) (tup := false) (rs := [.sc .sl]) Try.checked.mixed sumpterref16_without_ann (by kernel_rfl) Try.func46 (by kernel_rfl) Try.ntmps46 (by show Try.f46.results.size = 1; kernel_rfl) (by rw [← sumpterref16_without_den] at h; exact h)

/-- (*sumpter/sumpterref16.Table).Txns -/
abbrev i_sumpterref16_Table_Txns : FuncId := 47
def sumpterref16_Table_Txns (p_t : Option Addr) (R : TR [.sc .sl] → Pr) : Pr :=
  Nn p_t fun a1 =>
  LdL (a1.add 0) fun x2 =>
  Lp (σ := Sl × Int × Unit) (fun L3 s4 =>
  Br (decide ((s4.2.1 : Int) < ((x2.len : Nat) : Int))) (
  Ix x2 s4.2.1 4 fun a5 =>
  LdI .u64 (a5.add 0) fun x6 =>
  LdS (a5.add 1) fun x7 =>
  LdS (a5.add 2) fun x8 =>
  LdB (a5.add 3) fun x9 =>
  New #[(.int .u64 0), (.string (BA [])), (.string (BA [])), (.bool false)] 78 fun a10 =>
  St (a10.add 0) (.int .u64 x6) <|
  St (a10.add 1) (.string x7) <|
  St (a10.add 2) (.string x8) <|
  St (a10.add 3) (.bool x9) <|
  LdI .u64 (a10.add 0) fun x11 =>
  Cl Try.prog 65 [(.slice s4.1.p s4.1.len s4.1.cap), (.int .u64 x11)] false [.sc .sl] fun r12 =>
  L3 (r12.1, (w64 (s4.2.1 + 1)), ())) (
  Nn p_t fun a13 =>
  LdL (a13.add 1) fun x14 =>
  Lp (σ := Sl × Int × Unit) (fun L15 s16 =>
  Br (decide ((s16.2.1 : Int) < ((x14.len : Nat) : Int))) (
  Ix x14 s16.2.1 4 fun a17 =>
  LdI .u64 (a17.add 0) fun x18 =>
  LdS (a17.add 1) fun x19 =>
  LdS (a17.add 2) fun x20 =>
  LdB (a17.add 3) fun x21 =>
  New #[(.int .u64 0), (.string (BA [])), (.string (BA [])), (.bool false)] 78 fun a22 =>
  St (a22.add 0) (.int .u64 x18) <|
  St (a22.add 1) (.string x19) <|
  St (a22.add 2) (.string x20) <|
  St (a22.add 3) (.bool x21) <|
  LdI .u64 (a22.add 0) fun x23 =>
  Cl Try.prog 65 [(.slice s16.1.p s16.1.len s16.1.cap), (.int .u64 x23)] false [.sc .sl] fun r24 =>
  L15 (r24.1, (w64 (s16.2.1 + 1)), ())) (
  R (s16.1, ()))) (s4.1, 0, ()))) (⟨none, 0, 0⟩, 0, ())
def sumpterref16_Table_Txns_ann : Ann := .seq .leaf (.seq .leaf (.seq (.seq .leaf (.block (.loop [(3, .sc .sl), (13, .sc (.i .i64))] (.seq .leaf (.seq (.cond .leaf .leaf) (.seq (.block (.seq .leaf .leaf)) .leaf)))))) (.seq (.seq .leaf (.block (.loop [(3, .sc .sl), (27, .sc (.i .i64))] (.seq .leaf (.seq (.cond .leaf .leaf) (.seq (.block (.seq .leaf .leaf)) .leaf)))))) (.seq .leaf .leaf))))
set_option maxRecDepth 100000 in
theorem sumpterref16_Table_Txns_den (p_t : Option Addr) (R : TR [.sc .sl] → Pr) : den Try.prog sumpterref16_Table_Txns_ann (Try.f47.body.getD .skip) (retQ Try.prog Try.f47.results.toList false [.sc .sl] R) [] (env0 37 [(.pointer p_t)]) = sumpterref16_Table_Txns p_t R := by
  kernel_rfl
set_option maxRecDepth 100000 in
theorem sumpterref16_Table_Txns_call (p_t : Option Addr) {R : TR [.sc .sl] → Pr} {w : World} (h : sumpterref16_Table_Txns p_t R w) : Cl Try.prog 47 [(.pointer p_t)] false [.sc .sl] R w :=
  call_of (P := Try.prog) (tup := false) (rs := [.sc .sl]) Try.checked.mixed sumpterref16_Table_Txns_ann (by kernel_rfl) Try.func47 (by kernel_rfl) Try.ntmps47 (by show Try.f47.results.size = 1; kernel_rfl) (by rw [← sumpterref16_Table_Txns_den] at h; exact h)

/-- (*sumpter/sumpterref16.Table).Holds -/
abbrev i_sumpterref16_Table_Holds : FuncId := 48
def sumpterref16_Table_Holds (p_t : Option Addr) (p_txn : Int) (R : TR [.sc .sl] → Pr) : Pr :=
  Nn p_t fun a1 =>
  LdL (a1.add 0) fun x2 =>
  Lp (σ := Sl × Int × Unit) (fun L3 s4 =>
  Br (decide ((s4.2.1 : Int) < ((x2.len : Nat) : Int))) (
  Jp (σ := Sl × Unit) (fun s6 =>
  L3 (s6.1, (w64 (s4.2.1 + 1)), ())) fun J5 =>
  Ix x2 s4.2.1 4 fun a7 =>
  LdI .u64 (a7.add 0) fun x8 =>
  LdS (a7.add 1) fun x9 =>
  LdS (a7.add 2) fun x10 =>
  LdB (a7.add 3) fun x11 =>
  New #[(.int .u64 0), (.string (BA [])), (.string (BA [])), (.bool false)] 78 fun a12 =>
  St (a12.add 0) (.int .u64 x8) <|
  St (a12.add 1) (.string x9) <|
  St (a12.add 2) (.string x10) <|
  St (a12.add 3) (.bool x11) <|
  LdI .u64 (a12.add 0) fun x13 =>
  Br ((x13 : Int) == p_txn) (
  LdS ((a12.add 1).add 0) fun x14 =>
  LdS ((a12.add 1).add 1) fun x15 =>
  LdB ((a12.add 1).add 2) fun x16 =>
  New #[(.string x14), (.string x15), (.bool x16)] 30 fun a17 =>
  App 30 3 40 (zc Try.prog 30) s4.1 1 (srcS (some a17) 1 3) fun r18 =>
  J5 (r18, ())) (
  J5 (s4.1, ()))) (
  R (s4.1, ()))) (⟨none, 0, 0⟩, 0, ())
def sumpterref16_Table_Holds_ann : Ann := .seq .leaf (.seq .leaf (.seq (.seq .leaf (.block (.loop [(5, .sc .sl), (13, .sc (.i .i64))] (.seq .leaf (.seq (.cond .leaf .leaf) (.seq (.join [(5, .sc .sl)] (.block (.seq .leaf (.seq .leaf (.cond .leaf .leaf))))) .leaf)))))) (.seq .leaf .leaf)))
set_option maxRecDepth 100000 in
theorem sumpterref16_Table_Holds_den (p_t : Option Addr) (p_txn : Int) (R : TR [.sc .sl] → Pr) : den Try.prog sumpterref16_Table_Holds_ann (Try.f48.body.getD .skip) (retQ Try.prog Try.f48.results.toList false [.sc .sl] R) [] (env0 28 [(.pointer p_t), (.int .u64 p_txn)]) = sumpterref16_Table_Holds p_t p_txn R := by
  kernel_rfl
set_option maxRecDepth 100000 in
theorem sumpterref16_Table_Holds_call (p_t : Option Addr) (p_txn : Int) {R : TR [.sc .sl] → Pr} {w : World} (h : sumpterref16_Table_Holds p_t p_txn R w) : Cl Try.prog 48 [(.pointer p_t), (.int .u64 p_txn)] false [.sc .sl] R w :=
  call_of (P := Try.prog) (tup := false) (rs := [.sc .sl]) Try.checked.mixed sumpterref16_Table_Holds_ann (by kernel_rfl) Try.func48 (by kernel_rfl) Try.ntmps48 (by show Try.f48.results.size = 1; kernel_rfl) (by rw [← sumpterref16_Table_Holds_den] at h; exact h)

/-- slices.DeleteFunc[[]sumpter/locks.Ask,sumpter/locks.Ask] -/
abbrev i_slices_DeleteFunc : FuncId := 49
def slices_DeleteFunc (p_s : Sl) (p_del : Value) (R : TR [.sc .sl] → Pr) : Pr :=
  Cl Try.prog 50 [(.slice p_s.p p_s.len p_s.cap), p_del] false [.sc (.i .i64)] fun r1 =>
  Br ((r1.1 : Int) == (-1)) (
  R (p_s, ())) (
  Lp (σ := Int × Int × Unit) (fun L2 s3 =>
  Br (decide ((s3.2.1 : Int) < ((p_s.len : Nat) : Int))) (
  Jp (σ := Int × Unit) (fun s5 =>
  L2 (s5.1, (w64 (s3.2.1 + 1)), ())) fun J4 =>
  Ix p_s s3.2.1 4 fun a6 =>
  LdI .u64 (a6.add 0) fun x7 =>
  LdS (a6.add 1) fun x8 =>
  LdS (a6.add 2) fun x9 =>
  LdB (a6.add 3) fun x10 =>
  New #[(.int .u64 0), (.string (BA [])), (.string (BA [])), (.bool false)] 48 fun a11 =>
  St (a11.add 0) (.int .u64 x7) <|
  St (a11.add 1) (.string x8) <|
  St (a11.add 2) (.string x9) <|
  St (a11.add 3) (.bool x10) <|
  LdI .u64 (a11.add 0) fun x12 =>
  LdS (a11.add 1) fun x13 =>
  LdS (a11.add 2) fun x14 =>
  LdB (a11.add 3) fun x15 =>
  CallV Try.prog p_del [(.agg #[(.int .u64 x12), (.string x13), (.string x14), (.bool x15)])] false [.sc .b] fun r16 =>
  Br (!r16.1) (
  LdI .u64 (a11.add 0) fun x17 =>
  LdS (a11.add 1) fun x18 =>
  LdS (a11.add 2) fun x19 =>
  LdB (a11.add 3) fun x20 =>
  Ix p_s s3.1 4 fun a21 =>
  St (a21.add 0) (.int .u64 x17) <|
  St (a21.add 1) (.string x18) <|
  St (a21.add 2) (.string x19) <|
  St (a21.add 3) (.bool x20) <|
  J4 ((w64 (s3.1 + 1)), ())) (
  J4 (s3.1, ()))) (
  Req ((0 : Int) ≤ s3.1 ∧ s3.1 ≤ ((p_s.len : Nat) : Int)) <|
  ClrS (zc Try.prog 48) ⟨(slOff p_s.p p_s.cap (Int.toNat s3.1) 4), (p_s.len - (Int.toNat s3.1)), (p_s.cap - (Int.toNat s3.1))⟩ <|
  Req ((0 : Int) ≤ s3.1 ∧ s3.1 ≤ ((p_s.cap : Nat) : Int)) <|
  R (⟨(slOff p_s.p p_s.cap 0 4), ((Int.toNat s3.1) - 0), (p_s.cap - 0)⟩, ()))) (r1.1, (w64 (r1.1 + 1)), ()))
def slices_DeleteFunc_ann : Ann := .seq .leaf (.seq .leaf (.seq (.seq .leaf (.cond (.seq .leaf .leaf) .leaf)) (.seq (.seq .leaf (.block (.loop [(5, .sc (.i .i64)), (6, .sc (.i .i64))] (.seq (.seq .leaf (.cond .leaf .leaf)) (.seq (.join [(5, .sc (.i .i64))] (.block (.seq .leaf (.seq .leaf (.cond (.seq .leaf .leaf) .leaf))))) .leaf))))) (.seq .leaf (.seq .leaf .leaf)))))
set_option maxRecDepth 100000 in
theorem slices_DeleteFunc_den (p_s : Sl) (p_del : Value) (R : TR [.sc .sl] → Pr) : den Try.prog slices_DeleteFunc_ann (Try.f49.body.getD .skip) (retQ Try.prog Try.f49.results.toList false [.sc .sl] R) [] (env0 42 [(.slice p_s.p p_s.len p_s.cap), p_del]) = slices_DeleteFunc p_s p_del R := by
  kernel_rfl
set_option maxRecDepth 100000 in
theorem slices_DeleteFunc_call (p_s : Sl) (p_del : Value) {R : TR [.sc .sl] → Pr} {w : World} (h : slices_DeleteFunc p_s p_del R w) : Cl Try.prog 49 [(.slice p_s.p p_s.len p_s.cap), p_del] false [.sc .sl] R w :=
  call_of (P := Try.prog) (tup := false) (rs := [.sc .sl]) Try.checked.mixed slices_DeleteFunc_ann (by kernel_rfl) Try.func49 (by kernel_rfl) Try.ntmps49 (by show Try.f49.results.size = 1; kernel_rfl) (by rw [← slices_DeleteFunc_den] at h; exact h)

/-- slices.IndexFunc[[]sumpter/locks.Ask,sumpter/locks.Ask] -/
abbrev i_slices_IndexFunc : FuncId := 50
def slices_IndexFunc (p_s : Sl) (p_f : Value) (R : TR [.sc (.i .i64)] → Pr) : Pr :=
  Lp (σ := Int × Int × Unit) (fun L1 s2 =>
  Br (decide ((s2.2.1 : Int) < ((p_s.len : Nat) : Int))) (
  Ix p_s s2.2.1 4 fun a3 =>
  LdI .u64 (a3.add 0) fun x4 =>
  LdS (a3.add 1) fun x5 =>
  LdS (a3.add 2) fun x6 =>
  LdB (a3.add 3) fun x7 =>
  CallV Try.prog p_f [(.agg #[(.int .u64 x4), (.string x5), (.string x6), (.bool x7)])] false [.sc .b] fun r8 =>
  Br r8.1 (
  R (s2.2.1, ())) (
  L1 (s2.1, (w64 (s2.2.1 + 1)), ()))) (
  R ((-1), ()))) (0, 0, ())
def slices_IndexFunc_ann : Ann := .seq .leaf (.seq (.seq .leaf (.block (.loop [(4, .sc (.i .i64)), (8, .sc (.i .i64))] (.seq .leaf (.seq (.cond .leaf .leaf) (.seq (.block (.seq .leaf (.seq .leaf (.cond (.seq .leaf .leaf) .leaf)))) .leaf)))))) (.seq .leaf .leaf))
set_option maxRecDepth 100000 in
theorem slices_IndexFunc_den (p_s : Sl) (p_f : Value) (R : TR [.sc (.i .i64)] → Pr) : den Try.prog slices_IndexFunc_ann (Try.f50.body.getD .skip) (retQ Try.prog Try.f50.results.toList false [.sc (.i .i64)] R) [] (env0 19 [(.slice p_s.p p_s.len p_s.cap), p_f]) = slices_IndexFunc p_s p_f R := by
  kernel_rfl
set_option maxRecDepth 100000 in
theorem slices_IndexFunc_call (p_s : Sl) (p_f : Value) {R : TR [.sc (.i .i64)] → Pr} {w : World} (h : slices_IndexFunc p_s p_f R w) : Cl Try.prog 50 [(.slice p_s.p p_s.len p_s.cap), p_f] false [.sc (.i .i64)] R w :=
  call_of (P := Try.prog) (tup := false) (rs := [.sc (.i .i64)]) Try.checked.mixed slices_IndexFunc_ann (by kernel_rfl) Try.func50 (by kernel_rfl) Try.ntmps50 (by show Try.f50.results.size = 1; kernel_rfl) (by rw [← slices_IndexFunc_den] at h; exact h)

/-- (*sumpter/locks.Table).settle$1 -/
abbrev i_locks_Table_settle_1 : FuncId := 51
def locks_Table_settle_1 (p_w_0 : Int) (p_w_1 : ByteArray) (p_w_2 : ByteArray) (p_w_3 : Bool) (p_c0 : Addr) (R : TR [.sc .b] → Pr) : Pr :=
  New #[(.int .u64 p_w_0), (.string p_w_1), (.string p_w_2), (.bool p_w_3)] 48 fun a1 =>
  Dr <|
  LdP p_c0 fun x2 =>
  Nn x2 fun a3 =>
  LdL (a3.add 0) fun x4 =>
  LdI .u64 (a1.add 0) fun x5 =>
  LdS (a1.add 1) fun x6 =>
  LdS (a1.add 2) fun x7 =>
  LdB (a1.add 3) fun x8 =>
  Cl Try.prog 27 [(.agg #[(.int .u64 x5), (.string x6), (.string x7), (.bool x8)])] false [.sc .v] fun r9 =>
  Both (LdL (a3.add 0) fun x10 =>
  fun _ => ((.slice x10.p x10.len x10.cap) : Value) = (.slice x4.p x4.len x4.cap)) <|
  Both (LdP p_c0 fun x11 =>
  fun _ => ((.pointer x11) : Value) = (.pointer x2)) <|
  Cl Try.prog 24 [(.slice x4.p x4.len x4.cap), r9.1] false [.sc .b] fun r12 =>
  R ((!r12.1), ())
def locks_Table_settle_1_ann : Ann := .seq .leaf (.seq .leaf .leaf)
set_option maxRecDepth 100000 in
theorem locks_Table_settle_1_den (p_w_0 : Int) (p_w_1 : ByteArray) (p_w_2 : ByteArray) (p_w_3 : Bool) (p_c0 : Addr) (R : TR [.sc .b] → Pr) : den Try.prog locks_Table_settle_1_ann (Try.f51.body.getD .skip) (retQ Try.prog Try.f51.results.toList false [.sc .b] R) [] (env0 12 [(.agg #[(.int .u64 p_w_0), (.string p_w_1), (.string p_w_2), (.bool p_w_3)]), (.pointer (some p_c0))]) = locks_Table_settle_1 p_w_0 p_w_1 p_w_2 p_w_3 p_c0 R := by
  kernel_rfl
set_option maxRecDepth 100000 in
theorem locks_Table_settle_1_call (p_w_0 : Int) (p_w_1 : ByteArray) (p_w_2 : ByteArray) (p_w_3 : Bool) (p_c0 : Addr) {R : TR [.sc .b] → Pr} {w : World} (h : locks_Table_settle_1 p_w_0 p_w_1 p_w_2 p_w_3 p_c0 R w) : Cl Try.prog 51 [(.agg #[(.int .u64 p_w_0), (.string p_w_1), (.string p_w_2), (.bool p_w_3)]), (.pointer (some p_c0))] false [.sc .b] R w :=
  call_of (P := Try.prog) (tup := false) (rs := [.sc .b]) Try.checked.mixed locks_Table_settle_1_ann (by kernel_rfl) Try.func51 (by kernel_rfl) Try.ntmps51 (by show Try.f51.results.size = 1; kernel_rfl) (by rw [← locks_Table_settle_1_den] at h; exact h)

/-- slices.Delete[[]sumpter/locks.Ask,sumpter/locks.Ask] -/
abbrev i_slices_Delete : FuncId := 52
def slices_Delete (p_s : Sl) (p_i : Int) (p_j : Int) (R : TR [.sc .sl] → Pr) : Pr :=
  Req ((0 : Int) ≤ ((p_s.len : Nat) : Int) ∧ ((p_s.len : Nat) : Int) ≤ ((p_s.cap : Nat) : Int)) <|
  Req ((0 : Int) ≤ p_j ∧ p_j ≤ (((Int.toNat ((p_s.len : Nat) : Int)) : Nat) : Int)) <|
  Req ((0 : Int) ≤ p_i ∧ p_i ≤ (((Int.toNat p_j) : Nat) : Int)) <|
  Br ((p_i : Int) == p_j) (
  R (p_s, ())) (
  Dr <|
  Req ((0 : Int) ≤ p_i ∧ p_i ≤ ((p_s.cap : Nat) : Int)) <|
  Req ((0 : Int) ≤ p_j ∧ p_j ≤ ((p_s.len : Nat) : Int)) <|
  App 48 4 48 (zc Try.prog 48) ⟨(slOff p_s.p p_s.cap 0 4), ((Int.toNat p_i) - 0), (p_s.cap - 0)⟩ (p_s.len - (Int.toNat p_j)) (srcS (slOff p_s.p p_s.cap (Int.toNat p_j) 4) (p_s.len - (Int.toNat p_j)) 4) fun r1 =>
  Req ((0 : Int) ≤ ((p_s.len : Nat) : Int) ∧ ((p_s.len : Nat) : Int) ≤ ((r1.cap : Nat) : Int)) <|
  Req ((0 : Int) ≤ ((r1.len : Nat) : Int) ∧ ((r1.len : Nat) : Int) ≤ (((Int.toNat ((p_s.len : Nat) : Int)) : Nat) : Int)) <|
  ClrS (zc Try.prog 48) ⟨(slOff r1.p r1.cap (Int.toNat ((r1.len : Nat) : Int)) 4), ((Int.toNat ((p_s.len : Nat) : Int)) - (Int.toNat ((r1.len : Nat) : Int))), (r1.cap - (Int.toNat ((r1.len : Nat) : Int)))⟩ <|
  R (r1, ()))
def slices_Delete_ann : Ann := .seq .leaf (.seq .leaf (.seq (.seq .leaf (.cond (.seq .leaf .leaf) .leaf)) (.seq .leaf (.seq .leaf (.seq .leaf (.seq .leaf .leaf))))))
set_option maxRecDepth 100000 in
theorem slices_Delete_den (p_s : Sl) (p_i : Int) (p_j : Int) (R : TR [.sc .sl] → Pr) : den Try.prog slices_Delete_ann (Try.f52.body.getD .skip) (retQ Try.prog Try.f52.results.toList false [.sc .sl] R) [] (env0 33 [(.slice p_s.p p_s.len p_s.cap), (.int .i64 p_i), (.int .i64 p_j)]) = slices_Delete p_s p_i p_j R := by
  kernel_rfl
set_option maxRecDepth 100000 in
theorem slices_Delete_call (p_s : Sl) (p_i : Int) (p_j : Int) {R : TR [.sc .sl] → Pr} {w : World} (h : slices_Delete p_s p_i p_j R w) : Cl Try.prog 52 [(.slice p_s.p p_s.len p_s.cap), (.int .i64 p_i), (.int .i64 p_j)] false [.sc .sl] R w :=
  call_of (P := Try.prog) (tup := false) (rs := [.sc .sl]) Try.checked.mixed slices_Delete_ann (by kernel_rfl) Try.func52 (by kernel_rfl) Try.ntmps52 (by show Try.f52.results.size = 1; kernel_rfl) (by rw [← slices_Delete_den] at h; exact h)

/-- sumpter/locks.of$1 -/
abbrev i_locks_of_1 : FuncId := 53
def locks_of_1 (p_x_0 : Int) (p_x_1 : ByteArray) (p_x_2 : ByteArray) (p_x_3 : Bool) (p_c0 : Addr) (R : TR [.sc .b] → Pr) : Pr :=
  New #[(.int .u64 p_x_0), (.string p_x_1), (.string p_x_2), (.bool p_x_3)] 48 fun a1 =>
  LdI .u64 (a1.add 0) fun x2 =>
  LdI .u64 p_c0 fun x3 =>
  R (((x2 : Int) == x3), ())
def locks_of_1_ann : Ann := .seq .leaf (.seq .leaf .leaf)
set_option maxRecDepth 100000 in
theorem locks_of_1_den (p_x_0 : Int) (p_x_1 : ByteArray) (p_x_2 : ByteArray) (p_x_3 : Bool) (p_c0 : Addr) (R : TR [.sc .b] → Pr) : den Try.prog locks_of_1_ann (Try.f53.body.getD .skip) (retQ Try.prog Try.f53.results.toList false [.sc .b] R) [] (env0 8 [(.agg #[(.int .u64 p_x_0), (.string p_x_1), (.string p_x_2), (.bool p_x_3)]), (.pointer (some p_c0))]) = locks_of_1 p_x_0 p_x_1 p_x_2 p_x_3 p_c0 R := by
  kernel_rfl
set_option maxRecDepth 100000 in
theorem locks_of_1_call (p_x_0 : Int) (p_x_1 : ByteArray) (p_x_2 : ByteArray) (p_x_3 : Bool) (p_c0 : Addr) {R : TR [.sc .b] → Pr} {w : World} (h : locks_of_1 p_x_0 p_x_1 p_x_2 p_x_3 p_c0 R w) : Cl Try.prog 53 [(.agg #[(.int .u64 p_x_0), (.string p_x_1), (.string p_x_2), (.bool p_x_3)]), (.pointer (some p_c0))] false [.sc .b] R w :=
  call_of (P := Try.prog) (tup := false) (rs := [.sc .b]) Try.checked.mixed locks_of_1_ann (by kernel_rfl) Try.func53 (by kernel_rfl) Try.ntmps53 (by show Try.f53.results.size = 1; kernel_rfl) (by rw [← locks_of_1_den] at h; exact h)

/-- sumpter/span.least -/
abbrev i_span_least : FuncId := 54
def span_least (p_a : ByteArray) (p_b : ByteArray) (R : TR [.sc .s] → Pr) : Pr :=
  Jp (σ := Bool × Unit) (fun s2 =>
  Br s2.1 (
  R (p_b, ())) (
  R (p_a, ()))) fun J1 =>
  Br (seq p_a (BA [])) (
  J1 (true, ())) (
  Br (!(seq p_b (BA []))) (
  J1 ((slt p_b p_a), ())) (
  J1 (false, ())))
def span_least_ann : Ann := .seq .leaf (.seq (.seq (.join [(15, .sc .b)] .leaf) (.cond (.seq .leaf .leaf) .leaf)) (.seq .leaf .leaf))
set_option maxRecDepth 100000 in
theorem span_least_den (p_a : ByteArray) (p_b : ByteArray) (R : TR [.sc .s] → Pr) : den Try.prog span_least_ann (Try.f54.body.getD .skip) (retQ Try.prog Try.f54.results.toList false [.sc .s] R) [] (env0 18 [(.string p_a), (.string p_b)]) = span_least p_a p_b R := by
  kernel_rfl
set_option maxRecDepth 100000 in
theorem span_least_call (p_a : ByteArray) (p_b : ByteArray) {R : TR [.sc .s] → Pr} {w : World} (h : span_least p_a p_b R w) : Cl Try.prog 54 [(.string p_a), (.string p_b)] false [.sc .s] R w :=
  call_of (P := Try.prog) (tup := false) (rs := [.sc .s]) Try.checked.mixed span_least_ann (by kernel_rfl) Try.func54 (by kernel_rfl) Try.ntmps54 (by show Try.f54.results.size = 1; kernel_rfl) (by rw [← span_least_den] at h; exact h)

/-- sumpter/locks.against$1 -/
abbrev i_locks_against_1 : FuncId := 55
def locks_against_1 (p_y_0 : Int) (p_y_1 : ByteArray) (p_y_2 : ByteArray) (p_y_3 : Bool) (p_c0 : Addr) (R : TR [.sc .b] → Pr) : Pr :=
  New #[(.int .u64 p_y_0), (.string p_y_1), (.string p_y_2), (.bool p_y_3)] 48 fun a1 =>
  LdS (((p_c0.add 1).add 0).add 0) fun x2 =>
  LdS (((p_c0.add 1).add 0).add 1) fun x3 =>
  LdS (((a1.add 1).add 0).add 0) fun x4 =>
  LdS (((a1.add 1).add 0).add 1) fun x5 =>
  Cl Try.prog 56 [(.agg #[(.string x2), (.string x3)]), (.agg #[(.string x4), (.string x5)])] true [.ag [.s, .s], .sc .b] fun r6 =>
  New #[(.string (BA [])), (.string (BA []))] 28 fun a7 =>
  St (a7.add 0) (.string r6.1.1) <|
  St (a7.add 1) (.string r6.1.2.1) <|
  Br r6.2.1 (
  LdI .u64 (p_c0.add 0) fun x8 =>
  LdI .u64 (a1.add 0) fun x9 =>
  Br ((x8 : Int) != x9) (
  LdB ((p_c0.add 1).add 2) fun x10 =>
  Br x10 (
  R (true, ())) (
  LdB ((a1.add 1).add 2) fun x11 =>
  R (x11, ()))) (
  R (false, ()))) (
  R (false, ()))
def locks_against_1_ann : Ann := .seq .leaf (.seq .leaf (.seq .leaf .leaf))
set_option maxRecDepth 100000 in
theorem locks_against_1_den (p_y_0 : Int) (p_y_1 : ByteArray) (p_y_2 : ByteArray) (p_y_3 : Bool) (p_c0 : Addr) (R : TR [.sc .b] → Pr) : den Try.prog locks_against_1_ann (Try.f55.body.getD .skip) (retQ Try.prog Try.f55.results.toList false [.sc .b] R) [] (env0 34 [(.agg #[(.int .u64 p_y_0), (.string p_y_1), (.string p_y_2), (.bool p_y_3)]), (.pointer (some p_c0))]) = locks_against_1 p_y_0 p_y_1 p_y_2 p_y_3 p_c0 R := by
  kernel_rfl
set_option maxRecDepth 100000 in
theorem locks_against_1_call (p_y_0 : Int) (p_y_1 : ByteArray) (p_y_2 : ByteArray) (p_y_3 : Bool) (p_c0 : Addr) {R : TR [.sc .b] → Pr} {w : World} (h : locks_against_1 p_y_0 p_y_1 p_y_2 p_y_3 p_c0 R w) : Cl Try.prog 55 [(.agg #[(.int .u64 p_y_0), (.string p_y_1), (.string p_y_2), (.bool p_y_3)]), (.pointer (some p_c0))] false [.sc .b] R w :=
  call_of (P := Try.prog) (tup := false) (rs := [.sc .b]) Try.checked.mixed locks_against_1_ann (by kernel_rfl) Try.func55 (by kernel_rfl) Try.ntmps55 (by show Try.f55.results.size = 1; kernel_rfl) (by rw [← locks_against_1_den] at h; exact h)

/-- sumpter/span.Meet -/
abbrev i_span_Meet : FuncId := 56
def span_Meet (p_a_0 : ByteArray) (p_a_1 : ByteArray) (p_b_0 : ByteArray) (p_b_1 : ByteArray) (R : TR [.ag [.s, .s], .sc .b] → Pr) : Pr :=
  New #[(.string p_a_0), (.string p_a_1)] 28 fun a1 =>
  New #[(.string p_b_0), (.string p_b_1)] 28 fun a2 =>
  New #[(.string (BA [])), (.string (BA []))] 28 fun a3 =>
  Jp (σ := Option Addr × Unit) (fun s5 =>
  Jp (σ := Bool × Unit) (fun s7 =>
  Br s7.1 (
  St (a3.add 0) (.string (BA [])) <|
  St (a3.add 1) (.string (BA [])) <|
  LdS (a3.add 0) fun x8 =>
  LdS (a3.add 1) fun x9 =>
  R ((x8, x9, ()), false, ())) (
  Nn s5.1 fun a10 =>
  LdS (a10.add 0) fun x11 =>
  LdS (a10.add 1) fun x12 =>
  St (a3.add 0) (.string x11) <|
  St (a3.add 1) (.string x12) <|
  LdS (a3.add 0) fun x13 =>
  LdS (a3.add 1) fun x14 =>
  R ((x13, x14, ()), true, ()))) fun J6 =>
  LdS (a1.add 0) fun x15 =>
  LdS (a1.add 1) fun x16 =>
  Cl Try.prog 12 [(.agg #[(.string x15), (.string x16)])] false [.sc (.i .i64)] fun r17 =>
  Br ((r17.1 : Int) != 0) (
  J6 (true, ())) (
  LdS (a2.add 0) fun x18 =>
  LdS (a2.add 1) fun x19 =>
  Cl Try.prog 12 [(.agg #[(.string x18), (.string x19)])] false [.sc (.i .i64)] fun r20 =>
  Br ((r20.1 : Int) != 0) (
  J6 (true, ())) (
  Nn s5.1 fun a21 =>
  LdS (a21.add 0) fun x22 =>
  LdS (a21.add 1) fun x23 =>
  Cl Try.prog 12 [(.agg #[(.string x22), (.string x23)])] false [.sc (.i .i64)] fun r24 =>
  J6 (((r24.1 : Int) != 0), ())))) fun J4 =>
  Dr <|
  LdS (a1.add 0) fun x25 =>
  LdS (a2.add 0) fun x26 =>
  LdS (a1.add 1) fun x27 =>
  LdS (a2.add 1) fun x28 =>
  Both (
  Cl Try.prog 54 [(.string x27), (.string x28)] false [.sc .s] fun r29 =>
  Both (LdS (a2.add 0) fun x30 =>
  fun _ => ((.string x30) : Value) = (.string x26)) <|
  Both (LdS (a1.add 0) fun x31 =>
  fun _ => ((.string x31) : Value) = (.string x25)) <|
  New #[(.string (BA [])), (.string (BA []))] 28 fun a32 =>
  Both (LdS (a2.add 1) fun x33 =>
  fun _ => ((.string x33) : Value) = (.string x28)) <|
  Both (LdS (a1.add 1) fun x34 =>
  fun _ => ((.string x34) : Value) = (.string x27)) <|
  Both (LdS (a2.add 0) fun x35 =>
  fun _ => ((.string x35) : Value) = (.string x26)) <|
  Both (LdS (a1.add 0) fun x36 =>
  fun _ => ((.string x36) : Value) = (.string x25)) <|
  St (a32.add 0) (.string (if !(slt x25 x26) then x25 else x26)) <|
  St (a32.add 1) (.string r29.1) <|
  J4 ((some a32), ())) <|
  New #[(.string (BA [])), (.string (BA []))] 28 fun a37 =>
  Both (LdS (a2.add 1) fun x38 =>
  fun _ => ((.string x38) : Value) = (.string x28)) <|
  Both (LdS (a1.add 1) fun x39 =>
  fun _ => ((.string x39) : Value) = (.string x27)) <|
  Both (LdS (a2.add 0) fun x40 =>
  fun _ => ((.string x40) : Value) = (.string x26)) <|
  Both (LdS (a1.add 0) fun x41 =>
  fun _ => ((.string x41) : Value) = (.string x25)) <|
  Cl Try.prog 54 [(.string x27), (.string x28)] false [.sc .s] fun r42 =>
  Both (LdS (a2.add 0) fun x43 =>
  fun _ => ((.string x43) : Value) = (.string x26)) <|
  Both (LdS (a1.add 0) fun x44 =>
  fun _ => ((.string x44) : Value) = (.string x25)) <|
  St (a37.add 0) (.string (if !(slt x25 x26) then x25 else x26)) <|
  St (a37.add 1) (.string r42.1) <|
  J4 ((some a37), ())
def span_Meet_ann : Ann := .seq .leaf (.seq (.join [(6, .sc .p)] .leaf) (.seq (.seq (.join [(30, .sc .b)] .leaf) (.cond (.seq .leaf .leaf) .leaf)) (.seq .leaf .leaf)))
set_option maxRecDepth 100000 in
theorem span_Meet_den (p_a_0 : ByteArray) (p_a_1 : ByteArray) (p_b_0 : ByteArray) (p_b_1 : ByteArray) (R : TR [.ag [.s, .s], .sc .b] → Pr) : den Try.prog span_Meet_ann (Try.f56.body.getD .skip) (retQ Try.prog Try.f56.results.toList true [.ag [.s, .s], .sc .b] R) [] (env0 33 [(.agg #[(.string p_a_0), (.string p_a_1)]), (.agg #[(.string p_b_0), (.string p_b_1)])]) = span_Meet p_a_0 p_a_1 p_b_0 p_b_1 R := by
  kernel_rfl
set_option maxRecDepth 100000 in
theorem span_Meet_call (p_a_0 : ByteArray) (p_a_1 : ByteArray) (p_b_0 : ByteArray) (p_b_1 : ByteArray) {R : TR [.ag [.s, .s], .sc .b] → Pr} {w : World} (h : span_Meet p_a_0 p_a_1 p_b_0 p_b_1 R w) : Cl Try.prog 56 [(.agg #[(.string p_a_0), (.string p_a_1)]), (.agg #[(.string p_b_0), (.string p_b_1)])] true [.ag [.s, .s], .sc .b] R w :=
  call_of (P := Try.prog) (tup := true) (rs := [.ag [.s, .s], .sc .b]) Try.checked.mixed span_Meet_ann (by kernel_rfl) Try.func56 (by kernel_rfl) Try.ntmps56 (by show Nat.beq Try.f56.results.size 1 = false; kernel_rfl) (by rw [← span_Meet_den] at h; exact h)

/-- cmp.isNaN[uint64] -/
abbrev i_cmp_isNaN : FuncId := 57
def cmp_isNaN (p_x : Int) (R : TR [.sc .b] → Pr) : Pr :=
  R (((p_x : Int) != p_x), ())
def cmp_isNaN_ann : Ann := .seq .leaf (.seq .leaf .leaf)
set_option maxRecDepth 100000 in
theorem cmp_isNaN_den (p_x : Int) (R : TR [.sc .b] → Pr) : den Try.prog cmp_isNaN_ann (Try.f57.body.getD .skip) (retQ Try.prog Try.f57.results.toList false [.sc .b] R) [] (env0 6 [(.int .u64 p_x)]) = cmp_isNaN p_x R := by
  kernel_rfl
set_option maxRecDepth 100000 in
theorem cmp_isNaN_call (p_x : Int) {R : TR [.sc .b] → Pr} {w : World} (h : cmp_isNaN p_x R w) : Cl Try.prog 57 [(.int .u64 p_x)] false [.sc .b] R w :=
  call_of (P := Try.prog) (tup := false) (rs := [.sc .b]) Try.checked.mixed cmp_isNaN_ann (by kernel_rfl) Try.func57 (by kernel_rfl) Try.ntmps57 (by show Try.f57.results.size = 1; kernel_rfl) (by rw [← cmp_isNaN_den] at h; exact h)

/-- slices.rotateRight[sumpter/locks.Ask] -/
abbrev i_slices_rotateRight : FuncId := 59
def slices_rotateRight (p_s : Sl) (p_r : Int) (R : TR [] → Pr) : Pr :=
  Cl Try.prog 67 [(.slice p_s.p p_s.len p_s.cap), (.int .i64 (w64 (((p_s.len : Nat) : Int) - p_r)))] true [] fun r1 =>
  R ()
def slices_rotateRight_ann : Ann := .leaf
set_option maxRecDepth 100000 in
theorem slices_rotateRight_den (p_s : Sl) (p_r : Int) (R : TR [] → Pr) : den Try.prog slices_rotateRight_ann (Try.f59.body.getD .skip) (retQ Try.prog Try.f59.results.toList true [] R) [] (env0 10 [(.slice p_s.p p_s.len p_s.cap), (.int .i64 p_r)]) = slices_rotateRight p_s p_r R := by
  kernel_rfl
set_option maxRecDepth 100000 in
theorem slices_rotateRight_call (p_s : Sl) (p_r : Int) {R : TR [] → Pr} {w : World} (h : slices_rotateRight p_s p_r R w) : Cl Try.prog 59 [(.slice p_s.p p_s.len p_s.cap), (.int .i64 p_r)] true [] R w :=
  call_of (P := Try.prog) (tup := true) (rs := []) Try.checked.mixed slices_rotateRight_ann (by kernel_rfl) Try.func59 (by kernel_rfl) Try.ntmps59 (by show Nat.beq Try.f59.results.size 1 = false; kernel_rfl) (by rw [← slices_rotateRight_den] at h; exact h)

/-- slices.Grow[[]sumpter/locks.Ask,sumpter/locks.Ask] -/
abbrev i_slices_Grow : FuncId := 60
def slices_Grow (p_s : Sl) (p_n : Int) (R : TR [.sc .sl] → Pr) : Pr :=
  Br (decide ((p_n : Int) < 0)) (
  F) (
  Jp (σ := Sl × Unit) (fun s2 =>
  R (s2.1, ())) fun J1 =>
  Br (decide (((w64 (p_n - (w64 (((p_s.cap : Nat) : Int) - ((p_s.len : Nat) : Int))))) : Int) > 0)) (
  Req ((0 : Int) ≤ ((p_s.cap : Nat) : Int) ∧ ((p_s.cap : Nat) : Int) ≤ ((p_s.cap : Nat) : Int)) <|
  AppZ 48 4 48 (zc Try.prog 48) ⟨(slOff p_s.p p_s.cap 0 4), ((Int.toNat ((p_s.cap : Nat) : Int)) - 0), (p_s.cap - 0)⟩ (w64 (p_n - (w64 (((p_s.cap : Nat) : Int) - ((p_s.len : Nat) : Int))))) fun r3 =>
  Req ((0 : Int) ≤ ((p_s.len : Nat) : Int) ∧ ((p_s.len : Nat) : Int) ≤ ((r3.cap : Nat) : Int)) <|
  J1 (⟨(slOff r3.p r3.cap 0 4), ((Int.toNat ((p_s.len : Nat) : Int)) - 0), (r3.cap - 0)⟩, ())) (
  J1 (p_s, ())))
def slices_Grow_ann : Ann := .seq .leaf (.seq (.seq .leaf (.cond .leaf .leaf)) (.seq (.join [(0, .sc .sl)] (.seq .leaf (.seq .leaf (.cond .leaf .leaf)))) (.seq .leaf .leaf)))
set_option maxRecDepth 100000 in
theorem slices_Grow_den (p_s : Sl) (p_n : Int) (R : TR [.sc .sl] → Pr) : den Try.prog slices_Grow_ann (Try.f60.body.getD .skip) (retQ Try.prog Try.f60.results.toList false [.sc .sl] R) [] (env0 27 [(.slice p_s.p p_s.len p_s.cap), (.int .i64 p_n)]) = slices_Grow p_s p_n R := by
  kernel_rfl
set_option maxRecDepth 100000 in
theorem slices_Grow_call (p_s : Sl) (p_n : Int) {R : TR [.sc .sl] → Pr} {w : World} (h : slices_Grow p_s p_n R w) : Cl Try.prog 60 [(.slice p_s.p p_s.len p_s.cap), (.int .i64 p_n)] false [.sc .sl] R w :=
  call_of (P := Try.prog) (tup := false) (rs := [.sc .sl]) Try.checked.mixed slices_Grow_ann (by kernel_rfl) Try.func60 (by kernel_rfl) Try.ntmps60 (by show Try.f60.results.size = 1; kernel_rfl) (by rw [← slices_Grow_den] at h; exact h)

/-- slices.Sort[[]uint64,uint64] -/
abbrev i_slices_Sort : FuncId := 61
def slices_Sort (p_x : Sl) (R : TR [] → Pr) : Pr :=
  Cl Try.prog 69 [(.int .u64 (IntKind.u64.wrap (((p_x.len : Nat) : Int))))] false [.sc (.i .i64)] fun r1 =>
  Cl Try.prog 68 [(.slice p_x.p p_x.len p_x.cap), (.int .i64 0), (.int .i64 ((p_x.len : Nat) : Int)), (.int .i64 r1.1)] true [] fun r2 =>
  R ()
def slices_Sort_ann : Ann := .seq .leaf .leaf
set_option maxRecDepth 100000 in
theorem slices_Sort_den (p_x : Sl) (R : TR [] → Pr) : den Try.prog slices_Sort_ann (Try.f61.body.getD .skip) (retQ Try.prog Try.f61.results.toList true [] R) [] (env0 11 [(.slice p_x.p p_x.len p_x.cap)]) = slices_Sort p_x R := by
  kernel_rfl
set_option maxRecDepth 100000 in
theorem slices_Sort_call (p_x : Sl) {R : TR [] → Pr} {w : World} (h : slices_Sort p_x R w) : Cl Try.prog 61 [(.slice p_x.p p_x.len p_x.cap)] true [] R w :=
  call_of (P := Try.prog) (tup := true) (rs := []) Try.checked.mixed slices_Sort_ann (by kernel_rfl) Try.func61 (by kernel_rfl) Try.ntmps61 (by show Nat.beq Try.f61.results.size 1 = false; kernel_rfl) (by rw [← slices_Sort_den] at h; exact h)

/-- slices.Compact[[]uint64,uint64] -/
abbrev i_slices_Compact : FuncId := 62
def slices_Compact (p_s : Sl) (R : TR [.sc .sl] → Pr) : Pr :=
  Br (decide ((((p_s.len : Nat) : Int) : Int) < 2)) (
  R (p_s, ())) (
  Lp (σ := Sl × Int × Unit) (fun L1 s2 =>
  Br (decide ((s2.2.1 : Int) < ((p_s.len : Nat) : Int))) (
  Dr <|
  Ix p_s s2.2.1 1 fun a3 =>
  LdI .u64 a3 fun x4 =>
  Ix p_s (w64 (s2.2.1 - 1)) 1 fun a5 =>
  LdI .u64 a5 fun x6 =>
  Br ((x4 : Int) == x6) (
  Req ((0 : Int) ≤ s2.2.1 ∧ s2.2.1 ≤ ((p_s.len : Nat) : Int)) <|
  Lp (σ := Int × Int × Unit) (fun L7 s8 =>
  Br (decide ((s8.2.1 : Int) < (((p_s.len - (Int.toNat s2.2.1)) : Nat) : Int))) (
  Jp (σ := Int × Unit) (fun s10 =>
  L7 (s10.1, (w64 (s8.2.1 + 1)), ())) fun J9 =>
  Dr <|
  Ix ⟨(slOff p_s.p p_s.cap (Int.toNat s2.2.1) 1), (p_s.len - (Int.toNat s2.2.1)), (p_s.cap - (Int.toNat s2.2.1))⟩ s8.2.1 1 fun a11 =>
  LdI .u64 a11 fun x12 =>
  Ix ⟨(slOff p_s.p p_s.cap (Int.toNat s2.2.1) 1), (p_s.len - (Int.toNat s2.2.1)), (p_s.cap - (Int.toNat s2.2.1))⟩ (w64 (s8.2.1 - 1)) 1 fun a13 =>
  LdI .u64 a13 fun x14 =>
  Br ((x12 : Int) != x14) (
  Ix ⟨(slOff p_s.p p_s.cap (Int.toNat s2.2.1) 1), (p_s.len - (Int.toNat s2.2.1)), (p_s.cap - (Int.toNat s2.2.1))⟩ s8.2.1 1 fun a15 =>
  LdI .u64 a15 fun x16 =>
  Ix p_s s8.1 1 fun a17 =>
  St a17 (.int .u64 x16) <|
  J9 ((w64 (s8.1 + 1)), ())) (
  J9 (s8.1, ()))) (
  Req ((0 : Int) ≤ s8.1 ∧ s8.1 ≤ ((p_s.len : Nat) : Int)) <|
  ClrS (zc Try.prog 26) ⟨(slOff p_s.p p_s.cap (Int.toNat s8.1) 1), (p_s.len - (Int.toNat s8.1)), (p_s.cap - (Int.toNat s8.1))⟩ <|
  Req ((0 : Int) ≤ s8.1 ∧ s8.1 ≤ ((p_s.cap : Nat) : Int)) <|
  R (⟨(slOff p_s.p p_s.cap 0 1), ((Int.toNat s8.1) - 0), (p_s.cap - 0)⟩, ()))) (s2.2.1, 1, ())) (
  L1 (s2.1, (w64 (s2.2.1 + 1)), ()))) (
  R (p_s, ()))) (⟨none, 0, 0⟩, 1, ()))
def slices_Compact_ann : Ann := .seq .leaf (.seq (.seq .leaf (.cond (.seq .leaf .leaf) .leaf)) (.seq (.seq .leaf (.block (.loop [(2, .sc .sl), (3, .sc (.i .i64))] (.seq (.seq .leaf (.cond .leaf .leaf)) (.seq (.block (.seq .leaf (.cond (.seq .leaf (.seq (.seq .leaf (.block (.loop [(3, .sc (.i .i64)), (5, .sc (.i .i64))] (.seq (.seq .leaf (.cond .leaf .leaf)) (.seq (.join [(3, .sc (.i .i64))] (.block (.seq .leaf (.cond (.seq .leaf .leaf) .leaf)))) .leaf))))) (.seq .leaf (.seq .leaf .leaf)))) .leaf))) .leaf))))) (.seq .leaf .leaf)))
set_option maxRecDepth 100000 in
theorem slices_Compact_den (p_s : Sl) (R : TR [.sc .sl] → Pr) : den Try.prog slices_Compact_ann (Try.f62.body.getD .skip) (retQ Try.prog Try.f62.results.toList false [.sc .sl] R) [] (env0 61 [(.slice p_s.p p_s.len p_s.cap)]) = slices_Compact p_s R := by
  kernel_rfl
set_option maxRecDepth 100000 in
theorem slices_Compact_call (p_s : Sl) {R : TR [.sc .sl] → Pr} {w : World} (h : slices_Compact p_s R w) : Cl Try.prog 62 [(.slice p_s.p p_s.len p_s.cap)] false [.sc .sl] R w :=
  call_of (P := Try.prog) (tup := false) (rs := [.sc .sl]) Try.checked.mixed slices_Compact_ann (by kernel_rfl) Try.func62 (by kernel_rfl) Try.ntmps62 (by show Try.f62.results.size = 1; kernel_rfl) (by rw [← slices_Compact_den] at h; exact h)

/-- sumpter/sumpterref02.below -/
abbrev i_sumpterref02_below : FuncId := 63
def sumpterref02_below (p_a : ByteArray) (p_b : ByteArray) (R : TR [.sc .b] → Pr) : Pr :=
  Br (!(seq p_a (BA []))) (
  Br (seq p_b (BA [])) (
  R (true, ())) (
  R ((slt p_a p_b), ()))) (
  R (false, ()))
def sumpterref02_below_ann : Ann := .seq .leaf (.seq .leaf .leaf)
set_option maxRecDepth 100000 in
theorem sumpterref02_below_den (p_a : ByteArray) (p_b : ByteArray) (R : TR [.sc .b] → Pr) : den Try.prog sumpterref02_below_ann (Try.f63.body.getD .skip) (retQ Try.prog Try.f63.results.toList false [.sc .b] R) [] (env0 16 [(.string p_a), (.string p_b)]) = sumpterref02_below p_a p_b R := by
  kernel_rfl
set_option maxRecDepth 100000 in
theorem sumpterref02_below_call (p_a : ByteArray) (p_b : ByteArray) {R : TR [.sc .b] → Pr} {w : World} (h : sumpterref02_below p_a p_b R w) : Cl Try.prog 63 [(.string p_a), (.string p_b)] false [.sc .b] R w :=
  call_of (P := Try.prog) (tup := false) (rs := [.sc .b]) Try.checked.mixed sumpterref02_below_ann (by kernel_rfl) Try.func63 (by kernel_rfl) Try.ntmps63 (by show Try.f63.results.size = 1; kernel_rfl) (by rw [← sumpterref02_below_den] at h; exact h)

/-- sumpter/sumpterref02.Meet -/
abbrev i_sumpterref02_Meet : FuncId := 64
def sumpterref02_Meet (p_a_0 : ByteArray) (p_a_1 : ByteArray) (p_b_0 : ByteArray) (p_b_1 : ByteArray) (R : TR [.ag [.s, .s], .sc .b] → Pr) : Pr :=
  New #[(.string p_a_0), (.string p_a_1)] 28 fun a1 =>
  New #[(.string p_b_0), (.string p_b_1)] 28 fun a2 =>
  New #[(.string (BA [])), (.string (BA []))] 28 fun a3 =>
  Jp (σ := Bool × Unit) (fun s5 =>
  Br s5.1 (
  St (a3.add 0) (.string (BA [])) <|
  St (a3.add 1) (.string (BA [])) <|
  LdS (a3.add 0) fun x6 =>
  LdS (a3.add 1) fun x7 =>
  R ((x6, x7, ()), false, ())) (
  LdS (a1.add 0) fun x8 =>
  LdS (a2.add 0) fun x9 =>
  LdS (a1.add 1) fun x10 =>
  New #[(.string (BA [])), (.string (BA []))] 28 fun a11 =>
  St (a11.add 0) (.string (if !(slt x8 x9) then x8 else x9)) <|
  St (a11.add 1) (.string x10) <|
  Jp (σ := Unit) (fun s13 =>
  Jp (σ := Bool × Unit) (fun s15 =>
  Br s15.1 (
  St (a3.add 0) (.string (BA [])) <|
  St (a3.add 1) (.string (BA [])) <|
  LdS (a3.add 0) fun x16 =>
  LdS (a3.add 1) fun x17 =>
  R ((x16, x17, ()), false, ())) (
  LdS (a11.add 0) fun x18 =>
  LdS (a11.add 1) fun x19 =>
  St (a3.add 0) (.string x18) <|
  St (a3.add 1) (.string x19) <|
  LdS (a3.add 0) fun x20 =>
  LdS (a3.add 1) fun x21 =>
  R ((x20, x21, ()), true, ()))) fun J14 =>
  LdS (a11.add 1) fun x22 =>
  Br (!(seq x22 (BA []))) (
  LdS (a11.add 0) fun x23 =>
  LdS (a11.add 1) fun x24 =>
  J14 ((!(slt x23 x24)), ())) (
  J14 (false, ()))) fun J12 =>
  LdS (a2.add 1) fun x25 =>
  LdS (a1.add 1) fun x26 =>
  Cl Try.prog 63 [(.string x25), (.string x26)] false [.sc .b] fun r27 =>
  Br r27.1 (
  LdS (a2.add 1) fun x28 =>
  St (a11.add 1) (.string x28) <|
  J12 ()) (
  J12 ()))) fun J4 =>
  LdS (a1.add 0) fun x29 =>
  LdS (a1.add 1) fun x30 =>
  Cl Try.prog 38 [(.agg #[(.string x29), (.string x30)])] false [.sc (.i .i64)] fun r31 =>
  Br ((r31.1 : Int) != 0) (
  J4 (true, ())) (
  LdS (a2.add 0) fun x32 =>
  LdS (a2.add 1) fun x33 =>
  Cl Try.prog 38 [(.agg #[(.string x32), (.string x33)])] false [.sc (.i .i64)] fun r34 =>
  J4 (((r34.1 : Int) != 0), ()))
def sumpterref02_Meet_ann : Ann := .seq .leaf (.seq (.seq (.join [(14, .sc .b)] .leaf) (.cond (.seq .leaf .leaf) .leaf)) (.seq .leaf (.seq (.join [] (.seq .leaf (.cond .leaf .leaf))) (.seq (.seq (.join [(41, .sc .b)] .leaf) (.cond (.seq .leaf .leaf) .leaf)) (.seq .leaf .leaf)))))
set_option maxRecDepth 100000 in
theorem sumpterref02_Meet_den (p_a_0 : ByteArray) (p_a_1 : ByteArray) (p_b_0 : ByteArray) (p_b_1 : ByteArray) (R : TR [.ag [.s, .s], .sc .b] → Pr) : den Try.prog sumpterref02_Meet_ann (Try.f64.body.getD .skip) (retQ Try.prog Try.f64.results.toList true [.ag [.s, .s], .sc .b] R) [] (env0 44 [(.agg #[(.string p_a_0), (.string p_a_1)]), (.agg #[(.string p_b_0), (.string p_b_1)])]) = sumpterref02_Meet p_a_0 p_a_1 p_b_0 p_b_1 R := by
  kernel_rfl
set_option maxRecDepth 100000 in
theorem sumpterref02_Meet_call (p_a_0 : ByteArray) (p_a_1 : ByteArray) (p_b_0 : ByteArray) (p_b_1 : ByteArray) {R : TR [.ag [.s, .s], .sc .b] → Pr} {w : World} (h : sumpterref02_Meet p_a_0 p_a_1 p_b_0 p_b_1 R w) : Cl Try.prog 64 [(.agg #[(.string p_a_0), (.string p_a_1)]), (.agg #[(.string p_b_0), (.string p_b_1)])] true [.ag [.s, .s], .sc .b] R w :=
  call_of (P := Try.prog) (tup := true) (rs := [.ag [.s, .s], .sc .b]) Try.checked.mixed sumpterref02_Meet_ann (by kernel_rfl) Try.func64 (by kernel_rfl) Try.ntmps64 (by show Nat.beq Try.f64.results.size 1 = false; kernel_rfl) (by rw [← sumpterref02_Meet_den] at h; exact h)

/-- sumpter/sumpterref16.Add -/
abbrev i_sumpterref16_Add : FuncId := 65
def sumpterref16_Add (p_l : Sl) (p_n : Int) (R : TR [.sc .sl] → Pr) : Pr :=
  Lp (σ := Int × Unit) (fun L1 s2 =>
  Jp (σ := Bool × Unit) (fun s4 =>
  Br s4.1 (
  L1 ((w64 (s2.1 + 1)), ())) (
  Jp (σ := Bool × Unit) (fun s6 =>
  Br s6.1 (
  R (p_l, ())) (
  Req ((0 : Int) ≤ s2.1 ∧ s2.1 ≤ ((p_l.cap : Nat) : Int)) <|
  App 26 1 8 (zc Try.prog 26) ⟨none, 0, 0⟩ ((Int.toNat s2.1) - 0) (srcS (slOff p_l.p p_l.cap 0 1) ((Int.toNat s2.1) - 0) 1) fun r7 =>
  New #[(.int .u64 p_n)] 26 fun a8 =>
  App 26 1 8 (zc Try.prog 26) r7 1 (srcS (some a8) 1 1) fun r9 =>
  Req ((0 : Int) ≤ s2.1 ∧ s2.1 ≤ ((p_l.len : Nat) : Int)) <|
  App 26 1 8 (zc Try.prog 26) r9 (p_l.len - (Int.toNat s2.1)) (srcS (slOff p_l.p p_l.cap (Int.toNat s2.1) 1) (p_l.len - (Int.toNat s2.1)) 1) fun r10 =>
  R (r10, ()))) fun J5 =>
  Br (decide ((s2.1 : Int) < ((p_l.len : Nat) : Int))) (
  Ix p_l s2.1 1 fun a11 =>
  LdI .u64 a11 fun x12 =>
  J5 (((x12 : Int) == p_n), ())) (
  J5 (false, ())))) fun J3 =>
  Br (decide ((s2.1 : Int) < ((p_l.len : Nat) : Int))) (
  Ix p_l s2.1 1 fun a13 =>
  LdI .u64 a13 fun x14 =>
  J3 ((decide ((x14 : Int) < p_n)), ())) (
  J3 (false, ()))) (0, ())
def sumpterref16_Add_ann : Ann := .seq .leaf (.seq .leaf (.seq (.block (.loop [(5, .sc (.i .i64))] (.seq (.seq (.join [(18, .sc .b)] .leaf) (.cond .leaf .leaf)) (.block .leaf)))) (.seq (.seq (.join [(32, .sc .b)] .leaf) (.cond (.seq .leaf .leaf) .leaf)) (.seq .leaf (.seq .leaf (.seq .leaf .leaf))))))
set_option maxRecDepth 100000 in
theorem sumpterref16_Add_den (p_l : Sl) (p_n : Int) (R : TR [.sc .sl] → Pr) : den Try.prog sumpterref16_Add_ann (Try.f65.body.getD .skip) (retQ Try.prog Try.f65.results.toList false [.sc .sl] R) [] (env0 47 [(.slice p_l.p p_l.len p_l.cap), (.int .u64 p_n)]) = sumpterref16_Add p_l p_n R := by
  kernel_rfl
set_option maxRecDepth 100000 in
theorem sumpterref16_Add_call (p_l : Sl) (p_n : Int) {R : TR [.sc .sl] → Pr} {w : World} (h : sumpterref16_Add p_l p_n R w) : Cl Try.prog 65 [(.slice p_l.p p_l.len p_l.cap), (.int .u64 p_n)] false [.sc .sl] R w :=
  call_of (P := Try.prog) (tup := false) (rs := [.sc .sl]) Try.checked.mixed sumpterref16_Add_ann (by kernel_rfl) Try.func65 (by kernel_rfl) Try.ntmps65 (by show Try.f65.results.size = 1; kernel_rfl) (by rw [← sumpterref16_Add_den] at h; exact h)

/-- (*sumpter/sumpterref16.Table).next -/
abbrev i_sumpterref16_Table_next : FuncId := 66
def sumpterref16_Table_next (p_t : Option Addr) (R : TR [.ag [(.i .u64), .s, .s, .b], .sc .b] → Pr) : Pr :=
  New #[(.int .u64 0), (.string (BA [])), (.string (BA [])), (.bool false)] 78 fun a1 =>
  Nn p_t fun a2 =>
  LdL (a2.add 1) fun x3 =>
  Lp (σ := Bool × Int × Unit) (fun L4 s5 =>
  Br (decide ((s5.2.1 : Int) < ((x3.len : Nat) : Int))) (
  Ix x3 s5.2.1 4 fun a6 =>
  LdI .u64 (a6.add 0) fun x7 =>
  LdS (a6.add 1) fun x8 =>
  LdS (a6.add 2) fun x9 =>
  LdB (a6.add 3) fun x10 =>
  New #[(.int .u64 0), (.string (BA [])), (.string (BA [])), (.bool false)] 78 fun a11 =>
  St (a11.add 0) (.int .u64 x7) <|
  St (a11.add 1) (.string x8) <|
  St (a11.add 2) (.string x9) <|
  St (a11.add 3) (.bool x10) <|
  LdI .u64 (a11.add 0) fun x12 =>
  LdS (a11.add 1) fun x13 =>
  LdS (a11.add 2) fun x14 =>
  LdB (a11.add 3) fun x15 =>
  Cl Try.prog 42 [(.pointer p_t), (.agg #[(.int .u64 x12), (.string x13), (.string x14), (.bool x15)])] false [.sc .b] fun r16 =>
  Br r16.1 (
  LdI .u64 (a11.add 0) fun x17 =>
  LdS (a11.add 1) fun x18 =>
  LdS (a11.add 2) fun x19 =>
  LdB (a11.add 3) fun x20 =>
  St (a1.add 0) (.int .u64 x17) <|
  St (a1.add 1) (.string x18) <|
  St (a1.add 2) (.string x19) <|
  St (a1.add 3) (.bool x20) <|
  LdI .u64 (a1.add 0) fun x21 =>
  LdS (a1.add 1) fun x22 =>
  LdS (a1.add 2) fun x23 =>
  LdB (a1.add 3) fun x24 =>
  R ((x21, x22, x23, x24, ()), true, ())) (
  L4 (s5.1, (w64 (s5.2.1 + 1)), ()))) (
  St (a1.add 0) (.int .u64 0) <|
  St (a1.add 1) (.string (BA [])) <|
  St (a1.add 2) (.string (BA [])) <|
  St (a1.add 3) (.bool false) <|
  LdI .u64 (a1.add 0) fun x25 =>
  LdS (a1.add 1) fun x26 =>
  LdS (a1.add 2) fun x27 =>
  LdB (a1.add 3) fun x28 =>
  R ((x25, x26, x27, x28, ()), false, ()))) (false, 0, ())
def sumpterref16_Table_next_ann : Ann := .seq .leaf (.seq (.seq .leaf (.block (.loop [(3, .sc .b), (11, .sc (.i .i64))] (.seq .leaf (.seq (.cond .leaf .leaf) (.seq (.block (.seq .leaf (.seq .leaf (.cond (.seq .leaf .leaf) .leaf)))) .leaf)))))) (.seq .leaf .leaf))
set_option maxRecDepth 100000 in
theorem sumpterref16_Table_next_den (p_t : Option Addr) (R : TR [.ag [(.i .u64), .s, .s, .b], .sc .b] → Pr) : den Try.prog sumpterref16_Table_next_ann (Try.f66.body.getD .skip) (retQ Try.prog Try.f66.results.toList true [.ag [(.i .u64), .s, .s, .b], .sc .b] R) [] (env0 21 [(.pointer p_t)]) = sumpterref16_Table_next p_t R := by
  kernel_rfl
set_option maxRecDepth 100000 in
theorem sumpterref16_Table_next_call (p_t : Option Addr) {R : TR [.ag [(.i .u64), .s, .s, .b], .sc .b] → Pr} {w : World} (h : sumpterref16_Table_next p_t R w) : Cl Try.prog 66 [(.pointer p_t)] true [.ag [(.i .u64), .s, .s, .b], .sc .b] R w :=
  call_of (P := Try.prog) (tup := true) (rs := [.ag [(.i .u64), .s, .s, .b], .sc .b]) Try.checked.mixed sumpterref16_Table_next_ann (by kernel_rfl) Try.func66 (by kernel_rfl) Try.ntmps66 (by show Nat.beq Try.f66.results.size 1 = false; kernel_rfl) (by rw [← sumpterref16_Table_next_den] at h; exact h)

/-- slices.rotateLeft[sumpter/locks.Ask] -/
abbrev i_slices_rotateLeft : FuncId := 67
def slices_rotateLeft (p_s : Sl) (p_r : Int) (R : TR [] → Pr) : Pr :=
  Req ((0 : Int) ≤ p_r ∧ p_r ≤ ((p_s.cap : Nat) : Int)) <|
  Cl Try.prog 70 [(.slice (slOff p_s.p p_s.cap 0 4) ((Int.toNat p_r) - 0) (p_s.cap - 0))] true [] fun r1 =>
  Req ((0 : Int) ≤ p_r ∧ p_r ≤ ((p_s.len : Nat) : Int)) <|
  Cl Try.prog 70 [(.slice (slOff p_s.p p_s.cap (Int.toNat p_r) 4) (p_s.len - (Int.toNat p_r)) (p_s.cap - (Int.toNat p_r)))] true [] fun r2 =>
  Cl Try.prog 70 [(.slice p_s.p p_s.len p_s.cap)] true [] fun r3 =>
  R ()
def slices_rotateLeft_ann : Ann := .seq .leaf (.seq .leaf .leaf)
set_option maxRecDepth 100000 in
theorem slices_rotateLeft_den (p_s : Sl) (p_r : Int) (R : TR [] → Pr) : den Try.prog slices_rotateLeft_ann (Try.f67.body.getD .skip) (retQ Try.prog Try.f67.results.toList true [] R) [] (env0 14 [(.slice p_s.p p_s.len p_s.cap), (.int .i64 p_r)]) = slices_rotateLeft p_s p_r R := by
  kernel_rfl
set_option maxRecDepth 100000 in
theorem slices_rotateLeft_call (p_s : Sl) (p_r : Int) {R : TR [] → Pr} {w : World} (h : slices_rotateLeft p_s p_r R w) : Cl Try.prog 67 [(.slice p_s.p p_s.len p_s.cap), (.int .i64 p_r)] true [] R w :=
  call_of (P := Try.prog) (tup := true) (rs := []) Try.checked.mixed slices_rotateLeft_ann (by kernel_rfl) Try.func67 (by kernel_rfl) Try.ntmps67 (by show Nat.beq Try.f67.results.size 1 = false; kernel_rfl) (by rw [← slices_rotateLeft_den] at h; exact h)

/-- slices.pdqsortOrdered[uint64] -/
abbrev i_slices_pdqsortOrdered : FuncId := 68
def slices_pdqsortOrdered (p_data : Sl) (p_a : Int) (p_b : Int) (p_limit : Int) (R : TR [] → Pr) : Pr :=
  Lp (σ := Int × Int × Int × Bool × Bool × Unit) (fun L1 s2 =>
  Br (decide (((w64 (s2.2.1 - s2.1)) : Int) ≤ 12)) (
  Cl Try.prog 71 [(.slice p_data.p p_data.len p_data.cap), (.int .i64 s2.1), (.int .i64 s2.2.1)] true [] fun r3 =>
  R ()) (
  Br ((s2.2.2.1 : Int) == 0) (
  Cl Try.prog 72 [(.slice p_data.p p_data.len p_data.cap), (.int .i64 s2.1), (.int .i64 s2.2.1)] true [] fun r4 =>
  R ()) (
  Jp (σ := Int × Unit) (fun s6 =>
  Cl Try.prog 74 [(.slice p_data.p p_data.len p_data.cap), (.int .i64 s2.1), (.int .i64 s2.2.1)] true [.sc (.i .i64), .sc (.i .i64)] fun r7 =>
  Jp (σ := Int × Int × Unit) (fun s9 =>
  Jp (σ := Unit) (fun s11 =>
  Jp (σ := Bool × Unit) (fun s13 =>
  Br s13.1 (
  Cl Try.prog 78 [(.slice p_data.p p_data.len p_data.cap), (.int .i64 s2.1), (.int .i64 s2.2.1), (.int .i64 s9.1)] false [.sc (.i .i64)] fun r14 =>
  L1 (r14.1, s2.2.1, s6.1, s2.2.2.2.1, s2.2.2.2.2.1, ())) (
  Cl Try.prog 79 [(.slice p_data.p p_data.len p_data.cap), (.int .i64 s2.1), (.int .i64 s2.2.1), (.int .i64 s9.1)] true [.sc (.i .i64), .sc .b] fun r15 =>
  Req (8 ≠ (0 : Int)) <|
  Br (decide (((w64 (r15.1 - s2.1)) : Int) < (w64 (s2.2.1 - r15.1)))) (
  Cl Try.prog 68 [(.slice p_data.p p_data.len p_data.cap), (.int .i64 s2.1), (.int .i64 r15.1), (.int .i64 s6.1)] true [] fun r16 =>
  L1 ((w64 (r15.1 + 1)), s2.2.1, s6.1, (decide (((w64 (r15.1 - s2.1)) : Int) ≥ (w64 ((w64 (s2.2.1 - s2.1)).tdiv 8)))), r15.2.1, ())) (
  Cl Try.prog 68 [(.slice p_data.p p_data.len p_data.cap), (.int .i64 (w64 (r15.1 + 1))), (.int .i64 s2.2.1), (.int .i64 s6.1)] true [] fun r17 =>
  L1 (s2.1, r15.1, s6.1, (decide (((w64 (s2.2.1 - r15.1)) : Int) ≥ (w64 ((w64 (s2.2.1 - s2.1)).tdiv 8)))), r15.2.1, ())))) fun J12 =>
  Dr <|
  Br (decide ((s2.1 : Int) > 0)) (
  Ix p_data (w64 (s2.1 - 1)) 1 fun a18 =>
  LdI .u64 a18 fun x19 =>
  Ix p_data s9.1 1 fun a20 =>
  LdI .u64 a20 fun x21 =>
  Cl Try.prog 77 [(.int .u64 x19), (.int .u64 x21)] false [.sc .b] fun r22 =>
  J12 ((!r22.1), ())) (
  J12 (false, ()))) fun J10 =>
  Jp (σ := Bool × Unit) (fun s24 =>
  Br s24.1 (
  Cl Try.prog 76 [(.slice p_data.p p_data.len p_data.cap), (.int .i64 s2.1), (.int .i64 s2.2.1)] false [.sc .b] fun r25 =>
  Br r25.1 (
  R ()) (
  J10 ())) (
  J10 ())) fun J23 =>
  Br s2.2.2.2.1 (
  Br s2.2.2.2.2.1 (
  J23 (((s9.2.1 : Int) == 1), ())) (
  J23 (false, ()))) (
  J23 (false, ()))) fun J8 =>
  Br ((r7.2.1 : Int) == 2) (
  Cl Try.prog 75 [(.slice p_data.p p_data.len p_data.cap), (.int .i64 s2.1), (.int .i64 s2.2.1)] true [] fun r26 =>
  J8 ((w64 ((w64 (s2.2.1 - 1)) - (w64 (r7.1 - s2.1)))), 1, ())) (
  J8 (r7.1, r7.2.1, ()))) fun J5 =>
  Br (!s2.2.2.2.1) (
  Cl Try.prog 73 [(.slice p_data.p p_data.len p_data.cap), (.int .i64 s2.1), (.int .i64 s2.2.1)] true [] fun r27 =>
  J5 ((w64 (s2.2.2.1 - 1)), ())) (
  J5 (s2.2.2.1, ()))))) (p_a, p_b, p_limit, true, true, ())
def slices_pdqsortOrdered_ann : Ann := .seq .leaf (.seq .leaf (.block (.loop [(1, .sc (.i .i64)), (2, .sc (.i .i64)), (3, .sc (.i .i64)), (8, .sc .b), (9, .sc .b)] (.block (.seq .leaf (.seq (.seq .leaf (.cond (.seq .leaf .leaf) .leaf)) (.seq (.seq .leaf (.cond (.seq .leaf .leaf) .leaf)) (.seq (.join [(3, .sc (.i .i64))] (.seq .leaf (.cond (.seq .leaf .leaf) .leaf))) (.seq .leaf (.seq (.join [(11, .sc (.i .i64)), (12, .sc (.i .i64))] (.seq .leaf (.cond (.seq .leaf (.seq .leaf .leaf)) .leaf))) (.seq (.join [] (.seq (.join [(68, .sc .b)] .leaf) (.cond (.seq .leaf (.cond .leaf .leaf)) .leaf))) (.seq (.seq (.join [(87, .sc .b)] .leaf) (.cond (.seq .leaf (.seq .leaf .leaf)) .leaf)) (.seq .leaf (.seq .leaf (.seq .leaf (.seq .leaf (.seq .leaf (.cond (.seq .leaf (.seq .leaf .leaf)) (.seq .leaf (.seq .leaf .leaf))))))))))))))))))))
set_option maxRecDepth 100000 in
theorem slices_pdqsortOrdered_den (p_data : Sl) (p_a : Int) (p_b : Int) (p_limit : Int) (R : TR [] → Pr) : den Try.prog slices_pdqsortOrdered_ann (Try.f68.body.getD .skip) (retQ Try.prog Try.f68.results.toList true [] R) [] (env0 134 [(.slice p_data.p p_data.len p_data.cap), (.int .i64 p_a), (.int .i64 p_b), (.int .i64 p_limit)]) = slices_pdqsortOrdered p_data p_a p_b p_limit R := by
  kernel_rfl
set_option maxRecDepth 100000 in
theorem slices_pdqsortOrdered_call (p_data : Sl) (p_a : Int) (p_b : Int) (p_limit : Int) {R : TR [] → Pr} {w : World} (h : slices_pdqsortOrdered p_data p_a p_b p_limit R w) : Cl Try.prog 68 [(.slice p_data.p p_data.len p_data.cap), (.int .i64 p_a), (.int .i64 p_b), (.int .i64 p_limit)] true [] R w :=
  call_of (P := Try.prog) (tup := true) (rs := []) Try.checked.mixed slices_pdqsortOrdered_ann (by kernel_rfl) Try.func68 (by kernel_rfl) Try.ntmps68 (by show Nat.beq Try.f68.results.size 1 = false; kernel_rfl) (by rw [← slices_pdqsortOrdered_den] at h; exact h)

/-- math/bits.Len -/
abbrev i_math_bits_Len : FuncId := 69
def math_bits_Len (p_x : Int) (R : TR [.sc (.i .i64)] → Pr) : Pr :=
  Cl Try.prog 81 [(.int .u64 p_x)] false [.sc (.i .i64)] fun r1 =>
  R (r1.1, ())
def math_bits_Len_ann : Ann := .seq .leaf (.seq (.cond .leaf .leaf) (.seq .leaf .leaf))
set_option maxRecDepth 100000 in
theorem math_bits_Len_den (p_x : Int) (R : TR [.sc (.i .i64)] → Pr) : den Try.prog math_bits_Len_ann (Try.f69.body.getD .skip) (retQ Try.prog Try.f69.results.toList false [.sc (.i .i64)] R) [] (env0 8 [(.int .u64 p_x)]) = math_bits_Len p_x R := by
  kernel_rfl
set_option maxRecDepth 100000 in
theorem math_bits_Len_call (p_x : Int) {R : TR [.sc (.i .i64)] → Pr} {w : World} (h : math_bits_Len p_x R w) : Cl Try.prog 69 [(.int .u64 p_x)] false [.sc (.i .i64)] R w :=
  call_of (P := Try.prog) (tup := false) (rs := [.sc (.i .i64)]) Try.checked.mixed math_bits_Len_ann (by kernel_rfl) Try.func69 (by kernel_rfl) Try.ntmps69 (by show Try.f69.results.size = 1; kernel_rfl) (by rw [← math_bits_Len_den] at h; exact h)

/-- slices.Reverse[[]sumpter/locks.Ask,sumpter/locks.Ask] -/
abbrev i_slices_Reverse : FuncId := 70
def slices_Reverse (p_s : Sl) (R : TR [] → Pr) : Pr :=
  Lp (σ := Int × Int × Unit) (fun L1 s2 =>
  Br (decide ((s2.1 : Int) < s2.2.1)) (
  Dr <|
  Ix p_s s2.2.1 4 fun a3 =>
  LdI .u64 (a3.add 0) fun x4 =>
  LdS (a3.add 1) fun x5 =>
  LdS (a3.add 2) fun x6 =>
  LdB (a3.add 3) fun x7 =>
  Ix p_s s2.1 4 fun a8 =>
  LdI .u64 (a8.add 0) fun x9 =>
  LdS (a8.add 1) fun x10 =>
  LdS (a8.add 2) fun x11 =>
  LdB (a8.add 3) fun x12 =>
  Ix p_s s2.1 4 fun a13 =>
  St (a13.add 0) (.int .u64 x4) <|
  St (a13.add 1) (.string x5) <|
  St (a13.add 2) (.string x6) <|
  St (a13.add 3) (.bool x7) <|
  Ix p_s s2.2.1 4 fun a14 =>
  St (a14.add 0) (.int .u64 x9) <|
  St (a14.add 1) (.string x10) <|
  St (a14.add 2) (.string x11) <|
  St (a14.add 3) (.bool x12) <|
  L1 ((w64 (s2.1 + 1)), (w64 (s2.2.1 - 1)), ())) (
  R ())) (0, (w64 (((p_s.len : Nat) : Int) - 1)), ())
def slices_Reverse_ann : Ann := .seq .leaf (.block (.loop [(2, .sc (.i .i64)), (3, .sc (.i .i64))] (.seq (.seq .leaf (.cond .leaf .leaf)) (.seq (.block .leaf) .leaf))))
set_option maxRecDepth 100000 in
theorem slices_Reverse_den (p_s : Sl) (R : TR [] → Pr) : den Try.prog slices_Reverse_ann (Try.f70.body.getD .skip) (retQ Try.prog Try.f70.results.toList true [] R) [] (env0 28 [(.slice p_s.p p_s.len p_s.cap)]) = slices_Reverse p_s R := by
  kernel_rfl
set_option maxRecDepth 100000 in
theorem slices_Reverse_call (p_s : Sl) {R : TR [] → Pr} {w : World} (h : slices_Reverse p_s R w) : Cl Try.prog 70 [(.slice p_s.p p_s.len p_s.cap)] true [] R w :=
  call_of (P := Try.prog) (tup := true) (rs := []) Try.checked.mixed slices_Reverse_ann (by kernel_rfl) Try.func70 (by kernel_rfl) Try.ntmps70 (by show Nat.beq Try.f70.results.size 1 = false; kernel_rfl) (by rw [← slices_Reverse_den] at h; exact h)

/-- slices.insertionSortOrdered[uint64] -/
abbrev i_slices_insertionSortOrdered : FuncId := 71
def slices_insertionSortOrdered (p_data : Sl) (p_a : Int) (p_b : Int) (R : TR [] → Pr) : Pr :=
  Lp (σ := Int × Unit) (fun L1 s2 =>
  Br (decide ((s2.1 : Int) < p_b)) (
  Lp (σ := Int × Unit) (fun L3 s4 =>
  Jp (σ := Bool × Unit) (fun s6 =>
  Br s6.1 (
  Dr <|
  Ix p_data (w64 (s4.1 - 1)) 1 fun a7 =>
  LdI .u64 a7 fun x8 =>
  Ix p_data s4.1 1 fun a9 =>
  LdI .u64 a9 fun x10 =>
  Ix p_data s4.1 1 fun a11 =>
  St a11 (.int .u64 x8) <|
  Ix p_data (w64 (s4.1 - 1)) 1 fun a12 =>
  St a12 (.int .u64 x10) <|
  L3 ((w64 (s4.1 - 1)), ())) (
  L1 ((w64 (s2.1 + 1)), ()))) fun J5 =>
  Dr <|
  Br (decide ((s4.1 : Int) > p_a)) (
  Ix p_data s4.1 1 fun a13 =>
  LdI .u64 a13 fun x14 =>
  Ix p_data (w64 (s4.1 - 1)) 1 fun a15 =>
  LdI .u64 a15 fun x16 =>
  Cl Try.prog 77 [(.int .u64 x14), (.int .u64 x16)] false [.sc .b] fun r17 =>
  J5 (r17.1, ())) (
  J5 (false, ()))) (s2.1, ())) (
  R ())) ((w64 (p_a + 1)), ())
def slices_insertionSortOrdered_ann : Ann := .seq .leaf (.block (.loop [(6, .sc (.i .i64))] (.seq (.seq .leaf (.cond .leaf .leaf)) (.seq (.block (.seq .leaf (.block (.loop [(7, .sc (.i .i64))] (.seq (.seq (.join [(30, .sc .b)] .leaf) (.cond .leaf .leaf)) (.seq (.block .leaf) .leaf)))))) .leaf))))
set_option maxRecDepth 100000 in
theorem slices_insertionSortOrdered_den (p_data : Sl) (p_a : Int) (p_b : Int) (R : TR [] → Pr) : den Try.prog slices_insertionSortOrdered_ann (Try.f71.body.getD .skip) (retQ Try.prog Try.f71.results.toList true [] R) [] (env0 49 [(.slice p_data.p p_data.len p_data.cap), (.int .i64 p_a), (.int .i64 p_b)]) = slices_insertionSortOrdered p_data p_a p_b R := by
  kernel_rfl
set_option maxRecDepth 100000 in
theorem slices_insertionSortOrdered_call (p_data : Sl) (p_a : Int) (p_b : Int) {R : TR [] → Pr} {w : World} (h : slices_insertionSortOrdered p_data p_a p_b R w) : Cl Try.prog 71 [(.slice p_data.p p_data.len p_data.cap), (.int .i64 p_a), (.int .i64 p_b)] true [] R w :=
  call_of (P := Try.prog) (tup := true) (rs := []) Try.checked.mixed slices_insertionSortOrdered_ann (by kernel_rfl) Try.func71 (by kernel_rfl) Try.ntmps71 (by show Nat.beq Try.f71.results.size 1 = false; kernel_rfl) (by rw [← slices_insertionSortOrdered_den] at h; exact h)

/-- slices.heapSortOrdered[uint64] -/
abbrev i_slices_heapSortOrdered : FuncId := 72
def slices_heapSortOrdered (p_data : Sl) (p_a : Int) (p_b : Int) (R : TR [] → Pr) : Pr :=
  Req (2 ≠ (0 : Int)) <|
  Lp (σ := Int × Unit) (fun L1 s2 =>
  Br (decide ((s2.1 : Int) ≥ 0)) (
  Cl Try.prog 82 [(.slice p_data.p p_data.len p_data.cap), (.int .i64 s2.1), (.int .i64 (w64 (p_b - p_a))), (.int .i64 p_a)] true [] fun r3 =>
  L1 ((w64 (s2.1 - 1)), ())) (
  Lp (σ := Int × Unit) (fun L4 s5 =>
  Br (decide ((s5.1 : Int) ≥ 0)) (
  Dr <|
  Ix p_data (w64 (p_a + s5.1)) 1 fun a6 =>
  LdI .u64 a6 fun x7 =>
  Ix p_data p_a 1 fun a8 =>
  LdI .u64 a8 fun x9 =>
  Ix p_data p_a 1 fun a10 =>
  St a10 (.int .u64 x7) <|
  Ix p_data (w64 (p_a + s5.1)) 1 fun a11 =>
  St a11 (.int .u64 x9) <|
  Cl Try.prog 82 [(.slice p_data.p p_data.len p_data.cap), (.int .i64 0), (.int .i64 s5.1), (.int .i64 p_a)] true [] fun r12 =>
  L4 ((w64 (s5.1 - 1)), ())) (
  R ())) ((w64 ((w64 (p_b - p_a)) - 1)), ()))) ((w64 ((w64 ((w64 (p_b - p_a)) - 1)).tdiv 2)), ())
def slices_heapSortOrdered_ann : Ann := .seq .leaf (.seq .leaf (.seq .leaf (.seq (.seq .leaf (.block (.loop [(9, .sc (.i .i64))] (.seq (.seq .leaf (.cond .leaf .leaf)) (.seq (.block .leaf) .leaf))))) (.seq .leaf (.block (.loop [(10, .sc (.i .i64))] (.seq (.seq .leaf (.cond .leaf .leaf)) (.seq (.block (.seq .leaf .leaf)) .leaf))))))))
set_option maxRecDepth 100000 in
theorem slices_heapSortOrdered_den (p_data : Sl) (p_a : Int) (p_b : Int) (R : TR [] → Pr) : den Try.prog slices_heapSortOrdered_ann (Try.f72.body.getD .skip) (retQ Try.prog Try.f72.results.toList true [] R) [] (env0 56 [(.slice p_data.p p_data.len p_data.cap), (.int .i64 p_a), (.int .i64 p_b)]) = slices_heapSortOrdered p_data p_a p_b R := by
  kernel_rfl
set_option maxRecDepth 100000 in
theorem slices_heapSortOrdered_call (p_data : Sl) (p_a : Int) (p_b : Int) {R : TR [] → Pr} {w : World} (h : slices_heapSortOrdered p_data p_a p_b R w) : Cl Try.prog 72 [(.slice p_data.p p_data.len p_data.cap), (.int .i64 p_a), (.int .i64 p_b)] true [] R w :=
  call_of (P := Try.prog) (tup := true) (rs := []) Try.checked.mixed slices_heapSortOrdered_ann (by kernel_rfl) Try.func72 (by kernel_rfl) Try.ntmps72 (by show Nat.beq Try.f72.results.size 1 = false; kernel_rfl) (by rw [← slices_heapSortOrdered_den] at h; exact h)

/-- slices.breakPatternsOrdered[uint64] -/
abbrev i_slices_breakPatternsOrdered : FuncId := 73
def slices_breakPatternsOrdered (p_data : Sl) (p_a : Int) (p_b : Int) (R : TR [] → Pr) : Pr :=
  Br (decide (((w64 (p_b - p_a)) : Int) ≥ 8)) (
  New #[(.int .u64 0)] 114 fun a1 =>
  St a1 (.int .u64 (IntKind.u64.wrap ((w64 (p_b - p_a))))) <|
  Cl Try.prog 83 [(.int .i64 (w64 (p_b - p_a)))] false [.sc (.i .u64)] fun r2 =>
  Req (4 ≠ (0 : Int)) <|
  Lp (σ := Int × Unit) (fun L3 s4 =>
  Req (4 ≠ (0 : Int)) <|
  Br (decide ((s4.1 : Int) ≤ (w64 ((w64 (p_a + (w64 ((w64 ((w64 (p_b - p_a)).tdiv 4)) * 2)))) + 1)))) (
  Cl Try.prog 84 [(.pointer (some a1))] false [.sc (.i .u64)] fun r5 =>
  Jp (σ := Int × Unit) (fun s7 =>
  Dr <|
  Ix p_data (w64 (p_a + s7.1)) 1 fun a8 =>
  LdI .u64 a8 fun x9 =>
  Ix p_data s4.1 1 fun a10 =>
  LdI .u64 a10 fun x11 =>
  Ix p_data s4.1 1 fun a12 =>
  St a12 (.int .u64 x9) <|
  Ix p_data (w64 (p_a + s7.1)) 1 fun a13 =>
  St a13 (.int .u64 x11) <|
  L3 ((w64 (s4.1 + 1)), ())) fun J6 =>
  Br (decide (((w64 ((iand .u64 r5.1 (IntKind.u64.wrap (r2.1 - 1))))) : Int) ≥ (w64 (p_b - p_a)))) (
  J6 ((w64 ((w64 ((iand .u64 r5.1 (IntKind.u64.wrap (r2.1 - 1))))) - (w64 (p_b - p_a)))), ())) (
  J6 ((w64 ((iand .u64 r5.1 (IntKind.u64.wrap (r2.1 - 1))))), ()))) (
  R ())) ((w64 ((w64 (p_a + (w64 ((w64 ((w64 (p_b - p_a)).tdiv 4)) * 2)))) - 1)), ())) (
  R ())
def slices_breakPatternsOrdered_ann : Ann := .seq .leaf (.seq .leaf (.cond (.seq .leaf (.seq .leaf (.seq .leaf (.block (.loop [(9, .sc (.i .i64))] (.seq (.seq .leaf (.cond .leaf .leaf)) (.seq (.block (.seq .leaf (.seq (.join [(10, .sc (.i .i64))] (.seq .leaf (.cond .leaf .leaf))) .leaf))) .leaf))))))) .leaf))
set_option maxRecDepth 100000 in
theorem slices_breakPatternsOrdered_den (p_data : Sl) (p_a : Int) (p_b : Int) (R : TR [] → Pr) : den Try.prog slices_breakPatternsOrdered_ann (Try.f73.body.getD .skip) (retQ Try.prog Try.f73.results.toList true [] R) [] (env0 65 [(.slice p_data.p p_data.len p_data.cap), (.int .i64 p_a), (.int .i64 p_b)]) = slices_breakPatternsOrdered p_data p_a p_b R := by
  kernel_rfl
set_option maxRecDepth 100000 in
theorem slices_breakPatternsOrdered_call (p_data : Sl) (p_a : Int) (p_b : Int) {R : TR [] → Pr} {w : World} (h : slices_breakPatternsOrdered p_data p_a p_b R w) : Cl Try.prog 73 [(.slice p_data.p p_data.len p_data.cap), (.int .i64 p_a), (.int .i64 p_b)] true [] R w :=
  call_of (P := Try.prog) (tup := true) (rs := []) Try.checked.mixed slices_breakPatternsOrdered_ann (by kernel_rfl) Try.func73 (by kernel_rfl) Try.ntmps73 (by show Nat.beq Try.f73.results.size 1 = false; kernel_rfl) (by rw [← slices_breakPatternsOrdered_den] at h; exact h)

/-- slices.choosePivotOrdered[uint64] -/
abbrev i_slices_choosePivotOrdered : FuncId := 74
def slices_choosePivotOrdered (p_data : Sl) (p_a : Int) (p_b : Int) (R : TR [.sc (.i .i64), .sc (.i .i64)] → Pr) : Pr :=
  New #[(.int .i64 0)] 3 fun a1 =>
  Req (4 ≠ (0 : Int)) <|
  Req (4 ≠ (0 : Int)) <|
  Req (4 ≠ (0 : Int)) <|
  Jp (σ := Int × Unit) (fun s3 =>
  LdI .i64 a1 fun x4 =>
  Br ((x4 : Int) == 0) (
  R (s3.1, 1, ())) (
  Br ((x4 : Int) == 12) (
  R (s3.1, 2, ())) (
  R (s3.1, 0, ())))) fun J2 =>
  Br (decide (((w64 (p_b - p_a)) : Int) ≥ 8)) (
  Jp (σ := Int × Int × Int × Unit) (fun s6 =>
  Cl Try.prog 86 [(.slice p_data.p p_data.len p_data.cap), (.int .i64 s6.1), (.int .i64 s6.2.1), (.int .i64 s6.2.2.1), (.pointer (some a1))] false [.sc (.i .i64)] fun r7 =>
  J2 (r7.1, ())) fun J5 =>
  Br (decide (((w64 (p_b - p_a)) : Int) ≥ 50)) (
  Cl Try.prog 85 [(.slice p_data.p p_data.len p_data.cap), (.int .i64 (w64 (p_a + (w64 ((w64 ((w64 (p_b - p_a)).tdiv 4)) * 1))))), (.pointer (some a1))] false [.sc (.i .i64)] fun r8 =>
  Cl Try.prog 85 [(.slice p_data.p p_data.len p_data.cap), (.int .i64 (w64 (p_a + (w64 ((w64 ((w64 (p_b - p_a)).tdiv 4)) * 2))))), (.pointer (some a1))] false [.sc (.i .i64)] fun r9 =>
  Cl Try.prog 85 [(.slice p_data.p p_data.len p_data.cap), (.int .i64 (w64 (p_a + (w64 ((w64 ((w64 (p_b - p_a)).tdiv 4)) * 3))))), (.pointer (some a1))] false [.sc (.i .i64)] fun r10 =>
  J5 (r8.1, r9.1, r10.1, ())) (
  J5 ((w64 (p_a + (w64 ((w64 ((w64 (p_b - p_a)).tdiv 4)) * 1)))), (w64 (p_a + (w64 ((w64 ((w64 (p_b - p_a)).tdiv 4)) * 2)))), (w64 (p_a + (w64 ((w64 ((w64 (p_b - p_a)).tdiv 4)) * 3)))), ()))) (
  J2 ((w64 (p_a + (w64 ((w64 ((w64 (p_b - p_a)).tdiv 4)) * 2)))), ()))
def slices_choosePivotOrdered_ann : Ann := .seq .leaf (.seq .leaf (.seq .leaf (.seq .leaf (.seq .leaf (.seq .leaf (.seq (.join [(11, .sc (.i .i64))] (.seq .leaf (.cond (.seq (.join [(10, .sc (.i .i64)), (11, .sc (.i .i64)), (12, .sc (.i .i64))] (.seq .leaf (.cond (.seq .leaf (.seq .leaf .leaf)) .leaf))) .leaf) .leaf))) (.seq .leaf (.block (.seq .leaf (.cond (.seq .leaf .leaf) (.seq .leaf (.cond (.seq .leaf .leaf) (.seq .leaf .leaf)))))))))))))
set_option maxRecDepth 100000 in
theorem slices_choosePivotOrdered_den (p_data : Sl) (p_a : Int) (p_b : Int) (R : TR [.sc (.i .i64), .sc (.i .i64)] → Pr) : den Try.prog slices_choosePivotOrdered_ann (Try.f74.body.getD .skip) (retQ Try.prog Try.f74.results.toList true [.sc (.i .i64), .sc (.i .i64)] R) [] (env0 57 [(.slice p_data.p p_data.len p_data.cap), (.int .i64 p_a), (.int .i64 p_b)]) = slices_choosePivotOrdered p_data p_a p_b R := by
  kernel_rfl
set_option maxRecDepth 100000 in
theorem slices_choosePivotOrdered_call (p_data : Sl) (p_a : Int) (p_b : Int) {R : TR [.sc (.i .i64), .sc (.i .i64)] → Pr} {w : World} (h : slices_choosePivotOrdered p_data p_a p_b R w) : Cl Try.prog 74 [(.slice p_data.p p_data.len p_data.cap), (.int .i64 p_a), (.int .i64 p_b)] true [.sc (.i .i64), .sc (.i .i64)] R w :=
  call_of (P := Try.prog) (tup := true) (rs := [.sc (.i .i64), .sc (.i .i64)]) Try.checked.mixed slices_choosePivotOrdered_ann (by kernel_rfl) Try.func74 (by kernel_rfl) Try.ntmps74 (by show Nat.beq Try.f74.results.size 1 = false; kernel_rfl) (by rw [← slices_choosePivotOrdered_den] at h; exact h)

/-- slices.reverseRangeOrdered[uint64] -/
abbrev i_slices_reverseRangeOrdered : FuncId := 75
def slices_reverseRangeOrdered (p_data : Sl) (p_a : Int) (p_b : Int) (R : TR [] → Pr) : Pr :=
  Lp (σ := Int × Int × Unit) (fun L1 s2 =>
  Br (decide ((s2.1 : Int) < s2.2.1)) (
  Dr <|
  Ix p_data s2.2.1 1 fun a3 =>
  LdI .u64 a3 fun x4 =>
  Ix p_data s2.1 1 fun a5 =>
  LdI .u64 a5 fun x6 =>
  Ix p_data s2.1 1 fun a7 =>
  St a7 (.int .u64 x4) <|
  Ix p_data s2.2.1 1 fun a8 =>
  St a8 (.int .u64 x6) <|
  L1 ((w64 (s2.1 + 1)), (w64 (s2.2.1 - 1)), ())) (
  R ())) (p_a, (w64 (p_b - 1)), ())
def slices_reverseRangeOrdered_ann : Ann := .seq .leaf (.seq .leaf (.block (.loop [(6, .sc (.i .i64)), (7, .sc (.i .i64))] (.seq (.seq .leaf (.cond .leaf .leaf)) (.block (.seq .leaf (.seq .leaf .leaf)))))))
set_option maxRecDepth 100000 in
theorem slices_reverseRangeOrdered_den (p_data : Sl) (p_a : Int) (p_b : Int) (R : TR [] → Pr) : den Try.prog slices_reverseRangeOrdered_ann (Try.f75.body.getD .skip) (retQ Try.prog Try.f75.results.toList true [] R) [] (env0 32 [(.slice p_data.p p_data.len p_data.cap), (.int .i64 p_a), (.int .i64 p_b)]) = slices_reverseRangeOrdered p_data p_a p_b R := by
  kernel_rfl
set_option maxRecDepth 100000 in
theorem slices_reverseRangeOrdered_call (p_data : Sl) (p_a : Int) (p_b : Int) {R : TR [] → Pr} {w : World} (h : slices_reverseRangeOrdered p_data p_a p_b R w) : Cl Try.prog 75 [(.slice p_data.p p_data.len p_data.cap), (.int .i64 p_a), (.int .i64 p_b)] true [] R w :=
  call_of (P := Try.prog) (tup := true) (rs := []) Try.checked.mixed slices_reverseRangeOrdered_ann (by kernel_rfl) Try.func75 (by kernel_rfl) Try.ntmps75 (by show Nat.beq Try.f75.results.size 1 = false; kernel_rfl) (by rw [← slices_reverseRangeOrdered_den] at h; exact h)

/-- slices.partialInsertionSortOrdered[uint64] -/
abbrev i_slices_partialInsertionSortOrdered : FuncId := 76
def slices_partialInsertionSortOrdered (p_data : Sl) (p_a : Int) (p_b : Int) (R : TR [.sc .b] → Pr) : Pr :=
  Lp (σ := Bool × Int × Int × Unit) (fun L1 s2 =>
  Br (decide ((s2.2.2.1 : Int) < 5)) (
  Jp (σ := Bool × Int × Unit) (fun s4 =>
  L1 (s4.1, s4.2.1, (w64 (s2.2.2.1 + 1)), ())) fun J3 =>
  Lp (σ := Int × Unit) (fun L5 s6 =>
  Jp (σ := Bool × Unit) (fun s8 =>
  Br s8.1 (
  L5 ((w64 (s6.1 + 1)), ())) (
  Br ((s6.1 : Int) == p_b) (
  R (true, ())) (
  Br (decide (((w64 (p_b - p_a)) : Int) < 50)) (
  R (false, ())) (
  Dr <|
  Ix p_data (w64 (s6.1 - 1)) 1 fun a9 =>
  LdI .u64 a9 fun x10 =>
  Ix p_data s6.1 1 fun a11 =>
  LdI .u64 a11 fun x12 =>
  Ix p_data s6.1 1 fun a13 =>
  St a13 (.int .u64 x10) <|
  Ix p_data (w64 (s6.1 - 1)) 1 fun a14 =>
  St a14 (.int .u64 x12) <|
  Jp (σ := Unit) (fun s16 =>
  Br (decide (((w64 (p_b - s6.1)) : Int) ≥ 2)) (
  Lp (σ := Int × Unit) (fun L17 s18 =>
  Br (decide ((s18.1 : Int) < p_b)) (
  Dr <|
  Ix p_data s18.1 1 fun a19 =>
  LdI .u64 a19 fun x20 =>
  Ix p_data (w64 (s18.1 - 1)) 1 fun a21 =>
  LdI .u64 a21 fun x22 =>
  Cl Try.prog 77 [(.int .u64 x20), (.int .u64 x22)] false [.sc .b] fun r23 =>
  Br (!r23.1) (
  J3 (s2.1, s6.1, ())) (
  Dr <|
  Ix p_data (w64 (s18.1 - 1)) 1 fun a24 =>
  LdI .u64 a24 fun x25 =>
  Ix p_data s18.1 1 fun a26 =>
  LdI .u64 a26 fun x27 =>
  Ix p_data s18.1 1 fun a28 =>
  St a28 (.int .u64 x25) <|
  Ix p_data (w64 (s18.1 - 1)) 1 fun a29 =>
  St a29 (.int .u64 x27) <|
  L17 ((w64 (s18.1 + 1)), ()))) (
  J3 (s2.1, s6.1, ()))) ((w64 (s6.1 + 1)), ())) (
  J3 (s2.1, s6.1, ()))) fun J15 =>
  Br (decide (((w64 (s6.1 - p_a)) : Int) ≥ 2)) (
  Lp (σ := Int × Unit) (fun L30 s31 =>
  Br (decide ((s31.1 : Int) ≥ 1)) (
  Dr <|
  Ix p_data s31.1 1 fun a32 =>
  LdI .u64 a32 fun x33 =>
  Ix p_data (w64 (s31.1 - 1)) 1 fun a34 =>
  LdI .u64 a34 fun x35 =>
  Cl Try.prog 77 [(.int .u64 x33), (.int .u64 x35)] false [.sc .b] fun r36 =>
  Br (!r36.1) (
  J15 ()) (
  Dr <|
  Ix p_data (w64 (s31.1 - 1)) 1 fun a37 =>
  LdI .u64 a37 fun x38 =>
  Ix p_data s31.1 1 fun a39 =>
  LdI .u64 a39 fun x40 =>
  Ix p_data s31.1 1 fun a41 =>
  St a41 (.int .u64 x38) <|
  Ix p_data (w64 (s31.1 - 1)) 1 fun a42 =>
  St a42 (.int .u64 x40) <|
  L30 ((w64 (s31.1 - 1)), ()))) (
  J15 ())) ((w64 (s6.1 - 1)), ())) (
  J15 ()))))) fun J7 =>
  Dr <|
  Br (decide ((s6.1 : Int) < p_b)) (
  Ix p_data s6.1 1 fun a43 =>
  LdI .u64 a43 fun x44 =>
  Ix p_data (w64 (s6.1 - 1)) 1 fun a45 =>
  LdI .u64 a45 fun x46 =>
  Cl Try.prog 77 [(.int .u64 x44), (.int .u64 x46)] false [.sc .b] fun r47 =>
  J7 ((!r47.1), ())) (
  J7 (false, ()))) (s2.2.1, ())) (
  R (false, ()))) (false, (w64 (p_a + 1)), 0, ())
def slices_partialInsertionSortOrdered_ann : Ann := .seq .leaf (.seq .leaf (.seq (.seq .leaf (.block (.loop [(6, .sc .b), (7, .sc (.i .i64)), (8, .sc (.i .i64))] (.seq (.seq .leaf (.cond .leaf .leaf)) (.seq (.join [(6, .sc .b), (7, .sc (.i .i64))] (.block (.seq (.block (.loop [(7, .sc (.i .i64))] (.seq (.seq (.join [(32, .sc .b)] .leaf) (.cond .leaf .leaf)) (.block .leaf)))) (.seq (.seq .leaf (.cond (.seq .leaf .leaf) .leaf)) (.seq (.seq .leaf (.cond (.seq .leaf .leaf) .leaf)) (.seq .leaf (.seq (.join [] (.seq .leaf (.cond (.seq .leaf (.block (.loop [(9, .sc (.i .i64))] (.seq (.seq .leaf (.cond .leaf .leaf)) (.seq (.block (.seq (.seq .leaf (.cond .leaf .leaf)) .leaf)) .leaf))))) .leaf))) (.seq .leaf (.cond (.seq .leaf (.block (.loop [(10, .sc (.i .i64))] (.seq (.seq .leaf (.cond .leaf .leaf)) (.seq (.block (.seq (.seq .leaf (.cond .leaf .leaf)) .leaf)) .leaf))))) .leaf))))))))) .leaf))))) (.seq .leaf .leaf)))
set_option maxRecDepth 100000 in
theorem slices_partialInsertionSortOrdered_den (p_data : Sl) (p_a : Int) (p_b : Int) (R : TR [.sc .b] → Pr) : den Try.prog slices_partialInsertionSortOrdered_ann (Try.f76.body.getD .skip) (retQ Try.prog Try.f76.results.toList false [.sc .b] R) [] (env0 133 [(.slice p_data.p p_data.len p_data.cap), (.int .i64 p_a), (.int .i64 p_b)]) = slices_partialInsertionSortOrdered p_data p_a p_b R := by
  kernel_rfl
set_option maxRecDepth 100000 in
theorem slices_partialInsertionSortOrdered_call (p_data : Sl) (p_a : Int) (p_b : Int) {R : TR [.sc .b] → Pr} {w : World} (h : slices_partialInsertionSortOrdered p_data p_a p_b R w) : Cl Try.prog 76 [(.slice p_data.p p_data.len p_data.cap), (.int .i64 p_a), (.int .i64 p_b)] false [.sc .b] R w :=
  call_of (P := Try.prog) (tup := false) (rs := [.sc .b]) Try.checked.mixed slices_partialInsertionSortOrdered_ann (by kernel_rfl) Try.func76 (by kernel_rfl) Try.ntmps76 (by show Try.f76.results.size = 1; kernel_rfl) (by rw [← slices_partialInsertionSortOrdered_den] at h; exact h)

/-- cmp.Less[uint64] -/
abbrev i_cmp_Less : FuncId := 77
def cmp_Less (p_x : Int) (p_y : Int) (R : TR [.sc .b] → Pr) : Pr :=
  Cl Try.prog 57 [(.int .u64 p_x)] false [.sc .b] fun r1 =>
  Br r1.1 (
  Cl Try.prog 57 [(.int .u64 p_y)] false [.sc .b] fun r2 =>
  Br (!r2.1) (
  R (true, ())) (
  R ((decide ((p_x : Int) < p_y)), ()))) (
  R ((decide ((p_x : Int) < p_y)), ()))
def cmp_Less_ann : Ann := .seq .leaf (.seq .leaf .leaf)
set_option maxRecDepth 100000 in
theorem cmp_Less_den (p_x : Int) (p_y : Int) (R : TR [.sc .b] → Pr) : den Try.prog cmp_Less_ann (Try.f77.body.getD .skip) (retQ Try.prog Try.f77.results.toList false [.sc .b] R) [] (env0 17 [(.int .u64 p_x), (.int .u64 p_y)]) = cmp_Less p_x p_y R := by
  kernel_rfl
set_option maxRecDepth 100000 in
theorem cmp_Less_call (p_x : Int) (p_y : Int) {R : TR [.sc .b] → Pr} {w : World} (h : cmp_Less p_x p_y R w) : Cl Try.prog 77 [(.int .u64 p_x), (.int .u64 p_y)] false [.sc .b] R w :=
  call_of (P := Try.prog) (tup := false) (rs := [.sc .b]) Try.checked.mixed cmp_Less_ann (by kernel_rfl) Try.func77 (by kernel_rfl) Try.ntmps77 (by show Try.f77.results.size = 1; kernel_rfl) (by rw [← cmp_Less_den] at h; exact h)

/-- slices.partitionEqualOrdered[uint64] -/
abbrev i_slices_partitionEqualOrdered : FuncId := 78
def slices_partitionEqualOrdered (p_data : Sl) (p_a : Int) (p_b : Int) (p_pivot : Int) (R : TR [.sc (.i .i64)] → Pr) : Pr :=
  Dr <|
  Ix p_data p_pivot 1 fun a1 =>
  LdI .u64 a1 fun x2 =>
  Ix p_data p_a 1 fun a3 =>
  LdI .u64 a3 fun x4 =>
  Ix p_data p_a 1 fun a5 =>
  St a5 (.int .u64 x2) <|
  Ix p_data p_pivot 1 fun a6 =>
  St a6 (.int .u64 x4) <|
  Lp (σ := Int × Int × Unit) (fun L7 s8 =>
  Lp (σ := Int × Unit) (fun L9 s10 =>
  Jp (σ := Bool × Unit) (fun s12 =>
  Br s12.1 (
  L9 ((w64 (s10.1 + 1)), ())) (
  Lp (σ := Int × Unit) (fun L13 s14 =>
  Jp (σ := Bool × Unit) (fun s16 =>
  Br s16.1 (
  L13 ((w64 (s14.1 - 1)), ())) (
  Br (decide ((s10.1 : Int) > s14.1)) (
  R (s10.1, ())) (
  Dr <|
  Ix p_data s14.1 1 fun a17 =>
  LdI .u64 a17 fun x18 =>
  Ix p_data s10.1 1 fun a19 =>
  LdI .u64 a19 fun x20 =>
  Ix p_data s10.1 1 fun a21 =>
  St a21 (.int .u64 x18) <|
  Ix p_data s14.1 1 fun a22 =>
  St a22 (.int .u64 x20) <|
  L7 ((w64 (s10.1 + 1)), (w64 (s14.1 - 1)), ())))) fun J15 =>
  Dr <|
  Br (decide ((s10.1 : Int) ≤ s14.1)) (
  Ix p_data p_a 1 fun a23 =>
  LdI .u64 a23 fun x24 =>
  Ix p_data s14.1 1 fun a25 =>
  LdI .u64 a25 fun x26 =>
  Cl Try.prog 77 [(.int .u64 x24), (.int .u64 x26)] false [.sc .b] fun r27 =>
  J15 (r27.1, ())) (
  J15 (false, ()))) (s8.2.1, ()))) fun J11 =>
  Dr <|
  Br (decide ((s10.1 : Int) ≤ s8.2.1)) (
  Ix p_data p_a 1 fun a28 =>
  LdI .u64 a28 fun x29 =>
  Ix p_data s10.1 1 fun a30 =>
  LdI .u64 a30 fun x31 =>
  Cl Try.prog 77 [(.int .u64 x29), (.int .u64 x31)] false [.sc .b] fun r32 =>
  J11 ((!r32.1), ())) (
  J11 (false, ()))) (s8.1, ())) ((w64 (p_a + 1)), (w64 (p_b - 1)), ())
def slices_partitionEqualOrdered_ann : Ann := .seq .leaf (.seq .leaf (.seq .leaf (.seq (.block (.loop [(9, .sc (.i .i64)), (10, .sc (.i .i64))] (.block (.seq (.block (.loop [(9, .sc (.i .i64))] (.seq (.seq (.join [(43, .sc .b)] .leaf) (.cond .leaf .leaf)) (.block .leaf)))) (.seq (.block (.loop [(10, .sc (.i .i64))] (.seq (.seq (.join [(59, .sc .b)] .leaf) (.cond .leaf .leaf)) (.block .leaf)))) (.seq (.seq .leaf (.cond .leaf .leaf)) (.seq .leaf (.seq .leaf .leaf)))))))) (.seq .leaf .leaf))))
set_option maxRecDepth 100000 in
theorem slices_partitionEqualOrdered_den (p_data : Sl) (p_a : Int) (p_b : Int) (p_pivot : Int) (R : TR [.sc (.i .i64)] → Pr) : den Try.prog slices_partitionEqualOrdered_ann (Try.f78.body.getD .skip) (retQ Try.prog Try.f78.results.toList false [.sc (.i .i64)] R) [] (env0 84 [(.slice p_data.p p_data.len p_data.cap), (.int .i64 p_a), (.int .i64 p_b), (.int .i64 p_pivot)]) = slices_partitionEqualOrdered p_data p_a p_b p_pivot R := by
  kernel_rfl
set_option maxRecDepth 100000 in
theorem slices_partitionEqualOrdered_call (p_data : Sl) (p_a : Int) (p_b : Int) (p_pivot : Int) {R : TR [.sc (.i .i64)] → Pr} {w : World} (h : slices_partitionEqualOrdered p_data p_a p_b p_pivot R w) : Cl Try.prog 78 [(.slice p_data.p p_data.len p_data.cap), (.int .i64 p_a), (.int .i64 p_b), (.int .i64 p_pivot)] false [.sc (.i .i64)] R w :=
  call_of (P := Try.prog) (tup := false) (rs := [.sc (.i .i64)]) Try.checked.mixed slices_partitionEqualOrdered_ann (by kernel_rfl) Try.func78 (by kernel_rfl) Try.ntmps78 (by show Try.f78.results.size = 1; kernel_rfl) (by rw [← slices_partitionEqualOrdered_den] at h; exact h)

/-- slices.partitionOrdered[uint64] -/
abbrev i_slices_partitionOrdered : FuncId := 79
def slices_partitionOrdered (p_data : Sl) (p_a : Int) (p_b : Int) (p_pivot : Int) (R : TR [.sc (.i .i64), .sc .b] → Pr) : Pr :=
  Dr <|
  Ix p_data p_pivot 1 fun a1 =>
  LdI .u64 a1 fun x2 =>
  Ix p_data p_a 1 fun a3 =>
  LdI .u64 a3 fun x4 =>
  Ix p_data p_a 1 fun a5 =>
  St a5 (.int .u64 x2) <|
  Ix p_data p_pivot 1 fun a6 =>
  St a6 (.int .u64 x4) <|
  Lp (σ := Int × Unit) (fun L7 s8 =>
  Jp (σ := Bool × Unit) (fun s10 =>
  Br s10.1 (
  L7 ((w64 (s8.1 + 1)), ())) (
  Lp (σ := Int × Unit) (fun L11 s12 =>
  Jp (σ := Bool × Unit) (fun s14 =>
  Br s14.1 (
  L11 ((w64 (s12.1 - 1)), ())) (
  Br (decide ((s8.1 : Int) > s12.1)) (
  Dr <|
  Ix p_data p_a 1 fun a15 =>
  LdI .u64 a15 fun x16 =>
  Ix p_data s12.1 1 fun a17 =>
  LdI .u64 a17 fun x18 =>
  Ix p_data s12.1 1 fun a19 =>
  St a19 (.int .u64 x16) <|
  Ix p_data p_a 1 fun a20 =>
  St a20 (.int .u64 x18) <|
  R (s12.1, true, ())) (
  Dr <|
  Ix p_data s12.1 1 fun a21 =>
  LdI .u64 a21 fun x22 =>
  Ix p_data s8.1 1 fun a23 =>
  LdI .u64 a23 fun x24 =>
  Ix p_data s8.1 1 fun a25 =>
  St a25 (.int .u64 x22) <|
  Ix p_data s12.1 1 fun a26 =>
  St a26 (.int .u64 x24) <|
  Lp (σ := Int × Int × Unit) (fun L27 s28 =>
  Lp (σ := Int × Unit) (fun L29 s30 =>
  Jp (σ := Bool × Unit) (fun s32 =>
  Br s32.1 (
  L29 ((w64 (s30.1 + 1)), ())) (
  Lp (σ := Int × Unit) (fun L33 s34 =>
  Jp (σ := Bool × Unit) (fun s36 =>
  Br s36.1 (
  L33 ((w64 (s34.1 - 1)), ())) (
  Br (decide ((s30.1 : Int) > s34.1)) (
  Dr <|
  Ix p_data p_a 1 fun a37 =>
  LdI .u64 a37 fun x38 =>
  Ix p_data s34.1 1 fun a39 =>
  LdI .u64 a39 fun x40 =>
  Ix p_data s34.1 1 fun a41 =>
  St a41 (.int .u64 x38) <|
  Ix p_data p_a 1 fun a42 =>
  St a42 (.int .u64 x40) <|
  R (s34.1, false, ())) (
  Dr <|
  Ix p_data s34.1 1 fun a43 =>
  LdI .u64 a43 fun x44 =>
  Ix p_data s30.1 1 fun a45 =>
  LdI .u64 a45 fun x46 =>
  Ix p_data s30.1 1 fun a47 =>
  St a47 (.int .u64 x44) <|
  Ix p_data s34.1 1 fun a48 =>
  St a48 (.int .u64 x46) <|
  L27 ((w64 (s30.1 + 1)), (w64 (s34.1 - 1)), ())))) fun J35 =>
  Dr <|
  Br (decide ((s30.1 : Int) ≤ s34.1)) (
  Ix p_data s34.1 1 fun a49 =>
  LdI .u64 a49 fun x50 =>
  Ix p_data p_a 1 fun a51 =>
  LdI .u64 a51 fun x52 =>
  Cl Try.prog 77 [(.int .u64 x50), (.int .u64 x52)] false [.sc .b] fun r53 =>
  J35 ((!r53.1), ())) (
  J35 (false, ()))) (s28.2.1, ()))) fun J31 =>
  Dr <|
  Br (decide ((s30.1 : Int) ≤ s28.2.1)) (
  Ix p_data s30.1 1 fun a54 =>
  LdI .u64 a54 fun x55 =>
  Ix p_data p_a 1 fun a56 =>
  LdI .u64 a56 fun x57 =>
  Cl Try.prog 77 [(.int .u64 x55), (.int .u64 x57)] false [.sc .b] fun r58 =>
  J31 (r58.1, ())) (
  J31 (false, ()))) (s28.1, ())) ((w64 (s8.1 + 1)), (w64 (s12.1 - 1)), ())))) fun J13 =>
  Dr <|
  Br (decide ((s8.1 : Int) ≤ s12.1)) (
  Ix p_data s12.1 1 fun a59 =>
  LdI .u64 a59 fun x60 =>
  Ix p_data p_a 1 fun a61 =>
  LdI .u64 a61 fun x62 =>
  Cl Try.prog 77 [(.int .u64 x60), (.int .u64 x62)] false [.sc .b] fun r63 =>
  J13 ((!r63.1), ())) (
  J13 (false, ()))) ((w64 (p_b - 1)), ()))) fun J9 =>
  Dr <|
  Br (decide ((s8.1 : Int) ≤ (w64 (p_b - 1)))) (
  Ix p_data s8.1 1 fun a64 =>
  LdI .u64 a64 fun x65 =>
  Ix p_data p_a 1 fun a66 =>
  LdI .u64 a66 fun x67 =>
  Cl Try.prog 77 [(.int .u64 x65), (.int .u64 x67)] false [.sc .b] fun r68 =>
  J9 (r68.1, ())) (
  J9 (false, ()))) ((w64 (p_a + 1)), ())
def slices_partitionOrdered_ann : Ann := .seq .leaf (.seq .leaf (.seq .leaf (.seq (.block (.loop [(10, .sc (.i .i64))] (.seq (.seq (.join [(43, .sc .b)] .leaf) (.cond .leaf .leaf)) (.block .leaf)))) (.seq (.block (.loop [(11, .sc (.i .i64))] (.seq (.seq (.join [(60, .sc .b)] .leaf) (.cond .leaf .leaf)) (.block .leaf)))) (.seq (.seq .leaf (.cond (.seq .leaf (.seq .leaf .leaf)) .leaf)) (.seq .leaf (.seq .leaf (.seq .leaf (.seq (.block (.loop [(10, .sc (.i .i64)), (11, .sc (.i .i64))] (.block (.seq (.block (.loop [(10, .sc (.i .i64))] (.seq (.seq (.join [(112, .sc .b)] .leaf) (.cond .leaf .leaf)) (.block .leaf)))) (.seq (.block (.loop [(11, .sc (.i .i64))] (.seq (.seq (.join [(129, .sc .b)] .leaf) (.cond .leaf .leaf)) (.block .leaf)))) (.seq (.seq .leaf (.cond .leaf .leaf)) (.seq .leaf (.seq .leaf .leaf)))))))) (.seq .leaf (.seq .leaf .leaf)))))))))))
set_option maxRecDepth 100000 in
theorem slices_partitionOrdered_den (p_data : Sl) (p_a : Int) (p_b : Int) (p_pivot : Int) (R : TR [.sc (.i .i64), .sc .b] → Pr) : den Try.prog slices_partitionOrdered_ann (Try.f79.body.getD .skip) (retQ Try.prog Try.f79.results.toList true [.sc (.i .i64), .sc .b] R) [] (env0 168 [(.slice p_data.p p_data.len p_data.cap), (.int .i64 p_a), (.int .i64 p_b), (.int .i64 p_pivot)]) = slices_partitionOrdered p_data p_a p_b p_pivot R := by
  kernel_rfl
set_option maxRecDepth 100000 in
theorem slices_partitionOrdered_call (p_data : Sl) (p_a : Int) (p_b : Int) (p_pivot : Int) {R : TR [.sc (.i .i64), .sc .b] → Pr} {w : World} (h : slices_partitionOrdered p_data p_a p_b p_pivot R w) : Cl Try.prog 79 [(.slice p_data.p p_data.len p_data.cap), (.int .i64 p_a), (.int .i64 p_b), (.int .i64 p_pivot)] true [.sc (.i .i64), .sc .b] R w :=
  call_of (P := Try.prog) (tup := true) (rs := [.sc (.i .i64), .sc .b]) Try.checked.mixed slices_partitionOrdered_ann (by kernel_rfl) Try.func79 (by kernel_rfl) Try.ntmps79 (by show Nat.beq Try.f79.results.size 1 = false; kernel_rfl) (by rw [← slices_partitionOrdered_den] at h; exact h)

/-- math/bits.Len32 -/
abbrev i_math_bits_Len32 : FuncId := 80
def math_bits_Len32 (p_x : Int) (R : TR [.sc (.i .i64)] → Pr) : Pr :=
  Jp (σ := Int × Int × Unit) (fun s2 =>
  Jp (σ := Int × Int × Unit) (fun s4 =>
  IxS (BA [0, 1, 2, 2, 3, 3, 3, 3, 4, 4, 4, 4, 4, 4, 4, 4, 5, 5, 5, 5, 5, 5, 5, 5, 5, 5, 5, 5, 5, 5, 5, 5, 6, 6, 6, 6, 6, 6, 6, 6, 6, 6, 6, 6, 6, 6, 6, 6, 6, 6, 6, 6, 6, 6, 6, 6, 6, 6, 6, 6, 6, 6, 6, 6, 7, 7, 7, 7, 7, 7, 7, 7, 7, 7, 7, 7, 7, 7, 7, 7, 7, 7, 7, 7, 7, 7, 7, 7, 7, 7, 7, 7, 7, 7, 7, 7, 7, 7, 7, 7, 7, 7, 7, 7, 7, 7, 7, 7, 7, 7, 7, 7, 7, 7, 7, 7, 7, 7, 7, 7, 7, 7, 7, 7, 7, 7, 7, 7, 8, 8, 8, 8, 8, 8, 8, 8, 8, 8, 8, 8, 8, 8, 8, 8, 8, 8, 8, 8, 8, 8, 8, 8, 8, 8, 8, 8, 8, 8, 8, 8, 8, 8, 8, 8, 8, 8, 8, 8, 8, 8, 8, 8, 8, 8, 8, 8, 8, 8, 8, 8, 8, 8, 8, 8, 8, 8, 8, 8, 8, 8, 8, 8, 8, 8, 8, 8, 8, 8, 8, 8, 8, 8, 8, 8, 8, 8, 8, 8, 8, 8, 8, 8, 8, 8, 8, 8, 8, 8, 8, 8, 8, 8, 8, 8, 8, 8, 8, 8, 8, 8, 8, 8, 8, 8, 8, 8, 8, 8, 8, 8, 8, 8, 8, 8, 8, 8, 8, 8, 8, 8, 8, 8, 8, 8, 8, 8]) (IntKind.u8.wrap (s4.1)) fun c5 =>
  R ((w64 (s4.2.1 + (w64 (c5)))), ())) fun J3 =>
  Br (decide ((s2.1 : Int) ≥ 256)) (
  Req ((0 : Int) ≤ 8) <|
  J3 ((ishr .u32 s2.1 8), (w64 (s2.2.1 + 8)), ())) (
  J3 (s2.1, s2.2.1, ()))) fun J1 =>
  Br (decide ((p_x : Int) ≥ 65536)) (
  Req ((0 : Int) ≤ 16) <|
  J1 ((ishr .u32 p_x 16), 16, ())) (
  J1 (p_x, 0, ()))
def math_bits_Len32_ann : Ann := .seq .leaf (.seq (.join [(0, .sc (.i .u32)), (2, .sc (.i .i64))] (.seq .leaf (.cond (.seq .leaf .leaf) .leaf))) (.seq (.join [(0, .sc (.i .u32)), (2, .sc (.i .i64))] (.seq .leaf (.cond (.seq .leaf .leaf) .leaf))) (.seq .leaf .leaf)))
set_option maxRecDepth 100000 in
theorem math_bits_Len32_den (p_x : Int) (R : TR [.sc (.i .i64)] → Pr) : den Try.prog math_bits_Len32_ann (Try.f80.body.getD .skip) (retQ Try.prog Try.f80.results.toList false [.sc (.i .i64)] R) [] (env0 19 [(.int .u32 p_x)]) = math_bits_Len32 p_x R := by
  kernel_rfl
set_option maxRecDepth 100000 in
theorem math_bits_Len32_call (p_x : Int) {R : TR [.sc (.i .i64)] → Pr} {w : World} (h : math_bits_Len32 p_x R w) : Cl Try.prog 80 [(.int .u32 p_x)] false [.sc (.i .i64)] R w :=
  call_of (P := Try.prog) (tup := false) (rs := [.sc (.i .i64)]) Try.checked.mixed math_bits_Len32_ann (by kernel_rfl) Try.func80 (by kernel_rfl) Try.ntmps80 (by show Try.f80.results.size = 1; kernel_rfl) (by rw [← math_bits_Len32_den] at h; exact h)

/-- math/bits.Len64 -/
abbrev i_math_bits_Len64 : FuncId := 81
def math_bits_Len64 (p_x : Int) (R : TR [.sc (.i .i64)] → Pr) : Pr :=
  Jp (σ := Int × Int × Unit) (fun s2 =>
  Jp (σ := Int × Int × Unit) (fun s4 =>
  Jp (σ := Int × Int × Unit) (fun s6 =>
  IxS (BA [0, 1, 2, 2, 3, 3, 3, 3, 4, 4, 4, 4, 4, 4, 4, 4, 5, 5, 5, 5, 5, 5, 5, 5, 5, 5, 5, 5, 5, 5, 5, 5, 6, 6, 6, 6, 6, 6, 6, 6, 6, 6, 6, 6, 6, 6, 6, 6, 6, 6, 6, 6, 6, 6, 6, 6, 6, 6, 6, 6, 6, 6, 6, 6, 7, 7, 7, 7, 7, 7, 7, 7, 7, 7, 7, 7, 7, 7, 7, 7, 7, 7, 7, 7, 7, 7, 7, 7, 7, 7, 7, 7, 7, 7, 7, 7, 7, 7, 7, 7, 7, 7, 7, 7, 7, 7, 7, 7, 7, 7, 7, 7, 7, 7, 7, 7, 7, 7, 7, 7, 7, 7, 7, 7, 7, 7, 7, 7, 8, 8, 8, 8, 8, 8, 8, 8, 8, 8, 8, 8, 8, 8, 8, 8, 8, 8, 8, 8, 8, 8, 8, 8, 8, 8, 8, 8, 8, 8, 8, 8, 8, 8, 8, 8, 8, 8, 8, 8, 8, 8, 8, 8, 8, 8, 8, 8, 8, 8, 8, 8, 8, 8, 8, 8, 8, 8, 8, 8, 8, 8, 8, 8, 8, 8, 8, 8, 8, 8, 8, 8, 8, 8, 8, 8, 8, 8, 8, 8, 8, 8, 8, 8, 8, 8, 8, 8, 8, 8, 8, 8, 8, 8, 8, 8, 8, 8, 8, 8, 8, 8, 8, 8, 8, 8, 8, 8, 8, 8, 8, 8, 8, 8, 8, 8, 8, 8, 8, 8, 8, 8, 8, 8, 8, 8, 8, 8]) (IntKind.u8.wrap (s6.1)) fun c7 =>
  R ((w64 (s6.2.1 + (w64 (c7)))), ())) fun J5 =>
  Br (decide ((s4.1 : Int) ≥ 256)) (
  Req ((0 : Int) ≤ 8) <|
  J5 ((ishr .u64 s4.1 8), (w64 (s4.2.1 + 8)), ())) (
  J5 (s4.1, s4.2.1, ()))) fun J3 =>
  Br (decide ((s2.1 : Int) ≥ 65536)) (
  Req ((0 : Int) ≤ 16) <|
  J3 ((ishr .u64 s2.1 16), (w64 (s2.2.1 + 16)), ())) (
  J3 (s2.1, s2.2.1, ()))) fun J1 =>
  Br (decide ((p_x : Int) ≥ 4294967296)) (
  Req ((0 : Int) ≤ 32) <|
  J1 ((ishr .u64 p_x 32), 32, ())) (
  J1 (p_x, 0, ()))
def math_bits_Len64_ann : Ann := .seq .leaf (.seq (.join [(0, .sc (.i .u64)), (2, .sc (.i .i64))] (.seq .leaf (.cond (.seq .leaf .leaf) .leaf))) (.seq (.join [(0, .sc (.i .u64)), (2, .sc (.i .i64))] (.seq .leaf (.cond (.seq .leaf .leaf) .leaf))) (.seq (.join [(0, .sc (.i .u64)), (2, .sc (.i .i64))] (.seq .leaf (.cond (.seq .leaf .leaf) .leaf))) (.seq .leaf .leaf))))
set_option maxRecDepth 100000 in
theorem math_bits_Len64_den (p_x : Int) (R : TR [.sc (.i .i64)] → Pr) : den Try.prog math_bits_Len64_ann (Try.f81.body.getD .skip) (retQ Try.prog Try.f81.results.toList false [.sc (.i .i64)] R) [] (env0 25 [(.int .u64 p_x)]) = math_bits_Len64 p_x R := by
  kernel_rfl
set_option maxRecDepth 100000 in
theorem math_bits_Len64_call (p_x : Int) {R : TR [.sc (.i .i64)] → Pr} {w : World} (h : math_bits_Len64 p_x R w) : Cl Try.prog 81 [(.int .u64 p_x)] false [.sc (.i .i64)] R w :=
  call_of (P := Try.prog) (tup := false) (rs := [.sc (.i .i64)]) Try.checked.mixed math_bits_Len64_ann (by kernel_rfl) Try.func81 (by kernel_rfl) Try.ntmps81 (by show Try.f81.results.size = 1; kernel_rfl) (by rw [← math_bits_Len64_den] at h; exact h)

/-- slices.siftDownOrdered[uint64] -/
abbrev i_slices_siftDownOrdered : FuncId := 82
def slices_siftDownOrdered (p_data : Sl) (p_lo : Int) (p_hi : Int) (p_first : Int) (R : TR [] → Pr) : Pr :=
  Lp (σ := Int × Unit) (fun L1 s2 =>
  Br (decide (((w64 ((w64 (2 * s2.1)) + 1)) : Int) ≥ p_hi)) (
  R ()) (
  Jp (σ := Int × Unit) (fun s4 =>
  Dr <|
  Ix p_data (w64 (p_first + s2.1)) 1 fun a5 =>
  LdI .u64 a5 fun x6 =>
  Ix p_data (w64 (p_first + s4.1)) 1 fun a7 =>
  LdI .u64 a7 fun x8 =>
  Cl Try.prog 77 [(.int .u64 x6), (.int .u64 x8)] false [.sc .b] fun r9 =>
  Br (!r9.1) (
  R ()) (
  Dr <|
  Ix p_data (w64 (p_first + s4.1)) 1 fun a10 =>
  LdI .u64 a10 fun x11 =>
  Ix p_data (w64 (p_first + s2.1)) 1 fun a12 =>
  LdI .u64 a12 fun x13 =>
  Ix p_data (w64 (p_first + s2.1)) 1 fun a14 =>
  St a14 (.int .u64 x11) <|
  Ix p_data (w64 (p_first + s4.1)) 1 fun a15 =>
  St a15 (.int .u64 x13) <|
  L1 (s4.1, ()))) fun J3 =>
  Jp (σ := Bool × Unit) (fun s17 =>
  Br s17.1 (
  J3 ((w64 ((w64 ((w64 (2 * s2.1)) + 1)) + 1)), ())) (
  J3 ((w64 ((w64 (2 * s2.1)) + 1)), ()))) fun J16 =>
  Dr <|
  Br (decide (((w64 ((w64 ((w64 (2 * s2.1)) + 1)) + 1)) : Int) < p_hi)) (
  Ix p_data (w64 (p_first + (w64 ((w64 (2 * s2.1)) + 1)))) 1 fun a18 =>
  LdI .u64 a18 fun x19 =>
  Ix p_data (w64 ((w64 (p_first + (w64 ((w64 (2 * s2.1)) + 1)))) + 1)) 1 fun a20 =>
  LdI .u64 a20 fun x21 =>
  Cl Try.prog 77 [(.int .u64 x19), (.int .u64 x21)] false [.sc .b] fun r22 =>
  J16 (r22.1, ())) (
  J16 (false, ())))) (p_lo, ())
def slices_siftDownOrdered_ann : Ann := .seq .leaf (.block (.loop [(8, .sc (.i .i64))] (.block (.seq .leaf (.seq (.seq .leaf (.cond .leaf .leaf)) (.seq (.join [(9, .sc (.i .i64))] (.seq (.join [(36, .sc .b)] .leaf) (.cond .leaf .leaf))) (.seq (.seq .leaf (.cond .leaf .leaf)) (.seq .leaf .leaf))))))))
set_option maxRecDepth 100000 in
theorem slices_siftDownOrdered_den (p_data : Sl) (p_lo : Int) (p_hi : Int) (p_first : Int) (R : TR [] → Pr) : den Try.prog slices_siftDownOrdered_ann (Try.f82.body.getD .skip) (retQ Try.prog Try.f82.results.toList true [] R) [] (env0 76 [(.slice p_data.p p_data.len p_data.cap), (.int .i64 p_lo), (.int .i64 p_hi), (.int .i64 p_first)]) = slices_siftDownOrdered p_data p_lo p_hi p_first R := by
  kernel_rfl
set_option maxRecDepth 100000 in
theorem slices_siftDownOrdered_call (p_data : Sl) (p_lo : Int) (p_hi : Int) (p_first : Int) {R : TR [] → Pr} {w : World} (h : slices_siftDownOrdered p_data p_lo p_hi p_first R w) : Cl Try.prog 82 [(.slice p_data.p p_data.len p_data.cap), (.int .i64 p_lo), (.int .i64 p_hi), (.int .i64 p_first)] true [] R w :=
  call_of (P := Try.prog) (tup := true) (rs := []) Try.checked.mixed slices_siftDownOrdered_ann (by kernel_rfl) Try.func82 (by kernel_rfl) Try.ntmps82 (by show Nat.beq Try.f82.results.size 1 = false; kernel_rfl) (by rw [← slices_siftDownOrdered_den] at h; exact h)

/-- slices.nextPowerOfTwo -/
abbrev i_slices_nextPowerOfTwo : FuncId := 83
def slices_nextPowerOfTwo (p_length : Int) (R : TR [.sc (.i .u64)] → Pr) : Pr :=
  Cl Try.prog 69 [(.int .u64 (IntKind.u64.wrap (p_length)))] false [.sc (.i .i64)] fun r1 =>
  Req ((0 : Int) ≤ r1.1) <|
  R ((ishl .u64 1 r1.1), ())
def slices_nextPowerOfTwo_ann : Ann := .seq .leaf (.seq .leaf .leaf)
set_option maxRecDepth 100000 in
theorem slices_nextPowerOfTwo_den (p_length : Int) (R : TR [.sc (.i .u64)] → Pr) : den Try.prog slices_nextPowerOfTwo_ann (Try.f83.body.getD .skip) (retQ Try.prog Try.f83.results.toList false [.sc (.i .u64)] R) [] (env0 7 [(.int .i64 p_length)]) = slices_nextPowerOfTwo p_length R := by
  kernel_rfl
set_option maxRecDepth 100000 in
theorem slices_nextPowerOfTwo_call (p_length : Int) {R : TR [.sc (.i .u64)] → Pr} {w : World} (h : slices_nextPowerOfTwo p_length R w) : Cl Try.prog 83 [(.int .i64 p_length)] false [.sc (.i .u64)] R w :=
  call_of (P := Try.prog) (tup := false) (rs := [.sc (.i .u64)]) Try.checked.mixed slices_nextPowerOfTwo_ann (by kernel_rfl) Try.func83 (by kernel_rfl) Try.ntmps83 (by show Try.f83.results.size = 1; kernel_rfl) (by rw [← slices_nextPowerOfTwo_den] at h; exact h)

/-- (*slices.xorshift).Next -/
abbrev i_slices_xorshift_Next : FuncId := 84
def slices_xorshift_Next (p_r : Option Addr) (R : TR [.sc (.i .u64)] → Pr) : Pr :=
  Dr <|
  Nn p_r fun a1 =>
  LdI .u64 a1 fun x2 =>
  Nn p_r fun a3 =>
  LdI .u64 a3 fun x4 =>
  Req ((0 : Int) ≤ 13) <|
  Nn p_r fun a5 =>
  St a5 (.int .u64 (ixor .u64 x2 (ishl .u64 x4 13))) <|
  Dr <|
  Nn p_r fun a6 =>
  LdI .u64 a6 fun x7 =>
  Nn p_r fun a8 =>
  LdI .u64 a8 fun x9 =>
  Req ((0 : Int) ≤ 7) <|
  Nn p_r fun a10 =>
  St a10 (.int .u64 (ixor .u64 x7 (ishr .u64 x9 7))) <|
  Dr <|
  Nn p_r fun a11 =>
  LdI .u64 a11 fun x12 =>
  Nn p_r fun a13 =>
  LdI .u64 a13 fun x14 =>
  Req ((0 : Int) ≤ 17) <|
  Nn p_r fun a15 =>
  St a15 (.int .u64 (ixor .u64 x12 (ishl .u64 x14 17))) <|
  Nn p_r fun a16 =>
  LdI .u64 a16 fun x17 =>
  R (x17, ())
def slices_xorshift_Next_ann : Ann := .seq .leaf (.seq .leaf (.seq .leaf (.seq .leaf (.seq .leaf .leaf))))
set_option maxRecDepth 100000 in
theorem slices_xorshift_Next_den (p_r : Option Addr) (R : TR [.sc (.i .u64)] → Pr) : den Try.prog slices_xorshift_Next_ann (Try.f84.body.getD .skip) (retQ Try.prog Try.f84.results.toList false [.sc (.i .u64)] R) [] (env0 33 [(.pointer p_r)]) = slices_xorshift_Next p_r R := by
  kernel_rfl
set_option maxRecDepth 100000 in
theorem slices_xorshift_Next_call (p_r : Option Addr) {R : TR [.sc (.i .u64)] → Pr} {w : World} (h : slices_xorshift_Next p_r R w) : Cl Try.prog 84 [(.pointer p_r)] false [.sc (.i .u64)] R w :=
  call_of (P := Try.prog) (tup := false) (rs := [.sc (.i .u64)]) Try.checked.mixed slices_xorshift_Next_ann (by kernel_rfl) Try.func84 (by kernel_rfl) Try.ntmps84 (by show Try.f84.results.size = 1; kernel_rfl) (by rw [← slices_xorshift_Next_den] at h; exact h)

/-- slices.medianAdjacentOrdered[uint64] -/
abbrev i_slices_medianAdjacentOrdered : FuncId := 85
def slices_medianAdjacentOrdered (p_data : Sl) (p_a : Int) (p_swaps : Option Addr) (R : TR [.sc (.i .i64)] → Pr) : Pr :=
  Cl Try.prog 86 [(.slice p_data.p p_data.len p_data.cap), (.int .i64 (w64 (p_a - 1))), (.int .i64 p_a), (.int .i64 (w64 (p_a + 1))), (.pointer p_swaps)] false [.sc (.i .i64)] fun r1 =>
  R (r1.1, ())
def slices_medianAdjacentOrdered_ann : Ann := .seq .leaf (.seq .leaf .leaf)
set_option maxRecDepth 100000 in
theorem slices_medianAdjacentOrdered_den (p_data : Sl) (p_a : Int) (p_swaps : Option Addr) (R : TR [.sc (.i .i64)] → Pr) : den Try.prog slices_medianAdjacentOrdered_ann (Try.f85.body.getD .skip) (retQ Try.prog Try.f85.results.toList false [.sc (.i .i64)] R) [] (env0 15 [(.slice p_data.p p_data.len p_data.cap), (.int .i64 p_a), (.pointer p_swaps)]) = slices_medianAdjacentOrdered p_data p_a p_swaps R := by
  kernel_rfl
set_option maxRecDepth 100000 in
theorem slices_medianAdjacentOrdered_call (p_data : Sl) (p_a : Int) (p_swaps : Option Addr) {R : TR [.sc (.i .i64)] → Pr} {w : World} (h : slices_medianAdjacentOrdered p_data p_a p_swaps R w) : Cl Try.prog 85 [(.slice p_data.p p_data.len p_data.cap), (.int .i64 p_a), (.pointer p_swaps)] false [.sc (.i .i64)] R w :=
  call_of (P := Try.prog) (tup := false) (rs := [.sc (.i .i64)]) Try.checked.mixed slices_medianAdjacentOrdered_ann (by kernel_rfl) Try.func85 (by kernel_rfl) Try.ntmps85 (by show Try.f85.results.size = 1; kernel_rfl) (by rw [← slices_medianAdjacentOrdered_den] at h; exact h)

/-- slices.medianOrdered[uint64] -/
abbrev i_slices_medianOrdered : FuncId := 86
def slices_medianOrdered (p_data : Sl) (p_a : Int) (p_b : Int) (p_c : Int) (p_swaps : Option Addr) (R : TR [.sc (.i .i64)] → Pr) : Pr :=
  Cl Try.prog 87 [(.slice p_data.p p_data.len p_data.cap), (.int .i64 p_a), (.int .i64 p_b), (.pointer p_swaps)] true [.sc (.i .i64), .sc (.i .i64)] fun r1 =>
  Cl Try.prog 87 [(.slice p_data.p p_data.len p_data.cap), (.int .i64 r1.2.1), (.int .i64 p_c), (.pointer p_swaps)] true [.sc (.i .i64), .sc (.i .i64)] fun r2 =>
  Cl Try.prog 87 [(.slice p_data.p p_data.len p_data.cap), (.int .i64 r1.1), (.int .i64 r2.1), (.pointer p_swaps)] true [.sc (.i .i64), .sc (.i .i64)] fun r3 =>
  R (r3.2.1, ())
def slices_medianOrdered_ann : Ann := .seq .leaf (.seq .leaf (.seq .leaf (.seq .leaf (.seq .leaf .leaf))))
set_option maxRecDepth 100000 in
theorem slices_medianOrdered_den (p_data : Sl) (p_a : Int) (p_b : Int) (p_c : Int) (p_swaps : Option Addr) (R : TR [.sc (.i .i64)] → Pr) : den Try.prog slices_medianOrdered_ann (Try.f86.body.getD .skip) (retQ Try.prog Try.f86.results.toList false [.sc (.i .i64)] R) [] (env0 36 [(.slice p_data.p p_data.len p_data.cap), (.int .i64 p_a), (.int .i64 p_b), (.int .i64 p_c), (.pointer p_swaps)]) = slices_medianOrdered p_data p_a p_b p_c p_swaps R := by
  kernel_rfl
set_option maxRecDepth 100000 in
theorem slices_medianOrdered_call (p_data : Sl) (p_a : Int) (p_b : Int) (p_c : Int) (p_swaps : Option Addr) {R : TR [.sc (.i .i64)] → Pr} {w : World} (h : slices_medianOrdered p_data p_a p_b p_c p_swaps R w) : Cl Try.prog 86 [(.slice p_data.p p_data.len p_data.cap), (.int .i64 p_a), (.int .i64 p_b), (.int .i64 p_c), (.pointer p_swaps)] false [.sc (.i .i64)] R w :=
  call_of (P := Try.prog) (tup := false) (rs := [.sc (.i .i64)]) Try.checked.mixed slices_medianOrdered_ann (by kernel_rfl) Try.func86 (by kernel_rfl) Try.ntmps86 (by show Try.f86.results.size = 1; kernel_rfl) (by rw [← slices_medianOrdered_den] at h; exact h)

/-- slices.order2Ordered[uint64] -/
abbrev i_slices_order2Ordered : FuncId := 87
def slices_order2Ordered (p_data : Sl) (p_a : Int) (p_b : Int) (p_swaps : Option Addr) (R : TR [.sc (.i .i64), .sc (.i .i64)] → Pr) : Pr :=
  Dr <|
  Ix p_data p_b 1 fun a1 =>
  LdI .u64 a1 fun x2 =>
  Ix p_data p_a 1 fun a3 =>
  LdI .u64 a3 fun x4 =>
  Cl Try.prog 77 [(.int .u64 x2), (.int .u64 x4)] false [.sc .b] fun r5 =>
  Br r5.1 (
  Nn p_swaps fun a6 =>
  LdI .i64 a6 fun x7 =>
  Nn p_swaps fun a8 =>
  St a8 (.int .i64 (w64 (x7 + 1))) <|
  R (p_b, p_a, ())) (
  R (p_a, p_b, ()))
def slices_order2Ordered_ann : Ann := .seq .leaf (.seq (.seq .leaf (.cond (.seq .leaf (.seq .leaf .leaf)) .leaf)) (.seq .leaf .leaf))
set_option maxRecDepth 100000 in
theorem slices_order2Ordered_den (p_data : Sl) (p_a : Int) (p_b : Int) (p_swaps : Option Addr) (R : TR [.sc (.i .i64), .sc (.i .i64)] → Pr) : den Try.prog slices_order2Ordered_ann (Try.f87.body.getD .skip) (retQ Try.prog Try.f87.results.toList true [.sc (.i .i64), .sc (.i .i64)] R) [] (env0 28 [(.slice p_data.p p_data.len p_data.cap), (.int .i64 p_a), (.int .i64 p_b), (.pointer p_swaps)]) = slices_order2Ordered p_data p_a p_b p_swaps R := by
  kernel_rfl
set_option maxRecDepth 100000 in
theorem slices_order2Ordered_call (p_data : Sl) (p_a : Int) (p_b : Int) (p_swaps : Option Addr) {R : TR [.sc (.i .i64), .sc (.i .i64)] → Pr} {w : World} (h : slices_order2Ordered p_data p_a p_b p_swaps R w) : Cl Try.prog 87 [(.slice p_data.p p_data.len p_data.cap), (.int .i64 p_a), (.int .i64 p_b), (.pointer p_swaps)] true [.sc (.i .i64), .sc (.i .i64)] R w :=
  call_of (P := Try.prog) (tup := true) (rs := [.sc (.i .i64), .sc (.i .i64)]) Try.checked.mixed slices_order2Ordered_ann (by kernel_rfl) Try.func87 (by kernel_rfl) Try.ntmps87 (by show Nat.beq Try.f87.results.size 1 = false; kernel_rfl) (by rw [← slices_order2Ordered_den] at h; exact h)

end Go.Proofs.Ytmppjgddemlmdaa
