/- The parts of the proof, 3: words of the program, and what they do. Conditions: none. -/
import Derived.Test.YthkdehgfdllpoaaGreatPk2
import Derived.Sort.Walk0
set_option maxRecDepth 100000
set_option linter.unusedVariables false
namespace Go.Proofs.YthkdehgfdllpoaaGreat
open Go Go.Sx
abbrev i_sumpterref02_Has:FuncId:=42
def sumpterref02_Has (p_r_0:ByteArray) (p_r_1:ByteArray) (p_k:ByteArray) (R:TR [.sc .b]→Pr):Pr:=
 New #[(.string p_r_0),(.string p_r_1)] 37 fun a1=>
 LdS (a1.add 0) fun x2=>
 LdS (a1.add 1) fun x3=>
 Cl Pg 91 [(.agg #[(.string x2),(.string x3)])] false [.sc (.i .i64)] fun r4=>
 Br ((r4.1:Int) == 0) (
 Cl Pg 35 [(.string p_k)] false [.sc (.i .i64)] fun r5=>
 Br ((r5.1:Int) == 0) (
 LdS (a1.add 0) fun x6=>
 Br (!(slt p_k x6)) (
 LdS (a1.add 1) fun x7=>
 Br (seq x7 (BA [])) (
 R (true,())) (
 LdS (a1.add 1) fun x8=>
 R ((slt p_k x8),()))) (
 R (false,()))) (
 R (false,()))) (
 R (false,()))
theorem sumpterref02_Has_call (p_r_0:ByteArray) (p_r_1:ByteArray) (p_k:ByteArray) {R:TR [.sc .b]→Pr} {w:World} (h:sumpterref02_Has p_r_0 p_r_1 p_k R w):Cl Pg 42 [(.agg #[(.string p_r_0),(.string p_r_1)]),(.string p_k)] false [.sc .b] R w:=
 call_eq Tryz.checked.mixed (.seq .leaf (.seq .leaf .leaf)) Tryz.func42 (by kernel_rfl) (by kernel_rfl) h
abbrev i_owner_Check:FuncId:=44
def owner_Check (p_l:Sl) (R:TR [.sc (.i .i64)]→Pr):Pr:=
 Jp (σ:=Bool × Unit) (fun s2=>
 Br s2.1 (
 R (170,())) (
 Lp (σ:=Int × Int × Unit) (fun L3 s4=>
 Br (decide ((s4.2.1:Int) < ((p_l.len:Nat):Int))) (
 Ix p_l s4.2.1 2 fun a5=>
 LdS (a5.add 0) fun x6=>
 LdI .i64 (a5.add 1) fun x7=>
 New #[(.string (BA [])),(.int .i64 0)] 70 fun a8=>
 St (a8.add 0) (.string x6) <|
 St (a8.add 1) (.int .i64 x7) <|
 Jp (σ:=Bool × Unit) (fun s10=>
 Br s10.1 (
 R (170,())) (
 L3 (s4.1,(w64 (s4.2.1 + 1)),()))) fun J9=>
 Dr <|
 LdI .i64 (a8.add 1) fun x11=>
 Br (decide ((x11:Int) < 1)) (
 J9 (true,())) (
 LdI .i64 (a8.add 1) fun x12=>
 Br (decide ((x12:Int) > 4)) (
 J9 (true,())) (
 Br (decide ((s4.2.1:Int) > 0)) (
 LdS (a8.add 0) fun x13=>
 Cl Pg 93 [(.string x13)] false [.sc (.i .i64)] fun r14=>
 Br ((r14.1:Int) != 0) (
 J9 (true,())) (
 Ix p_l (w64 (s4.2.1 - 1)) 2 fun a15=>
 LdS (a15.add 0) fun x16=>
 LdS (a8.add 0) fun x17=>
 J9 ((!(slt x16 x17)),()))) (
 J9 (false,()))))) (
 R (0,()))) (0,0,()))) fun J1=>
 Br ((((p_l.len:Nat):Int):Int) == 0) (
 J1 (true,())) (
 Br (decide ((((p_l.len:Nat):Int):Int) > 6)) (
 J1 (true,())) (
 Ix p_l 0 2 fun a18=>
 LdS (a18.add 0) fun x19=>
 J1 ((!(seq x19 (BA []))),())))
theorem owner_Check_call (p_l:Sl) {R:TR [.sc (.i .i64)]→Pr} {w:World} (h:owner_Check p_l R w):Cl Pg 44 [(.slice p_l.p p_l.len p_l.cap)] false [.sc (.i .i64)] R w:=
 call_eq Tryz.checked.mixed (.seq .leaf (.seq (.seq (.join [(19,.sc .b)] .leaf) (.cond (.seq .leaf .leaf) .leaf)) (.seq (.seq .leaf (.block (.loop [(2,.sc (.i .i64)),(22,.sc (.i .i64))] (.seq .leaf (.seq (.cond .leaf .leaf) (.seq (.block (.seq .leaf (.seq (.join [(55,.sc .b)] .leaf) (.cond (.seq .leaf .leaf) .leaf)))) .leaf)))))) (.seq .leaf .leaf)))) Tryz.func44 (by kernel_rfl) (by kernel_rfl) h
abbrev i_span_Check:FuncId:=45
def span_Check (p_r_0:ByteArray) (p_r_1:ByteArray) (R:TR [.sc (.i .i64)]→Pr):Pr:=
 New #[(.string p_r_0),(.string p_r_1)] 37 fun a1=>
 Dr <|
 LdS (a1.add 0) fun x2=>
 LdS (a1.add 1) fun x3=>
 Cl Pg 94 [] false [.ag [.s,.s]] fun r4=>
 Both (LdS (a1.add 0) fun x5=>
 LdS (a1.add 1) fun x6=>
 fun _=>((.agg #[(.string x5),(.string x6)]):Value)=(.agg #[(.string x2),(.string x3)])) <|
 Br ((seq x2 r4.1.1) && ((seq x3 r4.1.2.1) && true)) (
 R (0,())) (
 Jp (σ:=Bool × Unit) (fun s8=>
 Br s8.1 (
 R (21,())) (
 R (0,()))) fun J7=>
 Jp (σ:=Bool × Unit) (fun s10=>
 Br s10.1 (
 J7 (s10.1,())) (
 LdS (a1.add 1) fun x11=>
 Br (!(seq x11 (BA []))) (
 LdS (a1.add 0) fun x12=>
 LdS (a1.add 1) fun x13=>
 J7 ((!(slt x12 x13)),())) (
 J7 (false,())))) fun J9=>
 LdS (a1.add 0) fun x14=>
 Br (decide ((((x14.size:Nat):Int):Int) > 12)) (
 J9 (true,())) (
 LdS (a1.add 1) fun x15=>
 J9 ((decide ((((x15.size:Nat):Int):Int) > 12)),())))
theorem span_Check_call (p_r_0:ByteArray) (p_r_1:ByteArray) {R:TR [.sc (.i .i64)]→Pr} {w:World} (h:span_Check p_r_0 p_r_1 R w):Cl Pg 45 [(.agg #[(.string p_r_0),(.string p_r_1)])] false [.sc (.i .i64)] R w:=
 call_eq Tryz.checked.mixed (.seq .leaf (.seq (.block (.seq .leaf (.cond (.seq .leaf .leaf) (.seq (.join [(7,.sc .b)] (.seq (.join [(7,.sc .b)] .leaf) (.cond .leaf .leaf))) (.cond (.seq .leaf .leaf) .leaf))))) (.seq .leaf .leaf))) Tryz.func45 (by kernel_rfl) (by kernel_rfl) h
def record_CheckShard_1 (p_h_0:Int) (p_h_1:Sl) (p_c0:Addr) (R:TR [.sc .b]→Pr):Pr:=
 New #[(.int .u64 p_h_0),(.slice p_h_1.p p_h_1.len p_h_1.cap)] 60 fun a1=>
 LdL (a1.add 1) fun x2=>
 Br ((((x2.len:Nat):Int):Int) == 0) (
 R (true,())) (
 LdL (a1.add 1) fun x3=>
 Br (decide ((((x3.len:Nat):Int):Int) > 24)) (
 R (true,())) (
 LdL (p_c0.add 7) fun x4=>
 LdI .u64 (a1.add 0) fun x5=>
 Cl Pg 47 [(.slice x4.p x4.len x4.cap),(.int .u64 x5)] false [.sc .b] fun r6=>
 Br r6.1 (
 R (true,())) (
 LdL (a1.add 1) fun x7=>
 Cl Pg 48 [(.slice x7.p x7.len x7.cap),(.func (.func 49) #[] #[])] false [.sc .b] fun r8=>
 R (r8.1,()))))
theorem record_CheckShard_1_call (p_h_0:Int) (p_h_1:Sl) (p_c0:Addr) {R:TR [.sc .b]→Pr} {w:World} (h:record_CheckShard_1 p_h_0 p_h_1 p_c0 R w):Cl Pg 46 [(.agg #[(.int .u64 p_h_0),(.slice p_h_1.p p_h_1.len p_h_1.cap)]),(.pointer (some p_c0))] false [.sc .b] R w:=
 call_eq Tryz.checked.mixed (.seq .leaf (.seq .leaf .leaf)) Tryz.func46 (by kernel_rfl) (by kernel_rfl) h
abbrev i_slices_Contains_uint64:FuncId:=47
def slices_Contains_uint64 (p_s:Sl) (p_v:Int) (R:TR [.sc .b]→Pr):Pr:=
 Cl Pg 95 [(.slice p_s.p p_s.len p_s.cap),(.int .u64 p_v)] false [.sc (.i .i64)] fun r1=>
 R ((decide ((r1.1:Int) ≥ 0)),())
theorem slices_Contains_uint64_call (p_s:Sl) (p_v:Int) {R:TR [.sc .b]→Pr} {w:World} (h:slices_Contains_uint64 p_s p_v R w):Cl Pg 47 [(.slice p_s.p p_s.len p_s.cap),(.int .u64 p_v)] false [.sc .b] R w:=
 call_eq Tryz.checked.mixed (.seq .leaf (.seq .leaf .leaf)) Tryz.func47 (by kernel_rfl) (by kernel_rfl) h
abbrev i_slices_ContainsFunc_Op:FuncId:=48
theorem slices_ContainsFunc_Op_call (p_s:Sl) (p_f:Value) {R:TR [.sc .b]→Pr} {w:World} (h:ContainsFunc_tx Pg 96 p_s p_f R w):Cl Pg 48 [(.slice p_s.p p_s.len p_s.cap),p_f] false [.sc .b] R w:=
 call_eq Tryz.checked.mixed (.seq .leaf (.seq .leaf .leaf)) Tryz.func48 (by kernel_rfl) (by kernel_rfl) h
def record_CheckShard_1_1 (p_o_0:Int) (p_o_1:ByteArray) (p_o_2:ByteArray) (p_o_3:ByteArray) (p_o_4:ByteArray) (p_o_5:Int) (R:TR [.sc .b]→Pr):Pr:=
 New #[(.int .i64 p_o_0),(.string p_o_1),(.string p_o_2),(.string p_o_3),(.string p_o_4),(.int .i64 p_o_5)] 81 fun a1=>
 LdI .i64 (a1.add 0) fun x2=>
 LdS (a1.add 1) fun x3=>
 LdS (a1.add 2) fun x4=>
 LdS (a1.add 3) fun x5=>
 LdS (a1.add 4) fun x6=>
 LdI .i64 (a1.add 5) fun x7=>
 Cl Pg 50 [(.agg #[(.int .i64 x2),(.string x3),(.string x4),(.string x5),(.string x6),(.int .i64 x7)])] false [.sc (.i .i64)] fun r8=>
 R (((r8.1:Int) != 0),())
theorem record_CheckShard_1_1_call (p_o_0:Int) (p_o_1:ByteArray) (p_o_2:ByteArray) (p_o_3:ByteArray) (p_o_4:ByteArray) (p_o_5:Int) {R:TR [.sc .b]→Pr} {w:World} (h:record_CheckShard_1_1 p_o_0 p_o_1 p_o_2 p_o_3 p_o_4 p_o_5 R w):Cl Pg 49 [(.agg #[(.int .i64 p_o_0),(.string p_o_1),(.string p_o_2),(.string p_o_3),(.string p_o_4),(.int .i64 p_o_5)])] false [.sc .b] R w:=
 call_eq Tryz.checked.mixed (.seq .leaf (.seq .leaf .leaf)) Tryz.func49 (by kernel_rfl) (by kernel_rfl) h
abbrev i_op_CheckOp:FuncId:=50
def op_CheckOp (p_o_0:Int) (p_o_1:ByteArray) (p_o_2:ByteArray) (p_o_3:ByteArray) (p_o_4:ByteArray) (p_o_5:Int) (R:TR [.sc (.i .i64)]→Pr):Pr:=
 New #[(.int .i64 p_o_0),(.string p_o_1),(.string p_o_2),(.string p_o_3),(.string p_o_4),(.int .i64 p_o_5)] 81 fun a1=>
 LdI .i64 (a1.add 0) fun x2=>
 Cl Pg 97 [(.int .i64 x2)] true [.ag [.b,.b,.b,.b,.b,.v],.sc .b] fun r3=>
 New #[(.bool false),(.bool false),(.bool false),(.bool false),(.bool false),.nilFunc] 189 fun a4=>
 St (a4.add 0) (.bool r3.1.1) <|
 St (a4.add 1) (.bool r3.1.2.1) <|
 St (a4.add 2) (.bool r3.1.2.2.1) <|
 St (a4.add 3) (.bool r3.1.2.2.2.1) <|
 St (a4.add 4) (.bool r3.1.2.2.2.2.1) <|
 St (a4.add 5) r3.1.2.2.2.2.2.1 <|
 Jp (σ:=Bool × Unit) (fun s6=>
 Br s6.1 (
 R (40,())) (
 Jp (σ:=Bool × Unit) (fun s8=>
 Br s8.1 (
 R (20,())) (
 LdS (a1.add 2) fun x9=>
 Br (decide ((((x9.size:Nat):Int):Int) > 16)) (
 R (2,())) (
 Jp (σ:=Bool × Unit) (fun s11=>
 Br s11.1 (
 R (21,())) (
 Jp (σ:=Bool × Unit) (fun s13=>
 Br s13.1 (
 R (1,())) (
 R (0,()))) fun J12=>
 LdB (a4.add 3) fun x14=>
 Br x14 (
 LdI .i64 (a1.add 5) fun x15=>
 Br (decide ((x15:Int) < 1)) (
 J12 (true,())) (
 LdI .i64 (a1.add 5) fun x16=>
 J12 ((decide ((x16:Int) > 4)),()))) (
 J12 (false,())))) fun J10=>
 LdB (a4.add 2) fun x17=>
 Br x17 (
 LdI .i64 (a1.add 0) fun x18=>
 LdS (a1.add 1) fun x19=>
 LdS (a1.add 2) fun x20=>
 LdS (a1.add 3) fun x21=>
 LdS (a1.add 4) fun x22=>
 LdI .i64 (a1.add 5) fun x23=>
 Cl Pg 98 [(.agg #[(.int .i64 x18),(.string x19),(.string x20),(.string x21),(.string x22),(.int .i64 x23)])] false [.ag [.s,.s]] fun r24=>
 Cl Pg 45 [(.agg #[(.string r24.1.1),(.string r24.1.2.1)])] false [.sc (.i .i64)] fun r25=>
 J10 (((r25.1:Int) != 0),())) (
 J10 (false,()))))) fun J7=>
 LdB (a4.add 0) fun x26=>
 Br x26 (
 LdS (a1.add 1) fun x27=>
 Cl Pg 93 [(.string x27)] false [.sc (.i .i64)] fun r28=>
 J7 (((r28.1:Int) != 0),())) (
 J7 (false,())))) fun J5=>
 Br (!r3.2.1) (
 J5 ((!r3.2.1),())) (
 Jp (σ:=Bool × Unit) (fun s30=>
 Br s30.1 (
 J5 (s30.1,())) (
 Jp (σ:=Bool × Unit) (fun s32=>
 Br s32.1 (
 J5 (s32.1,())) (
 Jp (σ:=Bool × Unit) (fun s34=>
 Br s34.1 (
 J5 (s34.1,())) (
 LdB (a4.add 3) fun x35=>
 Br (!x35) (
 LdI .i64 (a1.add 5) fun x36=>
 J5 (((x36:Int) != 0),())) (
 J5 (false,())))) fun J33=>
 LdB (a4.add 2) fun x37=>
 Br (!x37) (
 LdI .i64 (a1.add 0) fun x38=>
 LdS (a1.add 1) fun x39=>
 LdS (a1.add 2) fun x40=>
 LdS (a1.add 3) fun x41=>
 LdS (a1.add 4) fun x42=>
 LdI .i64 (a1.add 5) fun x43=>
 Cl Pg 98 [(.agg #[(.int .i64 x38),(.string x39),(.string x40),(.string x41),(.string x42),(.int .i64 x43)])] false [.ag [.s,.s]] fun r44=>
 J33 ((!((seq r44.1.1 (BA [])) && ((seq r44.1.2.1 (BA [])) && true))),())) (
 J33 (false,())))) fun J31=>
 LdB (a4.add 1) fun x45=>
 Br (!x45) (
 LdS (a1.add 2) fun x46=>
 J31 ((!(seq x46 (BA []))),())) (
 J31 (false,())))) fun J29=>
 LdB (a4.add 0) fun x47=>
 Br (!x47) (
 LdS (a1.add 1) fun x48=>
 J29 ((!(seq x48 (BA []))),())) (
 J29 (false,())))
theorem op_CheckOp_call (p_o_0:Int) (p_o_1:ByteArray) (p_o_2:ByteArray) (p_o_3:ByteArray) (p_o_4:ByteArray) (p_o_5:Int) {R:TR [.sc (.i .i64)]→Pr} {w:World} (h:op_CheckOp p_o_0 p_o_1 p_o_2 p_o_3 p_o_4 p_o_5 R w):Cl Pg 50 [(.agg #[(.int .i64 p_o_0),(.string p_o_1),(.string p_o_2),(.string p_o_3),(.string p_o_4),(.int .i64 p_o_5)])] false [.sc (.i .i64)] R w:=
 call_eq Tryz.checked.mixed (.seq .leaf (.seq .leaf (.seq (.block (.seq (.join [(11,.sc .b)] (.seq .leaf (.cond .leaf (.seq (.join [(11,.sc .b)] .leaf) (.cond .leaf (.seq (.join [(11,.sc .b)] .leaf) (.cond .leaf (.seq (.join [(11,.sc .b)] .leaf) (.cond .leaf .leaf))))))))) (.cond (.seq .leaf .leaf) (.seq (.join [(47,.sc .b)] .leaf) (.cond (.seq .leaf .leaf) (.seq .leaf (.cond (.seq .leaf .leaf) (.seq (.join [(61,.sc .b)] .leaf) (.cond (.seq .leaf .leaf) (.seq (.join [(70,.sc .b)] .leaf) (.cond (.seq .leaf .leaf) .leaf))))))))))) (.seq .leaf .leaf)))) Tryz.func50 (by kernel_rfl) (by kernel_rfl) h
abbrev i_record_want:FuncId:=51
def record_want (p_is:Bool) (R:TR [.sc (.i .i64)]→Pr):Pr:=
 Br (!p_is) (
 R (1,())) (
 R (0,()))
theorem record_want_call (p_is:Bool) {R:TR [.sc (.i .i64)]→Pr} {w:World} (h:record_want p_is R w):Cl Pg 51 [(.bool p_is)] false [.sc (.i .i64)] R w:=
 call_eq Tryz.checked.mixed (.seq .leaf (.seq (.seq .leaf (.cond (.seq .leaf .leaf) .leaf)) (.seq .leaf .leaf))) Tryz.func51 (by kernel_rfl) (by kernel_rfl) h
abbrev i_slices_ContainsFunc_Hold:FuncId:=52
theorem slices_ContainsFunc_Hold_call (p_s:Sl) (p_f:Value) {R:TR [.sc .b]→Pr} {w:World} (h:ContainsFunc_tx Pg 99 p_s p_f R w):Cl Pg 52 [(.slice p_s.p p_s.len p_s.cap),p_f] false [.sc .b] R w:=
 call_eq Tryz.checked.mixed (.seq .leaf (.seq .leaf .leaf)) Tryz.func52 (by kernel_rfl) (by kernel_rfl) h
abbrev i_record_rising_Hold:FuncId:=53
def record_rising_Hold (p_l:Sl) (p_by:Value) (R:TR [.sc .b]→Pr):Pr:=
 Lp (σ:=Bool × Int × Unit) (fun L1 s2=>
 Br (decide ((s2.2.1:Int) < ((p_l.len:Nat):Int))) (
 Jp (σ:=Bool × Unit) (fun s4=>
 Br s4.1 (
 R (false,())) (
 L1 (s2.1,(w64 (s2.2.1 + 1)),()))) fun J3=>
 Dr <|
 Br (decide ((s2.2.1:Int) > 0)) (
 Ix p_l (w64 (s2.2.1 - 1)) 2 fun a5=>
 LdI .u64 (a5.add 0) fun x6=>
 LdL (a5.add 1) fun x7=>
 Ix p_l s2.2.1 2 fun a8=>
 LdI .u64 (a8.add 0) fun x9=>
 LdL (a8.add 1) fun x10=>
 CallV Pg p_by [(.agg #[(.int .u64 x6),(.slice x7.p x7.len x7.cap)])] false [.sc (.i .u64)] fun r11=>
 Both (LdI .u64 (a8.add 0) fun x12=>
 LdL (a8.add 1) fun x13=>
 fun _=>((.agg #[(.int .u64 x12),(.slice x13.p x13.len x13.cap)]):Value)=(.agg #[(.int .u64 x9),(.slice x10.p x10.len x10.cap)])) <|
 CallV Pg p_by [(.agg #[(.int .u64 x9),(.slice x10.p x10.len x10.cap)])] false [.sc (.i .u64)] fun r14=>
 J3 ((decide ((r11.1:Int) ≥ r14.1)),())) (
 J3 (false,()))) (
 R (true,()))) (false,0,())
theorem record_rising_Hold_call (p_l:Sl) (p_by:Value) {R:TR [.sc .b]→Pr} {w:World} (h:record_rising_Hold p_l p_by R w):Cl Pg 53 [(.slice p_l.p p_l.len p_l.cap),p_by] false [.sc .b] R w:=
 call_eq Tryz.checked.mixed (.seq .leaf (.seq (.seq .leaf (.block (.loop [(4,.sc .b),(8,.sc (.i .i64))] (.seq .leaf (.seq (.cond .leaf .leaf) (.seq (.block (.seq .leaf (.seq (.join [(28,.sc .b)] .leaf) (.cond (.seq .leaf .leaf) .leaf)))) .leaf)))))) (.seq .leaf .leaf))) Tryz.func53 (by kernel_rfl) (by kernel_rfl) h
def record_CheckShard_2 (p_h_0:Int) (p_h_1:Sl) (R:TR [.sc (.i .u64)]→Pr):Pr:=
 New #[(.int .u64 p_h_0),(.slice p_h_1.p p_h_1.len p_h_1.cap)] 60 fun a1=>
 LdI .u64 (a1.add 0) fun x2=>
 R (x2,())
theorem record_CheckShard_2_call (p_h_0:Int) (p_h_1:Sl) {R:TR [.sc (.i .u64)]→Pr} {w:World} (h:record_CheckShard_2 p_h_0 p_h_1 R w):Cl Pg 54 [(.agg #[(.int .u64 p_h_0),(.slice p_h_1.p p_h_1.len p_h_1.cap)])] false [.sc (.i .u64)] R w:=
 call_eq Tryz.checked.mixed (.seq .leaf (.seq .leaf .leaf)) Tryz.func54 (by kernel_rfl) (by kernel_rfl) h
abbrev i_record_rising_uint64:FuncId:=55
def record_rising_uint64 (p_l:Sl) (p_by:Value) (R:TR [.sc .b]→Pr):Pr:=
 Lp (σ:=Bool × Int × Unit) (fun L1 s2=>
 Br (decide ((s2.2.1:Int) < ((p_l.len:Nat):Int))) (
 Jp (σ:=Bool × Unit) (fun s4=>
 Br s4.1 (
 R (false,())) (
 L1 (s2.1,(w64 (s2.2.1 + 1)),()))) fun J3=>
 Dr <|
 Br (decide ((s2.2.1:Int) > 0)) (
 Ix p_l (w64 (s2.2.1 - 1)) 1 fun a5=>
 LdI .u64 a5 fun x6=>
 Ix p_l s2.2.1 1 fun a7=>
 LdI .u64 a7 fun x8=>
 CallV Pg p_by [(.int .u64 x6)] false [.sc (.i .u64)] fun r9=>
 Both (LdI .u64 a7 fun x10=>
 fun _=>((.int .u64 x10):Value)=(.int .u64 x8)) <|
 CallV Pg p_by [(.int .u64 x8)] false [.sc (.i .u64)] fun r11=>
 J3 ((decide ((r9.1:Int) ≥ r11.1)),())) (
 J3 (false,()))) (
 R (true,()))) (false,0,())
theorem record_rising_uint64_call (p_l:Sl) (p_by:Value) {R:TR [.sc .b]→Pr} {w:World} (h:record_rising_uint64 p_l p_by R w):Cl Pg 55 [(.slice p_l.p p_l.len p_l.cap),p_by] false [.sc .b] R w:=
 call_eq Tryz.checked.mixed (.seq .leaf (.seq (.seq .leaf (.block (.loop [(4,.sc .b),(8,.sc (.i .i64))] (.seq .leaf (.seq (.cond .leaf .leaf) (.seq (.block (.seq .leaf (.seq (.join [(28,.sc .b)] .leaf) (.cond (.seq .leaf .leaf) .leaf)))) .leaf)))))) (.seq .leaf .leaf))) Tryz.func55 (by kernel_rfl) (by kernel_rfl) h
def record_CheckShard_3 (p_n:Int) (R:TR [.sc (.i .u64)]→Pr):Pr:=
 R (p_n,())
theorem record_CheckShard_3_call (p_n:Int) {R:TR [.sc (.i .u64)]→Pr} {w:World} (h:record_CheckShard_3 p_n R w):Cl Pg 56 [(.int .u64 p_n)] false [.sc (.i .u64)] R w:=
 call_eq Tryz.checked.mixed (.seq .leaf (.seq .leaf .leaf)) Tryz.func56 (by kernel_rfl) (by kernel_rfl) h
abbrev i_slices_Clone_Owner:FuncId:=57
theorem slices_Clone_Owner_call (p_s:Sl) {R:TR [.sc .sl]→Pr} {w:World} (h:Clone_tx 70 2 24 (zc Pg 70) p_s R w):Cl Pg 57 [(.slice p_s.p p_s.len p_s.cap)] false [.sc .sl] R w:=
 call_eq Tryz.checked.mixed (.seq .leaf (.seq (.seq .leaf (.cond (.seq .leaf .leaf) .leaf)) (.seq .leaf .leaf))) Tryz.func57 (by kernel_rfl) (by kernel_rfl) h
abbrev i_slices_Clone_Hold:FuncId:=58
theorem slices_Clone_Hold_call (p_s:Sl) {R:TR [.sc .sl]→Pr} {w:World} (h:Clone_tx 60 2 32 (zc Pg 60) p_s R w):Cl Pg 58 [(.slice p_s.p p_s.len p_s.cap)] false [.sc .sl] R w:=
 call_eq Tryz.checked.mixed (.seq .leaf (.seq (.seq .leaf (.cond (.seq .leaf .leaf) .leaf)) (.seq .leaf .leaf))) Tryz.func58 (by kernel_rfl) (by kernel_rfl) h
abbrev i_slices_Clone_uint64:FuncId:=59
theorem slices_Clone_uint64_call (p_s:Sl) {R:TR [.sc .sl]→Pr} {w:World} (h:Clone_tx 32 1 8 (zc Pg 32) p_s R w):Cl Pg 59 [(.slice p_s.p p_s.len p_s.cap)] false [.sc .sl] R w:=
 call_eq Tryz.checked.mixed (.seq .leaf (.seq (.seq .leaf (.cond (.seq .leaf .leaf) .leaf)) (.seq .leaf .leaf))) Tryz.func59 (by kernel_rfl) (by kernel_rfl) h
abbrev i_slices_Clone_Op:FuncId:=60
theorem slices_Clone_Op_call (p_s:Sl) {R:TR [.sc .sl]→Pr} {w:World} (h:Clone_tx 81 6 80 (zc Pg 81) p_s R w):Cl Pg 60 [(.slice p_s.p p_s.len p_s.cap)] false [.sc .sl] R w:=
 call_eq Tryz.checked.mixed (.seq .leaf (.seq (.seq .leaf (.cond (.seq .leaf .leaf) .leaf)) (.seq .leaf .leaf))) Tryz.func60 (by kernel_rfl) (by kernel_rfl) h
abbrev i_op_Span:FuncId:=61
def op_Span (p_o_0:Int) (p_o_1:ByteArray) (p_o_2:ByteArray) (p_o_3:ByteArray) (p_o_4:ByteArray) (p_o_5:Int) (R:TR [.ag [.s,.s],.sc (.i .i64)]→Pr):Pr:=
 New #[(.int .i64 p_o_0),(.string p_o_1),(.string p_o_2),(.string p_o_3),(.string p_o_4),(.int .i64 p_o_5)] 81 fun a1=>
 New #[(.string (BA [])),(.string (BA []))] 37 fun a2=>
 LdI .i64 (a1.add 0) fun x3=>
 LdS (a1.add 1) fun x4=>
 LdS (a1.add 2) fun x5=>
 LdS (a1.add 3) fun x6=>
 LdS (a1.add 4) fun x7=>
 LdI .i64 (a1.add 5) fun x8=>
 Cl Pg 50 [(.agg #[(.int .i64 x3),(.string x4),(.string x5),(.string x6),(.string x7),(.int .i64 x8)])] false [.sc (.i .i64)] fun r9=>
 Br ((r9.1:Int) != 0) (
 St (a2.add 0) (.string (BA [])) <|
 St (a2.add 1) (.string (BA [])) <|
 LdS (a2.add 0) fun x10=>
 LdS (a2.add 1) fun x11=>
 R ((x10,x11,()),r9.1,())) (
 LdS (a1.add 1) fun x12=>
 Br (seq x12 (BA [])) (
 LdI .i64 (a1.add 0) fun x13=>
 LdS (a1.add 1) fun x14=>
 LdS (a1.add 2) fun x15=>
 LdS (a1.add 3) fun x16=>
 LdS (a1.add 4) fun x17=>
 LdI .i64 (a1.add 5) fun x18=>
 Cl Pg 98 [(.agg #[(.int .i64 x13),(.string x14),(.string x15),(.string x16),(.string x17),(.int .i64 x18)])] false [.ag [.s,.s]] fun r19=>
 St (a2.add 0) (.string r19.1.1) <|
 St (a2.add 1) (.string r19.1.2.1) <|
 LdS (a2.add 0) fun x20=>
 LdS (a2.add 1) fun x21=>
 R ((x20,x21,()),0,())) (
 LdS (a1.add 1) fun x22=>
 Cl Pg 100 [(.string x22)] true [.ag [.s,.s],.sc (.i .i64)] fun r23=>
 St (a2.add 0) (.string r23.1.1) <|
 St (a2.add 1) (.string r23.1.2.1) <|
 LdS (a2.add 0) fun x24=>
 LdS (a2.add 1) fun x25=>
 R ((x24,x25,()),r23.2.1,())))
theorem op_Span_call (p_o_0:Int) (p_o_1:ByteArray) (p_o_2:ByteArray) (p_o_3:ByteArray) (p_o_4:ByteArray) (p_o_5:Int) {R:TR [.ag [.s,.s],.sc (.i .i64)]→Pr} {w:World} (h:op_Span p_o_0 p_o_1 p_o_2 p_o_3 p_o_4 p_o_5 R w):Cl Pg 61 [(.agg #[(.int .i64 p_o_0),(.string p_o_1),(.string p_o_2),(.string p_o_3),(.string p_o_4),(.int .i64 p_o_5)])] true [.ag [.s,.s],.sc (.i .i64)] R w:=
 call_eq Tryz.checked.mixed (.seq .leaf (.seq (.seq .leaf (.seq .leaf (.cond (.seq .leaf .leaf) .leaf))) (.seq (.seq .leaf (.cond (.seq .leaf .leaf) .leaf)) (.seq .leaf .leaf)))) Tryz.func61 (by kernel_rfl) (by kernel_rfl) h
abbrev i_op_Writes:FuncId:=62
def op_Writes (p_o_0:Int) (p_o_1:ByteArray) (p_o_2:ByteArray) (p_o_3:ByteArray) (p_o_4:ByteArray) (p_o_5:Int) (R:TR [.sc .b]→Pr):Pr:=
 New #[(.int .i64 p_o_0),(.string p_o_1),(.string p_o_2),(.string p_o_3),(.string p_o_4),(.int .i64 p_o_5)] 81 fun a1=>
 LdI .i64 (a1.add 0) fun x2=>
 Cl Pg 97 [(.int .i64 x2)] true [.ag [.b,.b,.b,.b,.b,.v],.sc .b] fun r3=>
 New #[(.bool false),(.bool false),(.bool false),(.bool false),(.bool false),.nilFunc] 189 fun a4=>
 St (a4.add 0) (.bool r3.1.1) <|
 St (a4.add 1) (.bool r3.1.2.1) <|
 St (a4.add 2) (.bool r3.1.2.2.1) <|
 St (a4.add 3) (.bool r3.1.2.2.2.1) <|
 St (a4.add 4) (.bool r3.1.2.2.2.2.1) <|
 St (a4.add 5) r3.1.2.2.2.2.2.1 <|
 LdB (a4.add 4) fun x5=>
 R (x5,())
theorem op_Writes_call (p_o_0:Int) (p_o_1:ByteArray) (p_o_2:ByteArray) (p_o_3:ByteArray) (p_o_4:ByteArray) (p_o_5:Int) {R:TR [.sc .b]→Pr} {w:World} (h:op_Writes p_o_0 p_o_1 p_o_2 p_o_3 p_o_4 p_o_5 R w):Cl Pg 62 [(.agg #[(.int .i64 p_o_0),(.string p_o_1),(.string p_o_2),(.string p_o_3),(.string p_o_4),(.int .i64 p_o_5)])] false [.sc .b] R w:=
 call_eq Tryz.checked.mixed (.seq .leaf (.seq .leaf (.seq .leaf .leaf))) Tryz.func62 (by kernel_rfl) (by kernel_rfl) h
abbrev i_slices_ContainsFunc_Ask:FuncId:=63
theorem slices_ContainsFunc_Ask_call (p_s:Sl) (p_f:Value) {R:TR [.sc .b]→Pr} {w:World} (h:ContainsFunc_tx Pg 101 p_s p_f R w):Cl Pg 63 [(.slice p_s.p p_s.len p_s.cap),p_f] false [.sc .b] R w:=
 call_eq Tryz.checked.mixed (.seq .leaf (.seq .leaf .leaf)) Tryz.func63 (by kernel_rfl) (by kernel_rfl) h
abbrev i_locks_of:FuncId:=64
def locks_of (p_txn:Int) (R:TR [.sc .v]→Pr):Pr:=
 New #[(.int .u64 p_txn)] 32 fun a1=>
 R ((Value.func (.func 102) #[] #[(.pointer (some a1))]),())
theorem locks_of_call (p_txn:Int) {R:TR [.sc .v]→Pr} {w:World} (h:locks_of p_txn R w):Cl Pg 64 [(.int .u64 p_txn)] false [.sc .v] R w:=
 call_eq Tryz.checked.mixed (.seq .leaf (.seq .leaf .leaf)) Tryz.func64 (by kernel_rfl) (by kernel_rfl) h
abbrev i_span_Covers:FuncId:=65
def span_Covers (p_a_0:ByteArray) (p_a_1:ByteArray) (p_b_0:ByteArray) (p_b_1:ByteArray) (R:TR [.sc .b]→Pr):Pr:=
 New #[(.string p_a_0),(.string p_a_1)] 37 fun a1=>
 New #[(.string p_b_0),(.string p_b_1)] 37 fun a2=>
 Dr <|
 LdS (a1.add 0) fun x3=>
 LdS (a1.add 1) fun x4=>
 Cl Pg 45 [(.agg #[(.string x3),(.string x4)])] false [.sc (.i .i64)] fun r5=>
 Br ((r5.1:Int) == 0) (
 LdS (a2.add 0) fun x6=>
 LdS (a2.add 1) fun x7=>
 Cl Pg 45 [(.agg #[(.string x6),(.string x7)])] false [.sc (.i .i64)] fun r8=>
 Br ((r8.1:Int) == 0) (
 LdS (a1.add 0) fun x9=>
 LdS (a2.add 0) fun x10=>
 Br (slt x9 x10 || seq x9 x10) (
 LdS (a1.add 1) fun x11=>
 LdS (a2.add 1) fun x12=>
 LdS (a2.add 1) fun x13=>
 Cl Pg 103 [(.string x11),(.string x12)] false [.sc .s] fun r14=>
 Both (LdS (a2.add 1) fun x15=>
 fun _=>((.string x15):Value)=(.string x13)) <|
 R ((seq r14.1 x13),())) (
 R (false,()))) (
 R (false,()))) (
 R (false,()))
theorem span_Covers_call (p_a_0:ByteArray) (p_a_1:ByteArray) (p_b_0:ByteArray) (p_b_1:ByteArray) {R:TR [.sc .b]→Pr} {w:World} (h:span_Covers p_a_0 p_a_1 p_b_0 p_b_1 R w):Cl Pg 65 [(.agg #[(.string p_a_0),(.string p_a_1)]),(.agg #[(.string p_b_0),(.string p_b_1)])] false [.sc .b] R w:=
 call_eq Tryz.checked.mixed (.seq .leaf (.seq .leaf .leaf)) Tryz.func65 (by kernel_rfl) (by kernel_rfl) h
abbrev i_locks_against:FuncId:=66
def locks_against (p_x_0:Int) (p_x_1:ByteArray) (p_x_2:ByteArray) (p_x_3:Bool) (R:TR [.sc .v]→Pr):Pr:=
 New #[(.int .u64 p_x_0),(.string p_x_1),(.string p_x_2),(.bool p_x_3)] 146 fun a1=>
 R ((Value.func (.func 104) #[] #[(.pointer (some a1))]),())
theorem locks_against_call (p_x_0:Int) (p_x_1:ByteArray) (p_x_2:ByteArray) (p_x_3:Bool) {R:TR [.sc .v]→Pr} {w:World} (h:locks_against p_x_0 p_x_1 p_x_2 p_x_3 R w):Cl Pg 66 [(.agg #[(.int .u64 p_x_0),(.string p_x_1),(.string p_x_2),(.bool p_x_3)])] false [.sc .v] R w:=
 call_eq Tryz.checked.mixed (.seq .leaf (.seq .leaf .leaf)) Tryz.func66 (by kernel_rfl) (by kernel_rfl) h
abbrev i_locks_Table_settle:FuncId:=67
def locks_Table_settle (p_t:Option Addr) (p_dead:Sl) (R:TR [.sc .sl,.sc .sl]→Pr):Pr:=
 New #[(.pointer p_t)] 88 fun a1=>
 Lp (σ:=Sl × Sl × Sl × Sl × Unit) (fun L2 s3=>
 LdP a1 fun x4=>
 Nn x4 fun a5=>
 LdL (a5.add 1) fun x6=>
 Cl Pg 101 [(.slice x6.p x6.len x6.cap),(.func (.func 106) #[] #[(.pointer (some a1))])] false [.sc (.i .i64)] fun r7=>
 Br (decide ((r7.1:Int) < 0)) (
 Cl Pg 107 [(.slice s3.2.2.2.1.p s3.2.2.2.1.len s3.2.2.2.1.cap)] false [.sc .sl] fun r8=>
 Cl Pg 107 [(.slice s3.1.p s3.1.len s3.1.cap)] false [.sc .sl] fun r9=>
 R (r8.1,r9.1,())) (
 LdP a1 fun x10=>
 Nn x10 fun a11=>
 LdL (a11.add 1) fun x12=>
 Ix x12 r7.1 4 fun a13=>
 LdI .u64 (a13.add 0) fun x14=>
 LdS (a13.add 1) fun x15=>
 LdS (a13.add 2) fun x16=>
 LdB (a13.add 3) fun x17=>
 New #[(.int .u64 0),(.string (BA [])),(.string (BA [])),(.bool false)] 146 fun a18=>
 St (a18.add 0) (.int .u64 x14) <|
 St (a18.add 1) (.string x15) <|
 St (a18.add 2) (.string x16) <|
 St (a18.add 3) (.bool x17) <|
 Dr <|
 LdP a1 fun x19=>
 LdP a1 fun x20=>
 Nn x20 fun a21=>
 LdL (a21.add 1) fun x22=>
 Cl Pg 108 [(.slice x22.p x22.len x22.cap),(.int .i64 r7.1),(.int .i64 (w64 (r7.1 + 1)))] false [.sc .sl] fun r23=>
 Both (LdP a1 fun x24=>
 fun _=>((.pointer x24):Value)=(.pointer x19)) <|
 Nn x19 fun a25=>
 St (a25.add 1) (.slice r23.1.p r23.1.len r23.1.cap) <|
 LdI .u64 (a18.add 0) fun x26=>
 New #[(.int .u64 x26)] 32 fun a27=>
 App 32 1 8 (zc Pg 32) s3.2.2.2.1 1 (srcS (some a27) 1 1) fun r28=>
 LdP a1 fun x29=>
 LdI .u64 (a18.add 0) fun x30=>
 LdS (a18.add 1) fun x31=>
 LdS (a18.add 2) fun x32=>
 LdB (a18.add 3) fun x33=>
 Cl Pg 68 [(.pointer x29),(.agg #[(.int .u64 x30),(.string x31),(.string x32),(.bool x33)])] false [.sc .sl] fun r34=>
 App 32 1 8 (zc Pg 32) s3.1 r34.1.len (srcS r34.1.p r34.1.len 1) fun r35=>
 L2 (r35,s3.2.1,s3.2.2.1,r28,()))) (p_dead,⟨none,0,0⟩,⟨none,0,0⟩,⟨none,0,0⟩,())
theorem locks_Table_settle_call (p_t:Option Addr) (p_dead:Sl) {R:TR [.sc .sl,.sc .sl]→Pr} {w:World} (h:locks_Table_settle p_t p_dead R w):Cl Pg 67 [(.pointer p_t),(.slice p_dead.p p_dead.len p_dead.cap)] true [.sc .sl,.sc .sl] R w:=
 call_eq Tryz.checked.mixed (.seq .leaf (.seq .leaf (.block (.loop [(1,.sc .sl),(4,.sc .sl),(5,.sc .sl),(6,.sc .sl)] (.block (.seq .leaf (.seq (.seq .leaf (.cond (.seq .leaf .leaf) .leaf)) (.seq .leaf (.seq .leaf (.seq .leaf .leaf)))))))))) Tryz.func67 (by kernel_rfl) (by kernel_rfl) h
abbrev i_locks_Table_grant:FuncId:=68
def locks_Table_grant (p_t:Option Addr) (p_x_0:Int) (p_x_1:ByteArray) (p_x_2:ByteArray) (p_x_3:Bool) (R:TR [.sc .sl]→Pr):Pr:=
 New #[(.int .u64 p_x_0),(.string p_x_1),(.string p_x_2),(.bool p_x_3)] 146 fun a1=>
 Dr <|
 Nn p_t fun a2=>
 LdL (a2.add 0) fun x3=>
 LdI .u64 (a1.add 0) fun x4=>
 LdS (a1.add 1) fun x5=>
 LdS (a1.add 2) fun x6=>
 LdB (a1.add 3) fun x7=>
 New #[(.int .u64 x4),(.string x5),(.string x6),(.bool x7)] 146 fun a8=>
 Both (LdL (a2.add 0) fun x9=>
 fun _=>((.slice x9.p x9.len x9.cap):Value)=(.slice x3.p x3.len x3.cap)) <|
 App 146 4 48 (zc Pg 146) x3 1 (srcS (some a8) 1 4) fun r10=>
 Nn p_t fun a11=>
 St (a11.add 0) (.slice r10.p r10.len r10.cap) <|
 LdI .u64 (a1.add 0) fun x12=>
 LdS (a1.add 1) fun x13=>
 LdS (a1.add 2) fun x14=>
 LdB (a1.add 3) fun x15=>
 Cl Pg 66 [(.agg #[(.int .u64 x12),(.string x13),(.string x14),(.bool x15)])] false [.sc .v] fun r16=>
 Nn p_t fun a17=>
 LdL (a17.add 1) fun x18=>
 Lp (σ:=Sl × Int × Unit) (fun L19 s20=>
 Br (decide ((s20.2.1:Int) < ((x18.len:Nat):Int))) (
 Jp (σ:=Sl × Unit) (fun s22=>
 L19 (s22.1,(w64 (s20.2.1 + 1)),())) fun J21=>
 Ix x18 s20.2.1 4 fun a23=>
 LdI .u64 (a23.add 0) fun x24=>
 LdS (a23.add 1) fun x25=>
 LdS (a23.add 2) fun x26=>
 LdB (a23.add 3) fun x27=>
 New #[(.int .u64 0),(.string (BA [])),(.string (BA [])),(.bool false)] 146 fun a28=>
 St (a28.add 0) (.int .u64 x24) <|
 St (a28.add 1) (.string x25) <|
 St (a28.add 2) (.string x26) <|
 St (a28.add 3) (.bool x27) <|
 Jp (σ:=Bool × Unit) (fun s30=>
 Br s30.1 (
 LdI .u64 (a28.add 0) fun x31=>
 New #[(.int .u64 x31)] 32 fun a32=>
 App 32 1 8 (zc Pg 32) s20.1 1 (srcS (some a32) 1 1) fun r33=>
 J21 (r33,())) (
 J21 (s20.1,()))) fun J29=>
 LdI .u64 (a28.add 0) fun x34=>
 LdI .u64 (a1.add 0) fun x35=>
 Br (decide ((x34:Int) > x35)) (
 LdI .u64 (a28.add 0) fun x36=>
 LdS (a28.add 1) fun x37=>
 LdS (a28.add 2) fun x38=>
 LdB (a28.add 3) fun x39=>
 CallV Pg r16.1 [(.agg #[(.int .u64 x36),(.string x37),(.string x38),(.bool x39)])] false [.sc .b] fun r40=>
 J29 (r40.1,())) (
 J29 (false,()))) (
 Lp (σ:=Int × Unit) (fun L41 s42=>
 Br (decide ((s42.1:Int) < ((s20.1.len:Nat):Int))) (
 Ix s20.1 s42.1 1 fun a43=>
 LdI .u64 a43 fun x44=>
 Cl Pg 109 [(.pointer p_t),(.int .u64 x44)] true [] fun r45=>
 L41 ((w64 (s42.1 + 1)),())) (
 R (s20.1,()))) (0,()))) (⟨none,0,0⟩,0,())
theorem locks_Table_grant_call (p_t:Option Addr) (p_x_0:Int) (p_x_1:ByteArray) (p_x_2:ByteArray) (p_x_3:Bool) {R:TR [.sc .sl]→Pr} {w:World} (h:locks_Table_grant p_t p_x_0 p_x_1 p_x_2 p_x_3 R w):Cl Pg 68 [(.pointer p_t),(.agg #[(.int .u64 p_x_0),(.string p_x_1),(.string p_x_2),(.bool p_x_3)])] false [.sc .sl] R w:=
 call_eq Tryz.checked.mixed (.seq .leaf (.seq .leaf (.seq .leaf (.seq .leaf (.seq (.seq .leaf (.block (.loop [(5,.sc .sl),(28,.sc (.i .i64))] (.seq .leaf (.seq (.cond .leaf .leaf) (.seq (.join [(5,.sc .sl)] (.block (.seq .leaf (.seq (.join [(41,.sc .b)] .leaf) (.cond .leaf .leaf))))) .leaf)))))) (.seq (.seq .leaf (.block (.loop [(50,.sc (.i .i64))] (.seq .leaf (.seq (.cond .leaf .leaf) (.seq (.block (.seq .leaf .leaf)) .leaf)))))) (.seq .leaf .leaf))))))) Tryz.func68 (by kernel_rfl) (by kernel_rfl) h
abbrev i_slices_BinarySearchFunc_Ask:FuncId:=69
theorem slices_BinarySearchFunc_Ask_call (p_x:Sl) (p_target:Int) (p_cmp:Value) {R:TR [.sc (.i .i64),.sc .b]→Pr} {w:World} (h:BinarySearchFunc_tx Pg 4 (ldA [(.i .u64),.s,.s,.b]) p_x (.int .u64 p_target) p_cmp R w):Cl Pg 69 [(.slice p_x.p p_x.len p_x.cap),(.int .u64 p_target),p_cmp] true [.sc (.i .i64),.sc .b] R w:=
 call_eq Tryz.checked.mixed (.seq .leaf (.seq .leaf (.seq .leaf (.seq (.block (.loop [(9,.sc (.i .i64)),(10,.sc (.i .i64))] (.seq (.seq .leaf (.cond .leaf .leaf)) (.block (.seq .leaf (.seq .leaf (.cond .leaf .leaf))))))) (.seq .leaf .leaf))))) Tryz.func69 (by kernel_rfl) (by kernel_rfl) h
abbrev i_locks_Table_Ask_1:FuncId:=70
def locks_Table_Ask_1 (p_w_0:Int) (p_w_1:ByteArray) (p_w_2:ByteArray) (p_w_3:Bool) (p_n:Int) (R:TR [.sc (.i .i64)]→Pr):Pr:=
 New #[(.int .u64 p_w_0),(.string p_w_1),(.string p_w_2),(.bool p_w_3)] 146 fun a1=>
 LdI .u64 (a1.add 0) fun x2=>
 Cl Pg 71 [(.int .u64 x2),(.int .u64 p_n)] false [.sc (.i .i64)] fun r3=>
 R (r3.1,())
theorem locks_Table_Ask_1_call (p_w_0:Int) (p_w_1:ByteArray) (p_w_2:ByteArray) (p_w_3:Bool) (p_n:Int) {R:TR [.sc (.i .i64)]→Pr} {w:World} (h:locks_Table_Ask_1 p_w_0 p_w_1 p_w_2 p_w_3 p_n R w):Cl Pg 70 [(.agg #[(.int .u64 p_w_0),(.string p_w_1),(.string p_w_2),(.bool p_w_3)]),(.int .u64 p_n)] false [.sc (.i .i64)] R w:=
 call_eq Tryz.checked.mixed (.seq .leaf (.seq .leaf .leaf)) Tryz.func70 (by kernel_rfl) (by kernel_rfl) h
abbrev i_cmp_Compare_uint64:FuncId:=71
def cmp_Compare_uint64 (p_x:Int) (p_y:Int) (R:TR [.sc (.i .i64)]→Pr):Pr:=
 Cl Pg 110 [(.int .u64 p_x)] false [.sc .b] fun r1=>
 Cl Pg 110 [(.int .u64 p_y)] false [.sc .b] fun r2=>
 Br r1.1 (
 Br r2.1 (
 R (0,())) (
 R ((-1),()))) (
 Br r2.1 (
 R (1,())) (
 Br (decide ((p_x:Int) < p_y)) (
 R ((-1),())) (
 Br (decide ((p_x:Int) > p_y)) (
 R (1,())) (
 R (0,())))))
theorem cmp_Compare_uint64_call (p_x:Int) (p_y:Int) {R:TR [.sc (.i .i64)]→Pr} {w:World} (h:cmp_Compare_uint64 p_x p_y R w):Cl Pg 71 [(.int .u64 p_x),(.int .u64 p_y)] false [.sc (.i .i64)] R w:=
 call_eq Tryz.checked.mixed (.seq .leaf (.seq .leaf (.seq .leaf (.seq (.seq .leaf (.cond (.seq (.seq .leaf (.cond (.seq .leaf .leaf) .leaf)) (.seq .leaf .leaf)) .leaf)) (.seq (.seq .leaf (.cond (.seq .leaf .leaf) .leaf)) (.seq (.seq .leaf (.cond (.seq .leaf .leaf) .leaf)) (.seq (.seq .leaf (.cond (.seq .leaf .leaf) .leaf)) (.seq .leaf .leaf)))))))) Tryz.func71 (by kernel_rfl) (by kernel_rfl) h
abbrev i_slices_Insert_Ask:FuncId:=72
theorem slices_Insert_Ask_call (p_s:Sl) (p_i:Int) (p_v:Sl) {R:TR [.sc .sl]→Pr} {w:World} (h:Insert_tx Pg 111 112 146 4 48 (zc Pg 146) p_s p_i p_v R w):Cl Pg 72 [(.slice p_s.p p_s.len p_s.cap),(.int .i64 p_i),(.slice p_v.p p_v.len p_v.cap)] false [.sc .sl] R w:=
 call_eq Tryz.checked.mixed (.seq .leaf (.seq .leaf (.seq .leaf (.seq (.seq .leaf (.cond (.seq .leaf .leaf) .leaf)) (.seq .leaf (.seq (.seq .leaf (.cond (.seq .leaf .leaf) .leaf)) (.seq (.seq .leaf (.cond (.seq .leaf (.seq .leaf (.seq .leaf (.seq .leaf .leaf)))) .leaf)) (.seq .leaf (.seq (.seq .leaf (.cond (.seq .leaf (.seq .leaf (.seq .leaf .leaf))) .leaf)) (.seq .leaf (.seq .leaf (.seq .leaf .leaf)))))))))))) Tryz.func72 (by kernel_rfl) (by kernel_rfl) h
abbrev i_part_Machine_work:FuncId:=73
def part_Machine_work (p_m:Option Addr) (p_x_0:Int) (p_x_1:Int) (p_x_2:Int) (p_x_3:Int) (p_x_4:Int) (p_x_5:Int) (p_x_6:Int) (p_x_7:Int) (p_x_8:Int) (p_x_9:Int) (p_x_10:Int) (p_x_11:Int) (p_x_12:Int) (p_x_13:Int) (p_x_14:Int) (p_x_15:Bool) (p_x_16:ByteArray) (p_x_17:ByteArray) (p_x_18:Sl) (p_x_19:Sl) (p_x_20:Sl) (R:TR []→Pr):Pr:=
 New #[(.pointer p_m)] 28 fun a1=>
 New #[(.int .i64 p_x_0),(.int .i64 p_x_1),(.int .i64 p_x_2),(.int .i64 p_x_3),(.int .i64 p_x_4),(.int .i64 p_x_5),(.int .u64 p_x_6),(.int .u64 p_x_7),(.int .u64 p_x_8),(.int .u64 p_x_9),(.int .u64 p_x_10),(.int .u64 p_x_11),(.int .u64 p_x_12),(.int .u64 p_x_13),(.int .u64 p_x_14),(.bool p_x_15),(.string p_x_16),(.string p_x_17),(.slice p_x_18.p p_x_18.len p_x_18.cap),(.slice p_x_19.p p_x_19.len p_x_19.cap),(.slice p_x_20.p p_x_20.len p_x_20.cap)] 47 fun a2=>
 Jp (σ:=Unit) (fun s4=>
 LdP a1 fun x5=>
 LdI .u64 (a2.add 8) fun x6=>
 Cl Pg 115 [(.pointer x5),(.int .u64 x6)] true [.sc (.i .i64),.sc .b] fun r7=>
 Jp (σ:=Bool × Unit) (fun s9=>
 Br s9.1 (
 R ()) (
 LdP a1 fun x10=>
 LdI .u64 (a2.add 8) fun x11=>
 Cl Pg 116 [(.pointer x10),(.int .u64 x11)] true [.sc (.i .i64),.sc .b] fun r12=>
 Br r12.2.1 (
 Dr <|
 LdP a1 fun x13=>
 LdI .u64 (a2.add 8) fun x14=>
 LdP a1 fun x15=>
 LdP a1 fun x16=>
 Nn x16 fun a17=>
 LdL ((a17.add 0).add 6) fun x18=>
 Ix x18 r12.1 2 fun a19=>
 LdL (a19.add 1) fun x20=>
 Cl Pg 118 [(.pointer x15),(.slice x20.p x20.len x20.cap)] false [.sc .sl] fun r21=>
 Both (LdI .u64 (a2.add 8) fun x22=>
 fun _=>((.int .u64 x22):Value)=(.int .u64 x14)) <|
 Both (LdP a1 fun x23=>
 fun _=>((.pointer x23):Value)=(.pointer x13)) <|
 Cl Pg 117 [(.pointer x13),(.int .u64 x14),(.int .i64 3),(.slice r21.1.p r21.1.len r21.1.cap)] true [] fun r24=>
 R ()) (
 Dr <|
 LdP a1 fun x25=>
 Nn x25 fun a26=>
 LdL ((a26.add 0).add 6) fun x27=>
 LdP a1 fun x28=>
 Nn x28 fun a29=>
 LdL (a29.add 17) fun x30=>
 Jp (σ:=Bool × Unit) (fun s32=>
 Br s32.1 (
 LdP a1 fun x33=>
 LdI .u64 (a2.add 8) fun x34=>
 Cl Pg 117 [(.pointer x33),(.int .u64 x34),(.int .i64 4),(.slice none 0 0)] true [] fun r35=>
 R ()) (
 LdL (a2.add 18) fun x36=>
 Cl Pg 28 [(.slice x36.p x36.len x36.cap)] true [.sc .sl,.sc (.i .i64)] fun r37=>
 Dr <|
 LdP a1 fun x38=>
 LdP a1 fun x39=>
 Nn x39 fun a40=>
 LdL (a40.add 17) fun x41=>
 LdI .u64 (a2.add 8) fun x42=>
 LdL (a2.add 18) fun x43=>
 Cl Pg 60 [(.slice x43.p x43.len x43.cap)] false [.sc .sl] fun r44=>
 Both (LdI .u64 (a2.add 8) fun x45=>
 fun _=>((.int .u64 x45):Value)=(.int .u64 x42)) <|
 Both (LdL (a40.add 17) fun x46=>
 fun _=>((.slice x46.p x46.len x46.cap):Value)=(.slice x41.p x41.len x41.cap)) <|
 Both (LdP a1 fun x47=>
 fun _=>((.pointer x47):Value)=(.pointer x39)) <|
 Both (LdP a1 fun x48=>
 fun _=>((.pointer x48):Value)=(.pointer x38)) <|
 New #[(.int .u64 x42),(.slice r44.1.p r44.1.len r44.1.cap),(.slice r37.1.p r37.1.len r37.1.cap),(.int .i64 0)] 114 fun a49=>
 Both (LdL (a40.add 17) fun x50=>
 fun _=>((.slice x50.p x50.len x50.cap):Value)=(.slice x41.p x41.len x41.cap)) <|
 Both (LdP a1 fun x51=>
 fun _=>((.pointer x51):Value)=(.pointer x39)) <|
 Both (LdP a1 fun x52=>
 fun _=>((.pointer x52):Value)=(.pointer x38)) <|
 Cl Pg 122 [(.slice x41.p x41.len x41.cap),(.int .i64 r7.1),(.slice (some a49) 1 1)] false [.sc .sl] fun r53=>
 Both (LdP a1 fun x54=>
 fun _=>((.pointer x54):Value)=(.pointer x38)) <|
 Nn x38 fun a55=>
 St (a55.add 17) (.slice r53.1.p r53.1.len r53.1.cap) <|
 LdP a1 fun x56=>
 LdI .u64 (a2.add 8) fun x57=>
 Cl Pg 123 [(.pointer x56),(.int .u64 x57)] true [] fun r58=>
 LdP a1 fun x59=>
 Cl Pg 124 [(.pointer x59)] true [] fun r60=>
 R ())) fun J31=>
 Dr <|
 LdI .u64 (a2.add 11) fun x61=>
 LdP a1 fun x62=>
 Nn x62 fun a63=>
 LdI .u64 ((a63.add 0).add 3) fun x64=>
 Br ((x61:Int) != x64) (
 J31 (true,())) (
 Br (decide (((w64 (((x27.len:Nat):Int) + ((x30.len:Nat):Int))):Int) ≥ 6)) (
 J31 (true,())) (
 LdP a1 fun x65=>
 Nn x65 fun a66=>
 LdL ((a66.add 0).add 7) fun x67=>
 Br (decide (((w64 ((w64 (((x27.len:Nat):Int) + ((x30.len:Nat):Int))) + ((x67.len:Nat):Int))):Int) ≥ 64)) (
 J31 (true,())) (
 LdL (a2.add 18) fun x68=>
 Cl Pg 48 [(.slice x68.p x68.len x68.cap),(.func (.func 119) #[] #[(.pointer (some a1))])] false [.sc .b] fun r69=>
 Br r69.1 (
 J31 (true,())) (
 LdP a1 fun x70=>
 LdL (a2.add 18) fun x71=>
 Cl Pg 121 [(.pointer x70),(.slice x71.p x71.len x71.cap)] false [.sc .b] fun r72=>
 J31 (r72.1,())))))))) fun J8=>
 Dr <|
 LdI .u64 (a2.add 8) fun x73=>
 LdP a1 fun x74=>
 Nn x74 fun a75=>
 LdI .u64 ((a75.add 0).add 8) fun x76=>
 Br (decide ((x73:Int) < x76)) (
 J8 (true,())) (
 LdP a1 fun x77=>
 Nn x77 fun a78=>
 LdL ((a78.add 0).add 7) fun x79=>
 LdI .u64 (a2.add 8) fun x80=>
 Cl Pg 47 [(.slice x79.p x79.len x79.cap),(.int .u64 x80)] false [.sc .b] fun r81=>
 Br r81.1 (
 J8 (true,())) (
 J8 (r7.2.1,())))) fun J3=>
 Dr <|
 LdI .u64 (a2.add 9) fun x82=>
 LdP a1 fun x83=>
 Nn x83 fun a84=>
 LdI .u64 ((a84.add 0).add 8) fun x85=>
 Br (decide ((x82:Int) > x85)) (
 LdP a1 fun x86=>
 LdI .u64 (a2.add 9) fun x87=>
 Nn x86 fun a88=>
 St ((a88.add 0).add 8) (.int .u64 x87) <|
 Dr <|
 LdP a1 fun x89=>
 LdP a1 fun x90=>
 Nn x90 fun a91=>
 LdL ((a91.add 0).add 7) fun x92=>
 Cl Pg 113 [(.slice x92.p x92.len x92.cap),(.func (.func 114) #[] #[(.pointer (some a2))])] false [.sc .sl] fun r93=>
 Both (LdP a1 fun x94=>
 fun _=>((.pointer x94):Value)=(.pointer x89)) <|
 Nn x89 fun a95=>
 St ((a95.add 0).add 7) (.slice r93.1.p r93.1.len r93.1.cap) <|
 J3 ()) (
 J3 ())
theorem part_Machine_work_call (p_m:Option Addr) (p_x_0:Int) (p_x_1:Int) (p_x_2:Int) (p_x_3:Int) (p_x_4:Int) (p_x_5:Int) (p_x_6:Int) (p_x_7:Int) (p_x_8:Int) (p_x_9:Int) (p_x_10:Int) (p_x_11:Int) (p_x_12:Int) (p_x_13:Int) (p_x_14:Int) (p_x_15:Bool) (p_x_16:ByteArray) (p_x_17:ByteArray) (p_x_18:Sl) (p_x_19:Sl) (p_x_20:Sl) {R:TR []→Pr} {w:World} (h:part_Machine_work p_m p_x_0 p_x_1 p_x_2 p_x_3 p_x_4 p_x_5 p_x_6 p_x_7 p_x_8 p_x_9 p_x_10 p_x_11 p_x_12 p_x_13 p_x_14 p_x_15 p_x_16 p_x_17 p_x_18 p_x_19 p_x_20 R w):Cl Pg 73 [(.pointer p_m),(.agg #[(.int .i64 p_x_0),(.int .i64 p_x_1),(.int .i64 p_x_2),(.int .i64 p_x_3),(.int .i64 p_x_4),(.int .i64 p_x_5),(.int .u64 p_x_6),(.int .u64 p_x_7),(.int .u64 p_x_8),(.int .u64 p_x_9),(.int .u64 p_x_10),(.int .u64 p_x_11),(.int .u64 p_x_12),(.int .u64 p_x_13),(.int .u64 p_x_14),(.bool p_x_15),(.string p_x_16),(.string p_x_17),(.slice p_x_18.p p_x_18.len p_x_18.cap),(.slice p_x_19.p p_x_19.len p_x_19.cap),(.slice p_x_20.p p_x_20.len p_x_20.cap)])] true [] R w:=
 call_eq Tryz.checked.mixed (.seq .leaf (.seq (.join [] (.seq .leaf (.cond (.seq .leaf .leaf) .leaf))) (.seq .leaf (.seq (.seq (.join [(64,.sc .b)] .leaf) (.cond .leaf .leaf)) (.seq (.seq .leaf (.seq .leaf (.cond (.seq .leaf .leaf) .leaf))) (.seq .leaf (.seq .leaf (.seq (.seq (.join [(135,.sc .b)] .leaf) (.cond (.seq .leaf .leaf) .leaf)) (.seq .leaf (.seq .leaf (.seq .leaf .leaf))))))))))) Tryz.func73 (by kernel_rfl) (by kernel_rfl) h
abbrev i_part_Machine_decide:FuncId:=74
def part_Machine_decide (p_m:Option Addr) (p_x_0:Int) (p_x_1:Int) (p_x_2:Int) (p_x_3:Int) (p_x_4:Int) (p_x_5:Int) (p_x_6:Int) (p_x_7:Int) (p_x_8:Int) (p_x_9:Int) (p_x_10:Int) (p_x_11:Int) (p_x_12:Int) (p_x_13:Int) (p_x_14:Int) (p_x_15:Bool) (p_x_16:ByteArray) (p_x_17:ByteArray) (p_x_18:Sl) (p_x_19:Sl) (p_x_20:Sl) (R:TR []→Pr):Pr:=
 New #[(.int .i64 p_x_0),(.int .i64 p_x_1),(.int .i64 p_x_2),(.int .i64 p_x_3),(.int .i64 p_x_4),(.int .i64 p_x_5),(.int .u64 p_x_6),(.int .u64 p_x_7),(.int .u64 p_x_8),(.int .u64 p_x_9),(.int .u64 p_x_10),(.int .u64 p_x_11),(.int .u64 p_x_12),(.int .u64 p_x_13),(.int .u64 p_x_14),(.bool p_x_15),(.string p_x_16),(.string p_x_17),(.slice p_x_18.p p_x_18.len p_x_18.cap),(.slice p_x_19.p p_x_19.len p_x_19.cap),(.slice p_x_20.p p_x_20.len p_x_20.cap)] 47 fun a1=>
 LdI .u64 (a1.add 8) fun x2=>
 Cl Pg 38 [(.pointer p_m),(.agg #[(.int .i64 6),(.int .i64 0),(.int .i64 0),(.int .i64 0),(.int .i64 0),(.int .i64 0),(.int .u64 0),(.int .u64 0),(.int .u64 x2),(.int .u64 0),(.int .u64 0),(.int .u64 0),(.int .u64 0),(.int .u64 0),(.int .u64 0),(.bool false),(.string (BA [])),(.string (BA [])),(.slice none 0 0),(.slice none 0 0),(.slice none 0 0)])] true [] fun r3=>
 LdI .u64 (a1.add 8) fun x4=>
 Cl Pg 116 [(.pointer p_m),(.int .u64 x4)] true [.sc (.i .i64),.sc .b] fun r5=>
 Br r5.2.1 (
 Nn p_m fun a6=>
 LdL ((a6.add 0).add 6) fun x7=>
 Ix x7 r5.1 2 fun a8=>
 LdL (a8.add 1) fun x9=>
 Nn p_m fun a10=>
 LdL ((a10.add 0).add 6) fun x11=>
 Cl Pg 125 [(.slice x11.p x11.len x11.cap),(.int .i64 r5.1),(.int .i64 (w64 (r5.1 + 1)))] false [.sc .sl] fun r12=>
 Nn p_m fun a13=>
 St ((a13.add 0).add 6) (.slice r12.1.p r12.1.len r12.1.cap) <|
 Lp (σ:=Int × Unit) (fun L14 s15=>
 Br (decide ((s15.1:Int) < ((x9.len:Nat):Int))) (
 Jp (σ:=Unit) (fun s17=>
 L14 ((w64 (s15.1 + 1)),())) fun J16=>
 Ix x9 s15.1 6 fun a18=>
 LdI .i64 (a18.add 0) fun x19=>
 LdS (a18.add 1) fun x20=>
 LdS (a18.add 2) fun x21=>
 LdS (a18.add 3) fun x22=>
 LdS (a18.add 4) fun x23=>
 LdI .i64 (a18.add 5) fun x24=>
 New #[(.int .i64 0),(.string (BA [])),(.string (BA [])),(.string (BA [])),(.string (BA [])),(.int .i64 0)] 81 fun a25=>
 St (a25.add 0) (.int .i64 x19) <|
 St (a25.add 1) (.string x20) <|
 St (a25.add 2) (.string x21) <|
 St (a25.add 3) (.string x22) <|
 St (a25.add 4) (.string x23) <|
 St (a25.add 5) (.int .i64 x24) <|
 Jp (σ:=Bool × Unit) (fun s27=>
 Br s27.1 (
 Dr <|
 Nn p_m fun a28=>
 LdL ((a28.add 21).add 1) fun x29=>
 LdI .i64 (a25.add 0) fun x30=>
 LdS (a25.add 1) fun x31=>
 LdS (a25.add 2) fun x32=>
 LdS (a25.add 3) fun x33=>
 LdS (a25.add 4) fun x34=>
 LdI .i64 (a25.add 5) fun x35=>
 New #[(.int .i64 x30),(.string x31),(.string x32),(.string x33),(.string x34),(.int .i64 x35)] 81 fun a36=>
 Both (LdL ((a28.add 21).add 1) fun x37=>
 fun _=>((.slice x37.p x37.len x37.cap):Value)=(.slice x29.p x29.len x29.cap)) <|
 App 81 6 80 (zc Pg 81) x29 1 (srcS (some a36) 1 6) fun r38=>
 Nn p_m fun a39=>
 St ((a39.add 21).add 1) (.slice r38.p r38.len r38.cap) <|
 LdI .i64 (a25.add 0) fun x40=>
 LdS (a25.add 1) fun x41=>
 LdS (a25.add 2) fun x42=>
 LdS (a25.add 3) fun x43=>
 LdS (a25.add 4) fun x44=>
 LdI .i64 (a25.add 5) fun x45=>
 Cl Pg 126 [(.pointer p_m),(.agg #[(.int .i64 x40),(.string x41),(.string x42),(.string x43),(.string x44),(.int .i64 x45)])] true [] fun r46=>
 J16 ()) (
 J16 ())) fun J26=>
 LdB (a1.add 15) fun x47=>
 Br x47 (
 LdI .i64 (a25.add 0) fun x48=>
 LdS (a25.add 1) fun x49=>
 LdS (a25.add 2) fun x50=>
 LdS (a25.add 3) fun x51=>
 LdS (a25.add 4) fun x52=>
 LdI .i64 (a25.add 5) fun x53=>
 Cl Pg 62 [(.agg #[(.int .i64 x48),(.string x49),(.string x50),(.string x51),(.string x52),(.int .i64 x53)])] false [.sc .b] fun r54=>
 J26 (r54.1,())) (
 J26 (false,()))) (
 LdI .u64 (a1.add 8) fun x55=>
 Cl Pg 127 [(.pointer p_m),(.int .u64 x55)] true [] fun r56=>
 R ())) (0,())) (
 LdI .u64 (a1.add 8) fun x57=>
 Cl Pg 115 [(.pointer p_m),(.int .u64 x57)] true [.sc (.i .i64),.sc .b] fun r58=>
 Br r58.2.1 (
 Nn p_m fun a59=>
 LdL (a59.add 17) fun x60=>
 Cl Pg 128 [(.slice x60.p x60.len x60.cap),(.int .i64 r58.1),(.int .i64 (w64 (r58.1 + 1)))] false [.sc .sl] fun r61=>
 Nn p_m fun a62=>
 St (a62.add 17) (.slice r61.1.p r61.1.len r61.1.cap) <|
 LdI .u64 (a1.add 8) fun x63=>
 Cl Pg 127 [(.pointer p_m),(.int .u64 x63)] true [] fun r64=>
 R ()) (
 R ()))
theorem part_Machine_decide_call (p_m:Option Addr) (p_x_0:Int) (p_x_1:Int) (p_x_2:Int) (p_x_3:Int) (p_x_4:Int) (p_x_5:Int) (p_x_6:Int) (p_x_7:Int) (p_x_8:Int) (p_x_9:Int) (p_x_10:Int) (p_x_11:Int) (p_x_12:Int) (p_x_13:Int) (p_x_14:Int) (p_x_15:Bool) (p_x_16:ByteArray) (p_x_17:ByteArray) (p_x_18:Sl) (p_x_19:Sl) (p_x_20:Sl) {R:TR []→Pr} {w:World} (h:part_Machine_decide p_m p_x_0 p_x_1 p_x_2 p_x_3 p_x_4 p_x_5 p_x_6 p_x_7 p_x_8 p_x_9 p_x_10 p_x_11 p_x_12 p_x_13 p_x_14 p_x_15 p_x_16 p_x_17 p_x_18 p_x_19 p_x_20 R w):Cl Pg 74 [(.pointer p_m),(.agg #[(.int .i64 p_x_0),(.int .i64 p_x_1),(.int .i64 p_x_2),(.int .i64 p_x_3),(.int .i64 p_x_4),(.int .i64 p_x_5),(.int .u64 p_x_6),(.int .u64 p_x_7),(.int .u64 p_x_8),(.int .u64 p_x_9),(.int .u64 p_x_10),(.int .u64 p_x_11),(.int .u64 p_x_12),(.int .u64 p_x_13),(.int .u64 p_x_14),(.bool p_x_15),(.string p_x_16),(.string p_x_17),(.slice p_x_18.p p_x_18.len p_x_18.cap),(.slice p_x_19.p p_x_19.len p_x_19.cap),(.slice p_x_20.p p_x_20.len p_x_20.cap)])] true [] R w:=
 call_eq Tryz.checked.mixed (.seq .leaf (.seq .leaf (.seq .leaf (.seq .leaf (.cond (.seq .leaf (.seq .leaf (.seq (.seq .leaf (.block (.loop [(48,.sc (.i .i64))] (.seq .leaf (.seq (.cond .leaf .leaf) (.seq (.join [] (.block (.seq .leaf (.seq (.join [(57,.sc .b)] .leaf) (.cond (.seq .leaf .leaf) .leaf))))) .leaf)))))) .leaf))) (.seq .leaf (.seq .leaf (.cond (.seq .leaf .leaf) .leaf)))))))) Tryz.func74 (by kernel_rfl) (by kernel_rfl) h
abbrev i_wire_formOf:FuncId:=79
def wire_formOf (p_kind:Int) (R:TR [.ag [.s,.v,.v,.v],.sc .b]→Pr):Pr:=
 New #[(.string (BA [])),.nilFunc,.nilFunc,.nilFunc] 162 fun a1=>
 NewObj (.map #[] 0) fun m2=>
 Req (((.func (.func 135) #[] #[]):Value).oneCell'=true) <|
 Req (((.func (.func 136) #[] #[]):Value).oneCell'=true) <|
 Req (((.func (.func 137) #[] #[]):Value).oneCell'=true) <|
 MSet (.int .i64) (some m2) (.int .i64 1) (.agg #[(.string (BA [113,98,111])),(.func (.func 135) #[] #[]),(.func (.func 136) #[] #[]),(.func (.func 137) #[] #[])]) <|
 Req (((.func (.func 136) #[] #[]):Value).oneCell'=true) <|
 Req (((.func (.func 135) #[] #[]):Value).oneCell'=true) <|
 Req (((.func (.func 139) #[] #[]):Value).oneCell'=true) <|
 MSet (.int .i64) (some m2) (.int .i64 2) (.agg #[(.string (BA [113,98,99,115])),(.func (.func 136) #[] #[]),(.func (.func 135) #[] #[]),(.func (.func 139) #[] #[])]) <|
 Req (((.func (.func 136) #[] #[]):Value).oneCell'=true) <|
 Req (((.func (.func 141) #[] #[]):Value).oneCell'=true) <|
 Req (((.func (.func 142) #[] #[]):Value).oneCell'=true) <|
 MSet (.int .i64) (some m2) (.int .i64 3) (.agg #[(.string (BA [116,108,101,111])),(.func (.func 136) #[] #[]),(.func (.func 141) #[] #[]),(.func (.func 142) #[] #[])]) <|
 Req (((.func (.func 141) #[] #[]):Value).oneCell'=true) <|
 Req (((.func (.func 136) #[] #[]):Value).oneCell'=true) <|
 Req (((.func (.func 144) #[] #[]):Value).oneCell'=true) <|
 MSet (.int .i64) (some m2) (.int .i64 4) (.agg #[(.string (BA [116,99,115])),(.func (.func 141) #[] #[]),(.func (.func 136) #[] #[]),(.func (.func 144) #[] #[])]) <|
 Req (((.func (.func 136) #[] #[]):Value).oneCell'=true) <|
 Req (((.func (.func 141) #[] #[]):Value).oneCell'=true) <|
 Req (((.func (.func 145) #[] #[]):Value).oneCell'=true) <|
 MSet (.int .i64) (some m2) (.int .i64 5) (.agg #[(.string (BA [116,102])),(.func (.func 136) #[] #[]),(.func (.func 141) #[] #[]),(.func (.func 145) #[] #[])]) <|
 Req (((.func (.func 141) #[] #[]):Value).oneCell'=true) <|
 Req (((.func (.func 136) #[] #[]):Value).oneCell'=true) <|
 Req (((.func (.func 145) #[] #[]):Value).oneCell'=true) <|
 MSet (.int .i64) (some m2) (.int .i64 6) (.agg #[(.string (BA [116])),(.func (.func 141) #[] #[]),(.func (.func 136) #[] #[]),(.func (.func 145) #[] #[])]) <|
 Req (((.func (.func 141) #[] #[]):Value).oneCell'=true) <|
 Req (((.func (.func 136) #[] #[]):Value).oneCell'=true) <|
 Req (((.func (.func 145) #[] #[]):Value).oneCell'=true) <|
 MSet (.int .i64) (some m2) (.int .i64 7) (.agg #[(.string (BA [116])),(.func (.func 141) #[] #[]),(.func (.func 136) #[] #[]),(.func (.func 145) #[] #[])]) <|
 Req (((.func (.func 136) #[] #[]):Value).oneCell'=true) <|
 Req (((.func (.func 141) #[] #[]):Value).oneCell'=true) <|
 Req (((.func (.func 146) #[] #[]):Value).oneCell'=true) <|
 MSet (.int .i64) (some m2) (.int .i64 8) (.agg #[(.string (BA [118,101,109,119])),(.func (.func 136) #[] #[]),(.func (.func 141) #[] #[]),(.func (.func 146) #[] #[])]) <|
 Req (((.func (.func 141) #[] #[]):Value).oneCell'=true) <|
 Req (((.func (.func 136) #[] #[]):Value).oneCell'=true) <|
 Req (((.func (.func 145) #[] #[]):Value).oneCell'=true) <|
 MSet (.int .i64) (some m2) (.int .i64 9) (.agg #[(.string (BA [118])),(.func (.func 141) #[] #[]),(.func (.func 136) #[] #[]),(.func (.func 145) #[] #[])]) <|
 Req (((.func (.func 136) #[] #[]):Value).oneCell'=true) <|
 Req (((.func (.func 141) #[] #[]):Value).oneCell'=true) <|
 Req (((.func (.func 147) #[] #[]):Value).oneCell'=true) <|
 MSet (.int .i64) (some m2) (.int .i64 10) (.agg #[(.string (BA [118,109,112,102,114])),(.func (.func 136) #[] #[]),(.func (.func 141) #[] #[]),(.func (.func 147) #[] #[])]) <|
 Req (((.func (.func 141) #[] #[]):Value).oneCell'=true) <|
 Req (((.func (.func 141) #[] #[]):Value).oneCell'=true) <|
 Req (((.func (.func 148) #[] #[]):Value).oneCell'=true) <|
 MSet (.int .i64) (some m2) (.int .i64 11) (.agg #[(.string (BA [109,97,110,114,111])),(.func (.func 141) #[] #[]),(.func (.func 141) #[] #[]),(.func (.func 148) #[] #[])]) <|
 Req (((.func (.func 141) #[] #[]):Value).oneCell'=true) <|
 Req (((.func (.func 141) #[] #[]):Value).oneCell'=true) <|
 Req (((.func (.func 150) #[] #[]):Value).oneCell'=true) <|
 MSet (.int .i64) (some m2) (.int .i64 12) (.agg #[(.string (BA [109,97,110])),(.func (.func 141) #[] #[]),(.func (.func 141) #[] #[]),(.func (.func 150) #[] #[])]) <|
 Req (((.func (.func 141) #[] #[]):Value).oneCell'=true) <|
 Req (((.func (.func 136) #[] #[]):Value).oneCell'=true) <|
 Req (((.func (.func 145) #[] #[]):Value).oneCell'=true) <|
 MSet (.int .i64) (some m2) (.int .i64 13) (.agg #[(.string (BA [109])),(.func (.func 141) #[] #[]),(.func (.func 136) #[] #[]),(.func (.func 145) #[] #[])]) <|
 Req (((.func (.func 141) #[] #[]):Value).oneCell'=true) <|
 Req (((.func (.func 136) #[] #[]):Value).oneCell'=true) <|
 Req (((.func (.func 145) #[] #[]):Value).oneCell'=true) <|
 MSet (.int .i64) (some m2) (.int .i64 14) (.agg #[(.string (BA [109])),(.func (.func 141) #[] #[]),(.func (.func 136) #[] #[]),(.func (.func 145) #[] #[])]) <|
 LkA [.s,.v,.v,.v] (.agg #[(.string (BA [])),.nilFunc,.nilFunc,.nilFunc]) (.int .i64) (some m2) (.int .i64 p_kind) fun x3 b4=>
 New #[(.string (BA [])),.nilFunc,.nilFunc,.nilFunc] 162 fun a5=>
 St (a5.add 0) (.string x3.1) <|
 St (a5.add 1) x3.2.1 <|
 St (a5.add 2) x3.2.2.1 <|
 St (a5.add 3) x3.2.2.2.1 <|
 LdS (a5.add 0) fun x6=>
 LdV (a5.add 1) fun x7=>
 LdV (a5.add 2) fun x8=>
 LdV (a5.add 3) fun x9=>
 St (a1.add 0) (.string x6) <|
 St (a1.add 1) x7 <|
 St (a1.add 2) x8 <|
 St (a1.add 3) x9 <|
 LdS (a1.add 0) fun x10=>
 LdV (a1.add 1) fun x11=>
 LdV (a1.add 2) fun x12=>
 LdV (a1.add 3) fun x13=>
 R ((x10,x11,x12,x13,()),b4,())
theorem wire_formOf_call (p_kind:Int) {R:TR [.ag [.s,.v,.v,.v],.sc .b]→Pr} {w:World} (h:wire_formOf p_kind R w):Cl Pg 79 [(.int .i64 p_kind)] true [.ag [.s,.v,.v,.v],.sc .b] R w:=
 call_eq Tryz.checked.mixed (.seq .leaf (.seq .leaf (.seq .leaf .leaf))) Tryz.func79 (by kernel_rfl) (by kernel_rfl) h
abbrev i_wire_all:FuncId:=80
def wire_all  (R:TR [.sc .m]→Pr):Pr:=
 NewObj (.map #[] 0) fun m1=>
 Cl Pg 151 [(.func (.func 152) #[] #[])] false [.ag [.v,.v,.v]] fun r2=>
 MSet (.int .i32) (some m1) (.int .i32 113) (.agg #[r2.1.1,r2.1.2.1,r2.1.2.2.1]) <|
 Cl Pg 151 [(.func (.func 153) #[] #[])] false [.ag [.v,.v,.v]] fun r3=>
 MSet (.int .i32) (some m1) (.int .i32 98) (.agg #[r3.1.1,r3.1.2.1,r3.1.2.2.1]) <|
 Cl Pg 151 [(.func (.func 154) #[] #[])] false [.ag [.v,.v,.v]] fun r4=>
 MSet (.int .i32) (some m1) (.int .i32 116) (.agg #[r4.1.1,r4.1.2.1,r4.1.2.2.1]) <|
 Cl Pg 151 [(.func (.func 155) #[] #[])] false [.ag [.v,.v,.v]] fun r5=>
 MSet (.int .i32) (some m1) (.int .i32 108) (.agg #[r5.1.1,r5.1.2.1,r5.1.2.2.1]) <|
 Cl Pg 151 [(.func (.func 156) #[] #[])] false [.ag [.v,.v,.v]] fun r6=>
 MSet (.int .i32) (some m1) (.int .i32 118) (.agg #[r6.1.1,r6.1.2.1,r6.1.2.2.1]) <|
 Cl Pg 151 [(.func (.func 157) #[] #[])] false [.ag [.v,.v,.v]] fun r7=>
 MSet (.int .i32) (some m1) (.int .i32 101) (.agg #[r7.1.1,r7.1.2.1,r7.1.2.2.1]) <|
 Cl Pg 151 [(.func (.func 158) #[] #[])] false [.ag [.v,.v,.v]] fun r8=>
 MSet (.int .i32) (some m1) (.int .i32 109) (.agg #[r8.1.1,r8.1.2.1,r8.1.2.2.1]) <|
 Cl Pg 151 [(.func (.func 159) #[] #[])] false [.ag [.v,.v,.v]] fun r9=>
 MSet (.int .i32) (some m1) (.int .i32 97) (.agg #[r9.1.1,r9.1.2.1,r9.1.2.2.1]) <|
 Cl Pg 151 [(.func (.func 160) #[] #[])] false [.ag [.v,.v,.v]] fun r10=>
 MSet (.int .i32) (some m1) (.int .i32 110) (.agg #[r10.1.1,r10.1.2.1,r10.1.2.2.1]) <|
 Cl Pg 161 [(.func (.func 162) #[] #[])] false [.ag [.v,.v,.v]] fun r11=>
 MSet (.int .i32) (some m1) (.int .i32 99) (.agg #[r11.1.1,r11.1.2.1,r11.1.2.2.1]) <|
 Cl Pg 161 [(.func (.func 163) #[] #[])] false [.ag [.v,.v,.v]] fun r12=>
 MSet (.int .i32) (some m1) (.int .i32 112) (.agg #[r12.1.1,r12.1.2.1,r12.1.2.2.1]) <|
 Req (((.func (.func 164) #[] #[]):Value).oneCell'=true) <|
 Req (((.func (.func 166) #[] #[]):Value).oneCell'=true) <|
 Req (((.func (.func 168) #[] #[]):Value).oneCell'=true) <|
 MSet (.int .i32) (some m1) (.int .i32 102) (.agg #[(.func (.func 164) #[] #[]),(.func (.func 166) #[] #[]),(.func (.func 168) #[] #[])]) <|
 Req (((.func (.func 169) #[] #[]):Value).oneCell'=true) <|
 Req (((.func (.func 171) #[] #[]):Value).oneCell'=true) <|
 Req (((.func (.func 173) #[] #[]):Value).oneCell'=true) <|
 MSet (.int .i32) (some m1) (.int .i32 114) (.agg #[(.func (.func 169) #[] #[]),(.func (.func 171) #[] #[]),(.func (.func 173) #[] #[])]) <|
 Cl Pg 174 [(.func (.func 175) #[] #[]),(.func (.func 176) #[] #[]),(.func (.func 177) #[] #[])] false [.ag [.v,.v,.v]] fun r13=>
 MSet (.int .i32) (some m1) (.int .i32 111) (.agg #[r13.1.1,r13.1.2.1,r13.1.2.2.1]) <|
 Cl Pg 178 [(.func (.func 179) #[] #[]),(.func (.func 180) #[] #[]),(.func (.func 181) #[] #[])] false [.ag [.v,.v,.v]] fun r14=>
 MSet (.int .i32) (some m1) (.int .i32 115) (.agg #[r14.1.1,r14.1.2.1,r14.1.2.2.1]) <|
 Cl Pg 182 [(.func (.func 183) #[] #[]),(.func (.func 184) #[] #[]),(.func (.func 185) #[] #[])] false [.ag [.v,.v,.v]] fun r15=>
 MSet (.int .i32) (some m1) (.int .i32 119) (.agg #[r15.1.1,r15.1.2.1,r15.1.2.2.1]) <|
 R ((some m1),())
theorem wire_all_call  {R:TR [.sc .m]→Pr} {w:World} (h:wire_all  R w):Cl Pg 80 [] false [.sc .m] R w:=
 call_eq Tryz.checked.mixed (.seq .leaf (.seq .leaf .leaf)) Tryz.func80 (by kernel_rfl) (by kernel_rfl) h
abbrev i_slices_Contains_rune:FuncId:=81
def slices_Contains_rune (p_s:Sl) (p_v:Int) (R:TR [.sc .b]→Pr):Pr:=
 Cl Pg 186 [(.slice p_s.p p_s.len p_s.cap),(.int .i32 p_v)] false [.sc (.i .i64)] fun r1=>
 R ((decide ((r1.1:Int) ≥ 0)),())
theorem slices_Contains_rune_call (p_s:Sl) (p_v:Int) {R:TR [.sc .b]→Pr} {w:World} (h:slices_Contains_rune p_s p_v R w):Cl Pg 81 [(.slice p_s.p p_s.len p_s.cap),(.int .i32 p_v)] false [.sc .b] R w:=
 call_eq Tryz.checked.mixed (.seq .leaf (.seq .leaf .leaf)) Tryz.func81 (by kernel_rfl) (by kernel_rfl) h
end Go.Proofs.YthkdehgfdllpoaaGreat
set_option linter.unusedVariables false
namespace Go.Proofs.YthkdehgfdllpoaaGreat
open Go Go.Sx
abbrev i_part_same:FuncId:=82
def part_same (p_a_0:Int) (p_a_1:Int) (p_a_2:Int) (p_a_3:Int) (p_a_4:Int) (p_a_5:Sl) (p_a_6:Sl) (p_a_7:Sl) (p_a_8:Int) (p_a_9:Int) (p_a_10:ByteArray) (p_a_11:ByteArray) (p_a_12:Int) (p_a_13:Int) (p_a_14:Int) (p_a_15:ByteArray) (p_a_16:ByteArray) (p_b_0:Int) (p_b_1:Int) (p_b_2:Int) (p_b_3:Int) (p_b_4:Int) (p_b_5:Sl) (p_b_6:Sl) (p_b_7:Sl) (p_b_8:Int) (p_b_9:Int) (p_b_10:ByteArray) (p_b_11:ByteArray) (p_b_12:Int) (p_b_13:Int) (p_b_14:Int) (p_b_15:ByteArray) (p_b_16:ByteArray) (R:TR [.sc .b]→Pr):Pr:=
 New #[(.int .i64 p_a_0),(.int .u64 p_a_1),(.int .u64 p_a_2),(.int .u64 p_a_3),(.int .u64 p_a_4),(.slice p_a_5.p p_a_5.len p_a_5.cap),(.slice p_a_6.p p_a_6.len p_a_6.cap),(.slice p_a_7.p p_a_7.len p_a_7.cap),(.int .u64 p_a_8),(.int .u64 p_a_9),(.string p_a_10),(.string p_a_11),(.int .u64 p_a_12),(.int .u64 p_a_13),(.int .u64 p_a_14),(.string p_a_15),(.string p_a_16)] 41 fun a1=>
 New #[(.int .i64 p_b_0),(.int .u64 p_b_1),(.int .u64 p_b_2),(.int .u64 p_b_3),(.int .u64 p_b_4),(.slice p_b_5.p p_b_5.len p_b_5.cap),(.slice p_b_6.p p_b_6.len p_b_6.cap),(.slice p_b_7.p p_b_7.len p_b_7.cap),(.int .u64 p_b_8),(.int .u64 p_b_9),(.string p_b_10),(.string p_b_11),(.int .u64 p_b_12),(.int .u64 p_b_13),(.int .u64 p_b_14),(.string p_b_15),(.string p_b_16)] 41 fun a2=>
 LdI .i64 (a1.add 0) fun x3=>
 LdI .u64 (a1.add 1) fun x4=>
 LdI .u64 (a1.add 2) fun x5=>
 LdI .u64 (a1.add 3) fun x6=>
 LdI .u64 (a1.add 4) fun x7=>
 LdL (a1.add 5) fun x8=>
 LdL (a1.add 6) fun x9=>
 LdL (a1.add 7) fun x10=>
 LdI .u64 (a1.add 8) fun x11=>
 LdI .u64 (a1.add 9) fun x12=>
 LdS (a1.add 10) fun x13=>
 LdS (a1.add 11) fun x14=>
 LdI .u64 (a1.add 12) fun x15=>
 LdI .u64 (a1.add 13) fun x16=>
 LdI .u64 (a1.add 14) fun x17=>
 LdS (a1.add 15) fun x18=>
 LdS (a1.add 16) fun x19=>
 Cl Pg 187 [(.agg #[(.int .i64 x3),(.int .u64 x4),(.int .u64 x5),(.int .u64 x6),(.int .u64 x7),(.slice x8.p x8.len x8.cap),(.slice x9.p x9.len x9.cap),(.slice x10.p x10.len x10.cap),(.int .u64 x11),(.int .u64 x12),(.string x13),(.string x14),(.int .u64 x15),(.int .u64 x16),(.int .u64 x17),(.string x18),(.string x19)])] true [.sc .sl,.sc (.i .i64)] fun r20=>
 LdI .i64 (a2.add 0) fun x21=>
 LdI .u64 (a2.add 1) fun x22=>
 LdI .u64 (a2.add 2) fun x23=>
 LdI .u64 (a2.add 3) fun x24=>
 LdI .u64 (a2.add 4) fun x25=>
 LdL (a2.add 5) fun x26=>
 LdL (a2.add 6) fun x27=>
 LdL (a2.add 7) fun x28=>
 LdI .u64 (a2.add 8) fun x29=>
 LdI .u64 (a2.add 9) fun x30=>
 LdS (a2.add 10) fun x31=>
 LdS (a2.add 11) fun x32=>
 LdI .u64 (a2.add 12) fun x33=>
 LdI .u64 (a2.add 13) fun x34=>
 LdI .u64 (a2.add 14) fun x35=>
 LdS (a2.add 15) fun x36=>
 LdS (a2.add 16) fun x37=>
 Cl Pg 187 [(.agg #[(.int .i64 x21),(.int .u64 x22),(.int .u64 x23),(.int .u64 x24),(.int .u64 x25),(.slice x26.p x26.len x26.cap),(.slice x27.p x27.len x27.cap),(.slice x28.p x28.len x28.cap),(.int .u64 x29),(.int .u64 x30),(.string x31),(.string x32),(.int .u64 x33),(.int .u64 x34),(.int .u64 x35),(.string x36),(.string x37)])] true [.sc .sl,.sc (.i .i64)] fun r38=>
 Br ((r20.2.1:Int) == 0) (
 Br ((r38.2.1:Int) == 0) (
 BtoS r20.1 fun s39=>
 BtoS r38.1 fun s40=>
 R ((seq s39 s40),())) (
 R (false,()))) (
 R (false,()))
theorem part_same_call (p_a_0:Int) (p_a_1:Int) (p_a_2:Int) (p_a_3:Int) (p_a_4:Int) (p_a_5:Sl) (p_a_6:Sl) (p_a_7:Sl) (p_a_8:Int) (p_a_9:Int) (p_a_10:ByteArray) (p_a_11:ByteArray) (p_a_12:Int) (p_a_13:Int) (p_a_14:Int) (p_a_15:ByteArray) (p_a_16:ByteArray) (p_b_0:Int) (p_b_1:Int) (p_b_2:Int) (p_b_3:Int) (p_b_4:Int) (p_b_5:Sl) (p_b_6:Sl) (p_b_7:Sl) (p_b_8:Int) (p_b_9:Int) (p_b_10:ByteArray) (p_b_11:ByteArray) (p_b_12:Int) (p_b_13:Int) (p_b_14:Int) (p_b_15:ByteArray) (p_b_16:ByteArray) {R:TR [.sc .b]→Pr} {w:World} (h:part_same p_a_0 p_a_1 p_a_2 p_a_3 p_a_4 p_a_5 p_a_6 p_a_7 p_a_8 p_a_9 p_a_10 p_a_11 p_a_12 p_a_13 p_a_14 p_a_15 p_a_16 p_b_0 p_b_1 p_b_2 p_b_3 p_b_4 p_b_5 p_b_6 p_b_7 p_b_8 p_b_9 p_b_10 p_b_11 p_b_12 p_b_13 p_b_14 p_b_15 p_b_16 R w):Cl Pg 82 [(.agg #[(.int .i64 p_a_0),(.int .u64 p_a_1),(.int .u64 p_a_2),(.int .u64 p_a_3),(.int .u64 p_a_4),(.slice p_a_5.p p_a_5.len p_a_5.cap),(.slice p_a_6.p p_a_6.len p_a_6.cap),(.slice p_a_7.p p_a_7.len p_a_7.cap),(.int .u64 p_a_8),(.int .u64 p_a_9),(.string p_a_10),(.string p_a_11),(.int .u64 p_a_12),(.int .u64 p_a_13),(.int .u64 p_a_14),(.string p_a_15),(.string p_a_16)]),(.agg #[(.int .i64 p_b_0),(.int .u64 p_b_1),(.int .u64 p_b_2),(.int .u64 p_b_3),(.int .u64 p_b_4),(.slice p_b_5.p p_b_5.len p_b_5.cap),(.slice p_b_6.p p_b_6.len p_b_6.cap),(.slice p_b_7.p p_b_7.len p_b_7.cap),(.int .u64 p_b_8),(.int .u64 p_b_9),(.string p_b_10),(.string p_b_11),(.int .u64 p_b_12),(.int .u64 p_b_13),(.int .u64 p_b_14),(.string p_b_15),(.string p_b_16)])] false [.sc .b] R w:=
 call_eq Tryz.checked.mixed (.seq .leaf (.seq .leaf (.seq .leaf (.seq .leaf .leaf)))) Tryz.func82 (by kernel_rfl) (by kernel_rfl) h
abbrev i_sumpterref04_Find:FuncId:=83
def sumpterref04_Find (p_m:Sl) (p_k:ByteArray) (R:TR [.sc .s,.sc .b]→Pr):Pr:=
 Lp (σ:=ByteArray × Bool × Int × Unit) (fun L1 s2=>
 Br (decide ((s2.2.2.1:Int) < ((p_m.len:Nat):Int))) (
 Ix p_m s2.2.2.1 2 fun a3=>
 LdS (a3.add 0) fun x4=>
 LdS (a3.add 1) fun x5=>
 New #[(.string (BA [])),(.string (BA []))] 111 fun a6=>
 St (a6.add 0) (.string x4) <|
 St (a6.add 1) (.string x5) <|
 LdS (a6.add 0) fun x7=>
 Br (seq x7 p_k) (
 LdS (a6.add 1) fun x8=>
 R (x8,true,())) (
 L1 (s2.1,s2.2.1,(w64 (s2.2.2.1 + 1)),()))) (
 R ((BA []),false,()))) ((BA []),false,0,())
theorem sumpterref04_Find_call (p_m:Sl) (p_k:ByteArray) {R:TR [.sc .s,.sc .b]→Pr} {w:World} (h:sumpterref04_Find p_m p_k R w):Cl Pg 83 [(.slice p_m.p p_m.len p_m.cap),(.string p_k)] true [.sc .s,.sc .b] R w:=
 call_eq Tryz.checked.mixed (.seq .leaf (.seq (.seq .leaf (.block (.loop [(4,.sc .s),(5,.sc .b),(10,.sc (.i .i64))] (.seq .leaf (.seq (.cond .leaf .leaf) (.seq (.block (.seq .leaf (.seq .leaf (.cond (.seq .leaf .leaf) .leaf)))) .leaf)))))) (.seq .leaf .leaf))) Tryz.func83 (by kernel_rfl) (by kernel_rfl) h
abbrev i_sumpterref04_put:FuncId:=84
def sumpterref04_put (p_m:Sl) (p_p_0:ByteArray) (p_p_1:ByteArray) (R:TR [.sc .sl]→Pr):Pr:=
 New #[(.string p_p_0),(.string p_p_1)] 111 fun a1=>
 Lp (σ:=Sl × Bool × Int × Unit) (fun L2 s3=>
 Br (decide ((s3.2.2.1:Int) < ((p_m.len:Nat):Int))) (
 Jp (σ:=Sl × Bool × Unit) (fun s5=>
 L2 (s5.1,s5.2.1,(w64 (s3.2.2.1 + 1)),())) fun J4=>
 Ix p_m s3.2.2.1 2 fun a6=>
 LdS (a6.add 0) fun x7=>
 LdS (a6.add 1) fun x8=>
 New #[(.string (BA [])),(.string (BA []))] 111 fun a9=>
 St (a9.add 0) (.string x7) <|
 St (a9.add 1) (.string x8) <|
 Jp (σ:=Sl × Bool × Unit) (fun s11=>
 LdS (a9.add 0) fun x12=>
 LdS (a1.add 0) fun x13=>
 Br (!(seq x12 x13)) (
 LdS (a9.add 0) fun x14=>
 LdS (a9.add 1) fun x15=>
 New #[(.string x14),(.string x15)] 111 fun a16=>
 App 111 2 32 (zc Pg 111) s11.1 1 (srcS (some a16) 1 2) fun r17=>
 J4 (r17,s11.2.1,())) (
 J4 (s11.1,s11.2.1,()))) fun J10=>
 Jp (σ:=Bool × Unit) (fun s19=>
 Br s19.1 (
 LdS (a1.add 0) fun x20=>
 LdS (a1.add 1) fun x21=>
 New #[(.string x20),(.string x21)] 111 fun a22=>
 App 111 2 32 (zc Pg 111) s3.1 1 (srcS (some a22) 1 2) fun r23=>
 J10 (r23,true,())) (
 J10 (s3.1,s3.2.1,()))) fun J18=>
 Br (!s3.2.1) (
 LdS (a9.add 0) fun x24=>
 LdS (a1.add 0) fun x25=>
 J18 ((!(slt x24 x25)),())) (
 J18 (false,()))) (
 Jp (σ:=Sl × Unit) (fun s27=>
 R (s27.1,())) fun J26=>
 Br (!s3.2.1) (
 LdS (a1.add 0) fun x28=>
 LdS (a1.add 1) fun x29=>
 New #[(.string x28),(.string x29)] 111 fun a30=>
 App 111 2 32 (zc Pg 111) s3.1 1 (srcS (some a30) 1 2) fun r31=>
 J26 (r31,())) (
 J26 (s3.1,())))) (⟨none,0,0⟩,false,0,())
theorem sumpterref04_put_call (p_m:Sl) (p_p_0:ByteArray) (p_p_1:ByteArray) {R:TR [.sc .sl]→Pr} {w:World} (h:sumpterref04_put p_m p_p_0 p_p_1 R w):Cl Pg 84 [(.slice p_m.p p_m.len p_m.cap),(.agg #[(.string p_p_0),(.string p_p_1)])] false [.sc .sl] R w:=
 call_eq Tryz.checked.mixed (.seq .leaf (.seq .leaf (.seq .leaf (.seq (.seq .leaf (.block (.loop [(5,.sc .sl),(6,.sc .b),(11,.sc (.i .i64))] (.seq .leaf (.seq (.cond .leaf .leaf) (.seq (.join [(5,.sc .sl),(6,.sc .b)] (.block (.seq .leaf (.seq (.join [(5,.sc .sl),(6,.sc .b)] (.seq (.join [(23,.sc .b)] .leaf) (.cond (.seq .leaf .leaf) .leaf))) (.seq .leaf (.cond .leaf .leaf)))))) .leaf)))))) (.seq (.join [(5,.sc .sl)] (.seq .leaf (.cond .leaf .leaf))) (.seq .leaf .leaf)))))) Tryz.func84 (by kernel_rfl) (by kernel_rfl) h
abbrev i_sumpterref02_Point:FuncId:=85
def sumpterref02_Point (p_k:ByteArray) (R:TR [.ag [.s,.s],.sc (.i .i64)]→Pr):Pr:=
 New #[(.string (BA [])),(.string (BA []))] 37 fun a1=>
 Cl Pg 35 [(.string p_k)] false [.sc (.i .i64)] fun r2=>
 Br ((r2.1:Int) != 0) (
 St (a1.add 0) (.string (BA [])) <|
 St (a1.add 1) (.string (BA [])) <|
 LdS (a1.add 0) fun x3=>
 LdS (a1.add 1) fun x4=>
 R ((x3,x4,()),r2.1,())) (
 Br (decide ((((p_k.size:Nat):Int):Int) < 12)) (
 Req (((p_k.size + (BA [0]).size:Nat):Int)≤9223372036854775807) <|
 St (a1.add 0) (.string p_k) <|
 St (a1.add 1) (.string (p_k ++ (BA [0]))) <|
 LdS (a1.add 0) fun x5=>
 LdS (a1.add 1) fun x6=>
 R ((x5,x6,()),0,())) (
 Lp (σ:=Int × Unit) (fun L7 s8=>
 Jp (σ:=Bool × Unit) (fun s10=>
 Br s10.1 (
 L7 ((w64 (s8.1 - 1)),())) (
 Br ((s8.1:Int) == 0) (
 St (a1.add 0) (.string p_k) <|
 St (a1.add 1) (.string (BA [])) <|
 LdS (a1.add 0) fun x11=>
 LdS (a1.add 1) fun x12=>
 R ((x11,x12,()),0,())) (
 Dr <|
 Req ((0:Int)≤(w64 (s8.1 - 1))∧(w64 (s8.1 - 1))≤((p_k.size:Nat):Int)) <|
 IxS p_k (w64 (s8.1 - 1)) fun c13=>
 New #[(.int .u8 (IntKind.u8.wrap (c13 + 1)))] 5 fun a14=>
 BtoS ⟨(some a14),1,1⟩ fun s15=>
 Req ((((p_k.extract 0 (Int.toNat (w64 (s8.1 - 1)))).size + s15.size:Nat):Int)≤9223372036854775807) <|
 St (a1.add 0) (.string p_k) <|
 St (a1.add 1) (.string ((p_k.extract 0 (Int.toNat (w64 (s8.1 - 1)))) ++ s15)) <|
 LdS (a1.add 0) fun x16=>
 LdS (a1.add 1) fun x17=>
 R ((x16,x17,()),0,())))) fun J9=>
 Br (decide ((s8.1:Int) > 0)) (
 IxS p_k (w64 (s8.1 - 1)) fun c18=>
 J9 (((c18:Int) == 255),())) (
 J9 (false,()))) (12,())))
theorem sumpterref02_Point_call (p_k:ByteArray) {R:TR [.ag [.s,.s],.sc (.i .i64)]→Pr} {w:World} (h:sumpterref02_Point p_k R w):Cl Pg 85 [(.string p_k)] true [.ag [.s,.s],.sc (.i .i64)] R w:=
 call_eq Tryz.checked.mixed (.seq .leaf (.seq (.seq .leaf (.seq .leaf (.cond (.seq .leaf .leaf) .leaf))) (.seq (.seq .leaf (.cond (.seq .leaf .leaf) .leaf)) (.seq .leaf (.seq (.block (.loop [(5,.sc (.i .i64))] (.seq (.seq (.join [(27,.sc .b)] .leaf) (.cond .leaf .leaf)) (.block .leaf)))) (.seq (.seq .leaf (.cond (.seq .leaf .leaf) .leaf)) (.seq .leaf .leaf))))))) Tryz.func85 (by kernel_rfl) (by kernel_rfl) h
abbrev i_sumpterref04_without:FuncId:=86
def sumpterref04_without (p_m:Sl) (p_r_0:ByteArray) (p_r_1:ByteArray) (R:TR [.sc .sl]→Pr):Pr:=
 New #[(.string p_r_0),(.string p_r_1)] 37 fun a1=>
 Lp (σ:=Sl × Int × Unit) (fun L2 s3=>
 Br (decide ((s3.2.1:Int) < ((p_m.len:Nat):Int))) (
 Jp (σ:=Sl × Unit) (fun s5=>
 L2 (s5.1,(w64 (s3.2.1 + 1)),())) fun J4=>
 Ix p_m s3.2.1 2 fun a6=>
 LdS (a6.add 0) fun x7=>
 LdS (a6.add 1) fun x8=>
 New #[(.string (BA [])),(.string (BA []))] 111 fun a9=>
 St (a9.add 0) (.string x7) <|
 St (a9.add 1) (.string x8) <|
 LdS (a1.add 0) fun x10=>
 LdS (a1.add 1) fun x11=>
 LdS (a9.add 0) fun x12=>
 Cl Pg 42 [(.agg #[(.string x10),(.string x11)]),(.string x12)] false [.sc .b] fun r13=>
 Br (!r13.1) (
 LdS (a9.add 0) fun x14=>
 LdS (a9.add 1) fun x15=>
 New #[(.string x14),(.string x15)] 111 fun a16=>
 App 111 2 32 (zc Pg 111) s3.1 1 (srcS (some a16) 1 2) fun r17=>
 J4 (r17,())) (
 J4 (s3.1,()))) (
 R (s3.1,()))) (⟨none,0,0⟩,0,())
theorem sumpterref04_without_call (p_m:Sl) (p_r_0:ByteArray) (p_r_1:ByteArray) {R:TR [.sc .sl]→Pr} {w:World} (h:sumpterref04_without p_m p_r_0 p_r_1 R w):Cl Pg 86 [(.slice p_m.p p_m.len p_m.cap),(.agg #[(.string p_r_0),(.string p_r_1)])] false [.sc .sl] R w:=
 call_eq Tryz.checked.mixed (.seq .leaf (.seq .leaf (.seq (.seq .leaf (.block (.loop [(5,.sc .sl),(10,.sc (.i .i64))] (.seq .leaf (.seq (.cond .leaf .leaf) (.seq (.join [(5,.sc .sl)] (.block (.seq .leaf (.seq .leaf (.cond .leaf .leaf))))) .leaf)))))) (.seq .leaf .leaf)))) Tryz.func86 (by kernel_rfl) (by kernel_rfl) h
abbrev i_slices_pdqsortOrdered_uint64:FuncId:=87
def slices_pdqsortOrdered_uint64 (p_data:Sl) (p_a:Int) (p_b:Int) (p_limit:Int) (R:TR []→Pr):Pr:=
 Lp (σ:=Int × Int × Int × Bool × Bool × Unit) (fun L1 s2=>
 Br (decide (((w64 (s2.2.1 - s2.1)):Int)≤12)) (
 Cl Pg 188 [(.slice p_data.p p_data.len p_data.cap),(.int .i64 s2.1),(.int .i64 s2.2.1)] true [] fun r3=>
 R ()) (
 Br ((s2.2.2.1:Int) == 0) (
 Cl Pg 189 [(.slice p_data.p p_data.len p_data.cap),(.int .i64 s2.1),(.int .i64 s2.2.1)] true [] fun r4=>
 R ()) (
 Jp (σ:=Int × Unit) (fun s6=>
 Cl Pg 191 [(.slice p_data.p p_data.len p_data.cap),(.int .i64 s2.1),(.int .i64 s2.2.1)] true [.sc (.i .i64),.sc (.i .i64)] fun r7=>
 Jp (σ:=Int × Int × Unit) (fun s9=>
 Jp (σ:=Unit) (fun s11=>
 Jp (σ:=Bool × Unit) (fun s13=>
 Br s13.1 (
 Cl Pg 195 [(.slice p_data.p p_data.len p_data.cap),(.int .i64 s2.1),(.int .i64 s2.2.1),(.int .i64 s9.1)] false [.sc (.i .i64)] fun r14=>
 L1 (r14.1,s2.2.1,s6.1,s2.2.2.2.1,s2.2.2.2.2.1,())) (
 Cl Pg 196 [(.slice p_data.p p_data.len p_data.cap),(.int .i64 s2.1),(.int .i64 s2.2.1),(.int .i64 s9.1)] true [.sc (.i .i64),.sc .b] fun r15=>
 Req (8 ≠ (0:Int)) <|
 Br (decide (((w64 (r15.1 - s2.1)):Int) < (w64 (s2.2.1 - r15.1)))) (
 Cl Pg 87 [(.slice p_data.p p_data.len p_data.cap),(.int .i64 s2.1),(.int .i64 r15.1),(.int .i64 s6.1)] true [] fun r16=>
 L1 ((w64 (r15.1 + 1)),s2.2.1,s6.1,(decide (((w64 (r15.1 - s2.1)):Int) ≥ (w64 ((w64 (s2.2.1 - s2.1)).tdiv 8)))),r15.2.1,())) (
 Cl Pg 87 [(.slice p_data.p p_data.len p_data.cap),(.int .i64 (w64 (r15.1 + 1))),(.int .i64 s2.2.1),(.int .i64 s6.1)] true [] fun r17=>
 L1 (s2.1,r15.1,s6.1,(decide (((w64 (s2.2.1 - r15.1)):Int) ≥ (w64 ((w64 (s2.2.1 - s2.1)).tdiv 8)))),r15.2.1,())))) fun J12=>
 Dr <|
 Br (decide ((s2.1:Int) > 0)) (
 Ix p_data (w64 (s2.1 - 1)) 1 fun a18=>
 LdI .u64 a18 fun x19=>
 Ix p_data s9.1 1 fun a20=>
 LdI .u64 a20 fun x21=>
 Cl Pg 194 [(.int .u64 x19),(.int .u64 x21)] false [.sc .b] fun r22=>
 J12 ((!r22.1),())) (
 J12 (false,()))) fun J10=>
 Jp (σ:=Bool × Unit) (fun s24=>
 Br s24.1 (
 Cl Pg 193 [(.slice p_data.p p_data.len p_data.cap),(.int .i64 s2.1),(.int .i64 s2.2.1)] false [.sc .b] fun r25=>
 Br r25.1 (
 R ()) (
 J10 ())) (
 J10 ())) fun J23=>
 Br s2.2.2.2.1 (
 Br s2.2.2.2.2.1 (
 J23 (((s9.2.1:Int) == 1),())) (
 J23 (false,()))) (
 J23 (false,()))) fun J8=>
 Br ((r7.2.1:Int) == 2) (
 Cl Pg 192 [(.slice p_data.p p_data.len p_data.cap),(.int .i64 s2.1),(.int .i64 s2.2.1)] true [] fun r26=>
 J8 ((w64 ((w64 (s2.2.1 - 1)) - (w64 (r7.1 - s2.1)))),1,())) (
 J8 (r7.1,r7.2.1,()))) fun J5=>
 Br (!s2.2.2.2.1) (
 Cl Pg 190 [(.slice p_data.p p_data.len p_data.cap),(.int .i64 s2.1),(.int .i64 s2.2.1)] true [] fun r27=>
 J5 ((w64 (s2.2.2.1 - 1)),())) (
 J5 (s2.2.2.1,()))))) (p_a,p_b,p_limit,true,true,())
theorem slices_pdqsortOrdered_uint64_call (p_data:Sl) (p_a:Int) (p_b:Int) (p_limit:Int) {R:TR []→Pr} {w:World} (h:slices_pdqsortOrdered_uint64 p_data p_a p_b p_limit R w):Cl Pg 87 [(.slice p_data.p p_data.len p_data.cap),(.int .i64 p_a),(.int .i64 p_b),(.int .i64 p_limit)] true [] R w:=
 call_eq Tryz.checked.mixed (.seq .leaf (.seq .leaf (.block (.loop [(1,.sc (.i .i64)),(2,.sc (.i .i64)),(3,.sc (.i .i64)),(8,.sc .b),(9,.sc .b)] (.block (.seq .leaf (.seq (.seq .leaf (.cond (.seq .leaf .leaf) .leaf)) (.seq (.seq .leaf (.cond (.seq .leaf .leaf) .leaf)) (.seq (.join [(3,.sc (.i .i64))] (.seq .leaf (.cond (.seq .leaf .leaf) .leaf))) (.seq .leaf (.seq (.join [(11,.sc (.i .i64)),(12,.sc (.i .i64))] (.seq .leaf (.cond (.seq .leaf (.seq .leaf .leaf)) .leaf))) (.seq (.join [] (.seq (.join [(68,.sc .b)] .leaf) (.cond (.seq .leaf (.cond .leaf .leaf)) .leaf))) (.seq (.seq (.join [(87,.sc .b)] .leaf) (.cond (.seq .leaf (.seq .leaf .leaf)) .leaf)) (.seq .leaf (.seq .leaf (.seq .leaf (.seq .leaf (.seq .leaf (.cond (.seq .leaf (.seq .leaf .leaf)) (.seq .leaf (.seq .leaf .leaf))))))))))))))))))))) Tryz.func87 (by kernel_rfl) (by kernel_rfl) h
abbrev i_math_bits_Len:FuncId:=88
def math_bits_Len (p_x:Int) (R:TR [.sc (.i .i64)]→Pr):Pr:=
 Cl Pg 198 [(.int .u64 p_x)] false [.sc (.i .i64)] fun r1=>
 R (r1.1,())
theorem math_bits_Len_call (p_x:Int) {R:TR [.sc (.i .i64)]→Pr} {w:World} (h:math_bits_Len p_x R w):Cl Pg 88 [(.int .u64 p_x)] false [.sc (.i .i64)] R w:=
 call_eq Tryz.checked.mixed (.seq .leaf (.seq (.cond .leaf .leaf) (.seq .leaf .leaf))) Tryz.func88 (by kernel_rfl) (by kernel_rfl) h
abbrev i_sumpterref02_Check:FuncId:=91
def sumpterref02_Check (p_r_0:ByteArray) (p_r_1:ByteArray) (R:TR [.sc (.i .i64)]→Pr):Pr:=
 New #[(.string p_r_0),(.string p_r_1)] 37 fun a1=>
 Jp (σ:=Bool × Unit) (fun s3=>
 Br s3.1 (
 R (21,())) (
 R (0,()))) fun J2=>
 LdS (a1.add 0) fun x4=>
 Br (decide ((((x4.size:Nat):Int):Int) > 12)) (
 J2 (true,())) (
 LdS (a1.add 1) fun x5=>
 Br (decide ((((x5.size:Nat):Int):Int) > 12)) (
 J2 (true,())) (
 LdS (a1.add 1) fun x6=>
 Br (!(seq x6 (BA []))) (
 LdS (a1.add 0) fun x7=>
 LdS (a1.add 1) fun x8=>
 J2 ((!(slt x7 x8)),())) (
 J2 (false,()))))
theorem sumpterref02_Check_call (p_r_0:ByteArray) (p_r_1:ByteArray) {R:TR [.sc (.i .i64)]→Pr} {w:World} (h:sumpterref02_Check p_r_0 p_r_1 R w):Cl Pg 91 [(.agg #[(.string p_r_0),(.string p_r_1)])] false [.sc (.i .i64)] R w:=
 call_eq Tryz.checked.mixed (.seq .leaf (.seq (.seq (.join [(24,.sc .b)] .leaf) (.cond (.seq .leaf .leaf) .leaf)) (.seq .leaf .leaf))) Tryz.func91 (by kernel_rfl) (by kernel_rfl) h
abbrev i_span_CheckKey:FuncId:=93
def span_CheckKey (p_k:ByteArray) (R:TR [.sc (.i .i64)]→Pr):Pr:=
 Jp (σ:=Bool × Unit) (fun s2=>
 Br s2.1 (
 R (20,())) (
 R (0,()))) fun J1=>
 Br (seq p_k (BA [])) (
 J1 (true,())) (
 J1 ((decide ((((p_k.size:Nat):Int):Int) > 12)),()))
theorem span_CheckKey_call (p_k:ByteArray) {R:TR [.sc (.i .i64)]→Pr} {w:World} (h:span_CheckKey p_k R w):Cl Pg 93 [(.string p_k)] false [.sc (.i .i64)] R w:=
 call_eq Tryz.checked.mixed (.seq .leaf (.seq (.seq (.join [(9,.sc .b)] .leaf) (.cond (.seq .leaf .leaf) .leaf)) (.seq .leaf .leaf))) Tryz.func93 (by kernel_rfl) (by kernel_rfl) h
abbrev i_span_all:FuncId:=94
def span_all  (R:TR [.ag [.s,.s]]→Pr):Pr:=
 New #[(.string (BA [])),(.string (BA []))] 37 fun a1=>
 St (a1.add 0) (.string (BA [])) <|
 St (a1.add 1) (.string (BA [])) <|
 LdS (a1.add 0) fun x2=>
 LdS (a1.add 1) fun x3=>
 R ((x2,x3,()),())
theorem span_all_call  {R:TR [.ag [.s,.s]]→Pr} {w:World} (h:span_all  R w):Cl Pg 94 [] false [.ag [.s,.s]] R w:=
 call_eq Tryz.checked.mixed (.seq .leaf (.seq .leaf .leaf)) Tryz.func94 (by kernel_rfl) (by kernel_rfl) h
def slices_Index_uint64 (p_s:Sl) (p_v:Int) (R:TR [.sc (.i .i64)]→Pr):Pr:=
 Lp (σ:=Int × Int × Unit) (fun L1 s2=>
 Br (decide ((s2.2.1:Int) < ((p_s.len:Nat):Int))) (
 Ix p_s s2.2.1 1 fun a3=>
 LdI .u64 a3 fun x4=>
 Br ((p_v:Int) == x4) (
 R (s2.2.1,())) (
 L1 (s2.1,(w64 (s2.2.1 + 1)),()))) (
 R ((-1),()))) (0,0,())
theorem slices_Index_uint64_call (p_s:Sl) (p_v:Int) {R:TR [.sc (.i .i64)]→Pr} {w:World} (h:slices_Index_uint64 p_s p_v R w):Cl Pg 95 [(.slice p_s.p p_s.len p_s.cap),(.int .u64 p_v)] false [.sc (.i .i64)] R w:=
 call_eq Tryz.checked.mixed (.seq .leaf (.seq (.seq .leaf (.block (.loop [(4,.sc (.i .i64)),(8,.sc (.i .i64))] (.seq .leaf (.seq (.cond .leaf .leaf) (.seq (.block (.seq .leaf (.seq .leaf (.cond (.seq .leaf .leaf) .leaf)))) .leaf)))))) (.seq .leaf .leaf))) Tryz.func95 (by kernel_rfl) (by kernel_rfl) h
abbrev i_slices_IndexFunc_Op:FuncId:=96
theorem slices_IndexFunc_Op_call (p_s:Sl) (p_f:Value) {R:TR [.sc (.i .i64)]→Pr} {w:World} (h:IndexFunc_tx Pg 6 (ldA [(.i .i64),.s,.s,.s,.s,(.i .i64)]) p_s p_f R w):Cl Pg 96 [(.slice p_s.p p_s.len p_s.cap),p_f] false [.sc (.i .i64)] R w:=
 call_eq Tryz.checked.mixed (.seq .leaf (.seq (.seq .leaf (.block (.loop [(4,.sc (.i .i64)),(8,.sc (.i .i64))] (.seq .leaf (.seq (.cond .leaf .leaf) (.seq (.block (.seq .leaf (.seq .leaf (.cond (.seq .leaf .leaf) .leaf)))) .leaf)))))) (.seq .leaf .leaf))) Tryz.func96 (by kernel_rfl) (by kernel_rfl) h
abbrev i_op_formOf:FuncId:=97
def op_formOf (p_kind:Int) (R:TR [.ag [.b,.b,.b,.b,.b,.v],.sc .b]→Pr):Pr:=
 New #[(.bool false),(.bool false),(.bool false),(.bool false),(.bool false),.nilFunc] 189 fun a1=>
 Jp (σ:=Bool × Unit) (fun s3=>
 Br s3.1 (
 St (a1.add 0) (.bool false) <|
 St (a1.add 1) (.bool false) <|
 St (a1.add 2) (.bool false) <|
 St (a1.add 3) (.bool false) <|
 St (a1.add 4) (.bool false) <|
 St (a1.add 5) .nilFunc <|
 LdB (a1.add 0) fun x4=>
 LdB (a1.add 1) fun x5=>
 LdB (a1.add 2) fun x6=>
 LdB (a1.add 3) fun x7=>
 LdB (a1.add 4) fun x8=>
 LdV (a1.add 5) fun x9=>
 R ((x4,x5,x6,x7,x8,x9,()),false,())) (
 Cl Pg 199 [] false [.ag [.b,.b,.b,.b,.b,.v,.b,.b,.b,.b,.b,.v,.b,.b,.b,.b,.b,.v,.b,.b,.b,.b,.b,.v,.b,.b,.b,.b,.b,.v,.b,.b,.b,.b,.b,.v]] fun r10=>
 IxA (encs [.b,.b,.b,.b,.b,.v,.b,.b,.b,.b,.b,.v,.b,.b,.b,.b,.b,.v,.b,.b,.b,.b,.b,.v,.b,.b,.b,.b,.b,.v,.b,.b,.b,.b,.b,.v] r10.1) 6 p_kind 6 fun g11=>
 TyA [.b,.b,.b,.b,.b,.v] g11 fun y12=>
 St (a1.add 0) (.bool y12.1) <|
 St (a1.add 1) (.bool y12.2.1) <|
 St (a1.add 2) (.bool y12.2.2.1) <|
 St (a1.add 3) (.bool y12.2.2.2.1) <|
 St (a1.add 4) (.bool y12.2.2.2.2.1) <|
 St (a1.add 5) y12.2.2.2.2.2.1 <|
 LdB (a1.add 0) fun x13=>
 LdB (a1.add 1) fun x14=>
 LdB (a1.add 2) fun x15=>
 LdB (a1.add 3) fun x16=>
 LdB (a1.add 4) fun x17=>
 LdV (a1.add 5) fun x18=>
 R ((x13,x14,x15,x16,x17,x18,()),true,()))) fun J2=>
 Br (decide ((p_kind:Int) < 1)) (
 J2 (true,())) (
 J2 ((decide ((p_kind:Int) > 5)),()))
theorem op_formOf_call (p_kind:Int) {R:TR [.ag [.b,.b,.b,.b,.b,.v],.sc .b]→Pr} {w:World} (h:op_formOf p_kind R w):Cl Pg 97 [(.int .i64 p_kind)] true [.ag [.b,.b,.b,.b,.b,.v],.sc .b] R w:=
 call_eq Tryz.checked.mixed (.seq .leaf (.seq (.seq (.join [(9,.sc .b)] .leaf) (.cond (.seq .leaf .leaf) .leaf)) (.seq .leaf .leaf))) Tryz.func97 (by kernel_rfl) (by kernel_rfl) h
abbrev i_op_of:FuncId:=98
def op_of (p_o_0:Int) (p_o_1:ByteArray) (p_o_2:ByteArray) (p_o_3:ByteArray) (p_o_4:ByteArray) (p_o_5:Int) (R:TR [.ag [.s,.s]]→Pr):Pr:=
 New #[(.int .i64 p_o_0),(.string p_o_1),(.string p_o_2),(.string p_o_3),(.string p_o_4),(.int .i64 p_o_5)] 81 fun a1=>
 New #[(.string (BA [])),(.string (BA []))] 37 fun a2=>
 LdS (a1.add 3) fun x3=>
 LdS (a1.add 4) fun x4=>
 St (a2.add 0) (.string x3) <|
 St (a2.add 1) (.string x4) <|
 LdS (a2.add 0) fun x5=>
 LdS (a2.add 1) fun x6=>
 R ((x5,x6,()),())
theorem op_of_call (p_o_0:Int) (p_o_1:ByteArray) (p_o_2:ByteArray) (p_o_3:ByteArray) (p_o_4:ByteArray) (p_o_5:Int) {R:TR [.ag [.s,.s]]→Pr} {w:World} (h:op_of p_o_0 p_o_1 p_o_2 p_o_3 p_o_4 p_o_5 R w):Cl Pg 98 [(.agg #[(.int .i64 p_o_0),(.string p_o_1),(.string p_o_2),(.string p_o_3),(.string p_o_4),(.int .i64 p_o_5)])] false [.ag [.s,.s]] R w:=
 call_eq Tryz.checked.mixed (.seq .leaf (.seq .leaf .leaf)) Tryz.func98 (by kernel_rfl) (by kernel_rfl) h
abbrev i_slices_IndexFunc_Hold:FuncId:=99
theorem slices_IndexFunc_Hold_call (p_s:Sl) (p_f:Value) {R:TR [.sc (.i .i64)]→Pr} {w:World} (h:IndexFunc_tx Pg 2 (ldA [(.i .u64),.sl]) p_s p_f R w):Cl Pg 99 [(.slice p_s.p p_s.len p_s.cap),p_f] false [.sc (.i .i64)] R w:=
 call_eq Tryz.checked.mixed (.seq .leaf (.seq (.seq .leaf (.block (.loop [(4,.sc (.i .i64)),(8,.sc (.i .i64))] (.seq .leaf (.seq (.cond .leaf .leaf) (.seq (.block (.seq .leaf (.seq .leaf (.cond (.seq .leaf .leaf) .leaf)))) .leaf)))))) (.seq .leaf .leaf))) Tryz.func99 (by kernel_rfl) (by kernel_rfl) h
abbrev i_span_Point:FuncId:=100
def span_Point (p_k:ByteArray) (R:TR [.ag [.s,.s],.sc (.i .i64)]→Pr):Pr:=
 New #[(.string (BA [])),(.string (BA []))] 37 fun a1=>
 Cl Pg 93 [(.string p_k)] false [.sc (.i .i64)] fun r2=>
 Br ((r2.1:Int) != 0) (
 St (a1.add 0) (.string (BA [])) <|
 St (a1.add 1) (.string (BA [])) <|
 LdS (a1.add 0) fun x3=>
 LdS (a1.add 1) fun x4=>
 R ((x3,x4,()),r2.1,())) (
 Br (decide ((((p_k.size:Nat):Int):Int) < 12)) (
 Req (((p_k.size + (BA [0]).size:Nat):Int)≤9223372036854775807) <|
 St (a1.add 0) (.string p_k) <|
 St (a1.add 1) (.string (p_k ++ (BA [0]))) <|
 LdS (a1.add 0) fun x5=>
 LdS (a1.add 1) fun x6=>
 R ((x5,x6,()),0,())) (
 StoB 5 p_k fun r7=>
 Lp (σ:=Sl × Unit) (fun L8 s9=>
 Jp (σ:=Bool × Unit) (fun s11=>
 Br s11.1 (
 Req ((0:Int)≤(w64 (((s9.1.len:Nat):Int) - 1))∧(w64 (((s9.1.len:Nat):Int) - 1))≤((s9.1.cap:Nat):Int)) <|
 L8 (⟨(slOff s9.1.p s9.1.cap 0 1),((Int.toNat (w64 (((s9.1.len:Nat):Int) - 1))) - 0),(s9.1.cap - 0)⟩,())) (
 Jp (σ:=Unit) (fun s13=>
 BtoS s9.1 fun s14=>
 St (a1.add 0) (.string p_k) <|
 St (a1.add 1) (.string s14) <|
 LdS (a1.add 0) fun x15=>
 LdS (a1.add 1) fun x16=>
 R ((x15,x16,()),0,())) fun J12=>
 Br (decide ((((s9.1.len:Nat):Int):Int) > 0)) (
 Ix s9.1 (w64 (((s9.1.len:Nat):Int) - 1)) 1 fun a17=>
 LdI .u8 a17 fun x18=>
 Ix s9.1 (w64 (((s9.1.len:Nat):Int) - 1)) 1 fun a19=>
 St a19 (.int .u8 (IntKind.u8.wrap (x18 + 1))) <|
 J12 ()) (
 J12 ()))) fun J10=>
 Br (decide ((((s9.1.len:Nat):Int):Int) > 0)) (
 Ix s9.1 (w64 (((s9.1.len:Nat):Int) - 1)) 1 fun a20=>
 LdI .u8 a20 fun x21=>
 J10 (((x21:Int) == 255),())) (
 J10 (false,()))) (r7,())))
theorem span_Point_call (p_k:ByteArray) {R:TR [.ag [.s,.s],.sc (.i .i64)]→Pr} {w:World} (h:span_Point p_k R w):Cl Pg 100 [(.string p_k)] true [.ag [.s,.s],.sc (.i .i64)] R w:=
 call_eq Tryz.checked.mixed (.seq .leaf (.seq (.seq .leaf (.seq .leaf (.cond (.seq .leaf .leaf) .leaf))) (.seq (.seq .leaf (.cond (.seq .leaf .leaf) .leaf)) (.seq .leaf (.seq (.block (.loop [(5,.sc .sl)] (.seq (.seq (.join [(32,.sc .b)] .leaf) (.cond .leaf .leaf)) (.block .leaf)))) (.seq (.join [] (.seq .leaf (.cond .leaf .leaf))) (.seq .leaf .leaf))))))) Tryz.func100 (by kernel_rfl) (by kernel_rfl) h
abbrev i_slices_IndexFunc_Ask:FuncId:=101
theorem slices_IndexFunc_Ask_call (p_s:Sl) (p_f:Value) {R:TR [.sc (.i .i64)]→Pr} {w:World} (h:IndexFunc_tx Pg 4 (ldA [(.i .u64),.s,.s,.b]) p_s p_f R w):Cl Pg 101 [(.slice p_s.p p_s.len p_s.cap),p_f] false [.sc (.i .i64)] R w:=
 call_eq Tryz.checked.mixed (.seq .leaf (.seq (.seq .leaf (.block (.loop [(4,.sc (.i .i64)),(8,.sc (.i .i64))] (.seq .leaf (.seq (.cond .leaf .leaf) (.seq (.block (.seq .leaf (.seq .leaf (.cond (.seq .leaf .leaf) .leaf)))) .leaf)))))) (.seq .leaf .leaf))) Tryz.func101 (by kernel_rfl) (by kernel_rfl) h
def locks_of_1 (p_x_0:Int) (p_x_1:ByteArray) (p_x_2:ByteArray) (p_x_3:Bool) (p_c0:Addr) (R:TR [.sc .b]→Pr):Pr:=
 New #[(.int .u64 p_x_0),(.string p_x_1),(.string p_x_2),(.bool p_x_3)] 146 fun a1=>
 LdI .u64 (a1.add 0) fun x2=>
 LdI .u64 p_c0 fun x3=>
 R (((x2:Int) == x3),())
theorem locks_of_1_call (p_x_0:Int) (p_x_1:ByteArray) (p_x_2:ByteArray) (p_x_3:Bool) (p_c0:Addr) {R:TR [.sc .b]→Pr} {w:World} (h:locks_of_1 p_x_0 p_x_1 p_x_2 p_x_3 p_c0 R w):Cl Pg 102 [(.agg #[(.int .u64 p_x_0),(.string p_x_1),(.string p_x_2),(.bool p_x_3)]),(.pointer (some p_c0))] false [.sc .b] R w:=
 call_eq Tryz.checked.mixed (.seq .leaf (.seq .leaf .leaf)) Tryz.func102 (by kernel_rfl) (by kernel_rfl) h
abbrev i_span_least:FuncId:=103
def span_least (p_a:ByteArray) (p_b:ByteArray) (R:TR [.sc .s]→Pr):Pr:=
 Jp (σ:=Bool × Unit) (fun s2=>
 Br s2.1 (
 R (p_b,())) (
 R (p_a,()))) fun J1=>
 Br (seq p_a (BA [])) (
 J1 (true,())) (
 Br (!(seq p_b (BA []))) (
 J1 ((slt p_b p_a),())) (
 J1 (false,())))
theorem span_least_call (p_a:ByteArray) (p_b:ByteArray) {R:TR [.sc .s]→Pr} {w:World} (h:span_least p_a p_b R w):Cl Pg 103 [(.string p_a),(.string p_b)] false [.sc .s] R w:=
 call_eq Tryz.checked.mixed (.seq .leaf (.seq (.seq (.join [(15,.sc .b)] .leaf) (.cond (.seq .leaf .leaf) .leaf)) (.seq .leaf .leaf))) Tryz.func103 (by kernel_rfl) (by kernel_rfl) h
def locks_against_1 (p_y_0:Int) (p_y_1:ByteArray) (p_y_2:ByteArray) (p_y_3:Bool) (p_c0:Addr) (R:TR [.sc .b]→Pr):Pr:=
 New #[(.int .u64 p_y_0),(.string p_y_1),(.string p_y_2),(.bool p_y_3)] 146 fun a1=>
 LdS (((p_c0.add 1).add 0).add 0) fun x2=>
 LdS (((p_c0.add 1).add 0).add 1) fun x3=>
 LdS (((a1.add 1).add 0).add 0) fun x4=>
 LdS (((a1.add 1).add 0).add 1) fun x5=>
 Cl Pg 105 [(.agg #[(.string x2),(.string x3)]),(.agg #[(.string x4),(.string x5)])] true [.ag [.s,.s],.sc .b] fun r6=>
 New #[(.string (BA [])),(.string (BA []))] 37 fun a7=>
 St (a7.add 0) (.string r6.1.1) <|
 St (a7.add 1) (.string r6.1.2.1) <|
 Br r6.2.1 (
 LdI .u64 (p_c0.add 0) fun x8=>
 LdI .u64 (a1.add 0) fun x9=>
 Br ((x8:Int) != x9) (
 LdB ((p_c0.add 1).add 2) fun x10=>
 Br x10 (
 R (true,())) (
 LdB ((a1.add 1).add 2) fun x11=>
 R (x11,()))) (
 R (false,()))) (
 R (false,()))
theorem locks_against_1_call (p_y_0:Int) (p_y_1:ByteArray) (p_y_2:ByteArray) (p_y_3:Bool) (p_c0:Addr) {R:TR [.sc .b]→Pr} {w:World} (h:locks_against_1 p_y_0 p_y_1 p_y_2 p_y_3 p_c0 R w):Cl Pg 104 [(.agg #[(.int .u64 p_y_0),(.string p_y_1),(.string p_y_2),(.bool p_y_3)]),(.pointer (some p_c0))] false [.sc .b] R w:=
 call_eq Tryz.checked.mixed (.seq .leaf (.seq .leaf (.seq .leaf .leaf))) Tryz.func104 (by kernel_rfl) (by kernel_rfl) h
abbrev i_span_Meet:FuncId:=105
def span_Meet (p_a_0:ByteArray) (p_a_1:ByteArray) (p_b_0:ByteArray) (p_b_1:ByteArray) (R:TR [.ag [.s,.s],.sc .b]→Pr):Pr:=
 New #[(.string p_a_0),(.string p_a_1)] 37 fun a1=>
 New #[(.string p_b_0),(.string p_b_1)] 37 fun a2=>
 New #[(.string (BA [])),(.string (BA []))] 37 fun a3=>
 Jp (σ:=Option Addr × Unit) (fun s5=>
 Jp (σ:=Bool × Unit) (fun s7=>
 Br s7.1 (
 St (a3.add 0) (.string (BA [])) <|
 St (a3.add 1) (.string (BA [])) <|
 LdS (a3.add 0) fun x8=>
 LdS (a3.add 1) fun x9=>
 R ((x8,x9,()),false,())) (
 Nn s5.1 fun a10=>
 LdS (a10.add 0) fun x11=>
 LdS (a10.add 1) fun x12=>
 St (a3.add 0) (.string x11) <|
 St (a3.add 1) (.string x12) <|
 LdS (a3.add 0) fun x13=>
 LdS (a3.add 1) fun x14=>
 R ((x13,x14,()),true,()))) fun J6=>
 LdS (a1.add 0) fun x15=>
 LdS (a1.add 1) fun x16=>
 Cl Pg 45 [(.agg #[(.string x15),(.string x16)])] false [.sc (.i .i64)] fun r17=>
 Br ((r17.1:Int) != 0) (
 J6 (true,())) (
 LdS (a2.add 0) fun x18=>
 LdS (a2.add 1) fun x19=>
 Cl Pg 45 [(.agg #[(.string x18),(.string x19)])] false [.sc (.i .i64)] fun r20=>
 Br ((r20.1:Int) != 0) (
 J6 (true,())) (
 Nn s5.1 fun a21=>
 LdS (a21.add 0) fun x22=>
 LdS (a21.add 1) fun x23=>
 Cl Pg 45 [(.agg #[(.string x22),(.string x23)])] false [.sc (.i .i64)] fun r24=>
 J6 (((r24.1:Int) != 0),())))) fun J4=>
 Dr <|
 LdS (a1.add 0) fun x25=>
 LdS (a2.add 0) fun x26=>
 LdS (a1.add 1) fun x27=>
 LdS (a2.add 1) fun x28=>
 Both (
 Cl Pg 103 [(.string x27),(.string x28)] false [.sc .s] fun r29=>
 Both (LdS (a2.add 0) fun x30=>
 fun _=>((.string x30):Value)=(.string x26)) <|
 Both (LdS (a1.add 0) fun x31=>
 fun _=>((.string x31):Value)=(.string x25)) <|
 New #[(.string (BA [])),(.string (BA []))] 37 fun a32=>
 Both (LdS (a2.add 1) fun x33=>
 fun _=>((.string x33):Value)=(.string x28)) <|
 Both (LdS (a1.add 1) fun x34=>
 fun _=>((.string x34):Value)=(.string x27)) <|
 Both (LdS (a2.add 0) fun x35=>
 fun _=>((.string x35):Value)=(.string x26)) <|
 Both (LdS (a1.add 0) fun x36=>
 fun _=>((.string x36):Value)=(.string x25)) <|
 St (a32.add 0) (.string (if !(slt x25 x26) then x25 else x26)) <|
 St (a32.add 1) (.string r29.1) <|
 J4 ((some a32),())) <|
 New #[(.string (BA [])),(.string (BA []))] 37 fun a37=>
 Both (LdS (a2.add 1) fun x38=>
 fun _=>((.string x38):Value)=(.string x28)) <|
 Both (LdS (a1.add 1) fun x39=>
 fun _=>((.string x39):Value)=(.string x27)) <|
 Both (LdS (a2.add 0) fun x40=>
 fun _=>((.string x40):Value)=(.string x26)) <|
 Both (LdS (a1.add 0) fun x41=>
 fun _=>((.string x41):Value)=(.string x25)) <|
 Cl Pg 103 [(.string x27),(.string x28)] false [.sc .s] fun r42=>
 Both (LdS (a2.add 0) fun x43=>
 fun _=>((.string x43):Value)=(.string x26)) <|
 Both (LdS (a1.add 0) fun x44=>
 fun _=>((.string x44):Value)=(.string x25)) <|
 St (a37.add 0) (.string (if !(slt x25 x26) then x25 else x26)) <|
 St (a37.add 1) (.string r42.1) <|
 J4 ((some a37),())
theorem span_Meet_call (p_a_0:ByteArray) (p_a_1:ByteArray) (p_b_0:ByteArray) (p_b_1:ByteArray) {R:TR [.ag [.s,.s],.sc .b]→Pr} {w:World} (h:span_Meet p_a_0 p_a_1 p_b_0 p_b_1 R w):Cl Pg 105 [(.agg #[(.string p_a_0),(.string p_a_1)]),(.agg #[(.string p_b_0),(.string p_b_1)])] true [.ag [.s,.s],.sc .b] R w:=
 call_eq Tryz.checked.mixed (.seq .leaf (.seq (.join [(6,.sc .p)] .leaf) (.seq (.seq (.join [(30,.sc .b)] .leaf) (.cond (.seq .leaf .leaf) .leaf)) (.seq .leaf .leaf)))) Tryz.func105 (by kernel_rfl) (by kernel_rfl) h
def locks_Table_settle_1 (p_w_0:Int) (p_w_1:ByteArray) (p_w_2:ByteArray) (p_w_3:Bool) (p_c0:Addr) (R:TR [.sc .b]→Pr):Pr:=
 New #[(.int .u64 p_w_0),(.string p_w_1),(.string p_w_2),(.bool p_w_3)] 146 fun a1=>
 Dr <|
 LdP p_c0 fun x2=>
 Nn x2 fun a3=>
 LdL (a3.add 0) fun x4=>
 LdI .u64 (a1.add 0) fun x5=>
 LdS (a1.add 1) fun x6=>
 LdS (a1.add 2) fun x7=>
 LdB (a1.add 3) fun x8=>
 Cl Pg 66 [(.agg #[(.int .u64 x5),(.string x6),(.string x7),(.bool x8)])] false [.sc .v] fun r9=>
 Both (LdL (a3.add 0) fun x10=>
 fun _=>((.slice x10.p x10.len x10.cap):Value)=(.slice x4.p x4.len x4.cap)) <|
 Both (LdP p_c0 fun x11=>
 fun _=>((.pointer x11):Value)=(.pointer x2)) <|
 Cl Pg 63 [(.slice x4.p x4.len x4.cap),r9.1] false [.sc .b] fun r12=>
 R ((!r12.1),())
theorem locks_Table_settle_1_call (p_w_0:Int) (p_w_1:ByteArray) (p_w_2:ByteArray) (p_w_3:Bool) (p_c0:Addr) {R:TR [.sc .b]→Pr} {w:World} (h:locks_Table_settle_1 p_w_0 p_w_1 p_w_2 p_w_3 p_c0 R w):Cl Pg 106 [(.agg #[(.int .u64 p_w_0),(.string p_w_1),(.string p_w_2),(.bool p_w_3)]),(.pointer (some p_c0))] false [.sc .b] R w:=
 call_eq Tryz.checked.mixed (.seq .leaf (.seq .leaf .leaf)) Tryz.func106 (by kernel_rfl) (by kernel_rfl) h
abbrev i_locks_set:FuncId:=107
def locks_set (p_l:Sl) (R:TR [.sc .sl]→Pr):Pr:=
 Cl Pg 37 [(.slice p_l.p p_l.len p_l.cap)] true [] fun r1=>
 Cl Pg 200 [(.slice p_l.p p_l.len p_l.cap)] false [.sc .sl] fun r2=>
 R (r2.1,())
theorem locks_set_call (p_l:Sl) {R:TR [.sc .sl]→Pr} {w:World} (h:locks_set p_l R w):Cl Pg 107 [(.slice p_l.p p_l.len p_l.cap)] false [.sc .sl] R w:=
 call_eq Tryz.checked.mixed (.seq .leaf (.seq .leaf (.seq .leaf .leaf))) Tryz.func107 (by kernel_rfl) (by kernel_rfl) h
abbrev i_slices_Delete_Ask:FuncId:=108
theorem slices_Delete_Ask_call (p_s:Sl) (p_i:Int) (p_j:Int) {R:TR [.sc .sl]→Pr} {w:World} (h:Delete_tx 146 4 48 (zc Pg 146) p_s p_i p_j R w):Cl Pg 108 [(.slice p_s.p p_s.len p_s.cap),(.int .i64 p_i),(.int .i64 p_j)] false [.sc .sl] R w:=
 call_eq Tryz.checked.mixed (.seq .leaf (.seq .leaf (.seq (.seq .leaf (.cond (.seq .leaf .leaf) .leaf)) (.seq .leaf (.seq .leaf (.seq .leaf (.seq .leaf .leaf))))))) Tryz.func108 (by kernel_rfl) (by kernel_rfl) h
abbrev i_locks_Table_drop:FuncId:=109
def locks_Table_drop (p_t:Option Addr) (p_txn:Int) (R:TR []→Pr):Pr:=
 Dr <|
 Nn p_t fun a1=>
 LdL (a1.add 0) fun x2=>
 Cl Pg 64 [(.int .u64 p_txn)] false [.sc .v] fun r3=>
 Both (LdL (a1.add 0) fun x4=>
 fun _=>((.slice x4.p x4.len x4.cap):Value)=(.slice x2.p x2.len x2.cap)) <|
 Cl Pg 201 [(.slice x2.p x2.len x2.cap),r3.1] false [.sc .sl] fun r5=>
 Nn p_t fun a6=>
 St (a6.add 0) (.slice r5.1.p r5.1.len r5.1.cap) <|
 Dr <|
 Nn p_t fun a7=>
 LdL (a7.add 1) fun x8=>
 Cl Pg 64 [(.int .u64 p_txn)] false [.sc .v] fun r9=>
 Both (LdL (a7.add 1) fun x10=>
 fun _=>((.slice x10.p x10.len x10.cap):Value)=(.slice x8.p x8.len x8.cap)) <|
 Cl Pg 201 [(.slice x8.p x8.len x8.cap),r9.1] false [.sc .sl] fun r11=>
 Nn p_t fun a12=>
 St (a12.add 1) (.slice r11.1.p r11.1.len r11.1.cap) <|
 R ()
theorem locks_Table_drop_call (p_t:Option Addr) (p_txn:Int) {R:TR []→Pr} {w:World} (h:locks_Table_drop p_t p_txn R w):Cl Pg 109 [(.pointer p_t),(.int .u64 p_txn)] true [] R w:=
 call_eq Tryz.checked.mixed (.seq .leaf .leaf) Tryz.func109 (by kernel_rfl) (by kernel_rfl) h
abbrev i_cmp_isNaN_uint64:FuncId:=110
def cmp_isNaN_uint64 (p_x:Int) (R:TR [.sc .b]→Pr):Pr:=
 R (((p_x:Int) != p_x),())
theorem cmp_isNaN_uint64_call (p_x:Int) {R:TR [.sc .b]→Pr} {w:World} (h:cmp_isNaN_uint64 p_x R w):Cl Pg 110 [(.int .u64 p_x)] false [.sc .b] R w:=
 call_eq Tryz.checked.mixed (.seq .leaf (.seq .leaf .leaf)) Tryz.func110 (by kernel_rfl) (by kernel_rfl) h
abbrev i_slices_DeleteFunc_uint64:FuncId:=113
theorem slices_DeleteFunc_uint64_call (p_s:Sl) (p_del:Value) {R:TR [.sc .sl]→Pr} {w:World} (h:DeleteFunc_tx Pg 203 1 (zc Pg 32) (rdrK (.i .u64)) p_s p_del R w):Cl Pg 113 [(.slice p_s.p p_s.len p_s.cap),p_del] false [.sc .sl] R w:=
 call_eq Tryz.checked.mixed (.seq .leaf (.seq .leaf (.seq (.seq .leaf (.cond (.seq .leaf .leaf) .leaf)) (.seq (.seq .leaf (.block (.loop [(5,.sc (.i .i64)),(6,.sc (.i .i64))] (.seq (.seq .leaf (.cond .leaf .leaf)) (.seq (.join [(5,.sc (.i .i64))] (.block (.seq .leaf (.seq .leaf (.cond (.seq .leaf .leaf) .leaf))))) .leaf))))) (.seq .leaf (.seq .leaf .leaf)))))) Tryz.func113 (by kernel_rfl) (by kernel_rfl) h
def part_Machine_work_1 (p_n:Int) (p_c0:Addr) (R:TR [.sc .b]→Pr):Pr:=
 LdI .u64 (p_c0.add 9) fun x1=>
 R ((decide ((p_n:Int) < x1)),())
theorem part_Machine_work_1_call (p_n:Int) (p_c0:Addr) {R:TR [.sc .b]→Pr} {w:World} (h:part_Machine_work_1 p_n p_c0 R w):Cl Pg 114 [(.int .u64 p_n),(.pointer (some p_c0))] false [.sc .b] R w:=
 call_eq Tryz.checked.mixed (.seq .leaf (.seq .leaf .leaf)) Tryz.func114 (by kernel_rfl) (by kernel_rfl) h
abbrev i_part_Machine_waiting:FuncId:=115
def part_Machine_waiting (p_m:Option Addr) (p_txn:Int) (R:TR [.sc (.i .i64),.sc .b]→Pr):Pr:=
 Nn p_m fun a1=>
 LdL (a1.add 17) fun x2=>
 Cl Pg 204 [(.slice x2.p x2.len x2.cap),(.int .u64 p_txn),(.func (.func 205) #[] #[])] true [.sc (.i .i64),.sc .b] fun r3=>
 R (r3.1,r3.2.1,())
theorem part_Machine_waiting_call (p_m:Option Addr) (p_txn:Int) {R:TR [.sc (.i .i64),.sc .b]→Pr} {w:World} (h:part_Machine_waiting p_m p_txn R w):Cl Pg 115 [(.pointer p_m),(.int .u64 p_txn)] true [.sc (.i .i64),.sc .b] R w:=
 call_eq Tryz.checked.mixed (.seq .leaf (.seq .leaf .leaf)) Tryz.func115 (by kernel_rfl) (by kernel_rfl) h
abbrev i_part_Machine_held:FuncId:=116
def part_Machine_held (p_m:Option Addr) (p_txn:Int) (R:TR [.sc (.i .i64),.sc .b]→Pr):Pr:=
 Nn p_m fun a1=>
 LdL ((a1.add 0).add 6) fun x2=>
 Cl Pg 206 [(.slice x2.p x2.len x2.cap),(.int .u64 p_txn),(.func (.func 207) #[] #[])] true [.sc (.i .i64),.sc .b] fun r3=>
 R (r3.1,r3.2.1,())
theorem part_Machine_held_call (p_m:Option Addr) (p_txn:Int) {R:TR [.sc (.i .i64),.sc .b]→Pr} {w:World} (h:part_Machine_held p_m p_txn R w):Cl Pg 116 [(.pointer p_m),(.int .u64 p_txn)] true [.sc (.i .i64),.sc .b] R w:=
 call_eq Tryz.checked.mixed (.seq .leaf (.seq .leaf .leaf)) Tryz.func116 (by kernel_rfl) (by kernel_rfl) h
abbrev i_part_Machine_vote:FuncId:=117
def part_Machine_vote (p_m:Option Addr) (p_txn:Int) (p_code:Int) (p_r:Sl) (R:TR []→Pr):Pr:=
 Cl Pg 38 [(.pointer p_m),(.agg #[(.int .i64 4),(.int .i64 0),(.int .i64 0),(.int .i64 0),(.int .i64 p_code),(.int .i64 0),(.int .u64 0),(.int .u64 0),(.int .u64 p_txn),(.int .u64 0),(.int .u64 0),(.int .u64 0),(.int .u64 0),(.int .u64 0),(.int .u64 0),(.bool false),(.string (BA [])),(.string (BA [])),(.slice none 0 0),(.slice p_r.p p_r.len p_r.cap),(.slice none 0 0)])] true [] fun r1=>
 R ()
theorem part_Machine_vote_call (p_m:Option Addr) (p_txn:Int) (p_code:Int) (p_r:Sl) {R:TR []→Pr} {w:World} (h:part_Machine_vote p_m p_txn p_code p_r R w):Cl Pg 117 [(.pointer p_m),(.int .u64 p_txn),(.int .i64 p_code),(.slice p_r.p p_r.len p_r.cap)] true [] R w:=
 call_eq Tryz.checked.mixed (.leaf) Tryz.func117 (by kernel_rfl) (by kernel_rfl) h
abbrev i_part_Machine_results:FuncId:=118
def part_Machine_results (p_m:Option Addr) (p_ops:Sl) (R:TR [.sc .sl]→Pr):Pr:=
 Nn p_m fun a1=>
 LdV (a1.add 20) fun x2=>
 Inv Pg x2 "Scan" [(.agg #[(.string (BA [])), (.string (BA []))]), (.int .i64 (-1))] true [.sc .sl, .sc (.i .i64)] fun r3 =>
 Br ((r3.2.1:Int) != 0) (
 Nn p_m fun a4=>
 St (a4.add 25) (.int .i64 r3.2.1) <|
 R (⟨none,0,0⟩,())) (
 Nn p_m fun a5=>
 LdL ((a5.add 21).add 1) fun x6=>
 Cl Pg 208 [(.slice r3.1.p r3.1.len r3.1.cap),(.slice x6.p x6.len x6.cap)] true [.sc .sl,.sc .sl,.sc (.i .i64)] fun r7=>
 Br ((r7.2.2.1:Int) != 0) (
 Nn p_m fun a8=>
 St (a8.add 25) (.int .i64 r7.2.2.1) <|
 R (⟨none,0,0⟩,())) (
 Cl Pg 208 [(.slice r7.1.p r7.1.len r7.1.cap),(.slice p_ops.p p_ops.len p_ops.cap)] true [.sc .sl,.sc .sl,.sc (.i .i64)] fun r9=>
 R (r9.2.1,())))
theorem part_Machine_results_call (p_m:Option Addr) (p_ops:Sl) {R:TR [.sc .sl]→Pr} {w:World} (h:part_Machine_results p_m p_ops R w):Cl Pg 118 [(.pointer p_m),(.slice p_ops.p p_ops.len p_ops.cap)] false [.sc .sl] R w:=
 call_eq Tryz.checked.mixed (.seq .leaf (.seq .leaf (.seq (.seq .leaf (.cond (.seq .leaf (.seq .leaf .leaf)) .leaf)) (.seq .leaf (.seq (.seq .leaf (.cond (.seq .leaf (.seq .leaf .leaf)) .leaf)) (.seq .leaf (.seq .leaf .leaf))))))) Tryz.func118 (by kernel_rfl) (by kernel_rfl) h
def part_Machine_work_2 (p_o_0:Int) (p_o_1:ByteArray) (p_o_2:ByteArray) (p_o_3:ByteArray) (p_o_4:ByteArray) (p_o_5:Int) (p_c0:Addr) (R:TR [.sc .b]→Pr):Pr:=
 New #[(.int .i64 p_o_0),(.string p_o_1),(.string p_o_2),(.string p_o_3),(.string p_o_4),(.int .i64 p_o_5)] 81 fun a1=>
 LdI .i64 (a1.add 0) fun x2=>
 LdS (a1.add 1) fun x3=>
 LdS (a1.add 2) fun x4=>
 LdS (a1.add 3) fun x5=>
 LdS (a1.add 4) fun x6=>
 LdI .i64 (a1.add 5) fun x7=>
 Cl Pg 61 [(.agg #[(.int .i64 x2),(.string x3),(.string x4),(.string x5),(.string x6),(.int .i64 x7)])] true [.ag [.s,.s],.sc (.i .i64)] fun r8=>
 New #[(.string (BA [])),(.string (BA []))] 37 fun a9=>
 St (a9.add 0) (.string r8.1.1) <|
 St (a9.add 1) (.string r8.1.2.1) <|
 Dr <|
 Br ((r8.2.1:Int) != 0) (
 R (true,())) (
 LdP p_c0 fun x10=>
 Nn x10 fun a11=>
 LdL ((a11.add 0).add 5) fun x12=>
 LdP p_c0 fun x13=>
 Nn x13 fun a14=>
 LdI .i64 ((a14.add 0).add 0) fun x15=>
 LdS (a9.add 0) fun x16=>
 LdS (a9.add 1) fun x17=>
 Cl Pg 120 [(.slice x12.p x12.len x12.cap),(.int .i64 x15),(.agg #[(.string x16),(.string x17)])] false [.sc .b] fun r18=>
 R ((!r18.1),()))
theorem part_Machine_work_2_call (p_o_0:Int) (p_o_1:ByteArray) (p_o_2:ByteArray) (p_o_3:ByteArray) (p_o_4:ByteArray) (p_o_5:Int) (p_c0:Addr) {R:TR [.sc .b]→Pr} {w:World} (h:part_Machine_work_2 p_o_0 p_o_1 p_o_2 p_o_3 p_o_4 p_o_5 p_c0 R w):Cl Pg 119 [(.agg #[(.int .i64 p_o_0),(.string p_o_1),(.string p_o_2),(.string p_o_3),(.string p_o_4),(.int .i64 p_o_5)]),(.pointer (some p_c0))] false [.sc .b] R w:=
 call_eq Tryz.checked.mixed (.seq .leaf (.seq .leaf (.seq .leaf .leaf))) Tryz.func119 (by kernel_rfl) (by kernel_rfl) h
abbrev i_owner_Owns:FuncId:=120
def owner_Owns (p_l:Sl) (p_shard:Int) (p_in_0:ByteArray) (p_in_1:ByteArray) (R:TR [.sc .b]→Pr):Pr:=
 New #[(.string p_in_0),(.string p_in_1)] 37 fun a1=>
 Cl Pg 44 [(.slice p_l.p p_l.len p_l.cap)] false [.sc (.i .i64)] fun r2=>
 Br ((r2.1:Int) != 0) (
 R (false,())) (
 Lp (σ:=Bool × Int × Unit) (fun L3 s4=>
 Br (decide ((s4.2.1:Int) < ((p_l.len:Nat):Int))) (
 Jp (σ:=Bool × Unit) (fun s6=>
 Br s6.1 (
 R (true,())) (
 L3 (s4.1,(w64 (s4.2.1 + 1)),()))) fun J5=>
 Dr <|
 Ix p_l s4.2.1 2 fun a7=>
 LdI .i64 (a7.add 1) fun x8=>
 Br ((x8:Int) == p_shard) (
 LdS (a1.add 0) fun x9=>
 LdS (a1.add 1) fun x10=>
 Cl Pg 209 [(.slice p_l.p p_l.len p_l.cap),(.int .i64 s4.2.1)] false [.ag [.s,.s]] fun r11=>
 Both (LdS (a1.add 0) fun x12=>
 LdS (a1.add 1) fun x13=>
 fun _=>((.agg #[(.string x12),(.string x13)]):Value)=(.agg #[(.string x9),(.string x10)])) <|
 Cl Pg 65 [(.agg #[(.string r11.1.1),(.string r11.1.2.1)]),(.agg #[(.string x9),(.string x10)])] false [.sc .b] fun r14=>
 J5 (r14.1,())) (
 J5 (false,()))) (
 R (false,()))) (false,0,()))
theorem owner_Owns_call (p_l:Sl) (p_shard:Int) (p_in_0:ByteArray) (p_in_1:ByteArray) {R:TR [.sc .b]→Pr} {w:World} (h:owner_Owns p_l p_shard p_in_0 p_in_1 R w):Cl Pg 120 [(.slice p_l.p p_l.len p_l.cap),(.int .i64 p_shard),(.agg #[(.string p_in_0),(.string p_in_1)])] false [.sc .b] R w:=
 call_eq Tryz.checked.mixed (.seq .leaf (.seq (.seq .leaf (.cond (.seq .leaf .leaf) .leaf)) (.seq (.seq .leaf (.block (.loop [(6,.sc .b),(13,.sc (.i .i64))] (.seq .leaf (.seq (.cond .leaf .leaf) (.seq (.block (.seq .leaf (.seq (.join [(29,.sc .b)] .leaf) (.cond (.seq .leaf .leaf) .leaf)))) .leaf)))))) (.seq .leaf .leaf)))) Tryz.func120 (by kernel_rfl) (by kernel_rfl) h
abbrev i_part_Machine_closed:FuncId:=121
def part_Machine_closed (p_m:Option Addr) (p_ops:Sl) (R:TR [.sc .b]→Pr):Pr:=
 Nn p_m fun a1=>
 LdI .u64 ((a1.add 0).add 9) fun x2=>
 Br ((x2:Int) != 0) (
 Nn p_m fun a3=>
 LdS (((a3.add 0).add 10).add 0) fun x4=>
 LdS (((a3.add 0).add 10).add 1) fun x5=>
 Cl Pg 210 [(.slice p_ops.p p_ops.len p_ops.cap),(.agg #[(.string x4),(.string x5)])] false [.sc .b] fun r6=>
 Br r6.1 (
 R (true,())) (
 Nn p_m fun a7=>
 LdP (a7.add 19) fun x8=>
 Br (!(Option.isNone x8)) (
 Nn p_m fun a9=>
 LdP (a9.add 19) fun x10=>
 Nn x10 fun a11=>
 LdB (a11.add 5) fun x12=>
 Br x12 (
 Nn p_m fun a13=>
 LdP (a13.add 19) fun x14=>
 Nn x14 fun a15=>
 LdS ((a15.add 2).add 0) fun x16=>
 LdS ((a15.add 2).add 1) fun x17=>
 Cl Pg 210 [(.slice p_ops.p p_ops.len p_ops.cap),(.agg #[(.string x16),(.string x17)])] false [.sc .b] fun r18=>
 R (r18.1,())) (
 R (false,()))) (
 R (false,())))) (
 Nn p_m fun a19=>
 LdP (a19.add 19) fun x20=>
 Br (!(Option.isNone x20)) (
 Nn p_m fun a21=>
 LdP (a21.add 19) fun x22=>
 Nn x22 fun a23=>
 LdB (a23.add 5) fun x24=>
 Br x24 (
 Nn p_m fun a25=>
 LdP (a25.add 19) fun x26=>
 Nn x26 fun a27=>
 LdS ((a27.add 2).add 0) fun x28=>
 LdS ((a27.add 2).add 1) fun x29=>
 Cl Pg 210 [(.slice p_ops.p p_ops.len p_ops.cap),(.agg #[(.string x28),(.string x29)])] false [.sc .b] fun r30=>
 R (r30.1,())) (
 R (false,()))) (
 R (false,())))
theorem part_Machine_closed_call (p_m:Option Addr) (p_ops:Sl) {R:TR [.sc .b]→Pr} {w:World} (h:part_Machine_closed p_m p_ops R w):Cl Pg 121 [(.pointer p_m),(.slice p_ops.p p_ops.len p_ops.cap)] false [.sc .b] R w:=
 call_eq Tryz.checked.mixed (.seq .leaf (.seq .leaf .leaf)) Tryz.func121 (by kernel_rfl) (by kernel_rfl) h
abbrev i_slices_Insert_wait:FuncId:=122
theorem slices_Insert_wait_call (p_s:Sl) (p_i:Int) (p_v:Sl) {R:TR [.sc .sl]→Pr} {w:World} (h:Insert_tx Pg 211 212 114 4 64 (zc Pg 114) p_s p_i p_v R w):Cl Pg 122 [(.slice p_s.p p_s.len p_s.cap),(.int .i64 p_i),(.slice p_v.p p_v.len p_v.cap)] false [.sc .sl] R w:=
 call_eq Tryz.checked.mixed (.seq .leaf (.seq .leaf (.seq .leaf (.seq (.seq .leaf (.cond (.seq .leaf .leaf) .leaf)) (.seq .leaf (.seq (.seq .leaf (.cond (.seq .leaf .leaf) .leaf)) (.seq (.seq .leaf (.cond (.seq .leaf (.seq .leaf (.seq .leaf (.seq .leaf .leaf)))) .leaf)) (.seq .leaf (.seq (.seq .leaf (.cond (.seq .leaf (.seq .leaf (.seq .leaf .leaf))) .leaf)) (.seq .leaf (.seq .leaf (.seq .leaf .leaf)))))))))))) Tryz.func122 (by kernel_rfl) (by kernel_rfl) h
abbrev i_part_Machine_goes:FuncId:=123
def part_Machine_goes (p_m:Option Addr) (p_txn:Int) (R:TR []→Pr):Pr:=
 Lp (σ:=Unit) (fun L1 s2=>
 Nn p_m fun a3=>
 LdI .i64 (a3.add 25) fun x4=>
 Br ((x4:Int) == 0) (
 Cl Pg 115 [(.pointer p_m),(.int .u64 p_txn)] true [.sc (.i .i64),.sc .b] fun r5=>
 Br (!r5.2.1) (
 R ()) (
 Nn p_m fun a6=>
 LdL (a6.add 17) fun x7=>
 Ix x7 r5.1 4 fun a8=>
 Dr <|
 LdI .i64 (a8.add 3) fun x9=>
 LdL (a8.add 2) fun x10=>
 Br ((x9:Int) == ((x10.len:Nat):Int)) (
 LdL (a8.add 1) fun x11=>
 Nn p_m fun a12=>
 LdL (a12.add 17) fun x13=>
 Cl Pg 128 [(.slice x13.p x13.len x13.cap),(.int .i64 r5.1),(.int .i64 (w64 (r5.1 + 1)))] false [.sc .sl] fun r14=>
 Nn p_m fun a15=>
 St (a15.add 17) (.slice r14.1.p r14.1.len r14.1.cap) <|
 Cl Pg 116 [(.pointer p_m),(.int .u64 p_txn)] true [.sc (.i .i64),.sc .b] fun r16=>
 Nn p_m fun a17=>
 LdL ((a17.add 0).add 6) fun x18=>
 New #[(.int .u64 p_txn),(.slice x11.p x11.len x11.cap)] 60 fun a19=>
 Cl Pg 213 [(.slice x18.p x18.len x18.cap),(.int .i64 r16.1),(.slice (some a19) 1 1)] false [.sc .sl] fun r20=>
 Nn p_m fun a21=>
 St ((a21.add 0).add 6) (.slice r20.1.p r20.1.len r20.1.cap) <|
 Cl Pg 118 [(.pointer p_m),(.slice x11.p x11.len x11.cap)] false [.sc .sl] fun r22=>
 Cl Pg 117 [(.pointer p_m),(.int .u64 p_txn),(.int .i64 3),(.slice r22.1.p r22.1.len r22.1.cap)] true [] fun r23=>
 R ()) (
 Dr <|
 Nn p_m fun a24=>
 LdP (a24.add 18) fun x25=>
 LdL (a8.add 2) fun x26=>
 LdI .i64 (a8.add 3) fun x27=>
 Ix x26 x27 3 fun a28=>
 LdS (a28.add 0) fun x29=>
 LdS (a28.add 1) fun x30=>
 LdB (a28.add 2) fun x31=>
 Cl Pg 29 [(.pointer x25),(.int .u64 p_txn),(.agg #[(.string x29),(.string x30),(.bool x31)])] true [.sc (.i .i64),.sc .sl,.sc .sl,.sc (.i .i64)] fun r32=>
 LdI .i64 (a8.add 3) fun x33=>
 St (a8.add 3) (.int .i64 (w64 (x33 + 1))) <|
 Cl Pg 214 [(.pointer p_m),(.slice r32.2.1.p r32.2.1.len r32.2.1.cap),(.slice r32.2.2.1.p r32.2.2.1.len r32.2.2.1.cap)] true [] fun r34=>
 Br ((r32.1:Int) == 2) (
 R ()) (
 Br ((r32.1:Int) == 3) (
 Nn p_m fun a35=>
 LdL (a35.add 17) fun x36=>
 Cl Pg 128 [(.slice x36.p x36.len x36.cap),(.int .i64 r5.1),(.int .i64 (w64 (r5.1 + 1)))] false [.sc .sl] fun r37=>
 Nn p_m fun a38=>
 St (a38.add 17) (.slice r37.1.p r37.1.len r37.1.cap) <|
 Cl Pg 117 [(.pointer p_m),(.int .u64 p_txn),(.int .i64 5),(.slice none 0 0)] true [] fun r39=>
 Cl Pg 215 [(.pointer p_m),(.int .u64 p_txn)] true [] fun r40=>
 R ()) (
 L1 ()))))) (
 R ())) ()
theorem part_Machine_goes_call (p_m:Option Addr) (p_txn:Int) {R:TR []→Pr} {w:World} (h:part_Machine_goes p_m p_txn R w):Cl Pg 123 [(.pointer p_m),(.int .u64 p_txn)] true [] R w:=
 call_eq Tryz.checked.mixed (.block (.loop [] (.seq (.seq .leaf (.cond .leaf .leaf)) (.block (.seq .leaf (.seq (.seq .leaf (.cond .leaf .leaf)) (.seq .leaf (.seq (.seq .leaf (.cond (.seq .leaf (.seq .leaf (.seq .leaf (.seq .leaf (.seq .leaf .leaf))))) .leaf)) (.seq .leaf (.seq .leaf (.seq .leaf (.seq .leaf (.block (.seq .leaf (.cond .leaf (.seq .leaf (.cond (.seq .leaf (.seq .leaf (.seq .leaf .leaf))) .leaf))))))))))))))))) Tryz.func123 (by kernel_rfl) (by kernel_rfl) h
abbrev i_part_Machine_through:FuncId:=124
def part_Machine_through (p_m:Option Addr) (R:TR []→Pr):Pr:=
 Lp (σ:=Unit) (fun L1 s2=>
 Nn p_m fun a3=>
 LdL (a3.add 24) fun x4=>
 Br (decide ((((x4.len:Nat):Int):Int) > 0)) (
 Nn p_m fun a5=>
 LdL (a5.add 24) fun x6=>
 Ix x6 0 2 fun a7=>
 LdI .u64 (a7.add 0) fun x8=>
 LdB (a7.add 1) fun x9=>
 New #[(.int .u64 0),(.bool false)] 282 fun a10=>
 St (a10.add 0) (.int .u64 x8) <|
 St (a10.add 1) (.bool x9) <|
 Nn p_m fun a11=>
 LdL (a11.add 24) fun x12=>
 Req ((0:Int)≤1∧1≤((x12.len:Nat):Int)) <|
 Nn p_m fun a13=>
 St (a13.add 24) (.slice (slOff x12.p x12.cap (Int.toNat 1) 2) (x12.len - (Int.toNat 1)) (x12.cap - (Int.toNat 1))) <|
 LdB (a10.add 1) fun x14=>
 Br (!x14) (
 LdI .u64 (a10.add 0) fun x15=>
 Cl Pg 123 [(.pointer p_m),(.int .u64 x15)] true [] fun r16=>
 L1 ()) (
 LdI .u64 (a10.add 0) fun x17=>
 Cl Pg 115 [(.pointer p_m),(.int .u64 x17)] true [.sc (.i .i64),.sc .b] fun r18=>
 Br r18.2.1 (
 Nn p_m fun a19=>
 LdL (a19.add 17) fun x20=>
 Cl Pg 128 [(.slice x20.p x20.len x20.cap),(.int .i64 r18.1),(.int .i64 (w64 (r18.1 + 1)))] false [.sc .sl] fun r21=>
 Nn p_m fun a22=>
 St (a22.add 17) (.slice r21.1.p r21.1.len r21.1.cap) <|
 LdI .u64 (a10.add 0) fun x23=>
 Cl Pg 117 [(.pointer p_m),(.int .u64 x23),(.int .i64 5),(.slice none 0 0)] true [] fun r24=>
 L1 ()) (
 L1 ()))) (
 Nn p_m fun a25=>
 St (a25.add 24) (.slice none 0 0) <|
 R ())) ()
theorem part_Machine_through_call (p_m:Option Addr) {R:TR []→Pr} {w:World} (h:part_Machine_through p_m R w):Cl Pg 124 [(.pointer p_m)] true [] R w:=
 call_eq Tryz.checked.mixed (.seq (.block (.loop [] (.seq (.seq .leaf (.cond .leaf .leaf)) (.block (.seq .leaf (.seq .leaf (.seq .leaf (.cond .leaf (.seq .leaf (.seq .leaf (.cond (.seq .leaf .leaf) .leaf))))))))))) .leaf) Tryz.func124 (by kernel_rfl) (by kernel_rfl) h
abbrev i_slices_Delete_Hold:FuncId:=125
theorem slices_Delete_Hold_call (p_s:Sl) (p_i:Int) (p_j:Int) {R:TR [.sc .sl]→Pr} {w:World} (h:Delete_tx 60 2 32 (zc Pg 60) p_s p_i p_j R w):Cl Pg 125 [(.slice p_s.p p_s.len p_s.cap),(.int .i64 p_i),(.int .i64 p_j)] false [.sc .sl] R w:=
 call_eq Tryz.checked.mixed (.seq .leaf (.seq .leaf (.seq (.seq .leaf (.cond (.seq .leaf .leaf) .leaf)) (.seq .leaf (.seq .leaf (.seq .leaf (.seq .leaf .leaf))))))) Tryz.func125 (by kernel_rfl) (by kernel_rfl) h
abbrev i_part_Machine_behind:FuncId:=126
def part_Machine_behind (p_m:Option Addr) (p_o_0:Int) (p_o_1:ByteArray) (p_o_2:ByteArray) (p_o_3:ByteArray) (p_o_4:ByteArray) (p_o_5:Int) (R:TR []→Pr):Pr:=
 New #[(.int .i64 p_o_0),(.string p_o_1),(.string p_o_2),(.string p_o_3),(.string p_o_4),(.int .i64 p_o_5)] 81 fun a1=>
 Jp (σ:=Bool × Unit) (fun s3=>
 Br s3.1 (
 R ()) (
 Jp (σ:=Unit) (fun s5=>
 Dr <|
 Nn p_m fun a6=>
 LdP (a6.add 19) fun x7=>
 Nn p_m fun a8=>
 LdP (a8.add 19) fun x9=>
 Nn x9 fun a10=>
 LdL (a10.add 9) fun x11=>
 LdI .i64 (a1.add 0) fun x12=>
 LdS (a1.add 1) fun x13=>
 LdS (a1.add 2) fun x14=>
 LdS (a1.add 3) fun x15=>
 LdS (a1.add 4) fun x16=>
 LdI .i64 (a1.add 5) fun x17=>
 New #[(.int .i64 x12),(.string x13),(.string x14),(.string x15),(.string x16),(.int .i64 x17)] 81 fun a18=>
 Both (LdL (a10.add 9) fun x19=>
 fun _=>((.slice x19.p x19.len x19.cap):Value)=(.slice x11.p x11.len x11.cap)) <|
 Both (LdP (a8.add 19) fun x20=>
 fun _=>((.pointer x20):Value)=(.pointer x9)) <|
 Both (LdP (a6.add 19) fun x21=>
 fun _=>((.pointer x21):Value)=(.pointer x7)) <|
 App 81 6 80 (zc Pg 81) x11 1 (srcS (some a18) 1 6) fun r22=>
 Both (LdP (a6.add 19) fun x23=>
 fun _=>((.pointer x23):Value)=(.pointer x7)) <|
 Nn x7 fun a24=>
 St (a24.add 9) (.slice r22.p r22.len r22.cap) <|
 R ()) fun J4=>
 LdI .i64 (a1.add 0) fun x25=>
 Br ((x25:Int) == 5) (
 Jp (σ:=Option Addr × Unit) (fun s27=>
 Dr <|
 Nn s27.1 fun a28=>
 LdS (a28.add 0) fun x29=>
 Nn s27.1 fun a30=>
 LdS (a30.add 1) fun x31=>
 St (a1.add 3) (.string x29) <|
 Both (LdS (a30.add 1) fun x32=>
 fun _=>((.string x32):Value)=(.string x31)) <|
 St (a1.add 4) (.string x31) <|
 J4 ()) fun J26=>
 Dr <|
 Nn p_m fun a33=>
 LdP (a33.add 19) fun x34=>
 Nn x34 fun a35=>
 LdS ((a35.add 2).add 0) fun x36=>
 LdS ((a35.add 2).add 1) fun x37=>
 LdS (a1.add 3) fun x38=>
 LdS (a1.add 4) fun x39=>
 Both (
 Cl Pg 105 [(.agg #[(.string x36),(.string x37)]),(.agg #[(.string x38),(.string x39)])] true [.ag [.s,.s],.sc .b] fun r40=>
 New #[(.string (BA [])),(.string (BA []))] 37 fun a41=>
 Both (LdS (a1.add 4) fun x42=>
 fun _=>((.string x42):Value)=(.string x39)) <|
 Both (LdS (a1.add 3) fun x43=>
 fun _=>((.string x43):Value)=(.string x38)) <|
 Both (LdS ((a35.add 2).add 0) fun x44=>
 LdS ((a35.add 2).add 1) fun x45=>
 fun _=>((.agg #[(.string x44),(.string x45)]):Value)=(.agg #[(.string x36),(.string x37)])) <|
 Both (LdP (a33.add 19) fun x46=>
 fun _=>((.pointer x46):Value)=(.pointer x34)) <|
 St (a41.add 0) (.string r40.1.1) <|
 St (a41.add 1) (.string r40.1.2.1) <|
 J26 ((some a41),())) <|
 New #[(.string (BA [])),(.string (BA []))] 37 fun a47=>
 Both (LdS (a1.add 4) fun x48=>
 fun _=>((.string x48):Value)=(.string x39)) <|
 Both (LdS (a1.add 3) fun x49=>
 fun _=>((.string x49):Value)=(.string x38)) <|
 Both (LdS ((a35.add 2).add 0) fun x50=>
 LdS ((a35.add 2).add 1) fun x51=>
 fun _=>((.agg #[(.string x50),(.string x51)]):Value)=(.agg #[(.string x36),(.string x37)])) <|
 Both (LdP (a33.add 19) fun x52=>
 fun _=>((.pointer x52):Value)=(.pointer x34)) <|
 Cl Pg 105 [(.agg #[(.string x36),(.string x37)]),(.agg #[(.string x38),(.string x39)])] true [.ag [.s,.s],.sc .b] fun r53=>
 St (a47.add 0) (.string r53.1.1) <|
 St (a47.add 1) (.string r53.1.2.1) <|
 J26 ((some a47),())) (
 J4 ()))) fun J2=>
 Dr <|
 Nn p_m fun a54=>
 LdP (a54.add 19) fun x55=>
 Br (Option.isNone x55) (
 J2 (true,())) (
 LdI .i64 (a1.add 0) fun x56=>
 LdS (a1.add 1) fun x57=>
 LdS (a1.add 2) fun x58=>
 LdS (a1.add 3) fun x59=>
 LdS (a1.add 4) fun x60=>
 LdI .i64 (a1.add 5) fun x61=>
 Nn p_m fun a62=>
 LdP (a62.add 19) fun x63=>
 Nn x63 fun a64=>
 LdS ((a64.add 2).add 0) fun x65=>
 LdS ((a64.add 2).add 1) fun x66=>
 New #[(.int .i64 x56),(.string x57),(.string x58),(.string x59),(.string x60),(.int .i64 x61)] 81 fun a67=>
 Both (LdS ((a64.add 2).add 0) fun x68=>
 LdS ((a64.add 2).add 1) fun x69=>
 fun _=>((.agg #[(.string x68),(.string x69)]):Value)=(.agg #[(.string x65),(.string x66)])) <|
 Both (LdP (a62.add 19) fun x70=>
 fun _=>((.pointer x70):Value)=(.pointer x63)) <|
 Cl Pg 210 [(.slice (some a67) 1 1),(.agg #[(.string x65),(.string x66)])] false [.sc .b] fun r71=>
 J2 ((!r71.1),()))
theorem part_Machine_behind_call (p_m:Option Addr) (p_o_0:Int) (p_o_1:ByteArray) (p_o_2:ByteArray) (p_o_3:ByteArray) (p_o_4:ByteArray) (p_o_5:Int) {R:TR []→Pr} {w:World} (h:part_Machine_behind p_m p_o_0 p_o_1 p_o_2 p_o_3 p_o_4 p_o_5 R w):Cl Pg 126 [(.pointer p_m),(.agg #[(.int .i64 p_o_0),(.string p_o_1),(.string p_o_2),(.string p_o_3),(.string p_o_4),(.int .i64 p_o_5)])] true [] R w:=
 call_eq Tryz.checked.mixed (.seq .leaf (.seq (.seq (.join [(23,.sc .b)] .leaf) (.cond .leaf .leaf)) (.seq (.join [] (.seq .leaf (.cond (.seq (.join [(4,.sc .p)] .leaf) .leaf) .leaf))) .leaf))) Tryz.func126 (by kernel_rfl) (by kernel_rfl) h
abbrev i_part_Machine_finish:FuncId:=127
def part_Machine_finish (p_m:Option Addr) (p_txn:Int) (R:TR []→Pr):Pr:=
 Jp (σ:=Unit) (fun s2=>
 Cl Pg 215 [(.pointer p_m),(.int .u64 p_txn)] true [] fun r3=>
 Cl Pg 124 [(.pointer p_m)] true [] fun r4=>
 R ()) fun J1=>
 Nn p_m fun a5=>
 LdL ((a5.add 0).add 7) fun x6=>
 Cl Pg 216 [(.slice x6.p x6.len x6.cap),(.int .u64 p_txn)] true [.sc (.i .i64),.sc .b] fun r7=>
 Jp (σ:=Bool × Unit) (fun s9=>
 Br s9.1 (
 Nn p_m fun a10=>
 LdL ((a10.add 0).add 7) fun x11=>
 New #[(.int .u64 p_txn)] 32 fun a12=>
 Cl Pg 217 [(.slice x11.p x11.len x11.cap),(.int .i64 r7.1),(.slice (some a12) 1 1)] false [.sc .sl] fun r13=>
 Nn p_m fun a14=>
 St ((a14.add 0).add 7) (.slice r13.1.p r13.1.len r13.1.cap) <|
 J1 ()) (
 J1 ())) fun J8=>
 Nn p_m fun a15=>
 LdI .u64 ((a15.add 0).add 8) fun x16=>
 Br (decide ((p_txn:Int) ≥ x16)) (
 J8 ((!r7.2.1),())) (
 J8 (false,()))
theorem part_Machine_finish_call (p_m:Option Addr) (p_txn:Int) {R:TR []→Pr} {w:World} (h:part_Machine_finish p_m p_txn R w):Cl Pg 127 [(.pointer p_m),(.int .u64 p_txn)] true [] R w:=
 call_eq Tryz.checked.mixed (.seq (.join [] (.seq .leaf (.seq (.join [(26,.sc .b)] .leaf) (.cond .leaf .leaf)))) (.seq .leaf .leaf)) Tryz.func127 (by kernel_rfl) (by kernel_rfl) h
abbrev i_slices_Delete_wait:FuncId:=128
theorem slices_Delete_wait_call (p_s:Sl) (p_i:Int) (p_j:Int) {R:TR [.sc .sl]→Pr} {w:World} (h:Delete_tx 114 4 64 (zc Pg 114) p_s p_i p_j R w):Cl Pg 128 [(.slice p_s.p p_s.len p_s.cap),(.int .i64 p_i),(.int .i64 p_j)] false [.sc .sl] R w:=
 call_eq Tryz.checked.mixed (.seq .leaf (.seq .leaf (.seq (.seq .leaf (.cond (.seq .leaf .leaf) .leaf)) (.seq .leaf (.seq .leaf (.seq .leaf (.seq .leaf .leaf))))))) Tryz.func128 (by kernel_rfl) (by kernel_rfl) h
abbrev i_wire_client:FuncId:=135
abbrev i_wire_coord:FuncId:=136
def wire_coord (p_n:Int) (R:TR [.sc .b]→Pr):Pr:=
 R (((p_n:Int) == 0),())
theorem wire_coord_call (p_n:Int) {R:TR [.sc .b]→Pr} {w:World} (h:wire_coord p_n R w):Cl Pg 136 [(.int .i64 p_n)] false [.sc .b] R w:=
 call_eq Tryz.checked.mixed (.seq .leaf (.seq .leaf .leaf)) Tryz.func136 (by kernel_rfl) (by kernel_rfl) h
abbrev i_wire_formOf_1:FuncId:=137
abbrev i_wire_formOf_2:FuncId:=139
abbrev i_wire_shard:FuncId:=141
def wire_shard (p_n:Int) (R:TR [.sc .b]→Pr):Pr:=
 Br (decide ((p_n:Int) ≥ 1)) (
 R ((decide ((p_n:Int)≤4)),())) (
 R (false,()))
theorem wire_shard_call (p_n:Int) {R:TR [.sc .b]→Pr} {w:World} (h:wire_shard p_n R w):Cl Pg 141 [(.int .i64 p_n)] false [.sc .b] R w:=
 call_eq Tryz.checked.mixed (.seq .leaf (.seq .leaf .leaf)) Tryz.func141 (by kernel_rfl) (by kernel_rfl) h
abbrev i_wire_formOf_3:FuncId:=142
def wire_formOf_3 (p_m_0:Int) (p_m_1:Int) (p_m_2:Int) (p_m_3:Int) (p_m_4:Int) (p_m_5:Int) (p_m_6:Int) (p_m_7:Int) (p_m_8:Int) (p_m_9:Int) (p_m_10:Int) (p_m_11:Int) (p_m_12:Int) (p_m_13:Int) (p_m_14:Int) (p_m_15:Bool) (p_m_16:ByteArray) (p_m_17:ByteArray) (p_m_18:Sl) (p_m_19:Sl) (p_m_20:Sl) (R:TR [.sc .b]→Pr):Pr:=
 New #[(.int .i64 p_m_0),(.int .i64 p_m_1),(.int .i64 p_m_2),(.int .i64 p_m_3),(.int .i64 p_m_4),(.int .i64 p_m_5),(.int .u64 p_m_6),(.int .u64 p_m_7),(.int .u64 p_m_8),(.int .u64 p_m_9),(.int .u64 p_m_10),(.int .u64 p_m_11),(.int .u64 p_m_12),(.int .u64 p_m_13),(.int .u64 p_m_14),(.bool p_m_15),(.string p_m_16),(.string p_m_17),(.slice p_m_18.p p_m_18.len p_m_18.cap),(.slice p_m_19.p p_m_19.len p_m_19.cap),(.slice p_m_20.p p_m_20.len p_m_20.cap)] 47 fun a1=>
 LdL (a1.add 18) fun x2=>
 Br (decide ((((x2.len:Nat):Int):Int) > 0)) (
 LdL (a1.add 18) fun x3=>
 Cl Pg 143 [(.slice x3.p x3.len x3.cap),(.int .i64 24)] false [.sc .b] fun r4=>
 R (r4.1,())) (
 R (false,()))
theorem wire_formOf_3_call (p_m_0:Int) (p_m_1:Int) (p_m_2:Int) (p_m_3:Int) (p_m_4:Int) (p_m_5:Int) (p_m_6:Int) (p_m_7:Int) (p_m_8:Int) (p_m_9:Int) (p_m_10:Int) (p_m_11:Int) (p_m_12:Int) (p_m_13:Int) (p_m_14:Int) (p_m_15:Bool) (p_m_16:ByteArray) (p_m_17:ByteArray) (p_m_18:Sl) (p_m_19:Sl) (p_m_20:Sl) {R:TR [.sc .b]→Pr} {w:World} (h:wire_formOf_3 p_m_0 p_m_1 p_m_2 p_m_3 p_m_4 p_m_5 p_m_6 p_m_7 p_m_8 p_m_9 p_m_10 p_m_11 p_m_12 p_m_13 p_m_14 p_m_15 p_m_16 p_m_17 p_m_18 p_m_19 p_m_20 R w):Cl Pg 142 [(.agg #[(.int .i64 p_m_0),(.int .i64 p_m_1),(.int .i64 p_m_2),(.int .i64 p_m_3),(.int .i64 p_m_4),(.int .i64 p_m_5),(.int .u64 p_m_6),(.int .u64 p_m_7),(.int .u64 p_m_8),(.int .u64 p_m_9),(.int .u64 p_m_10),(.int .u64 p_m_11),(.int .u64 p_m_12),(.int .u64 p_m_13),(.int .u64 p_m_14),(.bool p_m_15),(.string p_m_16),(.string p_m_17),(.slice p_m_18.p p_m_18.len p_m_18.cap),(.slice p_m_19.p p_m_19.len p_m_19.cap),(.slice p_m_20.p p_m_20.len p_m_20.cap)])] false [.sc .b] R w:=
 call_eq Tryz.checked.mixed (.seq .leaf (.seq .leaf .leaf)) Tryz.func142 (by kernel_rfl) (by kernel_rfl) h
end Go.Proofs.YthkdehgfdllpoaaGreat
set_option linter.unusedVariables false
namespace Go.Proofs.YthkdehgfdllpoaaGreat
open Go Go.Sx
abbrev i_wire_ops:FuncId:=143
def wire_ops (p_l:Sl) (p_most:Int) (R:TR [.sc .b]→Pr):Pr:=
 Br (decide ((((p_l.len:Nat):Int):Int)≤p_most)) (
 Cl Pg 48 [(.slice p_l.p p_l.len p_l.cap),(.func (.func 229) #[] #[])] false [.sc .b] fun r1=>
 R ((!r1.1),())) (
 R (false,()))
theorem wire_ops_call (p_l:Sl) (p_most:Int) {R:TR [.sc .b]→Pr} {w:World} (h:wire_ops p_l p_most R w):Cl Pg 143 [(.slice p_l.p p_l.len p_l.cap),(.int .i64 p_most)] false [.sc .b] R w:=
 call_eq Tryz.checked.mixed (.seq .leaf (.seq .leaf .leaf)) Tryz.func143 (by kernel_rfl) (by kernel_rfl) h
abbrev i_wire_formOf_4:FuncId:=144
abbrev i_wire_whatever:FuncId:=145
def wire_whatever (p_x0_0:Int) (p_x0_1:Int) (p_x0_2:Int) (p_x0_3:Int) (p_x0_4:Int) (p_x0_5:Int) (p_x0_6:Int) (p_x0_7:Int) (p_x0_8:Int) (p_x0_9:Int) (p_x0_10:Int) (p_x0_11:Int) (p_x0_12:Int) (p_x0_13:Int) (p_x0_14:Int) (p_x0_15:Bool) (p_x0_16:ByteArray) (p_x0_17:ByteArray) (p_x0_18:Sl) (p_x0_19:Sl) (p_x0_20:Sl) (R:TR [.sc .b]→Pr):Pr:=
 New #[(.int .i64 p_x0_0),(.int .i64 p_x0_1),(.int .i64 p_x0_2),(.int .i64 p_x0_3),(.int .i64 p_x0_4),(.int .i64 p_x0_5),(.int .u64 p_x0_6),(.int .u64 p_x0_7),(.int .u64 p_x0_8),(.int .u64 p_x0_9),(.int .u64 p_x0_10),(.int .u64 p_x0_11),(.int .u64 p_x0_12),(.int .u64 p_x0_13),(.int .u64 p_x0_14),(.bool p_x0_15),(.string p_x0_16),(.string p_x0_17),(.slice p_x0_18.p p_x0_18.len p_x0_18.cap),(.slice p_x0_19.p p_x0_19.len p_x0_19.cap),(.slice p_x0_20.p p_x0_20.len p_x0_20.cap)] 47 fun a1=>
 R (true,())
theorem wire_whatever_call (p_x0_0:Int) (p_x0_1:Int) (p_x0_2:Int) (p_x0_3:Int) (p_x0_4:Int) (p_x0_5:Int) (p_x0_6:Int) (p_x0_7:Int) (p_x0_8:Int) (p_x0_9:Int) (p_x0_10:Int) (p_x0_11:Int) (p_x0_12:Int) (p_x0_13:Int) (p_x0_14:Int) (p_x0_15:Bool) (p_x0_16:ByteArray) (p_x0_17:ByteArray) (p_x0_18:Sl) (p_x0_19:Sl) (p_x0_20:Sl) {R:TR [.sc .b]→Pr} {w:World} (h:wire_whatever p_x0_0 p_x0_1 p_x0_2 p_x0_3 p_x0_4 p_x0_5 p_x0_6 p_x0_7 p_x0_8 p_x0_9 p_x0_10 p_x0_11 p_x0_12 p_x0_13 p_x0_14 p_x0_15 p_x0_16 p_x0_17 p_x0_18 p_x0_19 p_x0_20 R w):Cl Pg 145 [(.agg #[(.int .i64 p_x0_0),(.int .i64 p_x0_1),(.int .i64 p_x0_2),(.int .i64 p_x0_3),(.int .i64 p_x0_4),(.int .i64 p_x0_5),(.int .u64 p_x0_6),(.int .u64 p_x0_7),(.int .u64 p_x0_8),(.int .u64 p_x0_9),(.int .u64 p_x0_10),(.int .u64 p_x0_11),(.int .u64 p_x0_12),(.int .u64 p_x0_13),(.int .u64 p_x0_14),(.bool p_x0_15),(.string p_x0_16),(.string p_x0_17),(.slice p_x0_18.p p_x0_18.len p_x0_18.cap),(.slice p_x0_19.p p_x0_19.len p_x0_19.cap),(.slice p_x0_20.p p_x0_20.len p_x0_20.cap)])] false [.sc .b] R w:=
 call_eq Tryz.checked.mixed (.seq .leaf (.seq .leaf .leaf)) Tryz.func145 (by kernel_rfl) (by kernel_rfl) h
abbrev i_wire_formOf_5:FuncId:=146
abbrev i_wire_formOf_6:FuncId:=147
abbrev i_wire_formOf_7:FuncId:=148
abbrev i_wire_formOf_8:FuncId:=150
abbrev i_wire_num:FuncId:=151
def wire_num (p_of:Value) (R:TR [.ag [.v,.v,.v]]→Pr):Pr:=
 Req ((p_of:Value).oneCell'=true) <|
 New #[p_of] 222 fun a1=>
 New #[.nilFunc,.nilFunc,.nilFunc] 171 fun a2=>
 Req (((.func (.func 230) #[] #[(.pointer (some a1))]):Value).oneCell'=true) <|
 Req (((.func (.func 232) #[] #[(.pointer (some a1))]):Value).oneCell'=true) <|
 Req (((.func (.func 234) #[] #[(.pointer (some a1))]):Value).oneCell'=true) <|
 St (a2.add 0) (.func (.func 230) #[] #[(.pointer (some a1))]) <|
 St (a2.add 1) (.func (.func 232) #[] #[(.pointer (some a1))]) <|
 St (a2.add 2) (.func (.func 234) #[] #[(.pointer (some a1))]) <|
 LdV (a2.add 0) fun x3=>
 LdV (a2.add 1) fun x4=>
 LdV (a2.add 2) fun x5=>
 R ((x3,x4,x5,()),())
theorem wire_num_call (p_of:Value) {R:TR [.ag [.v,.v,.v]]→Pr} {w:World} (h:wire_num p_of R w):Cl Pg 151 [p_of] false [.ag [.v,.v,.v]] R w:=
 call_eq Tryz.checked.mixed (.seq .leaf (.seq .leaf .leaf)) Tryz.func151 (by kernel_rfl) (by kernel_rfl) h
abbrev i_wire_all_1:FuncId:=152
def wire_all_1 (p_m:Option Addr) (R:TR [.sc .p]→Pr):Pr:=
 Nn p_m fun a1=>
 R ((some (a1.add 6)),())
theorem wire_all_1_call (p_m:Option Addr) {R:TR [.sc .p]→Pr} {w:World} (h:wire_all_1 p_m R w):Cl Pg 152 [(.pointer p_m)] false [.sc .p] R w:=
 call_eq Tryz.checked.mixed (.seq .leaf (.seq .leaf .leaf)) Tryz.func152 (by kernel_rfl) (by kernel_rfl) h
abbrev i_wire_all_2:FuncId:=153
def wire_all_2 (p_m:Option Addr) (R:TR [.sc .p]→Pr):Pr:=
 Nn p_m fun a1=>
 R ((some (a1.add 7)),())
theorem wire_all_2_call (p_m:Option Addr) {R:TR [.sc .p]→Pr} {w:World} (h:wire_all_2 p_m R w):Cl Pg 153 [(.pointer p_m)] false [.sc .p] R w:=
 call_eq Tryz.checked.mixed (.seq .leaf (.seq .leaf .leaf)) Tryz.func153 (by kernel_rfl) (by kernel_rfl) h
abbrev i_wire_all_3:FuncId:=154
def wire_all_3 (p_m:Option Addr) (R:TR [.sc .p]→Pr):Pr:=
 Nn p_m fun a1=>
 R ((some (a1.add 8)),())
theorem wire_all_3_call (p_m:Option Addr) {R:TR [.sc .p]→Pr} {w:World} (h:wire_all_3 p_m R w):Cl Pg 154 [(.pointer p_m)] false [.sc .p] R w:=
 call_eq Tryz.checked.mixed (.seq .leaf (.seq .leaf .leaf)) Tryz.func154 (by kernel_rfl) (by kernel_rfl) h
abbrev i_wire_all_4:FuncId:=155
def wire_all_4 (p_m:Option Addr) (R:TR [.sc .p]→Pr):Pr:=
 Nn p_m fun a1=>
 R ((some (a1.add 9)),())
theorem wire_all_4_call (p_m:Option Addr) {R:TR [.sc .p]→Pr} {w:World} (h:wire_all_4 p_m R w):Cl Pg 155 [(.pointer p_m)] false [.sc .p] R w:=
 call_eq Tryz.checked.mixed (.seq .leaf (.seq .leaf .leaf)) Tryz.func155 (by kernel_rfl) (by kernel_rfl) h
abbrev i_wire_all_5:FuncId:=156
def wire_all_5 (p_m:Option Addr) (R:TR [.sc .p]→Pr):Pr:=
 Nn p_m fun a1=>
 R ((some (a1.add 10)),())
theorem wire_all_5_call (p_m:Option Addr) {R:TR [.sc .p]→Pr} {w:World} (h:wire_all_5 p_m R w):Cl Pg 156 [(.pointer p_m)] false [.sc .p] R w:=
 call_eq Tryz.checked.mixed (.seq .leaf (.seq .leaf .leaf)) Tryz.func156 (by kernel_rfl) (by kernel_rfl) h
abbrev i_wire_all_6:FuncId:=157
def wire_all_6 (p_m:Option Addr) (R:TR [.sc .p]→Pr):Pr:=
 Nn p_m fun a1=>
 R ((some (a1.add 11)),())
theorem wire_all_6_call (p_m:Option Addr) {R:TR [.sc .p]→Pr} {w:World} (h:wire_all_6 p_m R w):Cl Pg 157 [(.pointer p_m)] false [.sc .p] R w:=
 call_eq Tryz.checked.mixed (.seq .leaf (.seq .leaf .leaf)) Tryz.func157 (by kernel_rfl) (by kernel_rfl) h
abbrev i_wire_all_7:FuncId:=158
def wire_all_7 (p_m:Option Addr) (R:TR [.sc .p]→Pr):Pr:=
 Nn p_m fun a1=>
 R ((some (a1.add 12)),())
theorem wire_all_7_call (p_m:Option Addr) {R:TR [.sc .p]→Pr} {w:World} (h:wire_all_7 p_m R w):Cl Pg 158 [(.pointer p_m)] false [.sc .p] R w:=
 call_eq Tryz.checked.mixed (.seq .leaf (.seq .leaf .leaf)) Tryz.func158 (by kernel_rfl) (by kernel_rfl) h
abbrev i_wire_all_8:FuncId:=159
def wire_all_8 (p_m:Option Addr) (R:TR [.sc .p]→Pr):Pr:=
 Nn p_m fun a1=>
 R ((some (a1.add 13)),())
theorem wire_all_8_call (p_m:Option Addr) {R:TR [.sc .p]→Pr} {w:World} (h:wire_all_8 p_m R w):Cl Pg 159 [(.pointer p_m)] false [.sc .p] R w:=
 call_eq Tryz.checked.mixed (.seq .leaf (.seq .leaf .leaf)) Tryz.func159 (by kernel_rfl) (by kernel_rfl) h
abbrev i_wire_all_9:FuncId:=160
def wire_all_9 (p_m:Option Addr) (R:TR [.sc .p]→Pr):Pr:=
 Nn p_m fun a1=>
 R ((some (a1.add 14)),())
theorem wire_all_9_call (p_m:Option Addr) {R:TR [.sc .p]→Pr} {w:World} (h:wire_all_9 p_m R w):Cl Pg 160 [(.pointer p_m)] false [.sc .p] R w:=
 call_eq Tryz.checked.mixed (.seq .leaf (.seq .leaf .leaf)) Tryz.func160 (by kernel_rfl) (by kernel_rfl) h
abbrev i_wire_small:FuncId:=161
def wire_small (p_of:Value) (R:TR [.ag [.v,.v,.v]]→Pr):Pr:=
 Req ((p_of:Value).oneCell'=true) <|
 New #[p_of] 225 fun a1=>
 New #[.nilFunc,.nilFunc,.nilFunc] 171 fun a2=>
 Req (((.func (.func 235) #[] #[(.pointer (some a1))]):Value).oneCell'=true) <|
 Req (((.func (.func 236) #[] #[(.pointer (some a1))]):Value).oneCell'=true) <|
 Req (((.func (.func 238) #[] #[(.pointer (some a1))]):Value).oneCell'=true) <|
 St (a2.add 0) (.func (.func 235) #[] #[(.pointer (some a1))]) <|
 St (a2.add 1) (.func (.func 236) #[] #[(.pointer (some a1))]) <|
 St (a2.add 2) (.func (.func 238) #[] #[(.pointer (some a1))]) <|
 LdV (a2.add 0) fun x3=>
 LdV (a2.add 1) fun x4=>
 LdV (a2.add 2) fun x5=>
 R ((x3,x4,x5,()),())
theorem wire_small_call (p_of:Value) {R:TR [.ag [.v,.v,.v]]→Pr} {w:World} (h:wire_small p_of R w):Cl Pg 161 [p_of] false [.ag [.v,.v,.v]] R w:=
 call_eq Tryz.checked.mixed (.seq .leaf (.seq .leaf .leaf)) Tryz.func161 (by kernel_rfl) (by kernel_rfl) h
abbrev i_wire_all_10:FuncId:=162
def wire_all_10 (p_m:Option Addr) (R:TR [.sc .p]→Pr):Pr:=
 Nn p_m fun a1=>
 R ((some (a1.add 4)),())
theorem wire_all_10_call (p_m:Option Addr) {R:TR [.sc .p]→Pr} {w:World} (h:wire_all_10 p_m R w):Cl Pg 162 [(.pointer p_m)] false [.sc .p] R w:=
 call_eq Tryz.checked.mixed (.seq .leaf (.seq .leaf .leaf)) Tryz.func162 (by kernel_rfl) (by kernel_rfl) h
abbrev i_wire_all_11:FuncId:=163
def wire_all_11 (p_m:Option Addr) (R:TR [.sc .p]→Pr):Pr:=
 Nn p_m fun a1=>
 R ((some (a1.add 5)),())
theorem wire_all_11_call (p_m:Option Addr) {R:TR [.sc .p]→Pr} {w:World} (h:wire_all_11 p_m R w):Cl Pg 163 [(.pointer p_m)] false [.sc .p] R w:=
 call_eq Tryz.checked.mixed (.seq .leaf (.seq .leaf .leaf)) Tryz.func163 (by kernel_rfl) (by kernel_rfl) h
abbrev i_wire_all_12:FuncId:=164
abbrev i_wire_all_13:FuncId:=166
abbrev i_wire_all_14:FuncId:=168
def wire_all_14 (p_m:Option Addr) (R:TR [.sc .b]→Pr):Pr:=
 Nn p_m fun a1=>
 LdB (a1.add 15) fun x2=>
 R ((!x2),())
theorem wire_all_14_call (p_m:Option Addr) {R:TR [.sc .b]→Pr} {w:World} (h:wire_all_14 p_m R w):Cl Pg 168 [(.pointer p_m)] false [.sc .b] R w:=
 call_eq Tryz.checked.mixed (.seq .leaf (.seq .leaf .leaf)) Tryz.func168 (by kernel_rfl) (by kernel_rfl) h
abbrev i_wire_all_15:FuncId:=169
abbrev i_wire_all_16:FuncId:=171
abbrev i_wire_all_17:FuncId:=173
def wire_all_17 (p_m:Option Addr) (R:TR [.sc .b]→Pr):Pr:=
 Nn p_m fun a1=>
 LdS ((a1.add 16).add 0) fun x2=>
 LdS ((a1.add 16).add 1) fun x3=>
 R (((seq x2 (BA [])) && ((seq x3 (BA [])) && true)),())
theorem wire_all_17_call (p_m:Option Addr) {R:TR [.sc .b]→Pr} {w:World} (h:wire_all_17 p_m R w):Cl Pg 173 [(.pointer p_m)] false [.sc .b] R w:=
 call_eq Tryz.checked.mixed (.seq .leaf (.seq .leaf .leaf)) Tryz.func173 (by kernel_rfl) (by kernel_rfl) h
abbrev i_wire_list_Op:FuncId:=174
def wire_list_Op (p_of:Value) (p_write:Value) (p_read:Value) (R:TR [.ag [.v,.v,.v]]→Pr):Pr:=
 Req ((p_of:Value).oneCell'=true) <|
 New #[p_of] 234 fun a1=>
 Req ((p_write:Value).oneCell'=true) <|
 New #[p_write] 235 fun a2=>
 Req ((p_read:Value).oneCell'=true) <|
 New #[p_read] 236 fun a3=>
 New #[.nilFunc,.nilFunc,.nilFunc] 171 fun a4=>
 Req (((.func (.func 242) #[] #[(.pointer (some a1)),(.pointer (some a2))]):Value).oneCell'=true) <|
 Req (((.func (.func 243) #[] #[(.pointer (some a1)),(.pointer (some a3))]):Value).oneCell'=true) <|
 Req (((.func (.func 245) #[] #[(.pointer (some a1))]):Value).oneCell'=true) <|
 St (a4.add 0) (.func (.func 242) #[] #[(.pointer (some a1)),(.pointer (some a2))]) <|
 St (a4.add 1) (.func (.func 243) #[] #[(.pointer (some a1)),(.pointer (some a3))]) <|
 St (a4.add 2) (.func (.func 245) #[] #[(.pointer (some a1))]) <|
 LdV (a4.add 0) fun x5=>
 LdV (a4.add 1) fun x6=>
 LdV (a4.add 2) fun x7=>
 R ((x5,x6,x7,()),())
theorem wire_list_Op_call (p_of:Value) (p_write:Value) (p_read:Value) {R:TR [.ag [.v,.v,.v]]→Pr} {w:World} (h:wire_list_Op p_of p_write p_read R w):Cl Pg 174 [p_of,p_write,p_read] false [.ag [.v,.v,.v]] R w:=
 call_eq Tryz.checked.mixed (.seq .leaf (.seq .leaf .leaf)) Tryz.func174 (by kernel_rfl) (by kernel_rfl) h
abbrev i_wire_all_18:FuncId:=175
def wire_all_18 (p_m:Option Addr) (R:TR [.sc .p]→Pr):Pr:=
 Nn p_m fun a1=>
 R ((some (a1.add 18)),())
theorem wire_all_18_call (p_m:Option Addr) {R:TR [.sc .p]→Pr} {w:World} (h:wire_all_18 p_m R w):Cl Pg 175 [(.pointer p_m)] false [.sc .p] R w:=
 call_eq Tryz.checked.mixed (.seq .leaf (.seq .leaf .leaf)) Tryz.func175 (by kernel_rfl) (by kernel_rfl) h
abbrev i_wire_list_Result:FuncId:=178
def wire_list_Result (p_of:Value) (p_write:Value) (p_read:Value) (R:TR [.ag [.v,.v,.v]]→Pr):Pr:=
 Req ((p_of:Value).oneCell'=true) <|
 New #[p_of] 240 fun a1=>
 Req ((p_write:Value).oneCell'=true) <|
 New #[p_write] 241 fun a2=>
 Req ((p_read:Value).oneCell'=true) <|
 New #[p_read] 242 fun a3=>
 New #[.nilFunc,.nilFunc,.nilFunc] 171 fun a4=>
 Req (((.func (.func 246) #[] #[(.pointer (some a1)),(.pointer (some a2))]):Value).oneCell'=true) <|
 Req (((.func (.func 247) #[] #[(.pointer (some a1)),(.pointer (some a3))]):Value).oneCell'=true) <|
 Req (((.func (.func 248) #[] #[(.pointer (some a1))]):Value).oneCell'=true) <|
 St (a4.add 0) (.func (.func 246) #[] #[(.pointer (some a1)),(.pointer (some a2))]) <|
 St (a4.add 1) (.func (.func 247) #[] #[(.pointer (some a1)),(.pointer (some a3))]) <|
 St (a4.add 2) (.func (.func 248) #[] #[(.pointer (some a1))]) <|
 LdV (a4.add 0) fun x5=>
 LdV (a4.add 1) fun x6=>
 LdV (a4.add 2) fun x7=>
 R ((x5,x6,x7,()),())
theorem wire_list_Result_call (p_of:Value) (p_write:Value) (p_read:Value) {R:TR [.ag [.v,.v,.v]]→Pr} {w:World} (h:wire_list_Result p_of p_write p_read R w):Cl Pg 178 [p_of,p_write,p_read] false [.ag [.v,.v,.v]] R w:=
 call_eq Tryz.checked.mixed (.seq .leaf (.seq .leaf .leaf)) Tryz.func178 (by kernel_rfl) (by kernel_rfl) h
abbrev i_wire_all_19:FuncId:=179
def wire_all_19 (p_m:Option Addr) (R:TR [.sc .p]→Pr):Pr:=
 Nn p_m fun a1=>
 R ((some (a1.add 19)),())
theorem wire_all_19_call (p_m:Option Addr) {R:TR [.sc .p]→Pr} {w:World} (h:wire_all_19 p_m R w):Cl Pg 179 [(.pointer p_m)] false [.sc .p] R w:=
 call_eq Tryz.checked.mixed (.seq .leaf (.seq .leaf .leaf)) Tryz.func179 (by kernel_rfl) (by kernel_rfl) h
abbrev i_wire_list_Owner:FuncId:=182
def wire_list_Owner (p_of:Value) (p_write:Value) (p_read:Value) (R:TR [.ag [.v,.v,.v]]→Pr):Pr:=
 Req ((p_of:Value).oneCell'=true) <|
 New #[p_of] 246 fun a1=>
 Req ((p_write:Value).oneCell'=true) <|
 New #[p_write] 247 fun a2=>
 Req ((p_read:Value).oneCell'=true) <|
 New #[p_read] 248 fun a3=>
 New #[.nilFunc,.nilFunc,.nilFunc] 171 fun a4=>
 Req (((.func (.func 249) #[] #[(.pointer (some a1)),(.pointer (some a2))]):Value).oneCell'=true) <|
 Req (((.func (.func 250) #[] #[(.pointer (some a1)),(.pointer (some a3))]):Value).oneCell'=true) <|
 Req (((.func (.func 251) #[] #[(.pointer (some a1))]):Value).oneCell'=true) <|
 St (a4.add 0) (.func (.func 249) #[] #[(.pointer (some a1)),(.pointer (some a2))]) <|
 St (a4.add 1) (.func (.func 250) #[] #[(.pointer (some a1)),(.pointer (some a3))]) <|
 St (a4.add 2) (.func (.func 251) #[] #[(.pointer (some a1))]) <|
 LdV (a4.add 0) fun x5=>
 LdV (a4.add 1) fun x6=>
 LdV (a4.add 2) fun x7=>
 R ((x5,x6,x7,()),())
theorem wire_list_Owner_call (p_of:Value) (p_write:Value) (p_read:Value) {R:TR [.ag [.v,.v,.v]]→Pr} {w:World} (h:wire_list_Owner p_of p_write p_read R w):Cl Pg 182 [p_of,p_write,p_read] false [.ag [.v,.v,.v]] R w:=
 call_eq Tryz.checked.mixed (.seq .leaf (.seq .leaf .leaf)) Tryz.func182 (by kernel_rfl) (by kernel_rfl) h
abbrev i_wire_all_20:FuncId:=183
def wire_all_20 (p_m:Option Addr) (R:TR [.sc .p]→Pr):Pr:=
 Nn p_m fun a1=>
 R ((some (a1.add 20)),())
theorem wire_all_20_call (p_m:Option Addr) {R:TR [.sc .p]→Pr} {w:World} (h:wire_all_20 p_m R w):Cl Pg 183 [(.pointer p_m)] false [.sc .p] R w:=
 call_eq Tryz.checked.mixed (.seq .leaf (.seq .leaf .leaf)) Tryz.func183 (by kernel_rfl) (by kernel_rfl) h
def slices_Index_rune (p_s:Sl) (p_v:Int) (R:TR [.sc (.i .i64)]→Pr):Pr:=
 Lp (σ:=Int × Int × Unit) (fun L1 s2=>
 Br (decide ((s2.2.1:Int) < ((p_s.len:Nat):Int))) (
 Ix p_s s2.2.1 1 fun a3=>
 LdI .i32 a3 fun x4=>
 Br ((p_v:Int) == x4) (
 R (s2.2.1,())) (
 L1 (s2.1,(w64 (s2.2.1 + 1)),()))) (
 R ((-1),()))) (0,0,())
theorem slices_Index_rune_call (p_s:Sl) (p_v:Int) {R:TR [.sc (.i .i64)]→Pr} {w:World} (h:slices_Index_rune p_s p_v R w):Cl Pg 186 [(.slice p_s.p p_s.len p_s.cap),(.int .i32 p_v)] false [.sc (.i .i64)] R w:=
 call_eq Tryz.checked.mixed (.seq .leaf (.seq (.seq .leaf (.block (.loop [(4,.sc (.i .i64)),(8,.sc (.i .i64))] (.seq .leaf (.seq (.cond .leaf .leaf) (.seq (.block (.seq .leaf (.seq .leaf (.cond (.seq .leaf .leaf) .leaf)))) .leaf)))))) (.seq .leaf .leaf))) Tryz.func186 (by kernel_rfl) (by kernel_rfl) h
abbrev i_record_EncodeShard:FuncId:=187
def record_EncodeShard (p_s_0:Int) (p_s_1:Int) (p_s_2:Int) (p_s_3:Int) (p_s_4:Int) (p_s_5:Sl) (p_s_6:Sl) (p_s_7:Sl) (p_s_8:Int) (p_s_9:Int) (p_s_10:ByteArray) (p_s_11:ByteArray) (p_s_12:Int) (p_s_13:Int) (p_s_14:Int) (p_s_15:ByteArray) (p_s_16:ByteArray) (R:TR [.sc .sl,.sc (.i .i64)]→Pr):Pr:=
 New #[(.int .i64 p_s_0),(.int .u64 p_s_1),(.int .u64 p_s_2),(.int .u64 p_s_3),(.int .u64 p_s_4),(.slice p_s_5.p p_s_5.len p_s_5.cap),(.slice p_s_6.p p_s_6.len p_s_6.cap),(.slice p_s_7.p p_s_7.len p_s_7.cap),(.int .u64 p_s_8),(.int .u64 p_s_9),(.string p_s_10),(.string p_s_11),(.int .u64 p_s_12),(.int .u64 p_s_13),(.int .u64 p_s_14),(.string p_s_15),(.string p_s_16)] 41 fun a1=>
 LdI .i64 (a1.add 0) fun x2=>
 LdI .u64 (a1.add 1) fun x3=>
 LdI .u64 (a1.add 2) fun x4=>
 LdI .u64 (a1.add 3) fun x5=>
 LdI .u64 (a1.add 4) fun x6=>
 LdL (a1.add 5) fun x7=>
 LdL (a1.add 6) fun x8=>
 LdL (a1.add 7) fun x9=>
 LdI .u64 (a1.add 8) fun x10=>
 LdI .u64 (a1.add 9) fun x11=>
 LdS (a1.add 10) fun x12=>
 LdS (a1.add 11) fun x13=>
 LdI .u64 (a1.add 12) fun x14=>
 LdI .u64 (a1.add 13) fun x15=>
 LdI .u64 (a1.add 14) fun x16=>
 LdS (a1.add 15) fun x17=>
 LdS (a1.add 16) fun x18=>
 Cl Pg 25 [(.agg #[(.int .i64 x2),(.int .u64 x3),(.int .u64 x4),(.int .u64 x5),(.int .u64 x6),(.slice x7.p x7.len x7.cap),(.slice x8.p x8.len x8.cap),(.slice x9.p x9.len x9.cap),(.int .u64 x10),(.int .u64 x11),(.string x12),(.string x13),(.int .u64 x14),(.int .u64 x15),(.int .u64 x16),(.string x17),(.string x18)])] false [.sc (.i .i64)] fun r19=>
 Br ((r19.1:Int) != 0) (
 R (⟨none,0,0⟩,r19.1,())) (
 New #[(.int .u8 83)] 5 fun a20=>
 New #[(.slice (some a20) 1 1)] 307 fun a21=>
 LdI .i64 (a1.add 0) fun x22=>
 LdI .u64 (a1.add 1) fun x23=>
 LdI .u64 (a1.add 2) fun x24=>
 LdI .u64 (a1.add 3) fun x25=>
 LdI .u64 (a1.add 4) fun x26=>
 New #[(.int .u64 (IntKind.u64.wrap (x22))),(.int .u64 x23),(.int .u64 x24),(.int .u64 x25),(.int .u64 x26)] 32 fun a27=>
 Cl Pg 252 [(.pointer (some a21)),(.slice (some a27) 5 5)] true [] fun r28=>
 LdL (a1.add 5) fun x29=>
 Cl Pg 253 [(.pointer (some a21)),(.slice x29.p x29.len x29.cap),(.func (.func 254) #[(.pointer (some a21))] #[])] true [] fun r30=>
 LdL (a1.add 6) fun x31=>
 Cl Pg 255 [(.pointer (some a21)),(.slice x31.p x31.len x31.cap),(.func (.func 256) #[(.pointer (some a21))] #[])] true [] fun r32=>
 LdL (a1.add 7) fun x33=>
 Cl Pg 257 [(.pointer (some a21)),(.slice x33.p x33.len x33.cap),(.func (.func 258) #[(.pointer (some a21))] #[])] true [] fun r34=>
 LdI .u64 (a1.add 8) fun x35=>
 LdI .u64 (a1.add 9) fun x36=>
 New #[(.int .u64 x35),(.int .u64 x36)] 32 fun a37=>
 Cl Pg 252 [(.pointer (some a21)),(.slice (some a37) 2 2)] true [] fun r38=>
 LdS ((a1.add 10).add 0) fun x39=>
 LdS ((a1.add 10).add 1) fun x40=>
 Cl Pg 259 [(.pointer (some a21)),(.agg #[(.string x39),(.string x40)])] true [] fun r41=>
 LdI .u64 ((a1.add 12).add 0) fun x42=>
 LdI .u64 ((a1.add 12).add 1) fun x43=>
 LdI .u64 ((a1.add 12).add 2) fun x44=>
 New #[(.int .u64 x42),(.int .u64 x43),(.int .u64 x44)] 32 fun a45=>
 Cl Pg 252 [(.pointer (some a21)),(.slice (some a45) 3 3)] true [] fun r46=>
 LdS (((a1.add 12).add 3).add 0) fun x47=>
 LdS (((a1.add 12).add 3).add 1) fun x48=>
 Cl Pg 259 [(.pointer (some a21)),(.agg #[(.string x47),(.string x48)])] true [] fun r49=>
 LdL (a21.add 0) fun x50=>
 R (x50,0,()))
theorem record_EncodeShard_call (p_s_0:Int) (p_s_1:Int) (p_s_2:Int) (p_s_3:Int) (p_s_4:Int) (p_s_5:Sl) (p_s_6:Sl) (p_s_7:Sl) (p_s_8:Int) (p_s_9:Int) (p_s_10:ByteArray) (p_s_11:ByteArray) (p_s_12:Int) (p_s_13:Int) (p_s_14:Int) (p_s_15:ByteArray) (p_s_16:ByteArray) {R:TR [.sc .sl,.sc (.i .i64)]→Pr} {w:World} (h:record_EncodeShard p_s_0 p_s_1 p_s_2 p_s_3 p_s_4 p_s_5 p_s_6 p_s_7 p_s_8 p_s_9 p_s_10 p_s_11 p_s_12 p_s_13 p_s_14 p_s_15 p_s_16 R w):Cl Pg 187 [(.agg #[(.int .i64 p_s_0),(.int .u64 p_s_1),(.int .u64 p_s_2),(.int .u64 p_s_3),(.int .u64 p_s_4),(.slice p_s_5.p p_s_5.len p_s_5.cap),(.slice p_s_6.p p_s_6.len p_s_6.cap),(.slice p_s_7.p p_s_7.len p_s_7.cap),(.int .u64 p_s_8),(.int .u64 p_s_9),(.string p_s_10),(.string p_s_11),(.int .u64 p_s_12),(.int .u64 p_s_13),(.int .u64 p_s_14),(.string p_s_15),(.string p_s_16)])] true [.sc .sl,.sc (.i .i64)] R w:=
 call_eq Tryz.checked.mixed (.seq .leaf (.seq (.seq .leaf (.seq .leaf (.cond (.seq .leaf .leaf) .leaf))) (.seq .leaf (.seq .leaf (.seq .leaf (.seq .leaf (.seq .leaf (.seq .leaf (.seq .leaf (.seq .leaf (.seq .leaf (.seq .leaf .leaf)))))))))))) Tryz.func187 (by kernel_rfl) (by kernel_rfl) h
abbrev i_slices_insertionSortOrdered_uint64:FuncId:=188
def slices_insertionSortOrdered_uint64 (p_data:Sl) (p_a:Int) (p_b:Int) (R:TR []→Pr):Pr:=
 Lp (σ:=Int × Unit) (fun L1 s2=>
 Br (decide ((s2.1:Int) < p_b)) (
 Lp (σ:=Int × Unit) (fun L3 s4=>
 Jp (σ:=Bool × Unit) (fun s6=>
 Br s6.1 (
 Dr <|
 Ix p_data (w64 (s4.1 - 1)) 1 fun a7=>
 LdI .u64 a7 fun x8=>
 Ix p_data s4.1 1 fun a9=>
 LdI .u64 a9 fun x10=>
 Ix p_data s4.1 1 fun a11=>
 St a11 (.int .u64 x8) <|
 Ix p_data (w64 (s4.1 - 1)) 1 fun a12=>
 St a12 (.int .u64 x10) <|
 L3 ((w64 (s4.1 - 1)),())) (
 L1 ((w64 (s2.1 + 1)),()))) fun J5=>
 Dr <|
 Br (decide ((s4.1:Int) > p_a)) (
 Ix p_data s4.1 1 fun a13=>
 LdI .u64 a13 fun x14=>
 Ix p_data (w64 (s4.1 - 1)) 1 fun a15=>
 LdI .u64 a15 fun x16=>
 Cl Pg 194 [(.int .u64 x14),(.int .u64 x16)] false [.sc .b] fun r17=>
 J5 (r17.1,())) (
 J5 (false,()))) (s2.1,())) (
 R ())) ((w64 (p_a + 1)),())
theorem slices_insertionSortOrdered_uint64_call (p_data:Sl) (p_a:Int) (p_b:Int) {R:TR []→Pr} {w:World} (h:slices_insertionSortOrdered_uint64 p_data p_a p_b R w):Cl Pg 188 [(.slice p_data.p p_data.len p_data.cap),(.int .i64 p_a),(.int .i64 p_b)] true [] R w:=
 call_eq Tryz.checked.mixed (.seq .leaf (.block (.loop [(6,.sc (.i .i64))] (.seq (.seq .leaf (.cond .leaf .leaf)) (.seq (.block (.seq .leaf (.block (.loop [(7,.sc (.i .i64))] (.seq (.seq (.join [(30,.sc .b)] .leaf) (.cond .leaf .leaf)) (.seq (.block .leaf) .leaf)))))) .leaf))))) Tryz.func188 (by kernel_rfl) (by kernel_rfl) h
abbrev i_slices_heapSortOrdered_uint64:FuncId:=189
def slices_heapSortOrdered_uint64 (p_data:Sl) (p_a:Int) (p_b:Int) (R:TR []→Pr):Pr:=
 Req (2 ≠ (0:Int)) <|
 Lp (σ:=Int × Unit) (fun L1 s2=>
 Br (decide ((s2.1:Int) ≥ 0)) (
 Cl Pg 260 [(.slice p_data.p p_data.len p_data.cap),(.int .i64 s2.1),(.int .i64 (w64 (p_b - p_a))),(.int .i64 p_a)] true [] fun r3=>
 L1 ((w64 (s2.1 - 1)),())) (
 Lp (σ:=Int × Unit) (fun L4 s5=>
 Br (decide ((s5.1:Int) ≥ 0)) (
 Dr <|
 Ix p_data (w64 (p_a + s5.1)) 1 fun a6=>
 LdI .u64 a6 fun x7=>
 Ix p_data p_a 1 fun a8=>
 LdI .u64 a8 fun x9=>
 Ix p_data p_a 1 fun a10=>
 St a10 (.int .u64 x7) <|
 Ix p_data (w64 (p_a + s5.1)) 1 fun a11=>
 St a11 (.int .u64 x9) <|
 Cl Pg 260 [(.slice p_data.p p_data.len p_data.cap),(.int .i64 0),(.int .i64 s5.1),(.int .i64 p_a)] true [] fun r12=>
 L4 ((w64 (s5.1 - 1)),())) (
 R ())) ((w64 ((w64 (p_b - p_a)) - 1)),()))) ((w64 ((w64 ((w64 (p_b - p_a)) - 1)).tdiv 2)),())
theorem slices_heapSortOrdered_uint64_call (p_data:Sl) (p_a:Int) (p_b:Int) {R:TR []→Pr} {w:World} (h:slices_heapSortOrdered_uint64 p_data p_a p_b R w):Cl Pg 189 [(.slice p_data.p p_data.len p_data.cap),(.int .i64 p_a),(.int .i64 p_b)] true [] R w:=
 call_eq Tryz.checked.mixed (.seq .leaf (.seq .leaf (.seq .leaf (.seq (.seq .leaf (.block (.loop [(9,.sc (.i .i64))] (.seq (.seq .leaf (.cond .leaf .leaf)) (.seq (.block .leaf) .leaf))))) (.seq .leaf (.block (.loop [(10,.sc (.i .i64))] (.seq (.seq .leaf (.cond .leaf .leaf)) (.seq (.block (.seq .leaf .leaf)) .leaf))))))))) Tryz.func189 (by kernel_rfl) (by kernel_rfl) h
abbrev i_slices_breakPatternsOrdered_uint64:FuncId:=190
def slices_breakPatternsOrdered_uint64 (p_data:Sl) (p_a:Int) (p_b:Int) (R:TR []→Pr):Pr:=
 Br (decide (((w64 (p_b - p_a)):Int) ≥ 8)) (
 New #[(.int .u64 0)] 315 fun a1=>
 St a1 (.int .u64 (IntKind.u64.wrap ((w64 (p_b - p_a))))) <|
 Cl Pg 261 [(.int .i64 (w64 (p_b - p_a)))] false [.sc (.i .u64)] fun r2=>
 Req (4 ≠ (0:Int)) <|
 Lp (σ:=Int × Unit) (fun L3 s4=>
 Req (4 ≠ (0:Int)) <|
 Br (decide ((s4.1:Int)≤(w64 ((w64 (p_a + (w64 ((w64 ((w64 (p_b - p_a)).tdiv 4)) * 2)))) + 1)))) (
 Cl Pg 262 [(.pointer (some a1))] false [.sc (.i .u64)] fun r5=>
 Jp (σ:=Int × Unit) (fun s7=>
 Dr <|
 Ix p_data (w64 (p_a + s7.1)) 1 fun a8=>
 LdI .u64 a8 fun x9=>
 Ix p_data s4.1 1 fun a10=>
 LdI .u64 a10 fun x11=>
 Ix p_data s4.1 1 fun a12=>
 St a12 (.int .u64 x9) <|
 Ix p_data (w64 (p_a + s7.1)) 1 fun a13=>
 St a13 (.int .u64 x11) <|
 L3 ((w64 (s4.1 + 1)),())) fun J6=>
 Br (decide (((w64 ((iand .u64 r5.1 (IntKind.u64.wrap (r2.1 - 1))))):Int) ≥ (w64 (p_b - p_a)))) (
 J6 ((w64 ((w64 ((iand .u64 r5.1 (IntKind.u64.wrap (r2.1 - 1))))) - (w64 (p_b - p_a)))),())) (
 J6 ((w64 ((iand .u64 r5.1 (IntKind.u64.wrap (r2.1 - 1))))),()))) (
 R ())) ((w64 ((w64 (p_a + (w64 ((w64 ((w64 (p_b - p_a)).tdiv 4)) * 2)))) - 1)),())) (
 R ())
theorem slices_breakPatternsOrdered_uint64_call (p_data:Sl) (p_a:Int) (p_b:Int) {R:TR []→Pr} {w:World} (h:slices_breakPatternsOrdered_uint64 p_data p_a p_b R w):Cl Pg 190 [(.slice p_data.p p_data.len p_data.cap),(.int .i64 p_a),(.int .i64 p_b)] true [] R w:=
 call_eq Tryz.checked.mixed (.seq .leaf (.seq .leaf (.cond (.seq .leaf (.seq .leaf (.seq .leaf (.block (.loop [(9,.sc (.i .i64))] (.seq (.seq .leaf (.cond .leaf .leaf)) (.seq (.block (.seq .leaf (.seq (.join [(10,.sc (.i .i64))] (.seq .leaf (.cond .leaf .leaf))) .leaf))) .leaf))))))) .leaf))) Tryz.func190 (by kernel_rfl) (by kernel_rfl) h
abbrev i_slices_choosePivotOrdered_uint64:FuncId:=191
def slices_choosePivotOrdered_uint64 (p_data:Sl) (p_a:Int) (p_b:Int) (R:TR [.sc (.i .i64),.sc (.i .i64)]→Pr):Pr:=
 New #[(.int .i64 0)] 3 fun a1=>
 Req (4 ≠ (0:Int)) <|
 Req (4 ≠ (0:Int)) <|
 Req (4 ≠ (0:Int)) <|
 Jp (σ:=Int × Unit) (fun s3=>
 LdI .i64 a1 fun x4=>
 Br ((x4:Int) == 0) (
 R (s3.1,1,())) (
 Br ((x4:Int) == 12) (
 R (s3.1,2,())) (
 R (s3.1,0,())))) fun J2=>
 Br (decide (((w64 (p_b - p_a)):Int) ≥ 8)) (
 Jp (σ:=Int × Int × Int × Unit) (fun s6=>
 Cl Pg 264 [(.slice p_data.p p_data.len p_data.cap),(.int .i64 s6.1),(.int .i64 s6.2.1),(.int .i64 s6.2.2.1),(.pointer (some a1))] false [.sc (.i .i64)] fun r7=>
 J2 (r7.1,())) fun J5=>
 Br (decide (((w64 (p_b - p_a)):Int) ≥ 50)) (
 Cl Pg 263 [(.slice p_data.p p_data.len p_data.cap),(.int .i64 (w64 (p_a + (w64 ((w64 ((w64 (p_b - p_a)).tdiv 4)) * 1))))),(.pointer (some a1))] false [.sc (.i .i64)] fun r8=>
 Cl Pg 263 [(.slice p_data.p p_data.len p_data.cap),(.int .i64 (w64 (p_a + (w64 ((w64 ((w64 (p_b - p_a)).tdiv 4)) * 2))))),(.pointer (some a1))] false [.sc (.i .i64)] fun r9=>
 Cl Pg 263 [(.slice p_data.p p_data.len p_data.cap),(.int .i64 (w64 (p_a + (w64 ((w64 ((w64 (p_b - p_a)).tdiv 4)) * 3))))),(.pointer (some a1))] false [.sc (.i .i64)] fun r10=>
 J5 (r8.1,r9.1,r10.1,())) (
 J5 ((w64 (p_a + (w64 ((w64 ((w64 (p_b - p_a)).tdiv 4)) * 1)))),(w64 (p_a + (w64 ((w64 ((w64 (p_b - p_a)).tdiv 4)) * 2)))),(w64 (p_a + (w64 ((w64 ((w64 (p_b - p_a)).tdiv 4)) * 3)))),()))) (
 J2 ((w64 (p_a + (w64 ((w64 ((w64 (p_b - p_a)).tdiv 4)) * 2)))),()))
theorem slices_choosePivotOrdered_uint64_call (p_data:Sl) (p_a:Int) (p_b:Int) {R:TR [.sc (.i .i64),.sc (.i .i64)]→Pr} {w:World} (h:slices_choosePivotOrdered_uint64 p_data p_a p_b R w):Cl Pg 191 [(.slice p_data.p p_data.len p_data.cap),(.int .i64 p_a),(.int .i64 p_b)] true [.sc (.i .i64),.sc (.i .i64)] R w:=
 call_eq Tryz.checked.mixed (.seq .leaf (.seq .leaf (.seq .leaf (.seq .leaf (.seq .leaf (.seq .leaf (.seq (.join [(11,.sc (.i .i64))] (.seq .leaf (.cond (.seq (.join [(10,.sc (.i .i64)),(11,.sc (.i .i64)),(12,.sc (.i .i64))] (.seq .leaf (.cond (.seq .leaf (.seq .leaf .leaf)) .leaf))) .leaf) .leaf))) (.seq .leaf (.block (.seq .leaf (.cond (.seq .leaf .leaf) (.seq .leaf (.cond (.seq .leaf .leaf) (.seq .leaf .leaf)))))))))))))) Tryz.func191 (by kernel_rfl) (by kernel_rfl) h
abbrev i_slices_reverseRangeOrdered_uint64:FuncId:=192
def slices_reverseRangeOrdered_uint64 (p_data:Sl) (p_a:Int) (p_b:Int) (R:TR []→Pr):Pr:=
 Lp (σ:=Int × Int × Unit) (fun L1 s2=>
 Br (decide ((s2.1:Int) < s2.2.1)) (
 Dr <|
 Ix p_data s2.2.1 1 fun a3=>
 LdI .u64 a3 fun x4=>
 Ix p_data s2.1 1 fun a5=>
 LdI .u64 a5 fun x6=>
 Ix p_data s2.1 1 fun a7=>
 St a7 (.int .u64 x4) <|
 Ix p_data s2.2.1 1 fun a8=>
 St a8 (.int .u64 x6) <|
 L1 ((w64 (s2.1 + 1)),(w64 (s2.2.1 - 1)),())) (
 R ())) (p_a,(w64 (p_b - 1)),())
theorem slices_reverseRangeOrdered_uint64_call (p_data:Sl) (p_a:Int) (p_b:Int) {R:TR []→Pr} {w:World} (h:slices_reverseRangeOrdered_uint64 p_data p_a p_b R w):Cl Pg 192 [(.slice p_data.p p_data.len p_data.cap),(.int .i64 p_a),(.int .i64 p_b)] true [] R w:=
 call_eq Tryz.checked.mixed (.seq .leaf (.seq .leaf (.block (.loop [(6,.sc (.i .i64)),(7,.sc (.i .i64))] (.seq (.seq .leaf (.cond .leaf .leaf)) (.block (.seq .leaf (.seq .leaf .leaf)))))))) Tryz.func192 (by kernel_rfl) (by kernel_rfl) h
abbrev i_slices_partialInsertionSortOrdered_uint64:FuncId:=193
def slices_partialInsertionSortOrdered_uint64 (p_data:Sl) (p_a:Int) (p_b:Int) (R:TR [.sc .b]→Pr):Pr:=
 Lp (σ:=Bool × Int × Int × Unit) (fun L1 s2=>
 Br (decide ((s2.2.2.1:Int) < 5)) (
 Jp (σ:=Bool × Int × Unit) (fun s4=>
 L1 (s4.1,s4.2.1,(w64 (s2.2.2.1 + 1)),())) fun J3=>
 Lp (σ:=Int × Unit) (fun L5 s6=>
 Jp (σ:=Bool × Unit) (fun s8=>
 Br s8.1 (
 L5 ((w64 (s6.1 + 1)),())) (
 Br ((s6.1:Int) == p_b) (
 R (true,())) (
 Br (decide (((w64 (p_b - p_a)):Int) < 50)) (
 R (false,())) (
 Dr <|
 Ix p_data (w64 (s6.1 - 1)) 1 fun a9=>
 LdI .u64 a9 fun x10=>
 Ix p_data s6.1 1 fun a11=>
 LdI .u64 a11 fun x12=>
 Ix p_data s6.1 1 fun a13=>
 St a13 (.int .u64 x10) <|
 Ix p_data (w64 (s6.1 - 1)) 1 fun a14=>
 St a14 (.int .u64 x12) <|
 Jp (σ:=Unit) (fun s16=>
 Br (decide (((w64 (p_b - s6.1)):Int) ≥ 2)) (
 Lp (σ:=Int × Unit) (fun L17 s18=>
 Br (decide ((s18.1:Int) < p_b)) (
 Dr <|
 Ix p_data s18.1 1 fun a19=>
 LdI .u64 a19 fun x20=>
 Ix p_data (w64 (s18.1 - 1)) 1 fun a21=>
 LdI .u64 a21 fun x22=>
 Cl Pg 194 [(.int .u64 x20),(.int .u64 x22)] false [.sc .b] fun r23=>
 Br (!r23.1) (
 J3 (s2.1,s6.1,())) (
 Dr <|
 Ix p_data (w64 (s18.1 - 1)) 1 fun a24=>
 LdI .u64 a24 fun x25=>
 Ix p_data s18.1 1 fun a26=>
 LdI .u64 a26 fun x27=>
 Ix p_data s18.1 1 fun a28=>
 St a28 (.int .u64 x25) <|
 Ix p_data (w64 (s18.1 - 1)) 1 fun a29=>
 St a29 (.int .u64 x27) <|
 L17 ((w64 (s18.1 + 1)),()))) (
 J3 (s2.1,s6.1,()))) ((w64 (s6.1 + 1)),())) (
 J3 (s2.1,s6.1,()))) fun J15=>
 Br (decide (((w64 (s6.1 - p_a)):Int) ≥ 2)) (
 Lp (σ:=Int × Unit) (fun L30 s31=>
 Br (decide ((s31.1:Int) ≥ 1)) (
 Dr <|
 Ix p_data s31.1 1 fun a32=>
 LdI .u64 a32 fun x33=>
 Ix p_data (w64 (s31.1 - 1)) 1 fun a34=>
 LdI .u64 a34 fun x35=>
 Cl Pg 194 [(.int .u64 x33),(.int .u64 x35)] false [.sc .b] fun r36=>
 Br (!r36.1) (
 J15 ()) (
 Dr <|
 Ix p_data (w64 (s31.1 - 1)) 1 fun a37=>
 LdI .u64 a37 fun x38=>
 Ix p_data s31.1 1 fun a39=>
 LdI .u64 a39 fun x40=>
 Ix p_data s31.1 1 fun a41=>
 St a41 (.int .u64 x38) <|
 Ix p_data (w64 (s31.1 - 1)) 1 fun a42=>
 St a42 (.int .u64 x40) <|
 L30 ((w64 (s31.1 - 1)),()))) (
 J15 ())) ((w64 (s6.1 - 1)),())) (
 J15 ()))))) fun J7=>
 Dr <|
 Br (decide ((s6.1:Int) < p_b)) (
 Ix p_data s6.1 1 fun a43=>
 LdI .u64 a43 fun x44=>
 Ix p_data (w64 (s6.1 - 1)) 1 fun a45=>
 LdI .u64 a45 fun x46=>
 Cl Pg 194 [(.int .u64 x44),(.int .u64 x46)] false [.sc .b] fun r47=>
 J7 ((!r47.1),())) (
 J7 (false,()))) (s2.2.1,())) (
 R (false,()))) (false,(w64 (p_a + 1)),0,())
theorem slices_partialInsertionSortOrdered_uint64_call (p_data:Sl) (p_a:Int) (p_b:Int) {R:TR [.sc .b]→Pr} {w:World} (h:slices_partialInsertionSortOrdered_uint64 p_data p_a p_b R w):Cl Pg 193 [(.slice p_data.p p_data.len p_data.cap),(.int .i64 p_a),(.int .i64 p_b)] false [.sc .b] R w:=
 call_eq Tryz.checked.mixed (.seq .leaf (.seq .leaf (.seq (.seq .leaf (.block (.loop [(6,.sc .b),(7,.sc (.i .i64)),(8,.sc (.i .i64))] (.seq (.seq .leaf (.cond .leaf .leaf)) (.seq (.join [(6,.sc .b),(7,.sc (.i .i64))] (.block (.seq (.block (.loop [(7,.sc (.i .i64))] (.seq (.seq (.join [(32,.sc .b)] .leaf) (.cond .leaf .leaf)) (.block .leaf)))) (.seq (.seq .leaf (.cond (.seq .leaf .leaf) .leaf)) (.seq (.seq .leaf (.cond (.seq .leaf .leaf) .leaf)) (.seq .leaf (.seq (.join [] (.seq .leaf (.cond (.seq .leaf (.block (.loop [(9,.sc (.i .i64))] (.seq (.seq .leaf (.cond .leaf .leaf)) (.seq (.block (.seq (.seq .leaf (.cond .leaf .leaf)) .leaf)) .leaf))))) .leaf))) (.seq .leaf (.cond (.seq .leaf (.block (.loop [(10,.sc (.i .i64))] (.seq (.seq .leaf (.cond .leaf .leaf)) (.seq (.block (.seq (.seq .leaf (.cond .leaf .leaf)) .leaf)) .leaf))))) .leaf))))))))) .leaf))))) (.seq .leaf .leaf)))) Tryz.func193 (by kernel_rfl) (by kernel_rfl) h
end Go.Proofs.YthkdehgfdllpoaaGreat
set_option linter.unusedVariables false
namespace Go.Proofs.YthkdehgfdllpoaaGreat
open Go Go.Sx
abbrev i_cmp_Less_uint64:FuncId:=194
def cmp_Less_uint64 (p_x:Int) (p_y:Int) (R:TR [.sc .b]→Pr):Pr:=
 Cl Pg 110 [(.int .u64 p_x)] false [.sc .b] fun r1=>
 Br r1.1 (
 Cl Pg 110 [(.int .u64 p_y)] false [.sc .b] fun r2=>
 Br (!r2.1) (
 R (true,())) (
 R ((decide ((p_x:Int) < p_y)),()))) (
 R ((decide ((p_x:Int) < p_y)),()))
theorem cmp_Less_uint64_call (p_x:Int) (p_y:Int) {R:TR [.sc .b]→Pr} {w:World} (h:cmp_Less_uint64 p_x p_y R w):Cl Pg 194 [(.int .u64 p_x),(.int .u64 p_y)] false [.sc .b] R w:=
 call_eq Tryz.checked.mixed (.seq .leaf (.seq .leaf .leaf)) Tryz.func194 (by kernel_rfl) (by kernel_rfl) h
abbrev i_slices_partitionEqualOrdered_uint64:FuncId:=195
def slices_partitionEqualOrdered_uint64 (p_data:Sl) (p_a:Int) (p_b:Int) (p_pivot:Int) (R:TR [.sc (.i .i64)]→Pr):Pr:=
 Dr <|
 Ix p_data p_pivot 1 fun a1=>
 LdI .u64 a1 fun x2=>
 Ix p_data p_a 1 fun a3=>
 LdI .u64 a3 fun x4=>
 Ix p_data p_a 1 fun a5=>
 St a5 (.int .u64 x2) <|
 Ix p_data p_pivot 1 fun a6=>
 St a6 (.int .u64 x4) <|
 Lp (σ:=Int × Int × Unit) (fun L7 s8=>
 Lp (σ:=Int × Unit) (fun L9 s10=>
 Jp (σ:=Bool × Unit) (fun s12=>
 Br s12.1 (
 L9 ((w64 (s10.1 + 1)),())) (
 Lp (σ:=Int × Unit) (fun L13 s14=>
 Jp (σ:=Bool × Unit) (fun s16=>
 Br s16.1 (
 L13 ((w64 (s14.1 - 1)),())) (
 Br (decide ((s10.1:Int) > s14.1)) (
 R (s10.1,())) (
 Dr <|
 Ix p_data s14.1 1 fun a17=>
 LdI .u64 a17 fun x18=>
 Ix p_data s10.1 1 fun a19=>
 LdI .u64 a19 fun x20=>
 Ix p_data s10.1 1 fun a21=>
 St a21 (.int .u64 x18) <|
 Ix p_data s14.1 1 fun a22=>
 St a22 (.int .u64 x20) <|
 L7 ((w64 (s10.1 + 1)),(w64 (s14.1 - 1)),())))) fun J15=>
 Dr <|
 Br (decide ((s10.1:Int)≤s14.1)) (
 Ix p_data p_a 1 fun a23=>
 LdI .u64 a23 fun x24=>
 Ix p_data s14.1 1 fun a25=>
 LdI .u64 a25 fun x26=>
 Cl Pg 194 [(.int .u64 x24),(.int .u64 x26)] false [.sc .b] fun r27=>
 J15 (r27.1,())) (
 J15 (false,()))) (s8.2.1,()))) fun J11=>
 Dr <|
 Br (decide ((s10.1:Int)≤s8.2.1)) (
 Ix p_data p_a 1 fun a28=>
 LdI .u64 a28 fun x29=>
 Ix p_data s10.1 1 fun a30=>
 LdI .u64 a30 fun x31=>
 Cl Pg 194 [(.int .u64 x29),(.int .u64 x31)] false [.sc .b] fun r32=>
 J11 ((!r32.1),())) (
 J11 (false,()))) (s8.1,())) ((w64 (p_a + 1)),(w64 (p_b - 1)),())
theorem slices_partitionEqualOrdered_uint64_call (p_data:Sl) (p_a:Int) (p_b:Int) (p_pivot:Int) {R:TR [.sc (.i .i64)]→Pr} {w:World} (h:slices_partitionEqualOrdered_uint64 p_data p_a p_b p_pivot R w):Cl Pg 195 [(.slice p_data.p p_data.len p_data.cap),(.int .i64 p_a),(.int .i64 p_b),(.int .i64 p_pivot)] false [.sc (.i .i64)] R w:=
 call_eq Tryz.checked.mixed (.seq .leaf (.seq .leaf (.seq .leaf (.seq (.block (.loop [(9,.sc (.i .i64)),(10,.sc (.i .i64))] (.block (.seq (.block (.loop [(9,.sc (.i .i64))] (.seq (.seq (.join [(43,.sc .b)] .leaf) (.cond .leaf .leaf)) (.block .leaf)))) (.seq (.block (.loop [(10,.sc (.i .i64))] (.seq (.seq (.join [(59,.sc .b)] .leaf) (.cond .leaf .leaf)) (.block .leaf)))) (.seq (.seq .leaf (.cond .leaf .leaf)) (.seq .leaf (.seq .leaf .leaf)))))))) (.seq .leaf .leaf))))) Tryz.func195 (by kernel_rfl) (by kernel_rfl) h
abbrev i_slices_partitionOrdered_uint64:FuncId:=196
def slices_partitionOrdered_uint64 (p_data:Sl) (p_a:Int) (p_b:Int) (p_pivot:Int) (R:TR [.sc (.i .i64),.sc .b]→Pr):Pr:=
 Dr <|
 Ix p_data p_pivot 1 fun a1=>
 LdI .u64 a1 fun x2=>
 Ix p_data p_a 1 fun a3=>
 LdI .u64 a3 fun x4=>
 Ix p_data p_a 1 fun a5=>
 St a5 (.int .u64 x2) <|
 Ix p_data p_pivot 1 fun a6=>
 St a6 (.int .u64 x4) <|
 Lp (σ:=Int × Unit) (fun L7 s8=>
 Jp (σ:=Bool × Unit) (fun s10=>
 Br s10.1 (
 L7 ((w64 (s8.1 + 1)),())) (
 Lp (σ:=Int × Unit) (fun L11 s12=>
 Jp (σ:=Bool × Unit) (fun s14=>
 Br s14.1 (
 L11 ((w64 (s12.1 - 1)),())) (
 Br (decide ((s8.1:Int) > s12.1)) (
 Dr <|
 Ix p_data p_a 1 fun a15=>
 LdI .u64 a15 fun x16=>
 Ix p_data s12.1 1 fun a17=>
 LdI .u64 a17 fun x18=>
 Ix p_data s12.1 1 fun a19=>
 St a19 (.int .u64 x16) <|
 Ix p_data p_a 1 fun a20=>
 St a20 (.int .u64 x18) <|
 R (s12.1,true,())) (
 Dr <|
 Ix p_data s12.1 1 fun a21=>
 LdI .u64 a21 fun x22=>
 Ix p_data s8.1 1 fun a23=>
 LdI .u64 a23 fun x24=>
 Ix p_data s8.1 1 fun a25=>
 St a25 (.int .u64 x22) <|
 Ix p_data s12.1 1 fun a26=>
 St a26 (.int .u64 x24) <|
 Lp (σ:=Int × Int × Unit) (fun L27 s28=>
 Lp (σ:=Int × Unit) (fun L29 s30=>
 Jp (σ:=Bool × Unit) (fun s32=>
 Br s32.1 (
 L29 ((w64 (s30.1 + 1)),())) (
 Lp (σ:=Int × Unit) (fun L33 s34=>
 Jp (σ:=Bool × Unit) (fun s36=>
 Br s36.1 (
 L33 ((w64 (s34.1 - 1)),())) (
 Br (decide ((s30.1:Int) > s34.1)) (
 Dr <|
 Ix p_data p_a 1 fun a37=>
 LdI .u64 a37 fun x38=>
 Ix p_data s34.1 1 fun a39=>
 LdI .u64 a39 fun x40=>
 Ix p_data s34.1 1 fun a41=>
 St a41 (.int .u64 x38) <|
 Ix p_data p_a 1 fun a42=>
 St a42 (.int .u64 x40) <|
 R (s34.1,false,())) (
 Dr <|
 Ix p_data s34.1 1 fun a43=>
 LdI .u64 a43 fun x44=>
 Ix p_data s30.1 1 fun a45=>
 LdI .u64 a45 fun x46=>
 Ix p_data s30.1 1 fun a47=>
 St a47 (.int .u64 x44) <|
 Ix p_data s34.1 1 fun a48=>
 St a48 (.int .u64 x46) <|
 L27 ((w64 (s30.1 + 1)),(w64 (s34.1 - 1)),())))) fun J35=>
 Dr <|
 Br (decide ((s30.1:Int)≤s34.1)) (
 Ix p_data s34.1 1 fun a49=>
 LdI .u64 a49 fun x50=>
 Ix p_data p_a 1 fun a51=>
 LdI .u64 a51 fun x52=>
 Cl Pg 194 [(.int .u64 x50),(.int .u64 x52)] false [.sc .b] fun r53=>
 J35 ((!r53.1),())) (
 J35 (false,()))) (s28.2.1,()))) fun J31=>
 Dr <|
 Br (decide ((s30.1:Int)≤s28.2.1)) (
 Ix p_data s30.1 1 fun a54=>
 LdI .u64 a54 fun x55=>
 Ix p_data p_a 1 fun a56=>
 LdI .u64 a56 fun x57=>
 Cl Pg 194 [(.int .u64 x55),(.int .u64 x57)] false [.sc .b] fun r58=>
 J31 (r58.1,())) (
 J31 (false,()))) (s28.1,())) ((w64 (s8.1 + 1)),(w64 (s12.1 - 1)),())))) fun J13=>
 Dr <|
 Br (decide ((s8.1:Int)≤s12.1)) (
 Ix p_data s12.1 1 fun a59=>
 LdI .u64 a59 fun x60=>
 Ix p_data p_a 1 fun a61=>
 LdI .u64 a61 fun x62=>
 Cl Pg 194 [(.int .u64 x60),(.int .u64 x62)] false [.sc .b] fun r63=>
 J13 ((!r63.1),())) (
 J13 (false,()))) ((w64 (p_b - 1)),()))) fun J9=>
 Dr <|
 Br (decide ((s8.1:Int)≤(w64 (p_b - 1)))) (
 Ix p_data s8.1 1 fun a64=>
 LdI .u64 a64 fun x65=>
 Ix p_data p_a 1 fun a66=>
 LdI .u64 a66 fun x67=>
 Cl Pg 194 [(.int .u64 x65),(.int .u64 x67)] false [.sc .b] fun r68=>
 J9 (r68.1,())) (
 J9 (false,()))) ((w64 (p_a + 1)),())
theorem slices_partitionOrdered_uint64_call (p_data:Sl) (p_a:Int) (p_b:Int) (p_pivot:Int) {R:TR [.sc (.i .i64),.sc .b]→Pr} {w:World} (h:slices_partitionOrdered_uint64 p_data p_a p_b p_pivot R w):Cl Pg 196 [(.slice p_data.p p_data.len p_data.cap),(.int .i64 p_a),(.int .i64 p_b),(.int .i64 p_pivot)] true [.sc (.i .i64),.sc .b] R w:=
 call_eq Tryz.checked.mixed (.seq .leaf (.seq .leaf (.seq .leaf (.seq (.block (.loop [(10,.sc (.i .i64))] (.seq (.seq (.join [(43,.sc .b)] .leaf) (.cond .leaf .leaf)) (.block .leaf)))) (.seq (.block (.loop [(11,.sc (.i .i64))] (.seq (.seq (.join [(60,.sc .b)] .leaf) (.cond .leaf .leaf)) (.block .leaf)))) (.seq (.seq .leaf (.cond (.seq .leaf (.seq .leaf .leaf)) .leaf)) (.seq .leaf (.seq .leaf (.seq .leaf (.seq (.block (.loop [(10,.sc (.i .i64)),(11,.sc (.i .i64))] (.block (.seq (.block (.loop [(10,.sc (.i .i64))] (.seq (.seq (.join [(112,.sc .b)] .leaf) (.cond .leaf .leaf)) (.block .leaf)))) (.seq (.block (.loop [(11,.sc (.i .i64))] (.seq (.seq (.join [(129,.sc .b)] .leaf) (.cond .leaf .leaf)) (.block .leaf)))) (.seq (.seq .leaf (.cond .leaf .leaf)) (.seq .leaf (.seq .leaf .leaf)))))))) (.seq .leaf (.seq .leaf .leaf)))))))))))) Tryz.func196 (by kernel_rfl) (by kernel_rfl) h
def math_bits_Len64 (p_x:Int) (R:TR [.sc (.i .i64)]→Pr):Pr:=
 Jp (σ:=Int × Int × Unit) (fun s2=>
 Jp (σ:=Int × Int × Unit) (fun s4=>
 Jp (σ:=Int × Int × Unit) (fun s6=>
 IxS (BA [0,1,2,2,3,3,3,3,4,4,4,4,4,4,4,4,5,5,5,5,5,5,5,5,5,5,5,5,5,5,5,5,6,6,6,6,6,6,6,6,6,6,6,6,6,6,6,6,6,6,6,6,6,6,6,6,6,6,6,6,6,6,6,6,7,7,7,7,7,7,7,7,7,7,7,7,7,7,7,7,7,7,7,7,7,7,7,7,7,7,7,7,7,7,7,7,7,7,7,7,7,7,7,7,7,7,7,7,7,7,7,7,7,7,7,7,7,7,7,7,7,7,7,7,7,7,7,7,8,8,8,8,8,8,8,8,8,8,8,8,8,8,8,8,8,8,8,8,8,8,8,8,8,8,8,8,8,8,8,8,8,8,8,8,8,8,8,8,8,8,8,8,8,8,8,8,8,8,8,8,8,8,8,8,8,8,8,8,8,8,8,8,8,8,8,8,8,8,8,8,8,8,8,8,8,8,8,8,8,8,8,8,8,8,8,8,8,8,8,8,8,8,8,8,8,8,8,8,8,8,8,8,8,8,8,8,8,8,8,8,8,8,8,8,8,8,8,8,8,8,8,8,8,8,8,8]) (IntKind.u8.wrap (s6.1)) fun c7=>
 R ((w64 (s6.2.1 + (w64 (c7)))),())) fun J5=>
 Br (decide ((s4.1:Int) ≥ 256)) (
 Req ((0:Int)≤8) <|
 J5 ((ishr .u64 s4.1 8),(w64 (s4.2.1 + 8)),())) (
 J5 (s4.1,s4.2.1,()))) fun J3=>
 Br (decide ((s2.1:Int) ≥ 65536)) (
 Req ((0:Int)≤16) <|
 J3 ((ishr .u64 s2.1 16),(w64 (s2.2.1 + 16)),())) (
 J3 (s2.1,s2.2.1,()))) fun J1=>
 Br (decide ((p_x:Int) ≥ 4294967296)) (
 Req ((0:Int)≤32) <|
 J1 ((ishr .u64 p_x 32),32,())) (
 J1 (p_x,0,()))
theorem math_bits_Len64_call (p_x:Int) {R:TR [.sc (.i .i64)]→Pr} {w:World} (h:math_bits_Len64 p_x R w):Cl Pg 198 [(.int .u64 p_x)] false [.sc (.i .i64)] R w:=
 call_eq Tryz.checked.mixed (.seq .leaf (.seq (.join [(0,.sc (.i .u64)),(2,.sc (.i .i64))] (.seq .leaf (.cond (.seq .leaf .leaf) .leaf))) (.seq (.join [(0,.sc (.i .u64)),(2,.sc (.i .i64))] (.seq .leaf (.cond (.seq .leaf .leaf) .leaf))) (.seq (.join [(0,.sc (.i .u64)),(2,.sc (.i .i64))] (.seq .leaf (.cond (.seq .leaf .leaf) .leaf))) (.seq .leaf .leaf))))) Tryz.func198 (by kernel_rfl) (by kernel_rfl) h
abbrev i_op_forms:FuncId:=199
def op_forms  (R:TR [.ag [.b,.b,.b,.b,.b,.v,.b,.b,.b,.b,.b,.v,.b,.b,.b,.b,.b,.v,.b,.b,.b,.b,.b,.v,.b,.b,.b,.b,.b,.v,.b,.b,.b,.b,.b,.v]]→Pr):Pr:=
 New #[(.bool false),(.bool false),(.bool false),(.bool false),(.bool false),.nilFunc,(.bool false),(.bool false),(.bool false),(.bool false),(.bool false),.nilFunc,(.bool false),(.bool false),(.bool false),(.bool false),(.bool false),.nilFunc,(.bool false),(.bool false),(.bool false),(.bool false),(.bool false),.nilFunc,(.bool false),(.bool false),(.bool false),(.bool false),(.bool false),.nilFunc,(.bool false),(.bool false),(.bool false),(.bool false),(.bool false),.nilFunc] 264 fun a1=>
 Req (((.func (.func 265) #[] #[]):Value).oneCell'=true) <|
 Req (((.func (.func 266) #[] #[]):Value).oneCell'=true) <|
 Req (((.func (.func 267) #[] #[]):Value).oneCell'=true) <|
 Req (((.func (.func 268) #[] #[]):Value).oneCell'=true) <|
 Req (((.func (.func 269) #[] #[]):Value).oneCell'=true) <|
 St (a1.add 0) (.bool false) <|
 St (a1.add 1) (.bool false) <|
 St (a1.add 2) (.bool false) <|
 St (a1.add 3) (.bool false) <|
 St (a1.add 4) (.bool false) <|
 St (a1.add 5) .nilFunc <|
 St (a1.add 6) (.bool true) <|
 St (a1.add 7) (.bool false) <|
 St (a1.add 8) (.bool false) <|
 St (a1.add 9) (.bool false) <|
 St (a1.add 10) (.bool false) <|
 St (a1.add 11) (.func (.func 265) #[] #[]) <|
 St (a1.add 12) (.bool true) <|
 St (a1.add 13) (.bool true) <|
 St (a1.add 14) (.bool false) <|
 St (a1.add 15) (.bool false) <|
 St (a1.add 16) (.bool true) <|
 St (a1.add 17) (.func (.func 266) #[] #[]) <|
 St (a1.add 18) (.bool true) <|
 St (a1.add 19) (.bool false) <|
 St (a1.add 20) (.bool false) <|
 St (a1.add 21) (.bool false) <|
 St (a1.add 22) (.bool true) <|
 St (a1.add 23) (.func (.func 267) #[] #[]) <|
 St (a1.add 24) (.bool false) <|
 St (a1.add 25) (.bool false) <|
 St (a1.add 26) (.bool true) <|
 St (a1.add 27) (.bool true) <|
 St (a1.add 28) (.bool false) <|
 St (a1.add 29) (.func (.func 268) #[] #[]) <|
 St (a1.add 30) (.bool false) <|
 St (a1.add 31) (.bool false) <|
 St (a1.add 32) (.bool true) <|
 St (a1.add 33) (.bool false) <|
 St (a1.add 34) (.bool true) <|
 St (a1.add 35) (.func (.func 269) #[] #[]) <|
 LdB (a1.add 0) fun x2=>
 LdB (a1.add 1) fun x3=>
 LdB (a1.add 2) fun x4=>
 LdB (a1.add 3) fun x5=>
 LdB (a1.add 4) fun x6=>
 LdV (a1.add 5) fun x7=>
 LdB (a1.add 6) fun x8=>
 LdB (a1.add 7) fun x9=>
 LdB (a1.add 8) fun x10=>
 LdB (a1.add 9) fun x11=>
 LdB (a1.add 10) fun x12=>
 LdV (a1.add 11) fun x13=>
 LdB (a1.add 12) fun x14=>
 LdB (a1.add 13) fun x15=>
 LdB (a1.add 14) fun x16=>
 LdB (a1.add 15) fun x17=>
 LdB (a1.add 16) fun x18=>
 LdV (a1.add 17) fun x19=>
 LdB (a1.add 18) fun x20=>
 LdB (a1.add 19) fun x21=>
 LdB (a1.add 20) fun x22=>
 LdB (a1.add 21) fun x23=>
 LdB (a1.add 22) fun x24=>
 LdV (a1.add 23) fun x25=>
 LdB (a1.add 24) fun x26=>
 LdB (a1.add 25) fun x27=>
 LdB (a1.add 26) fun x28=>
 LdB (a1.add 27) fun x29=>
 LdB (a1.add 28) fun x30=>
 LdV (a1.add 29) fun x31=>
 LdB (a1.add 30) fun x32=>
 LdB (a1.add 31) fun x33=>
 LdB (a1.add 32) fun x34=>
 LdB (a1.add 33) fun x35=>
 LdB (a1.add 34) fun x36=>
 LdV (a1.add 35) fun x37=>
 R ((x2,x3,x4,x5,x6,x7,x8,x9,x10,x11,x12,x13,x14,x15,x16,x17,x18,x19,x20,x21,x22,x23,x24,x25,x26,x27,x28,x29,x30,x31,x32,x33,x34,x35,x36,x37,()),())
theorem op_forms_call  {R:TR [.ag [.b,.b,.b,.b,.b,.v,.b,.b,.b,.b,.b,.v,.b,.b,.b,.b,.b,.v,.b,.b,.b,.b,.b,.v,.b,.b,.b,.b,.b,.v,.b,.b,.b,.b,.b,.v]]→Pr} {w:World} (h:op_forms  R w):Cl Pg 199 [] false [.ag [.b,.b,.b,.b,.b,.v,.b,.b,.b,.b,.b,.v,.b,.b,.b,.b,.b,.v,.b,.b,.b,.b,.b,.v,.b,.b,.b,.b,.b,.v,.b,.b,.b,.b,.b,.v]] R w:=
 call_eq Tryz.checked.mixed (.seq .leaf (.seq .leaf .leaf)) Tryz.func199 (by kernel_rfl) (by kernel_rfl) h
abbrev i_slices_Compact_uint64:FuncId:=200
def slices_Compact_uint64 (p_s:Sl) (R:TR [.sc .sl]→Pr):Pr:=
 Br (decide ((((p_s.len:Nat):Int):Int) < 2)) (
 R (p_s,())) (
 Lp (σ:=Sl × Int × Unit) (fun L1 s2=>
 Br (decide ((s2.2.1:Int) < ((p_s.len:Nat):Int))) (
 Dr <|
 Ix p_s s2.2.1 1 fun a3=>
 LdI .u64 a3 fun x4=>
 Ix p_s (w64 (s2.2.1 - 1)) 1 fun a5=>
 LdI .u64 a5 fun x6=>
 Br ((x4:Int) == x6) (
 Req ((0:Int)≤s2.2.1∧s2.2.1≤((p_s.len:Nat):Int)) <|
 Lp (σ:=Int × Int × Unit) (fun L7 s8=>
 Br (decide ((s8.2.1:Int) < (((p_s.len - (Int.toNat s2.2.1)):Nat):Int))) (
 Jp (σ:=Int × Unit) (fun s10=>
 L7 (s10.1,(w64 (s8.2.1 + 1)),())) fun J9=>
 Dr <|
 Ix ⟨(slOff p_s.p p_s.cap (Int.toNat s2.2.1) 1),(p_s.len - (Int.toNat s2.2.1)),(p_s.cap - (Int.toNat s2.2.1))⟩ s8.2.1 1 fun a11=>
 LdI .u64 a11 fun x12=>
 Ix ⟨(slOff p_s.p p_s.cap (Int.toNat s2.2.1) 1),(p_s.len - (Int.toNat s2.2.1)),(p_s.cap - (Int.toNat s2.2.1))⟩ (w64 (s8.2.1 - 1)) 1 fun a13=>
 LdI .u64 a13 fun x14=>
 Br ((x12:Int) != x14) (
 Ix ⟨(slOff p_s.p p_s.cap (Int.toNat s2.2.1) 1),(p_s.len - (Int.toNat s2.2.1)),(p_s.cap - (Int.toNat s2.2.1))⟩ s8.2.1 1 fun a15=>
 LdI .u64 a15 fun x16=>
 Ix p_s s8.1 1 fun a17=>
 St a17 (.int .u64 x16) <|
 J9 ((w64 (s8.1 + 1)),())) (
 J9 (s8.1,()))) (
 Req ((0:Int)≤s8.1∧s8.1≤((p_s.len:Nat):Int)) <|
 ClrS (zc Pg 32) ⟨(slOff p_s.p p_s.cap (Int.toNat s8.1) 1),(p_s.len - (Int.toNat s8.1)),(p_s.cap - (Int.toNat s8.1))⟩ <|
 Req ((0:Int)≤s8.1∧s8.1≤((p_s.cap:Nat):Int)) <|
 R (⟨(slOff p_s.p p_s.cap 0 1),((Int.toNat s8.1) - 0),(p_s.cap - 0)⟩,()))) (s2.2.1,1,())) (
 L1 (s2.1,(w64 (s2.2.1 + 1)),()))) (
 R (p_s,()))) (⟨none,0,0⟩,1,()))
theorem slices_Compact_uint64_call (p_s:Sl) {R:TR [.sc .sl]→Pr} {w:World} (h:slices_Compact_uint64 p_s R w):Cl Pg 200 [(.slice p_s.p p_s.len p_s.cap)] false [.sc .sl] R w:=
 call_eq Tryz.checked.mixed (.seq .leaf (.seq (.seq .leaf (.cond (.seq .leaf .leaf) .leaf)) (.seq (.seq .leaf (.block (.loop [(2,.sc .sl),(3,.sc (.i .i64))] (.seq (.seq .leaf (.cond .leaf .leaf)) (.seq (.block (.seq .leaf (.cond (.seq .leaf (.seq (.seq .leaf (.block (.loop [(3,.sc (.i .i64)),(5,.sc (.i .i64))] (.seq (.seq .leaf (.cond .leaf .leaf)) (.seq (.join [(3,.sc (.i .i64))] (.block (.seq .leaf (.cond (.seq .leaf .leaf) .leaf)))) .leaf))))) (.seq .leaf (.seq .leaf .leaf)))) .leaf))) .leaf))))) (.seq .leaf .leaf)))) Tryz.func200 (by kernel_rfl) (by kernel_rfl) h
abbrev i_slices_DeleteFunc_Ask:FuncId:=201
theorem slices_DeleteFunc_Ask_call (p_s:Sl) (p_del:Value) {R:TR [.sc .sl]→Pr} {w:World} (h:DeleteFunc_tx Pg 101 4 (zc Pg 146) (rdrA [(.i .u64),.s,.s,.b] #[(.int .u64 0),(.string (BA [])),(.string (BA [])),(.bool false)] 146) p_s p_del R w):Cl Pg 201 [(.slice p_s.p p_s.len p_s.cap),p_del] false [.sc .sl] R w:=
 call_eq Tryz.checked.mixed (.seq .leaf (.seq .leaf (.seq (.seq .leaf (.cond (.seq .leaf .leaf) .leaf)) (.seq (.seq .leaf (.block (.loop [(5,.sc (.i .i64)),(6,.sc (.i .i64))] (.seq (.seq .leaf (.cond .leaf .leaf)) (.seq (.join [(5,.sc (.i .i64))] (.block (.seq .leaf (.seq .leaf (.cond (.seq .leaf .leaf) .leaf))))) .leaf))))) (.seq .leaf (.seq .leaf .leaf)))))) Tryz.func201 (by kernel_rfl) (by kernel_rfl) h
abbrev i_slices_IndexFunc_uint64:FuncId:=203
theorem slices_IndexFunc_uint64_call (p_s:Sl) (p_f:Value) {R:TR [.sc (.i .i64)]→Pr} {w:World} (h:IndexFunc_tx Pg 1 (ldK (.i .u64)) p_s p_f R w):Cl Pg 203 [(.slice p_s.p p_s.len p_s.cap),p_f] false [.sc (.i .i64)] R w:=
 call_eq Tryz.checked.mixed (.seq .leaf (.seq (.seq .leaf (.block (.loop [(4,.sc (.i .i64)),(8,.sc (.i .i64))] (.seq .leaf (.seq (.cond .leaf .leaf) (.seq (.block (.seq .leaf (.seq .leaf (.cond (.seq .leaf .leaf) .leaf)))) .leaf)))))) (.seq .leaf .leaf))) Tryz.func203 (by kernel_rfl) (by kernel_rfl) h
abbrev i_slices_BinarySearchFunc_wait:FuncId:=204
theorem slices_BinarySearchFunc_wait_call (p_x:Sl) (p_target:Int) (p_cmp:Value) {R:TR [.sc (.i .i64),.sc .b]→Pr} {w:World} (h:BinarySearchFunc_tx Pg 4 (ldA [(.i .u64),.sl,.sl,(.i .i64)]) p_x (.int .u64 p_target) p_cmp R w):Cl Pg 204 [(.slice p_x.p p_x.len p_x.cap),(.int .u64 p_target),p_cmp] true [.sc (.i .i64),.sc .b] R w:=
 call_eq Tryz.checked.mixed (.seq .leaf (.seq .leaf (.seq .leaf (.seq (.block (.loop [(9,.sc (.i .i64)),(10,.sc (.i .i64))] (.seq (.seq .leaf (.cond .leaf .leaf)) (.block (.seq .leaf (.seq .leaf (.cond .leaf .leaf))))))) (.seq .leaf .leaf))))) Tryz.func204 (by kernel_rfl) (by kernel_rfl) h
def part_Machine_waiting_1 (p_w_0:Int) (p_w_1:Sl) (p_w_2:Sl) (p_w_3:Int) (p_n:Int) (R:TR [.sc (.i .i64)]→Pr):Pr:=
 New #[(.int .u64 p_w_0),(.slice p_w_1.p p_w_1.len p_w_1.cap),(.slice p_w_2.p p_w_2.len p_w_2.cap),(.int .i64 p_w_3)] 114 fun a1=>
 LdI .u64 (a1.add 0) fun x2=>
 Cl Pg 71 [(.int .u64 x2),(.int .u64 p_n)] false [.sc (.i .i64)] fun r3=>
 R (r3.1,())
theorem part_Machine_waiting_1_call (p_w_0:Int) (p_w_1:Sl) (p_w_2:Sl) (p_w_3:Int) (p_n:Int) {R:TR [.sc (.i .i64)]→Pr} {w:World} (h:part_Machine_waiting_1 p_w_0 p_w_1 p_w_2 p_w_3 p_n R w):Cl Pg 205 [(.agg #[(.int .u64 p_w_0),(.slice p_w_1.p p_w_1.len p_w_1.cap),(.slice p_w_2.p p_w_2.len p_w_2.cap),(.int .i64 p_w_3)]),(.int .u64 p_n)] false [.sc (.i .i64)] R w:=
 call_eq Tryz.checked.mixed (.seq .leaf (.seq .leaf .leaf)) Tryz.func205 (by kernel_rfl) (by kernel_rfl) h
abbrev i_slices_BinarySearchFunc_Hold:FuncId:=206
theorem slices_BinarySearchFunc_Hold_call (p_x:Sl) (p_target:Int) (p_cmp:Value) {R:TR [.sc (.i .i64),.sc .b]→Pr} {w:World} (h:BinarySearchFunc_tx Pg 2 (ldA [(.i .u64),.sl]) p_x (.int .u64 p_target) p_cmp R w):Cl Pg 206 [(.slice p_x.p p_x.len p_x.cap),(.int .u64 p_target),p_cmp] true [.sc (.i .i64),.sc .b] R w:=
 call_eq Tryz.checked.mixed (.seq .leaf (.seq .leaf (.seq .leaf (.seq (.block (.loop [(9,.sc (.i .i64)),(10,.sc (.i .i64))] (.seq (.seq .leaf (.cond .leaf .leaf)) (.block (.seq .leaf (.seq .leaf (.cond .leaf .leaf))))))) (.seq .leaf .leaf))))) Tryz.func206 (by kernel_rfl) (by kernel_rfl) h
def part_Machine_held_1 (p_h_0:Int) (p_h_1:Sl) (p_n:Int) (R:TR [.sc (.i .i64)]→Pr):Pr:=
 New #[(.int .u64 p_h_0),(.slice p_h_1.p p_h_1.len p_h_1.cap)] 60 fun a1=>
 LdI .u64 (a1.add 0) fun x2=>
 Cl Pg 71 [(.int .u64 x2),(.int .u64 p_n)] false [.sc (.i .i64)] fun r3=>
 R (r3.1,())
theorem part_Machine_held_1_call (p_h_0:Int) (p_h_1:Sl) (p_n:Int) {R:TR [.sc (.i .i64)]→Pr} {w:World} (h:part_Machine_held_1 p_h_0 p_h_1 p_n R w):Cl Pg 207 [(.agg #[(.int .u64 p_h_0),(.slice p_h_1.p p_h_1.len p_h_1.cap)]),(.int .u64 p_n)] false [.sc (.i .i64)] R w:=
 call_eq Tryz.checked.mixed (.seq .leaf (.seq .leaf .leaf)) Tryz.func207 (by kernel_rfl) (by kernel_rfl) h
abbrev i_op_Apply:FuncId:=208
def op_Apply (p_m:Sl) (p_l:Sl) (R:TR [.sc .sl,.sc .sl,.sc (.i .i64)]→Pr):Pr:=
 Cl Pg 271 [(.slice p_m.p p_m.len p_m.cap)] false [.sc (.i .i64)] fun r1=>
 Br ((r1.1:Int) != 0) (
 R (⟨none,0,0⟩,⟨none,0,0⟩,r1.1,())) (
 Cl Pg 224 [(.slice p_l.p p_l.len p_l.cap)] false [.sc (.i .i64)] fun r2=>
 Br ((r2.1:Int) != 0) (
 R (⟨none,0,0⟩,⟨none,0,0⟩,r2.1,())) (
 Cl Pg 272 [(.slice p_m.p p_m.len p_m.cap)] false [.sc .sl] fun r3=>
 Lp (σ:=Sl × Sl × Int × Unit) (fun L4 s5=>
 Br (decide ((s5.2.2.1:Int) < ((p_l.len:Nat):Int))) (
 Ix p_l s5.2.2.1 6 fun a6=>
 LdI .i64 (a6.add 0) fun x7=>
 LdS (a6.add 1) fun x8=>
 LdS (a6.add 2) fun x9=>
 LdS (a6.add 3) fun x10=>
 LdS (a6.add 4) fun x11=>
 LdI .i64 (a6.add 5) fun x12=>
 New #[(.int .i64 0),(.string (BA [])),(.string (BA [])),(.string (BA [])),(.string (BA [])),(.int .i64 0)] 81 fun a13=>
 St (a13.add 0) (.int .i64 x7) <|
 St (a13.add 1) (.string x8) <|
 St (a13.add 2) (.string x9) <|
 St (a13.add 3) (.string x10) <|
 St (a13.add 4) (.string x11) <|
 St (a13.add 5) (.int .i64 x12) <|
 New #[(.bool false),(.string (BA [])),(.slice none 0 0)] 83 fun a14=>
 Dr <|
 LdI .i64 (a13.add 0) fun x15=>
 LdI .i64 (a13.add 0) fun x16=>
 LdS (a13.add 1) fun x17=>
 LdS (a13.add 2) fun x18=>
 LdS (a13.add 3) fun x19=>
 LdS (a13.add 4) fun x20=>
 LdI .i64 (a13.add 5) fun x21=>
 Cl Pg 199 [] false [.ag [.b,.b,.b,.b,.b,.v,.b,.b,.b,.b,.b,.v,.b,.b,.b,.b,.b,.v,.b,.b,.b,.b,.b,.v,.b,.b,.b,.b,.b,.v,.b,.b,.b,.b,.b,.v]] fun r22=>
 Both (LdI .i64 (a13.add 0) fun x23=>
 LdS (a13.add 1) fun x24=>
 LdS (a13.add 2) fun x25=>
 LdS (a13.add 3) fun x26=>
 LdS (a13.add 4) fun x27=>
 LdI .i64 (a13.add 5) fun x28=>
 fun _=>((.agg #[(.int .i64 x23),(.string x24),(.string x25),(.string x26),(.string x27),(.int .i64 x28)]):Value)=(.agg #[(.int .i64 x16),(.string x17),(.string x18),(.string x19),(.string x20),(.int .i64 x21)])) <|
 Both (LdI .i64 (a13.add 0) fun x29=>
 fun _=>((.int .i64 x29):Value)=(.int .i64 x15)) <|
 IxA (encs [.b,.b,.b,.b,.b,.v,.b,.b,.b,.b,.b,.v,.b,.b,.b,.b,.b,.v,.b,.b,.b,.b,.b,.v,.b,.b,.b,.b,.b,.v,.b,.b,.b,.b,.b,.v] r22.1) 6 x15 6 fun g30=>
 TyA [.b,.b,.b,.b,.b,.v] g30 fun y31=>
 CallV Pg y31.2.2.2.2.2.1 [(.slice s5.1.p s5.1.len s5.1.cap),(.agg #[(.int .i64 x16),(.string x17),(.string x18),(.string x19),(.string x20),(.int .i64 x21)])] true [.sc .sl,.ag [.b,.s,.sl]] fun r32=>
 St (a14.add 0) (.bool r32.2.1.1) <|
 St (a14.add 1) (.string r32.2.1.2.1) <|
 St (a14.add 2) (.slice r32.2.1.2.2.1.p r32.2.1.2.2.1.len r32.2.1.2.2.1.cap) <|
 LdB (a14.add 0) fun x33=>
 LdS (a14.add 1) fun x34=>
 LdL (a14.add 2) fun x35=>
 New #[(.bool x33),(.string x34),(.slice x35.p x35.len x35.cap)] 83 fun a36=>
 App 83 3 48 (zc Pg 83) s5.2.1 1 (srcS (some a36) 1 3) fun r37=>
 L4 (r32.1,r37,(w64 (s5.2.2.1 + 1)),())) (
 R (s5.1,s5.2.1,0,()))) (r3.1,⟨none,0,0⟩,0,())))
theorem op_Apply_call (p_m:Sl) (p_l:Sl) {R:TR [.sc .sl,.sc .sl,.sc (.i .i64)]→Pr} {w:World} (h:op_Apply p_m p_l R w):Cl Pg 208 [(.slice p_m.p p_m.len p_m.cap),(.slice p_l.p p_l.len p_l.cap)] true [.sc .sl,.sc .sl,.sc (.i .i64)] R w:=
 call_eq Tryz.checked.mixed (.seq .leaf (.seq (.seq .leaf (.seq .leaf (.cond (.seq .leaf .leaf) .leaf))) (.seq (.seq .leaf (.seq .leaf (.cond (.seq .leaf .leaf) .leaf))) (.seq .leaf (.seq .leaf (.seq (.seq .leaf (.block (.loop [(0,.sc .sl),(9,.sc .sl),(27,.sc (.i .i64))] (.seq .leaf (.seq (.cond .leaf .leaf) (.seq (.block (.seq .leaf (.seq .leaf (.seq .leaf .leaf)))) .leaf)))))) (.seq .leaf .leaf))))))) Tryz.func208 (by kernel_rfl) (by kernel_rfl) h
abbrev i_owner_keys:FuncId:=209
def owner_keys (p_l:Sl) (p_i:Int) (R:TR [.ag [.s,.s]]→Pr):Pr:=
 New #[(.string (BA [])),(.string (BA []))] 37 fun a1=>
 Br (((w64 (p_i + 1)):Int) == ((p_l.len:Nat):Int)) (
 Ix p_l p_i 2 fun a2=>
 LdS (a2.add 0) fun x3=>
 St (a1.add 0) (.string x3) <|
 St (a1.add 1) (.string (BA [])) <|
 LdS (a1.add 0) fun x4=>
 LdS (a1.add 1) fun x5=>
 R ((x4,x5,()),())) (
 Dr <|
 Ix p_l p_i 2 fun a6=>
 LdS (a6.add 0) fun x7=>
 Ix p_l (w64 (p_i + 1)) 2 fun a8=>
 LdS (a8.add 0) fun x9=>
 St (a1.add 0) (.string x7) <|
 St (a1.add 1) (.string x9) <|
 LdS (a1.add 0) fun x10=>
 LdS (a1.add 1) fun x11=>
 R ((x10,x11,()),()))
theorem owner_keys_call (p_l:Sl) (p_i:Int) {R:TR [.ag [.s,.s]]→Pr} {w:World} (h:owner_keys p_l p_i R w):Cl Pg 209 [(.slice p_l.p p_l.len p_l.cap),(.int .i64 p_i)] false [.ag [.s,.s]] R w:=
 call_eq Tryz.checked.mixed (.seq .leaf (.seq (.seq .leaf (.cond (.seq .leaf .leaf) .leaf)) (.seq .leaf .leaf))) Tryz.func209 (by kernel_rfl) (by kernel_rfl) h
abbrev i_part_touches:FuncId:=210
def part_touches (p_ops:Sl) (p_r_0:ByteArray) (p_r_1:ByteArray) (R:TR [.sc .b]→Pr):Pr:=
 New #[(.string p_r_0),(.string p_r_1)] 37 fun a1=>
 Cl Pg 48 [(.slice p_ops.p p_ops.len p_ops.cap),(.func (.func 273) #[] #[(.pointer (some a1))])] false [.sc .b] fun r2=>
 R (r2.1,())
theorem part_touches_call (p_ops:Sl) (p_r_0:ByteArray) (p_r_1:ByteArray) {R:TR [.sc .b]→Pr} {w:World} (h:part_touches p_ops p_r_0 p_r_1 R w):Cl Pg 210 [(.slice p_ops.p p_ops.len p_ops.cap),(.agg #[(.string p_r_0),(.string p_r_1)])] false [.sc .b] R w:=
 call_eq Tryz.checked.mixed (.seq .leaf (.seq .leaf .leaf)) Tryz.func210 (by kernel_rfl) (by kernel_rfl) h
abbrev i_slices_Insert_Hold:FuncId:=213
theorem slices_Insert_Hold_call (p_s:Sl) (p_i:Int) (p_v:Sl) {R:TR [.sc .sl]→Pr} {w:World} (h:Insert_tx Pg 275 276 60 2 32 (zc Pg 60) p_s p_i p_v R w):Cl Pg 213 [(.slice p_s.p p_s.len p_s.cap),(.int .i64 p_i),(.slice p_v.p p_v.len p_v.cap)] false [.sc .sl] R w:=
 call_eq Tryz.checked.mixed (.seq .leaf (.seq .leaf (.seq .leaf (.seq (.seq .leaf (.cond (.seq .leaf .leaf) .leaf)) (.seq .leaf (.seq (.seq .leaf (.cond (.seq .leaf .leaf) .leaf)) (.seq (.seq .leaf (.cond (.seq .leaf (.seq .leaf (.seq .leaf (.seq .leaf .leaf)))) .leaf)) (.seq .leaf (.seq (.seq .leaf (.cond (.seq .leaf (.seq .leaf (.seq .leaf .leaf))) .leaf)) (.seq .leaf (.seq .leaf (.seq .leaf .leaf)))))))))))) Tryz.func213 (by kernel_rfl) (by kernel_rfl) h
abbrev i_part_Machine_told:FuncId:=214
def part_Machine_told (p_m:Option Addr) (p_granted:Sl) (p_dead:Sl) (R:TR []→Pr):Pr:=
 Lp (σ:=Int × Unit) (fun L1 s2=>
 Br (decide ((s2.1:Int) < ((p_dead.len:Nat):Int))) (
 Ix p_dead s2.1 1 fun a3=>
 LdI .u64 a3 fun x4=>
 Nn p_m fun a5=>
 LdL (a5.add 24) fun x6=>
 New #[(.int .u64 x4),(.bool true)] 282 fun a7=>
 App 282 2 16 (zc Pg 282) x6 1 (srcS (some a7) 1 2) fun r8=>
 Nn p_m fun a9=>
 St (a9.add 24) (.slice r8.p r8.len r8.cap) <|
 L1 ((w64 (s2.1 + 1)),())) (
 Lp (σ:=Int × Unit) (fun L10 s11=>
 Br (decide ((s11.1:Int) < ((p_granted.len:Nat):Int))) (
 Ix p_granted s11.1 1 fun a12=>
 LdI .u64 a12 fun x13=>
 Nn p_m fun a14=>
 LdL (a14.add 24) fun x15=>
 New #[(.int .u64 x13),(.bool false)] 282 fun a16=>
 App 282 2 16 (zc Pg 282) x15 1 (srcS (some a16) 1 2) fun r17=>
 Nn p_m fun a18=>
 St (a18.add 24) (.slice r17.p r17.len r17.cap) <|
 L10 ((w64 (s11.1 + 1)),())) (
 R ())) (0,()))) (0,())
theorem part_Machine_told_call (p_m:Option Addr) (p_granted:Sl) (p_dead:Sl) {R:TR []→Pr} {w:World} (h:part_Machine_told p_m p_granted p_dead R w):Cl Pg 214 [(.pointer p_m),(.slice p_granted.p p_granted.len p_granted.cap),(.slice p_dead.p p_dead.len p_dead.cap)] true [] R w:=
 call_eq Tryz.checked.mixed (.seq (.seq .leaf (.block (.loop [(12,.sc (.i .i64))] (.seq .leaf (.seq (.cond .leaf .leaf) (.seq (.block (.seq .leaf .leaf)) .leaf)))))) (.seq .leaf (.block (.loop [(30,.sc (.i .i64))] (.seq .leaf (.seq (.cond .leaf .leaf) (.seq (.block (.seq .leaf .leaf)) .leaf))))))) Tryz.func214 (by kernel_rfl) (by kernel_rfl) h
abbrev i_part_Machine_release:FuncId:=215
def part_Machine_release (p_m:Option Addr) (p_txn:Int) (R:TR []→Pr):Pr:=
 Nn p_m fun a1=>
 LdP (a1.add 18) fun x2=>
 Cl Pg 277 [(.pointer x2),(.int .u64 p_txn)] true [.sc .sl,.sc .sl] fun r3=>
 Cl Pg 214 [(.pointer p_m),(.slice r3.1.p r3.1.len r3.1.cap),(.slice r3.2.1.p r3.2.1.len r3.2.1.cap)] true [] fun r4=>
 R ()
theorem part_Machine_release_call (p_m:Option Addr) (p_txn:Int) {R:TR []→Pr} {w:World} (h:part_Machine_release p_m p_txn R w):Cl Pg 215 [(.pointer p_m),(.int .u64 p_txn)] true [] R w:=
 call_eq Tryz.checked.mixed (.leaf) Tryz.func215 (by kernel_rfl) (by kernel_rfl) h
abbrev i_slices_BinarySearch_uint64:FuncId:=216
def slices_BinarySearch_uint64 (p_x:Sl) (p_target:Int) (R:TR [.sc (.i .i64),.sc .b]→Pr):Pr:=
 Lp (σ:=Int × Int × Unit) (fun L1 s2=>
 Br (decide ((s2.1:Int) < s2.2.1)) (
 Req ((0:Int)≤1) <|
 Ix p_x (w64 ((ishr .u64 (IntKind.u64.wrap ((w64 (s2.1 + s2.2.1)))) 1))) 1 fun a3=>
 LdI .u64 a3 fun x4=>
 Cl Pg 194 [(.int .u64 x4),(.int .u64 p_target)] false [.sc .b] fun r5=>
 Br r5.1 (
 L1 ((w64 ((w64 ((ishr .u64 (IntKind.u64.wrap ((w64 (s2.1 + s2.2.1)))) 1))) + 1)),s2.2.1,())) (
 L1 (s2.1,(w64 ((ishr .u64 (IntKind.u64.wrap ((w64 (s2.1 + s2.2.1)))) 1))),()))) (
 Br (decide ((s2.1:Int) < ((p_x.len:Nat):Int))) (
 Ix p_x s2.1 1 fun a6=>
 LdI .u64 a6 fun x7=>
 Br ((x7:Int) == p_target) (
 R (s2.1,true,())) (
 Ix p_x s2.1 1 fun a8=>
 LdI .u64 a8 fun x9=>
 Cl Pg 278 [(.int .u64 x9)] false [.sc .b] fun r10=>
 Br r10.1 (
 Cl Pg 278 [(.int .u64 p_target)] false [.sc .b] fun r11=>
 R (s2.1,r11.1,())) (
 R (s2.1,false,())))) (
 R (s2.1,false,())))) (0,((p_x.len:Nat):Int),())
theorem slices_BinarySearch_uint64_call (p_x:Sl) (p_target:Int) {R:TR [.sc (.i .i64),.sc .b]→Pr} {w:World} (h:slices_BinarySearch_uint64 p_x p_target R w):Cl Pg 216 [(.slice p_x.p p_x.len p_x.cap),(.int .u64 p_target)] true [.sc (.i .i64),.sc .b] R w:=
 call_eq Tryz.checked.mixed (.seq .leaf (.seq .leaf (.seq .leaf (.seq (.block (.loop [(7,.sc (.i .i64)),(8,.sc (.i .i64))] (.seq (.seq .leaf (.cond .leaf .leaf)) (.block (.seq .leaf (.seq .leaf (.cond .leaf .leaf))))))) (.seq .leaf .leaf))))) Tryz.func216 (by kernel_rfl) (by kernel_rfl) h
abbrev i_slices_Insert_uint64:FuncId:=217
theorem slices_Insert_uint64_call (p_s:Sl) (p_i:Int) (p_v:Sl) {R:TR [.sc .sl]→Pr} {w:World} (h:Insert_tx Pg 279 280 32 1 8 (zc Pg 32) p_s p_i p_v R w):Cl Pg 217 [(.slice p_s.p p_s.len p_s.cap),(.int .i64 p_i),(.slice p_v.p p_v.len p_v.cap)] false [.sc .sl] R w:=
 call_eq Tryz.checked.mixed (.seq .leaf (.seq .leaf (.seq .leaf (.seq (.seq .leaf (.cond (.seq .leaf .leaf) .leaf)) (.seq .leaf (.seq (.seq .leaf (.cond (.seq .leaf .leaf) .leaf)) (.seq (.seq .leaf (.cond (.seq .leaf (.seq .leaf (.seq .leaf (.seq .leaf .leaf)))) .leaf)) (.seq .leaf (.seq (.seq .leaf (.cond (.seq .leaf (.seq .leaf (.seq .leaf .leaf))) .leaf)) (.seq .leaf (.seq .leaf (.seq .leaf .leaf)))))))))))) Tryz.func217 (by kernel_rfl) (by kernel_rfl) h
abbrev i_op_all:FuncId:=224
def op_all (p_l:Sl) (R:TR [.sc (.i .i64)]→Pr):Pr:=
 Lp (σ:=Int × Int × Unit) (fun L1 s2=>
 Br (decide ((s2.2.1:Int) < ((p_l.len:Nat):Int))) (
 Ix p_l s2.2.1 6 fun a3=>
 LdI .i64 (a3.add 0) fun x4=>
 LdS (a3.add 1) fun x5=>
 LdS (a3.add 2) fun x6=>
 LdS (a3.add 3) fun x7=>
 LdS (a3.add 4) fun x8=>
 LdI .i64 (a3.add 5) fun x9=>
 New #[(.int .i64 0),(.string (BA [])),(.string (BA [])),(.string (BA [])),(.string (BA [])),(.int .i64 0)] 81 fun a10=>
 St (a10.add 0) (.int .i64 x4) <|
 St (a10.add 1) (.string x5) <|
 St (a10.add 2) (.string x6) <|
 St (a10.add 3) (.string x7) <|
 St (a10.add 4) (.string x8) <|
 St (a10.add 5) (.int .i64 x9) <|
 LdI .i64 (a10.add 0) fun x11=>
 LdS (a10.add 1) fun x12=>
 LdS (a10.add 2) fun x13=>
 LdS (a10.add 3) fun x14=>
 LdS (a10.add 4) fun x15=>
 LdI .i64 (a10.add 5) fun x16=>
 Cl Pg 50 [(.agg #[(.int .i64 x11),(.string x12),(.string x13),(.string x14),(.string x15),(.int .i64 x16)])] false [.sc (.i .i64)] fun r17=>
 Br ((r17.1:Int) != 0) (
 R (r17.1,())) (
 L1 (s2.1,(w64 (s2.2.1 + 1)),()))) (
 R (0,()))) (0,0,())
theorem op_all_call (p_l:Sl) {R:TR [.sc (.i .i64)]→Pr} {w:World} (h:op_all p_l R w):Cl Pg 224 [(.slice p_l.p p_l.len p_l.cap)] false [.sc (.i .i64)] R w:=
 call_eq Tryz.checked.mixed (.seq .leaf (.seq (.seq .leaf (.block (.loop [(2,.sc (.i .i64)),(8,.sc (.i .i64))] (.seq .leaf (.seq (.cond .leaf .leaf) (.seq (.block (.seq .leaf (.seq .leaf (.seq .leaf (.cond (.seq .leaf .leaf) .leaf))))) .leaf)))))) (.seq .leaf .leaf))) Tryz.func224 (by kernel_rfl) (by kernel_rfl) h
def wire_ops_1 (p_o_0:Int) (p_o_1:ByteArray) (p_o_2:ByteArray) (p_o_3:ByteArray) (p_o_4:ByteArray) (p_o_5:Int) (R:TR [.sc .b]→Pr):Pr:=
 New #[(.int .i64 p_o_0),(.string p_o_1),(.string p_o_2),(.string p_o_3),(.string p_o_4),(.int .i64 p_o_5)] 81 fun a1=>
 LdI .i64 (a1.add 0) fun x2=>
 LdS (a1.add 1) fun x3=>
 LdS (a1.add 2) fun x4=>
 LdS (a1.add 3) fun x5=>
 LdS (a1.add 4) fun x6=>
 LdI .i64 (a1.add 5) fun x7=>
 Cl Pg 50 [(.agg #[(.int .i64 x2),(.string x3),(.string x4),(.string x5),(.string x6),(.int .i64 x7)])] false [.sc (.i .i64)] fun r8=>
 R (((r8.1:Int) != 0),())
theorem wire_ops_1_call (p_o_0:Int) (p_o_1:ByteArray) (p_o_2:ByteArray) (p_o_3:ByteArray) (p_o_4:ByteArray) (p_o_5:Int) {R:TR [.sc .b]→Pr} {w:World} (h:wire_ops_1 p_o_0 p_o_1 p_o_2 p_o_3 p_o_4 p_o_5 R w):Cl Pg 229 [(.agg #[(.int .i64 p_o_0),(.string p_o_1),(.string p_o_2),(.string p_o_3),(.string p_o_4),(.int .i64 p_o_5)])] false [.sc .b] R w:=
 call_eq Tryz.checked.mixed (.seq .leaf (.seq .leaf .leaf)) Tryz.func229 (by kernel_rfl) (by kernel_rfl) h
abbrev i_octet_Num:FuncId:=231
def octet_Num (p_n:Int) (R:TR [.sc .sl]→Pr):Pr:=
 Lp (σ:=Int × Sl × Unit) (fun L1 s2=>
 Br (decide ((s2.1:Int) ≥ 128)) (
 New #[(.int .u8 (ior .u8 (IntKind.u8.wrap (s2.1)) 128))] 5 fun a3=>
 App 5 1 1 (zc Pg 5) s2.2.1 1 (srcS (some a3) 1 1) fun r4=>
 Req ((0:Int)≤7) <|
 L1 ((ishr .u64 s2.1 7),r4,())) (
 New #[(.int .u8 (IntKind.u8.wrap (s2.1)))] 5 fun a5=>
 App 5 1 1 (zc Pg 5) s2.2.1 1 (srcS (some a5) 1 1) fun r6=>
 R (r6,()))) (p_n,⟨none,0,0⟩,())
theorem octet_Num_call (p_n:Int) {R:TR [.sc .sl]→Pr} {w:World} (h:octet_Num p_n R w):Cl Pg 231 [(.int .u64 p_n)] false [.sc .sl] R w:=
 call_eq Tryz.checked.mixed (.seq .leaf (.seq .leaf (.seq (.block (.loop [(0,.sc (.i .u64)),(3,.sc .sl)] (.seq (.seq .leaf (.cond .leaf .leaf)) (.block (.seq .leaf .leaf))))) (.seq .leaf .leaf)))) Tryz.func231 (by kernel_rfl) (by kernel_rfl) h
def wire_num_3 (p_m:Option Addr) (p_c0:Addr) (R:TR [.sc .b]→Pr):Pr:=
 LdV p_c0 fun x1=>
 CallV Pg x1 [(.pointer p_m)] false [.sc .p] fun r2=>
 Nn r2.1 fun a3=>
 LdI .u64 a3 fun x4=>
 R (((x4:Int) == 0),())
theorem wire_num_3_call (p_m:Option Addr) (p_c0:Addr) {R:TR [.sc .b]→Pr} {w:World} (h:wire_num_3 p_m p_c0 R w):Cl Pg 234 [(.pointer p_m),(.pointer (some p_c0))] false [.sc .b] R w:=
 call_eq Tryz.checked.mixed (.seq .leaf (.seq .leaf .leaf)) Tryz.func234 (by kernel_rfl) (by kernel_rfl) h
def wire_small_3 (p_m:Option Addr) (p_c0:Addr) (R:TR [.sc .b]→Pr):Pr:=
 LdV p_c0 fun x1=>
 CallV Pg x1 [(.pointer p_m)] false [.sc .p] fun r2=>
 Nn r2.1 fun a3=>
 LdI .i64 a3 fun x4=>
 R (((x4:Int) == 0),())
theorem wire_small_3_call (p_m:Option Addr) (p_c0:Addr) {R:TR [.sc .b]→Pr} {w:World} (h:wire_small_3 p_m p_c0 R w):Cl Pg 238 [(.pointer p_m),(.pointer (some p_c0))] false [.sc .b] R w:=
 call_eq Tryz.checked.mixed (.seq .leaf (.seq .leaf .leaf)) Tryz.func238 (by kernel_rfl) (by kernel_rfl) h
abbrev i_octet_Text:FuncId:=240
def octet_Text (p_s:ByteArray) (R:TR [.sc .sl]→Pr):Pr:=
 Cl Pg 231 [(.int .u64 (IntKind.u64.wrap (((p_s.size:Nat):Int))))] false [.sc .sl] fun r1=>
 App 5 1 1 (zc Pg 5) r1.1 p_s.size (srcB p_s p_s.size) fun r2=>
 R (r2,())
theorem octet_Text_call (p_s:ByteArray) {R:TR [.sc .sl]→Pr} {w:World} (h:octet_Text p_s R w):Cl Pg 240 [(.string p_s)] false [.sc .sl] R w:=
 call_eq Tryz.checked.mixed (.seq .leaf (.seq .leaf .leaf)) Tryz.func240 (by kernel_rfl) (by kernel_rfl) h
def wire_list_Op_3 (p_m:Option Addr) (p_c0:Addr) (R:TR [.sc .b]→Pr):Pr:=
 LdV p_c0 fun x1=>
 CallV Pg x1 [(.pointer p_m)] false [.sc .p] fun r2=>
 Nn r2.1 fun a3=>
 LdL a3 fun x4=>
 R (((((x4.len:Nat):Int):Int) == 0),())
theorem wire_list_Op_3_call (p_m:Option Addr) (p_c0:Addr) {R:TR [.sc .b]→Pr} {w:World} (h:wire_list_Op_3 p_m p_c0 R w):Cl Pg 245 [(.pointer p_m),(.pointer (some p_c0))] false [.sc .b] R w:=
 call_eq Tryz.checked.mixed (.seq .leaf (.seq .leaf .leaf)) Tryz.func245 (by kernel_rfl) (by kernel_rfl) h
def wire_list_Result_3 (p_m:Option Addr) (p_c0:Addr) (R:TR [.sc .b]→Pr):Pr:=
 LdV p_c0 fun x1=>
 CallV Pg x1 [(.pointer p_m)] false [.sc .p] fun r2=>
 Nn r2.1 fun a3=>
 LdL a3 fun x4=>
 R (((((x4.len:Nat):Int):Int) == 0),())
theorem wire_list_Result_3_call (p_m:Option Addr) (p_c0:Addr) {R:TR [.sc .b]→Pr} {w:World} (h:wire_list_Result_3 p_m p_c0 R w):Cl Pg 248 [(.pointer p_m),(.pointer (some p_c0))] false [.sc .b] R w:=
 call_eq Tryz.checked.mixed (.seq .leaf (.seq .leaf .leaf)) Tryz.func248 (by kernel_rfl) (by kernel_rfl) h
def wire_list_Owner_3 (p_m:Option Addr) (p_c0:Addr) (R:TR [.sc .b]→Pr):Pr:=
 LdV p_c0 fun x1=>
 CallV Pg x1 [(.pointer p_m)] false [.sc .p] fun r2=>
 Nn r2.1 fun a3=>
 LdL a3 fun x4=>
 R (((((x4.len:Nat):Int):Int) == 0),())
theorem wire_list_Owner_3_call (p_m:Option Addr) (p_c0:Addr) {R:TR [.sc .b]→Pr} {w:World} (h:wire_list_Owner_3 p_m p_c0 R w):Cl Pg 251 [(.pointer p_m),(.pointer (some p_c0))] false [.sc .b] R w:=
 call_eq Tryz.checked.mixed (.seq .leaf (.seq .leaf .leaf)) Tryz.func251 (by kernel_rfl) (by kernel_rfl) h
abbrev i_record_writer_nums:FuncId:=252
def record_writer_nums (p_w:Option Addr) (p_l:Sl) (R:TR []→Pr):Pr:=
 Cl Pg 285 [(.pointer p_w),(.slice p_l.p p_l.len p_l.cap),(.func (.func 258) #[(.pointer p_w)] #[])] true [] fun r1=>
 R ()
theorem record_writer_nums_call (p_w:Option Addr) (p_l:Sl) {R:TR []→Pr} {w:World} (h:record_writer_nums p_w p_l R w):Cl Pg 252 [(.pointer p_w),(.slice p_l.p p_l.len p_l.cap)] true [] R w:=
 call_eq Tryz.checked.mixed (.leaf) Tryz.func252 (by kernel_rfl) (by kernel_rfl) h
abbrev i_record_list_Owner:FuncId:=253
def record_list_Owner (p_w:Option Addr) (p_l:Sl) (p_one:Value) (R:TR []→Pr):Pr:=
 Cl Pg 286 [(.pointer p_w),(.int .i64 ((p_l.len:Nat):Int))] true [] fun r1=>
 Cl Pg 287 [(.pointer p_w),(.slice p_l.p p_l.len p_l.cap),p_one] true [] fun r2=>
 R ()
theorem record_list_Owner_call (p_w:Option Addr) (p_l:Sl) (p_one:Value) {R:TR []→Pr} {w:World} (h:record_list_Owner p_w p_l p_one R w):Cl Pg 253 [(.pointer p_w),(.slice p_l.p p_l.len p_l.cap),p_one] true [] R w:=
 call_eq Tryz.checked.mixed (.seq .leaf .leaf) Tryz.func253 (by kernel_rfl) (by kernel_rfl) h
abbrev i_record_writer_owner:FuncId:=254
def record_writer_owner (p_w:Option Addr) (p_o_0:ByteArray) (p_o_1:Int) (R:TR []→Pr):Pr:=
 New #[(.string p_o_0),(.int .i64 p_o_1)] 70 fun a1=>
 LdS (a1.add 0) fun x2=>
 Cl Pg 288 [(.pointer p_w),(.string x2)] true [] fun r3=>
 LdI .i64 (a1.add 1) fun x4=>
 Cl Pg 286 [(.pointer p_w),(.int .i64 x4)] true [] fun r5=>
 R ()
theorem record_writer_owner_call (p_w:Option Addr) (p_o_0:ByteArray) (p_o_1:Int) {R:TR []→Pr} {w:World} (h:record_writer_owner p_w p_o_0 p_o_1 R w):Cl Pg 254 [(.pointer p_w),(.agg #[(.string p_o_0),(.int .i64 p_o_1)])] true [] R w:=
 call_eq Tryz.checked.mixed (.seq .leaf (.seq .leaf .leaf)) Tryz.func254 (by kernel_rfl) (by kernel_rfl) h
abbrev i_record_list_Hold:FuncId:=255
def record_list_Hold (p_w:Option Addr) (p_l:Sl) (p_one:Value) (R:TR []→Pr):Pr:=
 Cl Pg 286 [(.pointer p_w),(.int .i64 ((p_l.len:Nat):Int))] true [] fun r1=>
 Cl Pg 289 [(.pointer p_w),(.slice p_l.p p_l.len p_l.cap),p_one] true [] fun r2=>
 R ()
theorem record_list_Hold_call (p_w:Option Addr) (p_l:Sl) (p_one:Value) {R:TR []→Pr} {w:World} (h:record_list_Hold p_w p_l p_one R w):Cl Pg 255 [(.pointer p_w),(.slice p_l.p p_l.len p_l.cap),p_one] true [] R w:=
 call_eq Tryz.checked.mixed (.seq .leaf .leaf) Tryz.func255 (by kernel_rfl) (by kernel_rfl) h
abbrev i_record_writer_hold:FuncId:=256
def record_writer_hold (p_w:Option Addr) (p_h_0:Int) (p_h_1:Sl) (R:TR []→Pr):Pr:=
 New #[(.int .u64 p_h_0),(.slice p_h_1.p p_h_1.len p_h_1.cap)] 60 fun a1=>
 LdI .u64 (a1.add 0) fun x2=>
 Cl Pg 258 [(.pointer p_w),(.int .u64 x2)] true [] fun r3=>
 LdL (a1.add 1) fun x4=>
 Cl Pg 290 [(.pointer p_w),(.slice x4.p x4.len x4.cap),(.func (.func 291) #[(.pointer p_w)] #[])] true [] fun r5=>
 R ()
theorem record_writer_hold_call (p_w:Option Addr) (p_h_0:Int) (p_h_1:Sl) {R:TR []→Pr} {w:World} (h:record_writer_hold p_w p_h_0 p_h_1 R w):Cl Pg 256 [(.pointer p_w),(.agg #[(.int .u64 p_h_0),(.slice p_h_1.p p_h_1.len p_h_1.cap)])] true [] R w:=
 call_eq Tryz.checked.mixed (.seq .leaf (.seq .leaf .leaf)) Tryz.func256 (by kernel_rfl) (by kernel_rfl) h
abbrev i_record_list_uint64:FuncId:=257
def record_list_uint64 (p_w:Option Addr) (p_l:Sl) (p_one:Value) (R:TR []→Pr):Pr:=
 Cl Pg 286 [(.pointer p_w),(.int .i64 ((p_l.len:Nat):Int))] true [] fun r1=>
 Cl Pg 285 [(.pointer p_w),(.slice p_l.p p_l.len p_l.cap),p_one] true [] fun r2=>
 R ()
theorem record_list_uint64_call (p_w:Option Addr) (p_l:Sl) (p_one:Value) {R:TR []→Pr} {w:World} (h:record_list_uint64 p_w p_l p_one R w):Cl Pg 257 [(.pointer p_w),(.slice p_l.p p_l.len p_l.cap),p_one] true [] R w:=
 call_eq Tryz.checked.mixed (.seq .leaf .leaf) Tryz.func257 (by kernel_rfl) (by kernel_rfl) h
abbrev i_record_writer_num:FuncId:=258
def record_writer_num (p_w:Option Addr) (p_n:Int) (R:TR []→Pr):Pr:=
 Dr <|
 Nn p_w fun a1=>
 LdL (a1.add 0) fun x2=>
 Cl Pg 231 [(.int .u64 p_n)] false [.sc .sl] fun r3=>
 Both (LdL (a1.add 0) fun x4=>
 fun _=>((.slice x4.p x4.len x4.cap):Value)=(.slice x2.p x2.len x2.cap)) <|
 App 5 1 1 (zc Pg 5) x2 r3.1.len (srcS r3.1.p r3.1.len 1) fun r5=>
 Nn p_w fun a6=>
 St (a6.add 0) (.slice r5.p r5.len r5.cap) <|
 R ()
theorem record_writer_num_call (p_w:Option Addr) (p_n:Int) {R:TR []→Pr} {w:World} (h:record_writer_num p_w p_n R w):Cl Pg 258 [(.pointer p_w),(.int .u64 p_n)] true [] R w:=
 call_eq Tryz.checked.mixed (.leaf) Tryz.func258 (by kernel_rfl) (by kernel_rfl) h
abbrev i_record_writer_span:FuncId:=259
def record_writer_span (p_w:Option Addr) (p_r_0:ByteArray) (p_r_1:ByteArray) (R:TR []→Pr):Pr:=
 New #[(.string p_r_0),(.string p_r_1)] 37 fun a1=>
 LdS (a1.add 0) fun x2=>
 Cl Pg 288 [(.pointer p_w),(.string x2)] true [] fun r3=>
 LdS (a1.add 1) fun x4=>
 Cl Pg 288 [(.pointer p_w),(.string x4)] true [] fun r5=>
 R ()
theorem record_writer_span_call (p_w:Option Addr) (p_r_0:ByteArray) (p_r_1:ByteArray) {R:TR []→Pr} {w:World} (h:record_writer_span p_w p_r_0 p_r_1 R w):Cl Pg 259 [(.pointer p_w),(.agg #[(.string p_r_0),(.string p_r_1)])] true [] R w:=
 call_eq Tryz.checked.mixed (.seq .leaf (.seq .leaf .leaf)) Tryz.func259 (by kernel_rfl) (by kernel_rfl) h
abbrev i_slices_siftDownOrdered_uint64:FuncId:=260
def slices_siftDownOrdered_uint64 (p_data:Sl) (p_lo:Int) (p_hi:Int) (p_first:Int) (R:TR []→Pr):Pr:=
 Lp (σ:=Int × Unit) (fun L1 s2=>
 Br (decide (((w64 ((w64 (2 * s2.1)) + 1)):Int) ≥ p_hi)) (
 R ()) (
 Jp (σ:=Int × Unit) (fun s4=>
 Dr <|
 Ix p_data (w64 (p_first + s2.1)) 1 fun a5=>
 LdI .u64 a5 fun x6=>
 Ix p_data (w64 (p_first + s4.1)) 1 fun a7=>
 LdI .u64 a7 fun x8=>
 Cl Pg 194 [(.int .u64 x6),(.int .u64 x8)] false [.sc .b] fun r9=>
 Br (!r9.1) (
 R ()) (
 Dr <|
 Ix p_data (w64 (p_first + s4.1)) 1 fun a10=>
 LdI .u64 a10 fun x11=>
 Ix p_data (w64 (p_first + s2.1)) 1 fun a12=>
 LdI .u64 a12 fun x13=>
 Ix p_data (w64 (p_first + s2.1)) 1 fun a14=>
 St a14 (.int .u64 x11) <|
 Ix p_data (w64 (p_first + s4.1)) 1 fun a15=>
 St a15 (.int .u64 x13) <|
 L1 (s4.1,()))) fun J3=>
 Jp (σ:=Bool × Unit) (fun s17=>
 Br s17.1 (
 J3 ((w64 ((w64 ((w64 (2 * s2.1)) + 1)) + 1)),())) (
 J3 ((w64 ((w64 (2 * s2.1)) + 1)),()))) fun J16=>
 Dr <|
 Br (decide (((w64 ((w64 ((w64 (2 * s2.1)) + 1)) + 1)):Int) < p_hi)) (
 Ix p_data (w64 (p_first + (w64 ((w64 (2 * s2.1)) + 1)))) 1 fun a18=>
 LdI .u64 a18 fun x19=>
 Ix p_data (w64 ((w64 (p_first + (w64 ((w64 (2 * s2.1)) + 1)))) + 1)) 1 fun a20=>
 LdI .u64 a20 fun x21=>
 Cl Pg 194 [(.int .u64 x19),(.int .u64 x21)] false [.sc .b] fun r22=>
 J16 (r22.1,())) (
 J16 (false,())))) (p_lo,())
theorem slices_siftDownOrdered_uint64_call (p_data:Sl) (p_lo:Int) (p_hi:Int) (p_first:Int) {R:TR []→Pr} {w:World} (h:slices_siftDownOrdered_uint64 p_data p_lo p_hi p_first R w):Cl Pg 260 [(.slice p_data.p p_data.len p_data.cap),(.int .i64 p_lo),(.int .i64 p_hi),(.int .i64 p_first)] true [] R w:=
 call_eq Tryz.checked.mixed (.seq .leaf (.block (.loop [(8,.sc (.i .i64))] (.block (.seq .leaf (.seq (.seq .leaf (.cond .leaf .leaf)) (.seq (.join [(9,.sc (.i .i64))] (.seq (.join [(36,.sc .b)] .leaf) (.cond .leaf .leaf))) (.seq (.seq .leaf (.cond .leaf .leaf)) (.seq .leaf .leaf))))))))) Tryz.func260 (by kernel_rfl) (by kernel_rfl) h
abbrev i_slices_nextPowerOfTwo:FuncId:=261
def slices_nextPowerOfTwo (p_length:Int) (R:TR [.sc (.i .u64)]→Pr):Pr:=
 Cl Pg 88 [(.int .u64 (IntKind.u64.wrap (p_length)))] false [.sc (.i .i64)] fun r1=>
 Req ((0:Int)≤r1.1) <|
 R ((ishl .u64 1 r1.1),())
theorem slices_nextPowerOfTwo_call (p_length:Int) {R:TR [.sc (.i .u64)]→Pr} {w:World} (h:slices_nextPowerOfTwo p_length R w):Cl Pg 261 [(.int .i64 p_length)] false [.sc (.i .u64)] R w:=
 call_eq Tryz.checked.mixed (.seq .leaf (.seq .leaf .leaf)) Tryz.func261 (by kernel_rfl) (by kernel_rfl) h
abbrev i_slices_xorshift_Next:FuncId:=262
def slices_xorshift_Next (p_r:Option Addr) (R:TR [.sc (.i .u64)]→Pr):Pr:=
 Dr <|
 Nn p_r fun a1=>
 LdI .u64 a1 fun x2=>
 Nn p_r fun a3=>
 LdI .u64 a3 fun x4=>
 Req ((0:Int)≤13) <|
 Nn p_r fun a5=>
 St a5 (.int .u64 (ixor .u64 x2 (ishl .u64 x4 13))) <|
 Dr <|
 Nn p_r fun a6=>
 LdI .u64 a6 fun x7=>
 Nn p_r fun a8=>
 LdI .u64 a8 fun x9=>
 Req ((0:Int)≤7) <|
 Nn p_r fun a10=>
 St a10 (.int .u64 (ixor .u64 x7 (ishr .u64 x9 7))) <|
 Dr <|
 Nn p_r fun a11=>
 LdI .u64 a11 fun x12=>
 Nn p_r fun a13=>
 LdI .u64 a13 fun x14=>
 Req ((0:Int)≤17) <|
 Nn p_r fun a15=>
 St a15 (.int .u64 (ixor .u64 x12 (ishl .u64 x14 17))) <|
 Nn p_r fun a16=>
 LdI .u64 a16 fun x17=>
 R (x17,())
theorem slices_xorshift_Next_call (p_r:Option Addr) {R:TR [.sc (.i .u64)]→Pr} {w:World} (h:slices_xorshift_Next p_r R w):Cl Pg 262 [(.pointer p_r)] false [.sc (.i .u64)] R w:=
 call_eq Tryz.checked.mixed (.seq .leaf (.seq .leaf (.seq .leaf (.seq .leaf (.seq .leaf .leaf))))) Tryz.func262 (by kernel_rfl) (by kernel_rfl) h
abbrev i_slices_medianAdjacentOrdered_uint64:FuncId:=263
def slices_medianAdjacentOrdered_uint64 (p_data:Sl) (p_a:Int) (p_swaps:Option Addr) (R:TR [.sc (.i .i64)]→Pr):Pr:=
 Cl Pg 264 [(.slice p_data.p p_data.len p_data.cap),(.int .i64 (w64 (p_a - 1))),(.int .i64 p_a),(.int .i64 (w64 (p_a + 1))),(.pointer p_swaps)] false [.sc (.i .i64)] fun r1=>
 R (r1.1,())
theorem slices_medianAdjacentOrdered_uint64_call (p_data:Sl) (p_a:Int) (p_swaps:Option Addr) {R:TR [.sc (.i .i64)]→Pr} {w:World} (h:slices_medianAdjacentOrdered_uint64 p_data p_a p_swaps R w):Cl Pg 263 [(.slice p_data.p p_data.len p_data.cap),(.int .i64 p_a),(.pointer p_swaps)] false [.sc (.i .i64)] R w:=
 call_eq Tryz.checked.mixed (.seq .leaf (.seq .leaf .leaf)) Tryz.func263 (by kernel_rfl) (by kernel_rfl) h
end Go.Proofs.YthkdehgfdllpoaaGreat
set_option linter.unusedVariables false
namespace Go.Proofs.YthkdehgfdllpoaaGreat
open Go Go.Sx
abbrev i_slices_medianOrdered_uint64:FuncId:=264
def slices_medianOrdered_uint64 (p_data:Sl) (p_a:Int) (p_b:Int) (p_c:Int) (p_swaps:Option Addr) (R:TR [.sc (.i .i64)]→Pr):Pr:=
 Cl Pg 292 [(.slice p_data.p p_data.len p_data.cap),(.int .i64 p_a),(.int .i64 p_b),(.pointer p_swaps)] true [.sc (.i .i64),.sc (.i .i64)] fun r1=>
 Cl Pg 292 [(.slice p_data.p p_data.len p_data.cap),(.int .i64 r1.2.1),(.int .i64 p_c),(.pointer p_swaps)] true [.sc (.i .i64),.sc (.i .i64)] fun r2=>
 Cl Pg 292 [(.slice p_data.p p_data.len p_data.cap),(.int .i64 r1.1),(.int .i64 r2.1),(.pointer p_swaps)] true [.sc (.i .i64),.sc (.i .i64)] fun r3=>
 R (r3.2.1,())
theorem slices_medianOrdered_uint64_call (p_data:Sl) (p_a:Int) (p_b:Int) (p_c:Int) (p_swaps:Option Addr) {R:TR [.sc (.i .i64)]→Pr} {w:World} (h:slices_medianOrdered_uint64 p_data p_a p_b p_c p_swaps R w):Cl Pg 264 [(.slice p_data.p p_data.len p_data.cap),(.int .i64 p_a),(.int .i64 p_b),(.int .i64 p_c),(.pointer p_swaps)] false [.sc (.i .i64)] R w:=
 call_eq Tryz.checked.mixed (.seq .leaf (.seq .leaf (.seq .leaf (.seq .leaf (.seq .leaf .leaf))))) Tryz.func264 (by kernel_rfl) (by kernel_rfl) h
abbrev i_op_get:FuncId:=265
def op_get (p_m:Sl) (p_o_0:Int) (p_o_1:ByteArray) (p_o_2:ByteArray) (p_o_3:ByteArray) (p_o_4:ByteArray) (p_o_5:Int) (R:TR [.sc .sl,.ag [.b,.s,.sl]]→Pr):Pr:=
 New #[(.int .i64 p_o_0),(.string p_o_1),(.string p_o_2),(.string p_o_3),(.string p_o_4),(.int .i64 p_o_5)] 81 fun a1=>
 New #[(.bool false),(.string (BA [])),(.slice none 0 0)] 83 fun a2=>
 LdS (a1.add 1) fun x3=>
 Cl Pg 293 [(.slice p_m.p p_m.len p_m.cap),(.string x3)] true [.sc (.i .i64),.sc .b] fun r4=>
 Br (!r4.2.1) (
 St (a2.add 0) (.bool false) <|
 St (a2.add 1) (.string (BA [])) <|
 St (a2.add 2) (.slice none 0 0) <|
 LdB (a2.add 0) fun x5=>
 LdS (a2.add 1) fun x6=>
 LdL (a2.add 2) fun x7=>
 R (p_m,(x5,x6,x7,()),())) (
 Dr <|
 Ix p_m r4.1 2 fun a8=>
 LdS (a8.add 1) fun x9=>
 St (a2.add 0) (.bool true) <|
 St (a2.add 1) (.string x9) <|
 St (a2.add 2) (.slice none 0 0) <|
 LdB (a2.add 0) fun x10=>
 LdS (a2.add 1) fun x11=>
 LdL (a2.add 2) fun x12=>
 R (p_m,(x10,x11,x12,()),()))
theorem op_get_call (p_m:Sl) (p_o_0:Int) (p_o_1:ByteArray) (p_o_2:ByteArray) (p_o_3:ByteArray) (p_o_4:ByteArray) (p_o_5:Int) {R:TR [.sc .sl,.ag [.b,.s,.sl]]→Pr} {w:World} (h:op_get p_m p_o_0 p_o_1 p_o_2 p_o_3 p_o_4 p_o_5 R w):Cl Pg 265 [(.slice p_m.p p_m.len p_m.cap),(.agg #[(.int .i64 p_o_0),(.string p_o_1),(.string p_o_2),(.string p_o_3),(.string p_o_4),(.int .i64 p_o_5)])] true [.sc .sl,.ag [.b,.s,.sl]] R w:=
 call_eq Tryz.checked.mixed (.seq .leaf (.seq .leaf (.seq (.seq .leaf (.cond (.seq .leaf .leaf) .leaf)) (.seq .leaf .leaf)))) Tryz.func265 (by kernel_rfl) (by kernel_rfl) h
abbrev i_op_put:FuncId:=266
def op_put (p_m:Sl) (p_o_0:Int) (p_o_1:ByteArray) (p_o_2:ByteArray) (p_o_3:ByteArray) (p_o_4:ByteArray) (p_o_5:Int) (R:TR [.sc .sl,.ag [.b,.s,.sl]]→Pr):Pr:=
 New #[(.int .i64 p_o_0),(.string p_o_1),(.string p_o_2),(.string p_o_3),(.string p_o_4),(.int .i64 p_o_5)] 81 fun a1=>
 New #[(.bool false),(.string (BA [])),(.slice none 0 0)] 83 fun a2=>
 LdS (a1.add 1) fun x3=>
 Cl Pg 293 [(.slice p_m.p p_m.len p_m.cap),(.string x3)] true [.sc (.i .i64),.sc .b] fun r4=>
 Br (!r4.2.1) (
 LdS (a1.add 1) fun x5=>
 LdS (a1.add 2) fun x6=>
 New #[(.string x5),(.string x6)] 111 fun a7=>
 Cl Pg 294 [(.slice p_m.p p_m.len p_m.cap),(.int .i64 r4.1),(.slice (some a7) 1 1)] false [.sc .sl] fun r8=>
 St (a2.add 0) (.bool false) <|
 St (a2.add 1) (.string (BA [])) <|
 St (a2.add 2) (.slice none 0 0) <|
 LdB (a2.add 0) fun x9=>
 LdS (a2.add 1) fun x10=>
 LdL (a2.add 2) fun x11=>
 R (r8.1,(x9,x10,x11,()),())) (
 LdS (a1.add 2) fun x12=>
 Ix p_m r4.1 2 fun a13=>
 St (a13.add 1) (.string x12) <|
 St (a2.add 0) (.bool false) <|
 St (a2.add 1) (.string (BA [])) <|
 St (a2.add 2) (.slice none 0 0) <|
 LdB (a2.add 0) fun x14=>
 LdS (a2.add 1) fun x15=>
 LdL (a2.add 2) fun x16=>
 R (p_m,(x14,x15,x16,()),()))
theorem op_put_call (p_m:Sl) (p_o_0:Int) (p_o_1:ByteArray) (p_o_2:ByteArray) (p_o_3:ByteArray) (p_o_4:ByteArray) (p_o_5:Int) {R:TR [.sc .sl,.ag [.b,.s,.sl]]→Pr} {w:World} (h:op_put p_m p_o_0 p_o_1 p_o_2 p_o_3 p_o_4 p_o_5 R w):Cl Pg 266 [(.slice p_m.p p_m.len p_m.cap),(.agg #[(.int .i64 p_o_0),(.string p_o_1),(.string p_o_2),(.string p_o_3),(.string p_o_4),(.int .i64 p_o_5)])] true [.sc .sl,.ag [.b,.s,.sl]] R w:=
 call_eq Tryz.checked.mixed (.seq .leaf (.seq .leaf (.seq (.seq .leaf (.cond (.seq .leaf .leaf) .leaf)) (.seq .leaf (.seq .leaf .leaf))))) Tryz.func266 (by kernel_rfl) (by kernel_rfl) h
abbrev i_op_del:FuncId:=267
def op_del (p_m:Sl) (p_o_0:Int) (p_o_1:ByteArray) (p_o_2:ByteArray) (p_o_3:ByteArray) (p_o_4:ByteArray) (p_o_5:Int) (R:TR [.sc .sl,.ag [.b,.s,.sl]]→Pr):Pr:=
 New #[(.int .i64 p_o_0),(.string p_o_1),(.string p_o_2),(.string p_o_3),(.string p_o_4),(.int .i64 p_o_5)] 81 fun a1=>
 New #[(.bool false),(.string (BA [])),(.slice none 0 0)] 83 fun a2=>
 Jp (σ:=Sl × Unit) (fun s4=>
 St (a2.add 0) (.bool false) <|
 St (a2.add 1) (.string (BA [])) <|
 St (a2.add 2) (.slice none 0 0) <|
 LdB (a2.add 0) fun x5=>
 LdS (a2.add 1) fun x6=>
 LdL (a2.add 2) fun x7=>
 R (s4.1,(x5,x6,x7,()),())) fun J3=>
 LdS (a1.add 1) fun x8=>
 Cl Pg 293 [(.slice p_m.p p_m.len p_m.cap),(.string x8)] true [.sc (.i .i64),.sc .b] fun r9=>
 Br r9.2.1 (
 Cl Pg 295 [(.slice p_m.p p_m.len p_m.cap),(.int .i64 r9.1),(.int .i64 (w64 (r9.1 + 1)))] false [.sc .sl] fun r10=>
 J3 (r10.1,())) (
 J3 (p_m,()))
theorem op_del_call (p_m:Sl) (p_o_0:Int) (p_o_1:ByteArray) (p_o_2:ByteArray) (p_o_3:ByteArray) (p_o_4:ByteArray) (p_o_5:Int) {R:TR [.sc .sl,.ag [.b,.s,.sl]]→Pr} {w:World} (h:op_del p_m p_o_0 p_o_1 p_o_2 p_o_3 p_o_4 p_o_5 R w):Cl Pg 267 [(.slice p_m.p p_m.len p_m.cap),(.agg #[(.int .i64 p_o_0),(.string p_o_1),(.string p_o_2),(.string p_o_3),(.string p_o_4),(.int .i64 p_o_5)])] true [.sc .sl,.ag [.b,.s,.sl]] R w:=
 call_eq Tryz.checked.mixed (.seq .leaf (.seq (.join [(0,.sc .sl)] (.seq .leaf (.seq .leaf (.cond .leaf .leaf)))) (.seq .leaf .leaf))) Tryz.func267 (by kernel_rfl) (by kernel_rfl) h
abbrev i_op_scan:FuncId:=268
def op_scan (p_m:Sl) (p_o_0:Int) (p_o_1:ByteArray) (p_o_2:ByteArray) (p_o_3:ByteArray) (p_o_4:ByteArray) (p_o_5:Int) (R:TR [.sc .sl,.ag [.b,.s,.sl]]→Pr):Pr:=
 New #[(.int .i64 p_o_0),(.string p_o_1),(.string p_o_2),(.string p_o_3),(.string p_o_4),(.int .i64 p_o_5)] 81 fun a1=>
 New #[(.bool false),(.string (BA [])),(.slice none 0 0)] 83 fun a2=>
 LdI .i64 (a1.add 0) fun x3=>
 LdS (a1.add 1) fun x4=>
 LdS (a1.add 2) fun x5=>
 LdS (a1.add 3) fun x6=>
 LdS (a1.add 4) fun x7=>
 LdI .i64 (a1.add 5) fun x8=>
 Cl Pg 98 [(.agg #[(.int .i64 x3),(.string x4),(.string x5),(.string x6),(.string x7),(.int .i64 x8)])] false [.ag [.s,.s]] fun r9=>
 Cl Pg 296 [(.slice p_m.p p_m.len p_m.cap),(.agg #[(.string r9.1.1),(.string r9.1.2.1)])] true [.sc (.i .i64),.sc (.i .i64)] fun r10=>
 LdI .i64 (a1.add 5) fun x11=>
 Req ((0:Int)≤(if ((w64 (r10.1 + x11)):Int) < r10.2.1 then (w64 (r10.1 + x11)) else r10.2.1)∧(if ((w64 (r10.1 + x11)):Int) < r10.2.1 then (w64 (r10.1 + x11)) else r10.2.1)≤((p_m.cap:Nat):Int)) <|
 Req ((0:Int)≤r10.1∧r10.1≤(((Int.toNat (if ((w64 (r10.1 + x11)):Int) < r10.2.1 then (w64 (r10.1 + x11)) else r10.2.1)):Nat):Int)) <|
 Cl Pg 272 [(.slice (slOff p_m.p p_m.cap (Int.toNat r10.1) 2) ((Int.toNat (if ((w64 (r10.1 + x11)):Int) < r10.2.1 then (w64 (r10.1 + x11)) else r10.2.1)) - (Int.toNat r10.1)) (p_m.cap - (Int.toNat r10.1)))] false [.sc .sl] fun r12=>
 St (a2.add 0) (.bool false) <|
 St (a2.add 1) (.string (BA [])) <|
 St (a2.add 2) (.slice r12.1.p r12.1.len r12.1.cap) <|
 LdB (a2.add 0) fun x13=>
 LdS (a2.add 1) fun x14=>
 LdL (a2.add 2) fun x15=>
 R (p_m,(x13,x14,x15,()),())
theorem op_scan_call (p_m:Sl) (p_o_0:Int) (p_o_1:ByteArray) (p_o_2:ByteArray) (p_o_3:ByteArray) (p_o_4:ByteArray) (p_o_5:Int) {R:TR [.sc .sl,.ag [.b,.s,.sl]]→Pr} {w:World} (h:op_scan p_m p_o_0 p_o_1 p_o_2 p_o_3 p_o_4 p_o_5 R w):Cl Pg 268 [(.slice p_m.p p_m.len p_m.cap),(.agg #[(.int .i64 p_o_0),(.string p_o_1),(.string p_o_2),(.string p_o_3),(.string p_o_4),(.int .i64 p_o_5)])] true [.sc .sl,.ag [.b,.s,.sl]] R w:=
 call_eq Tryz.checked.mixed (.seq .leaf (.seq .leaf (.seq .leaf .leaf))) Tryz.func268 (by kernel_rfl) (by kernel_rfl) h
abbrev i_op_clear:FuncId:=269
def op_clear (p_m:Sl) (p_o_0:Int) (p_o_1:ByteArray) (p_o_2:ByteArray) (p_o_3:ByteArray) (p_o_4:ByteArray) (p_o_5:Int) (R:TR [.sc .sl,.ag [.b,.s,.sl]]→Pr):Pr:=
 New #[(.int .i64 p_o_0),(.string p_o_1),(.string p_o_2),(.string p_o_3),(.string p_o_4),(.int .i64 p_o_5)] 81 fun a1=>
 New #[(.bool false),(.string (BA [])),(.slice none 0 0)] 83 fun a2=>
 LdI .i64 (a1.add 0) fun x3=>
 LdS (a1.add 1) fun x4=>
 LdS (a1.add 2) fun x5=>
 LdS (a1.add 3) fun x6=>
 LdS (a1.add 4) fun x7=>
 LdI .i64 (a1.add 5) fun x8=>
 Cl Pg 98 [(.agg #[(.int .i64 x3),(.string x4),(.string x5),(.string x6),(.string x7),(.int .i64 x8)])] false [.ag [.s,.s]] fun r9=>
 Cl Pg 296 [(.slice p_m.p p_m.len p_m.cap),(.agg #[(.string r9.1.1),(.string r9.1.2.1)])] true [.sc (.i .i64),.sc (.i .i64)] fun r10=>
 Cl Pg 295 [(.slice p_m.p p_m.len p_m.cap),(.int .i64 r10.1),(.int .i64 r10.2.1)] false [.sc .sl] fun r11=>
 St (a2.add 0) (.bool false) <|
 St (a2.add 1) (.string (BA [])) <|
 St (a2.add 2) (.slice none 0 0) <|
 LdB (a2.add 0) fun x12=>
 LdS (a2.add 1) fun x13=>
 LdL (a2.add 2) fun x14=>
 R (r11.1,(x12,x13,x14,()),())
theorem op_clear_call (p_m:Sl) (p_o_0:Int) (p_o_1:ByteArray) (p_o_2:ByteArray) (p_o_3:ByteArray) (p_o_4:ByteArray) (p_o_5:Int) {R:TR [.sc .sl,.ag [.b,.s,.sl]]→Pr} {w:World} (h:op_clear p_m p_o_0 p_o_1 p_o_2 p_o_3 p_o_4 p_o_5 R w):Cl Pg 269 [(.slice p_m.p p_m.len p_m.cap),(.agg #[(.int .i64 p_o_0),(.string p_o_1),(.string p_o_2),(.string p_o_3),(.string p_o_4),(.int .i64 p_o_5)])] true [.sc .sl,.ag [.b,.s,.sl]] R w:=
 call_eq Tryz.checked.mixed (.seq .leaf (.seq .leaf (.seq .leaf .leaf))) Tryz.func269 (by kernel_rfl) (by kernel_rfl) h
abbrev i_op_CheckMap:FuncId:=271
def op_CheckMap (p_m:Sl) (R:TR [.sc (.i .i64)]→Pr):Pr:=
 Lp (σ:=Int × ByteArray × Int × Unit) (fun L1 s2=>
 Br (decide ((s2.2.2.1:Int) < ((p_m.len:Nat):Int))) (
 Ix p_m s2.2.2.1 2 fun a3=>
 LdS (a3.add 0) fun x4=>
 LdS (a3.add 1) fun x5=>
 New #[(.string (BA [])),(.string (BA []))] 111 fun a6=>
 St (a6.add 0) (.string x4) <|
 St (a6.add 1) (.string x5) <|
 LdS (a6.add 0) fun x7=>
 Cl Pg 93 [(.string x7)] false [.sc (.i .i64)] fun r8=>
 Br ((r8.1:Int) != 0) (
 R (20,())) (
 LdS (a6.add 1) fun x9=>
 Br (decide ((((x9.size:Nat):Int):Int) > 16)) (
 R (2,())) (
 LdS (a6.add 0) fun x10=>
 Br (slt x10 s2.2.1 || seq x10 s2.2.1) (
 R (1,())) (
 LdS (a6.add 0) fun x11=>
 L1 (s2.1,x11,(w64 (s2.2.2.1 + 1)),()))))) (
 R (0,()))) (0,(BA []),0,())
theorem op_CheckMap_call (p_m:Sl) {R:TR [.sc (.i .i64)]→Pr} {w:World} (h:op_CheckMap p_m R w):Cl Pg 271 [(.slice p_m.p p_m.len p_m.cap)] false [.sc (.i .i64)] R w:=
 call_eq Tryz.checked.mixed (.seq .leaf (.seq .leaf (.seq (.seq .leaf (.block (.loop [(2,.sc (.i .i64)),(3,.sc .s),(8,.sc (.i .i64))] (.seq .leaf (.seq (.cond .leaf .leaf) (.seq (.block (.seq .leaf (.seq (.block (.seq .leaf (.cond (.seq .leaf .leaf) (.seq .leaf (.cond (.seq .leaf .leaf) (.seq .leaf (.cond (.seq .leaf .leaf) .leaf))))))) .leaf))) .leaf)))))) (.seq .leaf .leaf)))) Tryz.func271 (by kernel_rfl) (by kernel_rfl) h
abbrev i_slices_Clone_Pair:FuncId:=272
theorem slices_Clone_Pair_call (p_s:Sl) {R:TR [.sc .sl]→Pr} {w:World} (h:Clone_tx 111 2 32 (zc Pg 111) p_s R w):Cl Pg 272 [(.slice p_s.p p_s.len p_s.cap)] false [.sc .sl] R w:=
 call_eq Tryz.checked.mixed (.seq .leaf (.seq (.seq .leaf (.cond (.seq .leaf .leaf) .leaf)) (.seq .leaf .leaf))) Tryz.func272 (by kernel_rfl) (by kernel_rfl) h
def part_touches_1 (p_o_0:Int) (p_o_1:ByteArray) (p_o_2:ByteArray) (p_o_3:ByteArray) (p_o_4:ByteArray) (p_o_5:Int) (p_c0:Addr) (R:TR [.sc .b]→Pr):Pr:=
 New #[(.int .i64 p_o_0),(.string p_o_1),(.string p_o_2),(.string p_o_3),(.string p_o_4),(.int .i64 p_o_5)] 81 fun a1=>
 LdI .i64 (a1.add 0) fun x2=>
 LdS (a1.add 1) fun x3=>
 LdS (a1.add 2) fun x4=>
 LdS (a1.add 3) fun x5=>
 LdS (a1.add 4) fun x6=>
 LdI .i64 (a1.add 5) fun x7=>
 Cl Pg 61 [(.agg #[(.int .i64 x2),(.string x3),(.string x4),(.string x5),(.string x6),(.int .i64 x7)])] true [.ag [.s,.s],.sc (.i .i64)] fun r8=>
 New #[(.string (BA [])),(.string (BA []))] 37 fun a9=>
 St (a9.add 0) (.string r8.1.1) <|
 St (a9.add 1) (.string r8.1.2.1) <|
 LdS (a9.add 0) fun x10=>
 LdS (a9.add 1) fun x11=>
 LdS (p_c0.add 0) fun x12=>
 LdS (p_c0.add 1) fun x13=>
 Cl Pg 105 [(.agg #[(.string x10),(.string x11)]),(.agg #[(.string x12),(.string x13)])] true [.ag [.s,.s],.sc .b] fun r14=>
 New #[(.string (BA [])),(.string (BA []))] 37 fun a15=>
 St (a15.add 0) (.string r14.1.1) <|
 St (a15.add 1) (.string r14.1.2.1) <|
 Br ((r8.2.1:Int) == 0) (
 R (r14.2.1,())) (
 R (false,()))
theorem part_touches_1_call (p_o_0:Int) (p_o_1:ByteArray) (p_o_2:ByteArray) (p_o_3:ByteArray) (p_o_4:ByteArray) (p_o_5:Int) (p_c0:Addr) {R:TR [.sc .b]→Pr} {w:World} (h:part_touches_1 p_o_0 p_o_1 p_o_2 p_o_3 p_o_4 p_o_5 p_c0 R w):Cl Pg 273 [(.agg #[(.int .i64 p_o_0),(.string p_o_1),(.string p_o_2),(.string p_o_3),(.string p_o_4),(.int .i64 p_o_5)]),(.pointer (some p_c0))] false [.sc .b] R w:=
 call_eq Tryz.checked.mixed (.seq .leaf (.seq .leaf (.seq .leaf (.seq .leaf .leaf)))) Tryz.func273 (by kernel_rfl) (by kernel_rfl) h
abbrev i_locks_Table_Release:FuncId:=277
def locks_Table_Release (p_t:Option Addr) (p_txn:Int) (R:TR [.sc .sl,.sc .sl]→Pr):Pr:=
 Cl Pg 109 [(.pointer p_t),(.int .u64 p_txn)] true [] fun r1=>
 Cl Pg 67 [(.pointer p_t),(.slice none 0 0)] true [.sc .sl,.sc .sl] fun r2=>
 R (r2.1,r2.2.1,())
theorem locks_Table_Release_call (p_t:Option Addr) (p_txn:Int) {R:TR [.sc .sl,.sc .sl]→Pr} {w:World} (h:locks_Table_Release p_t p_txn R w):Cl Pg 277 [(.pointer p_t),(.int .u64 p_txn)] true [.sc .sl,.sc .sl] R w:=
 call_eq Tryz.checked.mixed (.seq .leaf (.seq .leaf (.seq .leaf .leaf))) Tryz.func277 (by kernel_rfl) (by kernel_rfl) h
abbrev i_slices_isNaN_uint64:FuncId:=278
def slices_isNaN_uint64 (p_x:Int) (R:TR [.sc .b]→Pr):Pr:=
 R (((p_x:Int) != p_x),())
theorem slices_isNaN_uint64_call (p_x:Int) {R:TR [.sc .b]→Pr} {w:World} (h:slices_isNaN_uint64 p_x R w):Cl Pg 278 [(.int .u64 p_x)] false [.sc .b] R w:=
 call_eq Tryz.checked.mixed (.seq .leaf (.seq .leaf .leaf)) Tryz.func278 (by kernel_rfl) (by kernel_rfl) h
abbrev i_record_rows_uint64:FuncId:=285
def record_rows_uint64 (p_w:Option Addr) (p_l:Sl) (p_one:Value) (R:TR []→Pr):Pr:=
 Lp (σ:=Int × Unit) (fun L1 s2=>
 Br (decide ((s2.1:Int) < ((p_l.len:Nat):Int))) (
 Ix p_l s2.1 1 fun a3=>
 LdI .u64 a3 fun x4=>
 CallV Pg p_one [(.int .u64 x4)] true [] fun r5=>
 L1 ((w64 (s2.1 + 1)),())) (
 R ())) (0,())
theorem record_rows_uint64_call (p_w:Option Addr) (p_l:Sl) (p_one:Value) {R:TR []→Pr} {w:World} (h:record_rows_uint64 p_w p_l p_one R w):Cl Pg 285 [(.pointer p_w),(.slice p_l.p p_l.len p_l.cap),p_one] true [] R w:=
 call_eq Tryz.checked.mixed (.seq .leaf (.block (.loop [(10,.sc (.i .i64))] (.seq .leaf (.seq (.cond .leaf .leaf) (.seq (.block (.seq .leaf .leaf)) .leaf)))))) Tryz.func285 (by kernel_rfl) (by kernel_rfl) h
abbrev i_record_writer_int:FuncId:=286
def record_writer_int (p_w:Option Addr) (p_n:Int) (R:TR []→Pr):Pr:=
 Cl Pg 258 [(.pointer p_w),(.int .u64 (IntKind.u64.wrap (p_n)))] true [] fun r1=>
 R ()
theorem record_writer_int_call (p_w:Option Addr) (p_n:Int) {R:TR []→Pr} {w:World} (h:record_writer_int p_w p_n R w):Cl Pg 286 [(.pointer p_w),(.int .i64 p_n)] true [] R w:=
 call_eq Tryz.checked.mixed (.leaf) Tryz.func286 (by kernel_rfl) (by kernel_rfl) h
abbrev i_record_rows_Owner:FuncId:=287
def record_rows_Owner (p_w:Option Addr) (p_l:Sl) (p_one:Value) (R:TR []→Pr):Pr:=
 Lp (σ:=Int × Unit) (fun L1 s2=>
 Br (decide ((s2.1:Int) < ((p_l.len:Nat):Int))) (
 Ix p_l s2.1 2 fun a3=>
 LdS (a3.add 0) fun x4=>
 LdI .i64 (a3.add 1) fun x5=>
 New #[(.string (BA [])),(.int .i64 0)] 70 fun a6=>
 St (a6.add 0) (.string x4) <|
 St (a6.add 1) (.int .i64 x5) <|
 LdS (a6.add 0) fun x7=>
 LdI .i64 (a6.add 1) fun x8=>
 CallV Pg p_one [(.agg #[(.string x7),(.int .i64 x8)])] true [] fun r9=>
 L1 ((w64 (s2.1 + 1)),())) (
 R ())) (0,())
theorem record_rows_Owner_call (p_w:Option Addr) (p_l:Sl) (p_one:Value) {R:TR []→Pr} {w:World} (h:record_rows_Owner p_w p_l p_one R w):Cl Pg 287 [(.pointer p_w),(.slice p_l.p p_l.len p_l.cap),p_one] true [] R w:=
 call_eq Tryz.checked.mixed (.seq .leaf (.block (.loop [(10,.sc (.i .i64))] (.seq .leaf (.seq (.cond .leaf .leaf) (.seq (.block (.seq .leaf .leaf)) .leaf)))))) Tryz.func287 (by kernel_rfl) (by kernel_rfl) h
abbrev i_record_writer_text:FuncId:=288
def record_writer_text (p_w:Option Addr) (p_s:ByteArray) (R:TR []→Pr):Pr:=
 Dr <|
 Nn p_w fun a1=>
 LdL (a1.add 0) fun x2=>
 Cl Pg 240 [(.string p_s)] false [.sc .sl] fun r3=>
 Both (LdL (a1.add 0) fun x4=>
 fun _=>((.slice x4.p x4.len x4.cap):Value)=(.slice x2.p x2.len x2.cap)) <|
 App 5 1 1 (zc Pg 5) x2 r3.1.len (srcS r3.1.p r3.1.len 1) fun r5=>
 Nn p_w fun a6=>
 St (a6.add 0) (.slice r5.p r5.len r5.cap) <|
 R ()
theorem record_writer_text_call (p_w:Option Addr) (p_s:ByteArray) {R:TR []→Pr} {w:World} (h:record_writer_text p_w p_s R w):Cl Pg 288 [(.pointer p_w),(.string p_s)] true [] R w:=
 call_eq Tryz.checked.mixed (.leaf) Tryz.func288 (by kernel_rfl) (by kernel_rfl) h
abbrev i_record_rows_Hold:FuncId:=289
def record_rows_Hold (p_w:Option Addr) (p_l:Sl) (p_one:Value) (R:TR []→Pr):Pr:=
 Lp (σ:=Int × Unit) (fun L1 s2=>
 Br (decide ((s2.1:Int) < ((p_l.len:Nat):Int))) (
 Ix p_l s2.1 2 fun a3=>
 LdI .u64 (a3.add 0) fun x4=>
 LdL (a3.add 1) fun x5=>
 New #[(.int .u64 0),(.slice none 0 0)] 60 fun a6=>
 St (a6.add 0) (.int .u64 x4) <|
 St (a6.add 1) (.slice x5.p x5.len x5.cap) <|
 LdI .u64 (a6.add 0) fun x7=>
 LdL (a6.add 1) fun x8=>
 CallV Pg p_one [(.agg #[(.int .u64 x7),(.slice x8.p x8.len x8.cap)])] true [] fun r9=>
 L1 ((w64 (s2.1 + 1)),())) (
 R ())) (0,())
theorem record_rows_Hold_call (p_w:Option Addr) (p_l:Sl) (p_one:Value) {R:TR []→Pr} {w:World} (h:record_rows_Hold p_w p_l p_one R w):Cl Pg 289 [(.pointer p_w),(.slice p_l.p p_l.len p_l.cap),p_one] true [] R w:=
 call_eq Tryz.checked.mixed (.seq .leaf (.block (.loop [(10,.sc (.i .i64))] (.seq .leaf (.seq (.cond .leaf .leaf) (.seq (.block (.seq .leaf .leaf)) .leaf)))))) Tryz.func289 (by kernel_rfl) (by kernel_rfl) h
abbrev i_record_list_Op:FuncId:=290
def record_list_Op (p_w:Option Addr) (p_l:Sl) (p_one:Value) (R:TR []→Pr):Pr:=
 Cl Pg 286 [(.pointer p_w),(.int .i64 ((p_l.len:Nat):Int))] true [] fun r1=>
 Cl Pg 300 [(.pointer p_w),(.slice p_l.p p_l.len p_l.cap),p_one] true [] fun r2=>
 R ()
theorem record_list_Op_call (p_w:Option Addr) (p_l:Sl) (p_one:Value) {R:TR []→Pr} {w:World} (h:record_list_Op p_w p_l p_one R w):Cl Pg 290 [(.pointer p_w),(.slice p_l.p p_l.len p_l.cap),p_one] true [] R w:=
 call_eq Tryz.checked.mixed (.seq .leaf .leaf) Tryz.func290 (by kernel_rfl) (by kernel_rfl) h
abbrev i_record_writer_op:FuncId:=291
def record_writer_op (p_w:Option Addr) (p_o_0:Int) (p_o_1:ByteArray) (p_o_2:ByteArray) (p_o_3:ByteArray) (p_o_4:ByteArray) (p_o_5:Int) (R:TR []→Pr):Pr:=
 New #[(.int .i64 p_o_0),(.string p_o_1),(.string p_o_2),(.string p_o_3),(.string p_o_4),(.int .i64 p_o_5)] 81 fun a1=>
 LdI .i64 (a1.add 0) fun x2=>
 Cl Pg 286 [(.pointer p_w),(.int .i64 x2)] true [] fun r3=>
 LdS (a1.add 1) fun x4=>
 LdS (a1.add 2) fun x5=>
 LdS (a1.add 3) fun x6=>
 LdS (a1.add 4) fun x7=>
 New #[(.string x4),(.string x5),(.string x6),(.string x7)] 9 fun a8=>
 Lp (σ:=Int × Unit) (fun L9 s10=>
 Br (decide ((s10.1:Int) < ((4:Nat):Int))) (
 Ix ⟨(some a8),4,4⟩ s10.1 1 fun a11=>
 LdS a11 fun x12=>
 Cl Pg 288 [(.pointer p_w),(.string x12)] true [] fun r13=>
 L9 ((w64 (s10.1 + 1)),())) (
 LdI .i64 (a1.add 5) fun x14=>
 Cl Pg 286 [(.pointer p_w),(.int .i64 x14)] true [] fun r15=>
 R ())) (0,())
theorem record_writer_op_call (p_w:Option Addr) (p_o_0:Int) (p_o_1:ByteArray) (p_o_2:ByteArray) (p_o_3:ByteArray) (p_o_4:ByteArray) (p_o_5:Int) {R:TR []→Pr} {w:World} (h:record_writer_op p_w p_o_0 p_o_1 p_o_2 p_o_3 p_o_4 p_o_5 R w):Cl Pg 291 [(.pointer p_w),(.agg #[(.int .i64 p_o_0),(.string p_o_1),(.string p_o_2),(.string p_o_3),(.string p_o_4),(.int .i64 p_o_5)])] true [] R w:=
 call_eq Tryz.checked.mixed (.seq .leaf (.seq .leaf (.seq (.seq .leaf (.block (.loop [(20,.sc (.i .i64))] (.seq .leaf (.seq (.cond .leaf .leaf) (.seq (.block (.seq .leaf .leaf)) .leaf)))))) .leaf))) Tryz.func291 (by kernel_rfl) (by kernel_rfl) h
abbrev i_slices_order2Ordered_uint64:FuncId:=292
def slices_order2Ordered_uint64 (p_data:Sl) (p_a:Int) (p_b:Int) (p_swaps:Option Addr) (R:TR [.sc (.i .i64),.sc (.i .i64)]→Pr):Pr:=
 Dr <|
 Ix p_data p_b 1 fun a1=>
 LdI .u64 a1 fun x2=>
 Ix p_data p_a 1 fun a3=>
 LdI .u64 a3 fun x4=>
 Cl Pg 194 [(.int .u64 x2),(.int .u64 x4)] false [.sc .b] fun r5=>
 Br r5.1 (
 Nn p_swaps fun a6=>
 LdI .i64 a6 fun x7=>
 Nn p_swaps fun a8=>
 St a8 (.int .i64 (w64 (x7 + 1))) <|
 R (p_b,p_a,())) (
 R (p_a,p_b,()))
theorem slices_order2Ordered_uint64_call (p_data:Sl) (p_a:Int) (p_b:Int) (p_swaps:Option Addr) {R:TR [.sc (.i .i64),.sc (.i .i64)]→Pr} {w:World} (h:slices_order2Ordered_uint64 p_data p_a p_b p_swaps R w):Cl Pg 292 [(.slice p_data.p p_data.len p_data.cap),(.int .i64 p_a),(.int .i64 p_b),(.pointer p_swaps)] true [.sc (.i .i64),.sc (.i .i64)] R w:=
 call_eq Tryz.checked.mixed (.seq .leaf (.seq (.seq .leaf (.cond (.seq .leaf (.seq .leaf .leaf)) .leaf)) (.seq .leaf .leaf))) Tryz.func292 (by kernel_rfl) (by kernel_rfl) h
abbrev i_op_at:FuncId:=293
def op_at (p_m:Sl) (p_k:ByteArray) (R:TR [.sc (.i .i64),.sc .b]→Pr):Pr:=
 Cl Pg 301 [(.slice p_m.p p_m.len p_m.cap),(.string p_k),(.func (.func 302) #[] #[])] true [.sc (.i .i64),.sc .b] fun r1=>
 R (r1.1,r1.2.1,())
theorem op_at_call (p_m:Sl) (p_k:ByteArray) {R:TR [.sc (.i .i64),.sc .b]→Pr} {w:World} (h:op_at p_m p_k R w):Cl Pg 293 [(.slice p_m.p p_m.len p_m.cap),(.string p_k)] true [.sc (.i .i64),.sc .b] R w:=
 call_eq Tryz.checked.mixed (.seq .leaf (.seq .leaf .leaf)) Tryz.func293 (by kernel_rfl) (by kernel_rfl) h
abbrev i_slices_Insert_Pair:FuncId:=294
theorem slices_Insert_Pair_call (p_s:Sl) (p_i:Int) (p_v:Sl) {R:TR [.sc .sl]→Pr} {w:World} (h:Insert_tx Pg 304 305 111 2 32 (zc Pg 111) p_s p_i p_v R w):Cl Pg 294 [(.slice p_s.p p_s.len p_s.cap),(.int .i64 p_i),(.slice p_v.p p_v.len p_v.cap)] false [.sc .sl] R w:=
 call_eq Tryz.checked.mixed (.seq .leaf (.seq .leaf (.seq .leaf (.seq (.seq .leaf (.cond (.seq .leaf .leaf) .leaf)) (.seq .leaf (.seq (.seq .leaf (.cond (.seq .leaf .leaf) .leaf)) (.seq (.seq .leaf (.cond (.seq .leaf (.seq .leaf (.seq .leaf (.seq .leaf .leaf)))) .leaf)) (.seq .leaf (.seq (.seq .leaf (.cond (.seq .leaf (.seq .leaf (.seq .leaf .leaf))) .leaf)) (.seq .leaf (.seq .leaf (.seq .leaf .leaf)))))))))))) Tryz.func294 (by kernel_rfl) (by kernel_rfl) h
abbrev i_slices_Delete_Pair:FuncId:=295
theorem slices_Delete_Pair_call (p_s:Sl) (p_i:Int) (p_j:Int) {R:TR [.sc .sl]→Pr} {w:World} (h:Delete_tx 111 2 32 (zc Pg 111) p_s p_i p_j R w):Cl Pg 295 [(.slice p_s.p p_s.len p_s.cap),(.int .i64 p_i),(.int .i64 p_j)] false [.sc .sl] R w:=
 call_eq Tryz.checked.mixed (.seq .leaf (.seq .leaf (.seq (.seq .leaf (.cond (.seq .leaf .leaf) .leaf)) (.seq .leaf (.seq .leaf (.seq .leaf (.seq .leaf .leaf))))))) Tryz.func295 (by kernel_rfl) (by kernel_rfl) h
abbrev i_op_ends:FuncId:=296
def op_ends (p_m:Sl) (p_r_0:ByteArray) (p_r_1:ByteArray) (R:TR [.sc (.i .i64),.sc (.i .i64)]→Pr):Pr:=
 New #[(.string p_r_0),(.string p_r_1)] 37 fun a1=>
 LdS (a1.add 0) fun x2=>
 Cl Pg 293 [(.slice p_m.p p_m.len p_m.cap),(.string x2)] true [.sc (.i .i64),.sc .b] fun r3=>
 Jp (σ:=Int × Unit) (fun s5=>
 R (r3.1,s5.1,())) fun J4=>
 LdS (a1.add 1) fun x6=>
 Br (!(seq x6 (BA []))) (
 LdS (a1.add 1) fun x7=>
 Cl Pg 293 [(.slice p_m.p p_m.len p_m.cap),(.string x7)] true [.sc (.i .i64),.sc .b] fun r8=>
 J4 (r8.1,())) (
 J4 (((p_m.len:Nat):Int),()))
theorem op_ends_call (p_m:Sl) (p_r_0:ByteArray) (p_r_1:ByteArray) {R:TR [.sc (.i .i64),.sc (.i .i64)]→Pr} {w:World} (h:op_ends p_m p_r_0 p_r_1 R w):Cl Pg 296 [(.slice p_m.p p_m.len p_m.cap),(.agg #[(.string p_r_0),(.string p_r_1)])] true [.sc (.i .i64),.sc (.i .i64)] R w:=
 call_eq Tryz.checked.mixed (.seq .leaf (.seq .leaf (.seq .leaf (.seq (.join [(8,.sc (.i .i64))] (.seq .leaf (.cond .leaf .leaf))) (.seq .leaf .leaf))))) Tryz.func296 (by kernel_rfl) (by kernel_rfl) h
abbrev i_record_rows_Op:FuncId:=300
def record_rows_Op (p_w:Option Addr) (p_l:Sl) (p_one:Value) (R:TR []→Pr):Pr:=
 Lp (σ:=Int × Unit) (fun L1 s2=>
 Br (decide ((s2.1:Int) < ((p_l.len:Nat):Int))) (
 Ix p_l s2.1 6 fun a3=>
 LdI .i64 (a3.add 0) fun x4=>
 LdS (a3.add 1) fun x5=>
 LdS (a3.add 2) fun x6=>
 LdS (a3.add 3) fun x7=>
 LdS (a3.add 4) fun x8=>
 LdI .i64 (a3.add 5) fun x9=>
 New #[(.int .i64 0),(.string (BA [])),(.string (BA [])),(.string (BA [])),(.string (BA [])),(.int .i64 0)] 81 fun a10=>
 St (a10.add 0) (.int .i64 x4) <|
 St (a10.add 1) (.string x5) <|
 St (a10.add 2) (.string x6) <|
 St (a10.add 3) (.string x7) <|
 St (a10.add 4) (.string x8) <|
 St (a10.add 5) (.int .i64 x9) <|
 LdI .i64 (a10.add 0) fun x11=>
 LdS (a10.add 1) fun x12=>
 LdS (a10.add 2) fun x13=>
 LdS (a10.add 3) fun x14=>
 LdS (a10.add 4) fun x15=>
 LdI .i64 (a10.add 5) fun x16=>
 CallV Pg p_one [(.agg #[(.int .i64 x11),(.string x12),(.string x13),(.string x14),(.string x15),(.int .i64 x16)])] true [] fun r17=>
 L1 ((w64 (s2.1 + 1)),())) (
 R ())) (0,())
theorem record_rows_Op_call (p_w:Option Addr) (p_l:Sl) (p_one:Value) {R:TR []→Pr} {w:World} (h:record_rows_Op p_w p_l p_one R w):Cl Pg 300 [(.pointer p_w),(.slice p_l.p p_l.len p_l.cap),p_one] true [] R w:=
 call_eq Tryz.checked.mixed (.seq .leaf (.block (.loop [(10,.sc (.i .i64))] (.seq .leaf (.seq (.cond .leaf .leaf) (.seq (.block (.seq .leaf .leaf)) .leaf)))))) Tryz.func300 (by kernel_rfl) (by kernel_rfl) h
abbrev i_slices_BinarySearchFunc_Pair:FuncId:=301
theorem slices_BinarySearchFunc_Pair_call (p_x:Sl) (p_target:ByteArray) (p_cmp:Value) {R:TR [.sc (.i .i64),.sc .b]→Pr} {w:World} (h:BinarySearchFunc_tx Pg 2 (ldA [.s,.s]) p_x (.string p_target) p_cmp R w):Cl Pg 301 [(.slice p_x.p p_x.len p_x.cap),(.string p_target),p_cmp] true [.sc (.i .i64),.sc .b] R w:=
 call_eq Tryz.checked.mixed (.seq .leaf (.seq .leaf (.seq .leaf (.seq (.block (.loop [(9,.sc (.i .i64)),(10,.sc (.i .i64))] (.seq (.seq .leaf (.cond .leaf .leaf)) (.block (.seq .leaf (.seq .leaf (.cond .leaf .leaf))))))) (.seq .leaf .leaf))))) Tryz.func301 (by kernel_rfl) (by kernel_rfl) h
def op_at_1 (p_p_0:ByteArray) (p_p_1:ByteArray) (p_k:ByteArray) (R:TR [.sc (.i .i64)]→Pr):Pr:=
 New #[(.string p_p_0),(.string p_p_1)] 111 fun a1=>
 LdS (a1.add 0) fun x2=>
 Cl Pg 303 [(.string x2),(.string p_k)] false [.sc (.i .i64)] fun r3=>
 R (r3.1,())
theorem op_at_1_call (p_p_0:ByteArray) (p_p_1:ByteArray) (p_k:ByteArray) {R:TR [.sc (.i .i64)]→Pr} {w:World} (h:op_at_1 p_p_0 p_p_1 p_k R w):Cl Pg 302 [(.agg #[(.string p_p_0),(.string p_p_1)]),(.string p_k)] false [.sc (.i .i64)] R w:=
 call_eq Tryz.checked.mixed (.seq .leaf (.seq .leaf .leaf)) Tryz.func302 (by kernel_rfl) (by kernel_rfl) h
abbrev i_strings_Compare:FuncId:=303
def strings_Compare (p_a:ByteArray) (p_b:ByteArray) (R:TR [.sc (.i .i64)]→Pr):Pr:=
 Cl Pg 308 [(.string p_a),(.string p_b)] false [.sc (.i .i64)] fun r1=>
 R (r1.1,())
theorem strings_Compare_call (p_a:ByteArray) (p_b:ByteArray) {R:TR [.sc (.i .i64)]→Pr} {w:World} (h:strings_Compare p_a p_b R w):Cl Pg 303 [(.string p_a),(.string p_b)] false [.sc (.i .i64)] R w:=
 call_eq Tryz.checked.mixed (.seq .leaf (.seq .leaf .leaf)) Tryz.func303 (by kernel_rfl) (by kernel_rfl) h
def internal_bytealg_CompareString (p_a:ByteArray) (p_b:ByteArray) (R:TR [.sc (.i .i64)]→Pr):Pr:=
 Ex Pg 310 [(.string p_a),(.string p_b)] false [.sc (.i .i64)] fun r1=>
 R (r1.1,())
theorem internal_bytealg_CompareString_call (p_a:ByteArray) (p_b:ByteArray) {R:TR [.sc (.i .i64)]→Pr} {w:World} (h:internal_bytealg_CompareString p_a p_b R w):Cl Pg 308 [(.string p_a),(.string p_b)] false [.sc (.i .i64)] R w:=
 call_eq Tryz.checked.mixed (.seq .leaf (.seq .leaf .leaf)) Tryz.func308 (by kernel_rfl) (by kernel_rfl) h
abbrev i_sumpterlaw20_Store_Scan:FuncId:=328
def sumpterlaw20_Store_Scan (p_s:Option Addr) (p_in_0:ByteArray) (p_in_1:ByteArray) (p_most:Int) (R:TR [.sc .sl,.sc (.i .i64)]→Pr):Pr:=
 New #[(.string p_in_0),(.string p_in_1)] 37 fun a1=>
 Dr <|
 Nn p_s fun a2=>
 LdL (a2.add 0) fun x3=>
 LdS (a1.add 0) fun x4=>
 LdS (a1.add 1) fun x5=>
 Cl Pg 20 [(.slice x3.p x3.len x3.cap),(.agg #[(.string x4),(.string x5)]),(.int .i64 p_most)] false [.sc .sl] fun r6=>
 App 111 2 32 (zc Pg 111) ⟨none,0,0⟩ r6.1.len (srcS r6.1.p r6.1.len 2) fun r7=>
 R (r7,0,())
theorem sumpterlaw20_Store_Scan_call (p_s:Option Addr) (p_in_0:ByteArray) (p_in_1:ByteArray) (p_most:Int) {R:TR [.sc .sl,.sc (.i .i64)]→Pr} {w:World} (h:sumpterlaw20_Store_Scan p_s p_in_0 p_in_1 p_most R w):Cl Pg 328 [(.pointer p_s),(.agg #[(.string p_in_0),(.string p_in_1)]),(.int .i64 p_most)] true [.sc .sl,.sc (.i .i64)] R w:=
 call_eq Tryz.checked.mixed (.seq .leaf (.seq .leaf .leaf)) Tryz.func328 (by kernel_rfl) (by kernel_rfl) h
end Go.Proofs.YthkdehgfdllpoaaGreat
set_option linter.unusedVariables false
namespace Go.Proofs.YthkdehgfdllpoaaGreat
open Go Go.Sx
abbrev i_sumpterref04_CheckOp:FuncId:=43
def sumpterref04_CheckOp (p_o_0:Int) (p_o_1:ByteArray) (p_o_2:ByteArray) (p_o_3:ByteArray) (p_o_4:ByteArray) (p_o_5:Int) (R:TR [.sc (.i .i64)]→Pr):Pr:=
 New #[(.int .i64 p_o_0),(.string p_o_1),(.string p_o_2),(.string p_o_3),(.string p_o_4),(.int .i64 p_o_5)] 81 fun a1=>
 Jp (σ:=Bool × Unit) (fun s3=>
 Jp (σ:=Bool × Unit) (fun s5=>
 Jp (σ:=Bool × Unit) (fun s7=>
 Br s7.1 (
 R (40,())) (
 Jp (σ:=Bool × Unit) (fun s9=>
 Br s9.1 (
 R (20,())) (
 LdS (a1.add 2) fun x10=>
 Br (decide ((((x10.size:Nat):Int):Int) > 16)) (
 R (2,())) (
 Jp (σ:=Bool × Unit) (fun s12=>
 Br s12.1 (
 R (21,())) (
 Jp (σ:=Bool × Unit) (fun s14=>
 Br s14.1 (
 R (1,())) (
 R (0,()))) fun J13=>
 LdI .i64 (a1.add 0) fun x15=>
 Br ((x15:Int) == 4) (
 LdI .i64 (a1.add 5) fun x16=>
 Br (decide ((x16:Int) < 1)) (
 J13 (true,())) (
 LdI .i64 (a1.add 5) fun x17=>
 J13 ((decide ((x17:Int) > 4)),()))) (
 J13 (false,())))) fun J11=>
 Br s5.1 (
 LdS (a1.add 3) fun x18=>
 LdS (a1.add 4) fun x19=>
 Cl Pg 91 [(.agg #[(.string x18),(.string x19)])] false [.sc (.i .i64)] fun r20=>
 J11 (((r20.1:Int) != 0),())) (
 J11 (false,()))))) fun J8=>
 Br s3.1 (
 LdS (a1.add 1) fun x21=>
 Cl Pg 35 [(.string x21)] false [.sc (.i .i64)] fun r22=>
 J8 (((r22.1:Int) != 0),())) (
 J8 (false,())))) fun J6=>
 Br (!s3.1) (
 Br (!s5.1) (
 J6 (true,())) (
 Br s3.1 (
 LdS (a1.add 3) fun x23=>
 Br (!(seq x23 (BA []))) (
 J6 (true,())) (
 LdS (a1.add 4) fun x24=>
 Br (!(seq x24 (BA []))) (
 J6 (true,())) (
 Br s5.1 (
 LdS (a1.add 1) fun x25=>
 Br (!(seq x25 (BA []))) (
 J6 (true,())) (
 LdI .i64 (a1.add 0) fun x26=>
 Br ((x26:Int) != 2) (
 LdS (a1.add 2) fun x27=>
 Br (!(seq x27 (BA []))) (
 J6 (true,())) (
 LdI .i64 (a1.add 0) fun x28=>
 Br ((x28:Int) != 4) (
 LdI .i64 (a1.add 5) fun x29=>
 J6 (((x29:Int) != 0),())) (
 J6 (false,())))) (
 LdI .i64 (a1.add 0) fun x30=>
 Br ((x30:Int) != 4) (
 LdI .i64 (a1.add 5) fun x31=>
 J6 (((x31:Int) != 0),())) (
 J6 (false,()))))) (
 LdI .i64 (a1.add 0) fun x32=>
 Br ((x32:Int) != 2) (
 LdS (a1.add 2) fun x33=>
 Br (!(seq x33 (BA []))) (
 J6 (true,())) (
 LdI .i64 (a1.add 0) fun x34=>
 Br ((x34:Int) != 4) (
 LdI .i64 (a1.add 5) fun x35=>
 J6 (((x35:Int) != 0),())) (
 J6 (false,())))) (
 LdI .i64 (a1.add 0) fun x36=>
 Br ((x36:Int) != 4) (
 LdI .i64 (a1.add 5) fun x37=>
 J6 (((x37:Int) != 0),())) (
 J6 (false,()))))))) (
 Br s5.1 (
 LdS (a1.add 1) fun x38=>
 Br (!(seq x38 (BA []))) (
 J6 (true,())) (
 LdI .i64 (a1.add 0) fun x39=>
 Br ((x39:Int) != 2) (
 LdS (a1.add 2) fun x40=>
 Br (!(seq x40 (BA []))) (
 J6 (true,())) (
 LdI .i64 (a1.add 0) fun x41=>
 Br ((x41:Int) != 4) (
 LdI .i64 (a1.add 5) fun x42=>
 J6 (((x42:Int) != 0),())) (
 J6 (false,())))) (
 LdI .i64 (a1.add 0) fun x43=>
 Br ((x43:Int) != 4) (
 LdI .i64 (a1.add 5) fun x44=>
 J6 (((x44:Int) != 0),())) (
 J6 (false,()))))) (
 LdI .i64 (a1.add 0) fun x45=>
 Br ((x45:Int) != 2) (
 LdS (a1.add 2) fun x46=>
 Br (!(seq x46 (BA []))) (
 J6 (true,())) (
 LdI .i64 (a1.add 0) fun x47=>
 Br ((x47:Int) != 4) (
 LdI .i64 (a1.add 5) fun x48=>
 J6 (((x48:Int) != 0),())) (
 J6 (false,())))) (
 LdI .i64 (a1.add 0) fun x49=>
 Br ((x49:Int) != 4) (
 LdI .i64 (a1.add 5) fun x50=>
 J6 (((x50:Int) != 0),())) (
 J6 (false,()))))))) (
 Br s3.1 (
 LdS (a1.add 3) fun x51=>
 Br (!(seq x51 (BA []))) (
 J6 (true,())) (
 LdS (a1.add 4) fun x52=>
 Br (!(seq x52 (BA []))) (
 J6 (true,())) (
 Br s5.1 (
 LdS (a1.add 1) fun x53=>
 Br (!(seq x53 (BA []))) (
 J6 (true,())) (
 LdI .i64 (a1.add 0) fun x54=>
 Br ((x54:Int) != 2) (
 LdS (a1.add 2) fun x55=>
 Br (!(seq x55 (BA []))) (
 J6 (true,())) (
 LdI .i64 (a1.add 0) fun x56=>
 Br ((x56:Int) != 4) (
 LdI .i64 (a1.add 5) fun x57=>
 J6 (((x57:Int) != 0),())) (
 J6 (false,())))) (
 LdI .i64 (a1.add 0) fun x58=>
 Br ((x58:Int) != 4) (
 LdI .i64 (a1.add 5) fun x59=>
 J6 (((x59:Int) != 0),())) (
 J6 (false,()))))) (
 LdI .i64 (a1.add 0) fun x60=>
 Br ((x60:Int) != 2) (
 LdS (a1.add 2) fun x61=>
 Br (!(seq x61 (BA []))) (
 J6 (true,())) (
 LdI .i64 (a1.add 0) fun x62=>
 Br ((x62:Int) != 4) (
 LdI .i64 (a1.add 5) fun x63=>
 J6 (((x63:Int) != 0),())) (
 J6 (false,())))) (
 LdI .i64 (a1.add 0) fun x64=>
 Br ((x64:Int) != 4) (
 LdI .i64 (a1.add 5) fun x65=>
 J6 (((x65:Int) != 0),())) (
 J6 (false,()))))))) (
 Br s5.1 (
 LdS (a1.add 1) fun x66=>
 Br (!(seq x66 (BA []))) (
 J6 (true,())) (
 LdI .i64 (a1.add 0) fun x67=>
 Br ((x67:Int) != 2) (
 LdS (a1.add 2) fun x68=>
 Br (!(seq x68 (BA []))) (
 J6 (true,())) (
 LdI .i64 (a1.add 0) fun x69=>
 Br ((x69:Int) != 4) (
 LdI .i64 (a1.add 5) fun x70=>
 J6 (((x70:Int) != 0),())) (
 J6 (false,())))) (
 LdI .i64 (a1.add 0) fun x71=>
 Br ((x71:Int) != 4) (
 LdI .i64 (a1.add 5) fun x72=>
 J6 (((x72:Int) != 0),())) (
 J6 (false,()))))) (
 LdI .i64 (a1.add 0) fun x73=>
 Br ((x73:Int) != 2) (
 LdS (a1.add 2) fun x74=>
 Br (!(seq x74 (BA []))) (
 J6 (true,())) (
 LdI .i64 (a1.add 0) fun x75=>
 Br ((x75:Int) != 4) (
 LdI .i64 (a1.add 5) fun x76=>
 J6 (((x76:Int) != 0),())) (
 J6 (false,())))) (
 LdI .i64 (a1.add 0) fun x77=>
 Br ((x77:Int) != 4) (
 LdI .i64 (a1.add 5) fun x78=>
 J6 (((x78:Int) != 0),())) (
 J6 (false,()))))))) fun J4=>
 LdI .i64 (a1.add 0) fun x79=>
 Br ((x79:Int) == 4) (
 J4 (true,())) (
 LdI .i64 (a1.add 0) fun x80=>
 J4 (((x80:Int) == 5),()))) fun J2=>
 LdI .i64 (a1.add 0) fun x81=>
 Br ((x81:Int) == 1) (
 J2 (true,())) (
 LdI .i64 (a1.add 0) fun x82=>
 Br ((x82:Int) == 2) (
 J2 (true,())) (
 LdI .i64 (a1.add 0) fun x83=>
 J2 (((x83:Int) == 3),())))
theorem sumpterref04_CheckOp_call (p_o_0:Int) (p_o_1:ByteArray) (p_o_2:ByteArray) (p_o_3:ByteArray) (p_o_4:ByteArray) (p_o_5:Int) {R:TR [.sc (.i .i64)]→Pr} {w:World} (h:sumpterref04_CheckOp p_o_0 p_o_1 p_o_2 p_o_3 p_o_4 p_o_5 R w):Cl Pg 43 [(.agg #[(.int .i64 p_o_0),(.string p_o_1),(.string p_o_2),(.string p_o_3),(.string p_o_4),(.int .i64 p_o_5)])] false [.sc (.i .i64)] R w:=
 call_eq Tryz.checked.mixed (.seq .leaf (.seq (.join [(3,.sc .b)] .leaf) (.seq (.join [(4,.sc .b)] .leaf) (.seq (.seq (.join [(72,.sc .b)] .leaf) (.cond (.seq .leaf .leaf) .leaf)) (.seq (.seq (.join [(79,.sc .b)] .leaf) (.cond (.seq .leaf .leaf) .leaf)) (.seq (.seq .leaf (.cond (.seq .leaf .leaf) .leaf)) (.seq (.seq (.join [(93,.sc .b)] .leaf) (.cond (.seq .leaf .leaf) .leaf)) (.seq (.seq (.join [(106,.sc .b)] .leaf) (.cond (.seq .leaf .leaf) .leaf)) (.seq .leaf .leaf))))))))) Tryz.func43 (by kernel_rfl) (by kernel_rfl) h
end Go.Proofs.YthkdehgfdllpoaaGreat
set_option linter.unusedVariables false
set_option linter.unusedSimpArgs false
namespace Go.Proofs.YthkdehgfdllpoaaGreat
open Go Go.Sx
structure Pa where
 k:ByteArray
 v:ByteArray
deriving DecidableEq
def paR:Rec Pa:=⟨[.s,.s],fun x=>(x.k,x.v,()),rfl,by simp⟩
theorem zc_Pair:zc Pg 111=#[.string (BA []),.string (BA [])]:=by kernel_rfl
theorem zo_Pair:∀ v∈(zc Pg 111).toList,v.oneCell'=true:=by rw [zc_Pair];simp [Value.oneCell']
theorem ld_Pair {w:World} {s:Sl} {l:List Pa} (h:RdE paR w s l) {i:Nat} {x:Pa} (hx:l[i]?=some x) {K:ByteArray→ByteArray→Pr} (k:K x.k x.v w) :
  Ix s (i:Int) 2 (fun a=>LdS (a.add 0) fun x0=>LdS (a.add 1) fun x1=>K x0 x1) w:=
 h.ld (K:=fun y=>K y.1 y.2.1) hx k
theorem bx_Pair (x:Pa) {K:Addr→Pr} {w:World} (h:∀ b w1,w1.heap[b]?=some (.cells #[.string x.k,.string x.v] 111 (0,0))→w.heap.size≤b→Keeps [] w w1→K ⟨b,0,none⟩ w1) :
  New #[.string (BA []),.string (BA [])] 111 (fun a=>St (a.add 0) (.string x.k) <| St (a.add 1) (.string x.v) <| (K a)) w:=
 New_st (vs:=paR.c x) rfl (paR.one x) h
theorem Clone_Pair_k {w:World} {s:Sl} {l:List _} (h:RdE paR w s l) (hN:l.length≤100000000) {K:TR [.sc .sl]→Pr} (k:∀ r w',SlE paR w' r l→(∀ x∈blk r,w.heap.size≤x)→Keeps [] w w'→K (r,()) w'):Cl Pg i_slices_Clone_Pair [.slice s.p s.len s.cap] false [.sc .sl] K w:=
 slices_Clone_Pair_call s (Clone_of (ρ:=paR) (by rw [zc_Pair];rfl) (by omega) hN h k)
theorem Delete_Pair_k {w:World} {s:Sl} {l:List _} {i j:Nat} {y z:Int} (h:SlE paR w s l) (hij:i≤j) (hj:j≤l.length) (hN:l.length≤100000000) (hy:y=(i:Int)) (hz:z=(j:Int)) {K:TR [.sc .sl]→Pr} (k:∀ r w',SlE paR w' r (l.take i ++ l.drop j)→(∀ x∈blk r,x∈blk s)→Keeps (blk s) w w'→K (r,()) w'):Cl Pg i_slices_Delete_Pair [.slice s.p s.len s.cap,.int .i64 y,.int .i64 z] false [.sc .sl] K w:=
 slices_Delete_Pair_call s y z (Delete_of (ρ:=paR) (by rw [zc_Pair];rfl) zo_Pair h hij hj hN hy hz k)
theorem Search_Pair_k {w:World} {s:Sl} {l:List _} {f:Value} {t:ByteArray} {c:_→Int} (h:RdE paR w s l) (hp:IsC Pg f paR.v (.string t) c l w) (hs:l.Pairwise (fun a b=>c b < 0→c a < 0)) (hN:l.length≤100000000) {K:TR [.sc (.i .i64),.sc .b]→Pr} (k:∀ w',Keeps [] w w'→K ((bsAt c l:Int),bsIs c l,()) w'):Cl Pg i_slices_BinarySearchFunc_Pair [.slice s.p s.len s.cap,.string t,f] true [.sc (.i .i64),.sc .b] K w:=
 slices_BinarySearchFunc_Pair_call s t f (BinarySearchFunc_of (ρ:=paR) (ldA_ok paR) h hp hs hN k)
theorem ov_Pair:OvOk Pg 304 111 paR.n:=by
 intro w a b o la ca lb cb cs all t fr ha hb hne h0 K h
 refine ⟨(false,()),w,?_,h⟩
 rw [show ([Value.slice (some ⟨a,0,none⟩) la ca,.slice (some ⟨b,o,none⟩) lb cb]:List Value).toArray=#[.slice (some ⟨a,0,none⟩) la ca,.slice (some ⟨b,o,none⟩) lb cb] from rfl,
  run_callFunc_extern Tryz.func304 (by kernel_rfl) (by kernel_rfl) (by kernel_rfl) (e:=Extern.SlicesOverlaps.overlaps #[25,25] #[4]) (by kernel_rfl),
  Lib.run_overlaps_apart w 25 4 111 (by kernel_rfl) 2 (fun w=>by kernel_rfl) ⟨a,0,none⟩ ⟨b,o,none⟩ la ca lb cb hne 111 t cs.size all.size (by simp [World.shape?,ha]) (by simp [World.shape?,hb]) h0 (by simp [World.frozen?,ha]) (by simp [World.frozen?,ha])]
 rfl
theorem Insert_Pair_k {w:World} {s:Sl} {l:List _} {a:Nat} {x:_} {i:Nat} (h:SlE paR w s l) (ha:w.heap[a]?=some (.cells (paR.c x).toArray 111 (0,0))) (hna:a ∉ blk s) (hi:i≤l.length) (hN:l.length≤100000000) {K:TR [.sc .sl]→Pr} (k:∀ r w',SlE paR w' r (l.take i ++ x :: l.drop i)→(∀ y∈blk r,y∈blk s∨w.heap.size≤y)→Keeps (blk s) w w'→K (r,()) w'):Cl Pg i_slices_Insert_Pair [.slice s.p s.len s.cap,.int .i64 (i:Int),.slice (some ⟨a,0,none⟩) 1 1] false [.sc .sl] K w:=
 slices_Insert_Pair_call s (i:Int) ⟨some ⟨a,0,none⟩,1,1⟩ (Insert_of (ρ:=paR) ov_Pair (by rw [zc_Pair];rfl) zo_Pair (by omega) hN h ha hna hi k)
structure Op where
 kind:Int
 key:ByteArray
 value:ByteArray
 lo:ByteArray
 hi:ByteArray
 most:Int
deriving DecidableEq
def opR:Rec Op:=⟨[.i .i64,.s,.s,.s,.s,.i .i64],fun x=>(x.kind,x.key,x.value,x.lo,x.hi,x.most,()),rfl,by simp⟩
theorem zc_Op:zc Pg 81=#[.int .i64 0,.string (BA []),.string (BA []),.string (BA []),.string (BA []),.int .i64 0]:=by kernel_rfl
theorem ld_Op {w:World} {s:Sl} {l:List Op} (h:RdE opR w s l) {i:Nat} {x:Op} (hx:l[i]?=some x) {K:Int→ByteArray→ByteArray→ByteArray→ByteArray→Int→Pr} (k:K x.kind x.key x.value x.lo x.hi x.most w) :
  Ix s (i:Int) 6 (fun a=>LdI .i64 (a.add 0) fun x0=>LdS (a.add 1) fun x1=>LdS (a.add 2) fun x2=>LdS (a.add 3) fun x3=>LdS (a.add 4) fun x4=>LdI .i64 (a.add 5) fun x5=>K x0 x1 x2 x3 x4 x5) w:=
 h.ld (K:=fun y=>K y.1 y.2.1 y.2.2.1 y.2.2.2.1 y.2.2.2.2.1 y.2.2.2.2.2.1) hx k
theorem bx_Op (x:Op) {K:Addr→Pr} {w:World} (h:∀ b w1,w1.heap[b]?=some (.cells #[.int .i64 x.kind,.string x.key,.string x.value,.string x.lo,.string x.hi,.int .i64 x.most] 81 (0,0))→w.heap.size≤b→Keeps [] w w1→K ⟨b,0,none⟩ w1) :
  New #[.int .i64 0,.string (BA []),.string (BA []),.string (BA []),.string (BA []),.int .i64 0] 81 (fun a=>St (a.add 0) (.int .i64 x.kind) <| St (a.add 1) (.string x.key) <| St (a.add 2) (.string x.value) <| St (a.add 3) (.string x.lo) <| St (a.add 4) (.string x.hi) <| St (a.add 5) (.int .i64 x.most) <| (K a)) w:=
 New_st (vs:=opR.c x) rfl (opR.one x) h
theorem Clone_Op_k {w:World} {s:Sl} {l:List _} (h:RdE opR w s l) (hN:l.length≤100000000) {K:TR [.sc .sl]→Pr} (k:∀ r w',SlE opR w' r l→(∀ x∈blk r,w.heap.size≤x)→Keeps [] w w'→K (r,()) w'):Cl Pg i_slices_Clone_Op [.slice s.p s.len s.cap] false [.sc .sl] K w:=
 slices_Clone_Op_call s (Clone_of (ρ:=opR) (by rw [zc_Op];rfl) (by omega) hN h k)
theorem ix_Op:IxFn Pg i_slices_IndexFunc_Op opR opR.v:=fun h hp hN _ k=>slices_IndexFunc_Op_call _ _ (IndexFunc_of (ρ:=opR) (ldA_ok opR) h hp hN k)
theorem ContainsFunc_Op_k {w:World} {s:Sl} {l:List _} {f:Value} {p:_→Bool} {F:Nat→Prop} (h:RdE opR w s l) (hp:Go.Sx.IsP Pg f opR.v p F l w) (hN:l.length≤100000000) {K:TR [.sc .b]→Pr} (k:∀ w',Keeps [] w w'→K (l.any p,()) w'):Cl Pg i_slices_ContainsFunc_Op [.slice s.p s.len s.cap,f] false [.sc .b] K w:=
 slices_ContainsFunc_Op_call s f (ContainsFunc_of (ρ:=opR) ix_Op h hp hN k)
structure Ow where
 lo:ByteArray
 shard:Int
deriving DecidableEq
def owR:Rec Ow:=⟨[.s,.i .i64],fun x=>(x.lo,x.shard,()),rfl,by simp⟩
theorem zc_Owner:zc Pg 70=#[.string (BA []),.int .i64 0]:=by kernel_rfl
theorem ld_Owner {w:World} {s:Sl} {l:List Ow} (h:RdE owR w s l) {i:Nat} {x:Ow} (hx:l[i]?=some x) {K:ByteArray→Int→Pr} (k:K x.lo x.shard w) :
  Ix s (i:Int) 2 (fun a=>LdS (a.add 0) fun x0=>LdI .i64 (a.add 1) fun x1=>K x0 x1) w:=
 h.ld (K:=fun y=>K y.1 y.2.1) hx k
theorem bx_Owner (x:Ow) {K:Addr→Pr} {w:World} (h:∀ b w1,w1.heap[b]?=some (.cells #[.string x.lo,.int .i64 x.shard] 70 (0,0))→w.heap.size≤b→Keeps [] w w1→K ⟨b,0,none⟩ w1) :
  New #[.string (BA []),.int .i64 0] 70 (fun a=>St (a.add 0) (.string x.lo) <| St (a.add 1) (.int .i64 x.shard) <| (K a)) w:=
 New_st (vs:=owR.c x) rfl (owR.one x) h
theorem Clone_Owner_k {w:World} {s:Sl} {l:List _} (h:RdE owR w s l) (hN:l.length≤100000000) {K:TR [.sc .sl]→Pr} (k:∀ r w',SlE owR w' r l→(∀ x∈blk r,w.heap.size≤x)→Keeps [] w w'→K (r,()) w'):Cl Pg i_slices_Clone_Owner [.slice s.p s.len s.cap] false [.sc .sl] K w:=
 slices_Clone_Owner_call s (Clone_of (ρ:=owR) (by rw [zc_Owner];rfl) (by omega) hN h k)
structure Lk where
 lo:ByteArray
 hi:ByteArray
 wr:Bool
deriving DecidableEq
def lkR:Rec Lk:=⟨[.s,.s,.b],fun x=>(x.lo,x.hi,x.wr,()),rfl,by simp⟩
theorem zc_Lock:zc Pg 99=#[.string (BA []),.string (BA []),.bool false]:=by kernel_rfl
theorem ld_Lock {w:World} {s:Sl} {l:List Lk} (h:RdE lkR w s l) {i:Nat} {x:Lk} (hx:l[i]?=some x) {K:ByteArray→ByteArray→Bool→Pr} (k:K x.lo x.hi x.wr w) :
  Ix s (i:Int) 3 (fun a=>LdS (a.add 0) fun x0=>LdS (a.add 1) fun x1=>LdB (a.add 2) fun x2=>K x0 x1 x2) w:=
 h.ld (K:=fun y=>K y.1 y.2.1 y.2.2.1) hx k
structure Rs where
 found:Bool
 value:ByteArray
 sp:Sl
 pairs:List Pa
def rsR:Rec Rs:=⟨[.b,.s,.sl],fun x=>(x.found,x.value,x.sp,()),rfl,by simp⟩
theorem zc_Result:zc Pg 83=#[.bool false,.string (BA []),.slice none 0 0]:=by kernel_rfl
structure Hd where
 txn:Int
 so:Sl
 ops:List Op
def hdR:Rec Hd:=⟨[.i .u64,.sl],fun x=>(x.txn,x.so,()),rfl,by simp⟩
theorem zc_Hold:zc Pg 60=#[.int .u64 0,.slice none 0 0]:=by kernel_rfl
theorem zo_Hold:∀ v∈(zc Pg 60).toList,v.oneCell'=true:=by rw [zc_Hold];simp [Value.oneCell']
theorem ld_Hold {w:World} {s:Sl} {l:List Hd} (h:RdE hdR w s l) {i:Nat} {x:Hd} (hx:l[i]?=some x) {K:Int→Sl→Pr} (k:K x.txn x.so w) :
  Ix s (i:Int) 2 (fun a=>LdI .u64 (a.add 0) fun x0=>LdL (a.add 1) fun x1=>K x0 x1) w:=
 h.ld (K:=fun y=>K y.1 y.2.1) hx k
theorem bx_Hold (x:Hd) {K:Addr→Pr} {w:World} (h:∀ b w1,w1.heap[b]?=some (.cells #[.int .u64 x.txn,.slice x.so.p x.so.len x.so.cap] 60 (0,0))→w.heap.size≤b→Keeps [] w w1→K ⟨b,0,none⟩ w1) :
  New #[.int .u64 0,.slice none 0 0] 60 (fun a=>St (a.add 0) (.int .u64 x.txn) <| St (a.add 1) (.slice x.so.p x.so.len x.so.cap) <| (K a)) w:=
 New_st (vs:=hdR.c x) rfl (hdR.one x) h
theorem Clone_Hold_k {w:World} {s:Sl} {l:List _} (h:RdE hdR w s l) (hN:l.length≤100000000) {K:TR [.sc .sl]→Pr} (k:∀ r w',SlE hdR w' r l→(∀ x∈blk r,w.heap.size≤x)→Keeps [] w w'→K (r,()) w'):Cl Pg i_slices_Clone_Hold [.slice s.p s.len s.cap] false [.sc .sl] K w:=
 slices_Clone_Hold_call s (Clone_of (ρ:=hdR) (by rw [zc_Hold];rfl) (by omega) hN h k)
theorem ix_Hold:IxFn Pg i_slices_IndexFunc_Hold hdR hdR.v:=fun h hp hN _ k=>slices_IndexFunc_Hold_call _ _ (IndexFunc_of (ρ:=hdR) (ldA_ok hdR) h hp hN k)
theorem ContainsFunc_Hold_k {w:World} {s:Sl} {l:List _} {f:Value} {p:_→Bool} {F:Nat→Prop} (h:RdE hdR w s l) (hp:Go.Sx.IsP Pg f hdR.v p F l w) (hN:l.length≤100000000) {K:TR [.sc .b]→Pr} (k:∀ w',Keeps [] w w'→K (l.any p,()) w'):Cl Pg i_slices_ContainsFunc_Hold [.slice s.p s.len s.cap,f] false [.sc .b] K w:=
 slices_ContainsFunc_Hold_call s f (ContainsFunc_of (ρ:=hdR) ix_Hold h hp hN k)
theorem Delete_Hold_k {w:World} {s:Sl} {l:List _} {i j:Nat} {y z:Int} (h:SlE hdR w s l) (hij:i≤j) (hj:j≤l.length) (hN:l.length≤100000000) (hy:y=(i:Int)) (hz:z=(j:Int)) {K:TR [.sc .sl]→Pr} (k:∀ r w',SlE hdR w' r (l.take i ++ l.drop j)→(∀ x∈blk r,x∈blk s)→Keeps (blk s) w w'→K (r,()) w'):Cl Pg i_slices_Delete_Hold [.slice s.p s.len s.cap,.int .i64 y,.int .i64 z] false [.sc .sl] K w:=
 slices_Delete_Hold_call s y z (Delete_of (ρ:=hdR) (by rw [zc_Hold];rfl) zo_Hold h hij hj hN hy hz k)
theorem Search_Hold_k {w:World} {s:Sl} {l:List _} {f:Value} {t:Int} {c:_→Int} (h:RdE hdR w s l) (hp:IsC Pg f hdR.v (.int .u64 t) c l w) (hs:l.Pairwise (fun a b=>c b < 0→c a < 0)) (hN:l.length≤100000000) {K:TR [.sc (.i .i64),.sc .b]→Pr} (k:∀ w',Keeps [] w w'→K ((bsAt c l:Int),bsIs c l,()) w'):Cl Pg i_slices_BinarySearchFunc_Hold [.slice s.p s.len s.cap,.int .u64 t,f] true [.sc (.i .i64),.sc .b] K w:=
 slices_BinarySearchFunc_Hold_call s t f (BinarySearchFunc_of (ρ:=hdR) (ldA_ok hdR) h hp hs hN k)
theorem ov_Hold:OvOk Pg 275 60 hdR.n:=by
 intro w a b o la ca lb cb cs all t fr ha hb hne h0 K h
 refine ⟨(false,()),w,?_,h⟩
 rw [show ([Value.slice (some ⟨a,0,none⟩) la ca,.slice (some ⟨b,o,none⟩) lb cb]:List Value).toArray=#[.slice (some ⟨a,0,none⟩) la ca,.slice (some ⟨b,o,none⟩) lb cb] from rfl,
  run_callFunc_extern Tryz.func275 (by kernel_rfl) (by kernel_rfl) (by kernel_rfl) (e:=Extern.SlicesOverlaps.overlaps #[34,34] #[4]) (by kernel_rfl),
  Lib.run_overlaps_apart w 34 4 60 (by kernel_rfl) 2 (fun w=>by kernel_rfl) ⟨a,0,none⟩ ⟨b,o,none⟩ la ca lb cb hne 60 t cs.size all.size (by simp [World.shape?,ha]) (by simp [World.shape?,hb]) h0 (by simp [World.frozen?,ha]) (by simp [World.frozen?,ha])]
 rfl
theorem Insert_Hold_k {w:World} {s:Sl} {l:List _} {a:Nat} {x:_} {i:Nat} (h:SlE hdR w s l) (ha:w.heap[a]?=some (.cells (hdR.c x).toArray 60 (0,0))) (hna:a ∉ blk s) (hi:i≤l.length) (hN:l.length≤100000000) {K:TR [.sc .sl]→Pr} (k:∀ r w',SlE hdR w' r (l.take i ++ x :: l.drop i)→(∀ y∈blk r,y∈blk s∨w.heap.size≤y)→Keeps (blk s) w w'→K (r,()) w'):Cl Pg i_slices_Insert_Hold [.slice s.p s.len s.cap,.int .i64 (i:Int),.slice (some ⟨a,0,none⟩) 1 1] false [.sc .sl] K w:=
 slices_Insert_Hold_call s (i:Int) ⟨some ⟨a,0,none⟩,1,1⟩ (Insert_of (ρ:=hdR) ov_Hold (by rw [zc_Hold];rfl) zo_Hold (by omega) hN h ha hna hi k)
structure Wt where
 txn:Int
 so:Sl
 sk:Sl
 next:Int
 ops:List Op
 locks:List Lk
def wtR:Rec Wt:=⟨[.i .u64,.sl,.sl,.i .i64],fun x=>(x.txn,x.so,x.sk,x.next,()),rfl,by simp⟩
theorem zc_wait:zc Pg 114=#[.int .u64 0,.slice none 0 0,.slice none 0 0,.int .i64 0]:=by kernel_rfl
theorem zo_wait:∀ v∈(zc Pg 114).toList,v.oneCell'=true:=by rw [zc_wait];simp [Value.oneCell']
theorem ld_wait {w:World} {s:Sl} {l:List Wt} (h:RdE wtR w s l) {i:Nat} {x:Wt} (hx:l[i]?=some x) {K:Int→Sl→Sl→Int→Pr} (k:K x.txn x.so x.sk x.next w) :
  Ix s (i:Int) 4 (fun a=>LdI .u64 (a.add 0) fun x0=>LdL (a.add 1) fun x1=>LdL (a.add 2) fun x2=>LdI .i64 (a.add 3) fun x3=>K x0 x1 x2 x3) w:=
 h.ld (K:=fun y=>K y.1 y.2.1 y.2.2.1 y.2.2.2.1) hx k
theorem bx_wait (x:Wt) {K:Addr→Pr} {w:World} (h:∀ b w1,w1.heap[b]?=some (.cells #[.int .u64 x.txn,.slice x.so.p x.so.len x.so.cap,.slice x.sk.p x.sk.len x.sk.cap,.int .i64 x.next] 114 (0,0))→w.heap.size≤b→Keeps [] w w1→K ⟨b,0,none⟩ w1) :
  New #[.int .u64 0,.slice none 0 0,.slice none 0 0,.int .i64 0] 114 (fun a=>St (a.add 0) (.int .u64 x.txn) <| St (a.add 1) (.slice x.so.p x.so.len x.so.cap) <| St (a.add 2) (.slice x.sk.p x.sk.len x.sk.cap) <| St (a.add 3) (.int .i64 x.next) <| (K a)) w:=
 New_st (vs:=wtR.c x) rfl (wtR.one x) h
theorem Delete_wait_k {w:World} {s:Sl} {l:List _} {i j:Nat} {y z:Int} (h:SlE wtR w s l) (hij:i≤j) (hj:j≤l.length) (hN:l.length≤100000000) (hy:y=(i:Int)) (hz:z=(j:Int)) {K:TR [.sc .sl]→Pr} (k:∀ r w',SlE wtR w' r (l.take i ++ l.drop j)→(∀ x∈blk r,x∈blk s)→Keeps (blk s) w w'→K (r,()) w'):Cl Pg i_slices_Delete_wait [.slice s.p s.len s.cap,.int .i64 y,.int .i64 z] false [.sc .sl] K w:=
 slices_Delete_wait_call s y z (Delete_of (ρ:=wtR) (by rw [zc_wait];rfl) zo_wait h hij hj hN hy hz k)
theorem Search_wait_k {w:World} {s:Sl} {l:List _} {f:Value} {t:Int} {c:_→Int} (h:RdE wtR w s l) (hp:IsC Pg f wtR.v (.int .u64 t) c l w) (hs:l.Pairwise (fun a b=>c b < 0→c a < 0)) (hN:l.length≤100000000) {K:TR [.sc (.i .i64),.sc .b]→Pr} (k:∀ w',Keeps [] w w'→K ((bsAt c l:Int),bsIs c l,()) w'):Cl Pg i_slices_BinarySearchFunc_wait [.slice s.p s.len s.cap,.int .u64 t,f] true [.sc (.i .i64),.sc .b] K w:=
 slices_BinarySearchFunc_wait_call s t f (BinarySearchFunc_of (ρ:=wtR) (ldA_ok wtR) h hp hs hN k)
theorem ov_wait:OvOk Pg 211 114 wtR.n:=by
 intro w a b o la ca lb cb cs all t fr ha hb hne h0 K h
 refine ⟨(false,()),w,?_,h⟩
 rw [show ([Value.slice (some ⟨a,0,none⟩) la ca,.slice (some ⟨b,o,none⟩) lb cb]:List Value).toArray=#[.slice (some ⟨a,0,none⟩) la ca,.slice (some ⟨b,o,none⟩) lb cb] from rfl,
  run_callFunc_extern Tryz.func211 (by kernel_rfl) (by kernel_rfl) (by kernel_rfl) (e:=Extern.SlicesOverlaps.overlaps #[90,90] #[4]) (by kernel_rfl),
  Lib.run_overlaps_apart w 90 4 114 (by kernel_rfl) 4 (fun w=>by kernel_rfl) ⟨a,0,none⟩ ⟨b,o,none⟩ la ca lb cb hne 114 t cs.size all.size (by simp [World.shape?,ha]) (by simp [World.shape?,hb]) h0 (by simp [World.frozen?,ha]) (by simp [World.frozen?,ha])]
 rfl
theorem Insert_wait_k {w:World} {s:Sl} {l:List _} {a:Nat} {x:_} {i:Nat} (h:SlE wtR w s l) (ha:w.heap[a]?=some (.cells (wtR.c x).toArray 114 (0,0))) (hna:a ∉ blk s) (hi:i≤l.length) (hN:l.length≤100000000) {K:TR [.sc .sl]→Pr} (k:∀ r w',SlE wtR w' r (l.take i ++ x :: l.drop i)→(∀ y∈blk r,y∈blk s∨w.heap.size≤y)→Keeps (blk s) w w'→K (r,()) w'):Cl Pg i_slices_Insert_wait [.slice s.p s.len s.cap,.int .i64 (i:Int),.slice (some ⟨a,0,none⟩) 1 1] false [.sc .sl] K w:=
 slices_Insert_wait_call s (i:Int) ⟨some ⟨a,0,none⟩,1,1⟩ (Insert_of (ρ:=wtR) ov_wait (by rw [zc_wait];rfl) zo_wait (by omega) hN h ha hna hi k)
structure Ev where
 txn:Int
 dead:Bool
deriving DecidableEq
def evR:Rec Ev:=⟨[.i .u64,.b],fun x=>(x.txn,x.dead,()),rfl,by simp⟩
theorem zc_event:zc Pg 282=#[.int .u64 0,.bool false]:=by kernel_rfl
theorem ld_event {w:World} {s:Sl} {l:List Ev} (h:RdE evR w s l) {i:Nat} {x:Ev} (hx:l[i]?=some x) {K:Int→Bool→Pr} (k:K x.txn x.dead w) :
  Ix s (i:Int) 2 (fun a=>LdI .u64 (a.add 0) fun x0=>LdB (a.add 1) fun x1=>K x0 x1) w:=
 h.ld (K:=fun y=>K y.1 y.2.1) hx k
structure Mg where
 kind:Int
 src:Int
 dst:Int
 client:Int
 code:Int
 peer:Int
 req:Int
 boot:Int
 txn:Int
 low:Int
 ver:Int
 epoch:Int
 move:Int
 attempt:Int
 n:Int
 flag:Bool
 rlo:ByteArray
 rhi:ByteArray
 so:Sl
 sr:Sl
 sw:Sl
 ops:List Op
 results:List Rs
 owners:List Ow
def mgR:Rec Mg:=⟨[.i .i64,.i .i64,.i .i64,.i .i64,.i .i64,.i .i64,.i .u64,.i .u64,.i .u64,.i .u64,.i .u64,.i .u64,.i .u64,.i .u64,.i .u64,.b,.s,.s,.sl,.sl,.sl],fun x=>(x.kind,x.src,x.dst,x.client,x.code,x.peer,x.req,x.boot,x.txn,x.low,x.ver,x.epoch,x.move,x.attempt,x.n,x.flag,x.rlo,x.rhi,x.so,x.sr,x.sw,()),rfl,by simp⟩
theorem zc_Msg:zc Pg 47=#[.int .i64 0,.int .i64 0,.int .i64 0,.int .i64 0,.int .i64 0,.int .i64 0,.int .u64 0,.int .u64 0,.int .u64 0,.int .u64 0,.int .u64 0,.int .u64 0,.int .u64 0,.int .u64 0,.int .u64 0,.bool false,.string (BA []),.string (BA []),.slice none 0 0,.slice none 0 0,.slice none 0 0]:=by kernel_rfl
theorem ld_Msg {w:World} {s:Sl} {l:List Mg} (h:RdE mgR w s l) {i:Nat} {x:Mg} (hx:l[i]?=some x) {K:Int→Int→Int→Int→Int→Int→Int→Int→Int→Int→Int→Int→Int→Int→Int→Bool→ByteArray→ByteArray→Sl→Sl→Sl→Pr} (k:K x.kind x.src x.dst x.client x.code x.peer x.req x.boot x.txn x.low x.ver x.epoch x.move x.attempt x.n x.flag x.rlo x.rhi x.so x.sr x.sw w) :
  Ix s (i:Int) 21 (fun a=>LdI .i64 (a.add 0) fun x0=>LdI .i64 (a.add 1) fun x1=>LdI .i64 (a.add 2) fun x2=>LdI .i64 (a.add 3) fun x3=>LdI .i64 (a.add 4) fun x4=>LdI .i64 (a.add 5) fun x5=>LdI .u64 (a.add 6) fun x6=>LdI .u64 (a.add 7) fun x7=>LdI .u64 (a.add 8) fun x8=>LdI .u64 (a.add 9) fun x9=>LdI .u64 (a.add 10) fun x10=>LdI .u64 (a.add 11) fun x11=>LdI .u64 (a.add 12) fun x12=>LdI .u64 (a.add 13) fun x13=>LdI .u64 (a.add 14) fun x14=>LdB (a.add 15) fun x15=>LdS (a.add 16) fun x16=>LdS (a.add 17) fun x17=>LdL (a.add 18) fun x18=>LdL (a.add 19) fun x19=>LdL (a.add 20) fun x20=>K x0 x1 x2 x3 x4 x5 x6 x7 x8 x9 x10 x11 x12 x13 x14 x15 x16 x17 x18 x19 x20) w:=
 h.ld (K:=fun y=>K y.1 y.2.1 y.2.2.1 y.2.2.2.1 y.2.2.2.2.1 y.2.2.2.2.2.1 y.2.2.2.2.2.2.1 y.2.2.2.2.2.2.2.1 y.2.2.2.2.2.2.2.2.1 y.2.2.2.2.2.2.2.2.2.1 y.2.2.2.2.2.2.2.2.2.2.1 y.2.2.2.2.2.2.2.2.2.2.2.1 y.2.2.2.2.2.2.2.2.2.2.2.2.1 y.2.2.2.2.2.2.2.2.2.2.2.2.2.1 y.2.2.2.2.2.2.2.2.2.2.2.2.2.2.1 y.2.2.2.2.2.2.2.2.2.2.2.2.2.2.2.1 y.2.2.2.2.2.2.2.2.2.2.2.2.2.2.2.2.1 y.2.2.2.2.2.2.2.2.2.2.2.2.2.2.2.2.2.1 y.2.2.2.2.2.2.2.2.2.2.2.2.2.2.2.2.2.2.1 y.2.2.2.2.2.2.2.2.2.2.2.2.2.2.2.2.2.2.2.1 y.2.2.2.2.2.2.2.2.2.2.2.2.2.2.2.2.2.2.2.2.1) hx k
def nmR:Rec Int:=Rec.sca (.i .u64) rfl
theorem zc_uint64:zc Pg 32=#[.int .u64 0]:=by kernel_rfl
theorem zo_uint64:∀ v∈(zc Pg 32).toList,v.oneCell'=true:=by rw [zc_uint64];simp [Value.oneCell']
theorem Clone_uint64_k {w:World} {s:Sl} {l:List _} (h:RdE nmR w s l) (hN:l.length≤100000000) {K:TR [.sc .sl]→Pr} (k:∀ r w',SlE nmR w' r l→(∀ x∈blk r,w.heap.size≤x)→Keeps [] w w'→K (r,()) w'):Cl Pg i_slices_Clone_uint64 [.slice s.p s.len s.cap] false [.sc .sl] K w:=
 slices_Clone_uint64_call s (Clone_of (ρ:=nmR) (by rw [zc_uint64];rfl) (by omega) hN h k)
theorem ix_uint64:IxFn Pg i_slices_IndexFunc_uint64 nmR (Kd.enc ((.i .u64))):=fun h hp hN _ k=>slices_IndexFunc_uint64_call _ _ (IndexFunc_of (ρ:=nmR) (ldK_ok (.i .u64) rfl) h hp hN k)
theorem DeleteFunc_uint64_k {w:World} {s:Sl} {l:List _} {f:Value} {p:_→Bool} (h:SlE nmR w s l) (hp:Go.Sx.IsP Pg f (Kd.enc ((.i .u64))) p (·∈blk s) l w) (hN:l.length≤100000000) {K:TR [.sc .sl]→Pr} (k:∀ r w',SlE nmR w' r (l.filter (fun x=>!p x))→(∀ x∈blk r,x∈blk s)→Keeps (blk s) w w'→K (r,()) w'):Cl Pg i_slices_DeleteFunc_uint64 [.slice s.p s.len s.cap,f] false [.sc .sl] K w:=
 slices_DeleteFunc_uint64_call s f (DeleteFunc_of (ρ:=nmR) ix_uint64 (rdrK_ok (.i .u64) rfl) (by rw [zc_uint64];rfl) zo_uint64 h hp hN k)
theorem ov_uint64:OvOk Pg 279 32 nmR.n:=by
 intro w a b o la ca lb cb cs all t fr ha hb hne h0 K h
 refine ⟨(false,()),w,?_,h⟩
 rw [show ([Value.slice (some ⟨a,0,none⟩) la ca,.slice (some ⟨b,o,none⟩) lb cb]:List Value).toArray=#[.slice (some ⟨a,0,none⟩) la ca,.slice (some ⟨b,o,none⟩) lb cb] from rfl,
  run_callFunc_extern Tryz.func279 (by kernel_rfl) (by kernel_rfl) (by kernel_rfl) (e:=Extern.SlicesOverlaps.overlaps #[35,35] #[4]) (by kernel_rfl),
  Lib.run_overlaps_apart w 35 4 32 (by kernel_rfl) 1 (fun w=>by kernel_rfl) ⟨a,0,none⟩ ⟨b,o,none⟩ la ca lb cb hne 32 t cs.size all.size (by simp [World.shape?,ha]) (by simp [World.shape?,hb]) h0 (by simp [World.frozen?,ha]) (by simp [World.frozen?,ha])]
 rfl
theorem Insert_uint64_k {w:World} {s:Sl} {l:List _} {a:Nat} {x:_} {i:Nat} (h:SlE nmR w s l) (ha:w.heap[a]?=some (.cells (nmR.c x).toArray 32 (0,0))) (hna:a ∉ blk s) (hi:i≤l.length) (hN:l.length≤100000000) {K:TR [.sc .sl]→Pr} (k:∀ r w',SlE nmR w' r (l.take i ++ x :: l.drop i)→(∀ y∈blk r,y∈blk s∨w.heap.size≤y)→Keeps (blk s) w w'→K (r,()) w'):Cl Pg i_slices_Insert_uint64 [.slice s.p s.len s.cap,.int .i64 (i:Int),.slice (some ⟨a,0,none⟩) 1 1] false [.sc .sl] K w:=
 slices_Insert_uint64_call s (i:Int) ⟨some ⟨a,0,none⟩,1,1⟩ (Insert_of (ρ:=nmR) ov_uint64 (by rw [zc_uint64];rfl) zo_uint64 (by omega) hN h ha hna hi k)
end Go.Proofs.YthkdehgfdllpoaaGreat
set_option linter.unusedVariables false
set_option linter.unusedSimpArgs false
namespace Go.Proofs.YthkdehgfdllpoaaGreat
open Go Go.Sx
def okR (lo hi:ByteArray):Bool:=!(decide (lo.size > 12) || decide (hi.size > 12) || (!(seq hi (BA [])) && !(slt lo hi)))
def leastR (a b:ByteArray):ByteArray:=if seq a (BA []) || (!(seq b (BA [])) && slt b a) then b else a
def maxR (a b:ByteArray):ByteArray:=if !(slt a b) then a else b
def meetsR (alo ahi blo bhi:ByteArray):Bool:=okR alo ahi && okR blo bhi && okR (maxR alo blo) (leastR ahi bhi)
def coversR (alo ahi blo bhi:ByteArray):Bool:=okR alo ahi && okR blo bhi && (slt alo blo || seq alo blo) && seq (leastR ahi bhi) bhi
theorem seq_eq (a b:ByteArray):seq a b=decide (a=b):=by
 unfold seq
 by_cases h:a=b
 ·subst h;simp
 ·rw [decide_eq_false h,beq_eq_false_iff_ne]
  intro e
  rw [ByteArray.toList_eq,ByteArray.toList_eq] at e
  exact h (ByteArray.ext (Array.toList_inj.1 e))
theorem slt_lt (a b:ByteArray):slt a b=decide (a.toList < b.toList):=Go.Proofs.bytesLess_eq _ _
theorem slt_irrefl (a:ByteArray):slt a a=false:=by rw [slt_lt];simp [List.lt_irrefl]
theorem slt_asymm {a b:ByteArray} (h:slt a b=true):slt b a=false:=by
 rw [slt_lt,decide_eq_true_iff] at h
 rw [slt_lt,decide_eq_false_iff_not]
 exact List.lt_asymm h
theorem slt_total {a b:ByteArray} (h:slt a b=false) (h2:slt b a=false):a=b:=by
 rw [slt_lt,decide_eq_false_iff_not] at h h2
 have:=List.le_antisymm (List.not_lt.1 h2) (List.not_lt.1 h)
 rw [ByteArray.toList_eq,ByteArray.toList_eq] at this
 exact ByteArray.ext (Array.toList_inj.1 this)
theorem okR_sizes {a b:ByteArray} (h:okR a b=true):a.size≤12∧b.size≤12:=by
 unfold okR at h
 simp at h
 omega
theorem least_ok (a b:ByteArray) (w:World):Cl Pg i_span_least [.string a,.string b] false [.sc .s] (fun r w'=>r.1=leastR a b∧w=w') w:=by
 refine Cl_gen fun R hR=>?_
 apply span_least_call
 have hR':R (leastR a b,()) w:=hR _ _ ⟨rfl,rfl⟩
 unfold span_least
 unfold leastR at hR'
 simp only [Jp]
 cases h1:seq a (BA []) <;> cases h2:seq b (BA []) <;> cases h3:slt b a <;> simp only [Br,Bool.not_true,Bool.not_false] <;> simpa [h1,h2,h3] using hR'
theorem all_ok (w:World):Cl Pg i_span_all [] false [.ag [.s,.s]] (fun r w'=>r.1.1=BA []∧r.1.2.1=BA []∧Keeps [] w w') w:=by
 refine Cl_gen fun R hR=>?_
 apply span_all_call
 unfold span_all
 refine New_bx fun b w1 hb hn k1=>?_
 simp only [add_of]
 refine set_box hb 0 _ rfl (by simp) fun w2 hb2 k2=>?_
 refine set_box hb2 1 _ rfl (by simp) fun w3 hb3 k3=>?_
 have hb4:w3.heap[b]?=some (.cells #[.string (BA []),.string (BA [])] 37 (0,0)):=hb3
 simp only [sxn,hb4,sxl,Nat.reduceAdd]
 exact hR ((BA [],BA [],()),()) _ ⟨rfl,rfl,kpx (kpx k1 k2 (by simpa using hn)) k3 (by simpa using hn)⟩
theorem nat12 (n:Nat):decide (((n:Nat):Int) > 12)=decide (n > 12):=decide_eq_decide.2 (by omega)
theorem RCheck_ok (lo hi:ByteArray) (w:World):Cl Pg i_sumpterref02_Check [.agg #[.string lo,.string hi]] false [.sc (.i .i64)] (fun r w'=>r.1=(if okR lo hi then 0 else 21)∧Keeps [] w w') w:=by
 refine Cl_gen fun R hR=>?_
 apply sumpterref02_Check_call
 unfold sumpterref02_Check
 refine New_bx fun b w1 hb hn k1=>?_
 have hR':R (if okR lo hi then 0 else 21,()) w1:=hR _ _ ⟨rfl,k1⟩
 unfold okR at hR'
 simp only [Jp,sxn,hb,sxl,Nat.reduceAdd,nat12]
 cases h1:decide (lo.size > 12) <;> cases h2:decide (hi.size > 12) <;> cases h3:seq hi (BA []) <;> cases h4:slt lo hi <;> rw [h1,h2,h3,h4] at hR' <;> simp only [sxn,hb,sxl,Nat.reduceAdd,nat12,h1,h2,h3,h4,Bool.not_true,Bool.not_false] <;> exact hR'
theorem Check_ok (lo hi:ByteArray) (w:World):Cl Pg i_span_Check [.agg #[.string lo,.string hi]] false [.sc (.i .i64)] (fun r w'=>r.1=(if okR lo hi then 0 else 21)∧Keeps [] w w') w:=by
 refine Cl_gen fun R hR=>?_
 apply span_Check_call
 unfold span_Check
 refine New_bx fun b w1 hb hn k1=>?_
 simp only [sxn,hb,sxl,Nat.reduceAdd]
 refine Cl.mono (all_ok _) ?_
 rintro ⟨⟨ra,rb,_⟩,_⟩ w2 ⟨e1,e2,k2⟩
 dsimp only at e1 e2
 subst e1 e2
 have hb2:w2.heap[b]?=_:=k2.at (show w1.drew.heap[b]?=_ from hb) (by simp)
 have k02:Keeps [] w w2:=kp0 k1.drew k2
 simp only [sxn,hb2,sxl,Nat.reduceAdd]
 refine ⟨by trivial,?_⟩
 have hR':R (if okR lo hi then 0 else 21,()) w2:=hR _ _ ⟨rfl,k02⟩
 rw [Bool.and_true]
 cases h0:seq lo (BA []) && seq hi (BA []) with
 | true=>
  rw [Bool.and_eq_true,seq_eq,seq_eq,decide_eq_true_iff,decide_eq_true_iff] at h0
  obtain ⟨rfl,rfl⟩:=h0
  simp only [Br]
  simpa [okR,BA,ByteArray.size,seq_eq] using hR'
 | false=>
  unfold okR at hR'
  simp only [Jp,sxn,hb2,sxl,Nat.reduceAdd,nat12]
  cases h1:decide (lo.size > 12) <;> cases h2:decide (hi.size > 12) <;> cases h3:seq hi (BA []) <;> cases h4:slt lo hi <;> rw [h1,h2,h3,h4] at hR' <;> simp only [sxn,hb2,sxl,Nat.reduceAdd,nat12,h1,h2,h3,h4,Bool.not_true,Bool.not_false] <;> exact hR'
theorem ok0 (c:Bool):((if c then (0:Int) else 21) == 0)=c:=by cases c <;> rfl
theorem ok1 (c:Bool):((if c then (0:Int) else 21) != 0)=!c:=by cases c <;> rfl
def mLo (a b c d:ByteArray):ByteArray:=if meetsR a b c d then maxR a c else BA []
def mHi (a b c d:ByteArray):ByteArray:=if meetsR a b c d then leastR b d else BA []
theorem Meet_full (a b c d:ByteArray) (w:World):Cl Pg i_span_Meet [.agg #[.string a,.string b],.agg #[.string c,.string d]] true [.ag [.s,.s],.sc .b] (fun r w'=>r=((mLo a b c d,mHi a b c d,()),meetsR a b c d,())∧Keeps [] w w') w:=by
 refine Cl_gen fun R hR=>?_
 apply span_Meet_call
 unfold span_Meet
 refine New_bx fun a1 w1 h1 n1 k1=>?_
 refine New_bx fun a2 w2 h2 n2 k2=>?_
 have h1:=k2.at h1 (by simp)
 refine New_bx fun a3 w3 h3 n3 k3=>?_
 have h1:=k3.at h1 (by simp)
 have h2:=k3.at h2 (by simp)
 have k03:=kp0 (kp0 k1 k2) k3
 have n3':w.heap.size≤a3:=by have:=k1.size;have:=k2.size;omega
 clear k1 k2 k3
 refine Jp_of (fun s w'=>∃ x,s=(some ⟨x,0,none⟩,())∧w'.heap[x]?=some (.cells #[.string (maxR a c),.string (leastR b d)] 37 (0,0))∧Keeps [] w3 w') (fun J hJ=>?_) ?_
 ·simp only [sxn,h1,h2,sxl,Nat.reduceAdd]
  refine ⟨?_,?_⟩
  ·refine Cl.mono (least_ok _ _ _) ?_
   rintro ⟨r,_⟩ _ ⟨e,rfl⟩
   dsimp only at e
   subst e
   simp only [sxn,h1,h2,sxl,Nat.reduceAdd]
   refine ⟨by trivial,by trivial,?_⟩
   refine New_bx fun x w4 h4 n4 k4=>?_
   have h1:=k4.at (w:=w3.drew) h1 (by simp)
   have h2:=k4.at (w:=w3.drew) h2 (by simp)
   simp only [sxn,h1,h2,sxl,Nat.reduceAdd]
   refine ⟨by trivial,by trivial,by trivial,by trivial,?_⟩
   refine set_box h4 0 _ rfl (by simp) fun w5 h5 k5=>?_
   refine set_box h5 1 _ rfl (by simp) fun w6 h6 k6=>?_
   exact hJ _ _ ⟨x,rfl,h6,kpx (kpx (kp0 (Keeps.refl [] w3).drew k4) k5 (by simpa using n4)) k6 (by simpa using n4)⟩
  ·refine New_bx fun x w4 h4 n4 k4=>?_
   have h1:=k4.at (w:=w3.drew) h1 (by simp)
   have h2:=k4.at (w:=w3.drew) h2 (by simp)
   simp only [sxn,h1,h2,sxl,Nat.reduceAdd]
   refine ⟨by trivial,by trivial,by trivial,by trivial,?_⟩
   refine Cl.mono (least_ok _ _ _) ?_
   rintro ⟨r,_⟩ _ ⟨e,rfl⟩
   dsimp only at e
   subst e
   simp only [sxn,h1,h2,sxl,Nat.reduceAdd]
   refine ⟨by trivial,by trivial,?_⟩
   refine set_box h4 0 _ rfl (by simp) fun w5 h5 k5=>?_
   refine set_box h5 1 _ rfl (by simp) fun w6 h6 k6=>?_
   exact hJ _ _ ⟨x,rfl,h6,kpx (kpx (kp0 (Keeps.refl [] w3).drew k4) k5 (by simpa using n4)) k6 (by simpa using n4)⟩
 ·rintro _ w4 ⟨x,rfl,h4,k4⟩
  have h1:=k4.at h1 (by simp)
  have h2:=k4.at h2 (by simp)
  have h3:=k4.at h3 (by simp)
  have k04:=kp0 k03 k4
  refine Jp_of (fun s w'=>s=(!(meetsR a b c d),())∧Keeps [] w4 w') (fun J hJ=>?_) ?_
  ·simp only [sxn,h1,sxl,Nat.reduceAdd]
   refine Cl.mono (Check_ok _ _ _) ?_
   rintro ⟨r,_⟩ w5 ⟨e,k5⟩
   dsimp only at e
   subst e
   simp only [ok1]
   unfold meetsR at hJ
   cases c1:okR a b with
   | false=>exact hJ _ _ ⟨by rw [c1];rfl,k5⟩
   | true=>
   have h2:=k5.at h2 (by simp)
   have h4:=k5.at h4 (by simp)
   simp only [sxn,h2,sxl,Nat.reduceAdd,Bool.not_true]
   refine Cl.mono (Check_ok _ _ _) ?_
   rintro ⟨r,_⟩ w6 ⟨e,k6⟩
   dsimp only at e
   subst e
   simp only [ok1]
   cases c2:okR c d with
   | false=>exact hJ _ _ ⟨by rw [c1,c2];rfl,kp0 k5 k6⟩
   | true=>
   have h4:=k6.at h4 (by simp)
   simp only [sxn,h4,sxl,Nat.reduceAdd,Bool.not_true]
   refine Cl.mono (Check_ok _ _ _) ?_
   rintro ⟨r,_⟩ w7 ⟨e,k7⟩
   dsimp only at e
   subst e
   simp only [ok1]
   exact hJ _ _ ⟨by rw [c1,c2];rfl,kp0 (kp0 k5 k6) k7⟩
  ·rintro _ w5 ⟨rfl,k5⟩
   have h3:=k5.at h3 (by simp)
   have h4:=k5.at h4 (by simp)
   have k05:=kp0 k04 k5
   cases cm:meetsR a b c d with
   | false=>
    simp only [sxn,Bool.not_false,Nat.reduceAdd]
    refine set_box h3 0 _ rfl (by simp) fun w6 h6 k6=>?_
    refine set_box h6 1 _ rfl (by simp) fun w7 h7 k7=>?_
    have h7':w7.heap[a3]?=some (.cells #[.string (BA []),.string (BA [])] 37 (0,0)):=h7
    simp only [sxn,h7',sxl,Nat.reduceAdd]
    exact hR _ _ ⟨by unfold mLo mHi;rw [cm];rfl,kpx (kpx k05 k6 (by simpa using n3')) k7 (by simpa using n3')⟩
   | true=>
    simp only [sxn,Bool.not_true,Nat.reduceAdd,h4,sxl]
    refine set_box h3 0 _ rfl (by simp) fun w6 h6 k6=>?_
    refine set_box h6 1 _ rfl (by simp) fun w7 h7 k7=>?_
    have h7':w7.heap[a3]?=some (.cells #[.string (maxR a c),.string (leastR b d)] 37 (0,0)):=h7
    simp only [sxn,h7',sxl,Nat.reduceAdd]
    exact hR _ _ ⟨by unfold mLo mHi;rw [cm];rfl,kpx (kpx k05 k6 (by simpa using n3')) k7 (by simpa using n3')⟩
theorem Meet_ok (a b c d:ByteArray) (w:World):Cl Pg i_span_Meet [.agg #[.string a,.string b],.agg #[.string c,.string d]] true [.ag [.s,.s],.sc .b] (fun r w'=>r.2.1=meetsR a b c d∧Keeps [] w w') w:=
 Cl.mono (Meet_full a b c d w) (by rintro r w' ⟨rfl,k⟩;exact ⟨rfl,k⟩)
theorem Covers_ok (a b c d:ByteArray) (w:World):Cl Pg i_span_Covers [.agg #[.string a,.string b],.agg #[.string c,.string d]] false [.sc .b] (fun r w'=>r.1=coversR a b c d∧Keeps [] w w') w:=by
 refine Cl_gen fun R hR=>?_
 apply span_Covers_call
 unfold span_Covers
 refine New_bx fun a1 w1 h1 n1 k1=>?_
 refine New_bx fun a2 w2 h2 n2 k2=>?_
 have h1:=k2.at h1 (by simp)
 have k02:=(kp0 k1 k2).drew
 unfold coversR at hR
 simp only [sxn,h1,sxl,Nat.reduceAdd]
 refine Cl.mono (Check_ok _ _ _) ?_
 rintro ⟨r,_⟩ w5 ⟨e,k5⟩
 dsimp only at e
 subst e
 simp only [ok0]
 cases c1:okR a b with
 | false=>exact hR _ _ ⟨by rw [c1];rfl,kp0 k02 k5⟩
 | true=>
 have h1:=k5.at (w:=w2.drew) h1 (by simp)
 have h2:=k5.at (w:=w2.drew) h2 (by simp)
 simp only [sxn,h2,sxl,Nat.reduceAdd]
 refine Cl.mono (Check_ok _ _ _) ?_
 rintro ⟨r,_⟩ w6 ⟨e,k6⟩
 dsimp only at e
 subst e
 simp only [ok0]
 have k06:=kp0 (kp0 k02 k5) k6
 cases c2:okR c d with
 | false=>exact hR _ _ ⟨by rw [c1,c2];rfl,k06⟩
 | true=>
 have h1:=k6.at h1 (by simp)
 have h2:=k6.at h2 (by simp)
 simp only [sxn,h1,h2,sxl,Nat.reduceAdd]
 cases c3:slt a c || seq a c with
 | false=>exact hR _ _ ⟨by rw [c1,c2,c3];rfl,k06⟩
 | true=>
 simp only [sxn,h1,h2,sxl,Nat.reduceAdd]
 refine Cl.mono (least_ok _ _ _) ?_
 rintro ⟨r,_⟩ _ ⟨e,rfl⟩
 dsimp only at e
 subst e
 simp only [sxn,h1,h2,sxl,Nat.reduceAdd]
 refine ⟨by trivial,?_⟩
 exact hR _ _ ⟨by rw [c1,c2,c3];rfl,k06⟩
theorem SCheck_k (lo hi:ByteArray) {w:World} {K:TR [.sc (.i .i64)]→Pr} (k:∀ w',Keeps [] w w'→K (if okR lo hi then 0 else 21,()) w'):Cl Pg i_span_Check [.agg #[.string lo,.string hi]] false [.sc (.i .i64)] K w:=
 Cl.mono (Check_ok lo hi w) (by rintro ⟨r,_⟩ w' ⟨e,kk⟩;dsimp only at e;subst e;exact k w' kk)
theorem Meet_k (a b c d:ByteArray) {w:World} {K:TR [.ag [.s,.s],.sc .b]→Pr} (k:∀ w',Keeps [] w w'→K ((mLo a b c d,mHi a b c d,()),meetsR a b c d,()) w'):Cl Pg i_span_Meet [.agg #[.string a,.string b],.agg #[.string c,.string d]] true [.ag [.s,.s],.sc .b] K w:=
 Cl.mono (Meet_full a b c d w) (by rintro r w' ⟨rfl,kk⟩;exact k w' kk)
theorem Covers_k (a b c d:ByteArray) {w:World} {K:TR [.sc .b]→Pr} (k:∀ w',Keeps [] w w'→K (coversR a b c d,()) w'):Cl Pg i_span_Covers [.agg #[.string a,.string b],.agg #[.string c,.string d]] false [.sc .b] K w:=
 Cl.mono (Covers_ok a b c d w) (by rintro ⟨r,_⟩ w' ⟨e,kk⟩;dsimp only at e;subst e;exact k w' kk)
theorem RSCheck_k (lo hi:ByteArray) {w:World} {K:TR [.sc (.i .i64)]→Pr} (k:∀ w',Keeps [] w w'→K (if okR lo hi then 0 else 21,()) w'):Cl Pg i_sumpterref02_Check [.agg #[.string lo,.string hi]] false [.sc (.i .i64)] K w:=
 Cl.mono (RCheck_ok lo hi w) (by rintro ⟨r,_⟩ w' ⟨e,kk⟩;dsimp only at e;subst e;exact k w' kk)
def okK (k:ByteArray):Bool:=!(seq k (BA []) || decide (k.size > 12))
theorem CheckKey_k (key:ByteArray) {w:World} {K:TR [.sc (.i .i64)]→Pr} (k:K (if okK key then 0 else 20,()) w):Cl Pg i_span_CheckKey [.string key] false [.sc (.i .i64)] K w:=by
 apply span_CheckKey_call
 unfold span_CheckKey
 unfold okK at k
 simp only [Jp,nat12]
 cases h1:seq key (BA []) <;> cases h2:decide (key.size > 12) <;> rw [h1,h2] at k <;> exact k
theorem RCheckKey_k (key:ByteArray) {w:World} {K:TR [.sc (.i .i64)]→Pr} (k:K (if okK key then 0 else 20,()) w):Cl Pg i_sumpterref02_CheckKey [.string key] false [.sc (.i .i64)] K w:=by
 apply sumpterref02_CheckKey_call
 unfold sumpterref02_CheckKey
 unfold okK at k
 have h0:decide (((key.size:Nat):Int) < 1)=seq key (BA []):=by
  rw [seq_eq]
  refine decide_eq_decide.2 ⟨fun h=>?_,fun h=>by rw [h];decide⟩
  exact ByteArray.ext (Array.eq_empty_of_size_eq_zero (by have:key.data.size=key.size:=rfl;omega))
 simp only [Jp,nat12]
 first
  | (rw [h0];cases h1:seq key (BA []) <;> cases h2:decide (key.size > 12) <;> rw [h1,h2] at k <;> exact k)
  | (cases h1:seq key (BA []) <;> cases h2:decide (key.size > 12) <;> rw [h1,h2] at k <;> exact k)
theorem okK_sz {k:ByteArray} (h:okK k=true):0 < k.size∧k.size≤12:=by
 unfold okK at h
 rw [seq_eq] at h
 simp at h
 refine ⟨Nat.pos_of_ne_zero fun h0=>h.1 ?_,h.2⟩
 exact ByteArray.ext (Array.eq_empty_of_size_eq_zero (by have:k.data.size=k.size:=rfl;omega))
end Go.Proofs.YthkdehgfdllpoaaGreat
set_option linter.unusedVariables false
set_option linter.unusedSimpArgs false
namespace Go.Proofs.YthkdehgfdllpoaaGreat
open Go Go.Sx
structure Ak where
 n:Int
 lo:ByteArray
 hi:ByteArray
 wr:Bool
deriving DecidableEq
instance:Inhabited Ak:=⟨⟨0,BA [],BA [],false⟩⟩
def akR:Rec Ak:=⟨[.i .u64,.s,.s,.b],fun x=>(x.n,x.lo,x.hi,x.wr,()),rfl,by simp⟩
abbrev As (w:World) (s:Sl) (l:List Ak):Prop:=SlE akR w s l
def vA (x:Ak):Value:=.agg #[.int .u64 x.n,.string x.lo,.string x.hi,.bool x.wr]
theorem as_len {w:World} {s:Sl} {l:List Ak} (h:As w s l):s.len=l.length:=h.len'
theorem as_ld {w:World} {s:Sl} {l:List Ak} (h:As w s l) {i:Nat} {x:Ak} (hx:l[i]?=some x) {K:Int→ByteArray→ByteArray→Bool→Pr} (k:K x.n x.lo x.hi x.wr w) :
  Ix s (i:Int) 4 (fun a=>LdI .u64 (a.add 0) fun x1=>LdS (a.add 1) fun x2=>LdS (a.add 2) fun x3=>LdB (a.add 3) fun x4=>K x1 x2 x3 x4) w:=
 h.rde.ld (K:=fun y=>K y.1 y.2.1 y.2.2.1 y.2.2.2.1) hx k
theorem bx4 {n:Int} {lo hi:ByteArray} {wr:Bool} {K:Addr→Pr} {w:World} (h:∀ b w1,w1.heap[b]?=some (.cells #[.int .u64 n,.string lo,.string hi,.bool wr] 146 (0,0))→w.heap.size≤b→Keeps [] w w1→K ⟨b,0,none⟩ w1) :
  New #[(.int .u64 0),(.string (BA [])),(.string (BA [])),(.bool false)] 146 (fun a=>St (a.add 0) (.int .u64 n) <| St (a.add 1) (.string lo) <| St (a.add 2) (.string hi) <| St (a.add 3) (.bool wr) (K a)) w:=
 New_st (vs:=[.int .u64 n,.string lo,.string hi,.bool wr]) rfl (by simp [Value.oneCell']) h
def wayA (x y:Ak):Bool:=meetsR x.lo x.hi y.lo y.hi && (x.n != y.n && (x.wr || y.wr))
def IsP (f:Value) (p:Ak→Bool) (m:List Nat) (w:World):Prop:=∀ w',Keeps m w w'→∀ x,CallV Pg f [vA x] false [.sc .b] (fun r w''=>r.1=p x∧Keeps [] w' w'') w'
theorem IsP.to {f:Value} {p:Ak→Bool} {m:List Nat} {w w1:World} (h:IsP f p m w) (hk:Keeps m w w1):IsP f p m w1:=fun w' k x=>h w' (hk.trans k (fun _ hx=>.inl hx)) x
theorem IsP.gen {f:Value} {p:Ak→Bool} {m:List Nat} {l:List Ak} {w:World} (h:IsP f p m w):Go.Sx.IsP Pg f akR.v p (·∈m) l w:=by
 intro w' k x _ K hK
 obtain ⟨m',h1,h2⟩:∃ m',Keeps m' w w'∧∀ x∈m',x∈m:=by
  refine ⟨m,⟨k.os,k.tape,k.output,k.size,fun i hi hn=>k.get i hi hn⟩,fun _ h=>h⟩
 refine CallV.mono (h w' (h1.mono fun y hy=>.inl (h2 y hy)) x) ?_
 rintro ⟨r,_⟩ w2 ⟨e,k2⟩
 dsimp only at e
 subst e
 exact hK w2 k2
theorem of_ok (n:Int) (w:World):Cl Pg i_locks_of [.int .u64 n] false [.sc .v] (fun r w'=>∃ e,w.heap.size≤e∧(∀ m,e ∉ m→IsP r.1 (fun x=>x.n == n) m w')∧Keeps [] w w') w:=by
 refine Cl_gen fun R hR=>?_
 apply locks_of_call
 unfold locks_of
 refine New_bx fun e w1 h1 n1 k1=>?_
 refine hR _ _ ⟨e,n1,fun m hm w2 k2 x=>?_,k1⟩
 have h1:=k2.at h1 hm
 refine CallV_fn (by kernel_rfl) ?_
 refine Cl_gen fun R' hR'=>?_
 apply locks_of_1_call
 unfold locks_of_1
 refine New_bx fun b w3 h3 n3 k3=>?_
 have h1:=k3.at h1 (by simp)
 simp only [sxn,h3,h1,sxl,Nat.reduceAdd]
 exact hR' _ _ ⟨rfl,k3⟩
theorem against_ok (x:Ak) (w:World):Cl Pg i_locks_against [vA x] false [.sc .v] (fun r w'=>∃ e,w.heap.size≤e∧(∀ m,e ∉ m→IsP r.1 (fun y=>wayA x y) m w')∧Keeps [] w w') w:=by
 refine Cl_gen fun R hR=>?_
 apply locks_against_call
 unfold locks_against
 refine New_bx fun e w1 h1 n1 k1=>?_
 refine hR _ _ ⟨e,n1,fun m hm w2 k2 y=>?_,k1⟩
 have h1:=k2.at h1 hm
 refine CallV_fn (by kernel_rfl) ?_
 refine Cl_gen fun R' hR'=>?_
 apply locks_against_1_call
 unfold locks_against_1
 refine New_bx fun b w3 h3 n3 k3=>?_
 have h1:=k3.at h1 (by simp)
 simp only [sxn,h3,h1,sxl,Nat.reduceAdd]
 refine Cl.mono (Meet_ok _ _ _ _ _) ?_
 rintro ⟨s,r,_⟩ w4 ⟨e4,k4⟩
 dsimp only at e4
 subst e4
 have h1:=k4.at h1 (by simp)
 have h3:=k4.at h3 (by simp)
 have l1:=hp_lt h1
 have l3:=hp_lt h3
 refine New_bx fun c w5 h5 n5 k5=>?_
 have h1:=k5.at h1 (by simp)
 have h3:=k5.at h3 (by simp)
 have n5':w2.heap.size≤c:=by have:=k3.size;have:=k4.size;omega
 simp only [add_of,Nat.reduceAdd]
 refine set_box h5 0 _ rfl (by simp) fun w6 h6 k6=>?_
 refine set_box h6 1 _ rfl (by simp) fun w7 h7 k7=>?_
 have x1:e ∉ [c]:=by simp;omega
 have x3:b ∉ [c]:=by simp;omega
 have h1:=k7.at (k6.at h1 x1) x1
 have h3:=k7.at (k6.at h3 x3) x3
 have k27:=kpx (kpx (kp0 (kp0 k3 k4) k5) k6 (by simpa using n5')) k7 (by simpa using n5')
 cases c1:meetsR x.lo x.hi y.lo y.hi with
 | false=>exact hR' _ _ ⟨by show _=wayA x y;unfold wayA;rw [c1];rfl,k27⟩
 | true=>
 simp only [sxn,h3,h1,sxl,Nat.reduceAdd]
 cases c2:x.n != y.n with
 | false=>exact hR' _ _ ⟨by show _=wayA x y;unfold wayA;rw [c1,c2];rfl,k27⟩
 | true=>
 simp only [sxn,h3,h1,sxl,Nat.reduceAdd]
 cases c3:x.wr with
 | true=>exact hR' _ _ ⟨by show _=wayA x y;unfold wayA;rw [c1,c2,c3];rfl,k27⟩
 | false=>
 simp only [sxn,h3,h1,sxl,Nat.reduceAdd]
 exact hR' _ _ ⟨by show _=wayA x y;unfold wayA;rw [c1,c2,c3];rfl,k27⟩
theorem zcA:zc Pg 146=#[.int .u64 0,.string (BA []),.string (BA []),.bool false]:=by kernel_rfl
theorem zcA1:∀ v∈(zc Pg 146).toList,v.oneCell'=true:=by rw [zcA];simp [Value.oneCell']
theorem zc26e:zc Pg 32=#[.int .u64 0]:=by kernel_rfl
theorem zc26:∀ v∈(zc Pg 32).toList,v.oneCell'=true:=by rw [zc26e];simp [Value.oneCell']
theorem ixA:IxFn Pg i_slices_IndexFunc_Ask akR akR.v:=by
 intro w s l f p F h hp hN K k
 exact slices_IndexFunc_Ask_call s f (IndexFunc_of (ldA_ok akR) h hp hN k)
theorem IndexFunc_ok {w:World} {s:Sl} {l:List Ak} {f:Value} {p:Ak→Bool} (h:As w s l) (hp:IsP f p [] w) (hN:l.length≤1000) :
  Cl Pg i_slices_IndexFunc_Ask [.slice s.p s.len s.cap,f] false [.sc (.i .i64)] (fun r w'=>((∃ (i:Nat) (x:Ak),r.1=(i:Int)∧l[i]?=some x∧p x=true∧∀ y∈l.take i,p y=false)∨(r.1=-1∧∀ y∈l,p y=false))∧Keeps [] w w') w:=by
 refine ixA h.rde (hp.gen (l:=l)) (by omega) ?_
 intro w' k
 refine ⟨?_,k⟩
 unfold idxI
 cases hf:l.findIdx? p with
 | none=>exact .inr ⟨rfl,List.findIdx?_eq_none_iff.1 hf⟩
 | some i=>
  obtain ⟨h1,h2,h3⟩:=List.findIdx?_eq_some_iff_getElem.1 hf
  refine .inl ⟨i,_,rfl,List.getElem?_eq_getElem h1,h2,fun y hy=>?_⟩
  obtain ⟨j,hj,rfl⟩:=List.mem_take_iff_getElem.1 hy
  have:=h3 j (by omega)
  simpa using this
theorem ContainsFunc_ok {w:World} {s:Sl} {l:List Ak} {f:Value} {p:Ak→Bool} (h:As w s l) (hp:IsP f p [] w) (hN:l.length≤1000) :
  Cl Pg i_slices_ContainsFunc_Ask [.slice s.p s.len s.cap,f] false [.sc .b] (fun r w'=>r.1=l.any p∧Keeps [] w w') w:=
 slices_ContainsFunc_Ask_call s f (ContainsFunc_of ixA h.rde (hp.gen (l:=l)) (by omega) fun w' k=>⟨rfl,k⟩)
theorem DeleteFunc_ok {w:World} {s:Sl} {l:List Ak} {f:Value} {p:Ak→Bool} (h:As w s l) (hp:IsP f p (blk s) w) (hN:l.length≤1000) :
  Cl Pg i_slices_DeleteFunc_Ask [.slice s.p s.len s.cap,f] false [.sc .sl] (fun r w'=>As w' r.1 (l.filter (fun x=>!p x))∧(∀ x∈blk r.1,x∈blk s)∧Keeps (blk s) w w') w:=
 slices_DeleteFunc_Ask_call s f (DeleteFunc_of (ρ:=akR) ixA (rdrA_ok akR rfl) (by rw [zcA];rfl) zcA1 h (hp.gen (l:=l)) (by omega) fun r w' a b c=>⟨a,b,c⟩)
theorem Delete_ok {w:World} {s:Sl} {l:List Ak} (h:As w s l) {i:Nat} (hi:i < l.length) (hN:l.length≤1000) {y z:Int} (hy:y=(i:Int)) (hz:z=((i + 1:Nat):Int)) :
  Cl Pg i_slices_Delete_Ask [.slice s.p s.len s.cap,.int .i64 y,.int .i64 z] false [.sc .sl] (fun r w'=>As w' r.1 (l.eraseIdx i)∧(∀ x∈blk r.1,x∈blk s)∧Keeps (blk s) w w') w:=
 slices_Delete_Ask_call s y z (Delete_of (ρ:=akR) (by rw [zcA];rfl) zcA1 h (Nat.le_succ i) hi (by omega) hy hz fun r w' a b c=>⟨by rw [List.eraseIdx_eq_take_drop_succ];exact a,b,c⟩)
theorem ovA:OvOk Pg 111 146 akR.n:=by
 intro w a b o la ca lb cb cs all t fr ha hb hne h0 K h
 refine ⟨(false,()),w,?_,h⟩
 rw [show ([Value.slice (some ⟨a,0,none⟩) la ca,.slice (some ⟨b,o,none⟩) lb cb]:List Value).toArray=#[.slice (some ⟨a,0,none⟩) la ca,.slice (some ⟨b,o,none⟩) lb cb] from rfl,
  run_callFunc_extern Tryz.func111 (by kernel_rfl) (by kernel_rfl) (by kernel_rfl) (e:=Extern.SlicesOverlaps.overlaps #[139,139] #[4]) (by kernel_rfl),
  Lib.run_overlaps_apart w 139 4 146 (by kernel_rfl) 4 (fun w=>by kernel_rfl) ⟨a,0,none⟩ ⟨b,o,none⟩ la ca lb cb hne 146 t cs.size all.size (by simp [World.shape?,ha]) (by simp [World.shape?,hb]) h0 (by simp [World.frozen?,ha]) (by simp [World.frozen?,ha])]
 rfl
theorem Insert_ok {w:World} {s:Sl} {l:List Ak} (h:As w s l) {a:Nat} {x:Ak} (ha:w.heap[a]?=some (.cells #[.int .u64 x.n,.string x.lo,.string x.hi,.bool x.wr] 146 (0,0))) (hna:a ∉ blk s) {i:Nat} (hi:i≤l.length) (hN:l.length≤1000) :
  Cl Pg i_slices_Insert_Ask [.slice s.p s.len s.cap,.int .i64 (i:Int),.slice (some ⟨a,0,none⟩) 1 1] false [.sc .sl]
   (fun r w'=>As w' r.1 (l.take i ++ x :: l.drop i)∧(∀ y∈blk r.1,y∈blk s∨w.heap.size≤y)∧Keeps (blk s) w w') w:=
 slices_Insert_Ask_call s (i:Int) ⟨some ⟨a,0,none⟩,1,1⟩ (Insert_of (ρ:=akR) ovA (by rw [zcA];rfl) zcA1 (by omega) (by omega) h ha hna hi fun r w' a b c=>⟨a,b,c⟩)
end Go.Proofs.YthkdehgfdllpoaaGreat
