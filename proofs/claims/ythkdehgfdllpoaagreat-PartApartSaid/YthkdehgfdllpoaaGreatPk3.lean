/- The parts of the proof, 3: words of the program, and what they do. Conditions: none. -/
import Derived.Test.YthkdehgfdllpoaaGreatPk2
import Derived.Sort.Walk0
import Derived.Sort.LotD3
import Derived.Sort.LotA
import Derived.Sort.LotB
import Derived.Sort.LotC
import Derived.Sort.LotD1
set_option maxRecDepth 100000
set_option linter.unusedVariables false
set_option linter.unusedSimpArgs false
set_option linter.unusedSectionVars false
namespace Go.Proofs.YthkdehgfdllpoaaGreat
open Go Go.Sx
def W3 (a b c d e:Int) (f g i:Sl) (j k:Int) (l m:ByteArray) (n o p:Int) (q r:ByteArray) (s t u v x:Int) (y z a0:Sl) (b0 c0:Int) (d0 e0:ByteArray) (f0 g0 i0:Int) (j0 k0:ByteArray) (R:TR [.sc .b]→Pr):Pr:=
 At (Al a b c d e f g i j k l m n o p q r) 41 fun l0=>
 At (Al s t u v x y z a0 b0 c0 d0 e0 f0 g0 i0 j0 k0) 41 fun m0=>
 Az l0 fun n0 o0 p0 q0 r0 s0 t0 u0 v0 x0 y0 z0 a1 b1 c1 d1 e1=>
 Cl Pg 187 [(.agg (Al n0 o0 p0 q0 r0 s0 t0 u0 v0 x0 y0 z0 a1 b1 c1 d1 e1))] true [.sc .sl,.sc (.i .i64)] fun f1=>
 Az m0 fun g1 i1 j1 k1 l1 m1 n1 o1 p1 q1 r1 s1 t1 u1 v1 x1 y1=>
 Cl Pg 187 [(.agg (Al g1 i1 j1 k1 l1 m1 n1 o1 p1 q1 r1 s1 t1 u1 v1 x1 y1))] true [.sc .sl,.sc (.i .i64)] fun z1=>
 Br ((f1.2.1:Int) == 0) (
 Br ((z1.2.1:Int) == 0) (
 AcH f1.1 fun a2=>
 AcH z1.1 fun b2=>
 R ((seq a2 b2),())) (
 R (false,()))) (
 R (false,()))
theorem Vl (a b c d e f g i j k l m n o p q r s t u v x y z a0 b0 c0 d0 e0 f0 g0 i0 j0 k0) {R w} (h:W3 a b c d e f g i j k l m n o p q r s t u v x y z a0 b0 c0 d0 e0 f0 g0 i0 j0 k0 R w):Cl Pg 82 [(.agg (Al a b c d e f g i j k l m n o p q r)),(.agg (Al s t u v x y z a0 b0 c0 d0 e0 f0 g0 i0 j0 k0))] false [.sc .b] R w:=
 ce (s' (s' (s' (s' l')))) Tryz.func82 h
def II (a:Sl) (b:ByteArray) (R:TR [.sc .s,.sc .b]→Pr):Pr:=
 Lp (σ:=ByteArray × Bool × Int × Unit) (fun c d=>
 Br (decide ((d.2.2.1:Int) < ((a.len:Nat):Int))) (
 Ix a d.2.2.1 2 fun e=>
 Ls e 0 fun f=>
 Ls e 1 fun g=>
 At #[(Vt (BA [])),(Vt (BA []))] 111 fun i=>
 Tt i 0 f <|
 Tt i 1 g <|
 Ls i 0 fun j=>
 Br (seq j b) (
 Ls i 1 fun k=>
 R (k,true,())) (
 c (d.1,d.2.1,(An (d.2.2.1 + 1)),()))) (
 R ((BA []),false,()))) ((BA []),false,0,())
theorem Lg (a b) {R w} (h:II a b R w):Cl Pg 83 [(Vs a),(Vt b)] true [.sc .s,.sc .b] R w:=
 ce (s' (q' (s' (.block (.loop [(4,.sc .s),(5,.sc .b),(10,.sc (.i .i64))] (s' (q' (k' l' l') (q' (.block (s' (s' (k' (s' l') l')))) l')))))) (s' l'))) Tryz.func83 h
def Ka (a:Sl) (b c:ByteArray) (R:TR [.sc .sl]→Pr):Pr:=
 At #[(Vt b),(Vt c)] 111 fun d=>
 Lp (σ:=Sl × Bool × Int × Unit) (fun e f=>
 Br (decide ((f.2.2.1:Int) < ((a.len:Nat):Int))) (
 Jp (σ:=Sl × Bool × Unit) (fun g=>
 e (g.1,g.2.1,(An (f.2.2.1 + 1)),())) fun i=>
 Ix a f.2.2.1 2 fun j=>
 Ls j 0 fun k=>
 Ls j 1 fun l=>
 At #[(Vt (BA [])),(Vt (BA []))] 111 fun m=>
 Tt m 0 k <|
 Tt m 1 l <|
 Jp (σ:=Sl × Bool × Unit) (fun n=>
 Ls m 0 fun o=>
 Ls d 0 fun p=>
 Br (!(seq o p)) (
 Ls m 0 fun q=>
 Ls m 1 fun r=>
 At #[(Vt q),(Vt r)] 111 fun s=>
 App 111 2 32 (zc Pg 111) n.1 1 (BH (some s) 1 2) fun t=>
 i (t,n.2.1,())) (
 i (n.1,n.2.1,()))) fun u=>
 Jp (σ:=Bool × Unit) (fun v=>
 Br v.1 (
 Ls d 0 fun x=>
 Ls d 1 fun y=>
 At #[(Vt x),(Vt y)] 111 fun z=>
 App 111 2 32 (zc Pg 111) f.1 1 (BH (some z) 1 2) fun a0=>
 u (a0,true,())) (
 u (f.1,f.2.1,()))) fun b0=>
 Br (!f.2.1) (
 Ls m 0 fun c0=>
 Ls d 0 fun d0=>
 b0 ((!(slt c0 d0)),())) (
 b0 (false,()))) (
 Jp (σ:=Sl × Unit) (fun e0=>
 R (e0.1,())) fun f0=>
 Br (!f.2.1) (
 Ls d 0 fun g0=>
 Ls d 1 fun i0=>
 At #[(Vt g0),(Vt i0)] 111 fun j0=>
 App 111 2 32 (zc Pg 111) f.1 1 (BH (some j0) 1 2) fun k0=>
 f0 (k0,())) (
 f0 (f.1,())))) (⟨none,0,0⟩,false,0,())
theorem LV (a b c) {R w} (h:Ka a b c R w):Cl Pg 84 [(Vs a),(.agg #[(Vt b),(Vt c)])] false [.sc .sl] R w:=
 ce (s' (s' (s' (q' (s' (.block (.loop [(5,.sc .sl),(6,.sc .b),(11,.sc (.i .i64))] (s' (q' (k' l' l') (q' (.join [(5,.sc .sl),(6,.sc .b)] (.block (s' (q' (.join [(5,.sc .sl),(6,.sc .b)] (q' (.join [(23,.sc .b)] l') (k' (s' l') l'))) (s' (k' l' l')))))) l')))))) (q' (.join [(5,.sc .sl)] (s' (k' l' l'))) (s' l')))))) Tryz.func84 h
def HK (a:ByteArray) (R:TR N6→Pr):Pr:=
 At #[(Vt (BA [])),(Vt (BA []))] 37 fun b=>
 Cl Pg 35 [(Vt a)] false [.sc (.i .i64)] fun c=>
 Br ((c.1:Int) != 0) (
 St (b.add 0) (Vt (BA [])) <|
 St (b.add 1) (Vt (BA [])) <|
 Ls b 0 fun d=>
 Ls b 1 fun e=>
 R ((d,e,()),c.1,())) (
 Br (decide ((((a.size:Nat):Int):Int) < 12)) (
 AY (((a.size + (BA [0]).size:Nat):Int)≤9223372036854775807) <|
 Tt b 0 a <|
 St (b.add 1) (Vt (a ++ (BA [0]))) <|
 Ls b 0 fun f=>
 Ls b 1 fun g=>
 R ((f,g,()),0,())) (
 Lp (σ:=Int × Unit) (fun i j=>
 Jp (σ:=Bool × Unit) (fun k=>
 Br k.1 (
 i ((An (j.1 - 1)),())) (
 Br ((j.1:Int) == 0) (
 Tt b 0 a <|
 St (b.add 1) (Vt (BA [])) <|
 Ls b 0 fun l=>
 Ls b 1 fun m=>
 R ((l,m,()),0,())) (
 Dr <|
 AY ((0:Int)≤(An (j.1 - 1))∧(An (j.1 - 1))≤((a.size:Nat):Int)) <|
 IxS a (An (j.1 - 1)) fun c13=>
 At #[(.int .u8 (IntKind.u8.wrap (c13 + 1)))] 5 fun n=>
 AcH ⟨(some n),1,1⟩ fun o=>
 AY ((((a.extract 0 (Int.toNat (An (j.1 - 1)))).size + o.size:Nat):Int)≤9223372036854775807) <|
 Tt b 0 a <|
 St (b.add 1) (Vt ((a.extract 0 (Int.toNat (An (j.1 - 1)))) ++ o)) <|
 Ls b 0 fun p=>
 Ls b 1 fun q=>
 R ((p,q,()),0,())))) fun r=>
 Br (decide ((j.1:Int) > 0)) (
 IxS a (An (j.1 - 1)) fun c18=>
 r (((c18:Int) == 255),())) (
 r (false,()))) (12,())))
theorem Ku (a) {R w} (h:HK a R w):Cl Pg 85 [(Vt a)] true N6 R w:=
 ce (s' (q' (s' (s' (k' (s' l') l'))) (q' (s' (k' (s' l') l')) (s' (q' (.block (.loop [(5,.sc (.i .i64))] (q' (q' (.join [(27,.sc .b)] l') (k' l' l')) (.block l')))) (q' (s' (k' (s' l') l')) (s' l'))))))) Tryz.func85 h
def Fs (a:Sl) (b c:ByteArray) (R:TR [.sc .sl]→Pr):Pr:=
 At #[(Vt b),(Vt c)] 37 fun d=>
 Lp (σ:=Sl × Int × Unit) (fun e f=>
 Br (decide ((f.2.1:Int) < ((a.len:Nat):Int))) (
 Jp (σ:=Sl × Unit) (fun g=>
 e (g.1,(An (f.2.1 + 1)),())) fun i=>
 Ix a f.2.1 2 fun j=>
 Ls j 0 fun k=>
 Ls j 1 fun l=>
 At #[(Vt (BA [])),(Vt (BA []))] 111 fun m=>
 Tt m 0 k <|
 Tt m 1 l <|
 Ls d 0 fun n=>
 Ls d 1 fun o=>
 Ls m 0 fun p=>
 Cl Pg 42 [(.agg #[(Vt n),(Vt o)]),(Vt p)] false [.sc .b] fun q=>
 Br (!q.1) (
 Ls m 0 fun r=>
 Ls m 1 fun s=>
 At #[(Vt r),(Vt s)] 111 fun t=>
 App 111 2 32 (zc Pg 111) f.1 1 (BH (some t) 1 2) fun u=>
 i (u,())) (
 i (f.1,()))) (
 R (f.1,()))) (⟨none,0,0⟩,0,())
theorem HT (a b c) {R w} (h:Fs a b c R w):Cl Pg 86 [(Vs a),(.agg #[(Vt b),(Vt c)])] false [.sc .sl] R w:=
 ce (s' (s' (q' (s' (.block (.loop [(5,.sc .sl),(10,.sc (.i .i64))] (s' (q' (k' l' l') (q' (.join [(5,.sc .sl)] (.block (s' (s' (k' l' l'))))) l')))))) (s' l')))) Tryz.func86 h
def Dc (a:Sl) (b c d:Int) (R:TR []→Pr):Pr:=
 Lp (σ:=Int × Int × Int × Bool × Bool × Unit) (fun e f=>
 Br (decide (((An (f.2.1 - f.1)):Int)≤12)) (
 Cl Pg 188 [(Vs a),(Vi f.1),(Vi f.2.1)] true [] fun g=>
 R ()) (
 Br ((f.2.2.1:Int) == 0) (
 Cl Pg 189 [(Vs a),(Vi f.1),(Vi f.2.1)] true [] fun i=>
 R ()) (
 Jp (σ:=Int × Unit) (fun j=>
 Cl Pg 191 [(Vs a),(Vi f.1),(Vi f.2.1)] true [.sc (.i .i64),.sc (.i .i64)] fun k=>
 Jp (σ:=Int × Int × Unit) (fun l=>
 Jp (σ:=Unit) (fun m=>
 Jp (σ:=Bool × Unit) (fun n=>
 Br n.1 (
 Cl Pg 195 [(Vs a),(Vi f.1),(Vi f.2.1),(Vi l.1)] false [.sc (.i .i64)] fun o=>
 e (o.1,f.2.1,j.1,f.2.2.2.1,f.2.2.2.2.1,())) (
 Cl Pg 196 [(Vs a),(Vi f.1),(Vi f.2.1),(Vi l.1)] true [.sc (.i .i64),.sc .b] fun p=>
 AY (8 ≠ (0:Int)) <|
 Br (decide (((An (p.1 - f.1)):Int) < (An (f.2.1 - p.1)))) (
 Cl Pg 87 [(Vs a),(Vi f.1),(Vi p.1),(Vi j.1)] true [] fun q=>
 e ((An (p.1 + 1)),f.2.1,j.1,(decide (((An (p.1 - f.1)):Int) ≥ (An ((An (f.2.1 - f.1)).tdiv 8)))),p.2.1,())) (
 Cl Pg 87 [(Vs a),(Vi (An (p.1 + 1))),(Vi f.2.1),(Vi j.1)] true [] fun r=>
 e (f.1,p.1,j.1,(decide (((An (f.2.1 - p.1)):Int) ≥ (An ((An (f.2.1 - f.1)).tdiv 8)))),p.2.1,())))) fun s=>
 Dr <|
 Br (decide ((f.1:Int) > 0)) (
 Ix a (An (f.1 - 1)) 1 fun t=>
 A2 .u64 t fun u=>
 Ix a l.1 1 fun v=>
 A2 .u64 v fun x=>
 Cl Pg 194 [(Vu u),(Vu x)] false [.sc .b] fun y=>
 s ((!y.1),())) (
 s (false,()))) fun z=>
 Jp (σ:=Bool × Unit) (fun a0=>
 Br a0.1 (
 Cl Pg 193 [(Vs a),(Vi f.1),(Vi f.2.1)] false [.sc .b] fun b0=>
 Br b0.1 (
 R ()) (
 z ())) (
 z ())) fun c0=>
 Br f.2.2.2.1 (
 Br f.2.2.2.2.1 (
 c0 (((l.2.1:Int) == 1),())) (
 c0 (false,()))) (
 c0 (false,()))) fun d0=>
 Br ((k.2.1:Int) == 2) (
 Cl Pg 192 [(Vs a),(Vi f.1),(Vi f.2.1)] true [] fun e0=>
 d0 ((An ((An (f.2.1 - 1)) - (An (k.1 - f.1)))),1,())) (
 d0 (k.1,k.2.1,()))) fun f0=>
 Br (!f.2.2.2.1) (
 Cl Pg 190 [(Vs a),(Vi f.1),(Vi f.2.1)] true [] fun g0=>
 f0 ((An (f.2.2.1 - 1)),())) (
 f0 (f.2.2.1,()))))) (b,c,d,true,true,())
theorem Et (a b c d) {R w} (h:Dc a b c d R w):Cl Pg 87 [(Vs a),(Vi b),(Vi c),(Vi d)] true [] R w:=
 ce (s' (s' (.block (.loop [(1,.sc (.i .i64)),(2,.sc (.i .i64)),(3,.sc (.i .i64)),(8,.sc .b),(9,.sc .b)] (.block (s' (q' (s' (k' (s' l') l')) (q' (s' (k' (s' l') l')) (q' (.join [(3,.sc (.i .i64))] (s' (k' (s' l') l'))) (s' (q' (.join [(11,.sc (.i .i64)),(12,.sc (.i .i64))] (s' (k' (s' (s' l')) l'))) (q' (.join [] (q' (.join [(68,.sc .b)] l') (k' (s' (k' l' l')) l'))) (q' (q' (.join [(87,.sc .b)] l') (k' (s' (s' l')) l')) (s' (s' (s' (s' (s' (k' (s' (s' l')) (s' (s' l'))))))))))))))))))))) Tryz.func87 h
def Oj (a:Int) (R:TR [.sc (.i .i64)]→Pr):Pr:=
 Cl Pg 198 [(Vu a)] false [.sc (.i .i64)] fun b=>
 R (b.1,())
theorem OG (a) {R w} (h:Oj a R w):Cl Pg 88 [(Vu a)] false [.sc (.i .i64)] R w:=
 ce (s' (q' (k' l' l') (s' l'))) Tryz.func88 h
def I6 (a:Int) (b c d e:ByteArray) (f:Int) (R:TR N6→Pr):Pr:=
 At (Ar a b c d e f) 81 fun g=>
 At #[(Vt (BA [])),(Vt (BA []))] 37 fun i=>
 AN g fun j k l m n o=>
 Cl Pg 43 [(.agg (Ar j k l m n o))] false [.sc (.i .i64)] fun p=>
 Br ((p.1:Int) != 0) (
 St (i.add 0) (Vt (BA [])) <|
 St (i.add 1) (Vt (BA [])) <|
 Ls i 0 fun q=>
 Ls i 1 fun r=>
 R ((q,r,()),p.1,())) (
 Ls g 1 fun s=>
 Br (!(seq s (BA []))) (
 Ls g 1 fun t=>
 Cl Pg 85 [(Vt t)] true N6 fun u=>
 Tt i 0 u.1.1 <|
 Tt i 1 u.1.2.1 <|
 Ls i 0 fun v=>
 Ls i 1 fun x=>
 R ((v,x,()),u.2.1,())) (
 Ls g 3 fun y=>
 Ls g 4 fun z=>
 Tt i 0 y <|
 Tt i 1 z <|
 Ls i 0 fun a0=>
 Ls i 1 fun b0=>
 R ((a0,b0,()),0,())))
theorem KX (a b c d e f) {R w} (h:I6 a b c d e f R w):Cl Pg 89 [(.agg (Ar a b c d e f))] true N6 R w:=
 ce (s' (q' (s' (s' (k' (s' l') l'))) (q' (s' (k' (s' l') l')) (s' l')))) Tryz.func89 h
def G0 (a:Int) (b c d e:ByteArray) (f:Int) (R:TR [.sc .b]→Pr):Pr:=
 At (Ar a b c d e f) 81 fun g=>
 Li g 0 fun i=>
 Br ((i:Int) == 2) (
 R (true,())) (
 Li g 0 fun j=>
 Br ((j:Int) == 3) (
 R (true,())) (
 Li g 0 fun k=>
 R (((k:Int) == 5),())))
theorem IX (a b c d e f) {R w} (h:G0 a b c d e f R w):Cl Pg 90 [(.agg (Ar a b c d e f))] false [.sc .b] R w:=
 ce (s' (s' l')) Tryz.func90 h
def Hy (a b:ByteArray) (R:TR [.sc (.i .i64)]→Pr):Pr:=
 At #[(Vt a),(Vt b)] 37 fun c=>
 Jp (σ:=Bool × Unit) (fun d=>
 Br d.1 (
 R (21,())) (
 R (0,()))) fun e=>
 Ls c 0 fun f=>
 Br (decide ((((f.size:Nat):Int):Int) > 12)) (
 e (true,())) (
 Ls c 1 fun g=>
 Br (decide ((((g.size:Nat):Int):Int) > 12)) (
 e (true,())) (
 Ls c 1 fun i=>
 Br (!(seq i (BA []))) (
 Ls c 0 fun j=>
 Ls c 1 fun k=>
 e ((!(slt j k)),())) (
 e (false,()))))
theorem Jt (a b) {R w} (h:Hy a b R w):Cl Pg 91 [(.agg #[(Vt a),(Vt b)])] false [.sc (.i .i64)] R w:=
 ce (s' (q' (q' (.join [(24,.sc .b)] l') (k' (s' l') l')) (s' l'))) Tryz.func91 h
def H5 (a b:ByteArray) (R:TR [.sc .b]→Pr):Pr:=
 Br (!(seq a (BA []))) (
 Br (seq b (BA [])) (
 R (true,())) (
 R ((slt a b),()))) (
 R (false,()))
theorem JY (a b) {R w} (h:H5 a b R w):Cl Pg 92 [(Vt a),(Vt b)] false [.sc .b] R w:=
 ce (s' (s' l')) Tryz.func92 h
def Of (a:ByteArray) (R:TR [.sc (.i .i64)]→Pr):Pr:=
 Jp (σ:=Bool × Unit) (fun b=>
 Br b.1 (
 R (20,())) (
 R (0,()))) fun c=>
 Br (seq a (BA [])) (
 c (true,())) (
 c ((decide ((((a.size:Nat):Int):Int) > 12)),()))
theorem Ov (a) {R w} (h:Of a R w):Cl Pg 93 [(Vt a)] false [.sc (.i .i64)] R w:=
 ce (s' (q' (q' (.join [(9,.sc .b)] l') (k' (s' l') l')) (s' l'))) Tryz.func93 h
def ZJ (R:TR [.ag [.s,.s]]→Pr):Pr:=
 At #[(Vt (BA [])),(Vt (BA []))] 37 fun a=>
 St (a.add 0) (Vt (BA [])) <|
 St (a.add 1) (Vt (BA [])) <|
 Ls a 0 fun b=>
 Ls a 1 fun c=>
 R ((b,c,()),())
theorem Wb {R w} (h:ZJ  R w):Cl Pg 94 [] false [.ag [.s,.s]] R w:=
 ce (s' (s' l')) Tryz.func94 h
def Gg (a:Sl) (b:Int) (R:TR [.sc (.i .i64)]→Pr):Pr:=
 Lp (σ:=Int × Int × Unit) (fun c d=>
 Br (decide ((d.2.1:Int) < ((a.len:Nat):Int))) (
 Ix a d.2.1 1 fun e=>
 A2 .u64 e fun f=>
 Br ((b:Int) == f) (
 R (d.2.1,())) (
 c (d.1,(An (d.2.1 + 1)),()))) (
 R ((-1),()))) (0,0,())
theorem Jh (a b) {R w} (h:Gg a b R w):Cl Pg 95 [(Vs a),(Vu b)] false [.sc (.i .i64)] R w:=
 ce (s' (q' (s' (.block (.loop [(4,.sc (.i .i64)),(8,.sc (.i .i64))] (s' (q' (k' l' l') (q' (.block (s' (s' (k' (s' l') l')))) l')))))) (s' l'))) Tryz.func95 h
theorem Jb (p_s:Sl) (p_f:Value) {R:TR [.sc (.i .i64)]→Pr} {w:World} (h:BG Pg 6 (ldA [(.i .i64),.s,.s,.s,.s,(.i .i64)]) p_s p_f R w):Cl Pg 96 [(.slice p_s.p p_s.len p_s.cap),p_f] false [.sc (.i .i64)] R w:=
 AF Tryz.checked.mixed (.seq .leaf (.seq (.seq .leaf (.block (.loop [(4,.sc (.i .i64)),(8,.sc (.i .i64))] (.seq .leaf (.seq (.cond .leaf .leaf) (.seq (.block (.seq .leaf (.seq .leaf (.cond (.seq .leaf .leaf) .leaf)))) .leaf)))))) (.seq .leaf .leaf))) Tryz.func96 (by kernel_rfl) (by kernel_rfl) h
def WY (a:Int) (R:TR K5'→Pr):Pr:=
 At #[(Vb false),(Vb false),(Vb false),(Vb false),(Vb false),.nilFunc] 189 fun b=>
 Jp (σ:=Bool × Unit) (fun c=>
 Br c.1 (
 Sb5 b false false false false false <|
 St (b.add 5) .nilFunc <|
 Ait b fun d e f g i j=>
 R ((d,e,f,g,i,j,()),false,())) (
 Cl Pg 199 [] false K6' fun k=>
 IxA (Cs [.b,.b,.b,.b,.b,.v,.b,.b,.b,.b,.b,.v,.b,.b,.b,.b,.b,.v,.b,.b,.b,.b,.b,.v,.b,.b,.b,.b,.b,.v,.b,.b,.b,.b,.b,.v] k.1) 6 a 6 fun g11=>
 TyA [.b,.b,.b,.b,.b,.v] g11 fun y12=>
 Sb5 b y12.1 y12.2.1 y12.2.2.1 y12.2.2.2.1 y12.2.2.2.2.1 <|
 St (b.add 5) y12.2.2.2.2.2.1 <|
 Ait b fun l m n o p q=>
 R ((l,m,n,o,p,q,()),true,()))) fun r=>
 Br (decide ((a:Int) < 1)) (
 r (true,())) (
 r ((decide ((a:Int) > 5)),()))
theorem UK (a) {R w} (h:WY a R w):Cl Pg 97 [(Vi a)] true K5' R w:=
 ce (s' (q' (q' (.join [(9,.sc .b)] l') (k' (s' l') l')) (s' l'))) Tryz.func97 h
def Ahh (a:Int) (b c d e:ByteArray) (f:Int) (R:TR [.ag [.s,.s]]→Pr):Pr:=
 At (Ar a b c d e f) 81 fun g=>
 At #[(Vt (BA [])),(Vt (BA []))] 37 fun i=>
 Ls g 3 fun j=>
 Ls g 4 fun k=>
 Tt i 0 j <|
 Tt i 1 k <|
 Ls i 0 fun l=>
 Ls i 1 fun m=>
 R ((l,m,()),())
theorem Aag (a b c d e f) {R w} (h:Ahh a b c d e f R w):Cl Pg 98 [(.agg (Ar a b c d e f))] false [.ag [.s,.s]] R w:=
 ce (s' (s' l')) Tryz.func98 h
theorem Hp (p_s:Sl) (p_f:Value) {R:TR [.sc (.i .i64)]→Pr} {w:World} (h:BG Pg 2 (ldA [(.i .u64),.sl]) p_s p_f R w):Cl Pg 99 [(.slice p_s.p p_s.len p_s.cap),p_f] false [.sc (.i .i64)] R w:=
 AF Tryz.checked.mixed (.seq .leaf (.seq (.seq .leaf (.block (.loop [(4,.sc (.i .i64)),(8,.sc (.i .i64))] (.seq .leaf (.seq (.cond .leaf .leaf) (.seq (.block (.seq .leaf (.seq .leaf (.cond (.seq .leaf .leaf) .leaf)))) .leaf)))))) (.seq .leaf .leaf))) Tryz.func99 (by kernel_rfl) (by kernel_rfl) h
def TH (a:ByteArray) (R:TR N6→Pr):Pr:=
 At #[(Vt (BA [])),(Vt (BA []))] 37 fun b=>
 Cl Pg 93 [(Vt a)] false [.sc (.i .i64)] fun c=>
 Br ((c.1:Int) != 0) (
 St (b.add 0) (Vt (BA [])) <|
 St (b.add 1) (Vt (BA [])) <|
 Ls b 0 fun d=>
 Ls b 1 fun e=>
 R ((d,e,()),c.1,())) (
 Br (decide ((((a.size:Nat):Int):Int) < 12)) (
 AY (((a.size + (BA [0]).size:Nat):Int)≤9223372036854775807) <|
 Tt b 0 a <|
 St (b.add 1) (Vt (a ++ (BA [0]))) <|
 Ls b 0 fun f=>
 Ls b 1 fun g=>
 R ((f,g,()),0,())) (
 AfV 5 a fun i=>
 Lp (σ:=Sl × Unit) (fun j k=>
 Jp (σ:=Bool × Unit) (fun l=>
 Br l.1 (
 AY ((0:Int)≤(An (((k.1.len:Nat):Int) - 1))∧(An (((k.1.len:Nat):Int) - 1))≤((k.1.cap:Nat):Int)) <|
 j (⟨(A7 k.1.p k.1.cap 0 1),((Int.toNat (An (((k.1.len:Nat):Int) - 1))) - 0),(k.1.cap - 0)⟩,())) (
 Jp (σ:=Unit) (fun m=>
 AcH k.1 fun n=>
 Tt b 0 a <|
 Tt b 1 n <|
 Ls b 0 fun o=>
 Ls b 1 fun p=>
 R ((o,p,()),0,())) fun q=>
 Br (decide ((((k.1.len:Nat):Int):Int) > 0)) (
 Ix k.1 (An (((k.1.len:Nat):Int) - 1)) 1 fun r=>
 A2 .u8 r fun s=>
 Ix k.1 (An (((k.1.len:Nat):Int) - 1)) 1 fun t=>
 St t (.int .u8 (IntKind.u8.wrap (s + 1))) <|
 q ()) (
 q ()))) fun u=>
 Br (decide ((((k.1.len:Nat):Int):Int) > 0)) (
 Ix k.1 (An (((k.1.len:Nat):Int) - 1)) 1 fun v=>
 A2 .u8 v fun x=>
 u (((x:Int) == 255),())) (
 u (false,()))) (i,())))
theorem SK (a) {R w} (h:TH a R w):Cl Pg 100 [(Vt a)] true N6 R w:=
 ce (s' (q' (s' (s' (k' (s' l') l'))) (q' (s' (k' (s' l') l')) (s' (q' (.block (.loop [(5,.sc .sl)] (q' (q' (.join [(32,.sc .b)] l') (k' l' l')) (.block l')))) (q' (.join [] (s' (k' l' l'))) (s' l'))))))) Tryz.func100 h
theorem Ic (p_s:Sl) (p_f:Value) {R:TR [.sc (.i .i64)]→Pr} {w:World} (h:BG Pg 4 (ldA [(.i .u64),.s,.s,.b]) p_s p_f R w):Cl Pg 101 [(.slice p_s.p p_s.len p_s.cap),p_f] false [.sc (.i .i64)] R w:=
 AF Tryz.checked.mixed (.seq .leaf (.seq (.seq .leaf (.block (.loop [(4,.sc (.i .i64)),(8,.sc (.i .i64))] (.seq .leaf (.seq (.cond .leaf .leaf) (.seq (.block (.seq .leaf (.seq .leaf (.cond (.seq .leaf .leaf) .leaf)))) .leaf)))))) (.seq .leaf .leaf))) Tryz.func101 (by kernel_rfl) (by kernel_rfl) h
def UQ (a:Int) (b c:ByteArray) (d:Bool) (e:Addr) (R:TR [.sc .b]→Pr):Pr:=
 At (Cg a b c d) 146 fun f=>
 Lu f 0 fun g=>
 A2 .u64 e fun i=>
 R (((g:Int) == i),())
theorem SQ (a b c d e) {R w} (h:UQ a b c d e R w):Cl Pg 102 [(.agg (Cg a b c d)),(Vp (some e))] false [.sc .b] R w:=
 ce (s' (s' l')) Tryz.func102 h
def TT (a b:ByteArray) (R:TR [.sc .s]→Pr):Pr:=
 Jp (σ:=Bool × Unit) (fun c=>
 Br c.1 (
 R (b,())) (
 R (a,()))) fun d=>
 Br (seq a (BA [])) (
 d (true,())) (
 Br (!(seq b (BA []))) (
 d ((slt b a),())) (
 d (false,())))
theorem S3 (a b) {R w} (h:TT a b R w):Cl Pg 103 [(Vt a),(Vt b)] false [.sc .s] R w:=
 ce (s' (q' (q' (.join [(15,.sc .b)] l') (k' (s' l') l')) (s' l'))) Tryz.func103 h
def LG (a:Int) (b c:ByteArray) (d:Bool) (e:Addr) (R:TR [.sc .b]→Pr):Pr:=
 At (Cg a b c d) 146 fun f=>
 BU (((e.add 1).add 0).add 0) fun g=>
 BU (((e.add 1).add 0).add 1) fun i=>
 BU (((f.add 1).add 0).add 0) fun j=>
 BU (((f.add 1).add 0).add 1) fun k=>
 Cl Pg 105 [(.agg #[(Vt g),(Vt i)]),(.agg #[(Vt j),(Vt k)])] true [.ag [.s,.s],.sc .b] fun l=>
 At #[(Vt (BA [])),(Vt (BA []))] 37 fun m=>
 Tt m 0 l.1.1 <|
 Tt m 1 l.1.2.1 <|
 Br l.2.1 (
 Lu e 0 fun n=>
 Lu f 0 fun o=>
 Br ((n:Int) != o) (
 Lb (e.add 1) 2 fun p=>
 Br p (
 R (true,())) (
 Lb (f.add 1) 2 fun q=>
 R (q,()))) (
 R (false,()))) (
 R (false,()))
theorem MU (a b c d e) {R w} (h:LG a b c d e R w):Cl Pg 104 [(.agg (Cg a b c d)),(Vp (some e))] false [.sc .b] R w:=
 ce (s' (s' (s' l'))) Tryz.func104 h
def WH (a b c d:ByteArray) (R:TR [.ag [.s,.s],.sc .b]→Pr):Pr:=
 At #[(Vt a),(Vt b)] 37 fun e=>
 At #[(Vt c),(Vt d)] 37 fun f=>
 At #[(Vt (BA [])),(Vt (BA []))] 37 fun g=>
 Jp (σ:=Option Addr × Unit) (fun i=>
 Jp (σ:=Bool × Unit) (fun j=>
 Br j.1 (
 St (g.add 0) (Vt (BA [])) <|
 St (g.add 1) (Vt (BA [])) <|
 Ls g 0 fun k=>
 Ls g 1 fun l=>
 R ((k,l,()),false,())) (
 Nn i.1 fun m=>
 Ls m 0 fun n=>
 Ls m 1 fun o=>
 Tt g 0 n <|
 Tt g 1 o <|
 Ls g 0 fun p=>
 Ls g 1 fun q=>
 R ((p,q,()),true,()))) fun r=>
 Ls e 0 fun s=>
 Ls e 1 fun t=>
 Cl Pg 45 [(.agg #[(Vt s),(Vt t)])] false [.sc (.i .i64)] fun u=>
 Br ((u.1:Int) != 0) (
 r (true,())) (
 Ls f 0 fun v=>
 Ls f 1 fun x=>
 Cl Pg 45 [(.agg #[(Vt v),(Vt x)])] false [.sc (.i .i64)] fun y=>
 Br ((y.1:Int) != 0) (
 r (true,())) (
 Nn i.1 fun z=>
 Ls z 0 fun a0=>
 Ls z 1 fun b0=>
 Cl Pg 45 [(.agg #[(Vt a0),(Vt b0)])] false [.sc (.i .i64)] fun c0=>
 r (((c0.1:Int) != 0),())))) fun d0=>
 Dr <|
 Ls e 0 fun e0=>
 Ls f 0 fun f0=>
 Ls e 1 fun g0=>
 Ls f 1 fun i0=>
 AH (
 Cl Pg 103 [(Vt g0),(Vt i0)] false [.sc .s] fun j0=>
 AH (Ls f 0 fun k0=>
 fun _=>((Vt k0):Value)=(Vt f0)) <|
 AH (Ls e 0 fun l0=>
 fun _=>((Vt l0):Value)=(Vt e0)) <|
 At #[(Vt (BA [])),(Vt (BA []))] 37 fun m0=>
 AH (Ls f 1 fun n0=>
 fun _=>((Vt n0):Value)=(Vt i0)) <|
 AH (Ls e 1 fun o0=>
 fun _=>((Vt o0):Value)=(Vt g0)) <|
 AH (Ls f 0 fun p0=>
 fun _=>((Vt p0):Value)=(Vt f0)) <|
 AH (Ls e 0 fun q0=>
 fun _=>((Vt q0):Value)=(Vt e0)) <|
 St (m0.add 0) (Vt (if !(slt e0 f0) then e0 else f0)) <|
 Tt m0 1 j0.1 <|
 d0 ((some m0),())) <|
 At #[(Vt (BA [])),(Vt (BA []))] 37 fun r0=>
 AH (Ls f 1 fun s0=>
 fun _=>((Vt s0):Value)=(Vt i0)) <|
 AH (Ls e 1 fun t0=>
 fun _=>((Vt t0):Value)=(Vt g0)) <|
 AH (Ls f 0 fun u0=>
 fun _=>((Vt u0):Value)=(Vt f0)) <|
 AH (Ls e 0 fun v0=>
 fun _=>((Vt v0):Value)=(Vt e0)) <|
 Cl Pg 103 [(Vt g0),(Vt i0)] false [.sc .s] fun x0=>
 AH (Ls f 0 fun y0=>
 fun _=>((Vt y0):Value)=(Vt f0)) <|
 AH (Ls e 0 fun z0=>
 fun _=>((Vt z0):Value)=(Vt e0)) <|
 St (r0.add 0) (Vt (if !(slt e0 f0) then e0 else f0)) <|
 Tt r0 1 x0.1 <|
 d0 ((some r0),())
theorem TE (a b c d) {R w} (h:WH a b c d R w):Cl Pg 105 [(.agg #[(Vt a),(Vt b)]),(.agg #[(Vt c),(Vt d)])] true [.ag [.s,.s],.sc .b] R w:=
 ce (s' (q' (.join [(6,.sc .p)] l') (q' (q' (.join [(30,.sc .b)] l') (k' (s' l') l')) (s' l')))) Tryz.func105 h
def F9 (a:Int) (b c:ByteArray) (d:Bool) (e:Addr) (R:TR [.sc .b]→Pr):Pr:=
 At (Cg a b c d) 146 fun f=>
 Dr <|
 Di e fun g=>
 Nn g fun i=>
 Ll i 0 fun j=>
 Gs f fun k l m n=>
 Cl Pg 66 [(.agg (Cg k l m n))] false [.sc .v] fun o=>
 AH (Ll i 0 fun p=>
 fun _=>((Vs p):Value)=(Vs j)) <|
 AH (Di e fun q=>
 fun _=>((Vp q):Value)=(Vp g)) <|
 Cl Pg 63 [(Vs j),o.1] false [.sc .b] fun r=>
 R ((!r.1),())
theorem HQ (a b c d e) {R w} (h:F9 a b c d e R w):Cl Pg 106 [(.agg (Cg a b c d)),(Vp (some e))] false [.sc .b] R w:=
 ce (s' (s' l')) Tryz.func106 h
def WS (a:Sl) (R:TR [.sc .sl]→Pr):Pr:=
 Cl Pg 37 [(Vs a)] true [] fun b=>
 Cl Pg 200 [(Vs a)] false [.sc .sl] fun c=>
 R (c.1,())
theorem Vo (a) {R w} (h:WS a R w):Cl Pg 107 [(Vs a)] false [.sc .sl] R w:=
 ce (s' (s' (s' l'))) Tryz.func107 h
theorem K3 (p_s:Sl) (p_i:Int) (p_j:Int) {R:TR [.sc .sl]→Pr} {w:World} (h:GN 146 4 48 (zc Pg 146) p_s p_i p_j R w):Cl Pg 108 [(.slice p_s.p p_s.len p_s.cap),(.int .i64 p_i),(.int .i64 p_j)] false [.sc .sl] R w:=
 AF Tryz.checked.mixed (.seq .leaf (.seq .leaf (.seq (.seq .leaf (.cond (.seq .leaf .leaf) .leaf)) (.seq .leaf (.seq .leaf (.seq .leaf (.seq .leaf .leaf))))))) Tryz.func108 (by kernel_rfl) (by kernel_rfl) h
def Ke (a:Option Addr) (b:Int) (R:TR []→Pr):Pr:=
 Dr <|
 Nn a fun c=>
 Ll c 0 fun d=>
 Cl Pg 64 [(Vu b)] false [.sc .v] fun e=>
 AH (Ll c 0 fun f=>
 fun _=>((Vs f):Value)=(Vs d)) <|
 Cl Pg 201 [(Vs d),e.1] false [.sc .sl] fun g=>
 Nn a fun i=>
 Ts i 0 g.1 <|
 Dr <|
 Nn a fun j=>
 Ll j 1 fun k=>
 Cl Pg 64 [(Vu b)] false [.sc .v] fun l=>
 AH (Ll j 1 fun m=>
 fun _=>((Vs m):Value)=(Vs k)) <|
 Cl Pg 201 [(Vs k),l.1] false [.sc .sl] fun n=>
 Nn a fun o=>
 Ts o 1 n.1 <|
 R ()
theorem LZ (a b) {R w} (h:Ke a b R w):Cl Pg 109 [(Vp a),(Vu b)] true [] R w:=
 ce (s' l') Tryz.func109 h
def Fg (a:Int) (R:TR [.sc .b]→Pr):Pr:=
 R (((a:Int) != a),())
theorem Fc (a) {R w} (h:Fg a R w):Cl Pg 110 [(Vu a)] false [.sc .b] R w:=
 ce (s' (s' l')) Tryz.func110 h
theorem Fw (p_s:Sl) (p_del:Value) {R:TR [.sc .sl]→Pr} {w:World} (h:Fp Pg 203 1 (zc Pg 32) (Aia (.i .u64)) p_s p_del R w):Cl Pg 113 [(.slice p_s.p p_s.len p_s.cap),p_del] false [.sc .sl] R w:=
 AF Tryz.checked.mixed (.seq .leaf (.seq .leaf (.seq (.seq .leaf (.cond (.seq .leaf .leaf) .leaf)) (.seq (.seq .leaf (.block (.loop [(5,.sc (.i .i64)),(6,.sc (.i .i64))] (.seq (.seq .leaf (.cond .leaf .leaf)) (.seq (.join [(5,.sc (.i .i64))] (.block (.seq .leaf (.seq .leaf (.cond (.seq .leaf .leaf) .leaf))))) .leaf))))) (.seq .leaf (.seq .leaf .leaf)))))) Tryz.func113 (by kernel_rfl) (by kernel_rfl) h
def G2 (a:Int) (b:Addr) (R:TR [.sc .b]→Pr):Pr:=
 Lu b 9 fun c=>
 R ((decide ((a:Int) < c)),())
theorem IZ (a b) {R w} (h:G2 a b R w):Cl Pg 114 [(Vu a),(Vp (some b))] false [.sc .b] R w:=
 ce (s' (s' l')) Tryz.func114 h
def FI (a:Option Addr) (b:Int) (R:TR [.sc (.i .i64),.sc .b]→Pr):Pr:=
 Nn a fun c=>
 Ll c 17 fun d=>
 Cl Pg 204 [(Vs d),(Vu b),(.func (.func 205) #[] #[])] true [.sc (.i .i64),.sc .b] fun e=>
 R (e.1,e.2.1,())
theorem HY (a b) {R w} (h:FI a b R w):Cl Pg 115 [(Vp a),(Vu b)] true [.sc (.i .i64),.sc .b] R w:=
 ce (s' (s' l')) Tryz.func115 h
def Iq (a:Option Addr) (b:Int) (R:TR [.sc (.i .i64),.sc .b]→Pr):Pr:=
 Nn a fun c=>
 Ll (c.add 0) 6 fun d=>
 Cl Pg 206 [(Vs d),(Vu b),(.func (.func 207) #[] #[])] true [.sc (.i .i64),.sc .b] fun e=>
 R (e.1,e.2.1,())
theorem Lm (a b) {R w} (h:Iq a b R w):Cl Pg 116 [(Vp a),(Vu b)] true [.sc (.i .i64),.sc .b] R w:=
 ce (s' (s' l')) Tryz.func116 h
def Iv (a:Option Addr) (b c:Int) (d:Sl) (R:TR []→Pr):Pr:=
 Cl Pg 38 [(Vp a),(.agg #[(Vi 4),(Vi 0),(Vi 0),(Vi 0),(Vi c),(Vi 0),(Vu 0),(Vu 0),(Vu b),(Vu 0),(Vu 0),(Vu 0),(Vu 0),(Vu 0),(Vu 0),(Vb false),(Vt (BA [])),(Vt (BA [])),(.slice none 0 0),(Vs d),(.slice none 0 0)])] true [] fun e=>
 R ()
theorem Lf (a b c d) {R w} (h:Iv a b c d R w):Cl Pg 117 [(Vp a),(Vu b),(Vi c),(Vs d)] true [] R w:=
 ce (l') Tryz.func117 h
def FC (a:Option Addr) (b:Sl) (R:TR [.sc .sl]→Pr):Pr:=
 Nn a fun c=>
 LJ (c.add 20) fun d=>
 Inv Pg d "Scan" [(.agg #[(Vt (BA [])), (Vt (BA []))]), (Vi (-1))] true [.sc .sl, .sc (.i .i64)] fun e =>
 Br ((e.2.1:Int) != 0) (
 Nn a fun f=>
 Ti f 25 e.2.1 <|
 R (⟨none,0,0⟩,())) (
 Nn a fun g=>
 Ll (g.add 21) 1 fun i=>
 Cl Pg 208 [(Vs e.1),(Vs i)] true [.sc .sl,.sc .sl,.sc (.i .i64)] fun j=>
 Br ((j.2.2.1:Int) != 0) (
 Nn a fun k=>
 Ti k 25 j.2.2.1 <|
 R (⟨none,0,0⟩,())) (
 Cl Pg 208 [(Vs j.1),(Vs b)] true [.sc .sl,.sc .sl,.sc (.i .i64)] fun l=>
 R (l.2.1,())))
theorem Ib (a b) {R w} (h:FC a b R w):Cl Pg 118 [(Vp a),(Vs b)] false [.sc .sl] R w:=
 ce (s' (s' (q' (s' (k' (s' (s' l')) l')) (s' (q' (s' (k' (s' (s' l')) l')) (s' (s' l'))))))) Tryz.func118 h
def Gv (a:Int) (b c d e:ByteArray) (f:Int) (g:Addr) (R:TR [.sc .b]→Pr):Pr:=
 At (Ar a b c d e f) 81 fun i=>
 AN i fun j k l m n o=>
 Cl Pg 61 [(.agg (Ar j k l m n o))] true N6 fun p=>
 At #[(Vt (BA [])),(Vt (BA []))] 37 fun q=>
 Tt q 0 p.1.1 <|
 Tt q 1 p.1.2.1 <|
 Dr <|
 Br ((p.2.1:Int) != 0) (
 R (true,())) (
 Di g fun r=>
 Nn r fun s=>
 Ll (s.add 0) 5 fun t=>
 Di g fun u=>
 Nn u fun v=>
 Li (v.add 0) 0 fun x=>
 Ls q 0 fun y=>
 Ls q 1 fun z=>
 Cl Pg 120 [(Vs t),(Vi x),(.agg #[(Vt y),(Vt z)])] false [.sc .b] fun a0=>
 R ((!a0.1),()))
theorem Jn (a b c d e f g) {R w} (h:Gv a b c d e f g R w):Cl Pg 119 [(.agg (Ar a b c d e f)),(Vp (some g))] false [.sc .b] R w:=
 ce (s' (s' (s' l'))) Tryz.func119 h
def Uu (a:Sl) (b:Int) (c d:ByteArray) (R:TR [.sc .b]→Pr):Pr:=
 At #[(Vt c),(Vt d)] 37 fun e=>
 Cl Pg 44 [(Vs a)] false [.sc (.i .i64)] fun f=>
 Br ((f.1:Int) != 0) (
 R (false,())) (
 Lp (σ:=Bool × Int × Unit) (fun g i=>
 Br (decide ((i.2.1:Int) < ((a.len:Nat):Int))) (
 Jp (σ:=Bool × Unit) (fun j=>
 Br j.1 (
 R (true,())) (
 g (i.1,(An (i.2.1 + 1)),()))) fun k=>
 Dr <|
 Ix a i.2.1 2 fun l=>
 Li l 1 fun m=>
 Br ((m:Int) == b) (
 Ls e 0 fun n=>
 Ls e 1 fun o=>
 Cl Pg 209 [(Vs a),(Vi i.2.1)] false [.ag [.s,.s]] fun p=>
 AH (Ls e 0 fun q=>
 Ls e 1 fun r=>
 fun _=>((.agg #[(Vt q),(Vt r)]):Value)=(.agg #[(Vt n),(Vt o)])) <|
 Cl Pg 65 [(.agg #[(Vt p.1.1),(Vt p.1.2.1)]),(.agg #[(Vt n),(Vt o)])] false [.sc .b] fun s=>
 k (s.1,())) (
 k (false,()))) (
 R (false,()))) (false,0,()))
theorem SN (a b c d) {R w} (h:Uu a b c d R w):Cl Pg 120 [(Vs a),(Vi b),(.agg #[(Vt c),(Vt d)])] false [.sc .b] R w:=
 ce (s' (q' (s' (k' (s' l') l')) (q' (s' (.block (.loop [(6,.sc .b),(13,.sc (.i .i64))] (s' (q' (k' l' l') (q' (.block (s' (q' (.join [(29,.sc .b)] l') (k' (s' l') l')))) l')))))) (s' l')))) Tryz.func120 h
def Gu (a:Option Addr) (b:Sl) (R:TR [.sc .b]→Pr):Pr:=
 Nn a fun c=>
 Lu (c.add 0) 9 fun d=>
 Br ((d:Int) != 0) (
 Nn a fun e=>
 BU (((e.add 0).add 10).add 0) fun f=>
 BU (((e.add 0).add 10).add 1) fun g=>
 Cl Pg 210 [(Vs b),(.agg #[(Vt f),(Vt g)])] false [.sc .b] fun i=>
 Br i.1 (
 R (true,())) (
 Nn a fun j=>
 Hr j 19 fun k=>
 Br (!(Option.isNone k)) (
 Nn a fun l=>
 Hr l 19 fun m=>
 Nn m fun n=>
 Lb n 5 fun o=>
 Br o (
 Nn a fun p=>
 Hr p 19 fun q=>
 Nn q fun r=>
 Ls (r.add 2) 0 fun s=>
 Ls (r.add 2) 1 fun t=>
 Cl Pg 210 [(Vs b),(.agg #[(Vt s),(Vt t)])] false [.sc .b] fun u=>
 R (u.1,())) (
 R (false,()))) (
 R (false,())))) (
 Nn a fun v=>
 Hr v 19 fun x=>
 Br (!(Option.isNone x)) (
 Nn a fun y=>
 Hr y 19 fun z=>
 Nn z fun a0=>
 Lb a0 5 fun b0=>
 Br b0 (
 Nn a fun c0=>
 Hr c0 19 fun d0=>
 Nn d0 fun e0=>
 Ls (e0.add 2) 0 fun f0=>
 Ls (e0.add 2) 1 fun g0=>
 Cl Pg 210 [(Vs b),(.agg #[(Vt f0),(Vt g0)])] false [.sc .b] fun i0=>
 R (i0.1,())) (
 R (false,()))) (
 R (false,())))
theorem IL (a b) {R w} (h:Gu a b R w):Cl Pg 121 [(Vp a),(Vs b)] false [.sc .b] R w:=
 ce (s' (s' l')) Tryz.func121 h
theorem Jz (p_s:Sl) (p_i:Int) (p_v:Sl) {R:TR [.sc .sl]→Pr} {w:World} (h:Fj Pg 211 212 114 4 64 (zc Pg 114) p_s p_i p_v R w):Cl Pg 122 [(.slice p_s.p p_s.len p_s.cap),(.int .i64 p_i),(.slice p_v.p p_v.len p_v.cap)] false [.sc .sl] R w:=
 AF Tryz.checked.mixed (.seq .leaf (.seq .leaf (.seq .leaf (.seq (.seq .leaf (.cond (.seq .leaf .leaf) .leaf)) (.seq .leaf (.seq (.seq .leaf (.cond (.seq .leaf .leaf) .leaf)) (.seq (.seq .leaf (.cond (.seq .leaf (.seq .leaf (.seq .leaf (.seq .leaf .leaf)))) .leaf)) (.seq .leaf (.seq (.seq .leaf (.cond (.seq .leaf (.seq .leaf (.seq .leaf .leaf))) .leaf)) (.seq .leaf (.seq .leaf (.seq .leaf .leaf)))))))))))) Tryz.func122 (by kernel_rfl) (by kernel_rfl) h
def Iy (a:Option Addr) (b:Int) (R:TR []→Pr):Pr:=
 Lp (σ:=Unit) (fun c d=>
 Nn a fun e=>
 Li e 25 fun f=>
 Br ((f:Int) == 0) (
 Cl Pg 115 [(Vp a),(Vu b)] true [.sc (.i .i64),.sc .b] fun g=>
 Br (!g.2.1) (
 R ()) (
 Nn a fun i=>
 Ll i 17 fun j=>
 Ix j g.1 4 fun k=>
 Dr <|
 Li k 3 fun l=>
 Ll k 2 fun m=>
 Br ((l:Int) == ((m.len:Nat):Int)) (
 Ll k 1 fun n=>
 Nn a fun o=>
 Ll o 17 fun p=>
 Cl Pg 128 [(Vs p),(Vi g.1),(Vi (An (g.1 + 1)))] false [.sc .sl] fun q=>
 Nn a fun r=>
 Ts r 17 q.1 <|
 Cl Pg 116 [(Vp a),(Vu b)] true [.sc (.i .i64),.sc .b] fun s=>
 Nn a fun t=>
 Ll (t.add 0) 6 fun u=>
 At #[(Vu b),(Vs n)] 60 fun v=>
 Cl Pg 213 [(Vs u),(Vi s.1),(.slice (some v) 1 1)] false [.sc .sl] fun x=>
 Nn a fun y=>
 Ts (y.add 0) 6 x.1 <|
 Cl Pg 118 [(Vp a),(Vs n)] false [.sc .sl] fun z=>
 Cl Pg 117 [(Vp a),(Vu b),(Vi 3),(Vs z.1)] true [] fun a0=>
 R ()) (
 Dr <|
 Nn a fun b0=>
 Hr b0 18 fun c0=>
 Ll k 2 fun d0=>
 Li k 3 fun e0=>
 Ix d0 e0 3 fun f0=>
 UC f0 fun g0 i0 j0=>
 Cl Pg 29 [(Vp c0),(Vu b),(.agg (SG g0 i0 j0))] true [.sc (.i .i64),.sc .sl,.sc .sl,.sc (.i .i64)] fun k0=>
 Li k 3 fun l0=>
 St (k.add 3) (Vi (An (l0 + 1))) <|
 Cl Pg 214 [(Vp a),(Vs k0.2.1),(Vs k0.2.2.1)] true [] fun m0=>
 Br ((k0.1:Int) == 2) (
 R ()) (
 Br ((k0.1:Int) == 3) (
 Nn a fun n0=>
 Ll n0 17 fun o0=>
 Cl Pg 128 [(Vs o0),(Vi g.1),(Vi (An (g.1 + 1)))] false [.sc .sl] fun p0=>
 Nn a fun q0=>
 Ts q0 17 p0.1 <|
 Cl Pg 117 [(Vp a),(Vu b),(Vi 5),(.slice none 0 0)] true [] fun r0=>
 Cl Pg 215 [(Vp a),(Vu b)] true [] fun s0=>
 R ()) (
 c ()))))) (
 R ())) ()
theorem Lw (a b) {R w} (h:Iy a b R w):Cl Pg 123 [(Vp a),(Vu b)] true [] R w:=
 ce (.block (.loop [] (q' (s' (k' l' l')) (.block (s' (q' (s' (k' l' l')) (s' (q' (s' (k' (s' (s' (s' (s' (s' l'))))) l')) (s' (s' (s' (s' (.block (s' (k' l' (s' (k' (s' (s' (s' l'))) l'))))))))))))))))) Tryz.func123 h
def FK (a:Option Addr) (R:TR []→Pr):Pr:=
 Lp (σ:=Unit) (fun b c=>
 Nn a fun d=>
 Ll d 24 fun e=>
 Br (decide ((((e.len:Nat):Int):Int) > 0)) (
 Nn a fun f=>
 Ll f 24 fun g=>
 Ix g 0 2 fun i=>
 Lu i 0 fun j=>
 Lb i 1 fun k=>
 At #[(Vu 0),(Vb false)] 282 fun l=>
 Tu l 0 j <|
 Tb l 1 k <|
 Nn a fun m=>
 Ll m 24 fun n=>
 AY ((0:Int)≤1∧1≤((n.len:Nat):Int)) <|
 Nn a fun o=>
 St (o.add 24) (.slice (A7 n.p n.cap (Int.toNat 1) 2) (n.len - (Int.toNat 1)) (n.cap - (Int.toNat 1))) <|
 Lb l 1 fun p=>
 Br (!p) (
 Lu l 0 fun q=>
 Cl Pg 123 [(Vp a),(Vu q)] true [] fun r=>
 b ()) (
 Lu l 0 fun s=>
 Cl Pg 115 [(Vp a),(Vu s)] true [.sc (.i .i64),.sc .b] fun t=>
 Br t.2.1 (
 Nn a fun u=>
 Ll u 17 fun v=>
 Cl Pg 128 [(Vs v),(Vi t.1),(Vi (An (t.1 + 1)))] false [.sc .sl] fun x=>
 Nn a fun y=>
 Ts y 17 x.1 <|
 Lu l 0 fun z=>
 Cl Pg 117 [(Vp a),(Vu z),(Vi 5),(.slice none 0 0)] true [] fun a0=>
 b ()) (
 b ()))) (
 Nn a fun b0=>
 St (b0.add 24) (.slice none 0 0) <|
 R ())) ()
theorem HU (a) {R w} (h:FK a R w):Cl Pg 124 [(Vp a)] true [] R w:=
 ce (q' (.block (.loop [] (q' (s' (k' l' l')) (.block (s' (s' (s' (k' l' (s' (s' (k' (s' l') l'))))))))))) l') Tryz.func124 h
theorem JD (p_s:Sl) (p_i:Int) (p_j:Int) {R:TR [.sc .sl]→Pr} {w:World} (h:GN 60 2 32 (zc Pg 60) p_s p_i p_j R w):Cl Pg 125 [(.slice p_s.p p_s.len p_s.cap),(.int .i64 p_i),(.int .i64 p_j)] false [.sc .sl] R w:=
 AF Tryz.checked.mixed (.seq .leaf (.seq .leaf (.seq (.seq .leaf (.cond (.seq .leaf .leaf) .leaf)) (.seq .leaf (.seq .leaf (.seq .leaf (.seq .leaf .leaf))))))) Tryz.func125 (by kernel_rfl) (by kernel_rfl) h
def Gp (a:Option Addr) (b:Int) (c d e f:ByteArray) (g:Int) (R:TR []→Pr):Pr:=
 At (Ar b c d e f g) 81 fun i=>
 Jp (σ:=Bool × Unit) (fun j=>
 Br j.1 (
 R ()) (
 Jp (σ:=Unit) (fun k=>
 Dr <|
 Nn a fun l=>
 Hr l 19 fun m=>
 Nn a fun n=>
 Hr n 19 fun o=>
 Nn o fun p=>
 Ll p 9 fun q=>
 AN i fun r s t u v x=>
 At (Ar r s t u v x) 81 fun y=>
 AH (Ll p 9 fun z=>
 fun _=>((Vs z):Value)=(Vs q)) <|
 AH (Hr n 19 fun a0=>
 fun _=>((Vp a0):Value)=(Vp o)) <|
 AH (Hr l 19 fun b0=>
 fun _=>((Vp b0):Value)=(Vp m)) <|
 App 81 6 80 (zc Pg 81) q 1 (BH (some y) 1 6) fun c0=>
 AH (Hr l 19 fun d0=>
 fun _=>((Vp d0):Value)=(Vp m)) <|
 Nn m fun e0=>
 Ts e0 9 c0 <|
 R ()) fun f0=>
 Li i 0 fun g0=>
 Br ((g0:Int) == 5) (
 Jp (σ:=Option Addr × Unit) (fun i0=>
 Dr <|
 Nn i0.1 fun j0=>
 Ls j0 0 fun k0=>
 Nn i0.1 fun l0=>
 Ls l0 1 fun m0=>
 Tt i 3 k0 <|
 AH (Ls l0 1 fun n0=>
 fun _=>((Vt n0):Value)=(Vt m0)) <|
 Tt i 4 m0 <|
 f0 ()) fun o0=>
 Dr <|
 Nn a fun p0=>
 Hr p0 19 fun q0=>
 Nn q0 fun r0=>
 Ls (r0.add 2) 0 fun s0=>
 Ls (r0.add 2) 1 fun t0=>
 Ls i 3 fun u0=>
 Ls i 4 fun v0=>
 AH (
 Cl Pg 105 [(.agg #[(Vt s0),(Vt t0)]),(.agg #[(Vt u0),(Vt v0)])] true [.ag [.s,.s],.sc .b] fun x0=>
 At #[(Vt (BA [])),(Vt (BA []))] 37 fun y0=>
 AH (Ls i 4 fun z0=>
 fun _=>((Vt z0):Value)=(Vt v0)) <|
 AH (Ls i 3 fun a1=>
 fun _=>((Vt a1):Value)=(Vt u0)) <|
 AH (Ls (r0.add 2) 0 fun b1=>
 Ls (r0.add 2) 1 fun c1=>
 fun _=>((.agg #[(Vt b1),(Vt c1)]):Value)=(.agg #[(Vt s0),(Vt t0)])) <|
 AH (Hr p0 19 fun d1=>
 fun _=>((Vp d1):Value)=(Vp q0)) <|
 Tt y0 0 x0.1.1 <|
 Tt y0 1 x0.1.2.1 <|
 o0 ((some y0),())) <|
 At #[(Vt (BA [])),(Vt (BA []))] 37 fun e1=>
 AH (Ls i 4 fun f1=>
 fun _=>((Vt f1):Value)=(Vt v0)) <|
 AH (Ls i 3 fun g1=>
 fun _=>((Vt g1):Value)=(Vt u0)) <|
 AH (Ls (r0.add 2) 0 fun i1=>
 Ls (r0.add 2) 1 fun j1=>
 fun _=>((.agg #[(Vt i1),(Vt j1)]):Value)=(.agg #[(Vt s0),(Vt t0)])) <|
 AH (Hr p0 19 fun k1=>
 fun _=>((Vp k1):Value)=(Vp q0)) <|
 Cl Pg 105 [(.agg #[(Vt s0),(Vt t0)]),(.agg #[(Vt u0),(Vt v0)])] true [.ag [.s,.s],.sc .b] fun l1=>
 Tt e1 0 l1.1.1 <|
 Tt e1 1 l1.1.2.1 <|
 o0 ((some e1),())) (
 f0 ()))) fun m1=>
 Dr <|
 Nn a fun n1=>
 Hr n1 19 fun o1=>
 Br (Option.isNone o1) (
 m1 (true,())) (
 AN i fun p1 q1 r1 s1 t1 u1=>
 Nn a fun v1=>
 Hr v1 19 fun x1=>
 Nn x1 fun y1=>
 Ls (y1.add 2) 0 fun z1=>
 Ls (y1.add 2) 1 fun a2=>
 At (Ar p1 q1 r1 s1 t1 u1) 81 fun b2=>
 AH (Ls (y1.add 2) 0 fun c2=>
 Ls (y1.add 2) 1 fun d2=>
 fun _=>((.agg #[(Vt c2),(Vt d2)]):Value)=(.agg #[(Vt z1),(Vt a2)])) <|
 AH (Hr v1 19 fun e2=>
 fun _=>((Vp e2):Value)=(Vp x1)) <|
 Cl Pg 210 [(.slice (some b2) 1 1),(.agg #[(Vt z1),(Vt a2)])] false [.sc .b] fun f2=>
 m1 ((!f2.1),()))
theorem Jr (a b c d e f g) {R w} (h:Gp a b c d e f g R w):Cl Pg 126 [(Vp a),(.agg (Ar b c d e f g))] true [] R w:=
 ce (s' (q' (q' (.join [(23,.sc .b)] l') (k' l' l')) (q' (.join [] (s' (k' (q' (.join [(4,.sc .p)] l') l') l'))) l'))) Tryz.func126 h
def Gf (a:Option Addr) (b:Int) (R:TR []→Pr):Pr:=
 Jp (σ:=Unit) (fun c=>
 Cl Pg 215 [(Vp a),(Vu b)] true [] fun d=>
 Cl Pg 124 [(Vp a)] true [] fun e=>
 R ()) fun f=>
 Nn a fun g=>
 Ll (g.add 0) 7 fun i=>
 Cl Pg 216 [(Vs i),(Vu b)] true [.sc (.i .i64),.sc .b] fun j=>
 Jp (σ:=Bool × Unit) (fun k=>
 Br k.1 (
 Nn a fun l=>
 Ll (l.add 0) 7 fun m=>
 At #[(Vu b)] 32 fun n=>
 Cl Pg 217 [(Vs m),(Vi j.1),(.slice (some n) 1 1)] false [.sc .sl] fun o=>
 Nn a fun p=>
 Ts (p.add 0) 7 o.1 <|
 f ()) (
 f ())) fun q=>
 Nn a fun r=>
 Lu (r.add 0) 8 fun s=>
 Br (decide ((b:Int) ≥ s)) (
 q ((!j.2.1),())) (
 q (false,()))
theorem IY (a b) {R w} (h:Gf a b R w):Cl Pg 127 [(Vp a),(Vu b)] true [] R w:=
 ce (q' (.join [] (s' (q' (.join [(26,.sc .b)] l') (k' l' l')))) (s' l')) Tryz.func127 h
theorem JM (p_s:Sl) (p_i:Int) (p_j:Int) {R:TR [.sc .sl]→Pr} {w:World} (h:GN 114 4 64 (zc Pg 114) p_s p_i p_j R w):Cl Pg 128 [(.slice p_s.p p_s.len p_s.cap),(.int .i64 p_i),(.int .i64 p_j)] false [.sc .sl] R w:=
 AF Tryz.checked.mixed (.seq .leaf (.seq .leaf (.seq (.seq .leaf (.cond (.seq .leaf .leaf) .leaf)) (.seq .leaf (.seq .leaf (.seq .leaf (.seq .leaf .leaf))))))) Tryz.func128 (by kernel_rfl) (by kernel_rfl) h
def Gy (a:Option Addr) (b:Sl) (c:Bool) (R:TR [.sc .sl]→Pr):Pr:=
 Lp (σ:=Sl × Int × Unit) (fun d e=>
 Br (decide ((e.2.1:Int) < ((b.len:Nat):Int))) (
 Jp (σ:=Sl × Unit) (fun f=>
 d (f.1,(An (e.2.1 + 1)),())) fun g=>
 Ix b e.2.1 2 fun i=>
 Ls i 0 fun j=>
 Li i 1 fun k=>
 At #[(Vt (BA [])),(Vi 0)] 70 fun l=>
 Tt l 0 j <|
 Ti l 1 k <|
 Cl Pg 218 [(Vs b),(Vi e.2.1)] true N6 fun m=>
 At #[(Vt (BA [])),(Vt (BA []))] 37 fun n=>
 Tt n 0 m.1.1 <|
 Tt n 1 m.1.2.1 <|
 Jp (σ:=Bool × Unit) (fun o=>
 Br o.1 (
 Ls n 0 fun p=>
 Ls n 1 fun q=>
 At #[(Vt p),(Vt q)] 37 fun r=>
 App 37 2 32 (zc Pg 37) e.1 1 (BH (some r) 1 2) fun s=>
 g (s,())) (
 g (e.1,()))) fun t=>
 Dr <|
 Br ((m.2.1:Int) == 0) (
 Li l 1 fun u=>
 Nn a fun v=>
 Li (v.add 0) 0 fun x=>
 t ((((u:Int) == x) == c),())) (
 t (false,()))) (
 R (e.1,()))) (⟨none,0,0⟩,0,())
theorem Jl (a b c) {R w} (h:Gy a b c R w):Cl Pg 129 [(Vp a),(Vs b),(Vb c)] false [.sc .sl] R w:=
 ce (s' (s' (q' (s' (.block (.loop [(7,.sc .sl),(14,.sc (.i .i64))] (s' (q' (k' l' l') (q' (.join [(7,.sc .sl)] (.block (s' (s' (q' (.join [(38,.sc .b)] l') (k' l' l')))))) l')))))) (s' l')))) Tryz.func129 h
def Hz (a:Option Addr) (b c d e:ByteArray) (R:TR []→Pr):Pr:=
 At #[(Vt b),(Vt c)] 37 fun f=>
 At #[(Vt d),(Vt e)] 37 fun g=>
 Ls f 0 fun i=>
 Ls f 1 fun j=>
 Ls g 0 fun k=>
 Ls g 1 fun l=>
 Cl Pg 105 [(.agg #[(Vt i),(Vt j)]),(.agg #[(Vt k),(Vt l)])] true [.ag [.s,.s],.sc .b] fun m=>
 At #[(Vt (BA [])),(Vt (BA []))] 37 fun n=>
 Tt n 0 m.1.1 <|
 Tt n 1 m.1.2.1 <|
 Br m.2.1 (
 Dr <|
 Nn a fun o=>
 Ll (o.add 21) 1 fun p=>
 Ls n 0 fun q=>
 Ls n 1 fun r=>
 At (Ar 5 (BA []) (BA []) q r 0) 81 fun s=>
 AH (Ll (o.add 21) 1 fun t=>
 fun _=>((Vs t):Value)=(Vs p)) <|
 App 81 6 80 (zc Pg 81) p 1 (BH (some s) 1 6) fun u=>
 Nn a fun v=>
 Ts (v.add 21) 1 u <|
 R ()) (
 R ())
theorem JG (a b c d e) {R w} (h:Hz a b c d e R w):Cl Pg 130 [(Vp a),(.agg #[(Vt b),(Vt c)]),(.agg #[(Vt d),(Vt e)])] true [] R w:=
 ce (s' (s' (s' (k' l' l')))) Tryz.func130 h
def GX (a:Option Addr) (R:TR []→Pr):Pr:=
 Nn a fun b=>
 Hr b 19 fun c=>
 At #[(Vp none)] 91 fun d=>
 St d (Vp c) <|
 Jp (σ:=Bool × Unit) (fun e=>
 Br e.1 (
 R ()) (
 Jp (σ:=Bool × Unit) (fun f=>
 Br f.1 (
 Dr <|
 Di d fun g=>
 Cl Pg 219 [(Vp a)] false [.sc .sl] fun i=>
 AH (Di d fun j=>
 fun _=>((Vp j):Value)=(Vp g)) <|
 Nn g fun k=>
 Ts k 8 i.1 <|
 Di d fun l=>
 Nn l fun m=>
 Tb m 6 true <|
 Cl Pg 39 [(Vp a)] true [] fun n=>
 R ()) (
 Jp (σ:=Bool × Unit) (fun o=>
 Jp (σ:=Bool × Unit) (fun p=>
 Br p.1 (
 Dr <|
 Di d fun q=>
 Nn q fun r=>
 Lu r 0 fun s=>
 Di d fun t=>
 Nn t fun u=>
 Ls (u.add 2) 0 fun v=>
 Ls (u.add 2) 1 fun x=>
 Nn a fun y=>
 Tu (y.add 0) 9 s <|
 Nn a fun z=>
 St (((z.add 0).add 10).add 0) (Vt v) <|
 St (((z.add 0).add 10).add 1) (Vt x) <|
 Nn a fun a0=>
 Tp a0 19 none <|
 Di d fun b0=>
 Nn b0 fun c0=>
 Lu c0 0 fun d0=>
 Cl Pg 38 [(Vp a),(.agg #[(Vi 14),(Vi 0),(Vi 0),(Vi 0),(Vi 0),(Vi 0),(Vu 0),(Vu 0),(Vu 0),(Vu 0),(Vu 0),(Vu 0),(Vu d0),(Vu 0),(Vu 0),(Vb false),(Vt (BA [])),(Vt (BA [])),(.slice none 0 0),(.slice none 0 0),(.slice none 0 0)])] true [] fun e0=>
 R ()) (
 R ())) fun f0=>
 Di d fun g0=>
 Nn g0 fun i0=>
 Lb i0 5 fun j0=>
 Br j0 (
 f0 ((!o.1),())) (
 f0 (false,()))) fun k0=>
 Nn a fun l0=>
 Ll (l0.add 0) 6 fun m0=>
 Cl Pg 52 [(Vs m0),(.func (.func 220) #[] #[(Vp (some d))])] false [.sc .b] fun n0=>
 Br n0.1 (
 k0 (true,())) (
 Nn a fun o0=>
 Ll o0 17 fun p0=>
 Cl Pg 221 [(Vs p0),(.func (.func 222) #[] #[(Vp (some d))])] false [.sc .b] fun q0=>
 k0 (q0.1,())))) fun r0=>
 Di d fun s0=>
 Nn s0 fun t0=>
 Lu t0 1 fun u0=>
 Br ((u0:Int) == 0) (
 r0 (true,())) (
 Di d fun v0=>
 Nn v0 fun x0=>
 Lb x0 7 fun y0=>
 Br (!y0) (
 r0 (true,())) (
 Di d fun z0=>
 Nn z0 fun a1=>
 Ll a1 9 fun b1=>
 r0 ((decide ((((b1.len:Nat):Int):Int) > 0)),()))))) fun c1=>
 Di d fun d1=>
 Br (Option.isNone d1) (
 c1 (true,())) (
 Di d fun e1=>
 Nn e1 fun f1=>
 Lb f1 6 fun g1=>
 c1 (g1,()))
theorem JX (a) {R w} (h:GX a R w):Cl Pg 131 [(Vp a)] true [] R w:=
 ce (s' (q' (q' (.join [(15,.sc .b)] l') (k' l' l')) (q' (q' (.join [(35,.sc .b)] l') (k' (s' (s' (s' l'))) l')) (q' (.join [(3,.sc .b)] l') (q' (.join [(68,.sc .b)] l') (k' (s' l') l')))))) Tryz.func131 h
def F5 (a b:ByteArray) (c:Addr) (R:TR [.sc .b]→Pr):Pr:=
 At #[(Vt a),(Vt b)] 37 fun d=>
 Ls d 0 fun e=>
 Ls d 1 fun f=>
 Ls (c.add 16) 0 fun g=>
 Ls (c.add 16) 1 fun i=>
 Cl Pg 105 [(.agg #[(Vt e),(Vt f)]),(.agg #[(Vt g),(Vt i)])] true [.ag [.s,.s],.sc .b] fun j=>
 At #[(Vt (BA [])),(Vt (BA []))] 37 fun k=>
 Tt k 0 j.1.1 <|
 Tt k 1 j.1.2.1 <|
 R (j.2.1,())
theorem HO (a b c) {R w} (h:F5 a b c R w):Cl Pg 132 [(.agg #[(Vt a),(Vt b)]),(Vp (some c))] false [.sc .b] R w:=
 ce (s' (s' (s' l'))) Tryz.func132 h
def FJ (a:Int) (b c d e:ByteArray) (f:Int) (g:Addr) (R:TR [.sc .b]→Pr):Pr:=
 At (Ar a b c d e f) 81 fun i=>
 AN i fun j k l m n o=>
 Cl Pg 61 [(.agg (Ar j k l m n o))] true N6 fun p=>
 At #[(Vt (BA [])),(Vt (BA []))] 37 fun q=>
 Tt q 0 p.1.1 <|
 Tt q 1 p.1.2.1 <|
 Br ((p.2.1:Int) != 0) (
 R (true,())) (
 Ls (g.add 16) 0 fun r=>
 Ls (g.add 16) 1 fun s=>
 Ls q 0 fun t=>
 Ls q 1 fun u=>
 Cl Pg 65 [(.agg #[(Vt r),(Vt s)]),(.agg #[(Vt t),(Vt u)])] false [.sc .b] fun v=>
 R ((!v.1),()))
theorem HW (a b c d e f g) {R w} (h:FJ a b c d e f g R w):Cl Pg 133 [(.agg (Ar a b c d e f)),(Vp (some g))] false [.sc .b] R w:=
 ce (s' (s' (s' l'))) Tryz.func133 h
theorem Ff (p_s:Sl) (p_f:Value) {R:TR [.sc .b]→Pr} {w:World} (h:B7 Pg 223 p_s p_f R w):Cl Pg 134 [(.slice p_s.p p_s.len p_s.cap),p_f] false [.sc .b] R w:=
 AF Tryz.checked.mixed (.seq .leaf (.seq .leaf .leaf)) Tryz.func134 (by kernel_rfl) (by kernel_rfl) h
def RO (a:Int) (R:TR [.sc .b]→Pr):Pr:=
 Br (decide ((a:Int) > 10)) (
 R ((decide ((a:Int)≤14)),())) (
 R (false,()))
theorem QG (a) {R w} (h:RO a R w):Cl Pg 135 [(Vi a)] false [.sc .b] R w:=
 ce (s' (s' l')) Tryz.func135 h
def AaP (a:Int) (R:TR [.sc .b]→Pr):Pr:=
 R (((a:Int) == 0),())
theorem SP (a) {R w} (h:AaP a R w):Cl Pg 136 [(Vi a)] false [.sc .b] R w:=
 ce (s' (s' l')) Tryz.func136 h
def NX (a b c d e f g i j k l m n o p:Int) (q:Bool) (r s:ByteArray) (t u v:Sl) (R:TR [.sc .b]→Pr):Pr:=
 At (Ag a b c d e f g i j k l m n o p q r s t u v) 47 fun x=>
 Ll x 18 fun y=>
 Cl Pg 138 [(Vs y)] false [.sc (.i .i64)] fun z=>
 R (((z.1:Int) == 0),())
theorem Ox (a b c d e f g i j k l m n o p q r s t u v) {R w} (h:NX a b c d e f g i j k l m n o p q r s t u v R w):Cl Pg 137 [(.agg (Ag a b c d e f g i j k l m n o p q r s t u v))] false [.sc .b] R w:=
 ce (s' (s' l')) Tryz.func137 h
def Y4 (a:Sl) (R:TR [.sc (.i .i64)]→Pr):Pr:=
 Jp (σ:=Bool × Unit) (fun b=>
 Br b.1 (
 R (3,())) (
 Cl Pg 224 [(Vs a)] false [.sc (.i .i64)] fun c=>
 R (c.1,()))) fun d=>
 Br ((((a.len:Nat):Int):Int) == 0) (
 d (true,())) (
 d ((decide ((((a.len:Nat):Int):Int) > 4)),()))
theorem VK (a) {R w} (h:Y4 a R w):Cl Pg 138 [(Vs a)] false [.sc (.i .i64)] R w:=
 ce (s' (q' (q' (.join [(10,.sc .b)] l') (k' (s' l') l')) (s' l'))) Tryz.func138 h
def Oe (a b c d e f g i j k l m n o p:Int) (q:Bool) (r s:ByteArray) (t u v:Sl) (R:TR [.sc .b]→Pr):Pr:=
 At (Ag a b c d e f g i j k l m n o p q r s t u v) 47 fun x=>
 Li x 4 fun y=>
 Br ((y:Int) == 1) (
 Ll x 19 fun z=>
 Cl Pg 140 [(Vs z),(Vi 4)] false [.sc .b] fun a0=>
 R (a0.1,())) (
 Li x 4 fun b0=>
 Br ((b0:Int) == 2) (
 Ll x 19 fun c0=>
 Cl Pg 140 [(Vs c0),(Vi 4)] false [.sc .b] fun d0=>
 R (d0.1,())) (
 R (false,())))
theorem O0 (a b c d e f g i j k l m n o p q r s t u v) {R w} (h:Oe a b c d e f g i j k l m n o p q r s t u v R w):Cl Pg 139 [(.agg (Ag a b c d e f g i j k l m n o p q r s t u v))] false [.sc .b] R w:=
 ce (s' (s' l')) Tryz.func139 h
def P6 (a:Sl) (b:Int) (R:TR [.sc .b]→Pr):Pr:=
 AY ((.nilFunc:Value).oneCell'=true) <|
 At #[.nilFunc] 290 fun c=>
 St c (.func (.func 225) #[] #[]) <|
 Br (decide ((((a.len:Nat):Int):Int)≤b)) (
 Cl Pg 226 [(Vs a),(.func (.func 227) #[] #[(Vp (some c))])] false [.sc .b] fun d=>
 R ((!d.1),())) (
 R (false,()))
theorem P8 (a b) {R w} (h:P6 a b R w):Cl Pg 140 [(Vs a),(Vi b)] false [.sc .b] R w:=
 ce (s' (s' (s' l'))) Tryz.func140 h
def Oo (a:Int) (R:TR [.sc .b]→Pr):Pr:=
 Br (decide ((a:Int) ≥ 1)) (
 R ((decide ((a:Int)≤4)),())) (
 R (false,()))
theorem LN (a) {R w} (h:Oo a R w):Cl Pg 141 [(Vi a)] false [.sc .b] R w:=
 ce (s' (s' l')) Tryz.func141 h
def Om (a b c d e f g i j k l m n o p:Int) (q:Bool) (r s:ByteArray) (t u v:Sl) (R:TR [.sc .b]→Pr):Pr:=
 At (Ag a b c d e f g i j k l m n o p q r s t u v) 47 fun x=>
 Ll x 18 fun y=>
 Br (decide ((((y.len:Nat):Int):Int) > 0)) (
 Ll x 18 fun z=>
 Cl Pg 143 [(Vs z),(Vi 24)] false [.sc .b] fun a0=>
 R (a0.1,())) (
 R (false,()))
theorem OF (a b c d e f g i j k l m n o p q r s t u v) {R w} (h:Om a b c d e f g i j k l m n o p q r s t u v R w):Cl Pg 142 [(.agg (Ag a b c d e f g i j k l m n o p q r s t u v))] false [.sc .b] R w:=
 ce (s' (s' l')) Tryz.func142 h
open Go Go.Sx
def ZY (a:Sl) (b:Int) (R:TR [.sc .b]→Pr):Pr:=
 Br (decide ((((a.len:Nat):Int):Int)≤b)) (
 Cl Pg 48 [(Vs a),(.func (.func 229) #[] #[])] false [.sc .b] fun c=>
 R ((!c.1),())) (
 R (false,()))
theorem VJ (a b) {R w} (h:ZY a b R w):Cl Pg 143 [(Vs a),(Vi b)] false [.sc .b] R w:=
 ce (s' (s' l')) Tryz.func143 h
def Ob (a b c d e f g i j k l m n o p:Int) (q:Bool) (r s:ByteArray) (t u v:Sl) (R:TR [.sc .b]→Pr):Pr:=
 At (Ag a b c d e f g i j k l m n o p q r s t u v) 47 fun x=>
 Li x 4 fun y=>
 Br (decide ((y:Int) ≥ 3)) (
 Li x 4 fun z=>
 Br (decide ((z:Int)≤5)) (
 Ll x 19 fun a0=>
 Cl Pg 140 [(Vs a0),(Vi 24)] false [.sc .b] fun b0=>
 R (b0.1,())) (
 R (false,()))) (
 R (false,()))
theorem O6 (a b c d e f g i j k l m n o p q r s t u v) {R w} (h:Ob a b c d e f g i j k l m n o p q r s t u v R w):Cl Pg 144 [(.agg (Ag a b c d e f g i j k l m n o p q r s t u v))] false [.sc .b] R w:=
 ce (s' (s' l')) Tryz.func144 h
def Od (a b c d e f g i j k l m n o p:Int) (q:Bool) (r s:ByteArray) (t u v:Sl) (R:TR [.sc .b]→Pr):Pr:=
 At (Ag a b c d e f g i j k l m n o p q r s t u v) 47 fun x=>
 R (true,())
theorem OO (a b c d e f g i j k l m n o p q r s t u v) {R w} (h:Od a b c d e f g i j k l m n o p q r s t u v R w):Cl Pg 145 [(.agg (Ag a b c d e f g i j k l m n o p q r s t u v))] false [.sc .b] R w:=
 ce (s' (s' l')) Tryz.func145 h
def Oi (a b c d e f g i j k l m n o p:Int) (q:Bool) (r s:ByteArray) (t u v:Sl) (R:TR [.sc .b]→Pr):Pr:=
 At (Ag a b c d e f g i j k l m n o p q r s t u v) 47 fun x=>
 Ll x 20 fun y=>
 Cl Pg 44 [(Vs y)] false [.sc (.i .i64)] fun z=>
 R (((z.1:Int) == 0),())
theorem OQ (a b c d e f g i j k l m n o p q r s t u v) {R w} (h:Oi a b c d e f g i j k l m n o p q r s t u v R w):Cl Pg 146 [(.agg (Ag a b c d e f g i j k l m n o p q r s t u v))] false [.sc .b] R w:=
 ce (s' (s' l')) Tryz.func146 h
def Og (a b c d e f g i j k l m n o p:Int) (q:Bool) (r s:ByteArray) (t u v:Sl) (R:TR [.sc .b]→Pr):Pr:=
 At (Ag a b c d e f g i j k l m n o p q r s t u v) 47 fun x=>
 Li x 5 fun y=>
 Cl Pg 141 [(Vi y)] false [.sc .b] fun z=>
 Br z.1 (
 Ls (x.add 16) 0 fun a0=>
 Ls (x.add 16) 1 fun b0=>
 Cl Pg 45 [(.agg #[(Vt a0),(Vt b0)])] false [.sc (.i .i64)] fun c0=>
 R (((c0.1:Int) == 0),())) (
 R (false,()))
theorem O8 (a b c d e f g i j k l m n o p q r s t u v) {R w} (h:Og a b c d e f g i j k l m n o p q r s t u v R w):Cl Pg 147 [(.agg (Ag a b c d e f g i j k l m n o p q r s t u v))] false [.sc .b] R w:=
 ce (s' (s' l')) Tryz.func147 h
def NV (a b c d e f g i j k l m n o p:Int) (q:Bool) (r s:ByteArray) (t u v:Sl) (R:TR [.sc .b]→Pr):Pr:=
 At (Ag a b c d e f g i j k l m n o p q r s t u v) 47 fun x=>
 Li x 1 fun y=>
 Li x 2 fun z=>
 Br ((y:Int) != z) (
 Ll x 18 fun a0=>
 Cl Pg 143 [(Vs a0),(Vi 6)] false [.sc .b] fun b0=>
 Br b0.1 (
 Ls (x.add 16) 0 fun c0=>
 Ls (x.add 16) 1 fun d0=>
 Cl Pg 45 [(.agg #[(Vt c0),(Vt d0)])] false [.sc (.i .i64)] fun e0=>
 Br ((e0.1:Int) == 0) (
 Ll x 18 fun f0=>
 Cl Pg 48 [(Vs f0),(.func (.func 149) #[] #[])] false [.sc .b] fun g0=>
 R ((!g0.1),())) (
 R (false,()))) (
 R (false,()))) (
 R (false,()))
theorem OW (a b c d e f g i j k l m n o p q r s t u v) {R w} (h:NV a b c d e f g i j k l m n o p q r s t u v R w):Cl Pg 148 [(.agg (Ag a b c d e f g i j k l m n o p q r s t u v))] false [.sc .b] R w:=
 ce (s' (s' l')) Tryz.func148 h
def LS (a:Int) (b c d e:ByteArray) (f:Int) (R:TR [.sc .b]→Pr):Pr:=
 At (Ar a b c d e f) 81 fun g=>
 AN g fun i j k l m n=>
 Cl Pg 62 [(.agg (Ar i j k l m n))] false [.sc .b] fun o=>
 R ((!o.1),())
theorem Mo (a b c d e f) {R w} (h:LS a b c d e f R w):Cl Pg 149 [(.agg (Ar a b c d e f))] false [.sc .b] R w:=
 ce (s' (s' l')) Tryz.func149 h
def NY (a b c d e f g i j k l m n o p:Int) (q:Bool) (r s:ByteArray) (t u v:Sl) (R:TR [.sc .b]→Pr):Pr:=
 At (Ag a b c d e f g i j k l m n o p q r s t u v) 47 fun x=>
 Li x 1 fun y=>
 Li x 2 fun z=>
 R (((y:Int) != z),())
theorem OX (a b c d e f g i j k l m n o p q r s t u v) {R w} (h:NY a b c d e f g i j k l m n o p q r s t u v R w):Cl Pg 150 [(.agg (Ag a b c d e f g i j k l m n o p q r s t u v))] false [.sc .b] R w:=
 ce (s' (s' l')) Tryz.func150 h
def Y3 (a:Value) (R:TR [.ag [.v,.v,.v]]→Pr):Pr:=
 AY ((a:Value).oneCell'=true) <|
 At #[a] 222 fun b=>
 At #[.nilFunc,.nilFunc,.nilFunc] 171 fun c=>
 AY (((.func (.func 230) #[] #[(Vp (some b))]):Value).oneCell'=true) <|
 AY (((.func (.func 232) #[] #[(Vp (some b))]):Value).oneCell'=true) <|
 AY (((.func (.func 234) #[] #[(Vp (some b))]):Value).oneCell'=true) <|
 St (c.add 0) (.func (.func 230) #[] #[(Vp (some b))]) <|
 St (c.add 1) (.func (.func 232) #[] #[(Vp (some b))]) <|
 St (c.add 2) (.func (.func 234) #[] #[(Vp (some b))]) <|
 Lv3 c fun d e f=>
 R ((d,e,f,()),())
theorem VP (a) {R w} (h:Y3 a R w):Cl Pg 151 [a] false [.ag [.v,.v,.v]] R w:=
 ce (s' (s' l')) Tryz.func151 h
def TU (a:Option Addr) (R:TR [.sc .p]→Pr):Pr:=
 Nn a fun b=>
 R ((some (b.add 6)),())
theorem SR (a) {R w} (h:TU a R w):Cl Pg 152 [(Vp a)] false [.sc .p] R w:=
 ce (s' (s' l')) Tryz.func152 h
def Uc (a:Option Addr) (R:TR [.sc .p]→Pr):Pr:=
 Nn a fun b=>
 R ((some (b.add 7)),())
theorem Sw (a) {R w} (h:Uc a R w):Cl Pg 153 [(Vp a)] false [.sc .p] R w:=
 ce (s' (s' l')) Tryz.func153 h
def UW (a:Option Addr) (R:TR [.sc .p]→Pr):Pr:=
 Nn a fun b=>
 R ((some (b.add 8)),())
theorem SV (a) {R w} (h:UW a R w):Cl Pg 154 [(Vp a)] false [.sc .p] R w:=
 ce (s' (s' l')) Tryz.func154 h
def Ve (a:Option Addr) (R:TR [.sc .p]→Pr):Pr:=
 Nn a fun b=>
 R ((some (b.add 9)),())
theorem SB (a) {R w} (h:Ve a R w):Cl Pg 155 [(Vp a)] false [.sc .p] R w:=
 ce (s' (s' l')) Tryz.func155 h
def UJ (a:Option Addr) (R:TR [.sc .p]→Pr):Pr:=
 Nn a fun b=>
 R ((some (b.add 10)),())
theorem Sz (a) {R w} (h:UJ a R w):Cl Pg 156 [(Vp a)] false [.sc .p] R w:=
 ce (s' (s' l')) Tryz.func156 h
def TL (a:Option Addr) (R:TR [.sc .p]→Pr):Pr:=
 Nn a fun b=>
 R ((some (b.add 11)),())
theorem S1 (a) {R w} (h:TL a R w):Cl Pg 157 [(Vp a)] false [.sc .p] R w:=
 ce (s' (s' l')) Tryz.func157 h
def U8 (a:Option Addr) (R:TR [.sc .p]→Pr):Pr:=
 Nn a fun b=>
 R ((some (b.add 12)),())
theorem Sv (a) {R w} (h:U8 a R w):Cl Pg 158 [(Vp a)] false [.sc .p] R w:=
 ce (s' (s' l')) Tryz.func158 h
def TM (a:Option Addr) (R:TR [.sc .p]→Pr):Pr:=
 Nn a fun b=>
 R ((some (b.add 13)),())
theorem S9 (a) {R w} (h:TM a R w):Cl Pg 159 [(Vp a)] false [.sc .p] R w:=
 ce (s' (s' l')) Tryz.func159 h
def U0 (a:Option Addr) (R:TR [.sc .p]→Pr):Pr:=
 Nn a fun b=>
 R ((some (b.add 14)),())
theorem SS (a) {R w} (h:U0 a R w):Cl Pg 160 [(Vp a)] false [.sc .p] R w:=
 ce (s' (s' l')) Tryz.func160 h
def V5 (a:Value) (R:TR [.ag [.v,.v,.v]]→Pr):Pr:=
 AY ((a:Value).oneCell'=true) <|
 At #[a] 225 fun b=>
 At #[.nilFunc,.nilFunc,.nilFunc] 171 fun c=>
 AY (((.func (.func 235) #[] #[(Vp (some b))]):Value).oneCell'=true) <|
 AY (((.func (.func 236) #[] #[(Vp (some b))]):Value).oneCell'=true) <|
 AY (((.func (.func 238) #[] #[(Vp (some b))]):Value).oneCell'=true) <|
 St (c.add 0) (.func (.func 235) #[] #[(Vp (some b))]) <|
 St (c.add 1) (.func (.func 236) #[] #[(Vp (some b))]) <|
 St (c.add 2) (.func (.func 238) #[] #[(Vp (some b))]) <|
 Lv3 c fun d e f=>
 R ((d,e,f,()),())
theorem SF (a) {R w} (h:V5 a R w):Cl Pg 161 [a] false [.ag [.v,.v,.v]] R w:=
 ce (s' (s' l')) Tryz.func161 h
def RA (a:Option Addr) (R:TR [.sc .p]→Pr):Pr:=
 Nn a fun b=>
 R ((some (b.add 4)),())
theorem QL (a) {R w} (h:RA a R w):Cl Pg 162 [(Vp a)] false [.sc .p] R w:=
 ce (s' (s' l')) Tryz.func162 h
def RH (a:Option Addr) (R:TR [.sc .p]→Pr):Pr:=
 Nn a fun b=>
 R ((some (b.add 5)),())
theorem Qx (a) {R w} (h:RH a R w):Cl Pg 163 [(Vp a)] false [.sc .p] R w:=
 ce (s' (s' l')) Tryz.func163 h
def RS (a:Option Addr) (R:TR [.sc .b]→Pr):Pr:=
 Nn a fun b=>
 Lb b 15 fun c=>
 R ((!c),())
theorem Rh (a) {R w} (h:RS a R w):Cl Pg 168 [(Vp a)] false [.sc .b] R w:=
 ce (s' (s' l')) Tryz.func168 h
def RI (a:Option Addr) (R:TR [.sc .b]→Pr):Pr:=
 Nn a fun b=>
 Ls (b.add 16) 0 fun c=>
 Ls (b.add 16) 1 fun d=>
 R (((seq c (BA [])) && ((seq d (BA [])) && true)),())
theorem QP (a) {R w} (h:RI a R w):Cl Pg 173 [(Vp a)] false [.sc .b] R w:=
 ce (s' (s' l')) Tryz.func173 h
def Pu (a b c:Value) (R:TR [.ag [.v,.v,.v]]→Pr):Pr:=
 AY ((a:Value).oneCell'=true) <|
 At #[a] 234 fun d=>
 AY ((b:Value).oneCell'=true) <|
 At #[b] 235 fun e=>
 AY ((c:Value).oneCell'=true) <|
 At #[c] 236 fun f=>
 At #[.nilFunc,.nilFunc,.nilFunc] 171 fun g=>
 AY (((.func (.func 242) #[] #[(Vp (some d)),(Vp (some e))]):Value).oneCell'=true) <|
 AY (((.func (.func 243) #[] #[(Vp (some d)),(Vp (some f))]):Value).oneCell'=true) <|
 AY (((.func (.func 245) #[] #[(Vp (some d))]):Value).oneCell'=true) <|
 St (g.add 0) (.func (.func 242) #[] #[(Vp (some d)),(Vp (some e))]) <|
 St (g.add 1) (.func (.func 243) #[] #[(Vp (some d)),(Vp (some f))]) <|
 St (g.add 2) (.func (.func 245) #[] #[(Vp (some d))]) <|
 Lv3 g fun i j k=>
 R ((i,j,k,()),())
theorem Qe (a b c) {R w} (h:Pu a b c R w):Cl Pg 174 [a,b,c] false [.ag [.v,.v,.v]] R w:=
 ce (s' (s' l')) Tryz.func174 h
def RG (a:Option Addr) (R:TR [.sc .p]→Pr):Pr:=
 Nn a fun b=>
 R ((some (b.add 18)),())
theorem QE (a) {R w} (h:RG a R w):Cl Pg 175 [(Vp a)] false [.sc .p] R w:=
 ce (s' (s' l')) Tryz.func175 h
def Kk (a b c:Value) (R:TR [.ag [.v,.v,.v]]→Pr):Pr:=
 AY ((a:Value).oneCell'=true) <|
 At #[a] 240 fun d=>
 AY ((b:Value).oneCell'=true) <|
 At #[b] 241 fun e=>
 AY ((c:Value).oneCell'=true) <|
 At #[c] 242 fun f=>
 At #[.nilFunc,.nilFunc,.nilFunc] 171 fun g=>
 AY (((.func (.func 246) #[] #[(Vp (some d)),(Vp (some e))]):Value).oneCell'=true) <|
 AY (((.func (.func 247) #[] #[(Vp (some d)),(Vp (some f))]):Value).oneCell'=true) <|
 AY (((.func (.func 248) #[] #[(Vp (some d))]):Value).oneCell'=true) <|
 St (g.add 0) (.func (.func 246) #[] #[(Vp (some d)),(Vp (some e))]) <|
 St (g.add 1) (.func (.func 247) #[] #[(Vp (some d)),(Vp (some f))]) <|
 St (g.add 2) (.func (.func 248) #[] #[(Vp (some d))]) <|
 Lv3 g fun i j k=>
 R ((i,j,k,()),())
theorem Mb (a b c) {R w} (h:Kk a b c R w):Cl Pg 178 [a,b,c] false [.ag [.v,.v,.v]] R w:=
 ce (s' (s' l')) Tryz.func178 h
def RX (a:Option Addr) (R:TR [.sc .p]→Pr):Pr:=
 Nn a fun b=>
 R ((some (b.add 19)),())
theorem QQ (a) {R w} (h:RX a R w):Cl Pg 179 [(Vp a)] false [.sc .p] R w:=
 ce (s' (s' l')) Tryz.func179 h
def LO (a b c:Value) (R:TR [.ag [.v,.v,.v]]→Pr):Pr:=
 AY ((a:Value).oneCell'=true) <|
 At #[a] 246 fun d=>
 AY ((b:Value).oneCell'=true) <|
 At #[b] 247 fun e=>
 AY ((c:Value).oneCell'=true) <|
 At #[c] 248 fun f=>
 At #[.nilFunc,.nilFunc,.nilFunc] 171 fun g=>
 AY (((.func (.func 249) #[] #[(Vp (some d)),(Vp (some e))]):Value).oneCell'=true) <|
 AY (((.func (.func 250) #[] #[(Vp (some d)),(Vp (some f))]):Value).oneCell'=true) <|
 AY (((.func (.func 251) #[] #[(Vp (some d))]):Value).oneCell'=true) <|
 St (g.add 0) (.func (.func 249) #[] #[(Vp (some d)),(Vp (some e))]) <|
 St (g.add 1) (.func (.func 250) #[] #[(Vp (some d)),(Vp (some f))]) <|
 St (g.add 2) (.func (.func 251) #[] #[(Vp (some d))]) <|
 Lv3 g fun i j k=>
 R ((i,j,k,()),())
theorem M4 (a b c) {R w} (h:LO a b c R w):Cl Pg 182 [a,b,c] false [.ag [.v,.v,.v]] R w:=
 ce (s' (s' l')) Tryz.func182 h
def Rl (a:Option Addr) (R:TR [.sc .p]→Pr):Pr:=
 Nn a fun b=>
 R ((some (b.add 20)),())
theorem Qv (a) {R w} (h:Rl a R w):Cl Pg 183 [(Vp a)] false [.sc .p] R w:=
 ce (s' (s' l')) Tryz.func183 h
def Il (a:Sl) (b:Int) (R:TR [.sc (.i .i64)]→Pr):Pr:=
 Lp (σ:=Int × Int × Unit) (fun c d=>
 Br (decide ((d.2.1:Int) < ((a.len:Nat):Int))) (
 Ix a d.2.1 1 fun e=>
 A2 .i32 e fun f=>
 Br ((b:Int) == f) (
 R (d.2.1,())) (
 c (d.1,(An (d.2.1 + 1)),()))) (
 R ((-1),()))) (0,0,())
theorem KN (a b) {R w} (h:Il a b R w):Cl Pg 186 [(Vs a),(.int .i32 b)] false [.sc (.i .i64)] R w:=
 ce (s' (q' (s' (.block (.loop [(4,.sc (.i .i64)),(8,.sc (.i .i64))] (s' (q' (k' l' l') (q' (.block (s' (s' (k' (s' l') l')))) l')))))) (s' l'))) Tryz.func186 h
def Hh (a b c d e:Int) (f g i:Sl) (j k:Int) (l m:ByteArray) (n o p:Int) (q r:ByteArray) (R:TR [.sc .sl,.sc (.i .i64)]→Pr):Pr:=
 At (Al a b c d e f g i j k l m n o p q r) 41 fun s=>
 Az s fun t u v x y z a0 b0 c0 d0 e0 f0 g0 i0 j0 k0 l0=>
 Cl Pg 25 [(.agg (Al t u v x y z a0 b0 c0 d0 e0 f0 g0 i0 j0 k0 l0))] false [.sc (.i .i64)] fun m0=>
 Br ((m0.1:Int) != 0) (
 R (⟨none,0,0⟩,m0.1,())) (
 At #[(.int .u8 83)] 5 fun n0=>
 At #[(.slice (some n0) 1 1)] 307 fun o0=>
 Akq s fun p0 q0 r0 s0 t0=>
 At #[(Vu (IntKind.u64.wrap (p0))),(Vu q0),(Vu r0),(Vu s0),(Vu t0)] 32 fun u0=>
 Cl Pg 252 [(Vp (some o0)),(.slice (some u0) 5 5)] true [] fun v0=>
 Ll s 5 fun x0=>
 Cl Pg 253 [(Vp (some o0)),(Vs x0),(.func (.func 254) #[(Vp (some o0))] #[])] true [] fun y0=>
 Ll s 6 fun z0=>
 Cl Pg 255 [(Vp (some o0)),(Vs z0),(.func (.func 256) #[(Vp (some o0))] #[])] true [] fun a1=>
 Ll s 7 fun b1=>
 Cl Pg 257 [(Vp (some o0)),(Vs b1),(.func (.func 258) #[(Vp (some o0))] #[])] true [] fun c1=>
 Lu s 8 fun d1=>
 Lu s 9 fun e1=>
 At #[(Vu d1),(Vu e1)] 32 fun f1=>
 Cl Pg 252 [(Vp (some o0)),(.slice (some f1) 2 2)] true [] fun g1=>
 Ls (s.add 10) 0 fun i1=>
 Ls (s.add 10) 1 fun j1=>
 Cl Pg 259 [(Vp (some o0)),(.agg #[(Vt i1),(Vt j1)])] true [] fun k1=>
 Lu3 (s.add 12) fun l1 m1 n1=>
 At (Au3 l1 m1 n1) 32 fun o1=>
 Cl Pg 252 [(Vp (some o0)),(.slice (some o1) 3 3)] true [] fun p1=>
 BU (((s.add 12).add 3).add 0) fun q1=>
 BU (((s.add 12).add 3).add 1) fun r1=>
 Cl Pg 259 [(Vp (some o0)),(.agg #[(Vt q1),(Vt r1)])] true [] fun s1=>
 Ll o0 0 fun t1=>
 R (t1,0,()))
theorem Jy (a b c d e f g i j k l m n o p q r) {R w} (h:Hh a b c d e f g i j k l m n o p q r R w):Cl Pg 187 [(.agg (Al a b c d e f g i j k l m n o p q r))] true [.sc .sl,.sc (.i .i64)] R w:=
 ce (s' (q' (s' (s' (k' (s' l') l'))) (s' (s' (s' (s' (s' (s' (s' (s' (s' (s' l')))))))))))) Tryz.func187 h
def Cj (a:Sl) (b c:Int) (R:TR []→Pr):Pr:=
 Lp (σ:=Int × Unit) (fun d e=>
 Br (decide ((e.1:Int) < c)) (
 Lp (σ:=Int × Unit) (fun f g=>
 Jp (σ:=Bool × Unit) (fun i=>
 Br i.1 (
 Dr <|
 Ix a (An (g.1 - 1)) 1 fun j=>
 A2 .u64 j fun k=>
 Ix a g.1 1 fun l=>
 A2 .u64 l fun m=>
 Ix a g.1 1 fun n=>
 St n (Vu k) <|
 Ix a (An (g.1 - 1)) 1 fun o=>
 St o (Vu m) <|
 f ((An (g.1 - 1)),())) (
 d ((An (e.1 + 1)),()))) fun p=>
 Dr <|
 Br (decide ((g.1:Int) > b)) (
 Ix a g.1 1 fun q=>
 A2 .u64 q fun r=>
 Ix a (An (g.1 - 1)) 1 fun s=>
 A2 .u64 s fun t=>
 Cl Pg 194 [(Vu r),(Vu t)] false [.sc .b] fun u=>
 p (u.1,())) (
 p (false,()))) (e.1,())) (
 R ())) ((An (b + 1)),())
theorem Dx (a b c) {R w} (h:Cj a b c R w):Cl Pg 188 [(Vs a),(Vi b),(Vi c)] true [] R w:=
 ce (s' (.block (.loop [(6,.sc (.i .i64))] (q' (s' (k' l' l')) (q' (.block (s' (.block (.loop [(7,.sc (.i .i64))] (q' (q' (.join [(30,.sc .b)] l') (k' l' l')) (q' (.block l') l')))))) l'))))) Tryz.func188 h
def CL (a:Sl) (b c:Int) (R:TR []→Pr):Pr:=
 AY (2 ≠ (0:Int)) <|
 Lp (σ:=Int × Unit) (fun d e=>
 Br (decide ((e.1:Int) ≥ 0)) (
 Cl Pg 260 [(Vs a),(Vi e.1),(Vi (An (c - b))),(Vi b)] true [] fun f=>
 d ((An (e.1 - 1)),())) (
 Lp (σ:=Int × Unit) (fun g i=>
 Br (decide ((i.1:Int) ≥ 0)) (
 Dr <|
 Ix a (An (b + i.1)) 1 fun j=>
 A2 .u64 j fun k=>
 Ix a b 1 fun l=>
 A2 .u64 l fun m=>
 Ix a b 1 fun n=>
 St n (Vu k) <|
 Ix a (An (b + i.1)) 1 fun o=>
 St o (Vu m) <|
 Cl Pg 260 [(Vs a),(Vi 0),(Vi i.1),(Vi b)] true [] fun p=>
 g ((An (i.1 - 1)),())) (
 R ())) ((An ((An (c - b)) - 1)),()))) ((An ((An ((An (c - b)) - 1)).tdiv 2)),())
theorem Eg (a b c) {R w} (h:CL a b c R w):Cl Pg 189 [(Vs a),(Vi b),(Vi c)] true [] R w:=
 ce (s' (s' (s' (q' (s' (.block (.loop [(9,.sc (.i .i64))] (q' (s' (k' l' l')) (q' (.block l') l'))))) (s' (.block (.loop [(10,.sc (.i .i64))] (q' (s' (k' l' l')) (q' (.block (s' l')) l'))))))))) Tryz.func189 h
def Cf (a:Sl) (b c:Int) (R:TR []→Pr):Pr:=
 Br (decide (((An (c - b)):Int) ≥ 8)) (
 At #[(Vu 0)] 315 fun d=>
 St d (Vu (IntKind.u64.wrap ((An (c - b))))) <|
 Cl Pg 261 [(Vi (An (c - b)))] false [.sc (.i .u64)] fun e=>
 AY (4 ≠ (0:Int)) <|
 Lp (σ:=Int × Unit) (fun f g=>
 AY (4 ≠ (0:Int)) <|
 Br (decide ((g.1:Int)≤(An ((An (b + (An ((An ((An (c - b)).tdiv 4)) * 2)))) + 1)))) (
 Cl Pg 262 [(Vp (some d))] false [.sc (.i .u64)] fun i=>
 Jp (σ:=Int × Unit) (fun j=>
 Dr <|
 Ix a (An (b + j.1)) 1 fun k=>
 A2 .u64 k fun l=>
 Ix a g.1 1 fun m=>
 A2 .u64 m fun n=>
 Ix a g.1 1 fun o=>
 St o (Vu l) <|
 Ix a (An (b + j.1)) 1 fun p=>
 St p (Vu n) <|
 f ((An (g.1 + 1)),())) fun q=>
 Br (decide (((An ((AfX .u64 i.1 (IntKind.u64.wrap (e.1 - 1))))):Int) ≥ (An (c - b)))) (
 q ((An ((An ((AfX .u64 i.1 (IntKind.u64.wrap (e.1 - 1))))) - (An (c - b)))),())) (
 q ((An ((AfX .u64 i.1 (IntKind.u64.wrap (e.1 - 1))))),()))) (
 R ())) ((An ((An (b + (An ((An ((An (c - b)).tdiv 4)) * 2)))) - 1)),())) (
 R ())
theorem Dw (a b c) {R w} (h:Cf a b c R w):Cl Pg 190 [(Vs a),(Vi b),(Vi c)] true [] R w:=
 ce (s' (s' (k' (s' (s' (s' (.block (.loop [(9,.sc (.i .i64))] (q' (s' (k' l' l')) (q' (.block (s' (q' (.join [(10,.sc (.i .i64))] (s' (k' l' l'))) l'))) l'))))))) l'))) Tryz.func190 h
def Cx (a:Sl) (b c:Int) (R:TR [.sc (.i .i64),.sc (.i .i64)]→Pr):Pr:=
 At #[(Vi 0)] 3 fun d=>
 AY (4 ≠ (0:Int)) <|
 AY (4 ≠ (0:Int)) <|
 AY (4 ≠ (0:Int)) <|
 Jp (σ:=Int × Unit) (fun e=>
 A2 .i64 d fun f=>
 Br ((f:Int) == 0) (
 R (e.1,1,())) (
 Br ((f:Int) == 12) (
 R (e.1,2,())) (
 R (e.1,0,())))) fun g=>
 Br (decide (((An (c - b)):Int) ≥ 8)) (
 Jp (σ:=Int × Int × Int × Unit) (fun i=>
 Cl Pg 264 [(Vs a),(Vi i.1),(Vi i.2.1),(Vi i.2.2.1),(Vp (some d))] false [.sc (.i .i64)] fun j=>
 g (j.1,())) fun k=>
 Br (decide (((An (c - b)):Int) ≥ 50)) (
 Cl Pg 263 [(Vs a),(Vi (An (b + (An ((An ((An (c - b)).tdiv 4)) * 1))))),(Vp (some d))] false [.sc (.i .i64)] fun l=>
 Cl Pg 263 [(Vs a),(Vi (An (b + (An ((An ((An (c - b)).tdiv 4)) * 2))))),(Vp (some d))] false [.sc (.i .i64)] fun m=>
 Cl Pg 263 [(Vs a),(Vi (An (b + (An ((An ((An (c - b)).tdiv 4)) * 3))))),(Vp (some d))] false [.sc (.i .i64)] fun n=>
 k (l.1,m.1,n.1,())) (
 k ((An (b + (An ((An ((An (c - b)).tdiv 4)) * 1)))),(An (b + (An ((An ((An (c - b)).tdiv 4)) * 2)))),(An (b + (An ((An ((An (c - b)).tdiv 4)) * 3)))),()))) (
 g ((An (b + (An ((An ((An (c - b)).tdiv 4)) * 2)))),()))
theorem DM (a b c) {R w} (h:Cx a b c R w):Cl Pg 191 [(Vs a),(Vi b),(Vi c)] true [.sc (.i .i64),.sc (.i .i64)] R w:=
 ce (s' (s' (s' (s' (s' (s' (q' (.join [(11,.sc (.i .i64))] (s' (k' (q' (.join [(10,.sc (.i .i64)),(11,.sc (.i .i64)),(12,.sc (.i .i64))] (s' (k' (s' (s' l')) l'))) l') l'))) (s' (.block (s' (k' (s' l') (s' (k' (s' l') (s' l')))))))))))))) Tryz.func191 h
def Cn (a:Sl) (b c:Int) (R:TR []→Pr):Pr:=
 Lp (σ:=Int × Int × Unit) (fun d e=>
 Br (decide ((e.1:Int) < e.2.1)) (
 Dr <|
 Ix a e.2.1 1 fun f=>
 A2 .u64 f fun g=>
 Ix a e.1 1 fun i=>
 A2 .u64 i fun j=>
 Ix a e.1 1 fun k=>
 St k (Vu g) <|
 Ix a e.2.1 1 fun l=>
 St l (Vu j) <|
 d ((An (e.1 + 1)),(An (e.2.1 - 1)),())) (
 R ())) (b,(An (c - 1)),())
theorem DA (a b c) {R w} (h:Cn a b c R w):Cl Pg 192 [(Vs a),(Vi b),(Vi c)] true [] R w:=
 ce (s' (s' (.block (.loop [(6,.sc (.i .i64)),(7,.sc (.i .i64))] (q' (s' (k' l' l')) (.block (s' (s' l')))))))) Tryz.func192 h
def B6 (a:Sl) (b c:Int) (R:TR [.sc .b]→Pr):Pr:=
 Lp (σ:=Bool × Int × Int × Unit) (fun d e=>
 Br (decide ((e.2.2.1:Int) < 5)) (
 Jp (σ:=Bool × Int × Unit) (fun f=>
 d (f.1,f.2.1,(An (e.2.2.1 + 1)),())) fun g=>
 Lp (σ:=Int × Unit) (fun i j=>
 Jp (σ:=Bool × Unit) (fun k=>
 Br k.1 (
 i ((An (j.1 + 1)),())) (
 Br ((j.1:Int) == c) (
 R (true,())) (
 Br (decide (((An (c - b)):Int) < 50)) (
 R (false,())) (
 Dr <|
 Ix a (An (j.1 - 1)) 1 fun l=>
 A2 .u64 l fun m=>
 Ix a j.1 1 fun n=>
 A2 .u64 n fun o=>
 Ix a j.1 1 fun p=>
 St p (Vu m) <|
 Ix a (An (j.1 - 1)) 1 fun q=>
 St q (Vu o) <|
 Jp (σ:=Unit) (fun r=>
 Br (decide (((An (c - j.1)):Int) ≥ 2)) (
 Lp (σ:=Int × Unit) (fun s t=>
 Br (decide ((t.1:Int) < c)) (
 Dr <|
 Ix a t.1 1 fun u=>
 A2 .u64 u fun v=>
 Ix a (An (t.1 - 1)) 1 fun x=>
 A2 .u64 x fun y=>
 Cl Pg 194 [(Vu v),(Vu y)] false [.sc .b] fun z=>
 Br (!z.1) (
 g (e.1,j.1,())) (
 Dr <|
 Ix a (An (t.1 - 1)) 1 fun a0=>
 A2 .u64 a0 fun b0=>
 Ix a t.1 1 fun c0=>
 A2 .u64 c0 fun d0=>
 Ix a t.1 1 fun e0=>
 St e0 (Vu b0) <|
 Ix a (An (t.1 - 1)) 1 fun f0=>
 St f0 (Vu d0) <|
 s ((An (t.1 + 1)),()))) (
 g (e.1,j.1,()))) ((An (j.1 + 1)),())) (
 g (e.1,j.1,()))) fun g0=>
 Br (decide (((An (j.1 - b)):Int) ≥ 2)) (
 Lp (σ:=Int × Unit) (fun i0 j0=>
 Br (decide ((j0.1:Int) ≥ 1)) (
 Dr <|
 Ix a j0.1 1 fun k0=>
 A2 .u64 k0 fun l0=>
 Ix a (An (j0.1 - 1)) 1 fun m0=>
 A2 .u64 m0 fun n0=>
 Cl Pg 194 [(Vu l0),(Vu n0)] false [.sc .b] fun o0=>
 Br (!o0.1) (
 g0 ()) (
 Dr <|
 Ix a (An (j0.1 - 1)) 1 fun p0=>
 A2 .u64 p0 fun q0=>
 Ix a j0.1 1 fun r0=>
 A2 .u64 r0 fun s0=>
 Ix a j0.1 1 fun t0=>
 St t0 (Vu q0) <|
 Ix a (An (j0.1 - 1)) 1 fun u0=>
 St u0 (Vu s0) <|
 i0 ((An (j0.1 - 1)),()))) (
 g0 ())) ((An (j.1 - 1)),())) (
 g0 ()))))) fun v0=>
 Dr <|
 Br (decide ((j.1:Int) < c)) (
 Ix a j.1 1 fun x0=>
 A2 .u64 x0 fun y0=>
 Ix a (An (j.1 - 1)) 1 fun z0=>
 A2 .u64 z0 fun a1=>
 Cl Pg 194 [(Vu y0),(Vu a1)] false [.sc .b] fun b1=>
 v0 ((!b1.1),())) (
 v0 (false,()))) (e.2.1,())) (
 R (false,()))) (false,(An (b + 1)),0,())
theorem C5 (a b c) {R w} (h:B6 a b c R w):Cl Pg 193 [(Vs a),(Vi b),(Vi c)] false [.sc .b] R w:=
 ce (s' (s' (q' (s' (.block (.loop [(6,.sc .b),(7,.sc (.i .i64)),(8,.sc (.i .i64))] (q' (s' (k' l' l')) (q' (.join [(6,.sc .b),(7,.sc (.i .i64))] (.block (q' (.block (.loop [(7,.sc (.i .i64))] (q' (q' (.join [(32,.sc .b)] l') (k' l' l')) (.block l')))) (q' (s' (k' (s' l') l')) (q' (s' (k' (s' l') l')) (s' (q' (.join [] (s' (k' (s' (.block (.loop [(9,.sc (.i .i64))] (q' (s' (k' l' l')) (q' (.block (q' (s' (k' l' l')) l')) l'))))) l'))) (s' (k' (s' (.block (.loop [(10,.sc (.i .i64))] (q' (s' (k' l' l')) (q' (.block (q' (s' (k' l' l')) l')) l'))))) l'))))))))) l'))))) (s' l')))) Tryz.func193 h
open Go Go.Sx
def LD (a b:Int) (R:TR [.sc .b]→Pr):Pr:=
 Cl Pg 110 [(Vu a)] false [.sc .b] fun c=>
 Br c.1 (
 Cl Pg 110 [(Vu b)] false [.sc .b] fun d=>
 Br (!d.1) (
 R (true,())) (
 R ((decide ((a:Int) < b)),()))) (
 R ((decide ((a:Int) < b)),()))
theorem MA (a b) {R w} (h:LD a b R w):Cl Pg 194 [(Vu a),(Vu b)] false [.sc .b] R w:=
 ce (s' (s' l')) Tryz.func194 h
def Cc (a:Sl) (b c d:Int) (R:TR [.sc (.i .i64)]→Pr):Pr:=
 Dr <|
 Ix a d 1 fun e=>
 A2 .u64 e fun f=>
 Ix a b 1 fun g=>
 A2 .u64 g fun i=>
 Ix a b 1 fun j=>
 St j (Vu f) <|
 Ix a d 1 fun k=>
 St k (Vu i) <|
 Lp (σ:=Int × Int × Unit) (fun l m=>
 Lp (σ:=Int × Unit) (fun n o=>
 Jp (σ:=Bool × Unit) (fun p=>
 Br p.1 (
 n ((An (o.1 + 1)),())) (
 Lp (σ:=Int × Unit) (fun q r=>
 Jp (σ:=Bool × Unit) (fun s=>
 Br s.1 (
 q ((An (r.1 - 1)),())) (
 Br (decide ((o.1:Int) > r.1)) (
 R (o.1,())) (
 Dr <|
 Ix a r.1 1 fun t=>
 A2 .u64 t fun u=>
 Ix a o.1 1 fun v=>
 A2 .u64 v fun x=>
 Ix a o.1 1 fun y=>
 St y (Vu u) <|
 Ix a r.1 1 fun z=>
 St z (Vu x) <|
 l ((An (o.1 + 1)),(An (r.1 - 1)),())))) fun a0=>
 Dr <|
 Br (decide ((o.1:Int)≤r.1)) (
 Ix a b 1 fun b0=>
 A2 .u64 b0 fun c0=>
 Ix a r.1 1 fun d0=>
 A2 .u64 d0 fun e0=>
 Cl Pg 194 [(Vu c0),(Vu e0)] false [.sc .b] fun f0=>
 a0 (f0.1,())) (
 a0 (false,()))) (m.2.1,()))) fun g0=>
 Dr <|
 Br (decide ((o.1:Int)≤m.2.1)) (
 Ix a b 1 fun i0=>
 A2 .u64 i0 fun j0=>
 Ix a o.1 1 fun k0=>
 A2 .u64 k0 fun l0=>
 Cl Pg 194 [(Vu j0),(Vu l0)] false [.sc .b] fun m0=>
 g0 ((!m0.1),())) (
 g0 (false,()))) (m.1,())) ((An (b + 1)),(An (c - 1)),())
theorem Dm (a b c d) {R w} (h:Cc a b c d R w):Cl Pg 195 [(Vs a),(Vi b),(Vi c),(Vi d)] false [.sc (.i .i64)] R w:=
 ce (s' (s' (s' (q' (.block (.loop [(9,.sc (.i .i64)),(10,.sc (.i .i64))] (.block (q' (.block (.loop [(9,.sc (.i .i64))] (q' (q' (.join [(43,.sc .b)] l') (k' l' l')) (.block l')))) (q' (.block (.loop [(10,.sc (.i .i64))] (q' (q' (.join [(59,.sc .b)] l') (k' l' l')) (.block l')))) (q' (s' (k' l' l')) (s' (s' l')))))))) (s' l'))))) Tryz.func195 h
def CC (a:Sl) (b c d:Int) (R:TR [.sc (.i .i64),.sc .b]→Pr):Pr:=
 Dr <|
 Ix a d 1 fun e=>
 A2 .u64 e fun f=>
 Ix a b 1 fun g=>
 A2 .u64 g fun i=>
 Ix a b 1 fun j=>
 St j (Vu f) <|
 Ix a d 1 fun k=>
 St k (Vu i) <|
 Lp (σ:=Int × Unit) (fun l m=>
 Jp (σ:=Bool × Unit) (fun n=>
 Br n.1 (
 l ((An (m.1 + 1)),())) (
 Lp (σ:=Int × Unit) (fun o p=>
 Jp (σ:=Bool × Unit) (fun q=>
 Br q.1 (
 o ((An (p.1 - 1)),())) (
 Br (decide ((m.1:Int) > p.1)) (
 Dr <|
 Ix a b 1 fun r=>
 A2 .u64 r fun s=>
 Ix a p.1 1 fun t=>
 A2 .u64 t fun u=>
 Ix a p.1 1 fun v=>
 St v (Vu s) <|
 Ix a b 1 fun x=>
 St x (Vu u) <|
 R (p.1,true,())) (
 Dr <|
 Ix a p.1 1 fun y=>
 A2 .u64 y fun z=>
 Ix a m.1 1 fun a0=>
 A2 .u64 a0 fun b0=>
 Ix a m.1 1 fun c0=>
 St c0 (Vu z) <|
 Ix a p.1 1 fun d0=>
 St d0 (Vu b0) <|
 Lp (σ:=Int × Int × Unit) (fun e0 f0=>
 Lp (σ:=Int × Unit) (fun g0 i0=>
 Jp (σ:=Bool × Unit) (fun j0=>
 Br j0.1 (
 g0 ((An (i0.1 + 1)),())) (
 Lp (σ:=Int × Unit) (fun k0 l0=>
 Jp (σ:=Bool × Unit) (fun m0=>
 Br m0.1 (
 k0 ((An (l0.1 - 1)),())) (
 Br (decide ((i0.1:Int) > l0.1)) (
 Dr <|
 Ix a b 1 fun n0=>
 A2 .u64 n0 fun o0=>
 Ix a l0.1 1 fun p0=>
 A2 .u64 p0 fun q0=>
 Ix a l0.1 1 fun r0=>
 St r0 (Vu o0) <|
 Ix a b 1 fun s0=>
 St s0 (Vu q0) <|
 R (l0.1,false,())) (
 Dr <|
 Ix a l0.1 1 fun t0=>
 A2 .u64 t0 fun u0=>
 Ix a i0.1 1 fun v0=>
 A2 .u64 v0 fun x0=>
 Ix a i0.1 1 fun y0=>
 St y0 (Vu u0) <|
 Ix a l0.1 1 fun z0=>
 St z0 (Vu x0) <|
 e0 ((An (i0.1 + 1)),(An (l0.1 - 1)),())))) fun a1=>
 Dr <|
 Br (decide ((i0.1:Int)≤l0.1)) (
 Ix a l0.1 1 fun b1=>
 A2 .u64 b1 fun c1=>
 Ix a b 1 fun d1=>
 A2 .u64 d1 fun e1=>
 Cl Pg 194 [(Vu c1),(Vu e1)] false [.sc .b] fun f1=>
 a1 ((!f1.1),())) (
 a1 (false,()))) (f0.2.1,()))) fun g1=>
 Dr <|
 Br (decide ((i0.1:Int)≤f0.2.1)) (
 Ix a i0.1 1 fun i1=>
 A2 .u64 i1 fun j1=>
 Ix a b 1 fun k1=>
 A2 .u64 k1 fun l1=>
 Cl Pg 194 [(Vu j1),(Vu l1)] false [.sc .b] fun m1=>
 g1 (m1.1,())) (
 g1 (false,()))) (f0.1,())) ((An (m.1 + 1)),(An (p.1 - 1)),())))) fun n1=>
 Dr <|
 Br (decide ((m.1:Int)≤p.1)) (
 Ix a p.1 1 fun o1=>
 A2 .u64 o1 fun p1=>
 Ix a b 1 fun q1=>
 A2 .u64 q1 fun r1=>
 Cl Pg 194 [(Vu p1),(Vu r1)] false [.sc .b] fun s1=>
 n1 ((!s1.1),())) (
 n1 (false,()))) ((An (c - 1)),()))) fun t1=>
 Dr <|
 Br (decide ((m.1:Int)≤(An (c - 1)))) (
 Ix a m.1 1 fun u1=>
 A2 .u64 u1 fun v1=>
 Ix a b 1 fun x1=>
 A2 .u64 x1 fun y1=>
 Cl Pg 194 [(Vu v1),(Vu y1)] false [.sc .b] fun z1=>
 t1 (z1.1,())) (
 t1 (false,()))) ((An (b + 1)),())
theorem DT (a b c d) {R w} (h:CC a b c d R w):Cl Pg 196 [(Vs a),(Vi b),(Vi c),(Vi d)] true [.sc (.i .i64),.sc .b] R w:=
 ce (s' (s' (s' (q' (.block (.loop [(10,.sc (.i .i64))] (q' (q' (.join [(43,.sc .b)] l') (k' l' l')) (.block l')))) (q' (.block (.loop [(11,.sc (.i .i64))] (q' (q' (.join [(60,.sc .b)] l') (k' l' l')) (.block l')))) (q' (s' (k' (s' (s' l')) l')) (s' (s' (s' (q' (.block (.loop [(10,.sc (.i .i64)),(11,.sc (.i .i64))] (.block (q' (.block (.loop [(10,.sc (.i .i64))] (q' (q' (.join [(112,.sc .b)] l') (k' l' l')) (.block l')))) (q' (.block (.loop [(11,.sc (.i .i64))] (q' (q' (.join [(129,.sc .b)] l') (k' l' l')) (.block l')))) (q' (s' (k' l' l')) (s' (s' l')))))))) (s' (s' l')))))))))))) Tryz.func196 h
def LH (a:Int) (R:TR [.sc (.i .i64)]→Pr):Pr:=
 Jp (σ:=Int × Int × Unit) (fun b=>
 Jp (σ:=Int × Int × Unit) (fun c=>
 Jp (σ:=Int × Int × Unit) (fun d=>
 IxS (BA [0,1,2,2,3,3,3,3,4,4,4,4,4,4,4,4,5,5,5,5,5,5,5,5,5,5,5,5,5,5,5,5,6,6,6,6,6,6,6,6,6,6,6,6,6,6,6,6,6,6,6,6,6,6,6,6,6,6,6,6,6,6,6,6,7,7,7,7,7,7,7,7,7,7,7,7,7,7,7,7,7,7,7,7,7,7,7,7,7,7,7,7,7,7,7,7,7,7,7,7,7,7,7,7,7,7,7,7,7,7,7,7,7,7,7,7,7,7,7,7,7,7,7,7,7,7,7,7,8,8,8,8,8,8,8,8,8,8,8,8,8,8,8,8,8,8,8,8,8,8,8,8,8,8,8,8,8,8,8,8,8,8,8,8,8,8,8,8,8,8,8,8,8,8,8,8,8,8,8,8,8,8,8,8,8,8,8,8,8,8,8,8,8,8,8,8,8,8,8,8,8,8,8,8,8,8,8,8,8,8,8,8,8,8,8,8,8,8,8,8,8,8,8,8,8,8,8,8,8,8,8,8,8,8,8,8,8,8,8,8,8,8,8,8,8,8,8,8,8,8,8,8,8,8,8,8]) (IntKind.u8.wrap (d.1)) fun c7=>
 R ((An (d.2.1 + (An (c7)))),())) fun e=>
 Br (decide ((c.1:Int) ≥ 256)) (
 AY ((0:Int)≤8) <|
 e ((IW .u64 c.1 8),(An (c.2.1 + 8)),())) (
 e (c.1,c.2.1,()))) fun f=>
 Br (decide ((b.1:Int) ≥ 65536)) (
 AY ((0:Int)≤16) <|
 f ((IW .u64 b.1 16),(An (b.2.1 + 16)),())) (
 f (b.1,b.2.1,()))) fun g=>
 Br (decide ((a:Int) ≥ 4294967296)) (
 AY ((0:Int)≤32) <|
 g ((IW .u64 a 32),32,())) (
 g (a,0,()))
theorem MB (a) {R w} (h:LH a R w):Cl Pg 198 [(Vu a)] false [.sc (.i .i64)] R w:=
 ce (s' (q' (.join [(0,.sc (.i .u64)),(2,.sc (.i .i64))] (s' (k' (s' l') l'))) (q' (.join [(0,.sc (.i .u64)),(2,.sc (.i .i64))] (s' (k' (s' l') l'))) (q' (.join [(0,.sc (.i .u64)),(2,.sc (.i .i64))] (s' (k' (s' l') l'))) (s' l'))))) Tryz.func198 h
def Zl (R:TR K6'→Pr):Pr:=
 At #[(Vb false),(Vb false),(Vb false),(Vb false),(Vb false),.nilFunc,(Vb false),(Vb false),(Vb false),(Vb false),(Vb false),.nilFunc,(Vb false),(Vb false),(Vb false),(Vb false),(Vb false),.nilFunc,(Vb false),(Vb false),(Vb false),(Vb false),(Vb false),.nilFunc,(Vb false),(Vb false),(Vb false),(Vb false),(Vb false),.nilFunc,(Vb false),(Vb false),(Vb false),(Vb false),(Vb false),.nilFunc] 264 fun a=>
 AY (((.func (.func 265) #[] #[]):Value).oneCell'=true) <|
 AY (((.func (.func 266) #[] #[]):Value).oneCell'=true) <|
 AY (((.func (.func 267) #[] #[]):Value).oneCell'=true) <|
 AY (((.func (.func 268) #[] #[]):Value).oneCell'=true) <|
 AY (((.func (.func 269) #[] #[]):Value).oneCell'=true) <|
 Sb5 a false false false false false <|
 St (a.add 5) .nilFunc <|
 Tb a 6 true <|
 Tb a 7 false <|
 Tb a 8 false <|
 Tb a 9 false <|
 Tb a 10 false <|
 St (a.add 11) (.func (.func 265) #[] #[]) <|
 Tb a 12 true <|
 Tb a 13 true <|
 Tb a 14 false <|
 Tb a 15 false <|
 Tb a 16 true <|
 St (a.add 17) (.func (.func 266) #[] #[]) <|
 Tb a 18 true <|
 Tb a 19 false <|
 Tb a 20 false <|
 Tb a 21 false <|
 Tb a 22 true <|
 St (a.add 23) (.func (.func 267) #[] #[]) <|
 Tb a 24 false <|
 Tb a 25 false <|
 Tb a 26 true <|
 Tb a 27 true <|
 Tb a 28 false <|
 St (a.add 29) (.func (.func 268) #[] #[]) <|
 Tb a 30 false <|
 Tb a 31 false <|
 Tb a 32 true <|
 Tb a 33 false <|
 Tb a 34 true <|
 St (a.add 35) (.func (.func 269) #[] #[]) <|
 Gq a fun b c d e f g i j k l m n o p q r s t u v x y z a0 b0 c0 d0 e0 f0 g0 i0 j0 k0 l0 m0 n0=>
 R ((b,c,d,e,f,g,i,j,k,l,m,n,o,p,q,r,s,t,u,v,x,y,z,a0,b0,c0,d0,e0,f0,g0,i0,j0,k0,l0,m0,n0,()),())
theorem VS {R w} (h:Zl  R w):Cl Pg 199 [] false K6' R w:=
 ce (s' (s' l')) Tryz.func199 h
def EY (a:Sl) (R:TR [.sc .sl]→Pr):Pr:=
 Br (decide ((((a.len:Nat):Int):Int) < 2)) (
 R (a,())) (
 Lp (σ:=Sl × Int × Unit) (fun b c=>
 Br (decide ((c.2.1:Int) < ((a.len:Nat):Int))) (
 Dr <|
 Ix a c.2.1 1 fun d=>
 A2 .u64 d fun e=>
 Ix a (An (c.2.1 - 1)) 1 fun f=>
 A2 .u64 f fun g=>
 Br ((e:Int) == g) (
 AY ((0:Int)≤c.2.1∧c.2.1≤((a.len:Nat):Int)) <|
 Lp (σ:=Int × Int × Unit) (fun i j=>
 Br (decide ((j.2.1:Int) < (((a.len - (Int.toNat c.2.1)):Nat):Int))) (
 Jp (σ:=Int × Unit) (fun k=>
 i (k.1,(An (j.2.1 + 1)),())) fun l=>
 Dr <|
 Ix ⟨(A7 a.p a.cap (Int.toNat c.2.1) 1),(a.len - (Int.toNat c.2.1)),(a.cap - (Int.toNat c.2.1))⟩ j.2.1 1 fun m=>
 A2 .u64 m fun n=>
 Ix ⟨(A7 a.p a.cap (Int.toNat c.2.1) 1),(a.len - (Int.toNat c.2.1)),(a.cap - (Int.toNat c.2.1))⟩ (An (j.2.1 - 1)) 1 fun o=>
 A2 .u64 o fun p=>
 Br ((n:Int) != p) (
 Ix ⟨(A7 a.p a.cap (Int.toNat c.2.1) 1),(a.len - (Int.toNat c.2.1)),(a.cap - (Int.toNat c.2.1))⟩ j.2.1 1 fun q=>
 A2 .u64 q fun r=>
 Ix a j.1 1 fun s=>
 St s (Vu r) <|
 l ((An (j.1 + 1)),())) (
 l (j.1,()))) (
 AY ((0:Int)≤j.1∧j.1≤((a.len:Nat):Int)) <|
 Zf (zc Pg 32) ⟨(A7 a.p a.cap (Int.toNat j.1) 1),(a.len - (Int.toNat j.1)),(a.cap - (Int.toNat j.1))⟩ <|
 AY ((0:Int)≤j.1∧j.1≤((a.cap:Nat):Int)) <|
 R (⟨(A7 a.p a.cap 0 1),((Int.toNat j.1) - 0),(a.cap - 0)⟩,()))) (c.2.1,1,())) (
 b (c.1,(An (c.2.1 + 1)),()))) (
 R (a,()))) (⟨none,0,0⟩,1,()))
theorem Hi (a) {R w} (h:EY a R w):Cl Pg 200 [(Vs a)] false [.sc .sl] R w:=
 ce (s' (q' (s' (k' (s' l') l')) (q' (s' (.block (.loop [(2,.sc .sl),(3,.sc (.i .i64))] (q' (s' (k' l' l')) (q' (.block (s' (k' (s' (q' (s' (.block (.loop [(3,.sc (.i .i64)),(5,.sc (.i .i64))] (q' (s' (k' l' l')) (q' (.join [(3,.sc (.i .i64))] (.block (s' (k' (s' l') l')))) l'))))) (s' (s' l')))) l'))) l'))))) (s' l')))) Tryz.func200 h
theorem GQ (p_s:Sl) (p_del:Value) {R:TR [.sc .sl]→Pr} {w:World} (h:Fp Pg 101 4 (zc Pg 146) (Ail [(.i .u64),.s,.s,.b] #[(.int .u64 0),(.string (BA [])),(.string (BA [])),(.bool false)] 146) p_s p_del R w):Cl Pg 201 [(.slice p_s.p p_s.len p_s.cap),p_del] false [.sc .sl] R w:=
 AF Tryz.checked.mixed (.seq .leaf (.seq .leaf (.seq (.seq .leaf (.cond (.seq .leaf .leaf) .leaf)) (.seq (.seq .leaf (.block (.loop [(5,.sc (.i .i64)),(6,.sc (.i .i64))] (.seq (.seq .leaf (.cond .leaf .leaf)) (.seq (.join [(5,.sc (.i .i64))] (.block (.seq .leaf (.seq .leaf (.cond (.seq .leaf .leaf) .leaf))))) .leaf))))) (.seq .leaf (.seq .leaf .leaf)))))) Tryz.func201 (by kernel_rfl) (by kernel_rfl) h
theorem Gd (p_s:Sl) (p_f:Value) {R:TR [.sc (.i .i64)]→Pr} {w:World} (h:BG Pg 1 (ldK (.i .u64)) p_s p_f R w):Cl Pg 203 [(.slice p_s.p p_s.len p_s.cap),p_f] false [.sc (.i .i64)] R w:=
 AF Tryz.checked.mixed (.seq .leaf (.seq (.seq .leaf (.block (.loop [(4,.sc (.i .i64)),(8,.sc (.i .i64))] (.seq .leaf (.seq (.cond .leaf .leaf) (.seq (.block (.seq .leaf (.seq .leaf (.cond (.seq .leaf .leaf) .leaf)))) .leaf)))))) (.seq .leaf .leaf))) Tryz.func203 (by kernel_rfl) (by kernel_rfl) h
theorem Eu (p_x:Sl) (p_target:Int) (p_cmp:Value) {R:TR [.sc (.i .i64),.sc .b]→Pr} {w:World} (h:B2 Pg 4 (ldA [(.i .u64),.sl,.sl,(.i .i64)]) p_x (.int .u64 p_target) p_cmp R w):Cl Pg 204 [(.slice p_x.p p_x.len p_x.cap),(.int .u64 p_target),p_cmp] true [.sc (.i .i64),.sc .b] R w:=
 AF Tryz.checked.mixed (.seq .leaf (.seq .leaf (.seq .leaf (.seq (.block (.loop [(9,.sc (.i .i64)),(10,.sc (.i .i64))] (.seq (.seq .leaf (.cond .leaf .leaf)) (.block (.seq .leaf (.seq .leaf (.cond .leaf .leaf))))))) (.seq .leaf .leaf))))) Tryz.func204 (by kernel_rfl) (by kernel_rfl) h
def EL (a:Int) (b c:Sl) (d e:Int) (R:TR [.sc (.i .i64)]→Pr):Pr:=
 At (RL a b c d) 114 fun f=>
 Lu f 0 fun g=>
 Cl Pg 71 [(Vu g),(Vu e)] false [.sc (.i .i64)] fun i=>
 R (i.1,())
theorem GB (a b c d e) {R w} (h:EL a b c d e R w):Cl Pg 205 [(.agg (RL a b c d)),(Vu e)] false [.sc (.i .i64)] R w:=
 ce (s' (s' l')) Tryz.func205 h
theorem Es (p_x:Sl) (p_target:Int) (p_cmp:Value) {R:TR [.sc (.i .i64),.sc .b]→Pr} {w:World} (h:B2 Pg 2 (ldA [(.i .u64),.sl]) p_x (.int .u64 p_target) p_cmp R w):Cl Pg 206 [(.slice p_x.p p_x.len p_x.cap),(.int .u64 p_target),p_cmp] true [.sc (.i .i64),.sc .b] R w:=
 AF Tryz.checked.mixed (.seq .leaf (.seq .leaf (.seq .leaf (.seq (.block (.loop [(9,.sc (.i .i64)),(10,.sc (.i .i64))] (.seq (.seq .leaf (.cond .leaf .leaf)) (.block (.seq .leaf (.seq .leaf (.cond .leaf .leaf))))))) (.seq .leaf .leaf))))) Tryz.func206 (by kernel_rfl) (by kernel_rfl) h
def G3 (a:Int) (b:Sl) (c:Int) (R:TR [.sc (.i .i64)]→Pr):Pr:=
 At #[(Vu a),(Vs b)] 60 fun d=>
 Lu d 0 fun e=>
 Cl Pg 71 [(Vu e),(Vu c)] false [.sc (.i .i64)] fun f=>
 R (f.1,())
theorem IU (a b c) {R w} (h:G3 a b c R w):Cl Pg 207 [(.agg #[(Vu a),(Vs b)]),(Vu c)] false [.sc (.i .i64)] R w:=
 ce (s' (s' l')) Tryz.func207 h
def Zn (a b:Sl) (R:TR [.sc .sl,.sc .sl,.sc (.i .i64)]→Pr):Pr:=
 Cl Pg 271 [(Vs a)] false [.sc (.i .i64)] fun c=>
 Br ((c.1:Int) != 0) (
 R (⟨none,0,0⟩,⟨none,0,0⟩,c.1,())) (
 Cl Pg 224 [(Vs b)] false [.sc (.i .i64)] fun d=>
 Br ((d.1:Int) != 0) (
 R (⟨none,0,0⟩,⟨none,0,0⟩,d.1,())) (
 Cl Pg 272 [(Vs a)] false [.sc .sl] fun e=>
 Lp (σ:=Sl × Sl × Int × Unit) (fun f g=>
 Br (decide ((g.2.2.1:Int) < ((b.len:Nat):Int))) (
 Ix b g.2.2.1 6 fun i=>
 AN i fun j k l m n o=>
 At Gx 81 fun p=>
 Gh p j k l m n o <|
 At Nw 83 fun q=>
 Dr <|
 Li p 0 fun r=>
 AN p fun s t u v x y=>
 Cl Pg 199 [] false K6' fun z=>
 AH (Li p 0 fun a0=>
 Ls p 1 fun b0=>
 Ls p 2 fun c0=>
 Ls p 3 fun d0=>
 Ls p 4 fun e0=>
 Li p 5 fun f0=>
 fun _=>((.agg (Ar a0 b0 c0 d0 e0 f0)):Value)=(.agg (Ar s t u v x y))) <|
 AH (Li p 0 fun g0=>
 fun _=>((Vi g0):Value)=(Vi r)) <|
 IxA (Cs [.b,.b,.b,.b,.b,.v,.b,.b,.b,.b,.b,.v,.b,.b,.b,.b,.b,.v,.b,.b,.b,.b,.b,.v,.b,.b,.b,.b,.b,.v,.b,.b,.b,.b,.b,.v] z.1) 6 r 6 fun g30=>
 TyA [.b,.b,.b,.b,.b,.v] g30 fun y31=>
 AB Pg y31.2.2.2.2.2.1 [(Vs g.1),(.agg (Ar s t u v x y))] true [.sc .sl,.ag [.b,.s,.sl]] fun i0=>
 AgV q i0.2.1.1 i0.2.1.2.1 i0.2.1.2.2.1 <|
 HX q fun j0 k0 l0=>
 At (Aat j0 k0 l0) 83 fun m0=>
 App 83 3 48 (zc Pg 83) g.2.1 1 (BH (some m0) 1 3) fun n0=>
 f (i0.1,n0,(An (g.2.2.1 + 1)),())) (
 R (g.1,g.2.1,0,()))) (e.1,⟨none,0,0⟩,0,())))
theorem VD (a b) {R w} (h:Zn a b R w):Cl Pg 208 [(Vs a),(Vs b)] true [.sc .sl,.sc .sl,.sc (.i .i64)] R w:=
 ce (s' (q' (s' (s' (k' (s' l') l'))) (q' (s' (s' (k' (s' l') l'))) (s' (s' (q' (s' (.block (.loop [(0,.sc .sl),(9,.sc .sl),(27,.sc (.i .i64))] (s' (q' (k' l' l') (q' (.block (s' (s' (s' l')))) l')))))) (s' l'))))))) Tryz.func208 h
def UU (a:Sl) (b:Int) (R:TR [.ag [.s,.s]]→Pr):Pr:=
 At #[(Vt (BA [])),(Vt (BA []))] 37 fun c=>
 Br (((An (b + 1)):Int) == ((a.len:Nat):Int)) (
 Ix a b 2 fun d=>
 Ls d 0 fun e=>
 Tt c 0 e <|
 St (c.add 1) (Vt (BA [])) <|
 Ls c 0 fun f=>
 Ls c 1 fun g=>
 R ((f,g,()),())) (
 Dr <|
 Ix a b 2 fun i=>
 Ls i 0 fun j=>
 Ix a (An (b + 1)) 2 fun k=>
 Ls k 0 fun l=>
 Tt c 0 j <|
 Tt c 1 l <|
 Ls c 0 fun m=>
 Ls c 1 fun n=>
 R ((m,n,()),()))
theorem S4 (a b) {R w} (h:UU a b R w):Cl Pg 209 [(Vs a),(Vi b)] false [.ag [.s,.s]] R w:=
 ce (s' (q' (s' (k' (s' l') l')) (s' l'))) Tryz.func209 h
def P2 (a:Sl) (b c:ByteArray) (R:TR [.sc .b]→Pr):Pr:=
 At #[(Vt b),(Vt c)] 37 fun d=>
 Cl Pg 48 [(Vs a),(.func (.func 273) #[] #[(Vp (some d))])] false [.sc .b] fun e=>
 R (e.1,())
theorem PL (a b c) {R w} (h:P2 a b c R w):Cl Pg 210 [(Vs a),(.agg #[(Vt b),(Vt c)])] false [.sc .b] R w:=
 ce (s' (s' l')) Tryz.func210 h
theorem Kj (p_s:Sl) (p_i:Int) (p_v:Sl) {R:TR [.sc .sl]→Pr} {w:World} (h:Fj Pg 275 276 60 2 32 (zc Pg 60) p_s p_i p_v R w):Cl Pg 213 [(.slice p_s.p p_s.len p_s.cap),(.int .i64 p_i),(.slice p_v.p p_v.len p_v.cap)] false [.sc .sl] R w:=
 AF Tryz.checked.mixed (.seq .leaf (.seq .leaf (.seq .leaf (.seq (.seq .leaf (.cond (.seq .leaf .leaf) .leaf)) (.seq .leaf (.seq (.seq .leaf (.cond (.seq .leaf .leaf) .leaf)) (.seq (.seq .leaf (.cond (.seq .leaf (.seq .leaf (.seq .leaf (.seq .leaf .leaf)))) .leaf)) (.seq .leaf (.seq (.seq .leaf (.cond (.seq .leaf (.seq .leaf (.seq .leaf .leaf))) .leaf)) (.seq .leaf (.seq .leaf (.seq .leaf .leaf)))))))))))) Tryz.func213 (by kernel_rfl) (by kernel_rfl) h
def Ii (a:Option Addr) (b c:Sl) (R:TR []→Pr):Pr:=
 Lp (σ:=Int × Unit) (fun d e=>
 Br (decide ((e.1:Int) < ((c.len:Nat):Int))) (
 Ix c e.1 1 fun f=>
 A2 .u64 f fun g=>
 Nn a fun i=>
 Ll i 24 fun j=>
 At #[(Vu g),(Vb true)] 282 fun k=>
 App 282 2 16 (zc Pg 282) j 1 (BH (some k) 1 2) fun l=>
 Nn a fun m=>
 Ts m 24 l <|
 d ((An (e.1 + 1)),())) (
 Lp (σ:=Int × Unit) (fun n o=>
 Br (decide ((o.1:Int) < ((b.len:Nat):Int))) (
 Ix b o.1 1 fun p=>
 A2 .u64 p fun q=>
 Nn a fun r=>
 Ll r 24 fun s=>
 At #[(Vu q),(Vb false)] 282 fun t=>
 App 282 2 16 (zc Pg 282) s 1 (BH (some t) 1 2) fun u=>
 Nn a fun v=>
 Ts v 24 u <|
 n ((An (o.1 + 1)),())) (
 R ())) (0,()))) (0,())
theorem KM (a b c) {R w} (h:Ii a b c R w):Cl Pg 214 [(Vp a),(Vs b),(Vs c)] true [] R w:=
 ce (q' (s' (.block (.loop [(12,.sc (.i .i64))] (s' (q' (k' l' l') (q' (.block (s' l')) l')))))) (s' (.block (.loop [(30,.sc (.i .i64))] (s' (q' (k' l' l') (q' (.block (s' l')) l'))))))) Tryz.func214 h
def FA (a:Option Addr) (b:Int) (R:TR []→Pr):Pr:=
 Nn a fun c=>
 Hr c 18 fun d=>
 Cl Pg 277 [(Vp d),(Vu b)] true [.sc .sl,.sc .sl] fun e=>
 Cl Pg 214 [(Vp a),(Vs e.1),(Vs e.2.1)] true [] fun f=>
 R ()
theorem HR (a b) {R w} (h:FA a b R w):Cl Pg 215 [(Vp a),(Vu b)] true [] R w:=
 ce (l') Tryz.func215 h
def Dy (a:Sl) (b:Int) (R:TR [.sc (.i .i64),.sc .b]→Pr):Pr:=
 Lp (σ:=Int × Int × Unit) (fun c d=>
 Br (decide ((d.1:Int) < d.2.1)) (
 AY ((0:Int)≤1) <|
 Ix a (An ((IW .u64 (IntKind.u64.wrap ((An (d.1 + d.2.1)))) 1))) 1 fun e=>
 A2 .u64 e fun f=>
 Cl Pg 194 [(Vu f),(Vu b)] false [.sc .b] fun g=>
 Br g.1 (
 c ((An ((An ((IW .u64 (IntKind.u64.wrap ((An (d.1 + d.2.1)))) 1))) + 1)),d.2.1,())) (
 c (d.1,(An ((IW .u64 (IntKind.u64.wrap ((An (d.1 + d.2.1)))) 1))),()))) (
 Br (decide ((d.1:Int) < ((a.len:Nat):Int))) (
 Ix a d.1 1 fun i=>
 A2 .u64 i fun j=>
 Br ((j:Int) == b) (
 R (d.1,true,())) (
 Ix a d.1 1 fun k=>
 A2 .u64 k fun l=>
 Cl Pg 278 [(Vu l)] false [.sc .b] fun m=>
 Br m.1 (
 Cl Pg 278 [(Vu b)] false [.sc .b] fun n=>
 R (d.1,n.1,())) (
 R (d.1,false,())))) (
 R (d.1,false,())))) (0,((a.len:Nat):Int),())
theorem ET (a b) {R w} (h:Dy a b R w):Cl Pg 216 [(Vs a),(Vu b)] true [.sc (.i .i64),.sc .b] R w:=
 ce (s' (s' (s' (q' (.block (.loop [(7,.sc (.i .i64)),(8,.sc (.i .i64))] (q' (s' (k' l' l')) (.block (s' (s' (k' l' l'))))))) (s' l'))))) Tryz.func216 h
theorem Ig (p_s:Sl) (p_i:Int) (p_v:Sl) {R:TR [.sc .sl]→Pr} {w:World} (h:Fj Pg 279 280 32 1 8 (zc Pg 32) p_s p_i p_v R w):Cl Pg 217 [(.slice p_s.p p_s.len p_s.cap),(.int .i64 p_i),(.slice p_v.p p_v.len p_v.cap)] false [.sc .sl] R w:=
 AF Tryz.checked.mixed (.seq .leaf (.seq .leaf (.seq .leaf (.seq (.seq .leaf (.cond (.seq .leaf .leaf) .leaf)) (.seq .leaf (.seq (.seq .leaf (.cond (.seq .leaf .leaf) .leaf)) (.seq (.seq .leaf (.cond (.seq .leaf (.seq .leaf (.seq .leaf (.seq .leaf .leaf)))) .leaf)) (.seq .leaf (.seq (.seq .leaf (.cond (.seq .leaf (.seq .leaf (.seq .leaf .leaf))) .leaf)) (.seq .leaf (.seq .leaf (.seq .leaf .leaf)))))))))))) Tryz.func217 (by kernel_rfl) (by kernel_rfl) h
def NM (a:Sl) (b:Int) (R:TR N6→Pr):Pr:=
 At #[(Vt (BA [])),(Vt (BA []))] 37 fun c=>
 Cl Pg 44 [(Vs a)] false [.sc (.i .i64)] fun d=>
 Br ((d.1:Int) != 0) (
 St (c.add 0) (Vt (BA [])) <|
 St (c.add 1) (Vt (BA [])) <|
 Ls c 0 fun e=>
 Ls c 1 fun f=>
 R ((e,f,()),d.1,())) (
 Jp (σ:=Bool × Unit) (fun g=>
 Br g.1 (
 St (c.add 0) (Vt (BA [])) <|
 St (c.add 1) (Vt (BA [])) <|
 Ls c 0 fun i=>
 Ls c 1 fun j=>
 R ((i,j,()),5,())) (
 Cl Pg 209 [(Vs a),(Vi b)] false [.ag [.s,.s]] fun k=>
 Tt c 0 k.1.1 <|
 Tt c 1 k.1.2.1 <|
 Ls c 0 fun l=>
 Ls c 1 fun m=>
 R ((l,m,()),0,()))) fun n=>
 Br (decide ((b:Int) < 0)) (
 n (true,())) (
 n ((decide ((b:Int) ≥ ((a.len:Nat):Int))),())))
theorem On (a b) {R w} (h:NM a b R w):Cl Pg 218 [(Vs a),(Vi b)] true N6 R w:=
 ce (s' (q' (s' (s' (k' (s' l') l'))) (q' (q' (.join [(20,.sc .b)] l') (k' (s' l') l')) (s' l')))) Tryz.func218 h
def Iu (a:Option Addr) (R:TR [.sc .sl]→Pr):Pr:=
 Nn a fun b=>
 Hr b 19 fun c=>
 Jp (σ:=Sl × Unit) (fun d=>
 Jp (σ:=Sl × Sl × Unit) (fun e=>
 Jp (σ:=Sl × Unit) (fun f=>
 R (f.1,())) fun g=>
 Nn c fun i=>
 Lb i 7 fun j=>
 Br j (
 Nn c fun k=>
 Ll k 9 fun l=>
 Nn c fun m=>
 Ll m 9 fun n=>
 AY ((0:Int)≤(if ((An (6 - ((e.2.1.len:Nat):Int))):Int) < ((l.len:Nat):Int) then (An (6 - ((e.2.1.len:Nat):Int))) else ((l.len:Nat):Int))∧(if ((An (6 - ((e.2.1.len:Nat):Int))):Int) < ((l.len:Nat):Int) then (An (6 - ((e.2.1.len:Nat):Int))) else ((l.len:Nat):Int))≤((n.cap:Nat):Int)) <|
 App 81 6 80 (zc Pg 81) e.2.1 ((Int.toNat (if ((An (6 - ((e.2.1.len:Nat):Int))):Int) < ((l.len:Nat):Int) then (An (6 - ((e.2.1.len:Nat):Int))) else ((l.len:Nat):Int))) - 0) (BH (A7 n.p n.cap 0 6) ((Int.toNat (if ((An (6 - ((e.2.1.len:Nat):Int))):Int) < ((l.len:Nat):Int) then (An (6 - ((e.2.1.len:Nat):Int))) else ((l.len:Nat):Int))) - 0) 6) fun o=>
 Nn c fun p=>
 Ll p 9 fun q=>
 AY ((0:Int)≤(if ((An (6 - ((e.2.1.len:Nat):Int))):Int) < ((l.len:Nat):Int) then (An (6 - ((e.2.1.len:Nat):Int))) else ((l.len:Nat):Int))∧(if ((An (6 - ((e.2.1.len:Nat):Int))):Int) < ((l.len:Nat):Int) then (An (6 - ((e.2.1.len:Nat):Int))) else ((l.len:Nat):Int))≤((q.len:Nat):Int)) <|
 Cl Pg 60 [(.slice (A7 q.p q.cap (Int.toNat (if ((An (6 - ((e.2.1.len:Nat):Int))):Int) < ((l.len:Nat):Int) then (An (6 - ((e.2.1.len:Nat):Int))) else ((l.len:Nat):Int))) 6) (q.len - (Int.toNat (if ((An (6 - ((e.2.1.len:Nat):Int))):Int) < ((l.len:Nat):Int) then (An (6 - ((e.2.1.len:Nat):Int))) else ((l.len:Nat):Int)))) (q.cap - (Int.toNat (if ((An (6 - ((e.2.1.len:Nat):Int))):Int) < ((l.len:Nat):Int) then (An (6 - ((e.2.1.len:Nat):Int))) else ((l.len:Nat):Int)))))] false [.sc .sl] fun r=>
 Nn c fun s=>
 Ts s 9 r.1 <|
 g (o,())) (
 g (e.2.1,()))) fun t=>
 Nn c fun u=>
 Lb u 7 fun v=>
 Br (!v) (
 Dr <|
 Nn a fun x=>
 LJ (x.add 20) fun y=>
 Nn c fun z=>
 Ls z 10 fun a0=>
 Nn c fun b0=>
 Ls (b0.add 2) 1 fun c0=>
 Nl y fun v28=>
 Inv Pg y "Scan" [(.agg #[(Vt a0), (Vt c0)]), (Vi (An (6 - ((d.1.len : Nat) : Int))))] true [.sc .sl, .sc (.i .i64)] fun d0 =>
 Br ((d0.2.1:Int) != 0) (
 Nn a fun e0=>
 Ti e0 25 d0.2.1 <|
 R (⟨none,0,0⟩,())) (
 Lp (σ:=Sl × Int × Unit) (fun f0 g0=>
 Br (decide ((g0.2.1:Int) < ((d0.1.len:Nat):Int))) (
 Ix d0.1 g0.2.1 2 fun i0=>
 Ls i0 0 fun j0=>
 Ls i0 1 fun k0=>
 At #[(Vt (BA [])),(Vt (BA []))] 111 fun l0=>
 Tt l0 0 j0 <|
 Tt l0 1 k0 <|
 Ls l0 0 fun m0=>
 Ls l0 1 fun n0=>
 At (Ar 2 m0 n0 (BA []) (BA []) 0) 81 fun o0=>
 App 81 6 80 (zc Pg 81) g0.1 1 (BH (some o0) 1 6) fun p0=>
 Ls l0 0 fun q0=>
 Cl Pg 100 [(Vt q0)] true N6 fun r0=>
 At #[(Vt (BA [])),(Vt (BA []))] 37 fun s0=>
 Tt s0 0 r0.1.1 <|
 Tt s0 1 r0.1.2.1 <|
 Ls s0 1 fun t0=>
 Nn c fun u0=>
 Tt u0 10 t0 <|
 f0 (p0,(An (g0.2.1 + 1)),())) (
 Dr <|
 Br (decide ((((d0.1.len:Nat):Int):Int) < (An (6 - ((d.1.len:Nat):Int))))) (
 Nn c fun v0=>
 Tb v0 7 true <|
 t (⟨none,0,0⟩,g0.1,())) (
 Nn c fun x0=>
 Ls x0 10 fun y0=>
 Br (seq y0 (BA [])) (
 Nn c fun z0=>
 Tb z0 7 true <|
 t (⟨none,0,0⟩,g0.1,())) (
 Nn c fun a1=>
 Ls (a1.add 2) 1 fun b1=>
 Br (!(seq b1 (BA []))) (
 Nn c fun c1=>
 Ls c1 10 fun d1=>
 Nn c fun e1=>
 Ls (e1.add 2) 1 fun f1=>
 Nn c fun g1=>
 St (g1.add 7) (Vb (!(slt d1 f1))) <|
 t (⟨none,0,0⟩,g0.1,())) (
 Nn c fun i1=>
 Tb i1 7 false <|
 t (⟨none,0,0⟩,g0.1,())))))) (d.1,0,()))) (
 t (⟨none,0,0⟩,d.1,()))) fun j1=>
 Nn c fun k1=>
 Lu k1 1 fun l1=>
 Br ((l1:Int) == 0) (
 Dr <|
 Nn c fun m1=>
 Ls (m1.add 2) 0 fun n1=>
 Nn c fun o1=>
 Ls (o1.add 2) 1 fun p1=>
 At (Ar 5 (BA []) (BA []) n1 p1 0) 81 fun q1=>
 App 81 6 80 (zc Pg 81) ⟨none,0,0⟩ 1 (BH (some q1) 1 6) fun r1=>
 j1 (r1,())) (
 j1 (⟨none,0,0⟩,()))
theorem L6 (a) {R w} (h:Iu a R w):Cl Pg 219 [(Vp a)] false [.sc .sl] R w:=
 ce (s' (s' (s' (q' (.join [(4,.sc .sl)] (s' (k' l' l'))) (q' (.join [(2,.sc .sl),(4,.sc .sl)] (s' (k' (s' (s' (q' (s' (k' (s' (s' l')) l')) (q' (s' (.block (.loop [(4,.sc .sl),(73,.sc (.i .i64))] (s' (q' (k' l' l') (q' (.block (s' (s' (s' l')))) l')))))) l')))) l'))) (q' (.join [(4,.sc .sl)] (s' (k' (s' (s' l')) l'))) (s' l'))))))) Tryz.func219 h
def Fy (a:Int) (b:Sl) (c:Addr) (R:TR [.sc .b]→Pr):Pr:=
 At #[(Vu a),(Vs b)] 60 fun d=>
 Dr <|
 Ll d 1 fun e=>
 Di c fun f=>
 Nn f fun g=>
 Ls (g.add 2) 0 fun i=>
 Ls (g.add 2) 1 fun j=>
 Cl Pg 210 [(Vs e),(.agg #[(Vt i),(Vt j)])] false [.sc .b] fun k=>
 R (k.1,())
theorem HN (a b c) {R w} (h:Fy a b c R w):Cl Pg 220 [(.agg #[(Vu a),(Vs b)]),(Vp (some c))] false [.sc .b] R w:=
 ce (s' (s' l')) Tryz.func220 h
theorem F4 (p_s:Sl) (p_f:Value) {R:TR [.sc .b]→Pr} {w:World} (h:B7 Pg 281 p_s p_f R w):Cl Pg 221 [(.slice p_s.p p_s.len p_s.cap),p_f] false [.sc .b] R w:=
 AF Tryz.checked.mixed (.seq .leaf (.seq .leaf .leaf)) Tryz.func221 (by kernel_rfl) (by kernel_rfl) h
def F3 (a:Int) (b c:Sl) (d:Int) (e:Addr) (R:TR [.sc .b]→Pr):Pr:=
 At (RL a b c d) 114 fun f=>
 Dr <|
 Ll f 1 fun g=>
 Di e fun i=>
 Nn i fun j=>
 Ls (j.add 2) 0 fun k=>
 Ls (j.add 2) 1 fun l=>
 Cl Pg 210 [(Vs g),(.agg #[(Vt k),(Vt l)])] false [.sc .b] fun m=>
 R (m.1,())
theorem HP (a b c d e) {R w} (h:F3 a b c d e R w):Cl Pg 222 [(.agg (RL a b c d)),(Vp (some e))] false [.sc .b] R w:=
 ce (s' (s' l')) Tryz.func222 h
theorem GD (p_s:Sl) (p_f:Value) {R:TR [.sc (.i .i64)]→Pr} {w:World} (h:BG Pg 2 (ldA [.s,.s]) p_s p_f R w):Cl Pg 223 [(.slice p_s.p p_s.len p_s.cap),p_f] false [.sc (.i .i64)] R w:=
 AF Tryz.checked.mixed (.seq .leaf (.seq (.seq .leaf (.block (.loop [(4,.sc (.i .i64)),(8,.sc (.i .i64))] (.seq .leaf (.seq (.cond .leaf .leaf) (.seq (.block (.seq .leaf (.seq .leaf (.cond (.seq .leaf .leaf) .leaf)))) .leaf)))))) (.seq .leaf .leaf))) Tryz.func223 (by kernel_rfl) (by kernel_rfl) h
def AeE (a:Sl) (R:TR [.sc (.i .i64)]→Pr):Pr:=
 Lp (σ:=Int × Int × Unit) (fun b c=>
 Br (decide ((c.2.1:Int) < ((a.len:Nat):Int))) (
 Ix a c.2.1 6 fun d=>
 AN d fun e f g i j k=>
 At Gx 81 fun l=>
 Gh l e f g i j k <|
 AN l fun m n o p q r=>
 Cl Pg 50 [(.agg (Ar m n o p q r))] false [.sc (.i .i64)] fun s=>
 Br ((s.1:Int) != 0) (
 R (s.1,())) (
 b (c.1,(An (c.2.1 + 1)),()))) (
 R (0,()))) (0,0,())
theorem YX (a) {R w} (h:AeE a R w):Cl Pg 224 [(Vs a)] false [.sc (.i .i64)] R w:=
 ce (s' (q' (s' (.block (.loop [(2,.sc (.i .i64)),(8,.sc (.i .i64))] (s' (q' (k' l' l') (q' (.block (s' (s' (s' (k' (s' l') l'))))) l')))))) (s' l'))) Tryz.func224 h
def MW (a b:ByteArray) (R:TR [.sc .b]→Pr):Pr:=
 At #[(Vt a),(Vt b)] 111 fun c=>
 Ls c 0 fun d=>
 Cl Pg 93 [(Vt d)] false [.sc (.i .i64)] fun e=>
 Br ((e.1:Int) != 0) (
 R (true,())) (
 Ls c 1 fun f=>
 R ((decide ((((f.size:Nat):Int):Int) > 16)),()))
theorem Nx (a b) {R w} (h:MW a b R w):Cl Pg 225 [(.agg #[(Vt a),(Vt b)])] false [.sc .b] R w:=
 ce (s' (s' l')) Tryz.func225 h
theorem EU (p_s:Sl) (p_f:Value) {R:TR [.sc .b]→Pr} {w:World} (h:B7 Pg 282 p_s p_f R w):Cl Pg 226 [(.slice p_s.p p_s.len p_s.cap),p_f] false [.sc .b] R w:=
 AF Tryz.checked.mixed (.seq .leaf (.seq .leaf .leaf)) Tryz.func226 (by kernel_rfl) (by kernel_rfl) h
def ML (a:Bool) (b:ByteArray) (c:Sl) (d:Addr) (R:TR [.sc .b]→Pr):Pr:=
 At (Aat a b c) 83 fun e=>
 Ls e 1 fun f=>
 Br (decide ((((f.size:Nat):Int):Int) > 16)) (
 R (true,())) (
 Ll e 2 fun g=>
 Br (decide ((((g.len:Nat):Int):Int) > 4)) (
 R (true,())) (
 Ll e 2 fun i=>
 LJ d fun j=>
 Cl Pg 228 [(Vs i),j] false [.sc .b] fun k=>
 R (k.1,())))
theorem Nt (a b c d) {R w} (h:ML a b c d R w):Cl Pg 227 [(.agg (Aat a b c)),(Vp (some d))] false [.sc .b] R w:=
 ce (s' (s' l')) Tryz.func227 h
theorem Fz (p_s:Sl) (p_f:Value) {R:TR [.sc .b]→Pr} {w:World} (h:B7 Pg 283 p_s p_f R w):Cl Pg 228 [(.slice p_s.p p_s.len p_s.cap),p_f] false [.sc .b] R w:=
 AF Tryz.checked.mixed (.seq .leaf (.seq .leaf .leaf)) Tryz.func228 (by kernel_rfl) (by kernel_rfl) h
def Ur (a:Int) (b c d e:ByteArray) (f:Int) (R:TR [.sc .b]→Pr):Pr:=
 At (Ar a b c d e f) 81 fun g=>
 AN g fun i j k l m n=>
 Cl Pg 50 [(.agg (Ar i j k l m n))] false [.sc (.i .i64)] fun o=>
 R (((o.1:Int) != 0),())
theorem S8 (a b c d e f) {R w} (h:Ur a b c d e f R w):Cl Pg 229 [(.agg (Ar a b c d e f))] false [.sc .b] R w:=
 ce (s' (s' l')) Tryz.func229 h
def Xd (a:Int) (R:TR [.sc .sl]→Pr):Pr:=
 Lp (σ:=Int × Sl × Unit) (fun b c=>
 Br (decide ((c.1:Int) ≥ 128)) (
 At #[(.int .u8 (ior .u8 (IntKind.u8.wrap (c.1)) 128))] 5 fun d=>
 App 5 1 1 (zc Pg 5) c.2.1 1 (BH (some d) 1 1) fun e=>
 AY ((0:Int)≤7) <|
 b ((IW .u64 c.1 7),e,())) (
 At #[(.int .u8 (IntKind.u8.wrap (c.1)))] 5 fun f=>
 App 5 1 1 (zc Pg 5) c.2.1 1 (BH (some f) 1 1) fun g=>
 R (g,()))) (a,⟨none,0,0⟩,())
theorem Vw (a) {R w} (h:Xd a R w):Cl Pg 231 [(Vu a)] false [.sc .sl] R w:=
 ce (s' (s' (q' (.block (.loop [(0,.sc (.i .u64)),(3,.sc .sl)] (q' (s' (k' l' l')) (.block (s' l'))))) (s' l')))) Tryz.func231 h
def Ud (a:Option Addr) (b:Addr) (R:TR [.sc .b]→Pr):Pr:=
 LJ b fun c=>
 AB Pg c [(Vp a)] false [.sc .p] fun d=>
 Nn d.1 fun e=>
 A2 .u64 e fun f=>
 R (((f:Int) == 0),())
theorem SA (a b) {R w} (h:Ud a b R w):Cl Pg 234 [(Vp a),(Vp (some b))] false [.sc .b] R w:=
 ce (s' (s' l')) Tryz.func234 h
def Qi (a:Option Addr) (b:Addr) (R:TR [.sc .b]→Pr):Pr:=
 LJ b fun c=>
 AB Pg c [(Vp a)] false [.sc .p] fun d=>
 Nn d.1 fun e=>
 A2 .i64 e fun f=>
 R (((f:Int) == 0),())
theorem Px (a b) {R w} (h:Qi a b R w):Cl Pg 238 [(Vp a),(Vp (some b))] false [.sc .b] R w:=
 ce (s' (s' l')) Tryz.func238 h
def UE (a:ByteArray) (R:TR [.sc .sl]→Pr):Pr:=
 Cl Pg 231 [(Vu (IntKind.u64.wrap (((a.size:Nat):Int))))] false [.sc .sl] fun b=>
 App 5 1 1 (zc Pg 5) b.1 a.size (Ais a a.size) fun c=>
 R (c,())
theorem S5 (a) {R w} (h:UE a R w):Cl Pg 240 [(Vt a)] false [.sc .sl] R w:=
 ce (s' (s' l')) Tryz.func240 h
def MJ (a:Option Addr) (b:Addr) (R:TR [.sc .b]→Pr):Pr:=
 LJ b fun c=>
 AB Pg c [(Vp a)] false [.sc .p] fun d=>
 Nn d.1 fun e=>
 DN e fun f=>
 R (((((f.len:Nat):Int):Int) == 0),())
theorem ND (a b) {R w} (h:MJ a b R w):Cl Pg 245 [(Vp a),(Vp (some b))] false [.sc .b] R w:=
 ce (s' (s' l')) Tryz.func245 h
def Hq (a:Option Addr) (b:Addr) (R:TR [.sc .b]→Pr):Pr:=
 LJ b fun c=>
 AB Pg c [(Vp a)] false [.sc .p] fun d=>
 Nn d.1 fun e=>
 DN e fun f=>
 R (((((f.len:Nat):Int):Int) == 0),())
theorem Jx (a b) {R w} (h:Hq a b R w):Cl Pg 248 [(Vp a),(Vp (some b))] false [.sc .b] R w:=
 ce (s' (s' l')) Tryz.func248 h
def Ik (a:Option Addr) (b:Addr) (R:TR [.sc .b]→Pr):Pr:=
 LJ b fun c=>
 AB Pg c [(Vp a)] false [.sc .p] fun d=>
 Nn d.1 fun e=>
 DN e fun f=>
 R (((((f.len:Nat):Int):Int) == 0),())
theorem K6 (a b) {R w} (h:Ik a b R w):Cl Pg 251 [(Vp a),(Vp (some b))] false [.sc .b] R w:=
 ce (s' (s' l')) Tryz.func251 h
def Hu (a:Option Addr) (b:Sl) (R:TR []→Pr):Pr:=
 Cl Pg 285 [(Vp a),(Vs b),(.func (.func 258) #[(Vp a)] #[])] true [] fun c=>
 R ()
theorem Js (a b) {R w} (h:Hu a b R w):Cl Pg 252 [(Vp a),(Vs b)] true [] R w:=
 ce (l') Tryz.func252 h
def Iz (a:Option Addr) (b:Sl) (c:Value) (R:TR []→Pr):Pr:=
 Cl Pg 286 [(Vp a),(Vi ((b.len:Nat):Int))] true [] fun d=>
 Cl Pg 287 [(Vp a),(Vs b),c] true [] fun e=>
 R ()
theorem K9 (a b c) {R w} (h:Iz a b c R w):Cl Pg 253 [(Vp a),(Vs b),c] true [] R w:=
 ce (s' l') Tryz.func253 h
def Gj (a:Option Addr) (b:ByteArray) (c:Int) (R:TR []→Pr):Pr:=
 At #[(Vt b),(Vi c)] 70 fun d=>
 Ls d 0 fun e=>
 Cl Pg 288 [(Vp a),(Vt e)] true [] fun f=>
 Li d 1 fun g=>
 Cl Pg 286 [(Vp a),(Vi g)] true [] fun i=>
 R ()
theorem IT (a b c) {R w} (h:Gj a b c R w):Cl Pg 254 [(Vp a),(.agg #[(Vt b),(Vi c)])] true [] R w:=
 ce (s' (s' l')) Tryz.func254 h
def Ks (a:Option Addr) (b:Sl) (c:Value) (R:TR []→Pr):Pr:=
 Cl Pg 286 [(Vp a),(Vi ((b.len:Nat):Int))] true [] fun d=>
 Cl Pg 289 [(Vp a),(Vs b),c] true [] fun e=>
 R ()
theorem LX (a b c) {R w} (h:Ks a b c R w):Cl Pg 255 [(Vp a),(Vs b),c] true [] R w:=
 ce (s' l') Tryz.func255 h
def HI (a:Option Addr) (b:Int) (c:Sl) (R:TR []→Pr):Pr:=
 At #[(Vu b),(Vs c)] 60 fun d=>
 Lu d 0 fun e=>
 Cl Pg 258 [(Vp a),(Vu e)] true [] fun f=>
 Ll d 1 fun g=>
 Cl Pg 290 [(Vp a),(Vs g),(.func (.func 291) #[(Vp a)] #[])] true [] fun i=>
 R ()
theorem JU (a b c) {R w} (h:HI a b c R w):Cl Pg 256 [(Vp a),(.agg #[(Vu b),(Vs c)])] true [] R w:=
 ce (s' (s' l')) Tryz.func256 h
def Ht (a:Option Addr) (b:Sl) (c:Value) (R:TR []→Pr):Pr:=
 Cl Pg 286 [(Vp a),(Vi ((b.len:Nat):Int))] true [] fun d=>
 Cl Pg 285 [(Vp a),(Vs b),c] true [] fun e=>
 R ()
theorem JA (a b c) {R w} (h:Ht a b c R w):Cl Pg 257 [(Vp a),(Vs b),c] true [] R w:=
 ce (s' l') Tryz.func257 h
def IA (a:Option Addr) (b:Int) (R:TR []→Pr):Pr:=
 Dr <|
 Nn a fun c=>
 Ll c 0 fun d=>
 Cl Pg 231 [(Vu b)] false [.sc .sl] fun e=>
 AH (Ll c 0 fun f=>
 fun _=>((Vs f):Value)=(Vs d)) <|
 App 5 1 1 (zc Pg 5) d e.1.len (BH e.1.p e.1.len 1) fun g=>
 Nn a fun i=>
 Ts i 0 g <|
 R ()
theorem KR (a b) {R w} (h:IA a b R w):Cl Pg 258 [(Vp a),(Vu b)] true [] R w:=
 ce (l') Tryz.func258 h
def Ha (a:Option Addr) (b c:ByteArray) (R:TR []→Pr):Pr:=
 At #[(Vt b),(Vt c)] 37 fun d=>
 Ls d 0 fun e=>
 Cl Pg 288 [(Vp a),(Vt e)] true [] fun f=>
 Ls d 1 fun g=>
 Cl Pg 288 [(Vp a),(Vt g)] true [] fun i=>
 R ()
theorem Kr (a b c) {R w} (h:Ha a b c R w):Cl Pg 259 [(Vp a),(.agg #[(Vt b),(Vt c)])] true [] R w:=
 ce (s' (s' l')) Tryz.func259 h
def CK (a:Sl) (b c d:Int) (R:TR []→Pr):Pr:=
 Lp (σ:=Int × Unit) (fun e f=>
 Br (decide (((An ((An (2 * f.1)) + 1)):Int) ≥ c)) (
 R ()) (
 Jp (σ:=Int × Unit) (fun g=>
 Dr <|
 Ix a (An (d + f.1)) 1 fun i=>
 A2 .u64 i fun j=>
 Ix a (An (d + g.1)) 1 fun k=>
 A2 .u64 k fun l=>
 Cl Pg 194 [(Vu j),(Vu l)] false [.sc .b] fun m=>
 Br (!m.1) (
 R ()) (
 Dr <|
 Ix a (An (d + g.1)) 1 fun n=>
 A2 .u64 n fun o=>
 Ix a (An (d + f.1)) 1 fun p=>
 A2 .u64 p fun q=>
 Ix a (An (d + f.1)) 1 fun r=>
 St r (Vu o) <|
 Ix a (An (d + g.1)) 1 fun s=>
 St s (Vu q) <|
 e (g.1,()))) fun t=>
 Jp (σ:=Bool × Unit) (fun u=>
 Br u.1 (
 t ((An ((An ((An (2 * f.1)) + 1)) + 1)),())) (
 t ((An ((An (2 * f.1)) + 1)),()))) fun v=>
 Dr <|
 Br (decide (((An ((An ((An (2 * f.1)) + 1)) + 1)):Int) < c)) (
 Ix a (An (d + (An ((An (2 * f.1)) + 1)))) 1 fun x=>
 A2 .u64 x fun y=>
 Ix a (An ((An (d + (An ((An (2 * f.1)) + 1)))) + 1)) 1 fun z=>
 A2 .u64 z fun a0=>
 Cl Pg 194 [(Vu y),(Vu a0)] false [.sc .b] fun b0=>
 v (b0.1,())) (
 v (false,())))) (b,())
theorem DZ (a b c d) {R w} (h:CK a b c d R w):Cl Pg 260 [(Vs a),(Vi b),(Vi c),(Vi d)] true [] R w:=
 ce (s' (.block (.loop [(8,.sc (.i .i64))] (.block (s' (q' (s' (k' l' l')) (q' (.join [(9,.sc (.i .i64))] (q' (.join [(36,.sc .b)] l') (k' l' l'))) (q' (s' (k' l' l')) (s' l'))))))))) Tryz.func260 h
def EX (a:Int) (R:TR [.sc (.i .u64)]→Pr):Pr:=
 Cl Pg 88 [(Vu (IntKind.u64.wrap (a)))] false [.sc (.i .i64)] fun b=>
 AY ((0:Int)≤b.1) <|
 R ((Adw .u64 1 b.1),())
theorem Ho (a) {R w} (h:EX a R w):Cl Pg 261 [(Vi a)] false [.sc (.i .u64)] R w:=
 ce (s' (s' l')) Tryz.func261 h
def FL (a:Option Addr) (R:TR [.sc (.i .u64)]→Pr):Pr:=
 Dr <|
 Nn a fun b=>
 A2 .u64 b fun c=>
 Nn a fun d=>
 A2 .u64 d fun e=>
 AY ((0:Int)≤13) <|
 Nn a fun f=>
 St f (Vu (AiD .u64 c (Adw .u64 e 13))) <|
 Dr <|
 Nn a fun g=>
 A2 .u64 g fun i=>
 Nn a fun j=>
 A2 .u64 j fun k=>
 AY ((0:Int)≤7) <|
 Nn a fun l=>
 St l (Vu (AiD .u64 i (IW .u64 k 7))) <|
 Dr <|
 Nn a fun m=>
 A2 .u64 m fun n=>
 Nn a fun o=>
 A2 .u64 o fun p=>
 AY ((0:Int)≤17) <|
 Nn a fun q=>
 St q (Vu (AiD .u64 n (Adw .u64 p 17))) <|
 Nn a fun r=>
 A2 .u64 r fun s=>
 R (s,())
theorem Ia (a) {R w} (h:FL a R w):Cl Pg 262 [(Vp a)] false [.sc (.i .u64)] R w:=
 ce (s' (s' (s' (s' (s' l'))))) Tryz.func262 h
def Cb (a:Sl) (b:Int) (c:Option Addr) (R:TR [.sc (.i .i64)]→Pr):Pr:=
 Cl Pg 264 [(Vs a),(Vi (An (b - 1))),(Vi b),(Vi (An (b + 1))),(Vp c)] false [.sc (.i .i64)] fun d=>
 R (d.1,())
theorem Dg (a b c) {R w} (h:Cb a b c R w):Cl Pg 263 [(Vs a),(Vi b),(Vp c)] false [.sc (.i .i64)] R w:=
 ce (s' (s' l')) Tryz.func263 h
open Go Go.Sx
def Ds (a:Sl) (b c d:Int) (e:Option Addr) (R:TR [.sc (.i .i64)]→Pr):Pr:=
 Cl Pg 292 [(Vs a),(Vi b),(Vi c),(Vp e)] true [.sc (.i .i64),.sc (.i .i64)] fun f=>
 Cl Pg 292 [(Vs a),(Vi f.2.1),(Vi d),(Vp e)] true [.sc (.i .i64),.sc (.i .i64)] fun g=>
 Cl Pg 292 [(Vs a),(Vi f.1),(Vi g.1),(Vp e)] true [.sc (.i .i64),.sc (.i .i64)] fun i=>
 R (i.2.1,())
theorem EN (a b c d e) {R w} (h:Ds a b c d e R w):Cl Pg 264 [(Vs a),(Vi b),(Vi c),(Vi d),(Vp e)] false [.sc (.i .i64)] R w:=
 ce (s' (s' (s' (s' (s' l'))))) Tryz.func264 h
def Af4 (a:Sl) (b:Int) (c d e f:ByteArray) (g:Int) (R:TR [.sc .sl,.ag [.b,.s,.sl]]→Pr):Pr:=
 At (Ar b c d e f g) 81 fun i=>
 At Nw 83 fun j=>
 Ls i 1 fun k=>
 Cl Pg 293 [(Vs a),(Vt k)] true [.sc (.i .i64),.sc .b] fun l=>
 Br (!l.2.1) (
 Tb j 0 false <|
 St (j.add 1) (Vt (BA [])) <|
 St (j.add 2) (.slice none 0 0) <|
 HX j fun m n o=>
 R (a,(m,n,o,()),())) (
 Dr <|
 Ix a l.1 2 fun p=>
 Ls p 1 fun q=>
 Tb j 0 true <|
 Tt j 1 q <|
 St (j.add 2) (.slice none 0 0) <|
 HX j fun r s t=>
 R (a,(r,s,t,()),()))
theorem ZB (a b c d e f g) {R w} (h:Af4 a b c d e f g R w):Cl Pg 265 [(Vs a),(.agg (Ar b c d e f g))] true [.sc .sl,.ag [.b,.s,.sl]] R w:=
 ce (s' (s' (q' (s' (k' (s' l') l')) (s' l')))) Tryz.func265 h
def Afd (a:Sl) (b:Int) (c d e f:ByteArray) (g:Int) (R:TR [.sc .sl,.ag [.b,.s,.sl]]→Pr):Pr:=
 At (Ar b c d e f g) 81 fun i=>
 At Nw 83 fun j=>
 Ls i 1 fun k=>
 Cl Pg 293 [(Vs a),(Vt k)] true [.sc (.i .i64),.sc .b] fun l=>
 Br (!l.2.1) (
 Ls i 1 fun m=>
 Ls i 2 fun n=>
 At #[(Vt m),(Vt n)] 111 fun o=>
 Cl Pg 294 [(Vs a),(Vi l.1),(.slice (some o) 1 1)] false [.sc .sl] fun p=>
 Tb j 0 false <|
 St (j.add 1) (Vt (BA [])) <|
 St (j.add 2) (.slice none 0 0) <|
 HX j fun q r s=>
 R (p.1,(q,r,s,()),())) (
 Ls i 2 fun t=>
 Ix a l.1 2 fun u=>
 Tt u 1 t <|
 Tb j 0 false <|
 St (j.add 1) (Vt (BA [])) <|
 St (j.add 2) (.slice none 0 0) <|
 HX j fun v x y=>
 R (a,(v,x,y,()),()))
theorem ZQ (a b c d e f g) {R w} (h:Afd a b c d e f g R w):Cl Pg 266 [(Vs a),(.agg (Ar b c d e f g))] true [.sc .sl,.ag [.b,.s,.sl]] R w:=
 ce (s' (s' (q' (s' (k' (s' l') l')) (s' (s' l'))))) Tryz.func266 h
def Ae7 (a:Sl) (b:Int) (c d e f:ByteArray) (g:Int) (R:TR [.sc .sl,.ag [.b,.s,.sl]]→Pr):Pr:=
 At (Ar b c d e f g) 81 fun i=>
 At Nw 83 fun j=>
 Jp (σ:=Sl × Unit) (fun k=>
 Tb j 0 false <|
 St (j.add 1) (Vt (BA [])) <|
 St (j.add 2) (.slice none 0 0) <|
 HX j fun l m n=>
 R (k.1,(l,m,n,()),())) fun o=>
 Ls i 1 fun p=>
 Cl Pg 293 [(Vs a),(Vt p)] true [.sc (.i .i64),.sc .b] fun q=>
 Br q.2.1 (
 Cl Pg 295 [(Vs a),(Vi q.1),(Vi (An (q.1 + 1)))] false [.sc .sl] fun r=>
 o (r.1,())) (
 o (a,()))
theorem ZL (a b c d e f g) {R w} (h:Ae7 a b c d e f g R w):Cl Pg 267 [(Vs a),(.agg (Ar b c d e f g))] true [.sc .sl,.ag [.b,.s,.sl]] R w:=
 ce (s' (q' (.join [(0,.sc .sl)] (s' (s' (k' l' l')))) (s' l'))) Tryz.func267 h
def Acl (a:Sl) (b:Int) (c d e f:ByteArray) (g:Int) (R:TR [.sc .sl,.ag [.b,.s,.sl]]→Pr):Pr:=
 At (Ar b c d e f g) 81 fun i=>
 At Nw 83 fun j=>
 AN i fun k l m n o p=>
 Cl Pg 98 [(.agg (Ar k l m n o p))] false [.ag [.s,.s]] fun q=>
 Cl Pg 296 [(Vs a),(.agg #[(Vt q.1.1),(Vt q.1.2.1)])] true [.sc (.i .i64),.sc (.i .i64)] fun r=>
 Li i 5 fun s=>
 AY ((0:Int)≤(if ((An (r.1 + s)):Int) < r.2.1 then (An (r.1 + s)) else r.2.1)∧(if ((An (r.1 + s)):Int) < r.2.1 then (An (r.1 + s)) else r.2.1)≤((a.cap:Nat):Int)) <|
 AY ((0:Int)≤r.1∧r.1≤(((Int.toNat (if ((An (r.1 + s)):Int) < r.2.1 then (An (r.1 + s)) else r.2.1)):Nat):Int)) <|
 Cl Pg 272 [(.slice (A7 a.p a.cap (Int.toNat r.1) 2) ((Int.toNat (if ((An (r.1 + s)):Int) < r.2.1 then (An (r.1 + s)) else r.2.1)) - (Int.toNat r.1)) (a.cap - (Int.toNat r.1)))] false [.sc .sl] fun t=>
 Tb j 0 false <|
 St (j.add 1) (Vt (BA [])) <|
 Ts j 2 t.1 <|
 HX j fun u v x=>
 R (a,(u,v,x,()),())
theorem XS (a b c d e f g) {R w} (h:Acl a b c d e f g R w):Cl Pg 268 [(Vs a),(.agg (Ar b c d e f g))] true [.sc .sl,.ag [.b,.s,.sl]] R w:=
 ce (s' (s' (s' l'))) Tryz.func268 h
def Zb (a:Sl) (b:Int) (c d e f:ByteArray) (g:Int) (R:TR [.sc .sl,.ag [.b,.s,.sl]]→Pr):Pr:=
 At (Ar b c d e f g) 81 fun i=>
 At Nw 83 fun j=>
 AN i fun k l m n o p=>
 Cl Pg 98 [(.agg (Ar k l m n o p))] false [.ag [.s,.s]] fun q=>
 Cl Pg 296 [(Vs a),(.agg #[(Vt q.1.1),(Vt q.1.2.1)])] true [.sc (.i .i64),.sc (.i .i64)] fun r=>
 Cl Pg 295 [(Vs a),(Vi r.1),(Vi r.2.1)] false [.sc .sl] fun s=>
 Tb j 0 false <|
 St (j.add 1) (Vt (BA [])) <|
 St (j.add 2) (.slice none 0 0) <|
 HX j fun t u v=>
 R (s.1,(t,u,v,()),())
theorem Wg (a b c d e f g) {R w} (h:Zb a b c d e f g R w):Cl Pg 269 [(Vs a),(.agg (Ar b c d e f g))] true [.sc .sl,.ag [.b,.s,.sl]] R w:=
 ce (s' (s' (s' l'))) Tryz.func269 h
def Sk (a:Sl) (R:TR [.sc (.i .i64)]→Pr):Pr:=
 Lp (σ:=Int × ByteArray × Int × Unit) (fun b c=>
 Br (decide ((c.2.2.1:Int) < ((a.len:Nat):Int))) (
 Ix a c.2.2.1 2 fun d=>
 Ls d 0 fun e=>
 Ls d 1 fun f=>
 At #[(Vt (BA [])),(Vt (BA []))] 111 fun g=>
 Tt g 0 e <|
 Tt g 1 f <|
 Ls g 0 fun i=>
 Cl Pg 93 [(Vt i)] false [.sc (.i .i64)] fun j=>
 Br ((j.1:Int) != 0) (
 R (20,())) (
 Ls g 1 fun k=>
 Br (decide ((((k.size:Nat):Int):Int) > 16)) (
 R (2,())) (
 Ls g 0 fun l=>
 Br (slt l c.2.1 || seq l c.2.1) (
 R (1,())) (
 Ls g 0 fun m=>
 b (c.1,m,(An (c.2.2.1 + 1)),()))))) (
 R (0,()))) (0,(BA []),0,())
theorem Q6 (a) {R w} (h:Sk a R w):Cl Pg 271 [(Vs a)] false [.sc (.i .i64)] R w:=
 ce (s' (s' (q' (s' (.block (.loop [(2,.sc (.i .i64)),(3,.sc .s),(8,.sc (.i .i64))] (s' (q' (k' l' l') (q' (.block (s' (q' (.block (s' (k' (s' l') (s' (k' (s' l') (s' (k' (s' l') l'))))))) l'))) l')))))) (s' l')))) Tryz.func271 h
theorem Lq (p_s:Sl) {R:TR [.sc .sl]→Pr} {w:World} (h:Hn 111 2 32 (zc Pg 111) p_s R w):Cl Pg 272 [(.slice p_s.p p_s.len p_s.cap)] false [.sc .sl] R w:=
 AF Tryz.checked.mixed (.seq .leaf (.seq (.seq .leaf (.cond (.seq .leaf .leaf) .leaf)) (.seq .leaf .leaf))) Tryz.func272 (by kernel_rfl) (by kernel_rfl) h
def MH (a:Int) (b c d e:ByteArray) (f:Int) (g:Addr) (R:TR [.sc .b]→Pr):Pr:=
 At (Ar a b c d e f) 81 fun i=>
 AN i fun j k l m n o=>
 Cl Pg 61 [(.agg (Ar j k l m n o))] true N6 fun p=>
 At #[(Vt (BA [])),(Vt (BA []))] 37 fun q=>
 Tt q 0 p.1.1 <|
 Tt q 1 p.1.2.1 <|
 Ls q 0 fun r=>
 Ls q 1 fun s=>
 Ls g 0 fun t=>
 Ls g 1 fun u=>
 Cl Pg 105 [(.agg #[(Vt r),(Vt s)]),(.agg #[(Vt t),(Vt u)])] true [.ag [.s,.s],.sc .b] fun v=>
 At #[(Vt (BA [])),(Vt (BA []))] 37 fun x=>
 Tt x 0 v.1.1 <|
 Tt x 1 v.1.2.1 <|
 Br ((p.2.1:Int) == 0) (
 R (v.2.1,())) (
 R (false,()))
theorem NA (a b c d e f g) {R w} (h:MH a b c d e f g R w):Cl Pg 273 [(.agg (Ar a b c d e f)),(Vp (some g))] false [.sc .b] R w:=
 ce (s' (s' (s' (s' l')))) Tryz.func273 h
def Gm (a:Option Addr) (b:Int) (R:TR [.sc .sl,.sc .sl]→Pr):Pr:=
 Cl Pg 109 [(Vp a),(Vu b)] true [] fun c=>
 Cl Pg 67 [(Vp a),(.slice none 0 0)] true [.sc .sl,.sc .sl] fun d=>
 R (d.1,d.2.1,())
theorem Je (a b) {R w} (h:Gm a b R w):Cl Pg 277 [(Vp a),(Vu b)] true [.sc .sl,.sc .sl] R w:=
 ce (s' (s' (s' l'))) Tryz.func277 h
def Gk (a:Int) (R:TR [.sc .b]→Pr):Pr:=
 R (((a:Int) != a),())
theorem Jq (a) {R w} (h:Gk a R w):Cl Pg 278 [(Vu a)] false [.sc .b] R w:=
 ce (s' (s' l')) Tryz.func278 h
theorem Hl (p_s:Sl) (p_f:Value) {R:TR [.sc (.i .i64)]→Pr} {w:World} (h:BG Pg 4 (ldA [(.i .u64),.sl,.sl,(.i .i64)]) p_s p_f R w):Cl Pg 281 [(.slice p_s.p p_s.len p_s.cap),p_f] false [.sc (.i .i64)] R w:=
 AF Tryz.checked.mixed (.seq .leaf (.seq (.seq .leaf (.block (.loop [(4,.sc (.i .i64)),(8,.sc (.i .i64))] (.seq .leaf (.seq (.cond .leaf .leaf) (.seq (.block (.seq .leaf (.seq .leaf (.cond (.seq .leaf .leaf) .leaf)))) .leaf)))))) (.seq .leaf .leaf))) Tryz.func281 (by kernel_rfl) (by kernel_rfl) h
theorem FQ (p_s:Sl) (p_f:Value) {R:TR [.sc (.i .i64)]→Pr} {w:World} (h:BG Pg 3 (ldA [.b,.s,.sl]) p_s p_f R w):Cl Pg 282 [(.slice p_s.p p_s.len p_s.cap),p_f] false [.sc (.i .i64)] R w:=
 AF Tryz.checked.mixed (.seq .leaf (.seq (.seq .leaf (.block (.loop [(4,.sc (.i .i64)),(8,.sc (.i .i64))] (.seq .leaf (.seq (.cond .leaf .leaf) (.seq (.block (.seq .leaf (.seq .leaf (.cond (.seq .leaf .leaf) .leaf)))) .leaf)))))) (.seq .leaf .leaf))) Tryz.func282 (by kernel_rfl) (by kernel_rfl) h
theorem Hf (p_s:Sl) (p_f:Value) {R:TR [.sc (.i .i64)]→Pr} {w:World} (h:BG Pg 2 (ldA [.s,.s]) p_s p_f R w):Cl Pg 283 [(.slice p_s.p p_s.len p_s.cap),p_f] false [.sc (.i .i64)] R w:=
 AF Tryz.checked.mixed (.seq .leaf (.seq (.seq .leaf (.block (.loop [(4,.sc (.i .i64)),(8,.sc (.i .i64))] (.seq .leaf (.seq (.cond .leaf .leaf) (.seq (.block (.seq .leaf (.seq .leaf (.cond (.seq .leaf .leaf) .leaf)))) .leaf)))))) (.seq .leaf .leaf))) Tryz.func283 (by kernel_rfl) (by kernel_rfl) h
def Eb (a:Option Addr) (b:Sl) (c:Value) (R:TR []→Pr):Pr:=
 Lp (σ:=Int × Unit) (fun d e=>
 Br (decide ((e.1:Int) < ((b.len:Nat):Int))) (
 Ix b e.1 1 fun f=>
 A2 .u64 f fun g=>
 AB Pg c [(Vu g)] true [] fun i=>
 d ((An (e.1 + 1)),())) (
 R ())) (0,())
theorem Eo (a b c) {R w} (h:Eb a b c R w):Cl Pg 285 [(Vp a),(Vs b),c] true [] R w:=
 ce (s' (.block (.loop [(10,.sc (.i .i64))] (s' (q' (k' l' l') (q' (.block (s' l')) l')))))) Tryz.func285 h
def Is (a:Option Addr) (b:Int) (R:TR []→Pr):Pr:=
 Cl Pg 258 [(Vp a),(Vu (IntKind.u64.wrap (b)))] true [] fun c=>
 R ()
theorem KJ (a b) {R w} (h:Is a b R w):Cl Pg 286 [(Vp a),(Vi b)] true [] R w:=
 ce (l') Tryz.func286 h
def IJ (a:Option Addr) (b:Sl) (c:Value) (R:TR []→Pr):Pr:=
 Lp (σ:=Int × Unit) (fun d e=>
 Br (decide ((e.1:Int) < ((b.len:Nat):Int))) (
 Ix b e.1 2 fun f=>
 Ls f 0 fun g=>
 Li f 1 fun i=>
 At #[(Vt (BA [])),(Vi 0)] 70 fun j=>
 Tt j 0 g <|
 Ti j 1 i <|
 Ls j 0 fun k=>
 Li j 1 fun l=>
 AB Pg c [(.agg #[(Vt k),(Vi l)])] true [] fun m=>
 d ((An (e.1 + 1)),())) (
 R ())) (0,())
theorem K4 (a b c) {R w} (h:IJ a b c R w):Cl Pg 287 [(Vp a),(Vs b),c] true [] R w:=
 ce (s' (.block (.loop [(10,.sc (.i .i64))] (s' (q' (k' l' l') (q' (.block (s' l')) l')))))) Tryz.func287 h
def Hk (a:Option Addr) (b:ByteArray) (R:TR []→Pr):Pr:=
 Dr <|
 Nn a fun c=>
 Ll c 0 fun d=>
 Cl Pg 240 [(Vt b)] false [.sc .sl] fun e=>
 AH (Ll c 0 fun f=>
 fun _=>((Vs f):Value)=(Vs d)) <|
 App 5 1 1 (zc Pg 5) d e.1.len (BH e.1.p e.1.len 1) fun g=>
 Nn a fun i=>
 Ts i 0 g <|
 R ()
theorem JQ (a b) {R w} (h:Hk a b R w):Cl Pg 288 [(Vp a),(Vt b)] true [] R w:=
 ce (l') Tryz.func288 h
def JH (a:Option Addr) (b:Sl) (c:Value) (R:TR []→Pr):Pr:=
 Lp (σ:=Int × Unit) (fun d e=>
 Br (decide ((e.1:Int) < ((b.len:Nat):Int))) (
 Ix b e.1 2 fun f=>
 Lu f 0 fun g=>
 Ll f 1 fun i=>
 At #[(Vu 0),(.slice none 0 0)] 60 fun j=>
 Tu j 0 g <|
 Ts j 1 i <|
 Lu j 0 fun k=>
 Ll j 1 fun l=>
 AB Pg c [(.agg #[(Vu k),(Vs l)])] true [] fun m=>
 d ((An (e.1 + 1)),())) (
 R ())) (0,())
theorem Ma (a b c) {R w} (h:JH a b c R w):Cl Pg 289 [(Vp a),(Vs b),c] true [] R w:=
 ce (s' (.block (.loop [(10,.sc (.i .i64))] (s' (q' (k' l' l') (q' (.block (s' l')) l')))))) Tryz.func289 h
def M8 (a:Option Addr) (b:Sl) (c:Value) (R:TR []→Pr):Pr:=
 Cl Pg 286 [(Vp a),(Vi ((b.len:Nat):Int))] true [] fun d=>
 Cl Pg 300 [(Vp a),(Vs b),c] true [] fun e=>
 R ()
theorem N9 (a b c) {R w} (h:M8 a b c R w):Cl Pg 290 [(Vp a),(Vs b),c] true [] R w:=
 ce (s' l') Tryz.func290 h
def JR (a:Option Addr) (b:Int) (c d e f:ByteArray) (g:Int) (R:TR []→Pr):Pr:=
 At (Ar b c d e f g) 81 fun i=>
 Li i 0 fun j=>
 Cl Pg 286 [(Vp a),(Vi j)] true [] fun k=>
 Ls i 1 fun l=>
 Ls i 2 fun m=>
 Ls i 3 fun n=>
 Ls i 4 fun o=>
 At (As4 l m n o) 9 fun p=>
 Lp (σ:=Int × Unit) (fun q r=>
 Br (decide ((r.1:Int) < ((4:Nat):Int))) (
 Ix ⟨(some p),4,4⟩ r.1 1 fun s=>
 BU s fun t=>
 Cl Pg 288 [(Vp a),(Vt t)] true [] fun u=>
 q ((An (r.1 + 1)),())) (
 Li i 5 fun v=>
 Cl Pg 286 [(Vp a),(Vi v)] true [] fun x=>
 R ())) (0,())
theorem Ml (a b c d e f g) {R w} (h:JR a b c d e f g R w):Cl Pg 291 [(Vp a),(.agg (Ar b c d e f g))] true [] R w:=
 ce (s' (s' (q' (s' (.block (.loop [(20,.sc (.i .i64))] (s' (q' (k' l' l') (q' (.block (s' l')) l')))))) l'))) Tryz.func291 h
def Dt (a:Sl) (b c:Int) (d:Option Addr) (R:TR [.sc (.i .i64),.sc (.i .i64)]→Pr):Pr:=
 Dr <|
 Ix a c 1 fun e=>
 A2 .u64 e fun f=>
 Ix a b 1 fun g=>
 A2 .u64 g fun i=>
 Cl Pg 194 [(Vu f),(Vu i)] false [.sc .b] fun j=>
 Br j.1 (
 Nn d fun k=>
 A2 .i64 k fun l=>
 Nn d fun m=>
 St m (Vi (An (l + 1))) <|
 R (c,b,())) (
 R (b,c,()))
theorem EF (a b c d) {R w} (h:Dt a b c d R w):Cl Pg 292 [(Vs a),(Vi b),(Vi c),(Vp d)] true [.sc (.i .i64),.sc (.i .i64)] R w:=
 ce (s' (q' (s' (k' (s' (s' l')) l')) (s' l'))) Tryz.func292 h
def Ahi (a:Sl) (b:ByteArray) (R:TR [.sc (.i .i64),.sc .b]→Pr):Pr:=
 Cl Pg 301 [(Vs a),(Vt b),(.func (.func 302) #[] #[])] true [.sc (.i .i64),.sc .b] fun c=>
 R (c.1,c.2.1,())
theorem Aaj (a b) {R w} (h:Ahi a b R w):Cl Pg 293 [(Vs a),(Vt b)] true [.sc (.i .i64),.sc .b] R w:=
 ce (s' (s' l')) Tryz.func293 h
theorem JS (p_s:Sl) (p_i:Int) (p_v:Sl) {R:TR [.sc .sl]→Pr} {w:World} (h:Fj Pg 304 305 111 2 32 (zc Pg 111) p_s p_i p_v R w):Cl Pg 294 [(.slice p_s.p p_s.len p_s.cap),(.int .i64 p_i),(.slice p_v.p p_v.len p_v.cap)] false [.sc .sl] R w:=
 AF Tryz.checked.mixed (.seq .leaf (.seq .leaf (.seq .leaf (.seq (.seq .leaf (.cond (.seq .leaf .leaf) .leaf)) (.seq .leaf (.seq (.seq .leaf (.cond (.seq .leaf .leaf) .leaf)) (.seq (.seq .leaf (.cond (.seq .leaf (.seq .leaf (.seq .leaf (.seq .leaf .leaf)))) .leaf)) (.seq .leaf (.seq (.seq .leaf (.cond (.seq .leaf (.seq .leaf (.seq .leaf .leaf))) .leaf)) (.seq .leaf (.seq .leaf (.seq .leaf .leaf)))))))))))) Tryz.func294 (by kernel_rfl) (by kernel_rfl) h
theorem Jv (p_s:Sl) (p_i:Int) (p_j:Int) {R:TR [.sc .sl]→Pr} {w:World} (h:GN 111 2 32 (zc Pg 111) p_s p_i p_j R w):Cl Pg 295 [(.slice p_s.p p_s.len p_s.cap),(.int .i64 p_i),(.int .i64 p_j)] false [.sc .sl] R w:=
 AF Tryz.checked.mixed (.seq .leaf (.seq .leaf (.seq (.seq .leaf (.cond (.seq .leaf .leaf) .leaf)) (.seq .leaf (.seq .leaf (.seq .leaf (.seq .leaf .leaf))))))) Tryz.func295 (by kernel_rfl) (by kernel_rfl) h
def AbG (a:Sl) (b c:ByteArray) (R:TR [.sc (.i .i64),.sc (.i .i64)]→Pr):Pr:=
 At #[(Vt b),(Vt c)] 37 fun d=>
 Ls d 0 fun e=>
 Cl Pg 293 [(Vs a),(Vt e)] true [.sc (.i .i64),.sc .b] fun f=>
 Jp (σ:=Int × Unit) (fun g=>
 R (f.1,g.1,())) fun i=>
 Ls d 1 fun j=>
 Br (!(seq j (BA []))) (
 Ls d 1 fun k=>
 Cl Pg 293 [(Vs a),(Vt k)] true [.sc (.i .i64),.sc .b] fun l=>
 i (l.1,())) (
 i (((a.len:Nat):Int),()))
theorem Xq (a b c) {R w} (h:AbG a b c R w):Cl Pg 296 [(Vs a),(.agg #[(Vt b),(Vt c)])] true [.sc (.i .i64),.sc (.i .i64)] R w:=
 ce (s' (s' (s' (q' (.join [(8,.sc (.i .i64))] (s' (k' l' l'))) (s' l'))))) Tryz.func296 h
def MF (a:Option Addr) (b:Sl) (c:Value) (R:TR []→Pr):Pr:=
 Lp (σ:=Int × Unit) (fun d e=>
 Br (decide ((e.1:Int) < ((b.len:Nat):Int))) (
 Ix b e.1 6 fun f=>
 AN f fun g i j k l m=>
 At Gx 81 fun n=>
 Gh n g i j k l m <|
 AN n fun o p q r s t=>
 AB Pg c [(.agg (Ar o p q r s t))] true [] fun u=>
 d ((An (e.1 + 1)),())) (
 R ())) (0,())
theorem N5 (a b c) {R w} (h:MF a b c R w):Cl Pg 300 [(Vp a),(Vs b),c] true [] R w:=
 ce (s' (.block (.loop [(10,.sc (.i .i64))] (s' (q' (k' l' l') (q' (.block (s' l')) l')))))) Tryz.func300 h
theorem Ey (p_x:Sl) (p_target:ByteArray) (p_cmp:Value) {R:TR [.sc (.i .i64),.sc .b]→Pr} {w:World} (h:B2 Pg 2 (ldA [.s,.s]) p_x (.string p_target) p_cmp R w):Cl Pg 301 [(.slice p_x.p p_x.len p_x.cap),(.string p_target),p_cmp] true [.sc (.i .i64),.sc .b] R w:=
 AF Tryz.checked.mixed (.seq .leaf (.seq .leaf (.seq .leaf (.seq (.block (.loop [(9,.sc (.i .i64)),(10,.sc (.i .i64))] (.seq (.seq .leaf (.cond .leaf .leaf)) (.block (.seq .leaf (.seq .leaf (.cond .leaf .leaf))))))) (.seq .leaf .leaf))))) Tryz.func301 (by kernel_rfl) (by kernel_rfl) h
def Acb (a b c:ByteArray) (R:TR [.sc (.i .i64)]→Pr):Pr:=
 At #[(Vt a),(Vt b)] 111 fun d=>
 Ls d 0 fun e=>
 Cl Pg 303 [(Vt e),(Vt c)] false [.sc (.i .i64)] fun f=>
 R (f.1,())
theorem XG (a b c) {R w} (h:Acb a b c R w):Cl Pg 302 [(.agg #[(Vt a),(Vt b)]),(Vt c)] false [.sc (.i .i64)] R w:=
 ce (s' (s' l')) Tryz.func302 h
def LP (a b:ByteArray) (R:TR [.sc (.i .i64)]→Pr):Pr:=
 Cl Pg 308 [(Vt a),(Vt b)] false [.sc (.i .i64)] fun c=>
 R (c.1,())
theorem MD (a b) {R w} (h:LP a b R w):Cl Pg 303 [(Vt a),(Vt b)] false [.sc (.i .i64)] R w:=
 ce (s' (s' l')) Tryz.func303 h
def C9 (a b:ByteArray) (R:TR [.sc (.i .i64)]→Pr):Pr:=
 Ex Pg 310 [(Vt a),(Vt b)] false [.sc (.i .i64)] fun c=>
 R (c.1,())
theorem DX (a b) {R w} (h:C9 a b R w):Cl Pg 308 [(Vt a),(Vt b)] false [.sc (.i .i64)] R w:=
 ce (s' (s' l')) Tryz.func308 h
def El (a:Option Addr) (b c:ByteArray) (d:Int) (R:TR [.sc .sl,.sc (.i .i64)]→Pr):Pr:=
 At #[(Vt b),(Vt c)] 37 fun e=>
 Dr <|
 Nn a fun f=>
 Ll f 0 fun g=>
 Ls e 0 fun i=>
 Ls e 1 fun j=>
 Cl Pg 20 [(Vs g),(.agg #[(Vt i),(Vt j)]),(Vi d)] false [.sc .sl] fun k=>
 App 111 2 32 (zc Pg 111) ⟨none,0,0⟩ k.1.len (BH k.1.p k.1.len 2) fun l=>
 R (l,0,())
theorem FZ (a b c d) {R w} (h:El a b c d R w):Cl Pg 328 [(Vp a),(.agg #[(Vt b),(Vt c)]),(Vi d)] true [.sc .sl,.sc (.i .i64)] R w:=
 ce (s' (s' l')) Tryz.func328 h
open Go Go.Sx
def Fu (a:Int) (b c d e:ByteArray) (f:Int) (R:TR [.sc (.i .i64)]→Pr):Pr:=
 At (Ar a b c d e f) 81 fun g=>
 Jp (σ:=Bool × Unit) (fun i=>
 Jp (σ:=Bool × Unit) (fun j=>
 Jp (σ:=Bool × Unit) (fun k=>
 Br k.1 (
 R (40,())) (
 Jp (σ:=Bool × Unit) (fun l=>
 Br l.1 (
 R (20,())) (
 Ls g 2 fun m=>
 Br (decide ((((m.size:Nat):Int):Int) > 16)) (
 R (2,())) (
 Jp (σ:=Bool × Unit) (fun n=>
 Br n.1 (
 R (21,())) (
 Jp (σ:=Bool × Unit) (fun o=>
 Br o.1 (
 R (1,())) (
 R (0,()))) fun p=>
 Li g 0 fun q=>
 Br ((q:Int) == 4) (
 Li g 5 fun r=>
 Br (decide ((r:Int) < 1)) (
 p (true,())) (
 Li g 5 fun s=>
 p ((decide ((s:Int) > 4)),()))) (
 p (false,())))) fun t=>
 Br j.1 (
 Ls g 3 fun u=>
 Ls g 4 fun v=>
 Cl Pg 91 [(.agg #[(Vt u),(Vt v)])] false [.sc (.i .i64)] fun x=>
 t (((x.1:Int) != 0),())) (
 t (false,()))))) fun y=>
 Br i.1 (
 Ls g 1 fun z=>
 Cl Pg 35 [(Vt z)] false [.sc (.i .i64)] fun a0=>
 y (((a0.1:Int) != 0),())) (
 y (false,())))) fun b0=>
 Br (!i.1) (
 Br (!j.1) (
 b0 (true,())) (
 Br i.1 (
 Ls g 3 fun c0=>
 Br (!(seq c0 (BA []))) (
 b0 (true,())) (
 Ls g 4 fun d0=>
 Br (!(seq d0 (BA []))) (
 b0 (true,())) (
 Br j.1 (
 Ls g 1 fun e0=>
 Br (!(seq e0 (BA []))) (
 b0 (true,())) (
 Li g 0 fun f0=>
 Br ((f0:Int) != 2) (
 Ls g 2 fun g0=>
 Br (!(seq g0 (BA []))) (
 b0 (true,())) (
 Li g 0 fun i0=>
 Br ((i0:Int) != 4) (
 Li g 5 fun j0=>
 b0 (((j0:Int) != 0),())) (
 b0 (false,())))) (
 Li g 0 fun k0=>
 Br ((k0:Int) != 4) (
 Li g 5 fun l0=>
 b0 (((l0:Int) != 0),())) (
 b0 (false,()))))) (
 Li g 0 fun m0=>
 Br ((m0:Int) != 2) (
 Ls g 2 fun n0=>
 Br (!(seq n0 (BA []))) (
 b0 (true,())) (
 Li g 0 fun o0=>
 Br ((o0:Int) != 4) (
 Li g 5 fun p0=>
 b0 (((p0:Int) != 0),())) (
 b0 (false,())))) (
 Li g 0 fun q0=>
 Br ((q0:Int) != 4) (
 Li g 5 fun r0=>
 b0 (((r0:Int) != 0),())) (
 b0 (false,()))))))) (
 Br j.1 (
 Ls g 1 fun s0=>
 Br (!(seq s0 (BA []))) (
 b0 (true,())) (
 Li g 0 fun t0=>
 Br ((t0:Int) != 2) (
 Ls g 2 fun u0=>
 Br (!(seq u0 (BA []))) (
 b0 (true,())) (
 Li g 0 fun v0=>
 Br ((v0:Int) != 4) (
 Li g 5 fun x0=>
 b0 (((x0:Int) != 0),())) (
 b0 (false,())))) (
 Li g 0 fun y0=>
 Br ((y0:Int) != 4) (
 Li g 5 fun z0=>
 b0 (((z0:Int) != 0),())) (
 b0 (false,()))))) (
 Li g 0 fun a1=>
 Br ((a1:Int) != 2) (
 Ls g 2 fun b1=>
 Br (!(seq b1 (BA []))) (
 b0 (true,())) (
 Li g 0 fun c1=>
 Br ((c1:Int) != 4) (
 Li g 5 fun d1=>
 b0 (((d1:Int) != 0),())) (
 b0 (false,())))) (
 Li g 0 fun e1=>
 Br ((e1:Int) != 4) (
 Li g 5 fun f1=>
 b0 (((f1:Int) != 0),())) (
 b0 (false,()))))))) (
 Br i.1 (
 Ls g 3 fun g1=>
 Br (!(seq g1 (BA []))) (
 b0 (true,())) (
 Ls g 4 fun i1=>
 Br (!(seq i1 (BA []))) (
 b0 (true,())) (
 Br j.1 (
 Ls g 1 fun j1=>
 Br (!(seq j1 (BA []))) (
 b0 (true,())) (
 Li g 0 fun k1=>
 Br ((k1:Int) != 2) (
 Ls g 2 fun l1=>
 Br (!(seq l1 (BA []))) (
 b0 (true,())) (
 Li g 0 fun m1=>
 Br ((m1:Int) != 4) (
 Li g 5 fun n1=>
 b0 (((n1:Int) != 0),())) (
 b0 (false,())))) (
 Li g 0 fun o1=>
 Br ((o1:Int) != 4) (
 Li g 5 fun p1=>
 b0 (((p1:Int) != 0),())) (
 b0 (false,()))))) (
 Li g 0 fun q1=>
 Br ((q1:Int) != 2) (
 Ls g 2 fun r1=>
 Br (!(seq r1 (BA []))) (
 b0 (true,())) (
 Li g 0 fun s1=>
 Br ((s1:Int) != 4) (
 Li g 5 fun t1=>
 b0 (((t1:Int) != 0),())) (
 b0 (false,())))) (
 Li g 0 fun u1=>
 Br ((u1:Int) != 4) (
 Li g 5 fun v1=>
 b0 (((v1:Int) != 0),())) (
 b0 (false,()))))))) (
 Br j.1 (
 Ls g 1 fun x1=>
 Br (!(seq x1 (BA []))) (
 b0 (true,())) (
 Li g 0 fun y1=>
 Br ((y1:Int) != 2) (
 Ls g 2 fun z1=>
 Br (!(seq z1 (BA []))) (
 b0 (true,())) (
 Li g 0 fun a2=>
 Br ((a2:Int) != 4) (
 Li g 5 fun b2=>
 b0 (((b2:Int) != 0),())) (
 b0 (false,())))) (
 Li g 0 fun c2=>
 Br ((c2:Int) != 4) (
 Li g 5 fun d2=>
 b0 (((d2:Int) != 0),())) (
 b0 (false,()))))) (
 Li g 0 fun e2=>
 Br ((e2:Int) != 2) (
 Ls g 2 fun f2=>
 Br (!(seq f2 (BA []))) (
 b0 (true,())) (
 Li g 0 fun g2=>
 Br ((g2:Int) != 4) (
 Li g 5 fun i2=>
 b0 (((i2:Int) != 0),())) (
 b0 (false,())))) (
 Li g 0 fun j2=>
 Br ((j2:Int) != 4) (
 Li g 5 fun k2=>
 b0 (((k2:Int) != 0),())) (
 b0 (false,()))))))) fun l2=>
 Li g 0 fun m2=>
 Br ((m2:Int) == 4) (
 l2 (true,())) (
 Li g 0 fun n2=>
 l2 (((n2:Int) == 5),()))) fun o2=>
 Li g 0 fun p2=>
 Br ((p2:Int) == 1) (
 o2 (true,())) (
 Li g 0 fun q2=>
 Br ((q2:Int) == 2) (
 o2 (true,())) (
 Li g 0 fun r2=>
 o2 (((r2:Int) == 3),())))
theorem HV (a b c d e f) {R w} (h:Fu a b c d e f R w):Cl Pg 43 [(.agg (Ar a b c d e f))] false [.sc (.i .i64)] R w:=
 ce (s' (q' (.join [(3,.sc .b)] l') (q' (.join [(4,.sc .b)] l') (q' (q' (.join [(72,.sc .b)] l') (k' (s' l') l')) (q' (q' (.join [(79,.sc .b)] l') (k' (s' l') l')) (q' (s' (k' (s' l') l')) (q' (q' (.join [(93,.sc .b)] l') (k' (s' l') l')) (q' (q' (.join [(106,.sc .b)] l') (k' (s' l') l')) (s' l'))))))))) Tryz.func43 h
open Go Go.Sx
structure Pa where
 k:ByteArray
 v:ByteArray
deriving DecidableEq
def C2:Rec Pa:=⟨[.s,.s],fun x=>(x.k,x.v,()),rfl,by simp⟩
theorem Fm:zc Pg 111=#[.string (BA []),.string (BA [])]:=by kernel_rfl
theorem Ack:∀ v∈(zc Pg 111).toList,v.oneCell'=true:=by rw [Fm];simp [Value.oneCell']
theorem KH {w:World} {s:Sl} {l:List Pa} (h:A1 C2 w s l) {i:Nat} {x:Pa} (hx:l[i]?=some x) {K:ByteArray→ByteArray→Pr} (k:K x.k x.v w) :
  Ix s (i:Int) 2 (fun a=>BU (a.add 0) fun x0=>BU (a.add 1) fun x1=>K x0 x1) w:=
 h.ld (K:=fun y=>K y.1 y.2.1) hx k
theorem KC (x:Pa) {K:Addr→Pr} {w:World} (h:∀ b w1,w1.heap[b]?=some (.cells #[.string x.k,.string x.v] 111 (0,0))→w.heap.size≤b→Aa [] w w1→K ⟨b,0,none⟩ w1) :
  At #[.string (BA []),.string (BA [])] 111 (fun a=>St (a.add 0) (.string x.k) <| St (a.add 1) (.string x.v) <| (K a)) w:=
 Ei (vs:=C2.c x) rfl (C2.one x) h
theorem Qb {w:World} {s:Sl} {l:List _} (h:A1 C2 w s l) (hN:l.length≤100000000) {K:TR [.sc .sl]→Pr} (k:∀ r w',Bh C2 w' r l→(∀ x∈Ai r,w.heap.size≤x)→Aa [] w w'→K (r,()) w'):Cl Pg 272 [.slice s.p s.len s.cap] false [.sc .sl] K w:=
 Lq s (M6 (ρ:=C2) (by rw [Fm];rfl) (by omega) hN h k)
theorem AfY:Wc Pg 283 C2 C2.v:=fun h hp hN _ k=>Hf _ _ (C0 (ρ:=C2) (HF C2) h hp hN k)
theorem N8 {w:World} {s:Sl} {l:List _} {f:Value} {p:_→Bool} {F:Nat→Prop} (h:A1 C2 w s l) (hp:Go.Sx.QX Pg f C2.v p F l w) (hN:l.length≤100000000) {K:TR [.sc .b]→Pr} (k:∀ w',Aa [] w w'→K (l.any p,()) w'):Cl Pg 228 [.slice s.p s.len s.cap,f] false [.sc .b] K w:=
 Fz s f (BP (ρ:=C2) AfY h hp hN k)
theorem NS {w:World} {s:Sl} {l:List _} {i j:Nat} {y z:Int} (h:Bh C2 w s l) (hij:i≤j) (hj:j≤l.length) (hN:l.length≤100000000) (hy:y=(i:Int)) (hz:z=(j:Int)) {K:TR [.sc .sl]→Pr} (k:∀ r w',Bh C2 w' r (l.take i ++ l.drop j)→(∀ x∈Ai r,x∈Ai s)→Aa (Ai s) w w'→K (r,()) w'):Cl Pg 295 [.slice s.p s.len s.cap,.int .i64 y,.int .i64 z] false [.sc .sl] K w:=
 Jv s y z (Ns (ρ:=C2) (by rw [Fm];rfl) Ack h hij hj hN hy hz k)
theorem VH {w:World} {s:Sl} {l:List _} {f:Value} {t:ByteArray} {c:_→Int} (h:A1 C2 w s l) (hp:IsC Pg f C2.v (.string t) c l w) (hs:l.Pairwise (fun a b=>c b < 0→c a < 0)) (hN:l.length≤100000000) {K:TR [.sc (.i .i64),.sc .b]→Pr} (k:∀ w',Aa [] w w'→K ((Ba c l:Int),Ee c l,()) w'):Cl Pg 301 [.slice s.p s.len s.cap,.string t,f] true [.sc (.i .i64),.sc .b] K w:=
 Ey s t f (C8 (ρ:=C2) (HF C2) h hp hs hN k)
theorem Ag6:Ac1 Pg 304 111 C2.n:=by
 intro w a b o la ca lb cb cs all t fr ha hb hne h0 K h;refine ⟨(false,()),w,?_,h⟩
 rw [show ([Value.slice (some ⟨a,0,none⟩) la ca,.slice (some ⟨b,o,none⟩) lb cb]:List Value).toArray=#[.slice (some ⟨a,0,none⟩) la ca,.slice (some ⟨b,o,none⟩) lb cb] from rfl,
  run_callFunc_extern Tryz.func304 (by kernel_rfl) (by kernel_rfl) (by kernel_rfl) (e:=Extern.SlicesOverlaps.overlaps #[25,25] #[4]) (by kernel_rfl),
  Lib.run_overlaps_apart w 25 4 111 (by kernel_rfl) 2 (fun w=>by kernel_rfl) ⟨a,0,none⟩ ⟨b,o,none⟩ la ca lb cb hne 111 t cs.size all.size (by simp [World.shape?,ha]) (by simp [World.shape?,hb]) h0 (by simp [World.frozen?,ha]) (by simp [World.frozen?,ha])]
 rfl
theorem VQ {w:World} {s:Sl} {l:List _} {a:Nat} {x:_} {i:Nat} (h:Bh C2 w s l) (ha:w.heap[a]?=some (.cells (C2.c x).toArray 111 (0,0))) (hna:a ∉ Ai s) (hi:i≤l.length) (hN:l.length≤100000000) {K:TR [.sc .sl]→Pr} (k:∀ r w',Bh C2 w' r (l.take i ++ x :: l.drop i)→(∀ y∈Ai r,y∈Ai s∨w.heap.size≤y)→Aa (Ai s) w w'→K (r,()) w'):Cl Pg 294 [.slice s.p s.len s.cap,.int .i64 (i:Int),.slice (some ⟨a,0,none⟩) 1 1] false [.sc .sl] K w:=
 JS s (i:Int) ⟨some ⟨a,0,none⟩,1,1⟩ (Kc (ρ:=C2) Ag6 (by rw [Fm];rfl) Ack (by omega) hN h ha hna hi k)
structure Op where
 kind:Int
 key:ByteArray
 value:ByteArray
 lo:ByteArray
 hi:ByteArray
 AD:Int
deriving DecidableEq
def BQ:Rec Op:=⟨[.i .i64,.s,.s,.s,.s,.i .i64],fun x=>(x.kind,x.key,x.value,x.lo,x.hi,x.AD,()),rfl,by simp⟩
theorem R1:zc Pg 81=#[.int .i64 0,.string (BA []),.string (BA []),.string (BA []),.string (BA []),.int .i64 0]:=by kernel_rfl
theorem Sn {w:World} {s:Sl} {l:List Op} (h:A1 BQ w s l) {i:Nat} {x:Op} (hx:l[i]?=some x) {K:Int→ByteArray→ByteArray→ByteArray→ByteArray→Int→Pr} (k:K x.kind x.key x.value x.lo x.hi x.AD w) :
  Ix s (i:Int) 6 (fun a=>A2 .i64 (a.add 0) fun x0=>BU (a.add 1) fun x1=>BU (a.add 2) fun x2=>BU (a.add 3) fun x3=>BU (a.add 4) fun x4=>A2 .i64 (a.add 5) fun x5=>K x0 x1 x2 x3 x4 x5) w:=
 h.ld (K:=fun y=>K y.1 y.2.1 y.2.2.1 y.2.2.2.1 y.2.2.2.2.1 y.2.2.2.2.2.1) hx k
theorem Sq (x:Op) {K:Addr→Pr} {w:World} (h:∀ b w1,w1.heap[b]?=some (.cells #[.int .i64 x.kind,.string x.key,.string x.value,.string x.lo,.string x.hi,.int .i64 x.AD] 81 (0,0))→w.heap.size≤b→Aa [] w w1→K ⟨b,0,none⟩ w1) :
  At #[.int .i64 0,.string (BA []),.string (BA []),.string (BA []),.string (BA []),.int .i64 0] 81 (fun a=>St (a.add 0) (.int .i64 x.kind) <| St (a.add 1) (.string x.key) <| St (a.add 2) (.string x.value) <| St (a.add 3) (.string x.lo) <| St (a.add 4) (.string x.hi) <| St (a.add 5) (.int .i64 x.AD) <| (K a)) w:=
 Ei (vs:=BQ.c x) rfl (BQ.one x) h
theorem Kz {w:World} {s:Sl} {l:List _} (h:A1 BQ w s l) (hN:l.length≤100000000) {K:TR [.sc .sl]→Pr} (k:∀ r w',Bh BQ w' r l→(∀ x∈Ai r,w.heap.size≤x)→Aa [] w w'→K (r,()) w'):Cl Pg 60 [.slice s.p s.len s.cap] false [.sc .sl] K w:=
 M0 s (M6 (ρ:=BQ) (by rw [R1];rfl) (by omega) hN h k)
theorem Akj:Wc Pg 96 BQ BQ.v:=fun h hp hN _ k=>Jb _ _ (C0 (ρ:=BQ) (HF BQ) h hp hN k)
theorem BN {w:World} {s:Sl} {l:List _} {f:Value} {p:_→Bool} {F:Nat→Prop} (h:A1 BQ w s l) (hp:Go.Sx.QX Pg f BQ.v p F l w) (hN:l.length≤100000000) {K:TR [.sc .b]→Pr} (k:∀ w',Aa [] w w'→K (l.any p,()) w'):Cl Pg 48 [.slice s.p s.len s.cap,f] false [.sc .b] K w:=
 GK s f (BP (ρ:=BQ) Akj h hp hN k)
structure Ow where
 lo:ByteArray
 BO:Int
deriving DecidableEq
def Mj:Rec Ow:=⟨[.s,.i .i64],fun x=>(x.lo,x.BO,()),rfl,by simp⟩
theorem Ael:zc Pg 70=#[.string (BA []),.int .i64 0]:=by kernel_rfl
theorem UP {w:World} {s:Sl} {l:List Ow} (h:A1 Mj w s l) {i:Nat} {x:Ow} (hx:l[i]?=some x) {K:ByteArray→Int→Pr} (k:K x.lo x.BO w) :
  Ix s (i:Int) 2 (fun a=>BU (a.add 0) fun x0=>A2 .i64 (a.add 1) fun x1=>K x0 x1) w:=
 h.ld (K:=fun y=>K y.1 y.2.1) hx k
theorem UB (x:Ow) {K:Addr→Pr} {w:World} (h:∀ b w1,w1.heap[b]?=some (.cells #[.string x.lo,.int .i64 x.BO] 70 (0,0))→w.heap.size≤b→Aa [] w w1→K ⟨b,0,none⟩ w1) :
  At #[.string (BA []),.int .i64 0] 70 (fun a=>St (a.add 0) (.string x.lo) <| St (a.add 1) (.int .i64 x.BO) <| (K a)) w:=
 Ei (vs:=Mj.c x) rfl (Mj.one x) h
theorem NO {w:World} {s:Sl} {l:List _} (h:A1 Mj w s l) (hN:l.length≤100000000) {K:TR [.sc .sl]→Pr} (k:∀ r w',Bh Mj w' r l→(∀ x∈Ai r,w.heap.size≤x)→Aa [] w w'→K (r,()) w'):Cl Pg 57 [.slice s.p s.len s.cap] false [.sc .sl] K w:=
 JL s (M6 (ρ:=Mj) (by rw [Ael];rfl) (by omega) hN h k)
structure Rn where
 lo:ByteArray
 hi:ByteArray
deriving DecidableEq
def V8:Rec Rn:=⟨[.s,.s],fun x=>(x.lo,x.hi,()),rfl,by simp⟩
theorem Aes:zc Pg 37=#[.string (BA []),.string (BA [])]:=by kernel_rfl
theorem UG {w:World} {s:Sl} {l:List Rn} (h:A1 V8 w s l) {i:Nat} {x:Rn} (hx:l[i]?=some x) {K:ByteArray→ByteArray→Pr} (k:K x.lo x.hi w) :
  Ix s (i:Int) 2 (fun a=>BU (a.add 0) fun x0=>BU (a.add 1) fun x1=>K x0 x1) w:=
 h.ld (K:=fun y=>K y.1 y.2.1) hx k
theorem DS (x:Rn) {K:Addr→Pr} {w:World} (h:∀ b w1,w1.heap[b]?=some (.cells #[.string x.lo,.string x.hi] 37 (0,0))→w.heap.size≤b→Aa [] w w1→K ⟨b,0,none⟩ w1) :
  At #[.string (BA []),.string (BA [])] 37 (fun a=>St (a.add 0) (.string x.lo) <| St (a.add 1) (.string x.hi) <| (K a)) w:=
 Ei (vs:=V8.c x) rfl (V8.one x) h
theorem AdB:Wc Pg 223 V8 V8.v:=fun h hp hN _ k=>GD _ _ (C0 (ρ:=V8) (HF V8) h hp hN k)
theorem ME {w:World} {s:Sl} {l:List _} {f:Value} {p:_→Bool} {F:Nat→Prop} (h:A1 V8 w s l) (hp:Go.Sx.QX Pg f V8.v p F l w) (hN:l.length≤100000000) {K:TR [.sc .b]→Pr} (k:∀ w',Aa [] w w'→K (l.any p,()) w'):Cl Pg 134 [.slice s.p s.len s.cap,f] false [.sc .b] K w:=
 Ff s f (BP (ρ:=V8) AdB h hp hN k)
structure Lk where
 lo:ByteArray
 hi:ByteArray
 wr:Bool
deriving DecidableEq
def YT:Rec Lk:=⟨[.s,.s,.b],fun x=>(x.lo,x.hi,x.wr,()),rfl,by simp⟩
theorem Acf:zc Pg 99=#[.string (BA []),.string (BA []),.bool false]:=by kernel_rfl
theorem SZ {w:World} {s:Sl} {l:List Lk} (h:A1 YT w s l) {i:Nat} {x:Lk} (hx:l[i]?=some x) {K:ByteArray→ByteArray→Bool→Pr} (k:K x.lo x.hi x.wr w) :
  Ix s (i:Int) 3 (fun a=>BU (a.add 0) fun x0=>BU (a.add 1) fun x1=>E7 (a.add 2) fun x2=>K x0 x1 x2) w:=
 h.ld (K:=fun y=>K y.1 y.2.1 y.2.2.1) hx k
theorem Yp (x:Lk) {K:Addr→Pr} {w:World} (h:∀ b w1,w1.heap[b]?=some (.cells #[.string x.lo,.string x.hi,.bool x.wr] 99 (0,0))→w.heap.size≤b→Aa [] w w1→K ⟨b,0,none⟩ w1) :
  At #[.string (BA []),.string (BA []),.bool false] 99 (fun a=>St (a.add 0) (.string x.lo) <| St (a.add 1) (.string x.hi) <| St (a.add 2) (.bool x.wr) <| (K a)) w:=
 Ei (vs:=YT.c x) rfl (YT.one x) h
structure Rs where
 found:Bool
 value:ByteArray
 sp:Sl
 LL:List Pa
def Xg:Rec Rs:=⟨[.b,.s,.sl],fun x=>(x.found,x.value,x.sp,()),rfl,by simp⟩
theorem WI:zc Pg 83=#[.bool false,.string (BA []),.slice none 0 0]:=by kernel_rfl
theorem Acr:Wc Pg 282 Xg Xg.v:=fun h hp hN _ k=>FQ _ _ (C0 (ρ:=Xg) (HF Xg) h hp hN k)
theorem Mi {w:World} {s:Sl} {l:List _} {f:Value} {p:_→Bool} {F:Nat→Prop} (h:A1 Xg w s l) (hp:Go.Sx.QX Pg f Xg.v p F l w) (hN:l.length≤100000000) {K:TR [.sc .b]→Pr} (k:∀ w',Aa [] w w'→K (l.any p,()) w'):Cl Pg 226 [.slice s.p s.len s.cap,f] false [.sc .b] K w:=
 EU s f (BP (ρ:=Xg) Acr h hp hN k)
structure Hd where
 Ah:Int
 so:Sl
 ops:List Op
def Fo:Rec Hd:=⟨[.i .u64,.sl],fun x=>(x.Ah,x.so,()),rfl,by simp⟩
theorem Tr:zc Pg 60=#[.int .u64 0,.slice none 0 0]:=by kernel_rfl
theorem AbT:∀ v∈(zc Pg 60).toList,v.oneCell'=true:=by rw [Tr];simp [Value.oneCell']
theorem I0 {w:World} {s:Sl} {l:List Hd} (h:A1 Fo w s l) {i:Nat} {x:Hd} (hx:l[i]?=some x) {K:Int→Sl→Pr} (k:K x.Ah x.so w) :
  Ix s (i:Int) 2 (fun a=>A2 .u64 (a.add 0) fun x0=>DN (a.add 1) fun x1=>K x0 x1) w:=
 h.ld (K:=fun y=>K y.1 y.2.1) hx k
theorem Lz (x:Hd) {K:Addr→Pr} {w:World} (h:∀ b w1,w1.heap[b]?=some (.cells #[.int .u64 x.Ah,.slice x.so.p x.so.len x.so.cap] 60 (0,0))→w.heap.size≤b→Aa [] w w1→K ⟨b,0,none⟩ w1) :
  At #[.int .u64 0,.slice none 0 0] 60 (fun a=>St (a.add 0) (.int .u64 x.Ah) <| St (a.add 1) (.slice x.so.p x.so.len x.so.cap) <| (K a)) w:=
 Ei (vs:=Fo.c x) rfl (Fo.one x) h
theorem XV {w:World} {s:Sl} {l:List _} (h:A1 Fo w s l) (hN:l.length≤100000000) {K:TR [.sc .sl]→Pr} (k:∀ r w',Bh Fo w' r l→(∀ x∈Ai r,w.heap.size≤x)→Aa [] w w'→K (r,()) w'):Cl Pg 58 [.slice s.p s.len s.cap] false [.sc .sl] K w:=
 K7 s (M6 (ρ:=Fo) (by rw [Tr];rfl) (by omega) hN h k)
theorem AgR:Wc Pg 99 Fo Fo.v:=fun h hp hN _ k=>Hp _ _ (C0 (ρ:=Fo) (HF Fo) h hp hN k)
theorem Gn {w:World} {s:Sl} {l:List _} {f:Value} {p:_→Bool} {F:Nat→Prop} (h:A1 Fo w s l) (hp:Go.Sx.QX Pg f Fo.v p F l w) (hN:l.length≤100000000) {K:TR [.sc .b]→Pr} (k:∀ w',Aa [] w w'→K (l.any p,()) w'):Cl Pg 52 [.slice s.p s.len s.cap,f] false [.sc .b] K w:=
 F0 s f (BP (ρ:=Fo) AgR h hp hN k)
theorem VW {w:World} {s:Sl} {l:List _} {i j:Nat} {y z:Int} (h:Bh Fo w s l) (hij:i≤j) (hj:j≤l.length) (hN:l.length≤100000000) (hy:y=(i:Int)) (hz:z=(j:Int)) {K:TR [.sc .sl]→Pr} (k:∀ r w',Bh Fo w' r (l.take i ++ l.drop j)→(∀ x∈Ai r,x∈Ai s)→Aa (Ai s) w w'→K (r,()) w'):Cl Pg 125 [.slice s.p s.len s.cap,.int .i64 y,.int .i64 z] false [.sc .sl] K w:=
 JD s y z (Ns (ρ:=Fo) (by rw [Tr];rfl) AbT h hij hj hN hy hz k)
theorem VE {w:World} {s:Sl} {l:List _} {f:Value} {t:Int} {c:_→Int} (h:A1 Fo w s l) (hp:IsC Pg f Fo.v (.int .u64 t) c l w) (hs:l.Pairwise (fun a b=>c b < 0→c a < 0)) (hN:l.length≤100000000) {K:TR [.sc (.i .i64),.sc .b]→Pr} (k:∀ w',Aa [] w w'→K ((Ba c l:Int),Ee c l,()) w'):Cl Pg 206 [.slice s.p s.len s.cap,.int .u64 t,f] true [.sc (.i .i64),.sc .b] K w:=
 Es s t f (C8 (ρ:=Fo) (HF Fo) h hp hs hN k)
theorem Agq:Ac1 Pg 275 60 Fo.n:=by
 intro w a b o la ca lb cb cs all t fr ha hb hne h0 K h;refine ⟨(false,()),w,?_,h⟩
 rw [show ([Value.slice (some ⟨a,0,none⟩) la ca,.slice (some ⟨b,o,none⟩) lb cb]:List Value).toArray=#[.slice (some ⟨a,0,none⟩) la ca,.slice (some ⟨b,o,none⟩) lb cb] from rfl,
  run_callFunc_extern Tryz.func275 (by kernel_rfl) (by kernel_rfl) (by kernel_rfl) (e:=Extern.SlicesOverlaps.overlaps #[34,34] #[4]) (by kernel_rfl),
  Lib.run_overlaps_apart w 34 4 60 (by kernel_rfl) 2 (fun w=>by kernel_rfl) ⟨a,0,none⟩ ⟨b,o,none⟩ la ca lb cb hne 60 t cs.size all.size (by simp [World.shape?,ha]) (by simp [World.shape?,hb]) h0 (by simp [World.frozen?,ha]) (by simp [World.frozen?,ha])]
 rfl
theorem VX {w:World} {s:Sl} {l:List _} {a:Nat} {x:_} {i:Nat} (h:Bh Fo w s l) (ha:w.heap[a]?=some (.cells (Fo.c x).toArray 60 (0,0))) (hna:a ∉ Ai s) (hi:i≤l.length) (hN:l.length≤100000000) {K:TR [.sc .sl]→Pr} (k:∀ r w',Bh Fo w' r (l.take i ++ x :: l.drop i)→(∀ y∈Ai r,y∈Ai s∨w.heap.size≤y)→Aa (Ai s) w w'→K (r,()) w'):Cl Pg 213 [.slice s.p s.len s.cap,.int .i64 (i:Int),.slice (some ⟨a,0,none⟩) 1 1] false [.sc .sl] K w:=
 Kj s (i:Int) ⟨some ⟨a,0,none⟩,1,1⟩ (Kc (ρ:=Fo) Agq (by rw [Tr];rfl) AbT (by omega) hN h ha hna hi k)
structure Wt where
 Ah:Int
 so:Sl
 sk:Sl
 next:Int
 ops:List Op
 BB:List Lk
def NF:Rec Wt:=⟨[.i .u64,.sl,.sl,.i .i64],fun x=>(x.Ah,x.so,x.sk,x.next,()),rfl,by simp⟩
theorem Xy:zc Pg 114=#[.int .u64 0,.slice none 0 0,.slice none 0 0,.int .i64 0]:=by kernel_rfl
theorem AbF:∀ v∈(zc Pg 114).toList,v.oneCell'=true:=by rw [Xy];simp [Value.oneCell']
theorem AgE {w:World} {s:Sl} {l:List Wt} (h:A1 NF w s l) {i:Nat} {x:Wt} (hx:l[i]?=some x) {K:Int→Sl→Sl→Int→Pr} (k:K x.Ah x.so x.sk x.next w) :
  Ix s (i:Int) 4 (fun a=>A2 .u64 (a.add 0) fun x0=>DN (a.add 1) fun x1=>DN (a.add 2) fun x2=>A2 .i64 (a.add 3) fun x3=>K x0 x1 x2 x3) w:=
 h.ld (K:=fun y=>K y.1 y.2.1 y.2.2.1 y.2.2.2.1) hx k
theorem AgD (x:Wt) {K:Addr→Pr} {w:World} (h:∀ b w1,w1.heap[b]?=some (.cells #[.int .u64 x.Ah,.slice x.so.p x.so.len x.so.cap,.slice x.sk.p x.sk.len x.sk.cap,.int .i64 x.next] 114 (0,0))→w.heap.size≤b→Aa [] w w1→K ⟨b,0,none⟩ w1) :
  At #[.int .u64 0,.slice none 0 0,.slice none 0 0,.int .i64 0] 114 (fun a=>St (a.add 0) (.int .u64 x.Ah) <| St (a.add 1) (.slice x.so.p x.so.len x.so.cap) <| St (a.add 2) (.slice x.sk.p x.sk.len x.sk.cap) <| St (a.add 3) (.int .i64 x.next) <| (K a)) w:=
 Ei (vs:=NF.c x) rfl (NF.one x) h
theorem Agj:Wc Pg 281 NF NF.v:=fun h hp hN _ k=>Hl _ _ (C0 (ρ:=NF) (HF NF) h hp hN k)
theorem NB {w:World} {s:Sl} {l:List _} {f:Value} {p:_→Bool} {F:Nat→Prop} (h:A1 NF w s l) (hp:Go.Sx.QX Pg f NF.v p F l w) (hN:l.length≤100000000) {K:TR [.sc .b]→Pr} (k:∀ w',Aa [] w w'→K (l.any p,()) w'):Cl Pg 221 [.slice s.p s.len s.cap,f] false [.sc .b] K w:=
 F4 s f (BP (ρ:=NF) Agj h hp hN k)
theorem VV {w:World} {s:Sl} {l:List _} {i j:Nat} {y z:Int} (h:Bh NF w s l) (hij:i≤j) (hj:j≤l.length) (hN:l.length≤100000000) (hy:y=(i:Int)) (hz:z=(j:Int)) {K:TR [.sc .sl]→Pr} (k:∀ r w',Bh NF w' r (l.take i ++ l.drop j)→(∀ x∈Ai r,x∈Ai s)→Aa (Ai s) w w'→K (r,()) w'):Cl Pg 128 [.slice s.p s.len s.cap,.int .i64 y,.int .i64 z] false [.sc .sl] K w:=
 JM s y z (Ns (ρ:=NF) (by rw [Xy];rfl) AbF h hij hj hN hy hz k)
theorem VF {w:World} {s:Sl} {l:List _} {f:Value} {t:Int} {c:_→Int} (h:A1 NF w s l) (hp:IsC Pg f NF.v (.int .u64 t) c l w) (hs:l.Pairwise (fun a b=>c b < 0→c a < 0)) (hN:l.length≤100000000) {K:TR [.sc (.i .i64),.sc .b]→Pr} (k:∀ w',Aa [] w w'→K ((Ba c l:Int),Ee c l,()) w'):Cl Pg 204 [.slice s.p s.len s.cap,.int .u64 t,f] true [.sc (.i .i64),.sc .b] K w:=
 Eu s t f (C8 (ρ:=NF) (HF NF) h hp hs hN k)
theorem Agk:Ac1 Pg 211 114 NF.n:=by
 intro w a b o la ca lb cb cs all t fr ha hb hne h0 K h;refine ⟨(false,()),w,?_,h⟩
 rw [show ([Value.slice (some ⟨a,0,none⟩) la ca,.slice (some ⟨b,o,none⟩) lb cb]:List Value).toArray=#[.slice (some ⟨a,0,none⟩) la ca,.slice (some ⟨b,o,none⟩) lb cb] from rfl,
  run_callFunc_extern Tryz.func211 (by kernel_rfl) (by kernel_rfl) (by kernel_rfl) (e:=Extern.SlicesOverlaps.overlaps #[90,90] #[4]) (by kernel_rfl),
  Lib.run_overlaps_apart w 90 4 114 (by kernel_rfl) 4 (fun w=>by kernel_rfl) ⟨a,0,none⟩ ⟨b,o,none⟩ la ca lb cb hne 114 t cs.size all.size (by simp [World.shape?,ha]) (by simp [World.shape?,hb]) h0 (by simp [World.frozen?,ha]) (by simp [World.frozen?,ha])]
 rfl
theorem Wa {w:World} {s:Sl} {l:List _} {a:Nat} {x:_} {i:Nat} (h:Bh NF w s l) (ha:w.heap[a]?=some (.cells (NF.c x).toArray 114 (0,0))) (hna:a ∉ Ai s) (hi:i≤l.length) (hN:l.length≤100000000) {K:TR [.sc .sl]→Pr} (k:∀ r w',Bh NF w' r (l.take i ++ x :: l.drop i)→(∀ y∈Ai r,y∈Ai s∨w.heap.size≤y)→Aa (Ai s) w w'→K (r,()) w'):Cl Pg 122 [.slice s.p s.len s.cap,.int .i64 (i:Int),.slice (some ⟨a,0,none⟩) 1 1] false [.sc .sl] K w:=
 Jz s (i:Int) ⟨some ⟨a,0,none⟩,1,1⟩ (Kc (ρ:=NF) Agk (by rw [Xy];rfl) AbF (by omega) hN h ha hna hi k)
structure Ev where
 Ah:Int
 dead:Bool
deriving DecidableEq
def evR:Rec Ev:=⟨[.i .u64,.b],fun x=>(x.Ah,x.dead,()),rfl,by simp⟩
theorem AdC:zc Pg 282=#[.int .u64 0,.bool false]:=by kernel_rfl
theorem Aej {w:World} {s:Sl} {l:List Ev} (h:A1 evR w s l) {i:Nat} {x:Ev} (hx:l[i]?=some x) {K:Int→Bool→Pr} (k:K x.Ah x.dead w) :
  Ix s (i:Int) 2 (fun a=>A2 .u64 (a.add 0) fun x0=>E7 (a.add 1) fun x1=>K x0 x1) w:=
 h.ld (K:=fun y=>K y.1 y.2.1) hx k
structure Mg where
 kind:Int
 src:Int
 dst:Int
 Ch:Int
 code:Int
 peer:Int
 VT:Int
 Au:Int
 Ah:Int
 low:Int
 CZ:Int
 Ao:Int
 move:Int
 attempt:Int
 n:Int
 flag:Bool
 FN:ByteArray
 G6:ByteArray
 so:Sl
 sr:Sl
 sw:Sl
 ops:List Op
 results:List Rs
 Ac:List Ow
def Yz:Rec Mg:=⟨[.i .i64,.i .i64,.i .i64,.i .i64,.i .i64,.i .i64,.i .u64,.i .u64,.i .u64,.i .u64,.i .u64,.i .u64,.i .u64,.i .u64,.i .u64,.b,.s,.s,.sl,.sl,.sl],fun x=>(x.kind,x.src,x.dst,x.Ch,x.code,x.peer,x.VT,x.Au,x.Ah,x.low,x.CZ,x.Ao,x.move,x.attempt,x.n,x.flag,x.FN,x.G6,x.so,x.sr,x.sw,()),rfl,by simp⟩
theorem AhR:zc Pg 47=#[.int .i64 0,.int .i64 0,.int .i64 0,.int .i64 0,.int .i64 0,.int .i64 0,.int .u64 0,.int .u64 0,.int .u64 0,.int .u64 0,.int .u64 0,.int .u64 0,.int .u64 0,.int .u64 0,.int .u64 0,.bool false,.string (BA []),.string (BA []),.slice none 0 0,.slice none 0 0,.slice none 0 0]:=by kernel_rfl
theorem AiJ {w:World} {s:Sl} {l:List Mg} (h:A1 Yz w s l) {i:Nat} {x:Mg} (hx:l[i]?=some x) {K:Int→Int→Int→Int→Int→Int→Int→Int→Int→Int→Int→Int→Int→Int→Int→Bool→ByteArray→ByteArray→Sl→Sl→Sl→Pr} (k:K x.kind x.src x.dst x.Ch x.code x.peer x.VT x.Au x.Ah x.low x.CZ x.Ao x.move x.attempt x.n x.flag x.FN x.G6 x.so x.sr x.sw w) :
  Ix s (i:Int) 21 (fun a=>A2 .i64 (a.add 0) fun x0=>A2 .i64 (a.add 1) fun x1=>A2 .i64 (a.add 2) fun x2=>A2 .i64 (a.add 3) fun x3=>A2 .i64 (a.add 4) fun x4=>A2 .i64 (a.add 5) fun x5=>A2 .u64 (a.add 6) fun x6=>A2 .u64 (a.add 7) fun x7=>A2 .u64 (a.add 8) fun x8=>A2 .u64 (a.add 9) fun x9=>A2 .u64 (a.add 10) fun x10=>A2 .u64 (a.add 11) fun x11=>A2 .u64 (a.add 12) fun x12=>A2 .u64 (a.add 13) fun x13=>A2 .u64 (a.add 14) fun x14=>E7 (a.add 15) fun x15=>BU (a.add 16) fun x16=>BU (a.add 17) fun x17=>DN (a.add 18) fun x18=>DN (a.add 19) fun x19=>DN (a.add 20) fun x20=>K x0 x1 x2 x3 x4 x5 x6 x7 x8 x9 x10 x11 x12 x13 x14 x15 x16 x17 x18 x19 x20) w:=
 h.ld (K:=fun y=>K y.1 y.2.1 y.2.2.1 y.2.2.2.1 y.2.2.2.2.1 y.2.2.2.2.2.1 y.2.2.2.2.2.2.1 y.2.2.2.2.2.2.2.1 y.2.2.2.2.2.2.2.2.1 y.2.2.2.2.2.2.2.2.2.1 y.2.2.2.2.2.2.2.2.2.2.1 y.2.2.2.2.2.2.2.2.2.2.2.1 y.2.2.2.2.2.2.2.2.2.2.2.2.1 y.2.2.2.2.2.2.2.2.2.2.2.2.2.1 y.2.2.2.2.2.2.2.2.2.2.2.2.2.2.1 y.2.2.2.2.2.2.2.2.2.2.2.2.2.2.2.1 y.2.2.2.2.2.2.2.2.2.2.2.2.2.2.2.2.1 y.2.2.2.2.2.2.2.2.2.2.2.2.2.2.2.2.2.1 y.2.2.2.2.2.2.2.2.2.2.2.2.2.2.2.2.2.2.1 y.2.2.2.2.2.2.2.2.2.2.2.2.2.2.2.2.2.2.2.1 y.2.2.2.2.2.2.2.2.2.2.2.2.2.2.2.2.2.2.2.2.1) hx k
def HL:Rec Int:=Rec.sca (.i .u64) rfl
theorem GL:zc Pg 32=#[.int .u64 0]:=by kernel_rfl
theorem WQ:∀ v∈(zc Pg 32).toList,v.oneCell'=true:=by rw [GL];simp [Value.oneCell']
theorem UM {w:World} {s:Sl} {l:List _} (h:A1 HL w s l) (hN:l.length≤100000000) {K:TR [.sc .sl]→Pr} (k:∀ r w',Bh HL w' r l→(∀ x∈Ai r,w.heap.size≤x)→Aa [] w w'→K (r,()) w'):Cl Pg 59 [.slice s.p s.len s.cap] false [.sc .sl] K w:=
 Jc s (M6 (ρ:=HL) (by rw [GL];rfl) (by omega) hN h k)
theorem Acs:Wc Pg 203 HL (Kd.enc ((.i .u64))):=fun h hp hN _ k=>Gd _ _ (C0 (ρ:=HL) (Ai6 (.i .u64) rfl) h hp hN k)
theorem NJ {w:World} {s:Sl} {l:List _} {f:Value} {p:_→Bool} (h:Bh HL w s l) (hp:Go.Sx.QX Pg f (Kd.enc ((.i .u64))) p (·∈Ai s) l w) (hN:l.length≤100000000) {K:TR [.sc .sl]→Pr} (k:∀ r w',Bh HL w' r (l.filter (fun x=>!p x))→(∀ x∈Ai r,x∈Ai s)→Aa (Ai s) w w'→K (r,()) w'):Cl Pg 113 [.slice s.p s.len s.cap,f] false [.sc .sl] K w:=
 Fw s f (NK (ρ:=HL) Acs (AfZ (.i .u64) rfl) (by rw [GL];rfl) WQ h hp hN k)
theorem AcY:Ac1 Pg 279 32 HL.n:=by
 intro w a b o la ca lb cb cs all t fr ha hb hne h0 K h;refine ⟨(false,()),w,?_,h⟩
 rw [show ([Value.slice (some ⟨a,0,none⟩) la ca,.slice (some ⟨b,o,none⟩) lb cb]:List Value).toArray=#[.slice (some ⟨a,0,none⟩) la ca,.slice (some ⟨b,o,none⟩) lb cb] from rfl,
  run_callFunc_extern Tryz.func279 (by kernel_rfl) (by kernel_rfl) (by kernel_rfl) (e:=Extern.SlicesOverlaps.overlaps #[35,35] #[4]) (by kernel_rfl),
  Lib.run_overlaps_apart w 35 4 32 (by kernel_rfl) 1 (fun w=>by kernel_rfl) ⟨a,0,none⟩ ⟨b,o,none⟩ la ca lb cb hne 32 t cs.size all.size (by simp [World.shape?,ha]) (by simp [World.shape?,hb]) h0 (by simp [World.frozen?,ha]) (by simp [World.frozen?,ha])]
 rfl
theorem SH {w:World} {s:Sl} {l:List _} {a:Nat} {x:_} {i:Nat} (h:Bh HL w s l) (ha:w.heap[a]?=some (.cells (HL.c x).toArray 32 (0,0))) (hna:a ∉ Ai s) (hi:i≤l.length) (hN:l.length≤100000000) {K:TR [.sc .sl]→Pr} (k:∀ r w',Bh HL w' r (l.take i ++ x :: l.drop i)→(∀ y∈Ai r,y∈Ai s∨w.heap.size≤y)→Aa (Ai s) w w'→K (r,()) w'):Cl Pg 217 [.slice s.p s.len s.cap,.int .i64 (i:Int),.slice (some ⟨a,0,none⟩) 1 1] false [.sc .sl] K w:=
 Ig s (i:Int) ⟨some ⟨a,0,none⟩,1,1⟩ (Kc (ρ:=HL) AcY (by rw [GL];rfl) WQ (by omega) hN h ha hna hi k)
open Go Go.Sx
def Da (lo hi:ByteArray):Bool:=!(decide (lo.size > 12) || decide (hi.size > 12) || (!(seq hi (BA [])) && !(slt lo hi)))
def AV (a b:ByteArray):ByteArray:=if seq a (BA []) || (!(seq b (BA [])) && slt b a) then b else a
def HZ (a b:ByteArray):ByteArray:=if !(slt a b) then a else b
def Q8 (a b:ByteArray):Bool:=!(seq a (BA [])) && (seq b (BA []) || slt a b)
def Bw (alo ahi blo bhi:ByteArray):Bool:=Da alo ahi && Da blo bhi && Da (HZ alo blo) (AV ahi bhi)
def CW (alo ahi blo bhi:ByteArray):Bool:=Da alo ahi && Da blo bhi && (slt alo blo || seq alo blo) && seq (AV ahi bhi) bhi
theorem seq_eq (a b:ByteArray):seq a b=decide (a=b):=by
 unfold seq;by_cases h:a=b
 ·subst h;simp
 ·rw [decide_eq_false h,beq_eq_false_iff_ne];intro e;rw [ByteArray.toList_eq,ByteArray.toList_eq] at e;exact h (ByteArray.ext (Array.toList_inj.1 e))
theorem Mz (a b:ByteArray):slt a b=decide (a.toList < b.toList):=Go.Proofs.bytesLess_eq _ _
theorem KF (a:ByteArray):slt a a=false:=by rw [Mz];simp [List.lt_irrefl]
theorem Ct {a b:ByteArray} (h:slt a b=true):slt b a=false:=by
 rw [Mz,decide_eq_true_iff] at h;rw [Mz,decide_eq_false_iff_not];exact List.lt_asymm h
theorem Ek {a b:ByteArray} (h:slt a b=false) (h2:slt b a=false):a=b:=by
 rw [Mz,decide_eq_false_iff_not] at h h2;have:=List.le_antisymm (List.not_lt.1 h2) (List.not_lt.1 h);rw [ByteArray.toList_eq,ByteArray.toList_eq] at this;exact ByteArray.ext (Array.toList_inj.1 this)
theorem Acu (a b:ByteArray):HZ a b=HZ b a:=by
 unfold HZ;cases h:slt a b <;> cases h2:slt b a
 ·simpa using Ek h h2
 ·rfl
 ·rfl
 ·rw [Ct h] at h2;cases h2
theorem Z4 (a b:ByteArray):AV a b=AV b a:=by
 unfold AV;rw [seq_eq,seq_eq];by_cases ha:a=BA [] <;> by_cases hb:b=BA []
 ·rw [ha,hb]
 ·simp [ha,hb]
 ·simp [ha,hb]
 ·simp only [ha,hb,decide_false,Bool.false_or,Bool.not_false,Bool.true_and];cases h:slt a b <;> cases h2:slt b a
  ·simpa using Ek h h2
  ·rfl
  ·rfl
  ·rw [Ct h] at h2;cases h2
theorem Mp (a b c d:ByteArray):Bw a b c d=Bw c d a b:=by
 unfold Bw;rw [Acu a c,Z4 b d,Bool.and_comm (Da a b)]
theorem XO (a b:ByteArray):AV a b=if Q8 b a then b else a:=by
 unfold AV Q8;rw [seq_eq,seq_eq];by_cases ha:a=BA [] <;> by_cases hb:b=BA []
 ·rw [ha,hb];simp
 ·simp [ha,hb]
 ·simp [ha,hb]
 ·simp [ha,hb]
theorem AbX (a b:ByteArray):HZ a b=a∨HZ a b=b:=by unfold HZ;split <;> simp
theorem W2 (a b:ByteArray):AV a b=a∨AV a b=b:=by unfold AV;split <;> simp
theorem QW {a b:ByteArray} (h:Da a b=true):a.size≤12∧b.size≤12:=by
 unfold Da at h;simp at h;omega
theorem AcU (a b c d:ByteArray):Bw a b c d=(Da a b && Da c d && !(!(seq (AV b d) (BA [])) && !(slt (HZ a c) (AV b d)))):=by
 unfold Bw;cases h:Da a b <;> cases h2:Da c d
 ·rfl
 ·rfl
 ·rfl
 ·simp only [Bool.true_and];obtain ⟨h3,h4⟩:=QW h;obtain ⟨h5,h6⟩:=QW h2;unfold Da;rw [decide_eq_false (p:=(HZ a c).size > 12),decide_eq_false (p:=(AV b d).size > 12)]
  ·simp
  ·rcases W2 b d with e | e <;> rw [e] <;> omega
  ·rcases AbX a c with e | e <;> rw [e] <;> omega
theorem TQ (a b:ByteArray) (w:World):Cl Pg 103 [.string a,.string b] false [.sc .s] (fun r w'=>r.1=AV a b∧w=w') w:=by
 refine AR fun R hR=>?_;apply S3;have hR':R (AV a b,()) w:=hR _ _ ⟨rfl,rfl⟩;unfold TT;unfold AV at hR';simp only [Jp];cases h1:seq a (BA []) <;> cases h2:seq b (BA []) <;> cases h3:slt b a <;> simp only [Br,Bool.not_true,Bool.not_false] <;> simpa [h1,h2,h3] using hR'
theorem AeO (a b:ByteArray) (w:World):Cl Pg 92 [.string a,.string b] false [.sc .b] (fun r w'=>r.1=Q8 a b∧w=w') w:=by
 refine AR fun R hR=>?_;apply JY;have hR':R (Q8 a b,()) w:=hR _ _ ⟨rfl,rfl⟩;unfold H5;unfold Q8 at hR';cases h1:seq a (BA []) <;> cases h2:seq b (BA []) <;> cases h3:slt a b <;> simp only [Br,Bool.not_true,Bool.not_false] <;> simpa [h1,h2,h3] using hR'
theorem AiT (w:World):Cl Pg 94 [] false [.ag [.s,.s]] (fun r w'=>r.1.1=BA []∧r.1.2.1=BA []∧Aa [] w w') w:=by
 refine AR fun R hR=>?_;apply Wb;unfold ZJ;dsimp only [Ls,Vt];refine Ad fun b w1 hb hn k1=>?_;simp only [Cr];refine Ax hb 0 _ rfl (by simp) fun w2 hb2 k2=>?_;refine Ax hb2 1 _ rfl (by simp) fun w3 hb3 k3=>?_;have hb4:w3.heap[b]?=some (.cells #[.string (BA []),.string (BA [])] 37 (0,0)):=hb3;simp only [CP,hb4,Ck,Nat.reduceAdd];exact hR ((BA [],BA [],()),()) _ ⟨rfl,rfl,Ky (Ky k1 k2 (by simpa using hn)) k3 (by simpa using hn)⟩
theorem WO (n:Nat):decide (((n:Nat):Int) > 12)=decide (n > 12):=decide_eq_decide.2 (by omega)
theorem Qu (lo hi:ByteArray) (w:World):Cl Pg 91 [.agg #[.string lo,.string hi]] false [.sc (.i .i64)] (fun r w'=>r.1=(if Da lo hi then 0 else 21)∧Aa [] w w') w:=by
 refine AR fun R hR=>?_;apply Jt;unfold Hy;dsimp only [Ls,Vt];refine Ad fun b w1 hb hn k1=>?_;have hR':R (if Da lo hi then 0 else 21,()) w1:=hR _ _ ⟨rfl,k1⟩;unfold Da at hR';simp only [Jp,CP,hb,Ck,Nat.reduceAdd,WO];cases h1:decide (lo.size > 12) <;> cases h2:decide (hi.size > 12) <;> cases h3:seq hi (BA []) <;> cases h4:slt lo hi <;> rw [h1,h2,h3,h4] at hR' <;> simp only [CP,hb,Ck,Nat.reduceAdd,WO,h1,h2,h3,h4,Bool.not_true,Bool.not_false] <;> exact hR'
theorem Hv (lo hi:ByteArray) (w:World):Cl Pg 45 [.agg #[.string lo,.string hi]] false [.sc (.i .i64)] (fun r w'=>r.1=(if Da lo hi then 0 else 21)∧Aa [] w w') w:=by
 refine AR fun R hR=>?_;apply SD;unfold TF;dsimp only [Ls,Vt];refine Ad fun b w1 hb hn k1=>?_;simp only [CP,hb,Ck,Nat.reduceAdd];refine Cl.mono (AiT _) ?_;rintro ⟨⟨ra,rb,_⟩,_⟩ w2 ⟨e1,e2,k2⟩;dsimp only at e1 e2;subst e1 e2;have hb2:w2.heap[b]?=_:=k2.at (show w1.drew.heap[b]?=_ from hb) (by simp);have k02:Aa [] w w2:=Aj k1.drew k2;simp only [CP,hb2,Ck,Nat.reduceAdd];refine ⟨by trivial,?_⟩;have hR':R (if Da lo hi then 0 else 21,()) w2:=hR _ _ ⟨rfl,k02⟩;rw [Bool.and_true];cases h0:seq lo (BA []) && seq hi (BA []) with
 | true=>
  rw [Bool.and_eq_true,seq_eq,seq_eq,decide_eq_true_iff,decide_eq_true_iff] at h0;obtain ⟨rfl,rfl⟩:=h0;simp only [Br];simpa [Da,BA,ByteArray.size,seq_eq] using hR'
 | false=>
  unfold Da at hR';simp only [Jp,CP,hb2,Ck,Nat.reduceAdd,WO];cases h1:decide (lo.size > 12) <;> cases h2:decide (hi.size > 12) <;> cases h3:seq hi (BA []) <;> cases h4:slt lo hi <;> rw [h1,h2,h3,h4] at hR' <;> simp only [CP,hb2,Ck,Nat.reduceAdd,WO,h1,h2,h3,h4,Bool.not_true,Bool.not_false] <;> exact hR'
theorem ok0 (c:Bool):((if c then (0:Int) else 21) == 0)=c:=by cases c <;> rfl
theorem ok1 (c:Bool):((if c then (0:Int) else 21) != 0)=!c:=by cases c <;> rfl
def mLo (a b c d:ByteArray):ByteArray:=if Bw a b c d then HZ a c else BA []
def mHi (a b c d:ByteArray):ByteArray:=if Bw a b c d then AV b d else BA []
theorem WV (a b c d:ByteArray) (w:World):Cl Pg 105 [.agg #[.string a,.string b],.agg #[.string c,.string d]] true [.ag [.s,.s],.sc .b] (fun r w'=>r=((mLo a b c d,mHi a b c d,()),Bw a b c d,())∧Aa [] w w') w:=by
 refine AR fun R hR=>?_;apply TE;unfold WH;dsimp only [Ls,Tt,Vt];refine Ad fun a1 w1 h1 n1 k1=>?_;refine Ad fun a2 w2 h2 n2 k2=>?_;have h1:=k2.at h1 (by simp);refine Ad fun a3 w3 h3 n3 k3=>?_;have h1:=k3.at h1 (by simp);have h2:=k3.at h2 (by simp);have k03:=Aj (Aj k1 k2) k3;have n3':w.heap.size≤a3:=by have:=k1.size;have:=k2.size;omega
 clear k1 k2 k3;refine AG (fun s w'=>∃ x,s=(some ⟨x,0,none⟩,())∧w'.heap[x]?=some (.cells #[.string (HZ a c),.string (AV b d)] 37 (0,0))∧Aa [] w3 w') (fun J hJ=>?_) ?_
 ·simp only [CP,h1,h2,Ck,Nat.reduceAdd];refine ⟨?_,?_⟩
  ·refine Cl.mono (TQ _ _ _) ?_;rintro ⟨r,_⟩ _ ⟨e,rfl⟩;dsimp only at e;subst e;simp only [CP,h1,h2,Ck,Nat.reduceAdd];refine ⟨by trivial,by trivial,?_⟩;refine Ad fun x w4 h4 n4 k4=>?_;have h1:=k4.at (w:=w3.drew) h1 (by simp);have h2:=k4.at (w:=w3.drew) h2 (by simp);simp only [CP,h1,h2,Ck,Nat.reduceAdd];refine ⟨by trivial,by trivial,by trivial,by trivial,?_⟩;refine Ax h4 0 _ rfl (by simp) fun w5 h5 k5=>?_;refine Ax h5 1 _ rfl (by simp) fun w6 h6 k6=>?_;exact hJ _ _ ⟨x,rfl,h6,Ky (Ky (Aj (Aa.refl [] w3).drew k4) k5 (by simpa using n4)) k6 (by simpa using n4)⟩
  ·refine Ad fun x w4 h4 n4 k4=>?_;have h1:=k4.at (w:=w3.drew) h1 (by simp);have h2:=k4.at (w:=w3.drew) h2 (by simp);simp only [CP,h1,h2,Ck,Nat.reduceAdd];refine ⟨by trivial,by trivial,by trivial,by trivial,?_⟩;refine Cl.mono (TQ _ _ _) ?_;rintro ⟨r,_⟩ _ ⟨e,rfl⟩;dsimp only at e;subst e;simp only [CP,h1,h2,Ck,Nat.reduceAdd];refine ⟨by trivial,by trivial,?_⟩;refine Ax h4 0 _ rfl (by simp) fun w5 h5 k5=>?_;refine Ax h5 1 _ rfl (by simp) fun w6 h6 k6=>?_;exact hJ _ _ ⟨x,rfl,h6,Ky (Ky (Aj (Aa.refl [] w3).drew k4) k5 (by simpa using n4)) k6 (by simpa using n4)⟩
 ·rintro _ w4 ⟨x,rfl,h4,k4⟩;have h1:=k4.at h1 (by simp);have h2:=k4.at h2 (by simp);have h3:=k4.at h3 (by simp);have k04:=Aj k03 k4;refine AG (fun s w'=>s=(!(Bw a b c d),())∧Aa [] w4 w') (fun J hJ=>?_) ?_
  ·simp only [CP,h1,Ck,Nat.reduceAdd];refine Cl.mono (Hv _ _ _) ?_;rintro ⟨r,_⟩ w5 ⟨e,k5⟩;dsimp only at e;subst e;simp only [ok1];unfold Bw at hJ;cases c1:Da a b with
   | false=>exact hJ _ _ ⟨by rw [c1];rfl,k5⟩
   | true=>
   have h2:=k5.at h2 (by simp);have h4:=k5.at h4 (by simp);simp only [CP,h2,Ck,Nat.reduceAdd,Bool.not_true];refine Cl.mono (Hv _ _ _) ?_;rintro ⟨r,_⟩ w6 ⟨e,k6⟩;dsimp only at e;subst e;simp only [ok1];cases c2:Da c d with
   | false=>exact hJ _ _ ⟨by rw [c1,c2];rfl,Aj k5 k6⟩
   | true=>
   have h4:=k6.at h4 (by simp);simp only [CP,h4,Ck,Nat.reduceAdd,Bool.not_true];refine Cl.mono (Hv _ _ _) ?_;rintro ⟨r,_⟩ w7 ⟨e,k7⟩;dsimp only at e;subst e;simp only [ok1];exact hJ _ _ ⟨by rw [c1,c2];rfl,Aj (Aj k5 k6) k7⟩
  ·rintro _ w5 ⟨rfl,k5⟩;have h3:=k5.at h3 (by simp);have h4:=k5.at h4 (by simp);have k05:=Aj k04 k5;cases cm:Bw a b c d with
   | false=>
    simp only [CP,Bool.not_false,Nat.reduceAdd];refine Ax h3 0 _ rfl (by simp) fun w6 h6 k6=>?_;refine Ax h6 1 _ rfl (by simp) fun w7 h7 k7=>?_;have h7':w7.heap[a3]?=some (.cells #[.string (BA []),.string (BA [])] 37 (0,0)):=h7;simp only [CP,h7',Ck,Nat.reduceAdd];exact hR _ _ ⟨by unfold mLo mHi;rw [cm];rfl,Ky (Ky k05 k6 (by simpa using n3')) k7 (by simpa using n3')⟩
   | true=>
    simp only [CP,Bool.not_true,Nat.reduceAdd,h4,Ck];refine Ax h3 0 _ rfl (by simp) fun w6 h6 k6=>?_;refine Ax h6 1 _ rfl (by simp) fun w7 h7 k7=>?_;have h7':w7.heap[a3]?=some (.cells #[.string (HZ a c),.string (AV b d)] 37 (0,0)):=h7;simp only [CP,h7',Ck,Nat.reduceAdd];exact hR _ _ ⟨by unfold mLo mHi;rw [cm];rfl,Ky (Ky k05 k6 (by simpa using n3')) k7 (by simpa using n3')⟩
theorem Ag7 (a b c d:ByteArray) (w:World):Cl Pg 105 [.agg #[.string a,.string b],.agg #[.string c,.string d]] true [.ag [.s,.s],.sc .b] (fun r w'=>r.2.1=Bw a b c d∧Aa [] w w') w:=
 Cl.mono (WV a b c d w) (by rintro r w' ⟨rfl,k⟩;exact ⟨rfl,k⟩)
theorem Wz (a b c d:ByteArray) (w:World):Cl Pg 65 [.agg #[.string a,.string b],.agg #[.string c,.string d]] false [.sc .b] (fun r w'=>r.1=CW a b c d∧Aa [] w w') w:=by
 refine AR fun R hR=>?_;apply Qz;unfold Rv;dsimp only [Ls,Vt];refine Ad fun a1 w1 h1 n1 k1=>?_;refine Ad fun a2 w2 h2 n2 k2=>?_;have h1:=k2.at h1 (by simp);have k02:=(Aj k1 k2).drew;unfold CW at hR;simp only [CP,h1,Ck,Nat.reduceAdd];refine Cl.mono (Hv _ _ _) ?_;rintro ⟨r,_⟩ w5 ⟨e,k5⟩;dsimp only at e;subst e;simp only [ok0];cases c1:Da a b with
 | false=>exact hR _ _ ⟨by rw [c1];rfl,Aj k02 k5⟩
 | true=>
 have h1:=k5.at (w:=w2.drew) h1 (by simp);have h2:=k5.at (w:=w2.drew) h2 (by simp);simp only [CP,h2,Ck,Nat.reduceAdd];refine Cl.mono (Hv _ _ _) ?_;rintro ⟨r,_⟩ w6 ⟨e,k6⟩;dsimp only at e;subst e;simp only [ok0];have k06:=Aj (Aj k02 k5) k6;cases c2:Da c d with
 | false=>exact hR _ _ ⟨by rw [c1,c2];rfl,k06⟩
 | true=>
 have h1:=k6.at h1 (by simp);have h2:=k6.at h2 (by simp);simp only [CP,h1,h2,Ck,Nat.reduceAdd];cases c3:slt a c || seq a c with
 | false=>exact hR _ _ ⟨by rw [c1,c2,c3];rfl,k06⟩
 | true=>
 simp only [CP,h1,h2,Ck,Nat.reduceAdd];refine Cl.mono (TQ _ _ _) ?_;rintro ⟨r,_⟩ _ ⟨e,rfl⟩;dsimp only at e;subst e;simp only [CP,h1,h2,Ck,Nat.reduceAdd];refine ⟨by trivial,?_⟩;exact hR _ _ ⟨by rw [c1,c2,c3];rfl,k06⟩
theorem AdF (a b c d:ByteArray) (w:World):Cl Pg 41 [.agg #[.string a,.string b],.agg #[.string c,.string d]] true [.ag [.s,.s],.sc .b] (fun r w'=>r.2.1=Bw a b c d∧Aa [] w w') w:=by
 refine AR fun R hR=>?_;apply K0;unfold Ir;dsimp only [Ls,Tt,Vt];refine Ad fun a1 w1 h1 n1 k1=>?_;refine Ad fun a2 w2 h2 n2 k2=>?_;have h1:=k2.at h1 (by simp);refine Ad fun a3 w3 h3 n3 k3=>?_;have h1:=k3.at h1 (by simp);have h2:=k3.at h2 (by simp);have k03:=Aj (Aj k1 k2) k3;have n3:w.heap.size≤a3:=by have:=k1.size;have:=k2.size;omega
 clear k1 k2 k3;rw [AcU] at hR;refine AG (fun s w'=>s=(!(Da a b && Da c d),())∧Aa [] w3 w') (fun J hJ=>?_) ?_
 ·simp only [CP,h1,Ck,Nat.reduceAdd];refine Cl.mono (Qu _ _ _) ?_;rintro ⟨r,_⟩ w5 ⟨e,k5⟩;dsimp only at e;subst e;simp only [ok1];cases c1:Da a b with
  | false=>exact hJ _ _ ⟨by rw [c1];rfl,k5⟩
  | true=>
  have h2:=k5.at h2 (by simp);simp only [CP,h2,Ck,Nat.reduceAdd,Bool.not_true];refine Cl.mono (Qu _ _ _) ?_;rintro ⟨r,_⟩ w6 ⟨e,k6⟩;dsimp only at e;subst e;simp only [ok1];exact hJ _ _ ⟨by rw [c1];rfl,Aj k5 k6⟩
 rintro _ w4 ⟨rfl,k4⟩;have h1:=k4.at h1 (by simp);have h2:=k4.at h2 (by simp);have h3:=k4.at h3 (by simp);have k04:=Aj k03 k4;cases c0:Da a b && Da c d with
 | false=>
  simp only [CP,Bool.not_false,Nat.reduceAdd];refine Ax h3 0 _ rfl (by simp) fun w6 h6 k6=>?_;refine Ax h6 1 _ rfl (by simp) fun w7 h7 k7=>?_;have h7':w7.heap[a3]?=some (.cells #[.string (BA []),.string (BA [])] 37 (0,0)):=h7;simp only [CP,h7',Ck,Nat.reduceAdd];exact hR _ _ ⟨by rw [c0];rfl,Ky (Ky k04 k6 (by simpa using n3)) k7 (by simpa using n3)⟩
 | true=>
  simp only [CP,Bool.not_true,Nat.reduceAdd,h1,h2,Ck];have l1:=Av h1;have l2:=Av h2;have l3:=Av h3;refine Ad fun x w5 h5 n5 k5=>?_;have k05:=Aj k04 k5;have h1:=k5.at h1 (by simp);have h2:=k5.at h2 (by simp);have h3:=k5.at h3 (by simp);have n5':w.heap.size≤x:=by have:=k04.size;omega
  have x1:a1 ∉ [x]:=by simp;omega
  have x2:a2 ∉ [x]:=by simp;omega
  have x3:a3 ∉ [x]:=by simp;omega
  have x4:x ∉ [a3]:=by simp;omega
  simp only [Cr,Nat.reduceAdd];refine Ax h5 0 _ rfl (by simp) fun w6 h6 k6=>?_;refine Ax h6 1 _ rfl (by simp) fun w7 h7 k7=>?_;have h7:w7.heap[x]?=some (.cells #[.string (HZ a c),.string b] 37 (0,0)):=h7;have k07:=Ky (Ky k05 k6 (by simpa using n5')) k7 (by simpa using n5');have h1:=k7.at (k6.at h1 x1) x1;have h2:=k7.at (k6.at h2 x2) x2;have h3:=k7.at (k6.at h3 x3) x3;refine AG (fun s w'=>w'.heap[x]?=some (.cells #[.string (HZ a c),.string (AV b d)] 37 (0,0))∧Aa [x] w7 w') (fun J hJ=>?_) ?_
  ·simp only [CP,h1,h2,Ck,Nat.reduceAdd];refine Cl.mono (AeO _ _ _) ?_;rintro ⟨r,_⟩ _ ⟨e,rfl⟩;dsimp only at e;subst e;rw [XO] at hJ;cases cb:Q8 d b with
   | false=>
    rw [cb] at hJ;exact hJ _ _ ⟨h7,Aa.refl _ _⟩
   | true=>
    rw [cb] at hJ;simp only [CP,h2,Ck,Nat.reduceAdd];refine Ax h7 1 _ rfl (by simp) fun w8 h8 k8=>?_;exact hJ _ _ ⟨h8,k8⟩
  rintro _ w8 ⟨h8,k8⟩;have h3:=k8.at h3 x3;have k08:=Ky k07 k8 (by simpa using n5');refine AG (fun s w'=>s=(!(seq (AV b d) (BA [])) && !(slt (HZ a c) (AV b d)),())∧w8=w') (fun J hJ=>?_) ?_
  ·simp only [CP,h8,Ck,Nat.reduceAdd];cases cs:seq (AV b d) (BA []) with
   | true=>exact hJ _ _ ⟨by rw [cs];rfl,rfl⟩
   | false=>
    simp only [CP,h8,Ck,Nat.reduceAdd,Bool.not_false];exact hJ _ _ ⟨by rw [cs];rfl,rfl⟩
  rintro _ _ ⟨rfl,rfl⟩;cases cm:!(seq (AV b d) (BA [])) && !(slt (HZ a c) (AV b d)) with
  | true=>
   simp only [CP,Nat.reduceAdd];refine Ax h3 0 _ rfl (by simp) fun w9 h9 k9=>?_;refine Ax h9 1 _ rfl (by simp) fun w10 h10 k10=>?_;have h10':w10.heap[a3]?=some (.cells #[.string (BA []),.string (BA [])] 37 (0,0)):=h10;simp only [CP,h10',Ck,Nat.reduceAdd];exact hR _ _ ⟨by rw [c0,cm];rfl,Ky (Ky k08 k9 (by simpa using n3)) k10 (by simpa using n3)⟩
  | false=>
   simp only [CP,Nat.reduceAdd,h8,Ck];refine Ax h3 0 _ rfl (by simp) fun w9 h9 k9=>?_;refine Ax h9 1 _ rfl (by simp) fun w10 h10 k10=>?_;have h10':w10.heap[a3]?=some (.cells #[.string (HZ a c),.string (AV b d)] 37 (0,0)):=h10;simp only [CP,h10',Ck,Nat.reduceAdd];exact hR _ _ ⟨by rw [c0,cm];rfl,Ky (Ky k08 k9 (by simpa using n3)) k10 (by simpa using n3)⟩
theorem M1 (lo hi:ByteArray) {w:World} {K:TR [.sc (.i .i64)]→Pr} (k:∀ w',Aa [] w w'→K (if Da lo hi then 0 else 21,()) w'):Cl Pg 45 [.agg #[.string lo,.string hi]] false [.sc (.i .i64)] K w:=
 Cl.mono (Hv lo hi w) (by rintro ⟨r,_⟩ w' ⟨e,kk⟩;dsimp only at e;subst e;exact k w' kk)
theorem Vr (a b c d:ByteArray) {w:World} {K:TR [.ag [.s,.s],.sc .b]→Pr} (k:∀ w',Aa [] w w'→K ((mLo a b c d,mHi a b c d,()),Bw a b c d,()) w'):Cl Pg 105 [.agg #[.string a,.string b],.agg #[.string c,.string d]] true [.ag [.s,.s],.sc .b] K w:=
 Cl.mono (WV a b c d w) (by rintro r w' ⟨rfl,kk⟩;exact k w' kk)
theorem Z1 (a b c d:ByteArray) {w:World} {K:TR [.sc .b]→Pr} (k:∀ w',Aa [] w w'→K (CW a b c d,()) w'):Cl Pg 65 [.agg #[.string a,.string b],.agg #[.string c,.string d]] false [.sc .b] K w:=
 Cl.mono (Wz a b c d w) (by rintro ⟨r,_⟩ w' ⟨e,kk⟩;dsimp only at e;subst e;exact k w' kk)
theorem AfK (a b c d:ByteArray) {w:World} {K:TR [.ag [.s,.s],.sc .b]→Pr} (k:∀ r w',Aa [] w w'→K (r,Bw a b c d,()) w'):Cl Pg 41 [.agg #[.string a,.string b],.agg #[.string c,.string d]] true [.ag [.s,.s],.sc .b] K w:=
 Cl.mono (AdF a b c d w) (by rintro ⟨r,q,_⟩ w' ⟨e,kk⟩;dsimp only at e;subst e;exact k r w' kk)
theorem WA (lo hi:ByteArray) {w:World} {K:TR [.sc (.i .i64)]→Pr} (k:∀ w',Aa [] w w'→K (if Da lo hi then 0 else 21,()) w'):Cl Pg 91 [.agg #[.string lo,.string hi]] false [.sc (.i .i64)] K w:=
 Cl.mono (Qu lo hi w) (by rintro ⟨r,_⟩ w' ⟨e,kk⟩;dsimp only at e;subst e;exact k w' kk)
def Kx (k:ByteArray):Bool:=!(seq k (BA []) || decide (k.size > 12))
theorem Hb (key:ByteArray) {w:World} {K:TR [.sc (.i .i64)]→Pr} (k:K (if Kx key then 0 else 20,()) w):Cl Pg 93 [.string key] false [.sc (.i .i64)] K w:=by
 apply Ov;unfold Of;unfold Kx at k;simp only [Jp,WO];cases h1:seq key (BA []) <;> cases h2:decide (key.size > 12) <;> rw [h1,h2] at k <;> exact k
theorem Ih (key:ByteArray) {w:World} {K:TR [.sc (.i .i64)]→Pr} (k:K (if Kx key then 0 else 20,()) w):Cl Pg 35 [.string key] false [.sc (.i .i64)] K w:=by
 apply GR;unfold Fb;unfold Kx at k;have h0:decide (((key.size:Nat):Int) < 1)=seq key (BA []):=by
  rw [seq_eq];refine decide_eq_decide.2 ⟨fun h=>?_,fun h=>by rw [h];decide⟩;exact ByteArray.ext (Array.eq_empty_of_size_eq_zero (by have:key.data.size=key.size:=rfl;omega))
 simp only [Jp,WO]
 first
  | (rw [h0];cases h1:seq key (BA []) <;> cases h2:decide (key.size > 12) <;> rw [h1,h2] at k <;> exact k)
  | (cases h1:seq key (BA []) <;> cases h2:decide (key.size > 12) <;> rw [h1,h2] at k <;> exact k)
theorem Pc {k:ByteArray} (h:Kx k=true):0 < k.size∧k.size≤12:=by
 unfold Kx at h;rw [seq_eq] at h;simp at h;refine ⟨Nat.pos_of_ne_zero fun h0=>h.1 ?_,h.2⟩;exact ByteArray.ext (Array.eq_empty_of_size_eq_zero (by have:k.data.size=k.size:=rfl;omega))
open Go Go.Sx
structure Ak where
 n:Int
 lo:ByteArray
 hi:ByteArray
 wr:Bool
deriving DecidableEq
instance:Inhabited Ak:=⟨⟨0,BA [],BA [],false⟩⟩
def akR:Rec Ak:=⟨[.i .u64,.s,.s,.b],fun x=>(x.n,x.lo,x.hi,x.wr,()),rfl,by simp⟩
abbrev As (w:World) (s:Sl) (l:List Ak):Prop:=Bh akR w s l
def vA (x:Ak):Value:=.agg #[.int .u64 x.n,.string x.lo,.string x.hi,.bool x.wr]
theorem UH {w:World} {s:Sl} {l:List Ak} (h:As w s l):s.len=l.length:=h.BY
theorem AdA {w:World} {s:Sl} {l:List Ak} (h:As w s l) {i:Nat} {x:Ak} (hx:l[i]?=some x) {K:Int→ByteArray→ByteArray→Bool→Pr} (k:K x.n x.lo x.hi x.wr w) :
  Ix s (i:Int) 4 (fun a=>A2 .u64 (a.add 0) fun x1=>BU (a.add 1) fun x2=>BU (a.add 2) fun x3=>E7 (a.add 3) fun x4=>K x1 x2 x3 x4) w:=
 h.C6.ld (K:=fun y=>K y.1 y.2.1 y.2.2.1 y.2.2.2.1) hx k
theorem bx4 {n:Int} {lo hi:ByteArray} {wr:Bool} {K:Addr→Pr} {w:World} (h:∀ b w1,w1.heap[b]?=some (.cells #[.int .u64 n,.string lo,.string hi,.bool wr] 146 (0,0))→w.heap.size≤b→Aa [] w w1→K ⟨b,0,none⟩ w1) :
  At #[(.int .u64 0),(.string (BA [])),(.string (BA [])),(.bool false)] 146 (fun a=>St (a.add 0) (.int .u64 n) <| St (a.add 1) (.string lo) <| St (a.add 2) (.string hi) <| St (a.add 3) (.bool wr) (K a)) w:=
 Ei (vs:=[.int .u64 n,.string lo,.string hi,.bool wr]) rfl (by simp [Value.oneCell']) h
def B8 (x y:Ak):Bool:=Bw x.lo x.hi y.lo y.hi && (x.n != y.n && (x.wr || y.wr))
theorem AcZ (x y:Ak):B8 x y=B8 y x:=by
 unfold B8;rw [Mp,Bool.or_comm x.wr y.wr];have:(x.n != y.n)=(y.n != x.n):=bne_comm;rw [this]
def QX (f:Value) (p:Ak→Bool) (m:List Nat) (w:World):Prop:=∀ w',Aa m w w'→∀ x,AB Pg f [vA x] false [.sc .b] (fun r w''=>r.1=p x∧Aa [] w' w'') w'
theorem QX.to {f:Value} {p:Ak→Bool} {m:List Nat} {w w1:World} (h:QX f p m w) (hk:Aa m w w1):QX f p m w1:=fun w' k x=>h w' (hk.trans k (fun _ hx=>.inl hx)) x
theorem QX.gen {f:Value} {p:Ak→Bool} {m:List Nat} {l:List Ak} {w:World} (h:QX f p m w):Go.Sx.QX Pg f akR.v p (·∈m) l w:=by
 intro w' k x _ K hK;obtain ⟨m',h1,h2⟩:∃ m',Aa m' w w'∧∀ x∈m',x∈m:=by
  refine ⟨m,⟨k.os,k.tape,k.output,k.size,fun i hi hn=>k.get i hi hn⟩,fun _ h=>h⟩
 refine AB.mono (h w' (h1.mono fun y hy=>.inl (h2 y hy)) x) ?_;rintro ⟨r,_⟩ w2 ⟨e,k2⟩;dsimp only at e;subst e;exact hK w2 k2
theorem AeI (n:Int) (w:World):Cl Pg 64 [.int .u64 n] false [.sc .v] (fun r w'=>∃ e,w.heap.size≤e∧(∀ m,e ∉ m→QX r.1 (fun x=>x.n == n) m w')∧Aa [] w w') w:=by
 refine AR fun R hR=>?_;apply VM;unfold Zo;dsimp only [Vp,Vu];refine Ad fun e w1 h1 n1 k1=>?_;refine hR _ _ ⟨e,n1,fun m hm w2 k2 x=>?_,k1⟩;have h1:=k2.at h1 hm;refine BJ (by kernel_rfl) ?_;refine AR fun R' hR'=>?_;apply SQ;unfold UQ;dsimp only [Cg,Lu];refine Ad fun b w3 h3 n3 k3=>?_;have h1:=k3.at h1 (by simp);simp only [CP,h3,h1,Ck,Nat.reduceAdd];exact hR' _ _ ⟨rfl,k3⟩
theorem O4 (x:Ak) (w:World):Cl Pg 66 [vA x] false [.sc .v] (fun r w'=>∃ e,w.heap.size≤e∧(∀ m,e ∉ m→QX r.1 (fun y=>B8 x y) m w')∧Aa [] w w') w:=by
 refine AR fun R hR=>?_;apply OR;unfold NU;dsimp only [Cg,Vp];refine Ad fun e w1 h1 n1 k1=>?_;refine hR _ _ ⟨e,n1,fun m hm w2 k2 y=>?_,k1⟩;have h1:=k2.at h1 hm;refine BJ (by kernel_rfl) ?_;refine AR fun R' hR'=>?_;apply MU;unfold LG;dsimp only [Cg,Lb,Lu,Tt,Vt];refine Ad fun b w3 h3 n3 k3=>?_;have h1:=k3.at h1 (by simp);simp only [CP,h3,h1,Ck,Nat.reduceAdd];refine Cl.mono (Ag7 _ _ _ _ _) ?_;rintro ⟨s,r,_⟩ w4 ⟨e4,k4⟩;dsimp only at e4;subst e4;have h1:=k4.at h1 (by simp);have h3:=k4.at h3 (by simp);have l1:=Av h1;have l3:=Av h3;refine Ad fun c w5 h5 n5 k5=>?_;have h1:=k5.at h1 (by simp);have h3:=k5.at h3 (by simp);have n5':w2.heap.size≤c:=by have:=k3.size;have:=k4.size;omega
 simp only [Cr,Nat.reduceAdd];refine Ax h5 0 _ rfl (by simp) fun w6 h6 k6=>?_;refine Ax h6 1 _ rfl (by simp) fun w7 h7 k7=>?_;have x1:e ∉ [c]:=by simp;omega
 have x3:b ∉ [c]:=by simp;omega
 have h1:=k7.at (k6.at h1 x1) x1;have h3:=k7.at (k6.at h3 x3) x3;have k27:=Ky (Ky (Aj (Aj k3 k4) k5) k6 (by simpa using n5')) k7 (by simpa using n5');cases c1:Bw x.lo x.hi y.lo y.hi with
 | false=>exact hR' _ _ ⟨by show _=B8 x y;unfold B8;rw [c1];rfl,k27⟩
 | true=>
 simp only [CP,h3,h1,Ck,Nat.reduceAdd];cases c2:x.n != y.n with
 | false=>exact hR' _ _ ⟨by show _=B8 x y;unfold B8;rw [c1,c2];rfl,k27⟩
 | true=>
 simp only [CP,h3,h1,Ck,Nat.reduceAdd];cases c3:x.wr with
 | true=>exact hR' _ _ ⟨by show _=B8 x y;unfold B8;rw [c1,c2,c3];rfl,k27⟩
 | false=>
 simp only [CP,h3,h1,Ck,Nat.reduceAdd];exact hR' _ _ ⟨by show _=B8 x y;unfold B8;rw [c1,c2,c3];rfl,k27⟩
theorem zcA:zc Pg 146=#[.int .u64 0,.string (BA []),.string (BA []),.bool false]:=by kernel_rfl
theorem AiA:∀ v∈(zc Pg 146).toList,v.oneCell'=true:=by rw [zcA];simp [Value.oneCell']
theorem Akc:zc Pg 32=#[.int .u64 0]:=by kernel_rfl
theorem Alv:∀ v∈(zc Pg 32).toList,v.oneCell'=true:=by rw [Akc];simp [Value.oneCell']
theorem ixA:Wc Pg 101 akR akR.v:=by
 intro w s l f p F h hp hN K k;exact Ic s f (C0 (HF akR) h hp hN k)
theorem Xi {w:World} {s:Sl} {l:List Ak} {f:Value} {p:Ak→Bool} (h:As w s l) (hp:QX f p [] w) (hN:l.length≤1000) :
  Cl Pg 101 [.slice s.p s.len s.cap,f] false [.sc (.i .i64)] (fun r w'=>((∃ (i:Nat) (x:Ak),r.1=(i:Int)∧l[i]?=some x∧p x=true∧∀ y∈l.take i,p y=false)∨(r.1=-1∧∀ y∈l,p y=false))∧Aa [] w w') w:=by
 refine ixA h.C6 (hp.gen (l:=l)) (by omega) ?_;intro w' k;refine ⟨?_,k⟩;unfold Q3;cases hf:l.findIdx? p with
 | none=>exact .inr ⟨rfl,List.findIdx?_eq_none_iff.1 hf⟩
 | some i=>
  obtain ⟨h1,h2,h3⟩:=List.findIdx?_eq_some_iff_getElem.1 hf;refine .inl ⟨i,_,rfl,List.getElem?_eq_getElem h1,h2,fun y hy=>?_⟩;obtain ⟨j,hj,rfl⟩:=List.mem_take_iff_getElem.1 hy;have:=h3 j (by omega);simpa using this
theorem L8 {w:World} {s:Sl} {l:List Ak} {f:Value} {p:Ak→Bool} (h:As w s l) (hp:QX f p [] w) (hN:l.length≤1000) :
  Cl Pg 63 [.slice s.p s.len s.cap,f] false [.sc .b] (fun r w'=>r.1=l.any p∧Aa [] w w') w:=
 FO s f (BP ixA h.C6 (hp.gen (l:=l)) (by omega) fun w' k=>⟨rfl,k⟩)
theorem Oc {w:World} {s:Sl} {l:List Ak} {f:Value} {p:Ak→Bool} (h:As w s l) (hp:QX f p (Ai s) w) (hN:l.length≤1000) :
  Cl Pg 201 [.slice s.p s.len s.cap,f] false [.sc .sl] (fun r w'=>As w' r.1 (l.filter (fun x=>!p x))∧(∀ x∈Ai r.1,x∈Ai s)∧Aa (Ai s) w w') w:=
 GQ s f (NK (ρ:=akR) ixA (Agf akR rfl) (by rw [zcA];rfl) AiA h (hp.gen (l:=l)) (by omega) fun r w' a b c=>⟨a,b,c⟩)
theorem Acy {w:World} {s:Sl} {l:List Ak} (h:As w s l) {i:Nat} (hi:i < l.length) (hN:l.length≤1000) {y z:Int} (hy:y=(i:Int)) (hz:z=((i + 1:Nat):Int)) :
  Cl Pg 108 [.slice s.p s.len s.cap,.int .i64 y,.int .i64 z] false [.sc .sl] (fun r w'=>As w' r.1 (l.eraseIdx i)∧(∀ x∈Ai r.1,x∈Ai s)∧Aa (Ai s) w w') w:=
 K3 s y z (Ns (ρ:=akR) (by rw [zcA];rfl) AiA h (Nat.le_succ i) hi (by omega) hy hz fun r w' a b c=>⟨by rw [List.eraseIdx_eq_take_drop_succ];exact a,b,c⟩)
theorem ovA:Ac1 Pg 111 146 akR.n:=by
 intro w a b o la ca lb cb cs all t fr ha hb hne h0 K h;refine ⟨(false,()),w,?_,h⟩
 rw [show ([Value.slice (some ⟨a,0,none⟩) la ca,.slice (some ⟨b,o,none⟩) lb cb]:List Value).toArray=#[.slice (some ⟨a,0,none⟩) la ca,.slice (some ⟨b,o,none⟩) lb cb] from rfl,
  run_callFunc_extern Tryz.func111 (by kernel_rfl) (by kernel_rfl) (by kernel_rfl) (e:=Extern.SlicesOverlaps.overlaps #[139,139] #[4]) (by kernel_rfl),
  Lib.run_overlaps_apart w 139 4 146 (by kernel_rfl) 4 (fun w=>by kernel_rfl) ⟨a,0,none⟩ ⟨b,o,none⟩ la ca lb cb hne 146 t cs.size all.size (by simp [World.shape?,ha]) (by simp [World.shape?,hb]) h0 (by simp [World.frozen?,ha]) (by simp [World.frozen?,ha])]
 rfl
theorem Adq {w:World} {s:Sl} {l:List Ak} (h:As w s l) {a:Nat} {x:Ak} (ha:w.heap[a]?=some (.cells #[.int .u64 x.n,.string x.lo,.string x.hi,.bool x.wr] 146 (0,0))) (hna:a ∉ Ai s) {i:Nat} (hi:i≤l.length) (hN:l.length≤1000) :
  Cl Pg 72 [.slice s.p s.len s.cap,.int .i64 (i:Int),.slice (some ⟨a,0,none⟩) 1 1] false [.sc .sl]
   (fun r w'=>As w' r.1 (l.take i ++ x :: l.drop i)∧(∀ y∈Ai r.1,y∈Ai s∨w.heap.size≤y)∧Aa (Ai s) w w') w:=
 Lx s (i:Int) ⟨some ⟨a,0,none⟩,1,1⟩ (Kc (ρ:=akR) ovA (by rw [zcA];rfl) AiA (by omega) (by omega) h ha hna hi fun r w' a b c=>⟨a,b,c⟩)
open Go Go.Sx
def cU (l:List Int):List Value:=l.map (Value.int .u64)
theorem Rf (l:List Int):(cU l).length=l.length:=by simp [cU]
theorem AhS (l:List Int):∀ v∈cU l,v.oneCell'=true:=by simp [cU,Value.oneCell']
theorem DJ {w:World} {s:Sl} {l:List Int} (h:AE w s 1 (cU l)):s.len=l.length:=by have:=h.len;rw [Rf] at this;omega
abbrev Rw (w:World) (s:Sl) (d:Array Int):Prop:=AE w s 1 (cU d.toList)
section
variable {w:World} {s:Sl} {d:Array Int} (h:Rw w s d)
include h
theorem Rw.rd {x:Int} {j:Nat} (hx:x=(j:Int)) (hj:j < d.size) {K:Int→Pr} (k:K d[j]! w):Ix s x 1 (fun a=>A2 .u64 a K) w:=by
 subst hx;have hl:=DJ h;rw [Array.length_toList] at hl;obtain ⟨b,o,hp,_⟩:=h.base (by omega);rw [G5 hp (by omega) (by omega),Int.toNat_natCast,Nat.mul_one,RZ,h.read hp (by rw [Rf,Array.length_toList];exact hj),cU,List.getElem?_map,Array.getElem?_toList,Array.getElem?_eq_getElem hj];simp only [Option.map_some,sx];rw [getElem!_pos d j hj] at k;exact k
theorem Rw.wr {x:Int} {j:Nat} (hx:x=(j:Int)) (hj:j < d.size) (v:Int) {K:Pr} (k:∀ w',Rw w' s (d.setIfInBounds j v)→Aa (Ai s) w w'→K w'):Ix s x 1 (fun a=>St a (.int .u64 v) K) w:=by
 subst hx;have hl:=DJ h;rw [Array.length_toList] at hl;obtain ⟨b,o,hp,hb⟩:=h.base (by omega);rw [G5 hp (by omega) (by omega),Int.toNat_natCast,Nat.mul_one];refine h.write hp (by rw [Rf,Array.length_toList];exact hj) rfl ?_;intro w' h1 h2;refine k w' ?_ (by rw [hb];exact h2);unfold Rw;rw [Array.toList_setIfInBounds,cU,List.map_set];exact h1
theorem Rw.keeps {w':World} (hk:Aa [] w w'):Rw w' s d:=AE.keeps h hk (by simp)
theorem Rw.dr:Rw w.drew s d:=Rw.keeps h ((Aa.refl _ _).drew)
theorem Rw.sw {x y:Int} {i j:Nat} (hx:x=(i:Int)) (hy:y=(j:Int)) (hi:i < d.size) (hj:j < d.size) {K:Pr} (k:∀ w',Rw w' s (Sort.swp d i j)→Aa (Ai s) w w'→K w') :
  Dr (Ix s y 1 fun a3=>A2 .u64 a3 fun x4=>Ix s x 1 fun a5=>A2 .u64 a5 fun x6=>Ix s x 1 fun a7=>St a7 (.int .u64 x4) <| Ix s y 1 fun a8=>St a8 (.int .u64 x6) K) w:=by
 have hkd:Aa [] w w.drew:=(Aa.refl _ _).drew;refine Rw.rd (w:=w.drew) (Rw.dr h) hy hj ?_;refine Rw.rd (w:=w.drew) (Rw.dr h) hx hi ?_;refine Rw.wr (w:=w.drew) (Rw.dr h) hx hi _ ?_;intro w1 h1 k1;refine Rw.wr h1 hy (by simpa using hj) _ ?_;intro w2 h2 k2;exact k w2 h2 (((hkd.mono (m':=Ai s) (by simp)).trans k1 (fun _ hx=>.inl hx)).trans k2 (fun _ hx=>.inl hx))
end
theorem Oq {x y:Int} {i j:Nat} (hx:x=(i:Int)) (hy:y=(j:Int)) (h:i + j < 4611686018427387904):An (x + y)=((i + j:Nat):Int):=by subst hx hy;rw [By (by omega) (by omega)];omega
theorem N0 {x y:Int} {i j:Nat} (hx:x=(i:Int)) (hy:y=(j:Int)) (h:j≤i) (h2:i < 4611686018427387904):An (x - y)=((i - j:Nat):Int):=by subst hx hy;rw [By (by omega) (by omega)];omega
theorem AK {i:Nat} (h:i < 4611686018427387904):An ((i:Int) + 1)=((i + 1:Nat):Int):=by rw [By (by omega) (by omega)];omega
theorem Ew {i:Nat} (h:1≤i) (h2:i < 4611686018427387904):An ((i:Int) - 1)=((i - 1:Nat):Int):=by rw [By (by omega) (by omega)];omega
abbrev lt:=Sort.ltInt
theorem IF {w:World} (x y:Int):Cl Pg 194 [.int .u64 x,.int .u64 y] false [.sc .b] (fun r w'=>w=w'∧r.1=lt x y) w:=by
 have hn:∀ z:Int,∀ {K:TR [.sc .b]→Pr},K (false,()) w→Cl Pg 110 [.int .u64 z] false [.sc .b] K w:=fun z K h=>by
  apply Fc;unfold Fg;rw [show (z != z)=false from by simp];exact h
 refine AR fun R hR=>?_;apply MA;unfold LD;dsimp only [Vu];refine hn x ?_;exact hR _ _ ⟨rfl,rfl⟩
theorem size_swp (d:Array Int) (i j:Nat):(Sort.swp d i j).size=d.size:=Sort.size_swp d i j
theorem QU {w:World} {A:(Bool × Unit→Pr)→Int × Unit→Pr} {K:Int × Unit→Pr} {stp:Int→Int} (Inv:Nat→World→Prop) (enc:Nat→Int) (cond:Nat→Bool) (nxt:Nat→Nat) (ms:Nat→Nat)
  (hc:∀ i w',Inv i w'→∀ J:Bool × Unit→Pr,(∀ w'',Inv i w''→J (cond i,()) w'')→A J (enc i,()) w')
  (hn:∀ i w',Inv i w'→cond i=true→stp (enc i)=enc (nxt i)∧ms (nxt i) < ms i∧Inv (nxt i) w')
  (he:∀ i w',Inv i w'→cond i=false→K (enc i,()) w') {i0:Nat} (h0:Inv i0 w) :
  Lp (σ:=Int × Unit) (fun L7 s8=>Jp (σ:=Bool × Unit) (fun s10=>Br s10.1 (L7 (stp s8.1,())) (K s8)) fun J9=>A J9 s8) (enc i0,()) w:=by
 refine ⟨fun m st w'=>∃ i,st=(enc i,())∧m=ms i∧Inv i w',⟨_,i0,rfl,rfl,h0⟩,?_⟩;rintro _ _ w1 ⟨i,rfl,rfl,hI⟩;refine AG (fun st w'=>st=(cond i,())∧Inv i w') (fun J hJ=>hc i w1 hI J fun w'' h=>hJ _ _ ⟨rfl,h⟩) ?_;rintro _ w2 ⟨rfl,hI2⟩;cases hb:cond i with
 | true=>
  obtain ⟨h1,h2,h3⟩:=hn i w2 hI2 hb;exact ⟨_,h2,nxt i,by rw [h1],rfl,h3⟩
 | false=>exact he i w2 hI2 hb
theorem Xl {w:World} {s:Sl} {d:Array Int} (h:Rw w s d) {a b:Nat} (hb:b≤d.size) (hN:d.size≤65000) (hab:a≤b) :
  Cl Pg 188 [.slice s.p s.len s.cap,.int .i64 (a:Int),.int .i64 (b:Int)] true [] (fun _ w'=>Rw w' s (Sort.insertionSort lt d a b)∧Aa (Ai s) w w') w:=by
 refine AR fun R hR=>?_;apply Dx;unfold Cj;dsimp only [Vu];rw [AK (by omega)];refine ⟨fun m st w'=>∃ (i:Nat) (d':Array Int),st=((i:Int),())∧m=b + 1 - i∧a + 1≤i∧d'.size=d.size∧Sort.insOuter lt a b i d'=Sort.insOuter lt a b (a + 1) d∧Rw w' s d'∧Aa (Ai s) w w',⟨_,a + 1,d,rfl,rfl,Nat.le_refl _,rfl,rfl,h,Aa.refl _ _⟩,?_⟩;rintro _ _ w1 ⟨i,d1,rfl,rfl,hi,hz1,he1,hd1,hk1⟩;dsimp only;by_cases hib:i < b
 ·rw [decide_eq_true (by omega)];simp only [Br];rw [Sort.insOuter,if_pos hib] at he1;refine ⟨fun m st w'=>∃ (j:Nat) (d':Array Int),st=((j:Int),())∧m=j∧j≤i∧d'.size=d.size∧Sort.insInner lt a j d'=Sort.insInner lt a i d1∧Rw w' s d'∧Aa (Ai s) w w',⟨_,i,d1,rfl,rfl,Nat.le_refl _,hz1,rfl,hd1,hk1⟩,?_⟩;rintro j _ w2 ⟨_,d2,rfl,rfl,hj,hz2,he2,hd2,hk2⟩;dsimp only;have hkd:Aa (Ai s) w2 w2.drew:=(Aa.refl _ _).drew;refine AG (fun st w'=>st=(decide (j > a) && lt d2[j]! d2[j - 1]!,())∧Rw w' s d2∧Aa (Ai s) w w') ?_ ?_
  ·intro J hJ;simp only [Dr];by_cases hja:j > a
   ·rw [decide_eq_true (by omega)];rw [decide_eq_true hja,Bool.true_and] at hJ;simp only [Br];rw [Ew (by omega) (by omega)];refine Rw.rd (w:=w2.drew) hd2.dr rfl (by omega) ?_;refine Rw.rd (w:=w2.drew) hd2.dr rfl (by omega) ?_;refine Cl.mono (IF _ _) ?_;rintro ⟨r,_⟩ _ ⟨rfl,hr⟩;simp only at hr;refine hJ _ _ ⟨by rw [hr],hd2.dr,hk2.trans hkd (fun _ hx=>.inl hx)⟩
   ·rw [decide_eq_false (by omega)];rw [decide_eq_false hja,Bool.false_and] at hJ;exact hJ _ _ ⟨rfl,hd2.dr,hk2.trans hkd (fun _ hx=>.inl hx)⟩
  ·rintro _ w3 ⟨rfl,hd3,hk3⟩;cases hc:(decide (j > a) && lt d2[j]! d2[j - 1]!) with
   | true=>
    simp only [Br];simp only [Bool.and_eq_true,decide_eq_true_eq] at hc;obtain ⟨k,rfl⟩:∃ k,j=k + 1:=⟨j - 1,by omega⟩;rw [Nat.add_sub_cancel] at hc;rw [Ew (by omega) (by omega),Nat.add_sub_cancel];refine hd3.sw rfl rfl (by omega) (by omega) ?_;intro w4 hd4 hk4;refine ⟨k,by omega,k,_,rfl,rfl,by omega,by rw [size_swp];exact hz2,?_,hd4,hk3.trans hk4 (fun _ hx=>.inl hx)⟩;rw [← he2,Sort.insInner,if_pos (by simp [hc])]
   | false=>
    simp only [Br];refine ⟨b + 1 - (i + 1),by omega,i + 1,d2,by rw [AK (by omega)],rfl,by omega,hz2,?_,hd3,hk3⟩;rw [← he1,← he2];cases j with
    | zero=>rfl
    | succ k=>
     rw [Nat.add_sub_cancel] at hc;rw [Sort.insInner,if_neg (by rw [hc];simp)]
 ·rw [decide_eq_false (by omega)];rw [Sort.insOuter,if_neg hib] at he1;refine hR _ _ ⟨?_,hk1⟩;unfold Sort.insertionSort;rw [← he1];exact hd1
theorem AbR {w:World} {s:Sl} {d:Array Int} (h:Rw w s d) {lo hi first:Nat} (hb:first + hi≤d.size) (hN:d.size≤65000) (hlo:lo≤hi) :
  Cl Pg 260 [.slice s.p s.len s.cap,.int .i64 (lo:Int),.int .i64 (hi:Int),.int .i64 (first:Int)] true [] (fun _ w'=>Rw w' s (Sort.siftDown lt hi first lo d)∧Aa (Ai s) w w') w:=by
 refine AR fun R hR=>?_;apply DZ;unfold CK;dsimp only [Vu];refine ⟨fun m st w'=>∃ (root:Nat) (d':Array Int),st=((root:Int),())∧m=hi - root∧root≤hi∧d'.size=d.size∧Sort.siftDown lt hi first root d'=Sort.siftDown lt hi first lo d∧Rw w' s d'∧Aa (Ai s) w w',⟨_,lo,d,rfl,rfl,hlo,rfl,rfl,h,Aa.refl _ _⟩,?_⟩;rintro _ _ w1 ⟨root,d1,rfl,rfl,hr,hz1,he1,hd1,hk1⟩;dsimp only;have e2:An (2 * (root:Int))=((2 * root:Nat):Int):=by rw [By (by omega) (by omega)];omega
 rw [e2,AK (by omega),AK (by omega)];by_cases hch:2 * root + 1 ≥ hi
 ·rw [decide_eq_true (by omega)];rw [Sort.siftDown,dif_pos hch] at he1;simp only [Br];refine hR _ _ ⟨?_,hk1⟩;rw [← he1];exact hd1
 ·rw [decide_eq_false (by omega)];simp only [Br];rw [Sort.siftDown,dif_neg hch] at he1;have kt:∀ {a b c:World},Aa (Ai s) a b→Aa (Ai s) b c→Aa (Ai s) a c:=fun h k=>h.trans k (fun _ hx=>.inl hx);refine AG (fun st w'=>∃ c:Nat,st=((c:Int),())∧(c=2 * root + 1∨c=2 * root + 2)∧c < hi∧Rw w' s d1∧Aa (Ai s) w w'∧(if !lt d1[first + root]! d1[first + c]! then d1 else Sort.siftDown lt hi first c (Sort.swp d1 (first + root) (first + c)))=Sort.siftDown lt hi first lo d) ?_ ?_
  ·intro J3 hJ3;refine AG (fun st w'=>st=(decide (2 * root + 1 + 1 < hi) && lt d1[first + (2 * root + 1)]! d1[first + (2 * root + 1) + 1]!,())∧Rw w' s d1∧Aa (Ai s) w w') ?_ ?_
   ·intro J hJ;have hkd:Aa (Ai s) w1 w1.drew:=(Aa.refl _ _).drew;simp only [Dr];by_cases hc2:2 * root + 1 + 1 < hi
    ·rw [decide_eq_true (by omega)];rw [decide_eq_true hc2,Bool.true_and] at hJ;simp only [Br];rw [Oq rfl rfl (by omega),AK (by omega)];refine Rw.rd (w:=w1.drew) hd1.dr rfl (by omega) ?_;refine Rw.rd (w:=w1.drew) hd1.dr rfl (by omega) ?_;refine Cl.mono (IF _ _) ?_;rintro ⟨r,_⟩ _ ⟨rfl,hr⟩;simp only at hr;exact hJ _ _ ⟨by rw [hr],hd1.dr,kt hk1 hkd⟩
    ·rw [decide_eq_false (by omega)];rw [decide_eq_false hc2,Bool.false_and] at hJ;exact hJ _ _ ⟨rfl,hd1.dr,kt hk1 hkd⟩
   ·rintro _ w2 ⟨rfl,hd2,hk2⟩;cases hc:(decide (2 * root + 1 + 1 < hi) && lt d1[first + (2 * root + 1)]! d1[first + (2 * root + 1) + 1]!) with
    | true=>
     simp only [Br];rw [if_pos hc] at he1;simp only [Bool.and_eq_true,decide_eq_true_eq] at hc;refine hJ3 _ _ ⟨2 * root + 2,rfl,.inr rfl,by omega,hd2,hk2,?_⟩;rw [← he1,dif_pos (show 2 * root + 2 < hi by omega)]
    | false=>
     simp only [Br];rw [if_neg (by rw [hc];simp)] at he1;exact hJ3 _ _ ⟨2 * root + 1,rfl,.inl rfl,by omega,hd2,hk2,he1⟩
  ·rintro _ w2 ⟨c,rfl,hc12,hci,hd2,hk2,he2⟩;simp only [Dr];rw [Oq rfl rfl (by omega),Oq rfl rfl (by omega)];have hkd:Aa (Ai s) w2 w2.drew:=(Aa.refl _ _).drew;refine Rw.rd (w:=w2.drew) hd2.dr rfl (by omega) ?_;refine Rw.rd (w:=w2.drew) hd2.dr rfl (by omega) ?_;refine Cl.mono (IF _ _) ?_;rintro ⟨r,_⟩ _ ⟨rfl,hr⟩;simp only at hr;cases hl:lt d1[first + root]! d1[first + c]! with
   | false=>
    rw [hl] at hr he2;subst hr;simp only [Bool.not_false,Br];refine hR _ _ ⟨?_,kt hk2 hkd⟩;rw [← he2];exact hd2.dr
   | true=>
    rw [hl] at hr he2;subst hr;simp only [Bool.not_true,Br];refine Rw.sw (w:=w2.drew) hd2.dr rfl rfl (by omega) (by omega) ?_;intro w3 hd3 hk3;exact ⟨hi - c,by omega,c,_,rfl,rfl,by omega,by rw [size_swp];exact hz1,by simpa using he2,hd3,kt (kt hk2 hkd) hk3⟩
theorem Nr (hi first:Nat):∀ (n root:Nat) (d:Array Int),hi - root≤n→(Sort.siftDown lt hi first root d).size=d.size
 | n,root,d,hn=>by
  rw [Sort.siftDown];split
  ·rfl
  ·rename_i h1;split
   ·split
    ·rfl
    ·split
     ·cases n with
      | zero=>omega
      | succ n=>rw [Nr hi first n _ _ (by omega),size_swp]
     ·rfl
   ·split
    ·rfl
    ·cases n with
     | zero=>omega
     | succ n=>rw [Nr hi first n _ _ (by omega),size_swp]
theorem YK {w:World} {s:Sl} {d:Array Int} (h:Rw w s d) {a b:Nat} (hb:b≤d.size) (hN:d.size≤65000) (hab:a < b) :
  Cl Pg 189 [.slice s.p s.len s.cap,.int .i64 (a:Int),.int .i64 (b:Int)] true [] (fun _ w'=>Rw w' s (Sort.heapSort lt d a b)∧Aa (Ai s) w w') w:=by
 refine AR fun R hR=>?_;have kt:∀ {a b c:World},Aa (Ai s) a b→Aa (Ai s) b c→Aa (Ai s) a c:=fun h k=>h.trans k (fun _ hx=>.inl hx);apply Eg;unfold CL;dsimp only [Vi,Vs,Vu];refine ⟨by decide,?_⟩;rw [N0 rfl rfl (by omega) (by omega)];rw [Ew (i:=b - a) (by omega) (by omega)];have e2:An ((((b - a - 1:Nat):Int)).tdiv 2)=(((b - a - 1) / 2:Nat):Int):=by
  rw [show ((b - a - 1:Nat):Int).tdiv 2=(((b - a - 1) / 2:Nat):Int) from TX _ 2];exact Tx (by omega)
 rw [e2];refine ⟨fun m st w'=>∃ (k:Nat) (d':Array Int),st=((k:Int) - 1,())∧m=k∧k≤(b - a - 1) / 2 + 1∧d'.size=d.size∧Sort.heapBuild lt (b - a) a k d'=Sort.heapBuild lt (b - a) a ((b - a - 1) / 2 + 1) d∧Rw w' s d'∧Aa (Ai s) w w',⟨_,(b - a - 1) / 2 + 1,d,by simp,rfl,Nat.le_refl _,rfl,rfl,h,Aa.refl _ _⟩,?_⟩;rintro k _ w1 ⟨_,d1,rfl,rfl,hk,hz1,he1,hd1,hk1⟩;dsimp only;cases k with
 | succ k=>
  rw [decide_eq_true (by omega)];simp only [Br];rw [show ((k + 1:Nat):Int) - 1=(k:Int) from by omega];refine Cl.mono (AbR hd1 (lo:=k) (hi:=b - a) (first:=a) (by omega) (by omega) (by omega)) ?_;rintro _ w2 ⟨hd2,hk2⟩;refine ⟨k,by omega,k,_,by rw [By (by omega) (by omega)],rfl,by omega,by rw [Nr (b - a) a _ _ _ (Nat.le_refl _)];exact hz1,?_,hd2,kt hk1 hk2⟩;rw [← he1];rfl
 | zero=>
  rw [decide_eq_false (by omega)];simp only [Br];have hd0:Sort.heapBuild lt (b - a) a ((b - a - 1) / 2 + 1) d=d1:=by rw [← he1];rfl
  refine ⟨fun m st w'=>∃ (k:Nat) (d':Array Int),st=((k:Int) - 1,())∧m=k∧k≤b - a∧d'.size=d.size∧Sort.heapPop lt a k d'=Sort.heapPop lt a (b - a) d1∧Rw w' s d'∧Aa (Ai s) w w',⟨_,b - a,d1,by congr 1;omega,rfl,Nat.le_refl _,hz1,rfl,hd1,hk1⟩,?_⟩;rintro k _ w2 ⟨_,d2,rfl,rfl,hk,hz2,he2,hd2,hk2⟩;dsimp only;cases k with
  | succ k=>
   rw [decide_eq_true (by omega)];simp only [Br];rw [show ((k + 1:Nat):Int) - 1=(k:Int) from by omega,Oq rfl rfl (by omega)];refine Rw.sw hd2 rfl rfl (by omega) (by omega) ?_;intro w3 hd3 hk3;refine Cl.mono (AbR hd3 (lo:=0) (hi:=k) (first:=a) (by rw [size_swp];omega) (by rw [size_swp];omega) (by omega)) ?_;rintro _ w4 ⟨hd4,hk4⟩;refine ⟨k,by omega,k,_,by rw [By (by omega) (by omega)],rfl,by omega,by rw [Nr k a _ _ _ (Nat.le_refl _),size_swp];exact hz2,?_,hd4,kt (kt hk2 hk3) hk4⟩;rw [← he2];rfl
  | zero=>
   rw [decide_eq_false (by omega)];refine hR _ _ ⟨?_,hk2⟩;unfold Sort.heapSort;rw [hd0,← he2];exact hd2
theorem AaL {w:World} {s:Sl} {d:Array Int} (h:Rw w s d) {a b:Nat} (hb:b≤d.size) (hN:d.size≤65000) (hab:a < b) :
  Cl Pg 192 [.slice s.p s.len s.cap,.int .i64 (a:Int),.int .i64 (b:Int)] true [] (fun _ w'=>Rw w' s (Sort.reverseRange d a b)∧Aa (Ai s) w w') w:=by
 refine AR fun R hR=>?_;have kt:∀ {a b c:World},Aa (Ai s) a b→Aa (Ai s) b c→Aa (Ai s) a c:=fun h k=>h.trans k (fun _ hx=>.inl hx);apply DA;unfold Cn;dsimp only [Vu];rw [Ew (by omega) (by omega)];refine ⟨fun m st w'=>∃ (i j:Nat) (d':Array Int),st=((i:Int),(j:Int),())∧m=j - i∧j < b∧d'.size=d.size∧Sort.reverseLoop i j d'=Sort.reverseLoop a (b - 1) d∧Rw w' s d'∧Aa (Ai s) w w',⟨_,a,b - 1,d,rfl,rfl,by omega,rfl,rfl,h,Aa.refl _ _⟩,?_⟩;rintro _ _ w1 ⟨i,j,d1,rfl,rfl,hj,hz1,he1,hd1,hk1⟩;dsimp only;rw [Sort.reverseLoop] at he1;by_cases hij:i < j
 ·rw [decide_eq_true (by omega)];simp only [Br];rw [if_pos hij] at he1;refine Rw.sw hd1 rfl rfl (by omega) (by omega) ?_;intro w2 hd2 hk2;exact ⟨j - 1 - (i + 1),by omega,i + 1,j - 1,_,by rw [AK (by omega),Ew (by omega) (by omega)],rfl,by omega,by rw [size_swp];exact hz1,he1,hd2,kt hk1 hk2⟩
 ·rw [decide_eq_false (by omega)];rw [if_neg hij] at he1;refine hR _ _ ⟨?_,hk1⟩;unfold Sort.reverseRange;rw [← he1];exact hd1
open Go Go.Sx
theorem kt {s:Sl} {a b c:World} (h:Aa (Ai s) a b) (k:Aa (Ai s) b c):Aa (Ai s) a c:=h.trans k (fun _ hx=>.inl hx)
theorem Xv {w w0:World} {s:Sl} {d:Array Int} (hN:d.size≤65000) (hd:Rw w s d) (hk0:Aa (Ai s) w0 w) (p:Int→Bool) {j i0:Nat} (hj:j < d.size) {A:(Bool × Unit→Pr)→Int × Unit→Pr} {K:Int × Unit→Pr}
  (hA:∀ (i:Nat) (w1:World) (J:Bool × Unit→Pr),Rw w1 s d→i≤65001→(∀ w2,Rw w2 s d→Aa (Ai s) w1 w2→J (decide (i≤j) && p d[i]!,()) w2)→A J ((i:Int),()) w1)
  (hi0:i0≤65001) (hK:∀ w1,Rw w1 s d→Aa (Ai s) w0 w1→K ((Sort.scanUp p d j i0:Int),()) w1) :
  Lp (σ:=Int × Unit) (fun L7 s8=>Jp (σ:=Bool × Unit) (fun s10=>Br s10.1 (L7 (An (s8.1 + 1),())) (K s8)) fun J9=>A J9 s8) ((i0:Int),()) w:=by
 refine QU (stp:=fun x=>An (x + 1)) (fun i w'=>i≤65001∧Sort.scanUp p d j i=Sort.scanUp p d j i0∧Rw w' s d∧Aa (Ai s) w0 w') (fun i=>(i:Int)) (fun i=>decide (i≤j) && p d[i]!) (fun i=>i + 1) (fun i=>j + 1 - i) ?_ ?_ ?_ ⟨hi0,rfl,hd,hk0⟩
 ·rintro i w1 ⟨h1,h2,h3,h4⟩ J hJ;exact hA i w1 J h3 h1 fun w2 h5 h6=>hJ w2 ⟨h1,h2,h5,kt h4 h6⟩
 ·rintro i w1 ⟨h1,h2,h3,h4⟩ hc;have hij:i≤j:=by simp at hc;exact hc.1
  refine ⟨AK (by omega),by omega,by omega,?_,h3,h4⟩;rw [← h2]
  conv=>rhs;rw [Sort.scanUp,if_pos hc]
 ·rintro i w1 ⟨h1,h2,h3,h4⟩ hc;have:Sort.scanUp p d j i=i:=by rw [Sort.scanUp,if_neg (by rw [hc];simp)]
  rw [this] at h2;rw [h2];exact hK w1 h3 h4
theorem QI {w w0:World} {s:Sl} {d:Array Int} (hN:d.size≤65000) (hd:Rw w s d) (hk0:Aa (Ai s) w0 w) (p:Int→Bool) {i j0:Nat} (hi:1≤i) (hj:j0 < d.size) {A:(Bool × Unit→Pr)→Int × Unit→Pr} {K:Int × Unit→Pr}
  (hA:∀ (j:Nat) (w1:World) (J:Bool × Unit→Pr),Rw w1 s d→j < d.size→(∀ w2,Rw w2 s d→Aa (Ai s) w1 w2→J (decide (i≤j) && p d[j]!,()) w2)→A J ((j:Int),()) w1)
  (hK:∀ w1,Rw w1 s d→Aa (Ai s) w0 w1→K ((Sort.scanDown p d i j0:Int),()) w1) :
  Lp (σ:=Int × Unit) (fun L7 s8=>Jp (σ:=Bool × Unit) (fun s10=>Br s10.1 (L7 (An (s8.1 - 1),())) (K s8)) fun J9=>A J9 s8) ((j0:Int),()) w:=by
 refine QU (stp:=fun x=>An (x - 1)) (fun j w'=>j < d.size∧Sort.scanDown p d i j=Sort.scanDown p d i j0∧Rw w' s d∧Aa (Ai s) w0 w') (fun j=>(j:Int)) (fun j=>decide (i≤j) && p d[j]!) (fun j=>j - 1) (fun j=>j) ?_ ?_ ?_ ⟨hj,rfl,hd,hk0⟩
 ·rintro j w1 ⟨h1,h2,h3,h4⟩ J hJ;exact hA j w1 J h3 h1 fun w2 h5 h6=>hJ w2 ⟨h1,h2,h5,kt h4 h6⟩
 ·rintro j w1 ⟨h1,h2,h3,h4⟩ hc;have hij:i≤j:=by simp at hc;exact hc.1
  obtain ⟨k,rfl⟩:∃ k,j=k + 1:=⟨j - 1,by omega⟩;refine ⟨Ew (by omega) (by omega),by simp,by simp;omega,?_,h3,h4⟩;rw [← h2]
  conv=>rhs;rw [Sort.scanDown,if_pos hc]
  rfl
 ·rintro j w1 ⟨h1,h2,h3,h4⟩ hc;have:Sort.scanDown p d i j=j:=by
   cases j with
   | zero=>rfl
   | succ k=>rw [Sort.scanDown,if_neg (by rw [hc];simp)]
  rw [this] at h2;rw [h2];exact hK w1 h3 h4
theorem I9 {w:World} {s:Sl} {d:Array Int} (hd:Rw w s d) {c:Bool} {x y:Int} {i j:Nat} {J:Bool × Unit→Pr} (f:Bool→Bool) {b:Bool} (hx:x=(i:Int)) (hy:y=(j:Int)) (hi:c=true→i < d.size) (hj:c=true→j < d.size) (hb:(c && f (lt d[i]! d[j]!))=b)
  (hJ:∀ w2,Rw w2 s d→Aa (Ai s) w w2→J (b,()) w2) :
  Dr (Br c (Ix s x 1 fun a64=>A2 .u64 a64 fun x65=>Ix s y 1 fun a66=>A2 .u64 a66 fun x67=>Cl Pg 194 [(.int .u64 x65),(.int .u64 x67)] false [.sc .b] fun r68=>J (f r68.1,())) (J (false,()))) w:=by
 have hkd:Aa (Ai s) w w.drew:=(Aa.refl _ _).drew;simp only [Dr];cases c with
 | false=>
  rw [Bool.false_and] at hb;subst hb;exact hJ _ hd.dr hkd
 | true=>
  rw [Bool.true_and] at hb;refine Rw.rd (w:=w.drew) hd.dr hx (hi rfl) ?_;refine Rw.rd (w:=w.drew) hd.dr hy (hj rfl) ?_;refine Cl.mono (IF _ _) ?_;rintro ⟨r,_⟩ _ ⟨rfl,hr⟩;simp only at hr;rw [hr];subst hb;exact hJ _ hd.dr hkd
theorem Yc {w:World} {s:Sl} {d:Array Int} (h:Rw w s d) {a b pivot:Nat} (hb:b≤d.size) (hN:d.size≤65000) (hap:a≤pivot) (hpb:pivot < b) :
  Cl Pg 196 [.slice s.p s.len s.cap,.int .i64 (a:Int),.int .i64 (b:Int),.int .i64 (pivot:Int)] true [.sc (.i .i64),.sc .b]
   (fun r w'=>r.1=((Sort.partition lt d a b pivot).1:Int)∧Rw w' s (Sort.partition lt d a b pivot).2.2∧Aa (Ai s) w w') w:=by
 refine AR fun R hR=>?_;apply DT;unfold CC;dsimp only [Vu];refine Rw.sw h rfl rfl (by omega) (by omega) ?_;intro w1 hd1 hk1;unfold Sort.partition at hR;simp only at hR;generalize hd:Sort.swp d a pivot=d1 at hd1 hR;have hz1:d1.size=d.size:=by rw [← hd,size_swp]
 rw [Ew (by omega) (by omega),AK (by omega)];refine Xv (by omega) hd1 hk1 (fun x=>lt x d1[a]!) (j:=b - 1) (by omega) ?_ (by omega) ?_
 ·intro i w2 J h2 hi hJ;exact I9 h2 (fun b=>b) rfl rfl (by simp;omega) (by simp;omega) (by congr 1;exact decide_eq_decide.2 (by omega)) hJ
 intro w2 hd2 hk2;generalize hi2:Sort.scanUp (fun x=>lt x d1[a]!) d1 (b - 1) (a + 1)=i2 at hR;have hi2a:a + 1≤i2:=by rw [← hi2];exact Sort.scanUp_ge _ _ _ _
 refine QI (by omega) hd2 hk2 (fun x=>!lt x d1[a]!) (i:=i2) (by omega) (by omega) ?_ ?_
 ·intro j w3 J h3 hj hJ;exact I9 h3 (fun b=>!b) rfl rfl (by simp;omega) (by simp;omega) (by congr 1;exact decide_eq_decide.2 (by omega)) hJ
 intro w3 hd3 hk3;generalize hj2:Sort.scanDown (fun x=>!lt x d1[a]!) d1 i2 (b - 1)=j2 at hR;have hj2b:j2≤b - 1:=by rw [← hj2];exact Sort.scanDown_le _ _ _ _
 by_cases hij:i2 > j2
 ·rw [decide_eq_true (by omega)];simp only [if_pos hij] at hR;simp only [Br];refine Rw.sw hd3 rfl rfl (by omega) (by omega) ?_;intro w4 hd4 hk4;exact hR _ _ ⟨rfl,hd4,kt hk3 hk4⟩
 ·rw [decide_eq_false (by omega)];simp only [if_neg hij] at hR;simp only [Br];refine Rw.sw hd3 rfl rfl (by omega) (by omega) ?_;intro w4 hd4 hk4;generalize hdd:Sort.swp d1 i2 j2=d2 at hd4 hR;have hz2:d2.size=d.size:=by rw [← hdd,size_swp];exact hz1
  rw [AK (by omega),Ew (by omega) (by omega)];have hk04:=kt hk3 hk4;refine ⟨fun m st w'=>∃ (i j:Nat) (d':Array Int),st=((i:Int),(j:Int),())∧m=j + 1 - i∧a < i∧i≤65001∧j < b∧d'.size=d.size∧Sort.partLoop lt a i j d'=Sort.partLoop lt a (i2 + 1) (j2 - 1) d2∧Rw w' s d'∧Aa (Ai s) w w',⟨_,i2 + 1,j2 - 1,d2,rfl,rfl,by omega,by omega,by omega,hz2,rfl,hd4,hk04⟩,?_⟩;rintro _ _ w5 ⟨i,j,e1,rfl,rfl,hai,hi65,hjb,hze,hpe,he5,hk5⟩;dsimp only;rw [Sort.partLoop_eq] at hpe;refine Xv (by omega) he5 hk5 (fun x=>lt x e1[a]!) (j:=j) (by omega) ?_ (by omega) ?_
  ·intro i w2 J h2 hi hJ;exact I9 h2 (fun b=>b) rfl rfl (by simp;omega) (by simp;omega) (by congr 1;exact decide_eq_decide.2 (by omega)) hJ
  intro w6 he6 hk6;generalize hi3:Sort.scanUp (fun x=>lt x e1[a]!) e1 j i=i3 at hpe;have hi3a:i≤i3:=by rw [← hi3];exact Sort.scanUp_ge _ _ _ _
  refine QI (by omega) he6 hk6 (fun x=>!lt x e1[a]!) (i:=i3) (by omega) (by omega) ?_ ?_
  ·intro j w3 J h3 hj hJ;exact I9 h3 (fun b=>!b) rfl rfl (by simp;omega) (by simp;omega) (by congr 1;exact decide_eq_decide.2 (by omega)) hJ
  intro w7 he7 hk7;generalize hj3:Sort.scanDown (fun x=>!lt x e1[a]!) e1 i3 j=j3 at hpe;have hj3b:j3≤j:=by rw [← hj3];exact Sort.scanDown_le _ _ _ _
  by_cases hij3:i3 > j3
  ·rw [decide_eq_true (by omega)];rw [if_pos hij3] at hpe;simp only [Br];refine Rw.sw he7 rfl rfl (by omega) (by omega) ?_;intro w8 he8 hk8;rw [← hpe] at hR;exact hR _ _ ⟨rfl,he8,kt hk7 hk8⟩
  ·rw [decide_eq_false (by omega)];rw [if_neg hij3] at hpe;simp only [Br];refine Rw.sw he7 rfl rfl (by omega) (by omega) ?_;intro w8 he8 hk8;rw [AK (by omega),Ew (by omega) (by omega)];exact ⟨(j3 - 1) + 1 - (i3 + 1),by omega,i3 + 1,j3 - 1,_,rfl,rfl,by omega,by omega,by omega,by rw [size_swp];exact hze,hpe,he8,kt hk7 hk8⟩
theorem Pq {w:World} {s:Sl} {d:Array Int} (h:Rw w s d) {a b pivot:Nat} (hb:b≤d.size) (hN:d.size≤65000) (hap:a≤pivot) (hpb:pivot < b) :
  Cl Pg 195 [.slice s.p s.len s.cap,.int .i64 (a:Int),.int .i64 (b:Int),.int .i64 (pivot:Int)] false [.sc (.i .i64)]
   (fun r w'=>r.1=((Sort.partitionEqual lt d a b pivot).1:Int)∧Rw w' s (Sort.partitionEqual lt d a b pivot).2∧Aa (Ai s) w w') w:=by
 refine AR fun R hR=>?_;apply Dm;unfold Cc;dsimp only [Vu];refine Rw.sw h rfl rfl (by omega) (by omega) ?_;intro w1 hd1 hk1;unfold Sort.partitionEqual at hR;generalize hd:Sort.swp d a pivot=d1 at hd1 hR;have hz1:d1.size=d.size:=by rw [← hd,size_swp]
 rw [Ew (by omega) (by omega),AK (by omega)];refine ⟨fun m st w'=>∃ (i j:Nat) (d':Array Int),st=((i:Int),(j:Int),())∧m=j + 1 - i∧a < i∧i≤65001∧j < b∧d'.size=d.size∧Sort.partEqLoop lt a i j d'=Sort.partEqLoop lt a (a + 1) (b - 1) d1∧Rw w' s d'∧Aa (Ai s) w w',⟨_,a + 1,b - 1,d1,rfl,rfl,by omega,by omega,by omega,hz1,rfl,hd1,hk1⟩,?_⟩;rintro _ _ w5 ⟨i,j,e1,rfl,rfl,hai,hi65,hjb,hze,hpe,he5,hk5⟩;dsimp only;rw [Sort.partEqLoop_eq] at hpe;refine Xv (by omega) he5 hk5 (fun x=>!lt e1[a]! x) (j:=j) (by omega) ?_ (by omega) ?_
 ·intro i w2 J h2 hi hJ;exact I9 h2 (fun b=>!b) rfl rfl (by simp;omega) (by simp;omega) (by congr 1;exact decide_eq_decide.2 (by omega)) hJ
 intro w6 he6 hk6;generalize hi3:Sort.scanUp (fun x=>!lt e1[a]! x) e1 j i=i3 at hpe;have hi3a:i≤i3:=by rw [← hi3];exact Sort.scanUp_ge _ _ _ _
 refine QI (by omega) he6 hk6 (fun x=>lt e1[a]! x) (i:=i3) (by omega) (by omega) ?_ ?_
 ·intro j w3 J h3 hj hJ;exact I9 h3 (fun b=>b) rfl rfl (by simp;omega) (by simp;omega) (by congr 1;exact decide_eq_decide.2 (by omega)) hJ
 intro w7 he7 hk7;generalize hj3:Sort.scanDown (fun x=>lt e1[a]! x) e1 i3 j=j3 at hpe;have hj3b:j3≤j:=by rw [← hj3];exact Sort.scanDown_le _ _ _ _
 by_cases hij3:i3 > j3
 ·rw [decide_eq_true (by omega)];rw [if_pos hij3] at hpe;rw [← hpe] at hR;exact hR _ _ ⟨rfl,he7,hk7⟩
 ·rw [decide_eq_false (by omega)];rw [if_neg hij3] at hpe;simp only [Br];refine Rw.sw he7 rfl rfl (by omega) (by omega) ?_;intro w8 he8 hk8;rw [AK (by omega),Ew (by omega) (by omega)];exact ⟨(j3 - 1) + 1 - (i3 + 1),by omega,i3 + 1,j3 - 1,_,rfl,rfl,by omega,by omega,by omega,by rw [size_swp];exact hze,hpe,he8,kt hk7 hk8⟩
theorem N7 {w:World} {s:Sl} {d:Array Int} (h:Rw w s d) {a b:Nat} (hb:b≤d.size) (hN:d.size≤65000) (hab:a < b) :
  Cl Pg 193 [.slice s.p s.len s.cap,.int .i64 (a:Int),.int .i64 (b:Int)] false [.sc .b]
   (fun r w'=>r.1=(Sort.partialInsertionSort lt d a b).2∧Rw w' s (Sort.partialInsertionSort lt d a b).1∧Aa (Ai s) w w') w:=by
 refine AR fun R hR=>?_;apply C5;unfold B6;dsimp only [Vu];rw [AK (by omega)];unfold Sort.partialInsertionSort at hR;refine ⟨fun m st w'=>∃ (i t:Nat) (d':Array Int),st=(false,(i:Int),((5 - t:Nat):Int),())∧m=t∧t≤5∧a + 1≤i∧i≤b∧d'.size=d.size∧Sort.partialIns lt a b t i d'=Sort.partialIns lt a b 5 (a + 1) d∧Rw w' s d'∧Aa (Ai s) w w',⟨_,a + 1,5,d,rfl,rfl,Nat.le_refl _,Nat.le_refl _,by omega,rfl,rfl,h,Aa.refl _ _⟩,?_⟩;rintro t _ w1 ⟨i,_,d1,rfl,rfl,ht,hai,hib,hz1,he1,hd1,hk1⟩;dsimp only;cases t with
 | zero=>
  rw [decide_eq_false (by omega)];refine hR _ _ ⟨?_,?_,hk1⟩
  ·rw [← he1];rfl
  ·rw [← he1];exact hd1
 | succ t=>
  rw [decide_eq_true (by omega)];simp only [Br];rw [Sort.partialIns] at he1;refine AG (fun st w'=>∃ (i':Nat) (d':Array Int),st=(false,(i':Int),())∧a + 1≤i'∧i'≤b∧d'.size=d.size∧Sort.partialIns lt a b t i' d'=Sort.partialIns lt a b 5 (a + 1) d∧Rw w' s d'∧Aa (Ai s) w w') ?_ ?_
  ·intro J3 hJ3;refine QU (stp:=fun x=>An (x + 1)) (fun k w'=>i≤k∧k≤b∧Sort.scanSorted lt d1 b k=Sort.scanSorted lt d1 b i∧Rw w' s d1∧Aa (Ai s) w w') (fun k=>(k:Int)) (fun k=>decide (k < b) && !lt d1[k]! d1[k - 1]!) (fun k=>k + 1) (fun k=>b - k) ?_ ?_ ?_ ⟨Nat.le_refl _,hib,rfl,hd1,hk1⟩
   ·rintro k w2 ⟨h1,h2,h3,h4,h5⟩ J hJ;rw [Ew (by omega) (by omega)];exact I9 h4 (fun b=>!b) rfl rfl (by simp;omega) (by simp;omega) (by congr 1;exact decide_eq_decide.2 (by omega)) fun w3 h6 h7=>hJ w3 ⟨h1,h2,h3,h6,kt h5 h7⟩
   ·rintro k w2 ⟨h1,h2,h3,h4,h5⟩ hc;have hkb:k < b:=by simp at hc;exact hc.1
    refine ⟨AK (by omega),by omega,by omega,by omega,?_,h4,h5⟩;rw [← h3]
    conv=>rhs;rw [Sort.scanSorted,if_pos hc]
   ·rintro k w2 ⟨h1,h2,h3,h4,h5⟩ hc;have hk:Sort.scanSorted lt d1 b k=k:=by rw [Sort.scanSorted,if_neg (by rw [hc];simp)]
    rw [hk] at h3;simp only [← h3] at he1;by_cases hkb:k=b
    ·rw [show (((k:Int)) == (b:Int))=true from by simp [hkb]];rw [if_pos hkb] at he1;rw [← he1] at hR;exact hR _ _ ⟨rfl,h4,h5⟩
    ·rw [show (((k:Int)) == (b:Int))=false from by simp;omega];rw [if_neg hkb] at he1;simp only [Br];rw [N0 rfl rfl (by omega) (by omega)];by_cases h50:b - a < 50
     ·rw [decide_eq_true (by omega)];rw [if_pos h50] at he1;rw [← he1] at hR;exact hR _ _ ⟨rfl,h4,h5⟩
     ·rw [decide_eq_false (by omega)];rw [if_neg h50] at he1;simp only [Br];rw [Ew (by omega) (by omega)];refine Rw.sw h4 rfl rfl (by omega) (by omega) ?_;intro w3 hd3 hk3;generalize hdd:Sort.swp d1 k (k - 1)=d2 at hd3 he1;have hz2:d2.size=d.size:=by rw [← hdd,size_swp];exact hz1
      refine AG (fun _ w'=>∃ d3,d3.size=d.size∧(if k - a ≥ 2 then Sort.shiftDown lt (k - 1) d2 else d2)=d3∧Rw w' s d3∧Aa (Ai s) w w') ?_ ?_
      ·intro J15 hJ15;rw [N0 rfl rfl (by omega) (by omega)];by_cases hka:k - a ≥ 2
       ·rw [decide_eq_true (by omega)];rw [if_pos hka] at hJ15;simp only [Br];refine ⟨fun m st w'=>∃ (j:Nat) (d':Array Int),st=((j:Int),())∧m=j∧j < b∧d'.size=d.size∧Sort.shiftDown lt j d'=Sort.shiftDown lt (k - 1) d2∧Rw w' s d'∧Aa (Ai s) w w',⟨_,k - 1,d2,rfl,rfl,by omega,hz2,rfl,hd3,kt h5 hk3⟩,?_⟩;rintro j _ w4 ⟨_,d3,rfl,rfl,hjb,hz3,hs3,hd4,hk4⟩;dsimp only;cases j with
        | zero=>
         rw [decide_eq_false (by omega)];exact hJ15 _ _ ⟨d3,hz3,hs3.symm,hd4,hk4⟩
        | succ j=>
         rw [decide_eq_true (by omega)];simp only [Br,Dr];rw [Ew (by omega) (by omega),Nat.add_sub_cancel];have hkd:Aa (Ai s) w4 w4.drew:=(Aa.refl _ _).drew;refine Rw.rd (w:=w4.drew) hd4.dr rfl (by omega) ?_;refine Rw.rd (w:=w4.drew) hd4.dr rfl (by omega) ?_;refine Cl.mono (IF _ _) ?_;rintro ⟨r,_⟩ _ ⟨rfl,hr⟩;simp only at hr;rw [Sort.shiftDown] at hs3;cases hl:lt d3[j + 1]! d3[j]! with
         | false=>
          rw [hl] at hr hs3;subst hr;exact hJ15 _ _ ⟨d3,hz3,by rw [← hs3];rfl,hd4.dr,kt hk4 hkd⟩
         | true=>
          rw [hl] at hr hs3;subst hr;simp only [Bool.not_true];refine Rw.sw (w:=w4.drew) hd4.dr rfl rfl (by omega) (by omega) ?_;intro w5 hd5 hk5;exact ⟨j,by omega,j,_,rfl,rfl,by omega,by rw [size_swp];exact hz3,by simpa using hs3,hd5,kt (kt hk4 hkd) hk5⟩
       ·rw [decide_eq_false (by omega)];rw [if_neg hka] at hJ15;exact hJ15 _ _ ⟨d2,hz2,rfl,hd3,kt h5 hk3⟩
      ·rintro _ w4 ⟨d3,hz3,hs3,hd4,hk4⟩;simp only [hs3] at he1;rw [N0 rfl rfl (by omega) (by omega)];by_cases hkb2:b - k ≥ 2
       ·rw [decide_eq_true (by omega)];rw [if_pos hkb2] at he1;simp only [Br];rw [AK (by omega)];refine ⟨fun m st w'=>∃ (j:Nat) (d':Array Int),st=((j:Int),())∧m=b - j∧k + 1≤j∧j≤b∧d'.size=d.size∧Sort.shiftUp lt b j d'=Sort.shiftUp lt b (k + 1) d3∧Rw w' s d'∧Aa (Ai s) w w',⟨_,k + 1,d3,rfl,rfl,by omega,by omega,hz3,rfl,hd4,hk4⟩,?_⟩;rintro _ _ w5 ⟨j,d4,rfl,rfl,hkj,hjb,hz4,hs4,hd5,hk5⟩;dsimp only;rw [Sort.shiftUp] at hs4;by_cases hjb2:j < b
        ·rw [decide_eq_true (by omega)];rw [if_pos hjb2] at hs4;simp only [Br,Dr];rw [Ew (by omega) (by omega)];have hkd:Aa (Ai s) w5 w5.drew:=(Aa.refl _ _).drew;refine Rw.rd (w:=w5.drew) hd5.dr rfl (by omega) ?_;refine Rw.rd (w:=w5.drew) hd5.dr rfl (by omega) ?_;refine Cl.mono (IF _ _) ?_;rintro ⟨r,_⟩ _ ⟨rfl,hr⟩;simp only at hr;cases hl:lt d4[j]! d4[j - 1]! with
         | false=>
          rw [hl] at hr hs4;subst hr;refine hJ3 _ _ ⟨k,d4,rfl,by omega,by omega,hz4,?_,hd5.dr,kt hk5 hkd⟩;rw [← he1,← hs4];rfl
         | true=>
          rw [hl] at hr hs4;subst hr;simp only [Bool.not_true];refine Rw.sw (w:=w5.drew) hd5.dr rfl rfl (by omega) (by omega) ?_;intro w6 hd6 hk6;exact ⟨b - (j + 1),by omega,j + 1,_,by rw [AK (by omega)],rfl,by omega,by omega,by rw [size_swp];exact hz4,by simpa using hs4,hd6,kt (kt hk5 hkd) hk6⟩
        ·rw [decide_eq_false (by omega)];rw [if_neg hjb2] at hs4;refine hJ3 _ _ ⟨k,d4,rfl,by omega,by omega,hz4,?_,hd5,hk5⟩;rw [← he1,← hs4]
       ·rw [decide_eq_false (by omega)];rw [if_neg hkb2] at he1;exact hJ3 _ _ ⟨k,d3,rfl,by omega,by omega,hz3,he1,hd4,hk4⟩
  ·rintro _ w2 ⟨i',d',rfl,h1,h2,h3,h4,h5,h6⟩;refine ⟨t,by omega,i',t,d',?_,rfl,by omega,h1,h2,h3,h4,h5,h6⟩;rw [By (by omega) (by omega)]
   congr 3
   omega
open Go Go.Sx
theorem AjI (z:Int):∃ n:Nat,IntKind.u64.wrap z=(n:Int)∧n < 18446744073709551616:=by
 refine ⟨(z % 18446744073709551616).toNat,?_,?_⟩
 ·simp [IntKind.wrap,IntKind.signed,IntKind.bits];omega
 ·omega
def AkT (s:ByteArray):Bool:=(List.range 256).all fun i=>match s[i]? with
 | some b=>decide (b.toNat≤8) && (decide (i=0) || decide (2 ^ b.toNat≤2 * i))
 | none=>false
theorem AfQ {w:World} {s:ByteArray} (h:AkT s=true) {i:Nat} (hi:i < 256) {K:Int→Pr} (k:∀ b:Nat,b≤8→(1≤i→2 ^ b≤2 * i)→K (b:Int) w):IxS s (i:Int) K w:=by
 have:=(List.all_eq_true.1 h) i (List.mem_range.2 hi);refine ⟨by omega,?_⟩;rw [Int.toNat_natCast];split at this
 ·rename_i b hb;simp only [Bool.and_eq_true,Bool.or_eq_true,decide_eq_true_eq] at this;exact ⟨b,hb,k b.toNat this.1 (fun h1=>by rcases this.2 with h' | h';omega;exact h')⟩
 ·cases this
theorem Aeg {w:World} {x:Nat} (hx:x < 65536):Cl Pg 88 [.int .u64 (x:Int)] false [.sc (.i .i64)] (fun r w'=>∃ n:Nat,r.1=(n:Int)∧n≤16∧(1≤x→2 ^ n≤2 * x)∧w=w') w:=by
 refine AR fun R hR=>?_;apply OG;unfold Oj;dsimp only [Vu];refine Cl.mono (K:=fun (r:TR [.sc (.i .i64)]) w'=>∃ n:Nat,r.1=(n:Int)∧n≤16∧(1≤x→2 ^ n≤2 * x)∧w=w') ?_ (fun r w' h=>hR _ _ h);refine AR fun R' hR'=>?_;apply MB;unfold LH;refine AG (fun st w'=>st=((x:Int),0,())∧w=w') (fun J hJ=>?_) ?_
 ·rw [decide_eq_false (by omega)];exact hJ _ _ ⟨rfl,rfl⟩
 rintro _ _ ⟨rfl,rfl⟩;refine AG (fun st w'=>st=((x:Int),0,())∧w=w') (fun J hJ=>?_) ?_
 ·dsimp only;rw [decide_eq_false (by omega)];exact hJ _ _ ⟨rfl,rfl⟩
 rintro _ _ ⟨rfl,rfl⟩;refine AG (fun st w'=>∃ y m:Nat,st=((y:Int),(m:Int),())∧w=w'∧y < 256∧m≤8∧(1≤x→1≤y∧2 ^ m * y≤x)) (fun J hJ=>?_) ?_
 ·dsimp only;by_cases h:x ≥ 256
  ·rw [decide_eq_true (by omega)];simp only [Br];refine ⟨by decide,?_⟩;rw [show IW .u64 (x:Int) 8=((x >>> 8:Nat):Int) from PI .u64 x 8 (by decide)];rw [Nat.shiftRight_eq_div_pow];exact hJ _ _ ⟨x / 2 ^ 8,8,by rw [By (by omega) (by omega)];rfl,rfl,by omega,by omega,fun _=>⟨by omega,by omega⟩⟩
  ·rw [decide_eq_false (by omega)];exact hJ _ _ ⟨x,0,rfl,rfl,by omega,by omega,fun h=>⟨h,by omega⟩⟩
 ·rintro _ _ ⟨y,m,rfl,rfl,hy,hm,hxy⟩;dsimp only;rw [MR,Nat.mod_eq_of_lt hy];refine AfQ (by kernel_rfl) hy ?_;intro b hb hpb;rw [By (n:=(b:Int)) (by omega) (by omega),Oq rfl rfl (by omega)];refine hR' _ _ ⟨m + b,rfl,by omega,fun h=>?_,rfl⟩;obtain ⟨h1,h2⟩:=hxy h;have h3:=hpb h1;rw [Nat.pow_add]
  calc 2 ^ m * 2 ^ b≤2 ^ m * (2 * y):=Nat.mul_le_mul_left _ h3
   _=2 * (2 ^ m * y):=by rw [Nat.mul_left_comm]
   _≤2 * x:=Nat.mul_le_mul_left _ h2
theorem Aiy {w:World} {x:Nat} (hx:x < 65536) (h0:1≤x):Cl Pg 261 [.int .i64 (x:Int)] false [.sc (.i .u64)] (fun r w'=>∃ n:Nat,r.1=(n:Int)∧1≤n∧n≤2 * x∧w=w') w:=by
 refine AR fun R hR=>?_;apply Ho;unfold EX;dsimp only [Vu];rw [B1 (by omega)];refine Cl.mono (Aeg hx) ?_;rintro ⟨r,_⟩ _ ⟨n,hr,hn,hp,rfl⟩;simp only at hr;subst hr;refine ⟨by omega,?_⟩;rw [show Adw .u64 (1:Int) (n:Int)=((1 <<< n % 2 ^ 64:Nat):Int) from Af9 1 n (by omega)];rw [Nat.shiftLeft_eq,Nat.one_mul];have h2:2 ^ n≤2 ^ 16:=Nat.pow_le_pow_right (by omega) hn;have h3:1≤2 ^ n:=Nat.one_le_two_pow;rw [Nat.mod_eq_of_lt (by omega)];exact hR _ _ ⟨2 ^ n,rfl,h3,hp h0,rfl⟩
theorem AgM {w:World} {c:Nat} {t:TypeId} {x:Int} (h:w.heap[c]?=some (.cells #[.int .u64 x] t (0,0))) :
  Cl Pg 262 [.pointer (some ⟨c,0,none⟩)] false [.sc (.i .u64)] (fun r w'=>(∃ n:Nat,r.1=(n:Int)∧n < 18446744073709551616)∧(∃ y:Int,w'.heap[c]?=some (.cells #[.int .u64 y] t (0,0)))∧Aa [c] w w') w:=by
 refine AR fun R hR=>?_;apply Ia;unfold FL;dsimp only [Vu];simp only [Dr,Nn];have k0:Aa [c] w w.drew:=(Aa.refl _ _).drew;refine Lh (i:=0) (w:=w.drew) h rfl ?_;refine Lh (i:=0) (w:=w.drew) h rfl ?_;refine ⟨by decide,?_⟩;refine Ax (w:=w.drew) h 0 _ rfl (by simp) ?_;intro w1 h1 k1;have k1d:Aa [c] w w1.drew:=(k0.trans k1 (by simp)).drew;refine Lh (i:=0) (w:=w1.drew) h1 rfl ?_;refine Lh (i:=0) (w:=w1.drew) h1 rfl ?_;refine ⟨by decide,?_⟩;refine Ax (w:=w1.drew) h1 0 _ rfl (by simp) ?_;intro w2 h2 k2;have k2d:Aa [c] w w2.drew:=(k1d.trans k2 (by simp)).drew;refine Lh (i:=0) (w:=w2.drew) h2 rfl ?_;refine Lh (i:=0) (w:=w2.drew) h2 rfl ?_;refine ⟨by decide,?_⟩;refine Ax (w:=w2.drew) h2 0 _ rfl (by simp) ?_;intro w3 h3 k3;refine Lh (i:=0) h3 rfl ?_;refine hR _ _ ⟨?_,⟨_,h3⟩,k2d.trans k3 (by simp)⟩;obtain ⟨n,hn,hl⟩:=AjI (((BitVec.ofInt IntKind.u64.bits _) ^^^ (BitVec.ofInt IntKind.u64.bits _)).toNat:Int);exact ⟨n,hn,hl⟩
theorem Q5 {w:World} {s:Sl} {d:Array Int} (h:Rw w s d) {a b:Nat} (hb:b≤d.size) (hN:d.size≤65000) (hab:a + 12 < b) :
  Cl Pg 190 [.slice s.p s.len s.cap,.int .i64 (a:Int),.int .i64 (b:Int)] true [] (fun _ w'=>∃ d',Sort.PermIn a b d d'∧Rw w' s d'∧Aa (Ai s) w w') w:=by
 refine AR fun R hR=>?_;apply Dw;unfold Cf;dsimp only [Vi,Vp,Vu];rw [N0 rfl rfl (by omega) (by omega),decide_eq_true (by omega)];simp only [Br,At];generalize hc:w.heap.size=c;generalize hw1:w.alloc _=w1;have h1:w1.heap[c]?=some (.cells #[.int .u64 0] 315 (0,0)):=by rw [← hw1,← hc];exact Bt w _
 have k1:Aa [] w w1:=by rw [← hw1];exact (Aa.refl _ _).alloc _
 have hcs:c ∉ Ai s:=fun hh=>by have:=AE.lt h c hh;omega
 refine Ax h1 0 _ rfl (by simp) ?_;intro w2 h2 k2;have k02:Aa [] w w2:=k1.trans k2 (by simp;omega);have hd2:Rw w2 s d:=AE.keeps h k02 (by simp);refine Cl.mono (Aiy (x:=b - a) (by omega) (by omega)) ?_;rintro ⟨m,_⟩ _ ⟨m,hm,hm1,hm2,rfl⟩;simp only at hm;subst hm;refine ⟨by decide,?_⟩;rw [show ((b - a:Nat):Int).tdiv 4=(((b - a) / 4:Nat):Int) from TX _ 4];rw [Tx (n:=(b - a) / 4) (by omega)];rw [show An ((((b - a) / 4:Nat):Int) * 2)=(((b - a) / 4 * 2:Nat):Int) from by rw [By (by omega) (by omega)];omega];rw [Oq rfl rfl (by omega),Ew (by omega) (by omega),AK (by omega)];generalize hq:(b - a) / 4 * 2=q;have hqa:q ≥ 6:=by omega
 have hqb:a + q + 1 < b:=by omega
 have hwm:IntKind.u64.wrap ((m:Int) - 1)=((m - 1:Nat):Int):=by
  rw [show (m:Int) - 1=((m - 1:Nat):Int) from by omega];exact B1 (by omega)
 rw [hwm];have k02':Aa (c :: Ai s) w w2:=k02.mono (by simp);refine ⟨fun n st w'=>∃ (i:Nat) (d':Array Int),st=((i:Int),())∧n=a + q + 2 - i∧a + q - 1≤i∧i≤a + q + 2∧Sort.PermIn a b d d'∧Rw w' s d'∧(∃ y:Int,w'.heap[c]?=some (.cells #[.int .u64 y] 315 (0,0)))∧Aa (c :: Ai s) w w',⟨_,a + q - 1,d,rfl,rfl,Nat.le_refl _,by omega,Sort.permIn_refl _ _ _,hd2,⟨_,by simpa using h2⟩,k02'⟩,?_⟩;rintro _ _ w3 ⟨i,d1,rfl,rfl,hi1,hi2,hp1,hd3,⟨y,hy⟩,hk3⟩;dsimp only;have hz1:d1.size=d.size:=hp1.1;refine ⟨by decide,?_⟩;by_cases hi:i≤a + q + 1
 ·rw [decide_eq_true (by omega)];simp only [Br];refine Cl.mono (AgM hy) ?_;rintro ⟨r,_⟩ w4 ⟨⟨r,hr,hrl⟩,hy4,hk4⟩;simp only at hr;subst hr;have hd4:Rw w4 s d1:=AE.keeps hd3 hk4 (fun x hx=>by simp;rintro rfl;exact hcs hx);have hk04:Aa (c :: Ai s) w w4:=hk3.trans hk4 (by simp);rw [Ae3 (by omega) (by omega)];have hand:r &&& (m - 1)≤m - 1:=Nat.and_le_right;rw [Tx (by omega)];refine AG (fun st w'=>∃ o:Nat,st=((o:Int),())∧o < b - a∧w4=w') ?_ ?_
  ·intro J hJ;by_cases ho:(r &&& (m - 1)) ≥ b - a
   ·rw [decide_eq_true (by omega)];refine hJ _ _ ⟨_,by rw [N0 rfl rfl (by omega) (by omega)],by omega,rfl⟩
   ·rw [decide_eq_false (by omega)];exact hJ _ _ ⟨_,rfl,by omega,rfl⟩
  ·rintro _ _ ⟨o,rfl,ho,rfl⟩;rw [Oq rfl rfl (by omega)];refine Rw.sw hd4 rfl rfl (by omega) (by omega) ?_;intro w5 hd5 hk5;refine ⟨a + q + 2 - (i + 1),by omega,i + 1,_,by rw [AK (by omega)],rfl,by omega,by omega,Sort.permIn_trans _ _ _ _ _ hp1 (Sort.swp_permIn _ _ _ _ _ (by omega) (by omega) (by omega) (by omega) (by omega)),hd5,?_,hk04.trans hk5 (fun x hx=>.inl (by simp [hx]))⟩;obtain ⟨y4,hy4⟩:=hy4;exact ⟨y4,hk5.at hy4 hcs⟩
 ·rw [decide_eq_false (by omega)];refine hR _ _ ⟨d1,hp1,hd3,hk3.mono (fun x hx=>?_)⟩;rcases List.mem_cons.1 hx with rfl | hx
  ·right;omega
  ·exact .inl hx
def Cnt (w:World) (c:Nat):Prop:=∃ y:Int,w.heap[c]?=some (.cells #[.int .i64 y] 3 (0,0))
theorem Q0 {w:World} {s:Sl} {d:Array Int} (h:Rw w s d) {c:Nat} (hc:Cnt w c) (hcs:c ∉ Ai s) {a b:Nat} (ha:a < d.size) (hb:b < d.size) :
  Cl Pg 292 [.slice s.p s.len s.cap,.int .i64 (a:Int),.int .i64 (b:Int),.pointer (some ⟨c,0,none⟩)] true [.sc (.i .i64),.sc (.i .i64)]
   (fun r w'=>(r=((a:Int),(b:Int),())∨r=((b:Int),(a:Int),()))∧Cnt w' c∧Rw w' s d∧Aa [c] w w') w:=by
 refine AR fun R hR=>?_;apply EF;unfold Dt;dsimp only [Vi,Vu];obtain ⟨y,hy⟩:=hc;simp only [Dr];have k0:Aa [c] w w.drew:=(Aa.refl _ _).drew;refine Rw.rd (w:=w.drew) h.dr rfl hb ?_;refine Rw.rd (w:=w.drew) h.dr rfl ha ?_;refine Cl.mono (IF _ _) ?_;rintro ⟨r,_⟩ _ ⟨rfl,hr⟩;simp only at hr;cases hl:lt d[b]! d[a]! with
 | false=>
  rw [hl] at hr;subst hr;exact hR _ _ ⟨.inl rfl,⟨y,hy⟩,h.dr,k0⟩
 | true=>
  rw [hl] at hr;subst hr;simp only [Br,Nn];refine Lh (i:=0) (w:=w.drew) hy rfl ?_;refine Ax (w:=w.drew) hy 0 _ rfl (by simp) ?_;intro w1 h1 k1;have k01:Aa [c] w w1:=k0.trans k1 (by simp);exact hR _ _ ⟨.inr rfl,⟨_,h1⟩,AE.keeps h k01 (fun x hx=>by simp;rintro rfl;exact hcs hx),k01⟩
theorem Wi {w:World} {s:Sl} {d:Array Int} (h:Rw w s d) {c:Nat} (hc:Cnt w c) (hcs:c ∉ Ai s) {i j k:Nat} (hi:i < d.size) (hj:j < d.size) (hk:k < d.size) :
  Cl Pg 264 [.slice s.p s.len s.cap,.int .i64 (i:Int),.int .i64 (j:Int),.int .i64 (k:Int),.pointer (some ⟨c,0,none⟩)] false [.sc (.i .i64)]
   (fun r w'=>(∃ p:Nat,r.1=(p:Int)∧(p=i∨p=j∨p=k))∧Cnt w' c∧Rw w' s d∧Aa [c] w w') w:=by
 refine AR fun R hR=>?_;apply EN;unfold Ds;dsimp only [Vi,Vp,Vs];refine Cl.mono (Q0 h hc hcs hi hj) ?_;rintro r1 w1 ⟨hr1,hc1,hd1,hk1⟩;obtain ⟨p,q,rfl,hpq⟩:∃ p q:Nat,r1=((p:Int),(q:Int),())∧((p=i∧q=j)∨(p=j∧q=i)):=by
  rcases hr1 with rfl | rfl
  ·exact ⟨i,j,rfl,.inl ⟨rfl,rfl⟩⟩
  ·exact ⟨j,i,rfl,.inr ⟨rfl,rfl⟩⟩
 dsimp only;refine Cl.mono (Q0 hd1 hc1 hcs (a:=q) (b:=k) (by omega) hk) ?_;rintro r2 w2 ⟨hr2,hc2,hd2,hk2⟩;obtain ⟨u,v,rfl,huv⟩:∃ u v:Nat,r2=((u:Int),(v:Int),())∧((u=q∧v=k)∨(u=k∧v=q)):=by
  rcases hr2 with rfl | rfl
  ·exact ⟨q,k,rfl,.inl ⟨rfl,rfl⟩⟩
  ·exact ⟨k,q,rfl,.inr ⟨rfl,rfl⟩⟩
 dsimp only;refine Cl.mono (Q0 hd2 hc2 hcs (a:=p) (b:=u) (by omega) (by omega)) ?_;rintro r3 w3 ⟨hr3,hc3,hd3,hk3⟩;refine hR _ _ ⟨?_,hc3,hd3,(hk1.trans hk2 (by simp)).trans hk3 (by simp)⟩;rcases hr3 with rfl | rfl
 ·exact ⟨u,rfl,by omega⟩
 ·exact ⟨p,rfl,by omega⟩
theorem Aaw {w:World} {s:Sl} {d:Array Int} (h:Rw w s d) (hN:d.size≤65000) {c:Nat} (hc:Cnt w c) (hcs:c ∉ Ai s) {i:Nat} (hi:1≤i) (hi1:i + 1 < d.size) :
  Cl Pg 263 [.slice s.p s.len s.cap,.int .i64 (i:Int),.pointer (some ⟨c,0,none⟩)] false [.sc (.i .i64)]
   (fun r w'=>(∃ p:Nat,r.1=(p:Int)∧i - 1≤p∧p≤i + 1)∧Cnt w' c∧Rw w' s d∧Aa [c] w w') w:=by
 refine AR fun R hR=>?_;apply Dg;unfold Cb;dsimp only [Vi,Vp,Vs];rw [Ew (by omega) (by omega),AK (by omega)];refine Cl.mono (Wi h hc hcs (by omega) (by omega) (by omega)) ?_;rintro ⟨r,_⟩ w1 ⟨⟨p,hp,hpp⟩,h2,h3,h4⟩;exact hR _ _ ⟨⟨p,hp,by omega,by omega⟩,h2,h3,h4⟩
theorem Ua {w:World} {s:Sl} {d:Array Int} (h:Rw w s d) {a b:Nat} (hb:b≤d.size) (hN:d.size≤65000) (hab:a + 12 < b) :
  Cl Pg 191 [.slice s.p s.len s.cap,.int .i64 (a:Int),.int .i64 (b:Int)] true [.sc (.i .i64),.sc (.i .i64)]
   (fun r w'=>(∃ p:Nat,r.1=(p:Int)∧a≤p∧p < b)∧Rw w' s d∧Aa [] w w') w:=by
 refine AR fun R hR=>?_;apply DM;unfold Cx;dsimp only [Vi,Vp,Vs];simp only [At];generalize hc:w.heap.size=c;generalize hw1:w.alloc _=w1;have h1:Cnt w1 c:=⟨0,by rw [← hw1,← hc];exact Bt w _⟩;have k1:Aa [] w w1:=by rw [← hw1];exact (Aa.refl _ _).alloc _
 have hcs:c ∉ Ai s:=fun hh=>by have:=AE.lt h c hh;omega
 have hd1:Rw w1 s d:=h.keeps k1;refine ⟨by decide,by decide,by decide,?_⟩;rw [N0 rfl rfl (by omega) (by omega)];rw [show ((b - a:Nat):Int).tdiv 4=(((b - a) / 4:Nat):Int) from TX _ 4];rw [Tx (n:=(b - a) / 4) (by omega)];generalize hq:(b - a) / 4=q;have hq3:3≤q:=by omega
 have hq4:a + q * 3 + 1 < b:=by omega
 rw [show An ((q:Int) * 1)=((q:Nat):Int) from by rw [By (by omega) (by omega)];omega];rw [show An ((q:Int) * 2)=((q * 2:Nat):Int) from by rw [By (by omega) (by omega)];omega];rw [show An ((q:Int) * 3)=((q * 3:Nat):Int) from by rw [By (by omega) (by omega)];omega];rw [Oq (i:=a) (j:=q) rfl rfl (by omega),Oq (i:=a) (j:=q * 2) rfl rfl (by omega),Oq (i:=a) (j:=q * 3) rfl rfl (by omega)];have kc:∀ {w':World},Aa [c] w1 w'→Aa [] w w':=fun k=>k1.trans k (by simp;omega);refine AG (fun st w'=>(∃ p:Nat,st=((p:Int),())∧a≤p∧p < b)∧Cnt w' c∧Rw w' s d∧Aa [] w w') ?_ ?_
 ·intro J2 hJ2;rw [decide_eq_true (by omega)];simp only [Br];refine AG (fun st w'=>(∃ i j k:Nat,st=((i:Int),(j:Int),(k:Int),())∧a≤i∧i < b∧a≤j∧j < b∧a≤k∧k < b)∧Cnt w' c∧Rw w' s d∧Aa [c] w1 w') ?_ ?_
  ·intro J5 hJ5;by_cases h50:b - a ≥ 50
   ·rw [decide_eq_true (by omega)];simp only [Br];refine Cl.mono (Aaw hd1 hN h1 hcs (by omega) (by omega)) ?_;rintro ⟨r8,_⟩ w2 ⟨⟨i,hi,hi1,hi2⟩,hc2,hd2,hk2⟩;simp only at hi;subst hi;refine Cl.mono (Aaw hd2 hN hc2 hcs (by omega) (by omega)) ?_;rintro ⟨r9,_⟩ w3 ⟨⟨j,hj,hj1,hj2⟩,hc3,hd3,hk3⟩;simp only at hj;subst hj;refine Cl.mono (Aaw hd3 hN hc3 hcs (by omega) (by omega)) ?_;rintro ⟨r10,_⟩ w4 ⟨⟨k,hk,hk1,hk2'⟩,hc4,hd4,hk4⟩;simp only at hk;subst hk;exact hJ5 _ _ ⟨⟨i,j,k,rfl,by omega,by omega,by omega,by omega,by omega,by omega⟩,hc4,hd4,(hk2.trans hk3 (by simp)).trans hk4 (by simp)⟩
   ·rw [decide_eq_false (by omega)];exact hJ5 _ _ ⟨⟨_,_,_,rfl,by omega,by omega,by omega,by omega,by omega,by omega⟩,h1,hd1,Aa.refl _ _⟩
  ·rintro _ w2 ⟨⟨i,j,k,rfl,hi1,hi2,hj1,hj2,hk1,hk2⟩,hc2,hd2,hk⟩;dsimp only;refine Cl.mono (Wi hd2 hc2 hcs (by omega) (by omega) (by omega)) ?_;rintro ⟨r,_⟩ w3 ⟨⟨p,hp,hpp⟩,hc3,hd3,hk3⟩;simp only at hp;subst hp;exact hJ2 _ _ ⟨⟨p,rfl,by omega,by omega⟩,hc3,hd3,kc (hk.trans hk3 (by simp))⟩
 ·rintro _ w2 ⟨⟨p,rfl,hp1,hp2⟩,⟨y,hy⟩,hd2,hk2⟩;refine Lh (i:=0) hy rfl ?_;refine Afz (fun _=>?_) (fun _=>Afz (fun _=>?_) (fun _=>?_)) <;> exact hR _ _ ⟨⟨p,rfl,hp1,hp2⟩,hd2,hk2⟩
theorem AiP {s:Sl}:∀ (n:Nat) {w:World} {d:Array Int} (_h:Rw w s d) {a b lim:Nat} (_hb:b≤d.size) (_hN:d.size≤65000) (_hab:a≤b) (_hn:b - a≤n) (_hl:lim≤65000) (_hB:Sort.Below lt a b d),
  Cl Pg 87 [.slice s.p s.len s.cap,.int .i64 (a:Int),.int .i64 (b:Int),.int .i64 (lim:Int)] true [] (fun _ w'=>∃ d',Sort.PermIn a b d d'∧Sort.SortedIn lt a b d'∧Rw w' s d'∧Aa (Ai s) w w') w:=by
 intro n;induction n using Nat.strongRecOn with
 | _ n ih=>
 intro w d h a b lim hb hN hab hn hl hB;have hS:=Sort.swo_ltInt;refine AR fun R hR=>?_;apply Et;unfold Dc;dsimp only [Vi,Vs,Vu];refine ⟨fun m st w'=>∃ (a' b' l':Nat) (wb wp:Bool) (d':Array Int),st=((a':Int),(b':Int),(l':Int),wb,wp,())∧m=b' - a'∧m≤n∧a'≤b'∧b'≤d.size∧l'≤65000∧d'.size=d.size∧Sort.Below lt a' b' d'∧(∀ R,Sort.PermIn a' b' d' R→Sort.SortedIn lt a' b' R→Sort.PermIn a b d R∧Sort.SortedIn lt a b R)∧Rw w' s d'∧Aa (Ai s) w w',⟨_,a,b,lim,true,true,d,rfl,rfl,hn,hab,hb,hl,rfl,hB,fun R h1 h2=>⟨h1,h2⟩,h,Aa.refl _ _⟩,?_⟩;rintro _ _ w1 ⟨a,b,lim,wb,wp,d1,rfl,rfl,hmn,hab,hbd,hlim,hz1,hB1,hend,hd1,hk1⟩;dsimp only;rw [N0 rfl rfl hab (by omega)];by_cases h12:b - a≤12
 ·rw [decide_eq_true (by omega)];simp only [Br];refine Cl.mono (Xl hd1 (by omega) (by omega) hab) ?_;rintro _ w2 ⟨hd2,hk2⟩;obtain ⟨p1,p2⟩:=Sort.insertionSort_holds hS d1 a b hab (by omega);obtain ⟨e1,e2⟩:=hend _ p1 p2;exact hR _ _ ⟨_,e1,e2,hd2,kt hk1 hk2⟩
 rw [decide_eq_false (by omega)];simp only [Br];by_cases hl0:lim=0
 ·rw [show ((lim:Int) == 0)=true from by simp [hl0]];simp only;refine Cl.mono (YK hd1 (by omega) (by omega) (by omega)) ?_;rintro _ w2 ⟨hd2,hk2⟩;obtain ⟨p1,p2⟩:=Sort.heapSort_holds hS d1 a b hab (by omega);obtain ⟨e1,e2⟩:=hend _ p1 p2;exact hR _ _ ⟨_,e1,e2,hd2,kt hk1 hk2⟩
 rw [show ((lim:Int) == 0)=false from by simp;omega];simp only;refine AG (fun st w'=>∃ (l':Nat) (d':Array Int),st=((l':Int),())∧l'≤65000∧Sort.PermIn a b d1 d'∧Rw w' s d'∧Aa (Ai s) w w') ?_ ?_
 ·intro J hJ;cases wb with
  | true=>exact hJ _ _ ⟨lim,d1,rfl,hlim,Sort.permIn_refl _ _ _,hd1,hk1⟩
  | false=>
   simp only [Bool.not_false];refine Cl.mono (Q5 hd1 (by omega) (by omega) (by omega)) ?_;rintro _ w2 ⟨d2,hp2,hd2,hk2⟩;exact hJ _ _ ⟨lim - 1,d2,by rw [Ew (by omega) (by omega)],by omega,hp2,hd2,kt hk1 hk2⟩
 rintro _ w2 ⟨l2,d2,rfl,hl2,hp2,hd2,hk2⟩;have hz2:d2.size=d.size:=by rw [hp2.1];exact hz1
 dsimp only;refine Cl.mono (Ua hd2 (by omega) (by omega) (by omega)) ?_;rintro ⟨r7,hint,_⟩ w3 ⟨⟨p,hp,hpa,hpb⟩,hd3,hk3⟩;simp only at hp;subst hp;have hk03:Aa (Ai s) w w3:=hk2.trans hk3 (by simp);refine AG (fun st w'=>∃ (p':Nat) (hint':Int) (d':Array Int),st=((p':Int),hint',())∧a≤p'∧p' < b∧Sort.PermIn a b d1 d'∧Rw w' s d'∧Aa (Ai s) w w') ?_ ?_
 ·intro J hJ;dsimp only;refine Afz (fun _=>?_) (fun _=>hJ _ _ ⟨p,hint,d2,rfl,hpa,hpb,hp2,hd3,hk03⟩);refine Cl.mono (AaL hd3 (by omega) (by omega) (by omega)) ?_;rintro _ w4 ⟨hd4,hk4⟩;refine hJ _ _ ⟨b - 1 - (p - a),1,_,?_,by omega,by omega,Sort.permIn_trans _ _ _ _ _ hp2 (Sort.reverseRange_holds d2 a b hab (by omega)),hd4,kt hk03 hk4⟩;rw [Ew (by omega) (by omega),N0 (i:=p) rfl rfl (by omega) (by omega),N0 rfl rfl (by omega) (by omega)]
 rintro _ w4 ⟨p4,hint4,d4,rfl,hp4a,hp4b,hp4,hd4,hk4⟩;have hz4:d4.size=d.size:=by rw [hp4.1];exact hz1
 dsimp only;refine AG (fun _ w'=>∃ (d':Array Int),Sort.PermIn a b d1 d'∧Rw w' s d'∧Aa (Ai s) w w') ?_ ?_
 ·intro J10 hJ10;refine AG (fun st w'=>∃ c:Bool,st=(c,())∧w4=w') ?_ ?_
  ·intro J hJ;cases wb with
   | false=>exact hJ _ _ ⟨_,rfl,rfl⟩
   | true=>
    cases wp with
    | false=>exact hJ _ _ ⟨_,rfl,rfl⟩
    | true=>exact hJ _ _ ⟨_,rfl,rfl⟩
  ·rintro _ _ ⟨c,rfl,rfl⟩;cases c with
   | false=>exact hJ10 _ _ ⟨d4,hp4,hd4,hk4⟩
   | true=>
    simp only;refine Cl.mono (N7 hd4 (by omega) (by omega) (by omega)) ?_;rintro ⟨r,_⟩ w5 ⟨hr,hd5,hk5⟩;simp only at hr;obtain ⟨e1,e2⟩:=Sort.partialInsertionSort_holds hS d4 a b (by omega) (by omega) (Sort.Below.perm hB1 (by omega) hp4);have hp5:=Sort.permIn_trans _ _ _ _ _ hp4 e1;cases r with
    | true=>
     obtain ⟨f1,f2⟩:=hend _ hp5 (e2 hr.symm);exact hR _ _ ⟨_,f1,f2,hd5,kt hk4 hk5⟩
    | false=>exact hJ10 _ _ ⟨_,hp5,hd5,kt hk4 hk5⟩
 rintro _ w5 ⟨d5,hp5,hd5,hk5⟩;have hz5:d5.size=d.size:=by rw [hp5.1];exact hz1
 have hB5:=Sort.Below.perm hB1 (by omega) hp5;have hend5:∀ R,Sort.PermIn a b d5 R→Sort.SortedIn lt a b R→Sort.PermIn _ _ d R∧Sort.SortedIn lt _ _ R:=fun R h1 h2=>hend R (Sort.permIn_trans _ _ _ _ _ hp5 h1) h2;refine AG (fun st w'=>st=(decide (a > 0) && !lt d5[a - 1]! d5[p4]!,())∧Rw w' s d5∧Aa (Ai s) w w') ?_ ?_
 ·intro J hJ;by_cases ha0:a > 0
  ·rw [Ew (by omega) (by omega)];exact I9 hd5 (fun b=>!b) rfl rfl (by omega) (by omega) (by congr 1;exact decide_eq_decide.2 (by omega)) fun w6 h6 k6=>hJ _ _ ⟨rfl,h6,kt hk5 k6⟩
  ·rw [decide_eq_false (show ¬ ((a:Int) > 0) by omega)];rw [decide_eq_false ha0,Bool.false_and] at hJ;simp only [Dr];exact hJ _ _ ⟨rfl,hd5.dr,kt hk5 ((Aa.refl _ _).drew)⟩
 rintro _ w6 ⟨rfl,hd6,hk6⟩;cases hc:(decide (a > 0) && !lt d5[a - 1]! d5[p4]!) with
 | true=>
  simp only [Bool.and_eq_true,decide_eq_true_eq,Bool.not_eq_true'] at hc;simp only;refine Cl.mono (Pq hd6 (by omega) (by omega) hp4a hp4b) ?_;rintro ⟨r,_⟩ w7 ⟨hr,hd7,hk7⟩;simp only at hr;cases hpe:Sort.partitionEqual lt d5 a b p4 with
  | mk mid d7=>
  rw [hpe] at hr hd7;subst hr;obtain ⟨g1,g2,g3,g4,g5⟩:=Sort.round_eq hS (Sort.partitionEqual_holds lt) hc.1 hp4a hp4b (by omega) hB5 hc.2 hpe;exact ⟨b - mid,by omega,mid,b,l2,wb,wp,d7,rfl,rfl,by omega,g2,hbd,hl2,by rw [g3];exact hz5,g4,fun R h1 h2=>by obtain ⟨e1,e2⟩:=g5 R h1 h2;exact hend5 R e1 e2,hd7,kt hk6 hk7⟩
 | false=>
  simp only;refine Cl.mono (Yc hd6 (by omega) (by omega) hp4a hp4b) ?_;rintro ⟨r,ap,_⟩ w7 ⟨hr,hd7,hk7⟩;simp only at hr;cases hpt:Sort.partition lt d5 a b p4 with
  | mk mid q=>
  obtain ⟨ap',d7⟩:=q;rw [hpt] at hr hd7;subst hr;obtain ⟨g1,g2,g3,g4,g5,g6,g7⟩:=Sort.round_part hS (Sort.partition_holds lt) hp4a hp4b (by omega) hB5 hpt;dsimp only at hd7 ⊢;refine ⟨by decide,?_⟩;rw [N0 rfl rfl g1 (by omega),N0 rfl rfl (by omega) (by omega),AK (by omega)];have hk07:=kt hk6 hk7;by_cases hlt:mid - a < b - mid
  ·rw [decide_eq_true (by omega)];simp only [Br];refine Cl.mono (ih (mid - a) (by omega) hd7 (lim:=l2) (by omega) (by omega) g1 (Nat.le_refl _) hl2 g4) ?_;rintro _ w8 ⟨d8,e1,e2,hd8,hk8⟩;obtain ⟨f1,f2⟩:=g6 d8 e1 e2;exact ⟨b - (mid + 1),by omega,mid + 1,b,l2,_,ap,d8,rfl,rfl,by omega,by omega,hbd,hl2,by rw [e1.1,g3];exact hz5,f1,fun R h1 h2=>by obtain ⟨e1,e2⟩:=f2 R h1 h2;exact hend5 R e1 e2,hd8,kt hk07 hk8⟩
  ·rw [decide_eq_false (by omega)];simp only [Br];refine Cl.mono (ih (b - (mid + 1)) (by omega) hd7 (lim:=l2) (by omega) (by omega) (by omega) (Nat.le_refl _) hl2 g5) ?_;rintro _ w8 ⟨d8,e1,e2,hd8,hk8⟩;obtain ⟨f1,f2⟩:=g7 d8 e1 e2;exact ⟨mid - a,by omega,a,mid,l2,_,ap,d8,rfl,rfl,by omega,g1,by omega,hl2,by rw [e1.1,g3];exact hz5,f1,fun R h1 h2=>by obtain ⟨e1,e2⟩:=f2 R h1 h2;exact hend5 R e1 e2,hd8,kt hk07 hk8⟩
theorem AbH {w:World} {s:Sl} {l:List Int} (h:AE w s 1 (cU l)) (hN:l.length≤65000) :
  Cl Pg 37 [.slice s.p s.len s.cap] true [] (fun _ w'=>∃ l',l'.Perm l∧l'.Pairwise (·≤·)∧AE w' s 1 (cU l')∧Aa (Ai s) w w') w:=by
 refine AR fun R hR=>?_;have hl:=DJ h;apply Kn;unfold GW;dsimp only [Vi,Vs,Vu];rw [hl,B1 (by omega)];refine Cl.mono (Aeg (by omega)) ?_;rintro ⟨r,_⟩ _ ⟨n,hr,hn,_,rfl⟩;simp only at hr;subst hr;have h':Rw w s l.toArray:=h;have:=AiP (s:=s) l.length h' (a:=0) (b:=l.length) (lim:=n) (by simp) (by simpa using hN) (by omega) (by omega) (by omega) (.inl rfl);rw [hl] at this;refine Cl.mono this ?_;rintro _ w1 ⟨d',hp,hs,hd,hk⟩;have hz:d'.size=l.length:=by rw [hp.1];simp
 refine hR _ _ ⟨d'.toList,?_,?_,hd,hk⟩
 ·have:=hp.2.2;rw [Array.toList_extract,Array.toList_extract] at this;simp only [List.extract_eq_take_drop,List.drop_zero,Nat.sub_zero] at this;rw [List.take_of_length_le (by simp [hz]),List.take_of_length_le (by simp)] at this;exact this
 ·rw [List.pairwise_iff_getElem];intro i j hi hj hij;rw [Array.length_toList,hz] at hi hj;have:=hs i j (by omega) hij (by omega);rw [getElem!_pos d' j (by omega),getElem!_pos d' i (by omega)] at this;simp [lt,Sort.ltInt] at this;simpa using this
open Go Go.Sx
theorem RT {w:World} {s:Sl} {l:List Int} (h:AE w s 1 (cU l)) {j:Nat} {x:Int} (hj:l[j]?=some x) {K:Int→Pr} (k:K x w):Ix s (j:Int) 1 (fun a=>A2 .u64 a K) w:=by
 have hlt:=(List.getElem?_eq_some_iff.1 hj).1;have hl:=DJ h;obtain ⟨b,o,hp,_⟩:=h.base (by omega);rw [G5 hp (by omega) (by omega),Int.toNat_natCast,Nat.mul_one,RZ,h.read hp (by rw [Rf];exact hlt),cU,List.getElem?_map,hj];simp only [Option.map_some,sx];exact k
theorem Akb {w:World} {s:Sl} {l:List Int} (h:AE w s 1 (cU l)) {j:Nat} (hj:j < l.length) (x:Int) {K:Pr} (k:∀ w',AE w' s 1 (cU (l.set j x))→Aa (Ai s) w w'→K w'):Ix s (j:Int) 1 (fun a=>St a (.int .u64 x) K) w:=by
 have hl:=DJ h;obtain ⟨b,o,hp,hb⟩:=h.base (by omega);rw [G5 hp (by omega) (by omega),Int.toNat_natCast,Nat.mul_one];refine h.write hp (by rw [Rf];exact hj) rfl ?_;intro w' h1 h2;refine k w' ?_ (by rw [hb];exact h2);rw [cU,List.map_set];exact h1
theorem VO:∀ {a b:List Int},a.Pairwise (· < ·)→b.Pairwise (· < ·)→(∀ x,x∈a ↔ x∈b)→a=b:=by
 intro a b ha hb h;have pa:a.Nodup:=ha.imp (fun h=>by omega);have pb:b.Nodup:=hb.imp (fun h=>by omega);have hp:a.Perm b:=(List.perm_ext_iff_of_nodup pa pb).2 h;exact hp.eq_of_pairwise (fun x y _ _ h1 h2=>by omega) ha hb
theorem AaR {w:World} {s:Sl} {l:List Int} (h:AE w s 1 (cU l)) (hs:l.Pairwise (·≤·)) (hN:l.length≤65000) :
  Cl Pg 200 [.slice s.p s.len s.cap] false [.sc .sl] (fun r w'=>∃ l',AE w' r.1 1 (cU l')∧l'.Pairwise (· < ·)∧(∀ x,x∈l' ↔ x∈l)∧(∀ x∈Ai r.1,x∈Ai s)∧Aa (Ai s) w w') w:=by
 refine AR fun R hR=>?_;have hl:=DJ h;have hc:=h.cap;apply Hi;unfold EY;dsimp only [Vu];by_cases h2:s.len < 2
 ·rw [decide_eq_true (by omega)];refine hR (s,()) _ ⟨l,h,?_,fun _=>Iff.rfl,fun _ hx=>hx,Aa.refl _ _⟩
  match l,hl with
  | [],_=>simp
  | [a],_=>simp
  | a :: b :: t,hl=>simp at hl;omega
 rw [decide_eq_false (by omega)];simp only [Ae];have get:∀ j,j < l.length→∃ x,l[j]?=some x:=fun j hj=>⟨_,List.getElem?_eq_getElem hj⟩;have le_of:∀ {i j:Nat} {x y:Int},i < j→l[i]?=some x→l[j]?=some y→x≤y:=by
  intro i j x y hij hx hy;obtain ⟨h1,e1⟩:=List.getElem?_eq_some_iff.1 hx;obtain ⟨h2,e2⟩:=List.getElem?_eq_some_iff.1 hy;have:=List.pairwise_iff_getElem.1 hs i j h1 h2 hij;rw [e1,e2] at this;exact this
 have step:∀ {j:Nat} {x y:Int} {p:List Int},0 < j→l[j - 1]?=some x→l[j]?=some y→p.Pairwise (· < ·)→(∀ z,z∈p ↔ z∈l.take j)→x ≠ y→(p ++ [y]).Pairwise (· < ·)∧∀ z,z∈p ++ [y] ↔ z∈l.take (j + 1):=by
  intro j x y p hj hx hy hp hm hne;refine ⟨?_,fun z=>?_⟩
  ·rw [List.pairwise_append];refine ⟨hp,by simp,fun a ha b hb=>?_⟩;simp at hb;subst hb;obtain ⟨i,hi⟩:=List.getElem?_of_mem ((hm a).1 ha);rw [List.getElem?_take] at hi;split at hi
   ·rename_i hij;have h1:=le_of (show j - 1 < j by omega) hx hy;by_cases h3:i=j - 1
    ·subst h3;rw [hx] at hi;injection hi with hi;omega
    ·have h4:=le_of (show i < j - 1 by omega) hi hx;omega
   ·cases hi
  ·rw [List.mem_append,hm,List.take_add_one,hy];simp
 have skip:∀ {j:Nat} {x y:Int} {p:List Int},0 < j→l[j - 1]?=some x→l[j]?=some y→(∀ z,z∈p ↔ z∈l.take j)→x=y→∀ z,z∈p ↔ z∈l.take (j + 1):=by
  intro j x y p hj hx hy hm e z;subst e;rw [hm,List.take_add_one,hy];simp;rintro rfl;refine List.mem_of_getElem? (i:=j - 1) ?_;rw [List.getElem?_take,if_pos (by omega)];exact hx
 refine ⟨fun n st w'=>∃ (q:Sl) (j:Nat),st=(q,(j:Int),())∧n=l.length - j∧1≤j∧j≤l.length∧(l.take j).Pairwise (· < ·)∧Aa [] w w',⟨_,⟨none,0,0⟩,1,rfl,rfl,by omega,by omega,?_,Aa.refl _ _⟩,?_⟩
 ·obtain ⟨x,hx⟩:=get 0 (by omega);rw [List.take_add_one,hx];simp
 rintro n _ w1 ⟨q,j,rfl,rfl,hj1,hj,hpw,k1⟩;dsimp only;have h1:=h.keeps k1 (by simp);by_cases hlt:j < l.length
 ·rw [decide_eq_true (by omega)];simp only [Af,Dr];have kd:Aa [] w w1.drew:=k1.drew;have hd:=h.keeps kd (by simp);obtain ⟨y,hy⟩:=get j hlt;obtain ⟨x,hx⟩:=get (j - 1) (by omega);refine RT hd hy ?_;rw [Ew (by omega) (by omega)];refine RT hd hx ?_;by_cases hxy:x=y
  ·rw [show (y == x)=true from by simp [hxy]];simp only [Af];refine ⟨⟨by omega,by omega⟩,?_⟩;simp only [Int.toNat_natCast]
   refine ⟨fun n st w'=>∃ (i k:Nat) (cur:List Int),st=((i:Int),(k:Int),())∧n=l.length - (j + k)∧1≤k∧j + k≤l.length∧i < j + k∧cur.length=l.length∧(cur.take i).Pairwise (· < ·)∧(∀ z,z∈cur.take i ↔ z∈l.take (j + k))∧cur.drop (j + k - 1)=l.drop (j + k - 1)∧AE w' s 1 (cU cur)∧Aa (Ai s) w w',
    ⟨_,j,1,l,rfl,rfl,by omega,by omega,by omega,rfl,hpw,skip hj1 hx hy (fun _=>Iff.rfl) hxy,rfl,hd,kd.mono (by simp)⟩,?_⟩
   rintro n _ w2 ⟨i,k,cur,rfl,rfl,hk1,hjk,hik,hcl,hcp,hcm,hcd,h2,k2⟩;dsimp only;by_cases hlt2:j + k < l.length
   ·rw [decide_eq_true (by omega)];simp only [Af];have hcur:∀ m,j + k - 1≤m→cur[m]?=l[m]?:=by
     intro m hm;have e:=congrArg (fun q=>q[m - (j + k - 1)]?) hcd;simp only [List.getElem?_drop] at e
     rwa [show j + k - 1 + (m - (j + k - 1))=m from by omega] at e
    obtain ⟨y2,hy2⟩:=get (j + k) hlt2;obtain ⟨x2,hx2⟩:=get (j + k - 1) (by omega);refine AG (fun st w'=>∃ (i':Nat) (cur':List Int),st=((i':Int),())∧i' < j + k + 1∧cur'.length=l.length∧(cur'.take i').Pairwise (· < ·)∧(∀ z,z∈cur'.take i' ↔ z∈l.take (j + k + 1))∧cur'.drop (j + k)=l.drop (j + k)∧AE w' s 1 (cU cur')∧Aa (Ai s) w w') (fun J hJ=>?_) ?_
    rotate_left
    ·rintro _ w3 ⟨i',cur',rfl,g1,g2,g3,g4,g5,g6,g7⟩;exact ⟨l.length - (j + (k + 1)),by omega,i',k + 1,cur',by rw [AK (by omega)],rfl,by omega,by omega,by omega,g2,g3,g4,by rw [show j + (k + 1) - 1=j + k from by omega];exact g5,g6,g7⟩
    simp only [Dr];have kd2:Aa [] w2 w2.drew:=(Aa.refl _ _).drew;have h2d:=h2.keeps kd2 (by simp);have hsub:AE w2.drew ⟨A7 s.p s.cap j 1,s.len - j,s.cap - j⟩ 1 (cU (cur.drop j)):=by
     have:=h2d.sub (lo:=j) (hi:=s.len) (by omega) (Nat.le_refl _)
     rwa [Nat.mul_one,Nat.mul_one,cU,← List.map_drop,List.take_of_length_le (by simp;omega)] at this
    have hcj:(cur.drop j)[k]?=some y2:=by rw [List.getElem?_drop,hcur _ (by omega),hy2]
    have hcj1:(cur.drop j)[k - 1]?=some x2:=by rw [List.getElem?_drop,show j + (k - 1)=j + k - 1 from by omega,hcur _ (by omega),hx2]
    refine RT hsub hcj ?_;rw [Ew (by omega) (by omega)];refine RT hsub hcj1 ?_;have hcd':cur.drop (j + k)=l.drop (j + k):=by
     have e:=congrArg (List.drop 1) hcd
     rwa [List.drop_drop,List.drop_drop,show j + k - 1 + 1=j + k from by omega] at e
    by_cases hne:x2=y2
    ·rw [show (y2 != x2)=false from by simp [hne]];simp only [Ae];exact hJ _ _ ⟨i,cur,rfl,by omega,hcl,hcp,skip (by omega) hx2 hy2 hcm hne,hcd',h2d,k2.trans kd2 (by simp)⟩
    ·rw [show (y2 != x2)=true from by simp;exact fun e=>hne e.symm];simp only [Af];refine RT hsub hcj ?_;refine Akb h2d (by omega) y2 ?_;intro w3 h3 k3;have htk:(cur.set i y2).take (i + 1)=cur.take i ++ [y2]:=by
      rw [List.take_add_one,List.take_set_of_le (by omega),List.getElem?_set_self (by omega)];rfl
     obtain ⟨g1,g2⟩:=step (by omega) hx2 hy2 hcp hcm hne;refine hJ _ _ ⟨i + 1,cur.set i y2,by rw [AK (by omega)],by omega,by simp [hcl],by rw [htk];exact g1,by rw [htk];exact g2,by rw [List.drop_set_of_lt (by omega),hcd'],h3,(k2.trans kd2 (by simp)).trans k3 (fun _ hx=>.inl hx)⟩
   ·rw [decide_eq_false (by omega)];simp only [Ae];have hjl:j + k=l.length:=by omega
    refine ⟨⟨by omega,by omega⟩,?_⟩;simp only [Int.toNat_natCast];refine KS h2 (by kernel_rfl) Alv (by omega) ?_;intro w3 h3 k3 _;refine ⟨⟨by omega,by omega⟩,?_⟩;rw [Eh];refine hR (⟨s.p,i - 0,s.cap - 0⟩,()) _ ⟨cur.take i,?_,hcp,?_,fun _ hx=>hx,k2.trans k3 (fun _ hx=>.inl hx)⟩
    ·rw [Nat.mul_one,cU,← List.map_take] at h3;exact h3
    ·intro z;rw [hcm,List.take_of_length_le (by omega)]
  ·rw [show (y == x)=false from by simp;exact fun e=>hxy e.symm];simp only [Ae];refine ⟨l.length - (j + 1),by omega,q,j + 1,by rw [AK (by omega)],rfl,by omega,by omega,?_,kd⟩;rw [List.take_add_one,hy];exact (step hj1 hx hy hpw (fun _=>Iff.rfl) hxy).1
 ·rw [decide_eq_false (by omega)];rw [List.take_of_length_le (by omega)] at hpw;exact hR (s,()) _ ⟨l,h1,hpw,fun _=>Iff.rfl,fun _ hx=>hx,k1.mono (by simp)⟩
theorem AdK {w:World} {s:Sl} {l:List Int} (h:AE w s 1 (cU l)) (hN:l.length≤65000) :
  Cl Pg 107 [.slice s.p s.len s.cap] false [.sc .sl] (fun r w'=>∃ l',AE w' r.1 1 (cU l')∧l'.Pairwise (· < ·)∧(∀ x,x∈l' ↔ x∈l)∧(∀ x∈Ai r.1,x∈Ai s)∧Aa (Ai s) w w') w:=by
 refine AR fun R hR=>?_;apply Vo;unfold WS;dsimp only [Vs];refine Cl.mono (AbH h hN) ?_;rintro _ w1 ⟨l1,hp,hs,h1,k1⟩;refine Cl.mono (AaR h1 hs (by rw [hp.length_eq];exact hN)) ?_;rintro ⟨r,_⟩ w2 ⟨l2,h2,g1,g2,g3,k2⟩;exact hR (r,()) _ ⟨l2,h2,g1,fun x=>(g2 x).trans hp.mem_iff,g3,k1.trans k2 (fun _ hx=>.inl hx)⟩
open Go Go.Sx
def BC (x y:Int):Int:=if x < y then -1 else if y < x then 1 else 0
theorem Acm (z:Int) {w:World} {K:TR [.sc .b]→Pr} (hK:K (false,()) w):Cl Pg 110 [.int .u64 z] false [.sc .b] K w:=by
 apply Fc;unfold Fg;rw [show (z != z)=false from by simp];exact hK
theorem QV (x y:Int) {w:World} {K:TR [.sc (.i .i64)]→Pr} (hK:K (BC x y,()) w):Cl Pg 71 [.int .u64 x,.int .u64 y] false [.sc (.i .i64)] K w:=by
 apply Kv;unfold GY;dsimp only [Vu];refine Acm x ?_;refine Acm y ?_;simp only [Ae];unfold BC at hK;by_cases h1:x < y
 ·rw [decide_eq_true h1]
  rwa [if_pos h1] at hK
 ·rw [decide_eq_false h1];rw [if_neg h1] at hK;simp only [Ae];by_cases h2:y < x
  ·rw [decide_eq_true (show x > y from h2)]
   rwa [if_pos h2] at hK
  ·rw [decide_eq_false (show ¬ x > y from h2)]
   rwa [if_neg h2] at hK
theorem Dq {x y:Int}:BC x y < 0 ↔ x < y:=by unfold BC;split <;> (try split) <;> omega
theorem Xk {x y:Int}:(BC x y == 0)=decide (x=y):=by
 unfold BC;split
 ·rw [decide_eq_false (by omega)];rfl
 ·split
  ·rw [decide_eq_false (by omega)];rfl
  ·rw [decide_eq_true (by omega)];rfl
theorem Po {α:Type} {l:List α} {f:α→Int} (hs:l.Pairwise (fun a b=>f a < f b)) (t:Int):(∀ y∈l.take (Ba (fun x=>BC (f x) t) l),f y < t)∧(∀ y∈l.drop (Ba (fun x=>BC (f x) t) l),t≤f y):=by
 have hp:l.Pairwise (fun a b=>BC (f b) t < 0→BC (f a) t < 0):=hs.imp fun h=>by rw [Dq,Dq];omega
 constructor
 ·intro y hy;obtain ⟨j,hj,rfl⟩:=List.mem_take_iff_getElem.1 hy;exact Dq.1 (Qg (c:=fun x=>BC (f x) t) (l:=l) (j:=j) (List.getElem?_eq_getElem (by omega)) (by omega))
 ·intro y hy;obtain ⟨j,hj⟩:=List.getElem?_of_mem hy;rw [List.getElem?_drop] at hj;have h2:=PD hp hj (Nat.le_add_right _ _);have h3:¬ (BC (f y) t < 0):=by omega
  rw [Dq] at h3;omega
theorem Ac6 {w:World} {s:Sl} {l:List Ak} (h:As w s l) (hs:l.Pairwise (fun a b=>a.n < b.n)) (t:Int) (hN:l.length≤1000) :
  Cl Pg 69 [.slice s.p s.len s.cap,.int .u64 t,.func (.func 70) #[] #[]] true [.sc (.i .i64),.sc .b] (fun r w'=>∃ i:Nat,r.1=(i:Int)∧i≤l.length∧(∀ y∈l.take i,y.n < t)∧(∀ y∈l.drop i,t≤y.n)∧Aa [] w w') w:=by
 refine AR fun R hR=>?_;apply EG;refine C8 (c:=fun x:Ak=>BC x.n t) (HF akR) h.C6 ?_ ?_ (by omega) ?_
 ·intro w1 k1 x _ K hK;refine Ap (g:=70) (by kernel_rfl) ?_;refine KZ x.n x.lo x.hi x.wr t ?_;unfold IB;dsimp only [Cg,Lu,Vu];refine Ad fun b w2 h2 n2 k2=>?_;simp only [CP,h2,Ck,Nat.reduceAdd];exact QV _ _ (hK _ k2)
 ·exact hs.imp fun h=>by rw [Dq,Dq];omega
 ·intro w' k;exact hR _ _ ⟨_,rfl,Dv _ _,(Po hs t).1,(Po hs t).2,k⟩
structure TS where
 held:List Ak
 wait:List Ak
deriving DecidableEq
structure IP (s:TS):Prop where
 wt:s.wait.Pairwise (fun a b=>a.n < b.n)
 few:s.held.length + s.wait.length≤192
structure NH (w:World) (t:Nat) (H:Nat→Prop) (s:TS) (sh sw:Sl):Prop where
 hd:w.heap[t]?=some (.cells #[.slice sh.p sh.len sh.cap,.slice sw.p sw.len sw.cap] 141 (0,0))
 h:As w sh s.held
 w:As w sw s.wait
 th:t ∉ Ai sh
 tw:t ∉ Ai sw
 hw:∀ x∈Ai sh,x ∉ Ai sw
 own:∀ x,H x ↔ x=t∨x∈Ai sh∨x∈Ai sw
def Ny (w:World) (t:Nat) (H:Nat→Prop) (s:TS):Prop:=∃ sh sw,NH w t H s sh sw
theorem NH.bl {w:World} {t:Nat} {H:Nat→Prop} {s:TS} {sh sw:Sl} (h:NH w t H s sh sw):Bl H w:=by
 intro x hx;rcases (h.own x).1 hx with rfl | hx | hx
 ·exact Av h.hd
 ·exact h.h.lt x hx
 ·exact h.w.lt x hx
theorem Ny.bl {w:World} {t:Nat} {H:Nat→Prop} {s:TS} (h:Ny w t H s):Bl H w:=by
 obtain ⟨sh,sw,h⟩:=h;exact h.bl
theorem NH.keeps {w w':World} {t:Nat} {H F:Nat→Prop} {s:TS} {sh sw:Sl} (h:NH w t H s sh sw) (hk:A4 F w w') (hd:Dj H F):NH w' t H s sh sw:=
 ⟨hk.at h.hd (hd t ((h.own t).2 (.inl rfl))),h.h.Ue hk (fun x hx=>hd x ((h.own x).2 (.inr (.inl hx)))),h.w.Ue hk (fun x hx=>hd x ((h.own x).2 (.inr (.inr hx)))),h.th,h.tw,h.hw,h.own⟩
theorem Ny.keeps {w w':World} {t:Nat} {H F:Nat→Prop} {s:TS} (h:Ny w t H s) (hk:A4 F w w') (hd:Dj H F):Ny w' t H s:=by
 obtain ⟨sh,sw,h⟩:=h;exact ⟨sh,sw,h.keeps hk hd⟩
theorem NH.Ab {w w':World} {t:Nat} {H:Nat→Prop} {s:TS} {sh sw:Sl} (h:NH w t H s sh sw) (hk:Aa [] w w'):NH w' t H s sh sw:=h.keeps (hk.FY (F:=fun _=>False) (by simp)) (fun _ _ h=>h)
theorem Ny.Ab {w w':World} {t:Nat} {H:Nat→Prop} {s:TS} (h:Ny w t H s) (hk:Aa [] w w'):Ny w' t H s:=h.keeps (hk.FY (F:=fun _=>False) (by simp)) (fun _ _ h=>h)
theorem NH.Ajt {w w1 w2:World} {t:Nat} {H:Nat→Prop} {s:TS} {sh sw r:Sl} {l:List Ak} (h:NH w t H s sh sw) (k1:Aa (Ai sh) w w1) (hr:As w1 r l) (hb:∀ x∈Ai r,x∈Ai sh∨w.heap.size≤x) (k2:Aa [t] w1 w2)
  (hd:w2.heap[t]?=some (.cells #[.slice r.p r.len r.cap,.slice sw.p sw.len sw.cap] 141 (0,0))) :
  ∃ H',NH w2 t H' ⟨l,s.wait⟩ r sw∧Fr H H' w∧A4 H w w2:=by
 have htl:=Av h.hd;have tr:t ∉ Ai r:=fun hx=>by rcases hb t hx with h' | h';exact h.th h';omega
 have rw':∀ x∈Ai r,x ∉ Ai sw:=fun x hx hx2=>by rcases hb x hx with h' | h';exact h.hw x h' hx2;have:=h.w.lt x hx2;omega
 refine ⟨fun x=>x=t∨x∈Ai r∨x∈Ai sw,⟨hd,hr.keeps k2 (fun x hx=>by simp;rintro rfl;exact tr hx),(h.w.keeps k1 (fun x hx h'=>h.hw x h' hx)).keeps k2 (fun x hx=>by simp;rintro rfl;exact h.tw hx),tr,h.tw,rw',fun _=>Iff.rfl⟩,?_,?_⟩
 ·rintro x (rfl | hx | hx)
  ·exact .inl ((h.own _).2 (.inl rfl))
  ·rcases hb x hx with h' | h'
   ·exact .inl ((h.own _).2 (.inr (.inl h')))
   ·exact .inr h'
  ·exact .inl ((h.own _).2 (.inr (.inr hx)))
 ·exact (k1.FY (F:=H) (fun x hx=>.inl ((h.own _).2 (.inr (.inl hx))))).step k2 (by simp;exact .inl ((h.own _).2 (.inl rfl)))
theorem NH.AhA {w w1 w2:World} {t:Nat} {H:Nat→Prop} {s:TS} {sh sw r:Sl} {l:List Ak} (h:NH w t H s sh sw) (k1:Aa (Ai sw) w w1) (hr:As w1 r l) (hb:∀ x∈Ai r,x∈Ai sw∨w.heap.size≤x) (k2:Aa [t] w1 w2)
  (hd:w2.heap[t]?=some (.cells #[.slice sh.p sh.len sh.cap,.slice r.p r.len r.cap] 141 (0,0))) :
  ∃ H',NH w2 t H' ⟨s.held,l⟩ sh r∧Fr H H' w∧A4 H w w2:=by
 have htl:=Av h.hd;have tr:t ∉ Ai r:=fun hx=>by rcases hb t hx with h' | h';exact h.tw h';omega
 have rw':∀ x∈Ai sh,x ∉ Ai r:=fun x hx hx2=>by rcases hb x hx2 with h' | h';exact h.hw x hx h';have:=h.h.lt x hx;omega
 refine ⟨fun x=>x=t∨x∈Ai sh∨x∈Ai r,⟨hd,(h.h.keeps k1 (fun x hx h'=>h.hw x hx h')).keeps k2 (fun x hx=>by simp;rintro rfl;exact h.th hx),hr.keeps k2 (fun x hx=>by simp;rintro rfl;exact tr hx),h.th,tr,rw',fun _=>Iff.rfl⟩,?_,?_⟩
 ·rintro x (rfl | hx | hx)
  ·exact .inl ((h.own _).2 (.inl rfl))
  ·exact .inl ((h.own _).2 (.inr (.inl hx)))
  ·rcases hb x hx with h' | h'
   ·exact .inl ((h.own _).2 (.inr (.inr h')))
   ·exact .inr h'
 ·exact (k1.FY (F:=H) (fun x hx=>.inl ((h.own _).2 (.inr (.inr hx))))).step k2 (by simp;exact .inl ((h.own _).2 (.inl rfl)))
def CJ (n:Int) (s:TS):TS:=⟨s.held.filter (fun x=>!(x.n == n)),s.wait.filter (fun x=>!(x.n == n))⟩
theorem IP.drop {s:TS} (h:IP s) (n:Int):IP (CJ n s):=by
 refine ⟨h.wt.filter _,?_⟩;have h1:=List.length_filter_le (fun x:Ak=>!(x.n == n)) s.held;have h2:=List.length_filter_le (fun x:Ak=>!(x.n == n)) s.wait;have:=h.few;unfold CJ;dsimp only;omega
def TSt (w w':World) (t:Nat) (H:Nat→Prop) (s':TS):Prop:=∃ H',Ny w' t H' s'∧Fr H H' w∧A4 H w w'
theorem Ach {w:World} {t:Nat} {H:Nat→Prop} {s:TS} (h:Ny w t H s) (ho:IP s) (n:Int) :
  Cl Pg 109 [.pointer (some ⟨t,0,none⟩),.int .u64 n] true [] (fun _ w'=>TSt w w' t H (CJ n s)) w:=by
 obtain ⟨sh,sw,h⟩:=h;have hfew:=ho.few;refine AR fun R hR=>?_;apply LZ;unfold Ke;dsimp only [Ll,Ts,Vs,Vu];simp only [CP,h.hd,Ck,Nat.reduceAdd];have kd:Aa [] w w.drew:=(Aa.refl _ _).drew;refine Cl.mono (AeI n _) ?_;rintro ⟨f,_⟩ w1 ⟨e,n1,hf,k1⟩;dsimp only at hf ⊢;have k01:=Aj kd k1;have g1:=h.Ab k01;have hne:e ∉ Ai sh:=fun hx=>by have:=h.h.lt e hx;have:e < w.drew.heap.size:=this;omega
 simp only [CP,g1.hd,Ck,Nat.reduceAdd];refine ⟨by trivial,?_⟩;refine Cl.mono (Oc g1.h (hf _ hne) (by omega)) ?_;rintro ⟨r,_⟩ w2 ⟨h2,hb2,k2⟩;dsimp only at h2 hb2 ⊢;have hd2:=k2.at g1.hd g1.th;refine Ax hd2 0 _ rfl (by simp) fun w3 hd3 k3=>?_;obtain ⟨H3,g3,f3,kp3⟩:=g1.Ajt k2 h2 (fun x hx=>.inl (hb2 x hx)) k3 hd3;simp only [CP,g3.hd,Ck,Nat.reduceAdd];refine Cl.mono (AeI n _) ?_;rintro ⟨f,_⟩ w4 ⟨e,n4,hf,k4⟩;dsimp only at hf ⊢;have g4:=g3.Ab (Aj ((Aa.refl [] w3).drew) k4);have hne:e ∉ Ai sw:=fun hx=>by have:=g3.w.lt e hx;have:e < w3.drew.heap.size:=this;omega
 simp only [CP,g4.hd,Ck,Nat.reduceAdd];refine ⟨by trivial,?_⟩;refine Cl.mono (Oc g4.w (hf _ hne) (by dsimp only;omega)) ?_;rintro ⟨r2,_⟩ w5 ⟨h5,hb5,k5⟩;dsimp only at h5 hb5 ⊢;have hd5:=k5.at g4.hd g4.tw;refine Ax hd5 1 _ rfl (by simp) fun w6 hd6 k6=>?_;obtain ⟨H6,g6,f6,kp6⟩:=g4.AhA k5 h5 (fun x hx=>.inl (hb5 x hx)) k6 hd6;have s1:w.heap.size≤w1.heap.size:=k01.size;have s3:w1.heap.size≤w3.heap.size:=kp3.size;have s4:w3.heap.size≤w4.heap.size:=k4.size;refine hR _ _ ⟨H6,⟨_,_,g6⟩,?_,?_⟩
 ·intro x hx;rcases f6 x hx with h' | h'
  ·rcases f3 x h' with h'' | h''
   ·exact .inl h''
   ·exact .inr (by omega)
  ·exact .inr (by omega)
 ·have q1:A4 H w w3:=(k01.FY (F:=H) (by simp)).same kp3;have q2:A4 H w w4:=q1.step (Aj ((Aa.refl [] w3).drew) k4) (by simp);exact q2.trans kp6 (fun x hx=>by
   rcases f3 x hx with h' | h'
   ·exact .inl h'
   ·exact .inr (by omega))
open Go Go.Sx
def Ed (x:Ak) (wt:List Ak):List Int:=(wt.filter (fun w=>decide (x.n < w.n) && B8 x w)).map (·.n)
def Ca (d:List Int) (s:TS):TS:=d.foldl (fun s n=>CJ n s) s
def AL (x:Ak) (s:TS):List Int × TS:=(Ed x s.wait,Ca (Ed x s.wait) ⟨s.held ++ [x],s.wait⟩)
theorem IP.Ca {d:List Int} {s:TS} (h:IP s):IP (Ca d s):=by
 unfold YthkdehgfdllpoaaGreat.Ca;induction d generalizing s with
 | nil=>exact h
 | cons n d ih=>exact ih (h.drop n)
theorem Ln (x:Ak) (l:List Ak):(Ed x l).length≤l.length:=by
 unfold Ed;rw [List.length_map];exact List.length_filter_le _ _
theorem RR (x:Ak) (l:List Ak) {i:Nat} {y:Ak} (hy:l[i]?=some y):Ed x (l.take (i + 1))=Ed x (l.take i) ++ (if decide (x.n < y.n) && B8 x y then [y.n] else []):=by
 unfold Ed;rw [List.take_add_one,hy,List.filter_append,List.map_append]
 congr 1
 cases hc:decide (x.n < y.n) && B8 x y <;> simp [hc]
theorem Zw {w:World} {t:Nat} {H:Nat→Prop} {s:TS} (h:Ny w t H s) {x:Ak} (ho:IP ⟨s.held ++ [x],s.wait⟩) :
  Cl Pg 68 [.pointer (some ⟨t,0,none⟩),vA x] false [.sc .sl] (fun r w'=>∃ H',Ny w' t H' (AL x s).2∧Fr H H' w∧A4 H w w'∧AE w' r.1 1 (cU (AL x s).1)∧(∀ y∈Ai r.1,w.heap.size≤y∧¬ H' y)) w:=by
 obtain ⟨sh,sw,h⟩:=h;have hfew:=ho.few;rw [List.length_append] at hfew;simp only [List.length_singleton] at hfew;have hlh:=UH h.h;have hlw:=UH h.w;refine AR fun R hR=>?_;apply K5;unfold I8;dsimp only [Cg,Ll,Lu,Gs,UY,Ts,Vp,Vs,Vu,Vm];have ltH:∀ y,H y→y < w.heap.size:=h.bl;refine Ad fun a w1 ha na k1=>?_;have g1:=h.Ab k1;simp only [CP,g1.hd,ha,Ck,Nat.reduceAdd];have la:=Av ha;refine Ad fun c w2 hc nc k2=>?_;have g2:=(h.Ab k1.drew).Ab k2;have ha:=k2.at (w:=w1.drew) ha (by simp);simp only [CP,g2.hd,Ck,Nat.reduceAdd];refine ⟨by trivial,?_⟩;refine AE.app (ρ:=akR) (new:=[x]) g2.h (by rw [List.flatMap_singleton];exact BI (ρ:=akR) (x:=x) hc) rfl (by rw [zcA];rfl) (by omega) (by omega) ?_;intro r w3 h3' k3 hb3;have hd3:=k3.at g2.hd g2.th;have hash:a ∉ Ai sh:=fun hx=>by have:=h.h.lt a hx;omega
 have DY:a ≠ t:=fun e=>by have:=Av h.hd;omega
 have ha:=k3.at ha hash;refine Ax hd3 0 _ rfl (by simp) fun w4 hd4 k4=>?_;obtain ⟨H4,g4,f4,kp4⟩:=g2.Ajt k3 h3' hb3 k4 hd4;have ha:=k4.at ha (by simpa using DY);have hd4':=g4.hd;simp only [CP,ha,Ck,Nat.reduceAdd];refine Cl.mono (O4 x _) ?_;rintro ⟨f,_⟩ w5 ⟨e,ne,hf,k5⟩;dsimp only at hf ⊢;have g5:=g4.Ab k5;have ha:=k5.at ha (by simp);have hbl5:∀ y,H4 y→y < w5.heap.size:=g5.bl;simp only [CP,g5.hd,Ck,Nat.reduceAdd];have size02:w.heap.size≤w2.heap.size:=by have:=k1.size;have:=k2.size;have:w1.drew.heap.size=w1.heap.size:=rfl;omega
 have size05:w.heap.size≤w5.heap.size:=by have:=k3.size;have:=k4.size;have:=k5.size;omega
 refine ⟨fun n st w'=>∃ (i:Nat) (ds:Sl),st=(ds,(i:Int),())∧n=s.wait.length - i∧i≤s.wait.length∧AE w' ds 1 (cU (Ed x (s.wait.take i)))∧(∀ y∈Ai ds,w5.heap.size≤y)∧Aa [] w5 w',⟨_,0,⟨none,0,0⟩,rfl,rfl,by omega,AE.nil _ 1,by simp [Ai],Aa.refl _ _⟩,?_⟩;rintro n _ w6 ⟨i,ds,rfl,rfl,hi,h6,hb6,k6⟩;dsimp only;have g6:=g5.Ab k6;have ha:=k6.at ha (by simp);have hl6:=DJ h6;have hkl:=Ln x (s.wait.take i);rw [List.length_take] at hkl;by_cases hlt:i < s.wait.length
 ·rw [decide_eq_true (by omega)];simp only [Af];obtain ⟨y,hy⟩:∃ y,s.wait[i]?=some y:=⟨_,List.getElem?_eq_getElem hlt⟩;refine AG (fun st w'=>∃ ds',st=(ds',())∧AE w' ds' 1 (cU (Ed x (s.wait.take (i + 1))))∧(∀ y∈Ai ds',w5.heap.size≤y)∧Aa [] w5 w') (fun J hJ=>?_) ?_
  rotate_left
  ·rintro _ w7 ⟨ds',rfl,h7,hb7,k7⟩;exact ⟨s.wait.length - (i + 1),by omega,i + 1,ds',by rw [AK (by omega)],rfl,by omega,h7,hb7,k7⟩
  refine AdA g6.w hy ?_;refine bx4 fun b w7 hb n7 k7=>?_;have ha:=k7.at ha (by simp);refine AG (fun st w'=>st=(decide (x.n < y.n) && B8 x y,())∧w'.heap[b]?=some (.cells #[.int .u64 y.n,.string y.lo,.string y.hi,.bool y.wr] 146 (0,0))∧Aa [] w7 w') (fun J2 hJ2=>?_) ?_
  ·simp only [CP,ha,hb,Ck,Nat.reduceAdd];by_cases hlt2:x.n < y.n
   ·rw [decide_eq_true (show y.n > x.n from hlt2)];simp only [CP,hb,Ck,Nat.reduceAdd];refine AB.mono ((hf [] (by simp)).to k6 w7 k7 y) ?_;rintro ⟨q,_⟩ w8 ⟨e8,k8⟩;dsimp only at e8;subst e8;exact hJ2 _ _ ⟨by rw [decide_eq_true hlt2];rfl,k8.at hb (by simp),k8⟩
   ·rw [decide_eq_false (show ¬ y.n > x.n from hlt2)];exact hJ2 _ _ ⟨by rw [decide_eq_false hlt2];rfl,hb,Aa.refl _ _⟩
  ·rintro _ w8 ⟨rfl,hb8,k8⟩;dsimp only;have k58:=Aj (Aj k6 k7) k8;have h8:=h6.keeps (Aj k7 k8) (by simp);cases hcond:decide (x.n < y.n) && B8 x y with
   | true=>
    simp only [CP,hb8,Ck,Nat.reduceAdd];refine W9 (bytes:=8) (new:=[.int .u64 y.n]) h8 (by simp) (by simp [Value.oneCell']) (by kernel_rfl) (by omega) (by omega) ?_;intro r9 w9 h9 _ k9 hb9;refine hJ (r9,()) _ ⟨r9,rfl,?_,fun z hz=>?_,Ky k58 k9 (fun z hz=>hb6 z hz)⟩
    ·rw [RR x s.wait hy,hcond,if_pos rfl,cU,List.map_append];exact h9
    ·rcases hb9 z hz with h' | h'
     ·exact hb6 z h'
     ·have:=k58.size;omega
   | false=>
    refine hJ (ds,()) _ ⟨ds,rfl,?_,hb6,k58⟩;rw [RR x s.wait hy,hcond,if_neg (by simp),List.append_nil];exact h8
 ·rw [decide_eq_false (by omega)];simp only [Ae];rw [List.take_of_length_le (by omega)] at h6;generalize hd:Ed x s.wait=d at h6;have hdl:d.length≤192:=by rw [← hd];have:=Ln x s.wait;omega
  have hdl':=DJ h6;have hnH:∀ y∈Ai ds,¬ H4 y:=fun y hy hH=>by have:=hb6 y hy;have:=hbl5 y hH;omega
  refine ⟨fun n st w'=>∃ (i:Nat) (H':Nat→Prop),st=((i:Int),())∧n=d.length - i∧i≤d.length∧Ny w' t H' (Ca (d.take i) ⟨s.held ++ [x],s.wait⟩)∧Fr H4 H' w6∧A4 H4 w6 w'∧AE w' ds 1 (cU d)∧(∀ y∈Ai ds,¬ H' y),⟨_,0,H4,rfl,rfl,by omega,⟨_,_,g6⟩,Fr.refl _ _,A4.refl _ _,h6,hnH⟩,?_⟩;rintro n _ w7 ⟨i,H',rfl,rfl,hi,h7,f7,k7,hds,hn7⟩;dsimp only;by_cases hlt2:i < d.length
  ·rw [decide_eq_true (by omega)];simp only [Af];obtain ⟨y,hy⟩:∃ y,d[i]?=some y:=⟨_,List.getElem?_eq_getElem hlt2⟩;refine RT hds hy ?_;refine Cl.mono (Ach h7 (IP.Ca ho) y) ?_;rintro _ w8 ⟨H8,h8,f8,k8⟩;refine ⟨d.length - (i + 1),by omega,i + 1,H8,by rw [AK (by omega)],rfl,by omega,?_,f7.trans f8 k7.size,k7.trans k8 (fun z hz=>f7 z hz),hds.Ue k8 hn7,fun z hz hH=>?_⟩
   ·rw [List.take_add_one,hy];unfold Ca at h8 ⊢;rw [List.foldl_append];exact h8
   ·rcases f8 z hH with h' | h'
    ·exact hn7 z hz h'
    ·have:=hds.lt z hz;omega
  ·rw [decide_eq_false (by omega)];rw [List.take_of_length_le (by omega)] at h7;have e1:(AL x s).1=d:=hd;have e2:(AL x s).2=Ca d ⟨s.held ++ [x],s.wait⟩:=by rw [← hd];rfl
   have size26:w2.heap.size≤w6.heap.size:=by have:=k3.size;have:=k4.size;have:=k5.size;have:=k6.size;omega
   refine hR (ds,()) _ ⟨H',by rw [e2];exact h7,?_,?_,by rw [e1];exact hds,fun z hz=>⟨by have:=hb6 z hz;omega,hn7 z hz⟩⟩
   ·intro z hz;rcases f7 z hz with h' | h'
    ·rcases f4 z h' with h'' | h''
     ·exact .inl h''
     ·exact .inr (by omega)
    ·exact .inr (by omega)
   ·have q1:A4 H w w4:=((Aj k1.drew k2).FY (F:=H) (by simp)).same kp4;have q2:A4 H w w6:=q1.step (Aj k5 k6) (by simp);refine q2.trans k7 (fun z hz=>?_);rcases f4 z hz with h' | h'
    ·exact .inl h'
    ·exact .inr (by omega)
end Go.Proofs.YthkdehgfdllpoaaGreat
