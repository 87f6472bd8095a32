/- The parts of the proof, 3: words of the program, and what they do. Conditions: none. -/
import Derived.Test.YthkdehgfdllpoaaGreatPk2
import Derived.Sort.Walk0
set_option maxRecDepth 100000
set_option maxHeartbeats 1000000
set_option linter.unusedVariables false
set_option linter.unusedSimpArgs false
set_option linter.unusedSectionVars false
namespace Go.Proofs.YthkdehgfdllpoaaGreat
open Go Go.Sx
def JB (a b c:ByteArray)(R:TR [.sc .b]->Pr):Pr:=
 At #[(Vt a),(Vt b)] 37 λd=>
 Ls d 0 λe=>
 Ls d 1 λf=>
 Cl Pg 91 [(.agg #[(Vt e),(Vt f)])] false [.sc (.i .i64)] λg=>
 Br ((g.1:Int)==0) (
 Cl Pg 35 [(Vt c)] false [.sc (.i .i64)] λi=>
 Br ((i.1:Int)==0) (
 Ls d 0 λj=>
 Br (!(slt c j)) (
 Ls d 1 λk=>
 Br (seq k (BA [])) (
 R (true,())) (
 Ls d 1 λl=>
 R ((slt c l),()))) (
 R (false,()))) (
 R (false,()))) (
 R (false,()))
theorem LY (a b c){R w}(h:JB a b c R w):Cl Pg 42 [(.agg #[(Vt a),(Vt b)]),(Vt c)] false [.sc .b] R w:=
 ce (s' (s' l')) Tryz.func42 h
def Si (a:Sl)(R:TR [.sc (.i .i64)]->Pr):Pr:=
 Jp (σ:=Bool×Unit) (λb=>
 Br b.1 (
 R (170,())) (
 Lp (σ:=Int×Int×Unit) (λc d=>
 Br (decide ((d.2.1:Int)<((a.len:Nat):Int))) (
 Ix a d.2.1 2 λe=>
 Ls e 0 λf=>
 Li e 1 λg=>
 At #[(Vt (BA [])),(Vi 0)] 70 λi=>
 Tt i 0 f <|
 Ti i 1 g <|
 Jp (σ:=Bool×Unit) (λj=>
 Br j.1 (
 R (170,())) (
 c (d.1,(An (d.2.1+1)),()))) λk=>
 Dr <|
 Li i 1 λl=>
 Br (decide ((l:Int)<1)) (
 k (true,())) (
 Li i 1 λm=>
 Br (decide ((m:Int)>4)) (
 k (true,())) (
 Br (decide ((d.2.1:Int)>0)) (
 Ls i 0 λn=>
 Cl Pg 93 [(Vt n)] false [.sc (.i .i64)] λo=>
 Br ((o.1:Int) !=0) (
 k (true,())) (
 Ix a (An (d.2.1-1)) 2 λp=>
 Ls p 0 λq=>
 Ls i 0 λr=>
 k ((!(slt q r)),()))) (
 k (false,()))))) (
 R (0,()))) (0,0,()))) λs=>
 Br ((((a.len:Nat):Int):Int)==0) (
 s (true,())) (
 Br (decide ((((a.len:Nat):Int):Int)>6)) (
 s (true,())) (
 Ix a 0 2 λt=>
 Ls t 0 λu=>
 s ((!(seq u (BA []))),())))
theorem Re (a){R w}(h:Si a R w):Cl Pg 44 [(Vs a)] false [.sc (.i .i64)] R w:=
 ce (s' (q' (q' (.join [(19,.sc .b)] l') (k' (s' l') l')) (q' (s' (.block (.loop [(2,.sc (.i .i64)),(22,.sc (.i .i64))] (s' (q' (k' l' l') (q' (.block (s' (q' (.join [(55,.sc .b)] l') (k' (s' l') l')))) l')))))) (s' l')))) Tryz.func44 h
def TF (a b:ByteArray)(R:TR [.sc (.i .i64)]->Pr):Pr:=
 At #[(Vt a),(Vt b)] 37 λc=>
 Dr <|
 Ls c 0 λd=>
 Ls c 1 λe=>
 Cl Pg 94 [] false [.ag [.s,.s]] λf=>
 AH (Ls c 0 λg=>
 Ls c 1 λi=>
 λ_=>((.agg #[(Vt g),(Vt i)]):Value)=(.agg #[(Vt d),(Vt e)])) <|
 Br ((seq d f.1.1)&&((seq e f.1.2.1)&&true)) (
 R (0,())) (
 Jp (σ:=Bool×Unit) (λj=>
 Br j.1 (
 R (21,())) (
 R (0,()))) λk=>
 Jp (σ:=Bool×Unit) (λl=>
 Br l.1 (
 k (l.1,())) (
 Ls c 1 λm=>
 Br (!(seq m (BA []))) (
 Ls c 0 λn=>
 Ls c 1 λo=>
 k ((!(slt n o)),())) (
 k (false,())))) λp=>
 Ls c 0 λq=>
 Br (decide ((((q.size:Nat):Int):Int)>12)) (
 p (true,())) (
 Ls c 1 λr=>
 p ((decide ((((r.size:Nat):Int):Int)>12)),())))
theorem SD (a b){R w}(h:TF a b R w):Cl Pg 45 [(.agg #[(Vt a),(Vt b)])] false [.sc (.i .i64)] R w:=
 ce (s' (q' (.block (s' (k' (s' l') (q' (.join [(7,.sc .b)] (q' (.join [(7,.sc .b)] l') (k' l' l'))) (k' (s' l') l'))))) (s' l'))) Tryz.func45 h
def Gw (a:Int)(b:Sl)(c:Addr)(R:TR [.sc .b]->Pr):Pr:=
 At #[(Vu a),(Vs b)] 60 λd=>
 Ll d 1 λe=>
 Br ((((e.len:Nat):Int):Int)==0) (
 R (true,())) (
 Ll d 1 λf=>
 Br (decide ((((f.len:Nat):Int):Int)>24)) (
 R (true,())) (
 Ll c 7 λg=>
 Lu d 0 λi=>
 Cl Pg 47 [(Vs g),(Vu i)] false [.sc .b] λj=>
 Br j.1 (
 R (true,())) (
 Ll d 1 λk=>
 Cl Pg 48 [(Vs k),(.func (.func 49) #[] #[])] false [.sc .b] λl=>
 R (l.1,()))))
theorem Ja (a b c){R w}(h:Gw a b c R w):Cl Pg 46 [(.agg #[(Vu a),(Vs b)]),(Vp (some c))] false [.sc .b] R w:=
 ce (s' (s' l')) Tryz.func46 h
def EJ (a:Sl)(b:Int)(R:TR [.sc .b]->Pr):Pr:=
 Cl Pg 95 [(Vs a),(Vu b)] false [.sc (.i .i64)] λc=>
 R ((decide ((c.1:Int)>=0)),())
theorem GG (a b){R w}(h:EJ a b R w):Cl Pg 47 [(Vs a),(Vu b)] false [.sc .b] R w:=
 ce (s' (s' l')) Tryz.func47 h
theorem GK (p_s:Sl)(p_f:Value){R:TR [.sc .b]->Pr}{w:World}(h:B7 Pg 96 p_s p_f R w):Cl Pg 48 [(.slice p_s.p p_s.len p_s.cap),p_f] false [.sc .b] R w:=
 AF Tryz.checked.mixed (.seq .leaf (.seq .leaf .leaf)) Tryz.func48 (by kernel_rfl) (by kernel_rfl) h
def Fe (a:Int)(b c d e:ByteArray)(f:Int)(R:TR [.sc .b]->Pr):Pr:=
 At (Ar a b c d e f) 81 λg=>
 AN g λi j k l m n=>
 Cl Pg 50 [(.agg (Ar i j k l m n))] false [.sc (.i .i64)] λo=>
 R (((o.1:Int) !=0),())
theorem HG (a b c d e f){R w}(h:Fe a b c d e f R w):Cl Pg 49 [(.agg (Ar a b c d e f))] false [.sc .b] R w:=
 ce (s' (s' l')) Tryz.func49 h
def U1 (a:Int)(b c d e:ByteArray)(f:Int)(R:TR [.sc (.i .i64)]->Pr):Pr:=
 At (Ar a b c d e f) 81 λg=>
 Li g 0 λi=>
 Cl Pg 97 [(Vi i)] true K5' λj=>
 At #[(Vb false),(Vb false),(Vb false),(Vb false),(Vb false),.nilFunc] 189 λk=>
 Sb5 k j.1.1 j.1.2.1 j.1.2.2.1 j.1.2.2.2.1 j.1.2.2.2.2.1 <|
 St (k.add 5) j.1.2.2.2.2.2.1 <|
 Jp (σ:=Bool×Unit) (λl=>
 Br l.1 (
 R (40,())) (
 Jp (σ:=Bool×Unit) (λm=>
 Br m.1 (
 R (20,())) (
 Ls g 2 λn=>
 Br (decide ((((n.size:Nat):Int):Int)>16)) (
 R (2,())) (
 Jp (σ:=Bool×Unit) (λo=>
 Br o.1 (
 R (21,())) (
 Jp (σ:=Bool×Unit) (λp=>
 Br p.1 (
 R (1,())) (
 R (0,()))) λq=>
 Lb k 3 λr=>
 Br r (
 Li g 5 λs=>
 Br (decide ((s:Int)<1)) (
 q (true,())) (
 Li g 5 λt=>
 q ((decide ((t:Int)>4)),()))) (
 q (false,())))) λu=>
 Lb k 2 λv=>
 Br v (
 AN g λx y z a0 b0 c0=>
 Cl Pg 98 [(.agg (Ar x y z a0 b0 c0))] false [.ag [.s,.s]] λd0=>
 Cl Pg 45 [(.agg #[(Vt d0.1.1),(Vt d0.1.2.1)])] false [.sc (.i .i64)] λe0=>
 u (((e0.1:Int) !=0),())) (
 u (false,()))))) λf0=>
 Lb k 0 λg0=>
 Br g0 (
 Ls g 1 λi0=>
 Cl Pg 93 [(Vt i0)] false [.sc (.i .i64)] λj0=>
 f0 (((j0.1:Int) !=0),())) (
 f0 (false,())))) λk0=>
 Br (!j.2.1) (
 k0 ((!j.2.1),())) (
 Jp (σ:=Bool×Unit) (λl0=>
 Br l0.1 (
 k0 (l0.1,())) (
 Jp (σ:=Bool×Unit) (λm0=>
 Br m0.1 (
 k0 (m0.1,())) (
 Jp (σ:=Bool×Unit) (λn0=>
 Br n0.1 (
 k0 (n0.1,())) (
 Lb k 3 λo0=>
 Br (!o0) (
 Li g 5 λp0=>
 k0 (((p0:Int) !=0),())) (
 k0 (false,())))) λq0=>
 Lb k 2 λr0=>
 Br (!r0) (
 AN g λs0 t0 u0 v0 x0 y0=>
 Cl Pg 98 [(.agg (Ar s0 t0 u0 v0 x0 y0))] false [.ag [.s,.s]] λz0=>
 q0 ((!((seq z0.1.1 (BA []))&&((seq z0.1.2.1 (BA []))&&true))),())) (
 q0 (false,())))) λa1=>
 Lb k 1 λb1=>
 Br (!b1) (
 Ls g 2 λc1=>
 a1 ((!(seq c1 (BA []))),())) (
 a1 (false,())))) λd1=>
 Lb k 0 λe1=>
 Br (!e1) (
 Ls g 1 λf1=>
 d1 ((!(seq f1 (BA []))),())) (
 d1 (false,())))
theorem S6 (a b c d e f){R w}(h:U1 a b c d e f R w):Cl Pg 50 [(.agg (Ar a b c d e f))] false [.sc (.i .i64)] R w:=
 ce (s' (s' (q' (.block (q' (.join [(11,.sc .b)] (s' (k' l' (q' (.join [(11,.sc .b)] l') (k' l' (q' (.join [(11,.sc .b)] l') (k' l' (q' (.join [(11,.sc .b)] l') (k' l' l'))))))))) (k' (s' l') (q' (.join [(47,.sc .b)] l') (k' (s' l') (s' (k' (s' l') (q' (.join [(61,.sc .b)] l') (k' (s' l') (q' (.join [(70,.sc .b)] l') (k' (s' l') l'))))))))))) (s' l')))) Tryz.func50 h
def R0 (a:Bool)(R:TR [.sc (.i .i64)]->Pr):Pr:=
 Br (!a) (
 R (1,())) (
 R (0,()))
theorem QH (a){R w}(h:R0 a R w):Cl Pg 51 [(Vb a)] false [.sc (.i .i64)] R w:=
 ce (s' (q' (s' (k' (s' l') l')) (s' l'))) Tryz.func51 h
theorem F0 (p_s:Sl)(p_f:Value){R:TR [.sc .b]->Pr}{w:World}(h:B7 Pg 99 p_s p_f R w):Cl Pg 52 [(.slice p_s.p p_s.len p_s.cap),p_f] false [.sc .b] R w:=
 AF Tryz.checked.mixed (.seq .leaf (.seq .leaf .leaf)) Tryz.func52 (by kernel_rfl) (by kernel_rfl) h
def HM (a:Sl)(b:Value)(R:TR [.sc .b]->Pr):Pr:=
 Lp (σ:=Bool×Int×Unit) (λc d=>
 Br (decide ((d.2.1:Int)<((a.len:Nat):Int))) (
 Jp (σ:=Bool×Unit) (λe=>
 Br e.1 (
 R (false,())) (
 c (d.1,(An (d.2.1+1)),()))) λf=>
 Dr <|
 Br (decide ((d.2.1:Int)>0)) (
 Ix a (An (d.2.1-1)) 2 λg=>
 Lu g 0 λi=>
 Ll g 1 λj=>
 Ix a d.2.1 2 λk=>
 Lu k 0 λl=>
 Ll k 1 λm=>
 AB Pg b [(.agg #[(Vu i),(Vs j)])] false [.sc (.i .u64)] λn=>
 AH (Lu k 0 λo=>
 Ll k 1 λp=>
 λ_=>((.agg #[(Vu o),(Vs p)]):Value)=(.agg #[(Vu l),(Vs m)])) <|
 AB Pg b [(.agg #[(Vu l),(Vs m)])] false [.sc (.i .u64)] λq=>
 f ((decide ((n.1:Int)>=q.1)),())) (
 f (false,()))) (
 R (true,()))) (false,0,())
theorem JT (a b){R w}(h:HM a b R w):Cl Pg 53 [(Vs a),b] false [.sc .b] R w:=
 ce (s' (q' (s' (.block (.loop [(4,.sc .b),(8,.sc (.i .i64))] (s' (q' (k' l' l') (q' (.block (s' (q' (.join [(28,.sc .b)] l') (k' (s' l') l')))) l')))))) (s' l'))) Tryz.func53 h
def Gl (a:Int)(b:Sl)(R:TR [.sc (.i .u64)]->Pr):Pr:=
 At #[(Vu a),(Vs b)] 60 λc=>
 Lu c 0 λd=>
 R (d,())
theorem Jo (a b){R w}(h:Gl a b R w):Cl Pg 54 [(.agg #[(Vu a),(Vs b)])] false [.sc (.i .u64)] R w:=
 ce (s' (s' l')) Tryz.func54 h
def FF (a:Sl)(b:Value)(R:TR [.sc .b]->Pr):Pr:=
 Lp (σ:=Bool×Int×Unit) (λc d=>
 Br (decide ((d.2.1:Int)<((a.len:Nat):Int))) (
 Jp (σ:=Bool×Unit) (λe=>
 Br e.1 (
 R (false,())) (
 c (d.1,(An (d.2.1+1)),()))) λf=>
 Dr <|
 Br (decide ((d.2.1:Int)>0)) (
 Ix a (An (d.2.1-1)) 1 λg=>
 A2 .u64 g λi=>
 Ix a d.2.1 1 λj=>
 A2 .u64 j λk=>
 AB Pg b [(Vu i)] false [.sc (.i .u64)] λl=>
 AH (A2 .u64 j λm=>
 λ_=>((Vu m):Value)=(Vu k)) <|
 AB Pg b [(Vu k)] false [.sc (.i .u64)] λn=>
 f ((decide ((l.1:Int)>=n.1)),())) (
 f (false,()))) (
 R (true,()))) (false,0,())
theorem Ie (a b){R w}(h:FF a b R w):Cl Pg 55 [(Vs a),b] false [.sc .b] R w:=
 ce (s' (q' (s' (.block (.loop [(4,.sc .b),(8,.sc (.i .i64))] (s' (q' (k' l' l') (q' (.block (s' (q' (.join [(28,.sc .b)] l') (k' (s' l') l')))) l')))))) (s' l'))) Tryz.func55 h
def NG (a:Int)(R:TR [.sc (.i .u64)]->Pr):Pr:=
 R (a,())
theorem IQ (a){R w}(h:NG a R w):Cl Pg 56 [(Vu a)] false [.sc (.i .u64)] R w:=
 ce (s' (s' l')) Tryz.func56 h
theorem JL (p_s:Sl){R:TR [.sc .sl]->Pr}{w:World}(h:Hn 70 2 24 (zc Pg 70) p_s R w):Cl Pg 57 [(.slice p_s.p p_s.len p_s.cap)] false [.sc .sl] R w:=
 AF Tryz.checked.mixed (.seq .leaf (.seq (.seq .leaf (.cond (.seq .leaf .leaf) .leaf)) (.seq .leaf .leaf))) Tryz.func57 (by kernel_rfl) (by kernel_rfl) h
theorem K7 (p_s:Sl){R:TR [.sc .sl]->Pr}{w:World}(h:Hn 60 2 32 (zc Pg 60) p_s R w):Cl Pg 58 [(.slice p_s.p p_s.len p_s.cap)] false [.sc .sl] R w:=
 AF Tryz.checked.mixed (.seq .leaf (.seq (.seq .leaf (.cond (.seq .leaf .leaf) .leaf)) (.seq .leaf .leaf))) Tryz.func58 (by kernel_rfl) (by kernel_rfl) h
theorem Jc (p_s:Sl){R:TR [.sc .sl]->Pr}{w:World}(h:Hn 32 1 8 (zc Pg 32) p_s R w):Cl Pg 59 [(.slice p_s.p p_s.len p_s.cap)] false [.sc .sl] R w:=
 AF Tryz.checked.mixed (.seq .leaf (.seq (.seq .leaf (.cond (.seq .leaf .leaf) .leaf)) (.seq .leaf .leaf))) Tryz.func59 (by kernel_rfl) (by kernel_rfl) h
theorem M0 (p_s:Sl){R:TR [.sc .sl]->Pr}{w:World}(h:Hn 81 6 80 (zc Pg 81) p_s R w):Cl Pg 60 [(.slice p_s.p p_s.len p_s.cap)] false [.sc .sl] R w:=
 AF Tryz.checked.mixed (.seq .leaf (.seq (.seq .leaf (.cond (.seq .leaf .leaf) .leaf)) (.seq .leaf .leaf))) Tryz.func60 (by kernel_rfl) (by kernel_rfl) h
def Aci (a:Int)(b c d e:ByteArray)(f:Int)(R:TR N6->Pr):Pr:=
 At (Ar a b c d e f) 81 λg=>
 At #[(Vt (BA [])),(Vt (BA []))] 37 λi=>
 AN g λj k l m n o=>
 Cl Pg 50 [(.agg (Ar j k l m n o))] false [.sc (.i .i64)] λp=>
 Br ((p.1:Int) !=0) (
 St (i.add 0) (Vt (BA [])) <|
 St (i.add 1) (Vt (BA [])) <|
 Ls i 0 λq=>
 Ls i 1 λr=>
 R ((q,r,()),p.1,())) (
 Ls g 1 λs=>
 Br (seq s (BA [])) (
 AN g λt u v x y z=>
 Cl Pg 98 [(.agg (Ar t u v x y z))] false [.ag [.s,.s]] λa0=>
 Tt i 0 a0.1.1 <|
 Tt i 1 a0.1.2.1 <|
 Ls i 0 λb0=>
 Ls i 1 λc0=>
 R ((b0,c0,()),0,())) (
 Ls g 1 λd0=>
 Cl Pg 100 [(Vt d0)] true N6 λe0=>
 Tt i 0 e0.1.1 <|
 Tt i 1 e0.1.2.1 <|
 Ls i 0 λf0=>
 Ls i 1 λg0=>
 R ((f0,g0,()),e0.2.1,())))
theorem Xu (a b c d e f){R w}(h:Aci a b c d e f R w):Cl Pg 61 [(.agg (Ar a b c d e f))] true N6 R w:=
 ce (s' (q' (s' (s' (k' (s' l') l'))) (q' (s' (k' (s' l') l')) (s' l')))) Tryz.func61 h
def WL (a:Int)(b c d e:ByteArray)(f:Int)(R:TR [.sc .b]->Pr):Pr:=
 At (Ar a b c d e f) 81 λg=>
 Li g 0 λi=>
 Cl Pg 97 [(Vi i)] true K5' λj=>
 At #[(Vb false),(Vb false),(Vb false),(Vb false),(Vb false),.nilFunc] 189 λk=>
 Sb5 k j.1.1 j.1.2.1 j.1.2.2.1 j.1.2.2.2.1 j.1.2.2.2.2.1 <|
 St (k.add 5) j.1.2.2.2.2.2.1 <|
 Lb k 4 λl=>
 R (l,())
theorem Uz (a b c d e f){R w}(h:WL a b c d e f R w):Cl Pg 62 [(.agg (Ar a b c d e f))] false [.sc .b] R w:=
 ce (s' (s' (s' l'))) Tryz.func62 h
theorem FO (p_s:Sl)(p_f:Value){R:TR [.sc .b]->Pr}{w:World}(h:B7 Pg 101 p_s p_f R w):Cl Pg 63 [(.slice p_s.p p_s.len p_s.cap),p_f] false [.sc .b] R w:=
 AF Tryz.checked.mixed (.seq .leaf (.seq .leaf .leaf)) Tryz.func63 (by kernel_rfl) (by kernel_rfl) h
def Zo (a:Int)(R:TR [.sc .v]->Pr):Pr:=
 At #[(Vu a)] 32 λb=>
 R ((Value.func (.func 102) #[] #[(Vp (some b))]),())
theorem VM (a){R w}(h:Zo a R w):Cl Pg 64 [(Vu a)] false [.sc .v] R w:=
 ce (s' (s' l')) Tryz.func64 h
def Rv (a b c d:ByteArray)(R:TR [.sc .b]->Pr):Pr:=
 At #[(Vt a),(Vt b)] 37 λe=>
 At #[(Vt c),(Vt d)] 37 λf=>
 Dr <|
 Ls e 0 λg=>
 Ls e 1 λi=>
 Cl Pg 45 [(.agg #[(Vt g),(Vt i)])] false [.sc (.i .i64)] λj=>
 Br ((j.1:Int)==0) (
 Ls f 0 λk=>
 Ls f 1 λl=>
 Cl Pg 45 [(.agg #[(Vt k),(Vt l)])] false [.sc (.i .i64)] λm=>
 Br ((m.1:Int)==0) (
 Ls e 0 λn=>
 Ls f 0 λo=>
 Br (slt n o||seq n o) (
 Ls e 1 λp=>
 Ls f 1 λq=>
 Ls f 1 λr=>
 Cl Pg 103 [(Vt p),(Vt q)] false [.sc .s] λs=>
 AH (Ls f 1 λt=>
 λ_=>((Vt t):Value)=(Vt r)) <|
 R ((seq s.1 r),())) (
 R (false,()))) (
 R (false,()))) (
 R (false,()))
theorem Qz (a b c d){R w}(h:Rv a b c d R w):Cl Pg 65 [(.agg #[(Vt a),(Vt b)]),(.agg #[(Vt c),(Vt d)])] false [.sc .b] R w:=
 ce (s' (s' l')) Tryz.func65 h
def NU (a:Int)(b c:ByteArray)(d:Bool)(R:TR [.sc .v]->Pr):Pr:=
 At (Cg a b c d) 146 λe=>
 R ((Value.func (.func 104) #[] #[(Vp (some e))]),())
theorem OR (a b c d){R w}(h:NU a b c d R w):Cl Pg 66 [(.agg (Cg a b c d))] false [.sc .v] R w:=
 ce (s' (s' l')) Tryz.func66 h
def H0 (a:Option Addr)(b:Sl)(R:TR [.sc .sl,.sc .sl]->Pr):Pr:=
 At #[(Vp a)] 88 λc=>
 Lp (σ:=Sl×Sl×Sl×Sl×Unit) (λd e=>
 Di c λf=>
 Nn f λg=>
 Ll g 1 λi=>
 Cl Pg 101 [(Vs i),(.func (.func 106) #[] #[(Vp (some c))])] false [.sc (.i .i64)] λj=>
 Br (decide ((j.1:Int)<0)) (
 Cl Pg 107 [(Vs e.2.2.2.1)] false [.sc .sl] λk=>
 Cl Pg 107 [(Vs e.1)] false [.sc .sl] λl=>
 R (k.1,l.1,())) (
 Di c λm=>
 Nn m λn=>
 Ll n 1 λo=>
 Ix o j.1 4 λp=>
 Gs p λq r s t=>
 At Vm 146 λu=>
 UY u q r s t <|
 Dr <|
 Di c λv=>
 Di c λx=>
 Nn x λy=>
 Ll y 1 λz=>
 Cl Pg 108 [(Vs z),(Vi j.1),(Vi (An (j.1+1)))] false [.sc .sl] λa0=>
 AH (Di c λb0=>
 λ_=>((Vp b0):Value)=(Vp v)) <|
 Nn v λc0=>
 Ts c0 1 a0.1 <|
 Lu u 0 λd0=>
 At #[(Vu d0)] 32 λe0=>
 App 32 1 8 (zc Pg 32) e.2.2.2.1 1 (BH (some e0) 1 1) λf0=>
 Di c λg0=>
 Gs u λi0 j0 k0 l0=>
 Cl Pg 68 [(Vp g0),(.agg (Cg i0 j0 k0 l0))] false [.sc .sl] λm0=>
 App 32 1 8 (zc Pg 32) e.1 m0.1.len (BH m0.1.p m0.1.len 1) λn0=>
 d (n0,e.2.1,e.2.2.1,f0,()))) (b,⟨none,0,0⟩,⟨none,0,0⟩,⟨none,0,0⟩,())
theorem Km (a b){R w}(h:H0 a b R w):Cl Pg 67 [(Vp a),(Vs b)] true [.sc .sl,.sc .sl] R w:=
 ce (s' (s' (.block (.loop [(1,.sc .sl),(4,.sc .sl),(5,.sc .sl),(6,.sc .sl)] (.block (s' (q' (s' (k' (s' l') l')) (s' (s' (s' l')))))))))) Tryz.func67 h
def I8 (a:Option Addr)(b:Int)(c d:ByteArray)(e:Bool)(R:TR [.sc .sl]->Pr):Pr:=
 At (Cg b c d e) 146 λf=>
 Dr <|
 Nn a λg=>
 Ll g 0 λi=>
 Gs f λj k l m=>
 At (Cg j k l m) 146 λn=>
 AH (Ll g 0 λo=>
 λ_=>((Vs o):Value)=(Vs i)) <|
 App 146 4 48 (zc Pg 146) i 1 (BH (some n) 1 4) λp=>
 Nn a λq=>
 Ts q 0 p <|
 Gs f λr s t u=>
 Cl Pg 66 [(.agg (Cg r s t u))] false [.sc .v] λv=>
 Nn a λx=>
 Ll x 1 λy=>
 Lp (σ:=Sl×Int×Unit) (λz a0=>
 Br (decide ((a0.2.1:Int)<((y.len:Nat):Int))) (
 Jp (σ:=Sl×Unit) (λb0=>
 z (b0.1,(An (a0.2.1+1)),())) λc0=>
 Ix y a0.2.1 4 λd0=>
 Gs d0 λe0 f0 g0 i0=>
 At Vm 146 λj0=>
 UY j0 e0 f0 g0 i0 <|
 Jp (σ:=Bool×Unit) (λk0=>
 Br k0.1 (
 Lu j0 0 λl0=>
 At #[(Vu l0)] 32 λm0=>
 App 32 1 8 (zc Pg 32) a0.1 1 (BH (some m0) 1 1) λn0=>
 c0 (n0,())) (
 c0 (a0.1,()))) λo0=>
 Lu j0 0 λp0=>
 Lu f 0 λq0=>
 Br (decide ((p0:Int)>q0)) (
 Gs j0 λr0 s0 t0 u0=>
 AB Pg v.1 [(.agg (Cg r0 s0 t0 u0))] false [.sc .b] λv0=>
 o0 (v0.1,())) (
 o0 (false,()))) (
 Lp (σ:=Int×Unit) (λx0 y0=>
 Br (decide ((y0.1:Int)<((a0.1.len:Nat):Int))) (
 Ix a0.1 y0.1 1 λz0=>
 A2 .u64 z0 λa1=>
 Cl Pg 109 [(Vp a),(Vu a1)] true [] λb1=>
 x0 ((An (y0.1+1)),())) (
 R (a0.1,()))) (0,()))) (⟨none,0,0⟩,0,())
theorem K5 (a b c d e){R w}(h:I8 a b c d e R w):Cl Pg 68 [(Vp a),(.agg (Cg b c d e))] false [.sc .sl] R w:=
 ce (s' (s' (s' (s' (q' (s' (.block (.loop [(5,.sc .sl),(28,.sc (.i .i64))] (s' (q' (k' l' l') (q' (.join [(5,.sc .sl)] (.block (s' (q' (.join [(41,.sc .b)] l') (k' l' l'))))) l')))))) (q' (s' (.block (.loop [(50,.sc (.i .i64))] (s' (q' (k' l' l') (q' (.block (s' l')) l')))))) (s' l'))))))) Tryz.func68 h
theorem EG (p_x:Sl)(p_target:Int)(p_cmp:Value){R:TR [.sc (.i .i64),.sc .b]->Pr}{w:World}(h:B2 Pg 4 (ldA [(.i .u64),.s,.s,.b]) p_x (.int .u64 p_target) p_cmp R w):Cl Pg 69 [(.slice p_x.p p_x.len p_x.cap),(.int .u64 p_target),p_cmp] true [.sc (.i .i64),.sc .b] R w:=
 AF Tryz.checked.mixed (.seq .leaf (.seq .leaf (.seq .leaf (.seq (.block (.loop [(9,.sc (.i .i64)),(10,.sc (.i .i64))] (.seq (.seq .leaf (.cond .leaf .leaf)) (.block (.seq .leaf (.seq .leaf (.cond .leaf .leaf))))))) (.seq .leaf .leaf))))) Tryz.func69 (by kernel_rfl) (by kernel_rfl) h
def IB (a:Int)(b c:ByteArray)(d:Bool)(e:Int)(R:TR [.sc (.i .i64)]->Pr):Pr:=
 At (Cg a b c d) 146 λf=>
 Lu f 0 λg=>
 Cl Pg 71 [(Vu g),(Vu e)] false [.sc (.i .i64)] λi=>
 R (i.1,())
theorem KZ (a b c d e){R w}(h:IB a b c d e R w):Cl Pg 70 [(.agg (Cg a b c d)),(Vu e)] false [.sc (.i .i64)] R w:=
 ce (s' (s' l')) Tryz.func70 h
def GY (a b:Int)(R:TR [.sc (.i .i64)]->Pr):Pr:=
 Cl Pg 110 [(Vu a)] false [.sc .b] λc=>
 Cl Pg 110 [(Vu b)] false [.sc .b] λd=>
 Br c.1 (
 Br d.1 (
 R (0,())) (
 R ((-1),()))) (
 Br d.1 (
 R (1,())) (
 Br (decide ((a:Int)<b)) (
 R ((-1),())) (
 Br (decide ((a:Int)>b)) (
 R (1,())) (
 R (0,())))))
theorem Kv (a b){R w}(h:GY a b R w):Cl Pg 71 [(Vu a),(Vu b)] false [.sc (.i .i64)] R w:=
 ce (s' (s' (s' (q' (s' (k' (q' (s' (k' (s' l') l')) (s' l')) l')) (q' (s' (k' (s' l') l')) (q' (s' (k' (s' l') l')) (q' (s' (k' (s' l') l')) (s' l')))))))) Tryz.func71 h
theorem Lx (p_s:Sl)(p_i:Int)(p_v:Sl){R:TR [.sc .sl]->Pr}{w:World}(h:Fj Pg 111 112 146 4 48 (zc Pg 146) p_s p_i p_v R w):Cl Pg 72 [(.slice p_s.p p_s.len p_s.cap),(.int .i64 p_i),(.slice p_v.p p_v.len p_v.cap)] false [.sc .sl] R w:=
 AF Tryz.checked.mixed (.seq .leaf (.seq .leaf (.seq .leaf (.seq (.seq .leaf (.cond (.seq .leaf .leaf) .leaf)) (.seq .leaf (.seq (.seq .leaf (.cond (.seq .leaf .leaf) .leaf)) (.seq (.seq .leaf (.cond (.seq .leaf (.seq .leaf (.seq .leaf (.seq .leaf .leaf)))) .leaf)) (.seq .leaf (.seq (.seq .leaf (.cond (.seq .leaf (.seq .leaf (.seq .leaf .leaf))) .leaf)) (.seq .leaf (.seq .leaf (.seq .leaf .leaf)))))))))))) Tryz.func72 (by kernel_rfl) (by kernel_rfl) h
def IE (a:Option Addr)(b c d e f g i j k l m n o p q:Int)(r:Bool)(s t:ByteArray)(u v x:Sl)(R:TR []->Pr):Pr:=
 At #[(Vp a)] 28 λy=>
 At (Ag b c d e f g i j k l m n o p q r s t u v x) 47 λz=>
 Jp (σ:=Unit) (λa0=>
 Di y λb0=>
 Lu z 8 λc0=>
 Cl Pg 115 [(Vp b0),(Vu c0)] true [.sc (.i .i64),.sc .b] λd0=>
 Jp (σ:=Bool×Unit) (λe0=>
 Br e0.1 (
 R ()) (
 Di y λf0=>
 Lu z 8 λg0=>
 Cl Pg 116 [(Vp f0),(Vu g0)] true [.sc (.i .i64),.sc .b] λi0=>
 Br i0.2.1 (
 Dr <|
 Di y λj0=>
 Lu z 8 λk0=>
 Di y λl0=>
 Di y λm0=>
 Nn m0 λn0=>
 Ll (n0.add 0) 6 λo0=>
 Ix o0 i0.1 2 λp0=>
 Ll p0 1 λq0=>
 Cl Pg 118 [(Vp l0),(Vs q0)] false [.sc .sl] λr0=>
 AH (Lu z 8 λs0=>
 λ_=>((Vu s0):Value)=(Vu k0)) <|
 AH (Di y λt0=>
 λ_=>((Vp t0):Value)=(Vp j0)) <|
 Cl Pg 117 [(Vp j0),(Vu k0),(Vi 3),(Vs r0.1)] true [] λu0=>
 R ()) (
 Dr <|
 Di y λv0=>
 Nn v0 λx0=>
 Ll (x0.add 0) 6 λy0=>
 Di y λz0=>
 Nn z0 λa1=>
 Ll a1 17 λb1=>
 Jp (σ:=Bool×Unit) (λc1=>
 Br c1.1 (
 Di y λd1=>
 Lu z 8 λe1=>
 Cl Pg 117 [(Vp d1),(Vu e1),(Vi 4),(.slice none 0 0)] true [] λf1=>
 R ()) (
 Ll z 18 λg1=>
 Cl Pg 28 [(Vs g1)] true [.sc .sl,.sc (.i .i64)] λi1=>
 Dr <|
 Di y λj1=>
 Di y λk1=>
 Nn k1 λl1=>
 Ll l1 17 λm1=>
 Lu z 8 λn1=>
 Ll z 18 λo1=>
 Cl Pg 60 [(Vs o1)] false [.sc .sl] λp1=>
 AH (Lu z 8 λq1=>
 λ_=>((Vu q1):Value)=(Vu n1)) <|
 AH (Ll l1 17 λr1=>
 λ_=>((Vs r1):Value)=(Vs m1)) <|
 AH (Di y λs1=>
 λ_=>((Vp s1):Value)=(Vp k1)) <|
 AH (Di y λt1=>
 λ_=>((Vp t1):Value)=(Vp j1)) <|
 At (RL n1 p1.1 i1.1 0) 114 λu1=>
 AH (Ll l1 17 λv1=>
 λ_=>((Vs v1):Value)=(Vs m1)) <|
 AH (Di y λx1=>
 λ_=>((Vp x1):Value)=(Vp k1)) <|
 AH (Di y λy1=>
 λ_=>((Vp y1):Value)=(Vp j1)) <|
 Cl Pg 122 [(Vs m1),(Vi d0.1),(.slice (some u1) 1 1)] false [.sc .sl] λz1=>
 AH (Di y λa2=>
 λ_=>((Vp a2):Value)=(Vp j1)) <|
 Nn j1 λb2=>
 Ts b2 17 z1.1 <|
 Di y λc2=>
 Lu z 8 λd2=>
 Cl Pg 123 [(Vp c2),(Vu d2)] true [] λe2=>
 Di y λf2=>
 Cl Pg 124 [(Vp f2)] true [] λg2=>
 R ())) λi2=>
 Dr <|
 Lu z 11 λj2=>
 Di y λk2=>
 Nn k2 λl2=>
 Lu (l2.add 0) 3 λm2=>
 Br ((j2:Int) !=m2) (
 i2 (true,())) (
 Br (decide (((An (((y0.len:Nat):Int)+((b1.len:Nat):Int))):Int)>=6)) (
 i2 (true,())) (
 Di y λn2=>
 Nn n2 λo2=>
 Ll (o2.add 0) 7 λp2=>
 Br (decide (((An ((An (((y0.len:Nat):Int)+((b1.len:Nat):Int)))+((p2.len:Nat):Int))):Int)>=64)) (
 i2 (true,())) (
 Ll z 18 λq2=>
 Cl Pg 48 [(Vs q2),(.func (.func 119) #[] #[(Vp (some y))])] false [.sc .b] λr2=>
 Br r2.1 (
 i2 (true,())) (
 Di y λs2=>
 Ll z 18 λt2=>
 Cl Pg 121 [(Vp s2),(Vs t2)] false [.sc .b] λu2=>
 i2 (u2.1,())))))))) λv2=>
 Dr <|
 Lu z 8 λx2=>
 Di y λy2=>
 Nn y2 λz2=>
 Lu (z2.add 0) 8 λa3=>
 Br (decide ((x2:Int)<a3)) (
 v2 (true,())) (
 Di y λb3=>
 Nn b3 λc3=>
 Ll (c3.add 0) 7 λd3=>
 Lu z 8 λe3=>
 Cl Pg 47 [(Vs d3),(Vu e3)] false [.sc .b] λf3=>
 Br f3.1 (
 v2 (true,())) (
 v2 (d0.2.1,())))) λg3=>
 Dr <|
 Lu z 9 λi3=>
 Di y λj3=>
 Nn j3 λk3=>
 Lu (k3.add 0) 8 λl3=>
 Br (decide ((i3:Int)>l3)) (
 Di y λm3=>
 Lu z 9 λn3=>
 Nn m3 λo3=>
 Tu (o3.add 0) 8 n3 <|
 Dr <|
 Di y λp3=>
 Di y λq3=>
 Nn q3 λr3=>
 Ll (r3.add 0) 7 λs3=>
 Cl Pg 113 [(Vs s3),(.func (.func 114) #[] #[(Vp (some z))])] false [.sc .sl] λt3=>
 AH (Di y λu3=>
 λ_=>((Vp u3):Value)=(Vp p3)) <|
 Nn p3 λv3=>
 Ts (v3.add 0) 7 t3.1 <|
 g3 ()) (
 g3 ())
theorem Lo (a b c d e f g i j k l m n o p q r s t u v x){R w}(h:IE a b c d e f g i j k l m n o p q r s t u v x R w):Cl Pg 73 [(Vp a),(.agg (Ag b c d e f g i j k l m n o p q r s t u v x))] true [] R w:=
 ce (s' (q' (.join [] (s' (k' (s' l') l'))) (s' (q' (q' (.join [(64,.sc .b)] l') (k' l' l')) (q' (s' (s' (k' (s' l') l'))) (s' (s' (q' (q' (.join [(135,.sc .b)] l') (k' (s' l') l')) (s' (s' (s' l'))))))))))) Tryz.func73 h
def Gi (a:Option Addr)(b c d e f g i j k l m n o p q:Int)(r:Bool)(s t:ByteArray)(u v x:Sl)(R:TR []->Pr):Pr:=
 At (Ag b c d e f g i j k l m n o p q r s t u v x) 47 λy=>
 Lu y 8 λz=>
 Cl Pg 38 [(Vp a),(.agg #[(Vi 6),(Vi 0),(Vi 0),(Vi 0),(Vi 0),(Vi 0),(Vu 0),(Vu 0),(Vu z),(Vu 0),(Vu 0),(Vu 0),(Vu 0),(Vu 0),(Vu 0),(Vb false),(Vt (BA [])),(Vt (BA [])),(.slice none 0 0),(.slice none 0 0),(.slice none 0 0)])] true [] λa0=>
 Lu y 8 λb0=>
 Cl Pg 116 [(Vp a),(Vu b0)] true [.sc (.i .i64),.sc .b] λc0=>
 Br c0.2.1 (
 Nn a λd0=>
 Ll (d0.add 0) 6 λe0=>
 Ix e0 c0.1 2 λf0=>
 Ll f0 1 λg0=>
 Nn a λi0=>
 Ll (i0.add 0) 6 λj0=>
 Cl Pg 125 [(Vs j0),(Vi c0.1),(Vi (An (c0.1+1)))] false [.sc .sl] λk0=>
 Nn a λl0=>
 Ts (l0.add 0) 6 k0.1 <|
 Lp (σ:=Int×Unit) (λm0 n0=>
 Br (decide ((n0.1:Int)<((g0.len:Nat):Int))) (
 Jp (σ:=Unit) (λo0=>
 m0 ((An (n0.1+1)),())) λp0=>
 Ix g0 n0.1 6 λq0=>
 AN q0 λr0 s0 t0 u0 v0 x0=>
 At Gx 81 λy0=>
 Gh y0 r0 s0 t0 u0 v0 x0 <|
 Jp (σ:=Bool×Unit) (λz0=>
 Br z0.1 (
 Dr <|
 Nn a λa1=>
 Ll (a1.add 21) 1 λb1=>
 AN y0 λc1 d1 e1 f1 g1 i1=>
 At (Ar c1 d1 e1 f1 g1 i1) 81 λj1=>
 AH (Ll (a1.add 21) 1 λk1=>
 λ_=>((Vs k1):Value)=(Vs b1)) <|
 App 81 6 80 (zc Pg 81) b1 1 (BH (some j1) 1 6) λl1=>
 Nn a λm1=>
 Ts (m1.add 21) 1 l1 <|
 AN y0 λn1 o1 p1 q1 r1 s1=>
 Cl Pg 126 [(Vp a),(.agg (Ar n1 o1 p1 q1 r1 s1))] true [] λt1=>
 p0 ()) (
 p0 ())) λu1=>
 Lb y 15 λv1=>
 Br v1 (
 AN y0 λx1 y1 z1 a2 b2 c2=>
 Cl Pg 62 [(.agg (Ar x1 y1 z1 a2 b2 c2))] false [.sc .b] λd2=>
 u1 (d2.1,())) (
 u1 (false,()))) (
 Lu y 8 λe2=>
 Cl Pg 127 [(Vp a),(Vu e2)] true [] λf2=>
 R ())) (0,())) (
 Lu y 8 λg2=>
 Cl Pg 115 [(Vp a),(Vu g2)] true [.sc (.i .i64),.sc .b] λi2=>
 Br i2.2.1 (
 Nn a λj2=>
 Ll j2 17 λk2=>
 Cl Pg 128 [(Vs k2),(Vi i2.1),(Vi (An (i2.1+1)))] false [.sc .sl] λl2=>
 Nn a λm2=>
 Ts m2 17 l2.1 <|
 Lu y 8 λn2=>
 Cl Pg 127 [(Vp a),(Vu n2)] true [] λo2=>
 R ()) (
 R ()))
theorem IS (a b c d e f g i j k l m n o p q r s t u v x){R w}(h:Gi a b c d e f g i j k l m n o p q r s t u v x R w):Cl Pg 74 [(Vp a),(.agg (Ag b c d e f g i j k l m n o p q r s t u v x))] true [] R w:=
 ce (s' (s' (s' (s' (k' (s' (s' (q' (s' (.block (.loop [(48,.sc (.i .i64))] (s' (q' (k' l' l') (q' (.join [] (.block (s' (q' (.join [(57,.sc .b)] l') (k' (s' l') l'))))) l')))))) l'))) (s' (s' (k' (s' l') l')))))))) Tryz.func74 h
def Gt (a:Option Addr)(b c d e f g i j k l m n o p q:Int)(r:Bool)(s t:ByteArray)(u v x:Sl)(R:TR []->Pr):Pr:=
 At (Ag b c d e f g i j k l m n o p q r s t u v x) 47 λy=>
 Jp (σ:=Unit) (λz=>
 Nn a λa0=>
 Lu (a0.add 0) 2 λb0=>
 Cl Pg 38 [(Vp a),(.agg #[(Vi 9),(Vi 0),(Vi 0),(Vi 0),(Vi 0),(Vi 0),(Vu 0),(Vu 0),(Vu 0),(Vu 0),(Vu b0),(Vu 0),(Vu 0),(Vu 0),(Vu 0),(Vb false),(Vt (BA [])),(Vt (BA [])),(.slice none 0 0),(.slice none 0 0),(.slice none 0 0)])] true [] λc0=>
 R ()) λd0=>
 Dr <|
 Lu y 10 λe0=>
 Nn a λf0=>
 Lu (f0.add 0) 2 λg0=>
 Br (decide ((e0:Int)>g0)) (
 Nn a λi0=>
 Ll (i0.add 0) 5 λj0=>
 Cl Pg 129 [(Vp a),(Vs j0),(Vb true)] false [.sc .sl] λk0=>
 Dr <|
 Lu y 10 λl0=>
 Lu y 11 λm0=>
 Lu y 12 λn0=>
 Ll y 20 λo0=>
 Cl Pg 57 [(Vs o0)] false [.sc .sl] λp0=>
 AH (Lu y 12 λq0=>
 λ_=>((Vu q0):Value)=(Vu n0)) <|
 AH (Lu y 11 λr0=>
 λ_=>((Vu r0):Value)=(Vu m0)) <|
 AH (Lu y 10 λs0=>
 λ_=>((Vu s0):Value)=(Vu l0)) <|
 Nn a λt0=>
 Tu (t0.add 0) 2 l0 <|
 AH (Lu y 12 λu0=>
 λ_=>((Vu u0):Value)=(Vu n0)) <|
 AH (Lu y 11 λv0=>
 λ_=>((Vu v0):Value)=(Vu m0)) <|
 Nn a λx0=>
 Tu (x0.add 0) 3 m0 <|
 AH (Lu y 12 λy0=>
 λ_=>((Vu y0):Value)=(Vu n0)) <|
 Nn a λz0=>
 Tu (z0.add 0) 4 n0 <|
 Nn a λa1=>
 Ts (a1.add 0) 5 p0.1 <|
 Jp (σ:=Unit) (λb1=>
 Jp (σ:=Unit) (λc1=>
 Nn a λd1=>
 Ll (d1.add 0) 5 λe1=>
 Cl Pg 129 [(Vp a),(Vs e1),(Vb false)] false [.sc .sl] λf1=>
 Jp (σ:=Unit) (λg1=>
 Lp (σ:=Int×Unit) (λi1 j1=>
 Br (decide ((j1.1:Int)<((f1.1.len:Nat):Int))) (
 Ix f1.1 j1.1 2 λk1=>
 Ls k1 0 λl1=>
 Ls k1 1 λm1=>
 At #[(Vt (BA [])),(Vt (BA []))] 37 λn1=>
 Tt n1 0 l1 <|
 Tt n1 1 m1 <|
 Lp (σ:=Int×Unit) (λo1 p1=>
 Br (decide ((p1.1:Int)<((k0.1.len:Nat):Int))) (
 Ix k0.1 p1.1 2 λq1=>
 Ls q1 0 λr1=>
 Ls q1 1 λs1=>
 At #[(Vt (BA [])),(Vt (BA []))] 37 λt1=>
 Tt t1 0 r1 <|
 Tt t1 1 s1 <|
 Ls n1 0 λu1=>
 Ls n1 1 λv1=>
 Ls t1 0 λx1=>
 Ls t1 1 λy1=>
 Cl Pg 130 [(Vp a),(.agg #[(Vt u1),(Vt v1)]),(.agg #[(Vt x1),(Vt y1)])] true [] λz1=>
 o1 ((An (p1.1+1)),())) (
 i1 ((An (j1.1+1)),()))) (0,())) (
 d0 ())) (0,())) λa2=>
 Jp (σ:=Bool×Unit) (λb2=>
 Br b2.1 (
 Lp (σ:=Int×Unit) (λc2 d2=>
 Br (decide ((d2.1:Int)<((f1.1.len:Nat):Int))) (
 Ix f1.1 d2.1 2 λe2=>
 Ls e2 0 λf2=>
 Ls e2 1 λg2=>
 At #[(Vt (BA [])),(Vt (BA []))] 37 λi2=>
 Tt i2 0 f2 <|
 Tt i2 1 g2 <|
 Dr <|
 Ls i2 0 λj2=>
 Ls i2 1 λk2=>
 Nn a λl2=>
 BU ((((l2.add 0).add 12).add 3).add 0) λm2=>
 BU ((((l2.add 0).add 12).add 3).add 1) λn2=>
 Cl Pg 130 [(Vp a),(.agg #[(Vt j2),(Vt k2)]),(.agg #[(Vt m2),(Vt n2)])] true [] λo2=>
 c2 ((An (d2.1+1)),())) (
 Nn a λp2=>
 St (((p2.add 0).add 12).add 0) (Vu 0) <|
 St (((p2.add 0).add 12).add 1) (Vu 0) <|
 St (((p2.add 0).add 12).add 2) (Vu 0) <|
 St (((p2.add 0).add 12).add 3) (Vt (BA [])) <|
 St (((p2.add 0).add 12).add 4) (Vt (BA [])) <|
 a2 ())) (0,())) (
 a2 ())) λq2=>
 Dr <|
 Nn a λr2=>
 A2 .u64 (((r2.add 0).add 12).add 0) λs2=>
 Br ((s2:Int) !=0) (
 Nn a λt2=>
 A2 .u64 (((t2.add 0).add 12).add 0) λu2=>
 Lu y 12 λv2=>
 q2 (((u2:Int) !=v2),())) (
 q2 (false,()))) λx2=>
 Dr <|
 Nn a λy2=>
 Lu (y2.add 0) 9 λz2=>
 Lu y 12 λa3=>
 Br ((z2:Int) !=a3) (
 Nn a λb3=>
 Tu (b3.add 0) 9 0 <|
 Nn a λc3=>
 St (((c3.add 0).add 10).add 0) (Vt (BA [])) <|
 St (((c3.add 0).add 10).add 1) (Vt (BA [])) <|
 x2 ()) (
 x2 ())) λd3=>
 Jp (σ:=Bool×Unit) (λe3=>
 Br e3.1 (
 Nn a λf3=>
 Tp f3 19 none <|
 d3 ()) (
 d3 ())) λg3=>
 Dr <|
 Nn a λi3=>
 Hr i3 19 λj3=>
 Br (!(Option.isNone j3)) (
 Nn a λk3=>
 Hr k3 19 λl3=>
 Nn l3 λm3=>
 Lu m3 0 λn3=>
 Lu y 12 λo3=>
 g3 (((n3:Int) !=o3),())) (
 g3 (false,()))) (
 d0 ())
theorem Jf (a b c d e f g i j k l m n o p q r s t u v x){R w}(h:Gt a b c d e f g i j k l m n o p q r s t u v x R w):Cl Pg 75 [(Vp a),(.agg (Ag b c d e f g i j k l m n o p q r s t u v x))] true [] R w:=
 ce (s' (q' (.join [] (s' (k' (s' (s' (q' (.join [] (q' (.join [(68,.sc .b)] l') (k' l' l'))) (q' (.join [] (s' (k' l' l'))) (s' (q' (.join [] (q' (.join [(113,.sc .b)] l') (k' (q' (s' (.block (.loop [(116,.sc (.i .i64))] (s' (q' (k' l' l') (q' (.block (s' l')) l')))))) l') l'))) (s' (.block (.loop [(137,.sc (.i .i64))] (s' (q' (k' l' l') (q' (.block (s' (s' (.block (.loop [(143,.sc (.i .i64))] (s' (q' (k' l' l') (q' (.block (s' l')) l')))))))) l')))))))))))) l'))) l')) Tryz.func75 h
def Gz (a:Option Addr)(b c d e f g i j k l m n o p q:Int)(r:Bool)(s t:ByteArray)(u v x:Sl)(R:TR []->Pr):Pr:=
 At (Ag b c d e f g i j k l m n o p q r s t u v x) 47 λy=>
 Jp (σ:=Bool×Unit) (λz=>
 Br z.1 (
 R ()) (
 Dr <|
 Nn a λa0=>
 Lu (a0.add 0) 9 λb0=>
 Lu y 12 λc0=>
 Br ((b0:Int)==c0) (
 Lu y 12 λd0=>
 Cl Pg 38 [(Vp a),(.agg #[(Vi 14),(Vi 0),(Vi 0),(Vi 0),(Vi 0),(Vi 0),(Vu 0),(Vu 0),(Vu 0),(Vu 0),(Vu 0),(Vu 0),(Vu d0),(Vu 0),(Vu 0),(Vb false),(Vt (BA [])),(Vt (BA [])),(.slice none 0 0),(.slice none 0 0),(.slice none 0 0)])] true [] λe0=>
 R ()) (
 Jp (σ:=Unit) (λf0=>
 Jp (σ:=Unit) (λg0=>
 Cl Pg 131 [(Vp a)] true [] λi0=>
 Jp (σ:=Bool×Unit) (λj0=>
 Br j0.1 (
 Lu y 12 λk0=>
 Cl Pg 38 [(Vp a),(.agg #[(Vi 13),(Vi 0),(Vi 0),(Vi 0),(Vi 0),(Vi 0),(Vu 0),(Vu 0),(Vu 0),(Vu 0),(Vu 0),(Vu 0),(Vu k0),(Vu 0),(Vu 0),(Vb false),(Vt (BA [])),(Vt (BA [])),(.slice none 0 0),(.slice none 0 0),(.slice none 0 0)])] true [] λl0=>
 R ()) (
 R ())) λm0=>
 Nn a λn0=>
 Hr n0 19 λo0=>
 Br (!(Option.isNone o0)) (
 Nn a λp0=>
 Hr p0 19 λq0=>
 Nn q0 λr0=>
 Lb r0 5 λs0=>
 Br (!s0) (
 Nn a λt0=>
 Hr t0 19 λu0=>
 Nn u0 λv0=>
 Lb v0 6 λx0=>
 m0 ((!x0),())) (
 m0 (false,()))) (
 m0 (false,()))) λy0=>
 Dr <|
 Nn a λz0=>
 Hr z0 19 λa1=>
 Nn a λb1=>
 Hr b1 19 λc1=>
 Nn c1 λd1=>
 Lb d1 5 λe1=>
 Br e1 (
 Nn a1 λf1=>
 Tb f1 5 true <|
 y0 ()) (
 Lb y 15 λg1=>
 Nn a1 λi1=>
 Tb i1 5 g1 <|
 y0 ())) λj1=>
 Nn a λk1=>
 Hr k1 19 λl1=>
 Br (Option.isNone l1) (
 Lu y 12 λm1=>
 Ls (y.add 16) 0 λn1=>
 Ls (y.add 16) 1 λo1=>
 Li y 5 λp1=>
 Ls (y.add 16) 0 λq1=>
 At #[(Vu m1),(Vu 0),(Vt n1),(Vt o1),(Vi p1),(Vb false),(Vb false),(Vb false),(.slice none 0 0),(.slice none 0 0),(Vt q1)] 118 λr1=>
 Nn a λs1=>
 St (s1.add 19) (Vp (some r1)) <|
 j1 ()) (
 j1 ())))) λt1=>
 Dr <|
 Lu y 10 λu1=>
 Nn a λv1=>
 Lu (v1.add 0) 2 λx1=>
 Br ((u1:Int) !=x1) (
 t1 (true,())) (
 Lu y 12 λy1=>
 Br ((y1:Int)==0) (
 t1 (true,())) (
 Lu y 12 λz1=>
 Nn a λa2=>
 Lu (a2.add 0) 4 λb2=>
 Br ((z1:Int) !=b2) (
 t1 (true,())) (
 Li y 5 λc2=>
 Nn a λd2=>
 Li (d2.add 0) 0 λe2=>
 Br ((c2:Int)==e2) (
 t1 (true,())) (
 Nn a λf2=>
 Ll (f2.add 0) 5 λg2=>
 Nn a λi2=>
 Li (i2.add 0) 0 λj2=>
 Ls (y.add 16) 0 λk2=>
 Ls (y.add 16) 1 λl2=>
 Cl Pg 120 [(Vs g2),(Vi j2),(.agg #[(Vt k2),(Vt l2)])] false [.sc .b] λm2=>
 t1 ((!m2.1),())))))
theorem Jk (a b c d e f g i j k l m n o p q r s t u v x){R w}(h:Gz a b c d e f g i j k l m n o p q r s t u v x R w):Cl Pg 76 [(Vp a),(.agg (Ag b c d e f g i j k l m n o p q r s t u v x))] true [] R w:=
 ce (s' (q' (q' (.join [(52,.sc .b)] l') (k' l' l')) (q' (s' (k' (s' l') l')) (q' (.join [] (s' (k' l' l'))) (q' (.join [] l') (s' (q' (.join [(128,.sc .b)] l') (k' l' l')))))))) Tryz.func76 h
def HH (a:Option Addr)(b c d e f g i j k l m n o p q:Int)(r:Bool)(s t:ByteArray)(u v x:Sl)(R:TR []->Pr):Pr:=
 At (Ag b c d e f g i j k l m n o p q r s t u v x) 47 λy=>
 Jp (σ:=Bool×Unit) (λz=>
 Br z.1 (
 R ()) (
 Nn a λa0=>
 Jp (σ:=Unit) (λb0=>
 Jp (σ:=Bool×Unit) (λc0=>
 Br c0.1 (
 R ()) (
 Jp (σ:=Unit) (λd0=>
 Li y 1 λe0=>
 Lu y 12 λf0=>
 Lu y 13 λg0=>
 Lu y 14 λi0=>
 Cl Pg 38 [(Vp a),(.agg #[(Vi 12),(Vi 0),(Vi e0),(Vi 0),(Vi 0),(Vi 0),(Vu 0),(Vu 0),(Vu 0),(Vu 0),(Vu 0),(Vu 0),(Vu f0),(Vu g0),(Vu i0),(Vb false),(Vt (BA [])),(Vt (BA [])),(.slice none 0 0),(.slice none 0 0),(.slice none 0 0)])] true [] λj0=>
 R ()) λk0=>
 Dr <|
 Lu y 14 λl0=>
 A2 .u64 (((a0.add 0).add 12).add 2) λm0=>
 Br ((l0:Int)==m0) (
 Dr <|
 Nn a λn0=>
 Ll (n0.add 21) 1 λo0=>
 Ll y 18 λp0=>
 App 81 6 80 (zc Pg 81) o0 p0.len (BH p0.p p0.len 6) λq0=>
 Nn a λr0=>
 Ts (r0.add 21) 1 q0 <|
 A2 .u64 (((a0.add 0).add 12).add 2) λs0=>
 St (((a0.add 0).add 12).add 2) (Vu (IntKind.u64.wrap (s0+1))) <|
 k0 ()) (
 k0 ()))) λt0=>
 Dr <|
 Lu y 13 λu0=>
 A2 .u64 (((a0.add 0).add 12).add 1) λv0=>
 Br (decide ((u0:Int)<v0)) (
 t0 (true,())) (
 Lu y 14 λx0=>
 A2 .u64 (((a0.add 0).add 12).add 2) λy0=>
 Br (decide ((x0:Int)>y0)) (
 t0 (true,())) (
 Ls (y.add 16) 0 λz0=>
 Ls (y.add 16) 1 λa1=>
 BU ((((a0.add 0).add 12).add 3).add 0) λb1=>
 BU ((((a0.add 0).add 12).add 3).add 1) λc1=>
 t0 ((!((seq z0 b1)&&((seq a1 c1)&&true))),())))) λd1=>
 Jp (σ:=Bool×Unit) (λe1=>
 Br e1.1 (
 Lu y 14 λf1=>
 Br ((f1:Int) !=0) (
 R ()) (
 Lu y 12 λg1=>
 Lu y 13 λi1=>
 Ls (y.add 16) 0 λj1=>
 Ls (y.add 16) 1 λk1=>
 St (((a0.add 0).add 12).add 0) (Vu g1) <|
 St (((a0.add 0).add 12).add 1) (Vu i1) <|
 St (((a0.add 0).add 12).add 2) (Vu 0) <|
 St (((a0.add 0).add 12).add 3) (Vt j1) <|
 St (((a0.add 0).add 12).add 4) (Vt k1) <|
 d1 ())) (
 d1 ())) λl1=>
 Dr <|
 Lu y 12 λm1=>
 A2 .u64 (((a0.add 0).add 12).add 0) λn1=>
 Br ((m1:Int) !=n1) (
 l1 (true,())) (
 Lu y 13 λo1=>
 A2 .u64 (((a0.add 0).add 12).add 1) λp1=>
 l1 ((decide ((o1:Int)>p1)),())))) λq1=>
 Dr <|
 Lu y 12 λr1=>
 Br ((r1:Int)==0) (
 q1 (true,())) (
 Lu y 12 λs1=>
 Nn a λt1=>
 Lu (t1.add 0) 4 λu1=>
 Br ((s1:Int) !=u1) (
 q1 (true,())) (
 Nn a λv1=>
 Ll (v1.add 0) 5 λx1=>
 Cl Pg 129 [(Vp a),(Vs x1),(Vb true)] false [.sc .sl] λy1=>
 Cl Pg 134 [(Vs y1.1),(.func (.func 132) #[] #[(Vp (some y))])] false [.sc .b] λz1=>
 Br z1.1 (
 q1 (true,())) (
 Ll y 18 λa2=>
 Cl Pg 48 [(Vs a2),(.func (.func 133) #[] #[(Vp (some y))])] false [.sc .b] λb2=>
 q1 (b2.1,()))))
theorem JE (a b c d e f g i j k l m n o p q r s t u v x){R w}(h:HH a b c d e f g i j k l m n o p q r s t u v x R w):Cl Pg 77 [(Vp a),(.agg (Ag b c d e f g i j k l m n o p q r s t u v x))] true [] R w:=
 ce (s' (s' (s' (q' (q' (.join [(38,.sc .b)] l') (k' l' l')) (s' (q' (.join [] (q' (.join [(58,.sc .b)] l') (k' (q' (s' (k' l' l')) l') l'))) (q' (q' (.join [(95,.sc .b)] l') (k' l' l')) (q' (.join [] (s' (k' (s' l') l'))) l')))))))) Tryz.func77 h
def Ge (a:Option Addr)(b c d e f g i j k l m n o p q:Int)(r:Bool)(s t:ByteArray)(u v x:Sl)(R:TR []->Pr):Pr:=
 At (Ag b c d e f g i j k l m n o p q r s t u v x) 47 λy=>
 Nn a λz=>
 Hr z 19 λa0=>
 Jp (σ:=Bool×Unit) (λb0=>
 Br b0.1 (
 R ()) (
 Nn a0 λc0=>
 Tb c0 6 false <|
 Nn a0 λd0=>
 Lu d0 1 λe0=>
 Nn a0 λf0=>
 St (f0.add 1) (Vu (IntKind.u64.wrap (e0+1))) <|
 Cl Pg 131 [(Vp a)] true [] λg0=>
 R ())) λi0=>
 Dr <|
 Br (Option.isNone a0) (
 i0 (true,())) (
 Nn a0 λj0=>
 Lu j0 0 λk0=>
 Lu y 12 λl0=>
 Br ((k0:Int) !=l0) (
 i0 (true,())) (
 Nn a0 λm0=>
 Li m0 4 λn0=>
 Li y 1 λo0=>
 Br ((n0:Int) !=o0) (
 i0 (true,())) (
 Lu y 13 λp0=>
 Nn a λq0=>
 Lu (q0.add 0) 1 λr0=>
 Br ((p0:Int) !=r0) (
 i0 (true,())) (
 Nn a0 λs0=>
 Lb s0 6 λt0=>
 Br (!t0) (
 i0 (true,())) (
 Lu y 14 λu0=>
 Nn a0 λv0=>
 Lu v0 1 λx0=>
 i0 (((u0:Int) !=x0),()))))))
theorem IN (a b c d e f g i j k l m n o p q r s t u v x){R w}(h:Ge a b c d e f g i j k l m n o p q r s t u v x R w):Cl Pg 78 [(Vp a),(.agg (Ag b c d e f g i j k l m n o p q r s t u v x))] true [] R w:=
 ce (s' (s' (q' (q' (.join [(54,.sc .b)] l') (k' l' l')) (s' (s' l'))))) Tryz.func78 h
def RN (a:Int)(R:TR K4'->Pr):Pr:=
 At #[(Vt (BA [])),.nilFunc,.nilFunc,.nilFunc] 162 λb=>
 O1 (.map #[] 0) λm2=>
 AY (((.func (.func 135) #[] #[]):Value).oneCell'=true) <|
 AY (((.func (.func 136) #[] #[]):Value).oneCell'=true) <|
 AY (((.func (.func 137) #[] #[]):Value).oneCell'=true) <|
 CI (.int .i64) (some m2) (Vi 1) (.agg #[(Vt (BA [113,98,111])),(.func (.func 135) #[] #[]),(.func (.func 136) #[] #[]),(.func (.func 137) #[] #[])]) <|
 AY (((.func (.func 136) #[] #[]):Value).oneCell'=true) <|
 AY (((.func (.func 135) #[] #[]):Value).oneCell'=true) <|
 AY (((.func (.func 139) #[] #[]):Value).oneCell'=true) <|
 CI (.int .i64) (some m2) (Vi 2) (.agg #[(Vt (BA [113,98,99,115])),(.func (.func 136) #[] #[]),(.func (.func 135) #[] #[]),(.func (.func 139) #[] #[])]) <|
 AY (((.func (.func 136) #[] #[]):Value).oneCell'=true) <|
 AY (((.func (.func 141) #[] #[]):Value).oneCell'=true) <|
 AY (((.func (.func 142) #[] #[]):Value).oneCell'=true) <|
 CI (.int .i64) (some m2) (Vi 3) (.agg #[(Vt (BA [116,108,101,111])),(.func (.func 136) #[] #[]),(.func (.func 141) #[] #[]),(.func (.func 142) #[] #[])]) <|
 AY (((.func (.func 141) #[] #[]):Value).oneCell'=true) <|
 AY (((.func (.func 136) #[] #[]):Value).oneCell'=true) <|
 AY (((.func (.func 144) #[] #[]):Value).oneCell'=true) <|
 CI (.int .i64) (some m2) (Vi 4) (.agg #[(Vt (BA [116,99,115])),(.func (.func 141) #[] #[]),(.func (.func 136) #[] #[]),(.func (.func 144) #[] #[])]) <|
 AY (((.func (.func 136) #[] #[]):Value).oneCell'=true) <|
 AY (((.func (.func 141) #[] #[]):Value).oneCell'=true) <|
 AY (((.func (.func 145) #[] #[]):Value).oneCell'=true) <|
 CI (.int .i64) (some m2) (Vi 5) (.agg #[(Vt (BA [116,102])),(.func (.func 136) #[] #[]),(.func (.func 141) #[] #[]),(.func (.func 145) #[] #[])]) <|
 AY (((.func (.func 141) #[] #[]):Value).oneCell'=true) <|
 AY (((.func (.func 136) #[] #[]):Value).oneCell'=true) <|
 AY (((.func (.func 145) #[] #[]):Value).oneCell'=true) <|
 CI (.int .i64) (some m2) (Vi 6) (.agg #[(Vt (BA [116])),(.func (.func 141) #[] #[]),(.func (.func 136) #[] #[]),(.func (.func 145) #[] #[])]) <|
 AY (((.func (.func 141) #[] #[]):Value).oneCell'=true) <|
 AY (((.func (.func 136) #[] #[]):Value).oneCell'=true) <|
 AY (((.func (.func 145) #[] #[]):Value).oneCell'=true) <|
 CI (.int .i64) (some m2) (Vi 7) (.agg #[(Vt (BA [116])),(.func (.func 141) #[] #[]),(.func (.func 136) #[] #[]),(.func (.func 145) #[] #[])]) <|
 AY (((.func (.func 136) #[] #[]):Value).oneCell'=true) <|
 AY (((.func (.func 141) #[] #[]):Value).oneCell'=true) <|
 AY (((.func (.func 146) #[] #[]):Value).oneCell'=true) <|
 CI (.int .i64) (some m2) (Vi 8) (.agg #[(Vt (BA [118,101,109,119])),(.func (.func 136) #[] #[]),(.func (.func 141) #[] #[]),(.func (.func 146) #[] #[])]) <|
 AY (((.func (.func 141) #[] #[]):Value).oneCell'=true) <|
 AY (((.func (.func 136) #[] #[]):Value).oneCell'=true) <|
 AY (((.func (.func 145) #[] #[]):Value).oneCell'=true) <|
 CI (.int .i64) (some m2) (Vi 9) (.agg #[(Vt (BA [118])),(.func (.func 141) #[] #[]),(.func (.func 136) #[] #[]),(.func (.func 145) #[] #[])]) <|
 AY (((.func (.func 136) #[] #[]):Value).oneCell'=true) <|
 AY (((.func (.func 141) #[] #[]):Value).oneCell'=true) <|
 AY (((.func (.func 147) #[] #[]):Value).oneCell'=true) <|
 CI (.int .i64) (some m2) (Vi 10) (.agg #[(Vt (BA [118,109,112,102,114])),(.func (.func 136) #[] #[]),(.func (.func 141) #[] #[]),(.func (.func 147) #[] #[])]) <|
 AY (((.func (.func 141) #[] #[]):Value).oneCell'=true) <|
 AY (((.func (.func 141) #[] #[]):Value).oneCell'=true) <|
 AY (((.func (.func 148) #[] #[]):Value).oneCell'=true) <|
 CI (.int .i64) (some m2) (Vi 11) (.agg #[(Vt (BA [109,97,110,114,111])),(.func (.func 141) #[] #[]),(.func (.func 141) #[] #[]),(.func (.func 148) #[] #[])]) <|
 AY (((.func (.func 141) #[] #[]):Value).oneCell'=true) <|
 AY (((.func (.func 141) #[] #[]):Value).oneCell'=true) <|
 AY (((.func (.func 150) #[] #[]):Value).oneCell'=true) <|
 CI (.int .i64) (some m2) (Vi 12) (.agg #[(Vt (BA [109,97,110])),(.func (.func 141) #[] #[]),(.func (.func 141) #[] #[]),(.func (.func 150) #[] #[])]) <|
 AY (((.func (.func 141) #[] #[]):Value).oneCell'=true) <|
 AY (((.func (.func 136) #[] #[]):Value).oneCell'=true) <|
 AY (((.func (.func 145) #[] #[]):Value).oneCell'=true) <|
 CI (.int .i64) (some m2) (Vi 13) (.agg #[(Vt (BA [109])),(.func (.func 141) #[] #[]),(.func (.func 136) #[] #[]),(.func (.func 145) #[] #[])]) <|
 AY (((.func (.func 141) #[] #[]):Value).oneCell'=true) <|
 AY (((.func (.func 136) #[] #[]):Value).oneCell'=true) <|
 AY (((.func (.func 145) #[] #[]):Value).oneCell'=true) <|
 CI (.int .i64) (some m2) (Vi 14) (.agg #[(Vt (BA [109])),(.func (.func 141) #[] #[]),(.func (.func 136) #[] #[]),(.func (.func 145) #[] #[])]) <|
 LkA [.s,.v,.v,.v] (.agg #[(Vt (BA [])),.nilFunc,.nilFunc,.nilFunc]) (.int .i64) (some m2) (Vi a) λc b4=>
 At #[(Vt (BA [])),.nilFunc,.nilFunc,.nilFunc] 162 λd=>
 Tt d 0 c.1 <|
 St (d.add 1) c.2.1 <|
 St (d.add 2) c.2.2.1 <|
 St (d.add 3) c.2.2.2.1 <|
 Ai1 d λe f g i=>
 Tt b 0 e <|
 St (b.add 1) f <|
 St (b.add 2) g <|
 St (b.add 3) i <|
 Ai1 b λj k l m=>
 R ((j,k,l,m,()),b4,())
theorem Rk (a){R w}(h:RN a R w):Cl Pg 79 [(Vi a)] true K4' R w:=
 ce (s' (s' (s' l'))) Tryz.func79 h
def ZG (R:TR [.sc .m]->Pr):Pr:=
 O1 (.map #[] 0) λm1=>
 Cl Pg 151 [(.func (.func 152) #[] #[])] false [.ag [.v,.v,.v]] λa=>
 CI (.int .i32) (some m1) (.int .i32 113) (.agg #[a.1.1,a.1.2.1,a.1.2.2.1]) <|
 Cl Pg 151 [(.func (.func 153) #[] #[])] false [.ag [.v,.v,.v]] λb=>
 CI (.int .i32) (some m1) (.int .i32 98) (.agg #[b.1.1,b.1.2.1,b.1.2.2.1]) <|
 Cl Pg 151 [(.func (.func 154) #[] #[])] false [.ag [.v,.v,.v]] λc=>
 CI (.int .i32) (some m1) (.int .i32 116) (.agg #[c.1.1,c.1.2.1,c.1.2.2.1]) <|
 Cl Pg 151 [(.func (.func 155) #[] #[])] false [.ag [.v,.v,.v]] λd=>
 CI (.int .i32) (some m1) (.int .i32 108) (.agg #[d.1.1,d.1.2.1,d.1.2.2.1]) <|
 Cl Pg 151 [(.func (.func 156) #[] #[])] false [.ag [.v,.v,.v]] λe=>
 CI (.int .i32) (some m1) (.int .i32 118) (.agg #[e.1.1,e.1.2.1,e.1.2.2.1]) <|
 Cl Pg 151 [(.func (.func 157) #[] #[])] false [.ag [.v,.v,.v]] λf=>
 CI (.int .i32) (some m1) (.int .i32 101) (.agg #[f.1.1,f.1.2.1,f.1.2.2.1]) <|
 Cl Pg 151 [(.func (.func 158) #[] #[])] false [.ag [.v,.v,.v]] λg=>
 CI (.int .i32) (some m1) (.int .i32 109) (.agg #[g.1.1,g.1.2.1,g.1.2.2.1]) <|
 Cl Pg 151 [(.func (.func 159) #[] #[])] false [.ag [.v,.v,.v]] λi=>
 CI (.int .i32) (some m1) (.int .i32 97) (.agg #[i.1.1,i.1.2.1,i.1.2.2.1]) <|
 Cl Pg 151 [(.func (.func 160) #[] #[])] false [.ag [.v,.v,.v]] λj=>
 CI (.int .i32) (some m1) (.int .i32 110) (.agg #[j.1.1,j.1.2.1,j.1.2.2.1]) <|
 Cl Pg 161 [(.func (.func 162) #[] #[])] false [.ag [.v,.v,.v]] λk=>
 CI (.int .i32) (some m1) (.int .i32 99) (.agg #[k.1.1,k.1.2.1,k.1.2.2.1]) <|
 Cl Pg 161 [(.func (.func 163) #[] #[])] false [.ag [.v,.v,.v]] λl=>
 CI (.int .i32) (some m1) (.int .i32 112) (.agg #[l.1.1,l.1.2.1,l.1.2.2.1]) <|
 AY (((.func (.func 164) #[] #[]):Value).oneCell'=true) <|
 AY (((.func (.func 166) #[] #[]):Value).oneCell'=true) <|
 AY (((.func (.func 168) #[] #[]):Value).oneCell'=true) <|
 CI (.int .i32) (some m1) (.int .i32 102) (.agg #[(.func (.func 164) #[] #[]),(.func (.func 166) #[] #[]),(.func (.func 168) #[] #[])]) <|
 AY (((.func (.func 169) #[] #[]):Value).oneCell'=true) <|
 AY (((.func (.func 171) #[] #[]):Value).oneCell'=true) <|
 AY (((.func (.func 173) #[] #[]):Value).oneCell'=true) <|
 CI (.int .i32) (some m1) (.int .i32 114) (.agg #[(.func (.func 169) #[] #[]),(.func (.func 171) #[] #[]),(.func (.func 173) #[] #[])]) <|
 Cl Pg 174 [(.func (.func 175) #[] #[]),(.func (.func 176) #[] #[]),(.func (.func 177) #[] #[])] false [.ag [.v,.v,.v]] λm=>
 CI (.int .i32) (some m1) (.int .i32 111) (.agg #[m.1.1,m.1.2.1,m.1.2.2.1]) <|
 Cl Pg 178 [(.func (.func 179) #[] #[]),(.func (.func 180) #[] #[]),(.func (.func 181) #[] #[])] false [.ag [.v,.v,.v]] λn=>
 CI (.int .i32) (some m1) (.int .i32 115) (.agg #[n.1.1,n.1.2.1,n.1.2.2.1]) <|
 Cl Pg 182 [(.func (.func 183) #[] #[]),(.func (.func 184) #[] #[]),(.func (.func 185) #[] #[])] false [.ag [.v,.v,.v]] λo=>
 CI (.int .i32) (some m1) (.int .i32 119) (.agg #[o.1.1,o.1.2.1,o.1.2.2.1]) <|
 R ((some m1),())
theorem VY {R w}(h:ZG  R w):Cl Pg 80 [] false [.sc .m] R w:=
 ce (s' (s' l')) Tryz.func80 h
def F2 (a:Sl)(b:Int)(R:TR [.sc .b]->Pr):Pr:=
 Cl Pg 186 [(Vs a),(.int .i32 b)] false [.sc (.i .i64)] λc=>
 R ((decide ((c.1:Int)>=0)),())
theorem HS (a b){R w}(h:F2 a b R w):Cl Pg 81 [(Vs a),(.int .i32 b)] false [.sc .b] R w:=
 ce (s' (s' l')) Tryz.func81 h
open Go Go.Sx
def W3 (a b c d e:Int)(f g i:Sl)(j k:Int)(l m:ByteArray)(n o p:Int)(q r:ByteArray)(s t u v x:Int)(y z a0:Sl)(b0 c0:Int)(d0 e0:ByteArray)(f0 g0 i0:Int)(j0 k0:ByteArray)(R:TR [.sc .b]->Pr):Pr:=
 At (Al a b c d e f g i j k l m n o p q r) 41 λl0=>
 At (Al s t u v x y z a0 b0 c0 d0 e0 f0 g0 i0 j0 k0) 41 λm0=>
 Az l0 λn0 o0 p0 q0 r0 s0 t0 u0 v0 x0 y0 z0 a1 b1 c1 d1 e1=>
 Cl Pg 187 [(.agg (Al n0 o0 p0 q0 r0 s0 t0 u0 v0 x0 y0 z0 a1 b1 c1 d1 e1))] true [.sc .sl,.sc (.i .i64)] λf1=>
 Az m0 λg1 i1 j1 k1 l1 m1 n1 o1 p1 q1 r1 s1 t1 u1 v1 x1 y1=>
 Cl Pg 187 [(.agg (Al g1 i1 j1 k1 l1 m1 n1 o1 p1 q1 r1 s1 t1 u1 v1 x1 y1))] true [.sc .sl,.sc (.i .i64)] λz1=>
 Br ((f1.2.1:Int)==0) (
 Br ((z1.2.1:Int)==0) (
 AcH f1.1 λa2=>
 AcH z1.1 λb2=>
 R ((seq a2 b2),())) (
 R (false,()))) (
 R (false,()))
theorem Vl (a b c d e f g i j k l m n o p q r s t u v x y z a0 b0 c0 d0 e0 f0 g0 i0 j0 k0){R w}(h:W3 a b c d e f g i j k l m n o p q r s t u v x y z a0 b0 c0 d0 e0 f0 g0 i0 j0 k0 R w):Cl Pg 82 [(.agg (Al a b c d e f g i j k l m n o p q r)),(.agg (Al s t u v x y z a0 b0 c0 d0 e0 f0 g0 i0 j0 k0))] false [.sc .b] R w:=
 ce (s' (s' (s' (s' l')))) Tryz.func82 h
def II (a:Sl)(b:ByteArray)(R:TR [.sc .s,.sc .b]->Pr):Pr:=
 Lp (σ:=ByteArray×Bool×Int×Unit) (λc d=>
 Br (decide ((d.2.2.1:Int)<((a.len:Nat):Int))) (
 Ix a d.2.2.1 2 λe=>
 Ls e 0 λf=>
 Ls e 1 λg=>
 At #[(Vt (BA [])),(Vt (BA []))] 111 λi=>
 Tt i 0 f <|
 Tt i 1 g <|
 Ls i 0 λj=>
 Br (seq j b) (
 Ls i 1 λk=>
 R (k,true,())) (
 c (d.1,d.2.1,(An (d.2.2.1+1)),()))) (
 R ((BA []),false,()))) ((BA []),false,0,())
theorem Lg (a b){R w}(h:II a b R w):Cl Pg 83 [(Vs a),(Vt b)] true [.sc .s,.sc .b] R w:=
 ce (s' (q' (s' (.block (.loop [(4,.sc .s),(5,.sc .b),(10,.sc (.i .i64))] (s' (q' (k' l' l') (q' (.block (s' (s' (k' (s' l') l')))) l')))))) (s' l'))) Tryz.func83 h
def Ka (a:Sl)(b c:ByteArray)(R:TR [.sc .sl]->Pr):Pr:=
 At #[(Vt b),(Vt c)] 111 λd=>
 Lp (σ:=Sl×Bool×Int×Unit) (λe f=>
 Br (decide ((f.2.2.1:Int)<((a.len:Nat):Int))) (
 Jp (σ:=Sl×Bool×Unit) (λg=>
 e (g.1,g.2.1,(An (f.2.2.1+1)),())) λi=>
 Ix a f.2.2.1 2 λj=>
 Ls j 0 λk=>
 Ls j 1 λl=>
 At #[(Vt (BA [])),(Vt (BA []))] 111 λm=>
 Tt m 0 k <|
 Tt m 1 l <|
 Jp (σ:=Sl×Bool×Unit) (λn=>
 Ls m 0 λo=>
 Ls d 0 λp=>
 Br (!(seq o p)) (
 Ls m 0 λq=>
 Ls m 1 λr=>
 At #[(Vt q),(Vt r)] 111 λs=>
 App 111 2 32 (zc Pg 111) n.1 1 (BH (some s) 1 2) λt=>
 i (t,n.2.1,())) (
 i (n.1,n.2.1,()))) λu=>
 Jp (σ:=Bool×Unit) (λv=>
 Br v.1 (
 Ls d 0 λx=>
 Ls d 1 λy=>
 At #[(Vt x),(Vt y)] 111 λz=>
 App 111 2 32 (zc Pg 111) f.1 1 (BH (some z) 1 2) λa0=>
 u (a0,true,())) (
 u (f.1,f.2.1,()))) λb0=>
 Br (!f.2.1) (
 Ls m 0 λc0=>
 Ls d 0 λd0=>
 b0 ((!(slt c0 d0)),())) (
 b0 (false,()))) (
 Jp (σ:=Sl×Unit) (λe0=>
 R (e0.1,())) λf0=>
 Br (!f.2.1) (
 Ls d 0 λg0=>
 Ls d 1 λi0=>
 At #[(Vt g0),(Vt i0)] 111 λj0=>
 App 111 2 32 (zc Pg 111) f.1 1 (BH (some j0) 1 2) λk0=>
 f0 (k0,())) (
 f0 (f.1,())))) (⟨none,0,0⟩,false,0,())
theorem LV (a b c){R w}(h:Ka a b c R w):Cl Pg 84 [(Vs a),(.agg #[(Vt b),(Vt c)])] false [.sc .sl] R w:=
 ce (s' (s' (s' (q' (s' (.block (.loop [(5,.sc .sl),(6,.sc .b),(11,.sc (.i .i64))] (s' (q' (k' l' l') (q' (.join [(5,.sc .sl),(6,.sc .b)] (.block (s' (q' (.join [(5,.sc .sl),(6,.sc .b)] (q' (.join [(23,.sc .b)] l') (k' (s' l') l'))) (s' (k' l' l')))))) l')))))) (q' (.join [(5,.sc .sl)] (s' (k' l' l'))) (s' l')))))) Tryz.func84 h
def HK (a:ByteArray)(R:TR N6->Pr):Pr:=
 At #[(Vt (BA [])),(Vt (BA []))] 37 λb=>
 Cl Pg 35 [(Vt a)] false [.sc (.i .i64)] λc=>
 Br ((c.1:Int) !=0) (
 St (b.add 0) (Vt (BA [])) <|
 St (b.add 1) (Vt (BA [])) <|
 Ls b 0 λd=>
 Ls b 1 λe=>
 R ((d,e,()),c.1,())) (
 Br (decide ((((a.size:Nat):Int):Int)<12)) (
 AY (((a.size+(BA [0]).size:Nat):Int)<=9223372036854775807) <|
 Tt b 0 a <|
 St (b.add 1) (Vt (a++(BA [0]))) <|
 Ls b 0 λf=>
 Ls b 1 λg=>
 R ((f,g,()),0,())) (
 Lp (σ:=Int×Unit) (λi j=>
 Jp (σ:=Bool×Unit) (λk=>
 Br k.1 (
 i ((An (j.1-1)),())) (
 Br ((j.1:Int)==0) (
 Tt b 0 a <|
 St (b.add 1) (Vt (BA [])) <|
 Ls b 0 λl=>
 Ls b 1 λm=>
 R ((l,m,()),0,())) (
 Dr <|
 AY ((0:Int)<=(An (j.1-1))/\(An (j.1-1))<=((a.size:Nat):Int)) <|
 IxS a (An (j.1-1)) λc13=>
 At #[(.int .u8 (IntKind.u8.wrap (c13+1)))] 5 λn=>
 AcH ⟨(some n),1,1⟩ λo=>
 AY ((((a.extract 0 (Int.toNat (An (j.1-1)))).size+o.size:Nat):Int)<=9223372036854775807) <|
 Tt b 0 a <|
 St (b.add 1) (Vt ((a.extract 0 (Int.toNat (An (j.1-1))))++o)) <|
 Ls b 0 λp=>
 Ls b 1 λq=>
 R ((p,q,()),0,())))) λr=>
 Br (decide ((j.1:Int)>0)) (
 IxS a (An (j.1-1)) λc18=>
 r (((c18:Int)==255),())) (
 r (false,()))) (12,())))
theorem Ku (a){R w}(h:HK a R w):Cl Pg 85 [(Vt a)] true N6 R w:=
 ce (s' (q' (s' (s' (k' (s' l') l'))) (q' (s' (k' (s' l') l')) (s' (q' (.block (.loop [(5,.sc (.i .i64))] (q' (q' (.join [(27,.sc .b)] l') (k' l' l')) (.block l')))) (q' (s' (k' (s' l') l')) (s' l'))))))) Tryz.func85 h
def Fs (a:Sl)(b c:ByteArray)(R:TR [.sc .sl]->Pr):Pr:=
 At #[(Vt b),(Vt c)] 37 λd=>
 Lp (σ:=Sl×Int×Unit) (λe f=>
 Br (decide ((f.2.1:Int)<((a.len:Nat):Int))) (
 Jp (σ:=Sl×Unit) (λg=>
 e (g.1,(An (f.2.1+1)),())) λi=>
 Ix a f.2.1 2 λj=>
 Ls j 0 λk=>
 Ls j 1 λl=>
 At #[(Vt (BA [])),(Vt (BA []))] 111 λm=>
 Tt m 0 k <|
 Tt m 1 l <|
 Ls d 0 λn=>
 Ls d 1 λo=>
 Ls m 0 λp=>
 Cl Pg 42 [(.agg #[(Vt n),(Vt o)]),(Vt p)] false [.sc .b] λq=>
 Br (!q.1) (
 Ls m 0 λr=>
 Ls m 1 λs=>
 At #[(Vt r),(Vt s)] 111 λt=>
 App 111 2 32 (zc Pg 111) f.1 1 (BH (some t) 1 2) λu=>
 i (u,())) (
 i (f.1,()))) (
 R (f.1,()))) (⟨none,0,0⟩,0,())
theorem HT (a b c){R w}(h:Fs a b c R w):Cl Pg 86 [(Vs a),(.agg #[(Vt b),(Vt c)])] false [.sc .sl] R w:=
 ce (s' (s' (q' (s' (.block (.loop [(5,.sc .sl),(10,.sc (.i .i64))] (s' (q' (k' l' l') (q' (.join [(5,.sc .sl)] (.block (s' (s' (k' l' l'))))) l')))))) (s' l')))) Tryz.func86 h
def Dc (a:Sl)(b c d:Int)(R:TR []->Pr):Pr:=
 Lp (σ:=Int×Int×Int×Bool×Bool×Unit) (λe f=>
 Br (decide (((An (f.2.1-f.1)):Int)<=12)) (
 Cl Pg 188 [(Vs a),(Vi f.1),(Vi f.2.1)] true [] λg=>
 R ()) (
 Br ((f.2.2.1:Int)==0) (
 Cl Pg 189 [(Vs a),(Vi f.1),(Vi f.2.1)] true [] λi=>
 R ()) (
 Jp (σ:=Int×Unit) (λj=>
 Cl Pg 191 [(Vs a),(Vi f.1),(Vi f.2.1)] true [.sc (.i .i64),.sc (.i .i64)] λk=>
 Jp (σ:=Int×Int×Unit) (λl=>
 Jp (σ:=Unit) (λm=>
 Jp (σ:=Bool×Unit) (λn=>
 Br n.1 (
 Cl Pg 195 [(Vs a),(Vi f.1),(Vi f.2.1),(Vi l.1)] false [.sc (.i .i64)] λo=>
 e (o.1,f.2.1,j.1,f.2.2.2.1,f.2.2.2.2.1,())) (
 Cl Pg 196 [(Vs a),(Vi f.1),(Vi f.2.1),(Vi l.1)] true [.sc (.i .i64),.sc .b] λp=>
 AY (8≠(0:Int)) <|
 Br (decide (((An (p.1-f.1)):Int)<(An (f.2.1-p.1)))) (
 Cl Pg 87 [(Vs a),(Vi f.1),(Vi p.1),(Vi j.1)] true [] λq=>
 e ((An (p.1+1)),f.2.1,j.1,(decide (((An (p.1-f.1)):Int)>=(An ((An (f.2.1-f.1)).tdiv 8)))),p.2.1,())) (
 Cl Pg 87 [(Vs a),(Vi (An (p.1+1))),(Vi f.2.1),(Vi j.1)] true [] λr=>
 e (f.1,p.1,j.1,(decide (((An (f.2.1-p.1)):Int)>=(An ((An (f.2.1-f.1)).tdiv 8)))),p.2.1,())))) λs=>
 Dr <|
 Br (decide ((f.1:Int)>0)) (
 Ix a (An (f.1-1)) 1 λt=>
 A2 .u64 t λu=>
 Ix a l.1 1 λv=>
 A2 .u64 v λx=>
 Cl Pg 194 [(Vu u),(Vu x)] false [.sc .b] λy=>
 s ((!y.1),())) (
 s (false,()))) λz=>
 Jp (σ:=Bool×Unit) (λa0=>
 Br a0.1 (
 Cl Pg 193 [(Vs a),(Vi f.1),(Vi f.2.1)] false [.sc .b] λb0=>
 Br b0.1 (
 R ()) (
 z ())) (
 z ())) λc0=>
 Br f.2.2.2.1 (
 Br f.2.2.2.2.1 (
 c0 (((l.2.1:Int)==1),())) (
 c0 (false,()))) (
 c0 (false,()))) λd0=>
 Br ((k.2.1:Int)==2) (
 Cl Pg 192 [(Vs a),(Vi f.1),(Vi f.2.1)] true [] λe0=>
 d0 ((An ((An (f.2.1-1))-(An (k.1-f.1)))),1,())) (
 d0 (k.1,k.2.1,()))) λf0=>
 Br (!f.2.2.2.1) (
 Cl Pg 190 [(Vs a),(Vi f.1),(Vi f.2.1)] true [] λg0=>
 f0 ((An (f.2.2.1-1)),())) (
 f0 (f.2.2.1,()))))) (b,c,d,true,true,())
theorem Et (a b c d){R w}(h:Dc a b c d R w):Cl Pg 87 [(Vs a),(Vi b),(Vi c),(Vi d)] true [] R w:=
 ce (s' (s' (.block (.loop [(1,.sc (.i .i64)),(2,.sc (.i .i64)),(3,.sc (.i .i64)),(8,.sc .b),(9,.sc .b)] (.block (s' (q' (s' (k' (s' l') l')) (q' (s' (k' (s' l') l')) (q' (.join [(3,.sc (.i .i64))] (s' (k' (s' l') l'))) (s' (q' (.join [(11,.sc (.i .i64)),(12,.sc (.i .i64))] (s' (k' (s' (s' l')) l'))) (q' (.join [] (q' (.join [(68,.sc .b)] l') (k' (s' (k' l' l')) l'))) (q' (q' (.join [(87,.sc .b)] l') (k' (s' (s' l')) l')) (s' (s' (s' (s' (s' (k' (s' (s' l')) (s' (s' l'))))))))))))))))))))) Tryz.func87 h
def Oj (a:Int)(R:TR [.sc (.i .i64)]->Pr):Pr:=
 Cl Pg 198 [(Vu a)] false [.sc (.i .i64)] λb=>
 R (b.1,())
theorem OG (a){R w}(h:Oj a R w):Cl Pg 88 [(Vu a)] false [.sc (.i .i64)] R w:=
 ce (s' (q' (k' l' l') (s' l'))) Tryz.func88 h
def Hy (a b:ByteArray)(R:TR [.sc (.i .i64)]->Pr):Pr:=
 At #[(Vt a),(Vt b)] 37 λc=>
 Jp (σ:=Bool×Unit) (λd=>
 Br d.1 (
 R (21,())) (
 R (0,()))) λe=>
 Ls c 0 λf=>
 Br (decide ((((f.size:Nat):Int):Int)>12)) (
 e (true,())) (
 Ls c 1 λg=>
 Br (decide ((((g.size:Nat):Int):Int)>12)) (
 e (true,())) (
 Ls c 1 λi=>
 Br (!(seq i (BA []))) (
 Ls c 0 λj=>
 Ls c 1 λk=>
 e ((!(slt j k)),())) (
 e (false,()))))
theorem Jt (a b){R w}(h:Hy a b R w):Cl Pg 91 [(.agg #[(Vt a),(Vt b)])] false [.sc (.i .i64)] R w:=
 ce (s' (q' (q' (.join [(24,.sc .b)] l') (k' (s' l') l')) (s' l'))) Tryz.func91 h
def Of (a:ByteArray)(R:TR [.sc (.i .i64)]->Pr):Pr:=
 Jp (σ:=Bool×Unit) (λb=>
 Br b.1 (
 R (20,())) (
 R (0,()))) λc=>
 Br (seq a (BA [])) (
 c (true,())) (
 c ((decide ((((a.size:Nat):Int):Int)>12)),()))
theorem Ov (a){R w}(h:Of a R w):Cl Pg 93 [(Vt a)] false [.sc (.i .i64)] R w:=
 ce (s' (q' (q' (.join [(9,.sc .b)] l') (k' (s' l') l')) (s' l'))) Tryz.func93 h
def ZJ (R:TR [.ag [.s,.s]]->Pr):Pr:=
 At #[(Vt (BA [])),(Vt (BA []))] 37 λa=>
 St (a.add 0) (Vt (BA [])) <|
 St (a.add 1) (Vt (BA [])) <|
 Ls a 0 λb=>
 Ls a 1 λc=>
 R ((b,c,()),())
theorem Wb {R w}(h:ZJ  R w):Cl Pg 94 [] false [.ag [.s,.s]] R w:=
 ce (s' (s' l')) Tryz.func94 h
def Gg (a:Sl)(b:Int)(R:TR [.sc (.i .i64)]->Pr):Pr:=
 Lp (σ:=Int×Int×Unit) (λc d=>
 Br (decide ((d.2.1:Int)<((a.len:Nat):Int))) (
 Ix a d.2.1 1 λe=>
 A2 .u64 e λf=>
 Br ((b:Int)==f) (
 R (d.2.1,())) (
 c (d.1,(An (d.2.1+1)),()))) (
 R ((-1),()))) (0,0,())
theorem Jh (a b){R w}(h:Gg a b R w):Cl Pg 95 [(Vs a),(Vu b)] false [.sc (.i .i64)] R w:=
 ce (s' (q' (s' (.block (.loop [(4,.sc (.i .i64)),(8,.sc (.i .i64))] (s' (q' (k' l' l') (q' (.block (s' (s' (k' (s' l') l')))) l')))))) (s' l'))) Tryz.func95 h
theorem Jb (p_s:Sl)(p_f:Value){R:TR [.sc (.i .i64)]->Pr}{w:World}(h:BG Pg 6 (ldA [(.i .i64),.s,.s,.s,.s,(.i .i64)]) p_s p_f R w):Cl Pg 96 [(.slice p_s.p p_s.len p_s.cap),p_f] false [.sc (.i .i64)] R w:=
 AF Tryz.checked.mixed (.seq .leaf (.seq (.seq .leaf (.block (.loop [(4,.sc (.i .i64)),(8,.sc (.i .i64))] (.seq .leaf (.seq (.cond .leaf .leaf) (.seq (.block (.seq .leaf (.seq .leaf (.cond (.seq .leaf .leaf) .leaf)))) .leaf)))))) (.seq .leaf .leaf))) Tryz.func96 (by kernel_rfl) (by kernel_rfl) h
def WY (a:Int)(R:TR K5'->Pr):Pr:=
 At #[(Vb false),(Vb false),(Vb false),(Vb false),(Vb false),.nilFunc] 189 λb=>
 Jp (σ:=Bool×Unit) (λc=>
 Br c.1 (
 Sb5 b false false false false false <|
 St (b.add 5) .nilFunc <|
 Ait b λd e f g i j=>
 R ((d,e,f,g,i,j,()),false,())) (
 Cl Pg 199 [] false K6' λk=>
 IxA (Cs [.b,.b,.b,.b,.b,.v,.b,.b,.b,.b,.b,.v,.b,.b,.b,.b,.b,.v,.b,.b,.b,.b,.b,.v,.b,.b,.b,.b,.b,.v,.b,.b,.b,.b,.b,.v] k.1) 6 a 6 λg11=>
 TyA [.b,.b,.b,.b,.b,.v] g11 λy12=>
 Sb5 b y12.1 y12.2.1 y12.2.2.1 y12.2.2.2.1 y12.2.2.2.2.1 <|
 St (b.add 5) y12.2.2.2.2.2.1 <|
 Ait b λl m n o p q=>
 R ((l,m,n,o,p,q,()),true,()))) λr=>
 Br (decide ((a:Int)<1)) (
 r (true,())) (
 r ((decide ((a:Int)>5)),()))
theorem UK (a){R w}(h:WY a R w):Cl Pg 97 [(Vi a)] true K5' R w:=
 ce (s' (q' (q' (.join [(9,.sc .b)] l') (k' (s' l') l')) (s' l'))) Tryz.func97 h
def Ahh (a:Int)(b c d e:ByteArray)(f:Int)(R:TR [.ag [.s,.s]]->Pr):Pr:=
 At (Ar a b c d e f) 81 λg=>
 At #[(Vt (BA [])),(Vt (BA []))] 37 λi=>
 Ls g 3 λj=>
 Ls g 4 λk=>
 Tt i 0 j <|
 Tt i 1 k <|
 Ls i 0 λl=>
 Ls i 1 λm=>
 R ((l,m,()),())
theorem Aag (a b c d e f){R w}(h:Ahh a b c d e f R w):Cl Pg 98 [(.agg (Ar a b c d e f))] false [.ag [.s,.s]] R w:=
 ce (s' (s' l')) Tryz.func98 h
theorem Hp (p_s:Sl)(p_f:Value){R:TR [.sc (.i .i64)]->Pr}{w:World}(h:BG Pg 2 (ldA [(.i .u64),.sl]) p_s p_f R w):Cl Pg 99 [(.slice p_s.p p_s.len p_s.cap),p_f] false [.sc (.i .i64)] R w:=
 AF Tryz.checked.mixed (.seq .leaf (.seq (.seq .leaf (.block (.loop [(4,.sc (.i .i64)),(8,.sc (.i .i64))] (.seq .leaf (.seq (.cond .leaf .leaf) (.seq (.block (.seq .leaf (.seq .leaf (.cond (.seq .leaf .leaf) .leaf)))) .leaf)))))) (.seq .leaf .leaf))) Tryz.func99 (by kernel_rfl) (by kernel_rfl) h
def TH (a:ByteArray)(R:TR N6->Pr):Pr:=
 At #[(Vt (BA [])),(Vt (BA []))] 37 λb=>
 Cl Pg 93 [(Vt a)] false [.sc (.i .i64)] λc=>
 Br ((c.1:Int) !=0) (
 St (b.add 0) (Vt (BA [])) <|
 St (b.add 1) (Vt (BA [])) <|
 Ls b 0 λd=>
 Ls b 1 λe=>
 R ((d,e,()),c.1,())) (
 Br (decide ((((a.size:Nat):Int):Int)<12)) (
 AY (((a.size+(BA [0]).size:Nat):Int)<=9223372036854775807) <|
 Tt b 0 a <|
 St (b.add 1) (Vt (a++(BA [0]))) <|
 Ls b 0 λf=>
 Ls b 1 λg=>
 R ((f,g,()),0,())) (
 AfV 5 a λi=>
 Lp (σ:=Sl×Unit) (λj k=>
 Jp (σ:=Bool×Unit) (λl=>
 Br l.1 (
 AY ((0:Int)<=(An (((k.1.len:Nat):Int)-1))/\(An (((k.1.len:Nat):Int)-1))<=((k.1.cap:Nat):Int)) <|
 j (⟨(A7 k.1.p k.1.cap 0 1),((Int.toNat (An (((k.1.len:Nat):Int)-1)))-0),(k.1.cap-0)⟩,())) (
 Jp (σ:=Unit) (λm=>
 AcH k.1 λn=>
 Tt b 0 a <|
 Tt b 1 n <|
 Ls b 0 λo=>
 Ls b 1 λp=>
 R ((o,p,()),0,())) λq=>
 Br (decide ((((k.1.len:Nat):Int):Int)>0)) (
 Ix k.1 (An (((k.1.len:Nat):Int)-1)) 1 λr=>
 A2 .u8 r λs=>
 Ix k.1 (An (((k.1.len:Nat):Int)-1)) 1 λt=>
 St t (.int .u8 (IntKind.u8.wrap (s+1))) <|
 q ()) (
 q ()))) λu=>
 Br (decide ((((k.1.len:Nat):Int):Int)>0)) (
 Ix k.1 (An (((k.1.len:Nat):Int)-1)) 1 λv=>
 A2 .u8 v λx=>
 u (((x:Int)==255),())) (
 u (false,()))) (i,())))
theorem SK (a){R w}(h:TH a R w):Cl Pg 100 [(Vt a)] true N6 R w:=
 ce (s' (q' (s' (s' (k' (s' l') l'))) (q' (s' (k' (s' l') l')) (s' (q' (.block (.loop [(5,.sc .sl)] (q' (q' (.join [(32,.sc .b)] l') (k' l' l')) (.block l')))) (q' (.join [] (s' (k' l' l'))) (s' l'))))))) Tryz.func100 h
theorem Ic (p_s:Sl)(p_f:Value){R:TR [.sc (.i .i64)]->Pr}{w:World}(h:BG Pg 4 (ldA [(.i .u64),.s,.s,.b]) p_s p_f R w):Cl Pg 101 [(.slice p_s.p p_s.len p_s.cap),p_f] false [.sc (.i .i64)] R w:=
 AF Tryz.checked.mixed (.seq .leaf (.seq (.seq .leaf (.block (.loop [(4,.sc (.i .i64)),(8,.sc (.i .i64))] (.seq .leaf (.seq (.cond .leaf .leaf) (.seq (.block (.seq .leaf (.seq .leaf (.cond (.seq .leaf .leaf) .leaf)))) .leaf)))))) (.seq .leaf .leaf))) Tryz.func101 (by kernel_rfl) (by kernel_rfl) h
def UQ (a:Int)(b c:ByteArray)(d:Bool)(e:Addr)(R:TR [.sc .b]->Pr):Pr:=
 At (Cg a b c d) 146 λf=>
 Lu f 0 λg=>
 A2 .u64 e λi=>
 R (((g:Int)==i),())
theorem SQ (a b c d e){R w}(h:UQ a b c d e R w):Cl Pg 102 [(.agg (Cg a b c d)),(Vp (some e))] false [.sc .b] R w:=
 ce (s' (s' l')) Tryz.func102 h
def TT (a b:ByteArray)(R:TR [.sc .s]->Pr):Pr:=
 Jp (σ:=Bool×Unit) (λc=>
 Br c.1 (
 R (b,())) (
 R (a,()))) λd=>
 Br (seq a (BA [])) (
 d (true,())) (
 Br (!(seq b (BA []))) (
 d ((slt b a),())) (
 d (false,())))
theorem S3 (a b){R w}(h:TT a b R w):Cl Pg 103 [(Vt a),(Vt b)] false [.sc .s] R w:=
 ce (s' (q' (q' (.join [(15,.sc .b)] l') (k' (s' l') l')) (s' l'))) Tryz.func103 h
def LG (a:Int)(b c:ByteArray)(d:Bool)(e:Addr)(R:TR [.sc .b]->Pr):Pr:=
 At (Cg a b c d) 146 λf=>
 BU (((e.add 1).add 0).add 0) λg=>
 BU (((e.add 1).add 0).add 1) λi=>
 BU (((f.add 1).add 0).add 0) λj=>
 BU (((f.add 1).add 0).add 1) λk=>
 Cl Pg 105 [(.agg #[(Vt g),(Vt i)]),(.agg #[(Vt j),(Vt k)])] true [.ag [.s,.s],.sc .b] λl=>
 At #[(Vt (BA [])),(Vt (BA []))] 37 λm=>
 Tt m 0 l.1.1 <|
 Tt m 1 l.1.2.1 <|
 Br l.2.1 (
 Lu e 0 λn=>
 Lu f 0 λo=>
 Br ((n:Int) !=o) (
 Lb (e.add 1) 2 λp=>
 Br p (
 R (true,())) (
 Lb (f.add 1) 2 λq=>
 R (q,()))) (
 R (false,()))) (
 R (false,()))
theorem MU (a b c d e){R w}(h:LG a b c d e R w):Cl Pg 104 [(.agg (Cg a b c d)),(Vp (some e))] false [.sc .b] R w:=
 ce (s' (s' (s' l'))) Tryz.func104 h
def WH (a b c d:ByteArray)(R:TR [.ag [.s,.s],.sc .b]->Pr):Pr:=
 At #[(Vt a),(Vt b)] 37 λe=>
 At #[(Vt c),(Vt d)] 37 λf=>
 At #[(Vt (BA [])),(Vt (BA []))] 37 λg=>
 Jp (σ:=Option Addr×Unit) (λi=>
 Jp (σ:=Bool×Unit) (λj=>
 Br j.1 (
 St (g.add 0) (Vt (BA [])) <|
 St (g.add 1) (Vt (BA [])) <|
 Ls g 0 λk=>
 Ls g 1 λl=>
 R ((k,l,()),false,())) (
 Nn i.1 λm=>
 Ls m 0 λn=>
 Ls m 1 λo=>
 Tt g 0 n <|
 Tt g 1 o <|
 Ls g 0 λp=>
 Ls g 1 λq=>
 R ((p,q,()),true,()))) λr=>
 Ls e 0 λs=>
 Ls e 1 λt=>
 Cl Pg 45 [(.agg #[(Vt s),(Vt t)])] false [.sc (.i .i64)] λu=>
 Br ((u.1:Int) !=0) (
 r (true,())) (
 Ls f 0 λv=>
 Ls f 1 λx=>
 Cl Pg 45 [(.agg #[(Vt v),(Vt x)])] false [.sc (.i .i64)] λy=>
 Br ((y.1:Int) !=0) (
 r (true,())) (
 Nn i.1 λz=>
 Ls z 0 λa0=>
 Ls z 1 λb0=>
 Cl Pg 45 [(.agg #[(Vt a0),(Vt b0)])] false [.sc (.i .i64)] λc0=>
 r (((c0.1:Int) !=0),())))) λd0=>
 Dr <|
 Ls e 0 λe0=>
 Ls f 0 λf0=>
 Ls e 1 λg0=>
 Ls f 1 λi0=>
 AH (
 Cl Pg 103 [(Vt g0),(Vt i0)] false [.sc .s] λj0=>
 AH (Ls f 0 λk0=>
 λ_=>((Vt k0):Value)=(Vt f0)) <|
 AH (Ls e 0 λl0=>
 λ_=>((Vt l0):Value)=(Vt e0)) <|
 At #[(Vt (BA [])),(Vt (BA []))] 37 λm0=>
 AH (Ls f 1 λn0=>
 λ_=>((Vt n0):Value)=(Vt i0)) <|
 AH (Ls e 1 λo0=>
 λ_=>((Vt o0):Value)=(Vt g0)) <|
 AH (Ls f 0 λp0=>
 λ_=>((Vt p0):Value)=(Vt f0)) <|
 AH (Ls e 0 λq0=>
 λ_=>((Vt q0):Value)=(Vt e0)) <|
 St (m0.add 0) (Vt (if !(slt e0 f0)then e0 else f0)) <|
 Tt m0 1 j0.1 <|
 d0 ((some m0),())) <|
 At #[(Vt (BA [])),(Vt (BA []))] 37 λr0=>
 AH (Ls f 1 λs0=>
 λ_=>((Vt s0):Value)=(Vt i0)) <|
 AH (Ls e 1 λt0=>
 λ_=>((Vt t0):Value)=(Vt g0)) <|
 AH (Ls f 0 λu0=>
 λ_=>((Vt u0):Value)=(Vt f0)) <|
 AH (Ls e 0 λv0=>
 λ_=>((Vt v0):Value)=(Vt e0)) <|
 Cl Pg 103 [(Vt g0),(Vt i0)] false [.sc .s] λx0=>
 AH (Ls f 0 λy0=>
 λ_=>((Vt y0):Value)=(Vt f0)) <|
 AH (Ls e 0 λz0=>
 λ_=>((Vt z0):Value)=(Vt e0)) <|
 St (r0.add 0) (Vt (if !(slt e0 f0)then e0 else f0)) <|
 Tt r0 1 x0.1 <|
 d0 ((some r0),())
theorem TE (a b c d){R w}(h:WH a b c d R w):Cl Pg 105 [(.agg #[(Vt a),(Vt b)]),(.agg #[(Vt c),(Vt d)])] true [.ag [.s,.s],.sc .b] R w:=
 ce (s' (q' (.join [(6,.sc .p)] l') (q' (q' (.join [(30,.sc .b)] l') (k' (s' l') l')) (s' l')))) Tryz.func105 h
def F9 (a:Int)(b c:ByteArray)(d:Bool)(e:Addr)(R:TR [.sc .b]->Pr):Pr:=
 At (Cg a b c d) 146 λf=>
 Dr <|
 Di e λg=>
 Nn g λi=>
 Ll i 0 λj=>
 Gs f λk l m n=>
 Cl Pg 66 [(.agg (Cg k l m n))] false [.sc .v] λo=>
 AH (Ll i 0 λp=>
 λ_=>((Vs p):Value)=(Vs j)) <|
 AH (Di e λq=>
 λ_=>((Vp q):Value)=(Vp g)) <|
 Cl Pg 63 [(Vs j),o.1] false [.sc .b] λr=>
 R ((!r.1),())
theorem HQ (a b c d e){R w}(h:F9 a b c d e R w):Cl Pg 106 [(.agg (Cg a b c d)),(Vp (some e))] false [.sc .b] R w:=
 ce (s' (s' l')) Tryz.func106 h
def WS (a:Sl)(R:TR [.sc .sl]->Pr):Pr:=
 Cl Pg 37 [(Vs a)] true [] λb=>
 Cl Pg 200 [(Vs a)] false [.sc .sl] λc=>
 R (c.1,())
theorem Vo (a){R w}(h:WS a R w):Cl Pg 107 [(Vs a)] false [.sc .sl] R w:=
 ce (s' (s' (s' l'))) Tryz.func107 h
theorem K3 (p_s:Sl)(p_i:Int)(p_j:Int){R:TR [.sc .sl]->Pr}{w:World}(h:GN 146 4 48 (zc Pg 146) p_s p_i p_j R w):Cl Pg 108 [(.slice p_s.p p_s.len p_s.cap),(.int .i64 p_i),(.int .i64 p_j)] false [.sc .sl] R w:=
 AF Tryz.checked.mixed (.seq .leaf (.seq .leaf (.seq (.seq .leaf (.cond (.seq .leaf .leaf) .leaf)) (.seq .leaf (.seq .leaf (.seq .leaf (.seq .leaf .leaf))))))) Tryz.func108 (by kernel_rfl) (by kernel_rfl) h
def Ke (a:Option Addr)(b:Int)(R:TR []->Pr):Pr:=
 Dr <|
 Nn a λc=>
 Ll c 0 λd=>
 Cl Pg 64 [(Vu b)] false [.sc .v] λe=>
 AH (Ll c 0 λf=>
 λ_=>((Vs f):Value)=(Vs d)) <|
 Cl Pg 201 [(Vs d),e.1] false [.sc .sl] λg=>
 Nn a λi=>
 Ts i 0 g.1 <|
 Dr <|
 Nn a λj=>
 Ll j 1 λk=>
 Cl Pg 64 [(Vu b)] false [.sc .v] λl=>
 AH (Ll j 1 λm=>
 λ_=>((Vs m):Value)=(Vs k)) <|
 Cl Pg 201 [(Vs k),l.1] false [.sc .sl] λn=>
 Nn a λo=>
 Ts o 1 n.1 <|
 R ()
theorem LZ (a b){R w}(h:Ke a b R w):Cl Pg 109 [(Vp a),(Vu b)] true [] R w:=
 ce (s' l') Tryz.func109 h
def Fg (a:Int)(R:TR [.sc .b]->Pr):Pr:=
 R (((a:Int) !=a),())
theorem Fc (a){R w}(h:Fg a R w):Cl Pg 110 [(Vu a)] false [.sc .b] R w:=
 ce (s' (s' l')) Tryz.func110 h
theorem Fw (p_s:Sl)(p_del:Value){R:TR [.sc .sl]->Pr}{w:World}(h:Fp Pg 203 1 (zc Pg 32) (Aia (.i .u64)) p_s p_del R w):Cl Pg 113 [(.slice p_s.p p_s.len p_s.cap),p_del] false [.sc .sl] R w:=
 AF Tryz.checked.mixed (.seq .leaf (.seq .leaf (.seq (.seq .leaf (.cond (.seq .leaf .leaf) .leaf)) (.seq (.seq .leaf (.block (.loop [(5,.sc (.i .i64)),(6,.sc (.i .i64))] (.seq (.seq .leaf (.cond .leaf .leaf)) (.seq (.join [(5,.sc (.i .i64))] (.block (.seq .leaf (.seq .leaf (.cond (.seq .leaf .leaf) .leaf))))) .leaf))))) (.seq .leaf (.seq .leaf .leaf)))))) Tryz.func113 (by kernel_rfl) (by kernel_rfl) h
def G2 (a:Int)(b:Addr)(R:TR [.sc .b]->Pr):Pr:=
 Lu b 9 λc=>
 R ((decide ((a:Int)<c)),())
theorem IZ (a b){R w}(h:G2 a b R w):Cl Pg 114 [(Vu a),(Vp (some b))] false [.sc .b] R w:=
 ce (s' (s' l')) Tryz.func114 h
def FI (a:Option Addr)(b:Int)(R:TR [.sc (.i .i64),.sc .b]->Pr):Pr:=
 Nn a λc=>
 Ll c 17 λd=>
 Cl Pg 204 [(Vs d),(Vu b),(.func (.func 205) #[] #[])] true [.sc (.i .i64),.sc .b] λe=>
 R (e.1,e.2.1,())
theorem HY (a b){R w}(h:FI a b R w):Cl Pg 115 [(Vp a),(Vu b)] true [.sc (.i .i64),.sc .b] R w:=
 ce (s' (s' l')) Tryz.func115 h
def Iq (a:Option Addr)(b:Int)(R:TR [.sc (.i .i64),.sc .b]->Pr):Pr:=
 Nn a λc=>
 Ll (c.add 0) 6 λd=>
 Cl Pg 206 [(Vs d),(Vu b),(.func (.func 207) #[] #[])] true [.sc (.i .i64),.sc .b] λe=>
 R (e.1,e.2.1,())
theorem Lm (a b){R w}(h:Iq a b R w):Cl Pg 116 [(Vp a),(Vu b)] true [.sc (.i .i64),.sc .b] R w:=
 ce (s' (s' l')) Tryz.func116 h
def Iv (a:Option Addr)(b c:Int)(d:Sl)(R:TR []->Pr):Pr:=
 Cl Pg 38 [(Vp a),(.agg #[(Vi 4),(Vi 0),(Vi 0),(Vi 0),(Vi c),(Vi 0),(Vu 0),(Vu 0),(Vu b),(Vu 0),(Vu 0),(Vu 0),(Vu 0),(Vu 0),(Vu 0),(Vb false),(Vt (BA [])),(Vt (BA [])),(.slice none 0 0),(Vs d),(.slice none 0 0)])] true [] λe=>
 R ()
theorem Lf (a b c d){R w}(h:Iv a b c d R w):Cl Pg 117 [(Vp a),(Vu b),(Vi c),(Vs d)] true [] R w:=
 ce (l') Tryz.func117 h
def FC (a:Option Addr)(b:Sl)(R:TR [.sc .sl]->Pr):Pr:=
 Nn a λc=>
 LJ (c.add 20) λd=>
 Inv Pg d "Scan" [(.agg #[(Vt (BA [])), (Vt (BA []))]), (Vi (-1))] true [.sc .sl, .sc (.i .i64)] fun e =>
 Br ((e.2.1:Int) !=0) (
 Nn a λf=>
 Ti f 25 e.2.1 <|
 R (⟨none,0,0⟩,())) (
 Nn a λg=>
 Ll (g.add 21) 1 λi=>
 Cl Pg 208 [(Vs e.1),(Vs i)] true [.sc .sl,.sc .sl,.sc (.i .i64)] λj=>
 Br ((j.2.2.1:Int) !=0) (
 Nn a λk=>
 Ti k 25 j.2.2.1 <|
 R (⟨none,0,0⟩,())) (
 Cl Pg 208 [(Vs j.1),(Vs b)] true [.sc .sl,.sc .sl,.sc (.i .i64)] λl=>
 R (l.2.1,())))
theorem Ib (a b){R w}(h:FC a b R w):Cl Pg 118 [(Vp a),(Vs b)] false [.sc .sl] R w:=
 ce (s' (s' (q' (s' (k' (s' (s' l')) l')) (s' (q' (s' (k' (s' (s' l')) l')) (s' (s' l'))))))) Tryz.func118 h
def Gv (a:Int)(b c d e:ByteArray)(f:Int)(g:Addr)(R:TR [.sc .b]->Pr):Pr:=
 At (Ar a b c d e f) 81 λi=>
 AN i λj k l m n o=>
 Cl Pg 61 [(.agg (Ar j k l m n o))] true N6 λp=>
 At #[(Vt (BA [])),(Vt (BA []))] 37 λq=>
 Tt q 0 p.1.1 <|
 Tt q 1 p.1.2.1 <|
 Dr <|
 Br ((p.2.1:Int) !=0) (
 R (true,())) (
 Di g λr=>
 Nn r λs=>
 Ll (s.add 0) 5 λt=>
 Di g λu=>
 Nn u λv=>
 Li (v.add 0) 0 λx=>
 Ls q 0 λy=>
 Ls q 1 λz=>
 Cl Pg 120 [(Vs t),(Vi x),(.agg #[(Vt y),(Vt z)])] false [.sc .b] λa0=>
 R ((!a0.1),()))
theorem Jn (a b c d e f g){R w}(h:Gv a b c d e f g R w):Cl Pg 119 [(.agg (Ar a b c d e f)),(Vp (some g))] false [.sc .b] R w:=
 ce (s' (s' (s' l'))) Tryz.func119 h
def Uu (a:Sl)(b:Int)(c d:ByteArray)(R:TR [.sc .b]->Pr):Pr:=
 At #[(Vt c),(Vt d)] 37 λe=>
 Cl Pg 44 [(Vs a)] false [.sc (.i .i64)] λf=>
 Br ((f.1:Int) !=0) (
 R (false,())) (
 Lp (σ:=Bool×Int×Unit) (λg i=>
 Br (decide ((i.2.1:Int)<((a.len:Nat):Int))) (
 Jp (σ:=Bool×Unit) (λj=>
 Br j.1 (
 R (true,())) (
 g (i.1,(An (i.2.1+1)),()))) λk=>
 Dr <|
 Ix a i.2.1 2 λl=>
 Li l 1 λm=>
 Br ((m:Int)==b) (
 Ls e 0 λn=>
 Ls e 1 λo=>
 Cl Pg 209 [(Vs a),(Vi i.2.1)] false [.ag [.s,.s]] λp=>
 AH (Ls e 0 λq=>
 Ls e 1 λr=>
 λ_=>((.agg #[(Vt q),(Vt r)]):Value)=(.agg #[(Vt n),(Vt o)])) <|
 Cl Pg 65 [(.agg #[(Vt p.1.1),(Vt p.1.2.1)]),(.agg #[(Vt n),(Vt o)])] false [.sc .b] λs=>
 k (s.1,())) (
 k (false,()))) (
 R (false,()))) (false,0,()))
theorem SN (a b c d){R w}(h:Uu a b c d R w):Cl Pg 120 [(Vs a),(Vi b),(.agg #[(Vt c),(Vt d)])] false [.sc .b] R w:=
 ce (s' (q' (s' (k' (s' l') l')) (q' (s' (.block (.loop [(6,.sc .b),(13,.sc (.i .i64))] (s' (q' (k' l' l') (q' (.block (s' (q' (.join [(29,.sc .b)] l') (k' (s' l') l')))) l')))))) (s' l')))) Tryz.func120 h
def Gu (a:Option Addr)(b:Sl)(R:TR [.sc .b]->Pr):Pr:=
 Nn a λc=>
 Lu (c.add 0) 9 λd=>
 Br ((d:Int) !=0) (
 Nn a λe=>
 BU (((e.add 0).add 10).add 0) λf=>
 BU (((e.add 0).add 10).add 1) λg=>
 Cl Pg 210 [(Vs b),(.agg #[(Vt f),(Vt g)])] false [.sc .b] λi=>
 Br i.1 (
 R (true,())) (
 Nn a λj=>
 Hr j 19 λk=>
 Br (!(Option.isNone k)) (
 Nn a λl=>
 Hr l 19 λm=>
 Nn m λn=>
 Lb n 5 λo=>
 Br o (
 Nn a λp=>
 Hr p 19 λq=>
 Nn q λr=>
 Ls (r.add 2) 0 λs=>
 Ls (r.add 2) 1 λt=>
 Cl Pg 210 [(Vs b),(.agg #[(Vt s),(Vt t)])] false [.sc .b] λu=>
 R (u.1,())) (
 R (false,()))) (
 R (false,())))) (
 Nn a λv=>
 Hr v 19 λx=>
 Br (!(Option.isNone x)) (
 Nn a λy=>
 Hr y 19 λz=>
 Nn z λa0=>
 Lb a0 5 λb0=>
 Br b0 (
 Nn a λc0=>
 Hr c0 19 λd0=>
 Nn d0 λe0=>
 Ls (e0.add 2) 0 λf0=>
 Ls (e0.add 2) 1 λg0=>
 Cl Pg 210 [(Vs b),(.agg #[(Vt f0),(Vt g0)])] false [.sc .b] λi0=>
 R (i0.1,())) (
 R (false,()))) (
 R (false,())))
theorem IL (a b){R w}(h:Gu a b R w):Cl Pg 121 [(Vp a),(Vs b)] false [.sc .b] R w:=
 ce (s' (s' l')) Tryz.func121 h
theorem Jz (p_s:Sl)(p_i:Int)(p_v:Sl){R:TR [.sc .sl]->Pr}{w:World}(h:Fj Pg 211 212 114 4 64 (zc Pg 114) p_s p_i p_v R w):Cl Pg 122 [(.slice p_s.p p_s.len p_s.cap),(.int .i64 p_i),(.slice p_v.p p_v.len p_v.cap)] false [.sc .sl] R w:=
 AF Tryz.checked.mixed (.seq .leaf (.seq .leaf (.seq .leaf (.seq (.seq .leaf (.cond (.seq .leaf .leaf) .leaf)) (.seq .leaf (.seq (.seq .leaf (.cond (.seq .leaf .leaf) .leaf)) (.seq (.seq .leaf (.cond (.seq .leaf (.seq .leaf (.seq .leaf (.seq .leaf .leaf)))) .leaf)) (.seq .leaf (.seq (.seq .leaf (.cond (.seq .leaf (.seq .leaf (.seq .leaf .leaf))) .leaf)) (.seq .leaf (.seq .leaf (.seq .leaf .leaf)))))))))))) Tryz.func122 (by kernel_rfl) (by kernel_rfl) h
def Iy (a:Option Addr)(b:Int)(R:TR []->Pr):Pr:=
 Lp (σ:=Unit) (λc d=>
 Nn a λe=>
 Li e 25 λf=>
 Br ((f:Int)==0) (
 Cl Pg 115 [(Vp a),(Vu b)] true [.sc (.i .i64),.sc .b] λg=>
 Br (!g.2.1) (
 R ()) (
 Nn a λi=>
 Ll i 17 λj=>
 Ix j g.1 4 λk=>
 Dr <|
 Li k 3 λl=>
 Ll k 2 λm=>
 Br ((l:Int)==((m.len:Nat):Int)) (
 Ll k 1 λn=>
 Nn a λo=>
 Ll o 17 λp=>
 Cl Pg 128 [(Vs p),(Vi g.1),(Vi (An (g.1+1)))] false [.sc .sl] λq=>
 Nn a λr=>
 Ts r 17 q.1 <|
 Cl Pg 116 [(Vp a),(Vu b)] true [.sc (.i .i64),.sc .b] λs=>
 Nn a λt=>
 Ll (t.add 0) 6 λu=>
 At #[(Vu b),(Vs n)] 60 λv=>
 Cl Pg 213 [(Vs u),(Vi s.1),(.slice (some v) 1 1)] false [.sc .sl] λx=>
 Nn a λy=>
 Ts (y.add 0) 6 x.1 <|
 Cl Pg 118 [(Vp a),(Vs n)] false [.sc .sl] λz=>
 Cl Pg 117 [(Vp a),(Vu b),(Vi 3),(Vs z.1)] true [] λa0=>
 R ()) (
 Dr <|
 Nn a λb0=>
 Hr b0 18 λc0=>
 Ll k 2 λd0=>
 Li k 3 λe0=>
 Ix d0 e0 3 λf0=>
 UC f0 λg0 i0 j0=>
 Cl Pg 29 [(Vp c0),(Vu b),(.agg (SG g0 i0 j0))] true [.sc (.i .i64),.sc .sl,.sc .sl,.sc (.i .i64)] λk0=>
 Li k 3 λl0=>
 St (k.add 3) (Vi (An (l0+1))) <|
 Cl Pg 214 [(Vp a),(Vs k0.2.1),(Vs k0.2.2.1)] true [] λm0=>
 Br ((k0.1:Int)==2) (
 R ()) (
 Br ((k0.1:Int)==3) (
 Nn a λn0=>
 Ll n0 17 λo0=>
 Cl Pg 128 [(Vs o0),(Vi g.1),(Vi (An (g.1+1)))] false [.sc .sl] λp0=>
 Nn a λq0=>
 Ts q0 17 p0.1 <|
 Cl Pg 117 [(Vp a),(Vu b),(Vi 5),(.slice none 0 0)] true [] λr0=>
 Cl Pg 215 [(Vp a),(Vu b)] true [] λs0=>
 R ()) (
 c ()))))) (
 R ())) ()
theorem Lw (a b){R w}(h:Iy a b R w):Cl Pg 123 [(Vp a),(Vu b)] true [] R w:=
 ce (.block (.loop [] (q' (s' (k' l' l')) (.block (s' (q' (s' (k' l' l')) (s' (q' (s' (k' (s' (s' (s' (s' (s' l'))))) l')) (s' (s' (s' (s' (.block (s' (k' l' (s' (k' (s' (s' (s' l'))) l'))))))))))))))))) Tryz.func123 h
def FK (a:Option Addr)(R:TR []->Pr):Pr:=
 Lp (σ:=Unit) (λb c=>
 Nn a λd=>
 Ll d 24 λe=>
 Br (decide ((((e.len:Nat):Int):Int)>0)) (
 Nn a λf=>
 Ll f 24 λg=>
 Ix g 0 2 λi=>
 Lu i 0 λj=>
 Lb i 1 λk=>
 At #[(Vu 0),(Vb false)] 282 λl=>
 Tu l 0 j <|
 Tb l 1 k <|
 Nn a λm=>
 Ll m 24 λn=>
 AY ((0:Int)<=1/\1<=((n.len:Nat):Int)) <|
 Nn a λo=>
 St (o.add 24) (.slice (A7 n.p n.cap (Int.toNat 1) 2) (n.len-(Int.toNat 1)) (n.cap-(Int.toNat 1))) <|
 Lb l 1 λp=>
 Br (!p) (
 Lu l 0 λq=>
 Cl Pg 123 [(Vp a),(Vu q)] true [] λr=>
 b ()) (
 Lu l 0 λs=>
 Cl Pg 115 [(Vp a),(Vu s)] true [.sc (.i .i64),.sc .b] λt=>
 Br t.2.1 (
 Nn a λu=>
 Ll u 17 λv=>
 Cl Pg 128 [(Vs v),(Vi t.1),(Vi (An (t.1+1)))] false [.sc .sl] λx=>
 Nn a λy=>
 Ts y 17 x.1 <|
 Lu l 0 λz=>
 Cl Pg 117 [(Vp a),(Vu z),(Vi 5),(.slice none 0 0)] true [] λa0=>
 b ()) (
 b ()))) (
 Nn a λb0=>
 St (b0.add 24) (.slice none 0 0) <|
 R ())) ()
theorem HU (a){R w}(h:FK a R w):Cl Pg 124 [(Vp a)] true [] R w:=
 ce (q' (.block (.loop [] (q' (s' (k' l' l')) (.block (s' (s' (s' (k' l' (s' (s' (k' (s' l') l'))))))))))) l') Tryz.func124 h
theorem JD (p_s:Sl)(p_i:Int)(p_j:Int){R:TR [.sc .sl]->Pr}{w:World}(h:GN 60 2 32 (zc Pg 60) p_s p_i p_j R w):Cl Pg 125 [(.slice p_s.p p_s.len p_s.cap),(.int .i64 p_i),(.int .i64 p_j)] false [.sc .sl] R w:=
 AF Tryz.checked.mixed (.seq .leaf (.seq .leaf (.seq (.seq .leaf (.cond (.seq .leaf .leaf) .leaf)) (.seq .leaf (.seq .leaf (.seq .leaf (.seq .leaf .leaf))))))) Tryz.func125 (by kernel_rfl) (by kernel_rfl) h
def Gp (a:Option Addr)(b:Int)(c d e f:ByteArray)(g:Int)(R:TR []->Pr):Pr:=
 At (Ar b c d e f g) 81 λi=>
 Jp (σ:=Bool×Unit) (λj=>
 Br j.1 (
 R ()) (
 Jp (σ:=Unit) (λk=>
 Dr <|
 Nn a λl=>
 Hr l 19 λm=>
 Nn a λn=>
 Hr n 19 λo=>
 Nn o λp=>
 Ll p 9 λq=>
 AN i λr s t u v x=>
 At (Ar r s t u v x) 81 λy=>
 AH (Ll p 9 λz=>
 λ_=>((Vs z):Value)=(Vs q)) <|
 AH (Hr n 19 λa0=>
 λ_=>((Vp a0):Value)=(Vp o)) <|
 AH (Hr l 19 λb0=>
 λ_=>((Vp b0):Value)=(Vp m)) <|
 App 81 6 80 (zc Pg 81) q 1 (BH (some y) 1 6) λc0=>
 AH (Hr l 19 λd0=>
 λ_=>((Vp d0):Value)=(Vp m)) <|
 Nn m λe0=>
 Ts e0 9 c0 <|
 R ()) λf0=>
 Li i 0 λg0=>
 Br ((g0:Int)==5) (
 Jp (σ:=Option Addr×Unit) (λi0=>
 Dr <|
 Nn i0.1 λj0=>
 Ls j0 0 λk0=>
 Nn i0.1 λl0=>
 Ls l0 1 λm0=>
 Tt i 3 k0 <|
 AH (Ls l0 1 λn0=>
 λ_=>((Vt n0):Value)=(Vt m0)) <|
 Tt i 4 m0 <|
 f0 ()) λo0=>
 Dr <|
 Nn a λp0=>
 Hr p0 19 λq0=>
 Nn q0 λr0=>
 Ls (r0.add 2) 0 λs0=>
 Ls (r0.add 2) 1 λt0=>
 Ls i 3 λu0=>
 Ls i 4 λv0=>
 AH (
 Cl Pg 105 [(.agg #[(Vt s0),(Vt t0)]),(.agg #[(Vt u0),(Vt v0)])] true [.ag [.s,.s],.sc .b] λx0=>
 At #[(Vt (BA [])),(Vt (BA []))] 37 λy0=>
 AH (Ls i 4 λz0=>
 λ_=>((Vt z0):Value)=(Vt v0)) <|
 AH (Ls i 3 λa1=>
 λ_=>((Vt a1):Value)=(Vt u0)) <|
 AH (Ls (r0.add 2) 0 λb1=>
 Ls (r0.add 2) 1 λc1=>
 λ_=>((.agg #[(Vt b1),(Vt c1)]):Value)=(.agg #[(Vt s0),(Vt t0)])) <|
 AH (Hr p0 19 λd1=>
 λ_=>((Vp d1):Value)=(Vp q0)) <|
 Tt y0 0 x0.1.1 <|
 Tt y0 1 x0.1.2.1 <|
 o0 ((some y0),())) <|
 At #[(Vt (BA [])),(Vt (BA []))] 37 λe1=>
 AH (Ls i 4 λf1=>
 λ_=>((Vt f1):Value)=(Vt v0)) <|
 AH (Ls i 3 λg1=>
 λ_=>((Vt g1):Value)=(Vt u0)) <|
 AH (Ls (r0.add 2) 0 λi1=>
 Ls (r0.add 2) 1 λj1=>
 λ_=>((.agg #[(Vt i1),(Vt j1)]):Value)=(.agg #[(Vt s0),(Vt t0)])) <|
 AH (Hr p0 19 λk1=>
 λ_=>((Vp k1):Value)=(Vp q0)) <|
 Cl Pg 105 [(.agg #[(Vt s0),(Vt t0)]),(.agg #[(Vt u0),(Vt v0)])] true [.ag [.s,.s],.sc .b] λl1=>
 Tt e1 0 l1.1.1 <|
 Tt e1 1 l1.1.2.1 <|
 o0 ((some e1),())) (
 f0 ()))) λm1=>
 Dr <|
 Nn a λn1=>
 Hr n1 19 λo1=>
 Br (Option.isNone o1) (
 m1 (true,())) (
 AN i λp1 q1 r1 s1 t1 u1=>
 Nn a λv1=>
 Hr v1 19 λx1=>
 Nn x1 λy1=>
 Ls (y1.add 2) 0 λz1=>
 Ls (y1.add 2) 1 λa2=>
 At (Ar p1 q1 r1 s1 t1 u1) 81 λb2=>
 AH (Ls (y1.add 2) 0 λc2=>
 Ls (y1.add 2) 1 λd2=>
 λ_=>((.agg #[(Vt c2),(Vt d2)]):Value)=(.agg #[(Vt z1),(Vt a2)])) <|
 AH (Hr v1 19 λe2=>
 λ_=>((Vp e2):Value)=(Vp x1)) <|
 Cl Pg 210 [(.slice (some b2) 1 1),(.agg #[(Vt z1),(Vt a2)])] false [.sc .b] λf2=>
 m1 ((!f2.1),()))
theorem Jr (a b c d e f g){R w}(h:Gp a b c d e f g R w):Cl Pg 126 [(Vp a),(.agg (Ar b c d e f g))] true [] R w:=
 ce (s' (q' (q' (.join [(23,.sc .b)] l') (k' l' l')) (q' (.join [] (s' (k' (q' (.join [(4,.sc .p)] l') l') l'))) l'))) Tryz.func126 h
def Gf (a:Option Addr)(b:Int)(R:TR []->Pr):Pr:=
 Jp (σ:=Unit) (λc=>
 Cl Pg 215 [(Vp a),(Vu b)] true [] λd=>
 Cl Pg 124 [(Vp a)] true [] λe=>
 R ()) λf=>
 Nn a λg=>
 Ll (g.add 0) 7 λi=>
 Cl Pg 216 [(Vs i),(Vu b)] true [.sc (.i .i64),.sc .b] λj=>
 Jp (σ:=Bool×Unit) (λk=>
 Br k.1 (
 Nn a λl=>
 Ll (l.add 0) 7 λm=>
 At #[(Vu b)] 32 λn=>
 Cl Pg 217 [(Vs m),(Vi j.1),(.slice (some n) 1 1)] false [.sc .sl] λo=>
 Nn a λp=>
 Ts (p.add 0) 7 o.1 <|
 f ()) (
 f ())) λq=>
 Nn a λr=>
 Lu (r.add 0) 8 λs=>
 Br (decide ((b:Int)>=s)) (
 q ((!j.2.1),())) (
 q (false,()))
theorem IY (a b){R w}(h:Gf a b R w):Cl Pg 127 [(Vp a),(Vu b)] true [] R w:=
 ce (q' (.join [] (s' (q' (.join [(26,.sc .b)] l') (k' l' l')))) (s' l')) Tryz.func127 h
theorem JM (p_s:Sl)(p_i:Int)(p_j:Int){R:TR [.sc .sl]->Pr}{w:World}(h:GN 114 4 64 (zc Pg 114) p_s p_i p_j R w):Cl Pg 128 [(.slice p_s.p p_s.len p_s.cap),(.int .i64 p_i),(.int .i64 p_j)] false [.sc .sl] R w:=
 AF Tryz.checked.mixed (.seq .leaf (.seq .leaf (.seq (.seq .leaf (.cond (.seq .leaf .leaf) .leaf)) (.seq .leaf (.seq .leaf (.seq .leaf (.seq .leaf .leaf))))))) Tryz.func128 (by kernel_rfl) (by kernel_rfl) h
def Gy (a:Option Addr)(b:Sl)(c:Bool)(R:TR [.sc .sl]->Pr):Pr:=
 Lp (σ:=Sl×Int×Unit) (λd e=>
 Br (decide ((e.2.1:Int)<((b.len:Nat):Int))) (
 Jp (σ:=Sl×Unit) (λf=>
 d (f.1,(An (e.2.1+1)),())) λg=>
 Ix b e.2.1 2 λi=>
 Ls i 0 λj=>
 Li i 1 λk=>
 At #[(Vt (BA [])),(Vi 0)] 70 λl=>
 Tt l 0 j <|
 Ti l 1 k <|
 Cl Pg 218 [(Vs b),(Vi e.2.1)] true N6 λm=>
 At #[(Vt (BA [])),(Vt (BA []))] 37 λn=>
 Tt n 0 m.1.1 <|
 Tt n 1 m.1.2.1 <|
 Jp (σ:=Bool×Unit) (λo=>
 Br o.1 (
 Ls n 0 λp=>
 Ls n 1 λq=>
 At #[(Vt p),(Vt q)] 37 λr=>
 App 37 2 32 (zc Pg 37) e.1 1 (BH (some r) 1 2) λs=>
 g (s,())) (
 g (e.1,()))) λt=>
 Dr <|
 Br ((m.2.1:Int)==0) (
 Li l 1 λu=>
 Nn a λv=>
 Li (v.add 0) 0 λx=>
 t ((((u:Int)==x)==c),())) (
 t (false,()))) (
 R (e.1,()))) (⟨none,0,0⟩,0,())
theorem Jl (a b c){R w}(h:Gy a b c R w):Cl Pg 129 [(Vp a),(Vs b),(Vb c)] false [.sc .sl] R w:=
 ce (s' (s' (q' (s' (.block (.loop [(7,.sc .sl),(14,.sc (.i .i64))] (s' (q' (k' l' l') (q' (.join [(7,.sc .sl)] (.block (s' (s' (q' (.join [(38,.sc .b)] l') (k' l' l')))))) l')))))) (s' l')))) Tryz.func129 h
def Hz (a:Option Addr)(b c d e:ByteArray)(R:TR []->Pr):Pr:=
 At #[(Vt b),(Vt c)] 37 λf=>
 At #[(Vt d),(Vt e)] 37 λg=>
 Ls f 0 λi=>
 Ls f 1 λj=>
 Ls g 0 λk=>
 Ls g 1 λl=>
 Cl Pg 105 [(.agg #[(Vt i),(Vt j)]),(.agg #[(Vt k),(Vt l)])] true [.ag [.s,.s],.sc .b] λm=>
 At #[(Vt (BA [])),(Vt (BA []))] 37 λn=>
 Tt n 0 m.1.1 <|
 Tt n 1 m.1.2.1 <|
 Br m.2.1 (
 Dr <|
 Nn a λo=>
 Ll (o.add 21) 1 λp=>
 Ls n 0 λq=>
 Ls n 1 λr=>
 At (Ar 5 (BA []) (BA []) q r 0) 81 λs=>
 AH (Ll (o.add 21) 1 λt=>
 λ_=>((Vs t):Value)=(Vs p)) <|
 App 81 6 80 (zc Pg 81) p 1 (BH (some s) 1 6) λu=>
 Nn a λv=>
 Ts (v.add 21) 1 u <|
 R ()) (
 R ())
theorem JG (a b c d e){R w}(h:Hz a b c d e R w):Cl Pg 130 [(Vp a),(.agg #[(Vt b),(Vt c)]),(.agg #[(Vt d),(Vt e)])] true [] R w:=
 ce (s' (s' (s' (k' l' l')))) Tryz.func130 h
def GX (a:Option Addr)(R:TR []->Pr):Pr:=
 Nn a λb=>
 Hr b 19 λc=>
 At #[(Vp none)] 91 λd=>
 St d (Vp c) <|
 Jp (σ:=Bool×Unit) (λe=>
 Br e.1 (
 R ()) (
 Jp (σ:=Bool×Unit) (λf=>
 Br f.1 (
 Dr <|
 Di d λg=>
 Cl Pg 219 [(Vp a)] false [.sc .sl] λi=>
 AH (Di d λj=>
 λ_=>((Vp j):Value)=(Vp g)) <|
 Nn g λk=>
 Ts k 8 i.1 <|
 Di d λl=>
 Nn l λm=>
 Tb m 6 true <|
 Cl Pg 39 [(Vp a)] true [] λn=>
 R ()) (
 Jp (σ:=Bool×Unit) (λo=>
 Jp (σ:=Bool×Unit) (λp=>
 Br p.1 (
 Dr <|
 Di d λq=>
 Nn q λr=>
 Lu r 0 λs=>
 Di d λt=>
 Nn t λu=>
 Ls (u.add 2) 0 λv=>
 Ls (u.add 2) 1 λx=>
 Nn a λy=>
 Tu (y.add 0) 9 s <|
 Nn a λz=>
 St (((z.add 0).add 10).add 0) (Vt v) <|
 St (((z.add 0).add 10).add 1) (Vt x) <|
 Nn a λa0=>
 Tp a0 19 none <|
 Di d λb0=>
 Nn b0 λc0=>
 Lu c0 0 λd0=>
 Cl Pg 38 [(Vp a),(.agg #[(Vi 14),(Vi 0),(Vi 0),(Vi 0),(Vi 0),(Vi 0),(Vu 0),(Vu 0),(Vu 0),(Vu 0),(Vu 0),(Vu 0),(Vu d0),(Vu 0),(Vu 0),(Vb false),(Vt (BA [])),(Vt (BA [])),(.slice none 0 0),(.slice none 0 0),(.slice none 0 0)])] true [] λe0=>
 R ()) (
 R ())) λf0=>
 Di d λg0=>
 Nn g0 λi0=>
 Lb i0 5 λj0=>
 Br j0 (
 f0 ((!o.1),())) (
 f0 (false,()))) λk0=>
 Nn a λl0=>
 Ll (l0.add 0) 6 λm0=>
 Cl Pg 52 [(Vs m0),(.func (.func 220) #[] #[(Vp (some d))])] false [.sc .b] λn0=>
 Br n0.1 (
 k0 (true,())) (
 Nn a λo0=>
 Ll o0 17 λp0=>
 Cl Pg 221 [(Vs p0),(.func (.func 222) #[] #[(Vp (some d))])] false [.sc .b] λq0=>
 k0 (q0.1,())))) λr0=>
 Di d λs0=>
 Nn s0 λt0=>
 Lu t0 1 λu0=>
 Br ((u0:Int)==0) (
 r0 (true,())) (
 Di d λv0=>
 Nn v0 λx0=>
 Lb x0 7 λy0=>
 Br (!y0) (
 r0 (true,())) (
 Di d λz0=>
 Nn z0 λa1=>
 Ll a1 9 λb1=>
 r0 ((decide ((((b1.len:Nat):Int):Int)>0)),()))))) λc1=>
 Di d λd1=>
 Br (Option.isNone d1) (
 c1 (true,())) (
 Di d λe1=>
 Nn e1 λf1=>
 Lb f1 6 λg1=>
 c1 (g1,()))
theorem JX (a){R w}(h:GX a R w):Cl Pg 131 [(Vp a)] true [] R w:=
 ce (s' (q' (q' (.join [(15,.sc .b)] l') (k' l' l')) (q' (q' (.join [(35,.sc .b)] l') (k' (s' (s' (s' l'))) l')) (q' (.join [(3,.sc .b)] l') (q' (.join [(68,.sc .b)] l') (k' (s' l') l')))))) Tryz.func131 h
def F5 (a b:ByteArray)(c:Addr)(R:TR [.sc .b]->Pr):Pr:=
 At #[(Vt a),(Vt b)] 37 λd=>
 Ls d 0 λe=>
 Ls d 1 λf=>
 Ls (c.add 16) 0 λg=>
 Ls (c.add 16) 1 λi=>
 Cl Pg 105 [(.agg #[(Vt e),(Vt f)]),(.agg #[(Vt g),(Vt i)])] true [.ag [.s,.s],.sc .b] λj=>
 At #[(Vt (BA [])),(Vt (BA []))] 37 λk=>
 Tt k 0 j.1.1 <|
 Tt k 1 j.1.2.1 <|
 R (j.2.1,())
theorem HO (a b c){R w}(h:F5 a b c R w):Cl Pg 132 [(.agg #[(Vt a),(Vt b)]),(Vp (some c))] false [.sc .b] R w:=
 ce (s' (s' (s' l'))) Tryz.func132 h
def FJ (a:Int)(b c d e:ByteArray)(f:Int)(g:Addr)(R:TR [.sc .b]->Pr):Pr:=
 At (Ar a b c d e f) 81 λi=>
 AN i λj k l m n o=>
 Cl Pg 61 [(.agg (Ar j k l m n o))] true N6 λp=>
 At #[(Vt (BA [])),(Vt (BA []))] 37 λq=>
 Tt q 0 p.1.1 <|
 Tt q 1 p.1.2.1 <|
 Br ((p.2.1:Int) !=0) (
 R (true,())) (
 Ls (g.add 16) 0 λr=>
 Ls (g.add 16) 1 λs=>
 Ls q 0 λt=>
 Ls q 1 λu=>
 Cl Pg 65 [(.agg #[(Vt r),(Vt s)]),(.agg #[(Vt t),(Vt u)])] false [.sc .b] λv=>
 R ((!v.1),()))
theorem HW (a b c d e f g){R w}(h:FJ a b c d e f g R w):Cl Pg 133 [(.agg (Ar a b c d e f)),(Vp (some g))] false [.sc .b] R w:=
 ce (s' (s' (s' l'))) Tryz.func133 h
theorem Ff (p_s:Sl)(p_f:Value){R:TR [.sc .b]->Pr}{w:World}(h:B7 Pg 223 p_s p_f R w):Cl Pg 134 [(.slice p_s.p p_s.len p_s.cap),p_f] false [.sc .b] R w:=
 AF Tryz.checked.mixed (.seq .leaf (.seq .leaf .leaf)) Tryz.func134 (by kernel_rfl) (by kernel_rfl) h
def RO (a:Int)(R:TR [.sc .b]->Pr):Pr:=
 Br (decide ((a:Int)>10)) (
 R ((decide ((a:Int)<=14)),())) (
 R (false,()))
theorem QG (a){R w}(h:RO a R w):Cl Pg 135 [(Vi a)] false [.sc .b] R w:=
 ce (s' (s' l')) Tryz.func135 h
def AaP (a:Int)(R:TR [.sc .b]->Pr):Pr:=
 R (((a:Int)==0),())
theorem SP (a){R w}(h:AaP a R w):Cl Pg 136 [(Vi a)] false [.sc .b] R w:=
 ce (s' (s' l')) Tryz.func136 h
def NX (a b c d e f g i j k l m n o p:Int)(q:Bool)(r s:ByteArray)(t u v:Sl)(R:TR [.sc .b]->Pr):Pr:=
 At (Ag a b c d e f g i j k l m n o p q r s t u v) 47 λx=>
 Ll x 18 λy=>
 Cl Pg 138 [(Vs y)] false [.sc (.i .i64)] λz=>
 R (((z.1:Int)==0),())
theorem Ox (a b c d e f g i j k l m n o p q r s t u v){R w}(h:NX a b c d e f g i j k l m n o p q r s t u v R w):Cl Pg 137 [(.agg (Ag a b c d e f g i j k l m n o p q r s t u v))] false [.sc .b] R w:=
 ce (s' (s' l')) Tryz.func137 h
def Y4 (a:Sl)(R:TR [.sc (.i .i64)]->Pr):Pr:=
 Jp (σ:=Bool×Unit) (λb=>
 Br b.1 (
 R (3,())) (
 Cl Pg 224 [(Vs a)] false [.sc (.i .i64)] λc=>
 R (c.1,()))) λd=>
 Br ((((a.len:Nat):Int):Int)==0) (
 d (true,())) (
 d ((decide ((((a.len:Nat):Int):Int)>4)),()))
theorem VK (a){R w}(h:Y4 a R w):Cl Pg 138 [(Vs a)] false [.sc (.i .i64)] R w:=
 ce (s' (q' (q' (.join [(10,.sc .b)] l') (k' (s' l') l')) (s' l'))) Tryz.func138 h
def Oe (a b c d e f g i j k l m n o p:Int)(q:Bool)(r s:ByteArray)(t u v:Sl)(R:TR [.sc .b]->Pr):Pr:=
 At (Ag a b c d e f g i j k l m n o p q r s t u v) 47 λx=>
 Li x 4 λy=>
 Br ((y:Int)==1) (
 Ll x 19 λz=>
 Cl Pg 140 [(Vs z),(Vi 4)] false [.sc .b] λa0=>
 R (a0.1,())) (
 Li x 4 λb0=>
 Br ((b0:Int)==2) (
 Ll x 19 λc0=>
 Cl Pg 140 [(Vs c0),(Vi 4)] false [.sc .b] λd0=>
 R (d0.1,())) (
 R (false,())))
theorem O0 (a b c d e f g i j k l m n o p q r s t u v){R w}(h:Oe a b c d e f g i j k l m n o p q r s t u v R w):Cl Pg 139 [(.agg (Ag a b c d e f g i j k l m n o p q r s t u v))] false [.sc .b] R w:=
 ce (s' (s' l')) Tryz.func139 h
def P6 (a:Sl)(b:Int)(R:TR [.sc .b]->Pr):Pr:=
 AY ((.nilFunc:Value).oneCell'=true) <|
 At #[.nilFunc] 290 λc=>
 St c (.func (.func 225) #[] #[]) <|
 Br (decide ((((a.len:Nat):Int):Int)<=b)) (
 Cl Pg 226 [(Vs a),(.func (.func 227) #[] #[(Vp (some c))])] false [.sc .b] λd=>
 R ((!d.1),())) (
 R (false,()))
theorem P8 (a b){R w}(h:P6 a b R w):Cl Pg 140 [(Vs a),(Vi b)] false [.sc .b] R w:=
 ce (s' (s' (s' l'))) Tryz.func140 h
def Oo (a:Int)(R:TR [.sc .b]->Pr):Pr:=
 Br (decide ((a:Int)>=1)) (
 R ((decide ((a:Int)<=4)),())) (
 R (false,()))
theorem LN (a){R w}(h:Oo a R w):Cl Pg 141 [(Vi a)] false [.sc .b] R w:=
 ce (s' (s' l')) Tryz.func141 h
def Om (a b c d e f g i j k l m n o p:Int)(q:Bool)(r s:ByteArray)(t u v:Sl)(R:TR [.sc .b]->Pr):Pr:=
 At (Ag a b c d e f g i j k l m n o p q r s t u v) 47 λx=>
 Ll x 18 λy=>
 Br (decide ((((y.len:Nat):Int):Int)>0)) (
 Ll x 18 λz=>
 Cl Pg 143 [(Vs z),(Vi 24)] false [.sc .b] λa0=>
 R (a0.1,())) (
 R (false,()))
theorem OF (a b c d e f g i j k l m n o p q r s t u v){R w}(h:Om a b c d e f g i j k l m n o p q r s t u v R w):Cl Pg 142 [(.agg (Ag a b c d e f g i j k l m n o p q r s t u v))] false [.sc .b] R w:=
 ce (s' (s' l')) Tryz.func142 h
open Go Go.Sx
def ZY (a:Sl)(b:Int)(R:TR [.sc .b]->Pr):Pr:=
 Br (decide ((((a.len:Nat):Int):Int)<=b)) (
 Cl Pg 48 [(Vs a),(.func (.func 229) #[] #[])] false [.sc .b] λc=>
 R ((!c.1),())) (
 R (false,()))
theorem VJ (a b){R w}(h:ZY a b R w):Cl Pg 143 [(Vs a),(Vi b)] false [.sc .b] R w:=
 ce (s' (s' l')) Tryz.func143 h
def Ob (a b c d e f g i j k l m n o p:Int)(q:Bool)(r s:ByteArray)(t u v:Sl)(R:TR [.sc .b]->Pr):Pr:=
 At (Ag a b c d e f g i j k l m n o p q r s t u v) 47 λx=>
 Li x 4 λy=>
 Br (decide ((y:Int)>=3)) (
 Li x 4 λz=>
 Br (decide ((z:Int)<=5)) (
 Ll x 19 λa0=>
 Cl Pg 140 [(Vs a0),(Vi 24)] false [.sc .b] λb0=>
 R (b0.1,())) (
 R (false,()))) (
 R (false,()))
theorem O6 (a b c d e f g i j k l m n o p q r s t u v){R w}(h:Ob a b c d e f g i j k l m n o p q r s t u v R w):Cl Pg 144 [(.agg (Ag a b c d e f g i j k l m n o p q r s t u v))] false [.sc .b] R w:=
 ce (s' (s' l')) Tryz.func144 h
def Od (a b c d e f g i j k l m n o p:Int)(q:Bool)(r s:ByteArray)(t u v:Sl)(R:TR [.sc .b]->Pr):Pr:=
 At (Ag a b c d e f g i j k l m n o p q r s t u v) 47 λx=>
 R (true,())
theorem OO (a b c d e f g i j k l m n o p q r s t u v){R w}(h:Od a b c d e f g i j k l m n o p q r s t u v R w):Cl Pg 145 [(.agg (Ag a b c d e f g i j k l m n o p q r s t u v))] false [.sc .b] R w:=
 ce (s' (s' l')) Tryz.func145 h
def Oi (a b c d e f g i j k l m n o p:Int)(q:Bool)(r s:ByteArray)(t u v:Sl)(R:TR [.sc .b]->Pr):Pr:=
 At (Ag a b c d e f g i j k l m n o p q r s t u v) 47 λx=>
 Ll x 20 λy=>
 Cl Pg 44 [(Vs y)] false [.sc (.i .i64)] λz=>
 R (((z.1:Int)==0),())
theorem OQ (a b c d e f g i j k l m n o p q r s t u v){R w}(h:Oi a b c d e f g i j k l m n o p q r s t u v R w):Cl Pg 146 [(.agg (Ag a b c d e f g i j k l m n o p q r s t u v))] false [.sc .b] R w:=
 ce (s' (s' l')) Tryz.func146 h
def Og (a b c d e f g i j k l m n o p:Int)(q:Bool)(r s:ByteArray)(t u v:Sl)(R:TR [.sc .b]->Pr):Pr:=
 At (Ag a b c d e f g i j k l m n o p q r s t u v) 47 λx=>
 Li x 5 λy=>
 Cl Pg 141 [(Vi y)] false [.sc .b] λz=>
 Br z.1 (
 Ls (x.add 16) 0 λa0=>
 Ls (x.add 16) 1 λb0=>
 Cl Pg 45 [(.agg #[(Vt a0),(Vt b0)])] false [.sc (.i .i64)] λc0=>
 R (((c0.1:Int)==0),())) (
 R (false,()))
theorem O8 (a b c d e f g i j k l m n o p q r s t u v){R w}(h:Og a b c d e f g i j k l m n o p q r s t u v R w):Cl Pg 147 [(.agg (Ag a b c d e f g i j k l m n o p q r s t u v))] false [.sc .b] R w:=
 ce (s' (s' l')) Tryz.func147 h
def NV (a b c d e f g i j k l m n o p:Int)(q:Bool)(r s:ByteArray)(t u v:Sl)(R:TR [.sc .b]->Pr):Pr:=
 At (Ag a b c d e f g i j k l m n o p q r s t u v) 47 λx=>
 Li x 1 λy=>
 Li x 2 λz=>
 Br ((y:Int) !=z) (
 Ll x 18 λa0=>
 Cl Pg 143 [(Vs a0),(Vi 6)] false [.sc .b] λb0=>
 Br b0.1 (
 Ls (x.add 16) 0 λc0=>
 Ls (x.add 16) 1 λd0=>
 Cl Pg 45 [(.agg #[(Vt c0),(Vt d0)])] false [.sc (.i .i64)] λe0=>
 Br ((e0.1:Int)==0) (
 Ll x 18 λf0=>
 Cl Pg 48 [(Vs f0),(.func (.func 149) #[] #[])] false [.sc .b] λg0=>
 R ((!g0.1),())) (
 R (false,()))) (
 R (false,()))) (
 R (false,()))
theorem OW (a b c d e f g i j k l m n o p q r s t u v){R w}(h:NV a b c d e f g i j k l m n o p q r s t u v R w):Cl Pg 148 [(.agg (Ag a b c d e f g i j k l m n o p q r s t u v))] false [.sc .b] R w:=
 ce (s' (s' l')) Tryz.func148 h
def LS (a:Int)(b c d e:ByteArray)(f:Int)(R:TR [.sc .b]->Pr):Pr:=
 At (Ar a b c d e f) 81 λg=>
 AN g λi j k l m n=>
 Cl Pg 62 [(.agg (Ar i j k l m n))] false [.sc .b] λo=>
 R ((!o.1),())
theorem Mo (a b c d e f){R w}(h:LS a b c d e f R w):Cl Pg 149 [(.agg (Ar a b c d e f))] false [.sc .b] R w:=
 ce (s' (s' l')) Tryz.func149 h
def NY (a b c d e f g i j k l m n o p:Int)(q:Bool)(r s:ByteArray)(t u v:Sl)(R:TR [.sc .b]->Pr):Pr:=
 At (Ag a b c d e f g i j k l m n o p q r s t u v) 47 λx=>
 Li x 1 λy=>
 Li x 2 λz=>
 R (((y:Int) !=z),())
theorem OX (a b c d e f g i j k l m n o p q r s t u v){R w}(h:NY a b c d e f g i j k l m n o p q r s t u v R w):Cl Pg 150 [(.agg (Ag a b c d e f g i j k l m n o p q r s t u v))] false [.sc .b] R w:=
 ce (s' (s' l')) Tryz.func150 h
def Y3 (a:Value)(R:TR [.ag [.v,.v,.v]]->Pr):Pr:=
 AY ((a:Value).oneCell'=true) <|
 At #[a] 222 λb=>
 At #[.nilFunc,.nilFunc,.nilFunc] 171 λc=>
 AY (((.func (.func 230) #[] #[(Vp (some b))]):Value).oneCell'=true) <|
 AY (((.func (.func 232) #[] #[(Vp (some b))]):Value).oneCell'=true) <|
 AY (((.func (.func 234) #[] #[(Vp (some b))]):Value).oneCell'=true) <|
 St (c.add 0) (.func (.func 230) #[] #[(Vp (some b))]) <|
 St (c.add 1) (.func (.func 232) #[] #[(Vp (some b))]) <|
 St (c.add 2) (.func (.func 234) #[] #[(Vp (some b))]) <|
 Lv3 c λd e f=>
 R ((d,e,f,()),())
theorem VP (a){R w}(h:Y3 a R w):Cl Pg 151 [a] false [.ag [.v,.v,.v]] R w:=
 ce (s' (s' l')) Tryz.func151 h
def TU (a:Option Addr)(R:TR [.sc .p]->Pr):Pr:=
 Nn a λb=>
 R ((some (b.add 6)),())
theorem SR (a){R w}(h:TU a R w):Cl Pg 152 [(Vp a)] false [.sc .p] R w:=
 ce (s' (s' l')) Tryz.func152 h
def Uc (a:Option Addr)(R:TR [.sc .p]->Pr):Pr:=
 Nn a λb=>
 R ((some (b.add 7)),())
theorem Sw (a){R w}(h:Uc a R w):Cl Pg 153 [(Vp a)] false [.sc .p] R w:=
 ce (s' (s' l')) Tryz.func153 h
def UW (a:Option Addr)(R:TR [.sc .p]->Pr):Pr:=
 Nn a λb=>
 R ((some (b.add 8)),())
theorem SV (a){R w}(h:UW a R w):Cl Pg 154 [(Vp a)] false [.sc .p] R w:=
 ce (s' (s' l')) Tryz.func154 h
def Ve (a:Option Addr)(R:TR [.sc .p]->Pr):Pr:=
 Nn a λb=>
 R ((some (b.add 9)),())
theorem SB (a){R w}(h:Ve a R w):Cl Pg 155 [(Vp a)] false [.sc .p] R w:=
 ce (s' (s' l')) Tryz.func155 h
def UJ (a:Option Addr)(R:TR [.sc .p]->Pr):Pr:=
 Nn a λb=>
 R ((some (b.add 10)),())
theorem Sz (a){R w}(h:UJ a R w):Cl Pg 156 [(Vp a)] false [.sc .p] R w:=
 ce (s' (s' l')) Tryz.func156 h
def TL (a:Option Addr)(R:TR [.sc .p]->Pr):Pr:=
 Nn a λb=>
 R ((some (b.add 11)),())
theorem S1 (a){R w}(h:TL a R w):Cl Pg 157 [(Vp a)] false [.sc .p] R w:=
 ce (s' (s' l')) Tryz.func157 h
def U8 (a:Option Addr)(R:TR [.sc .p]->Pr):Pr:=
 Nn a λb=>
 R ((some (b.add 12)),())
theorem Sv (a){R w}(h:U8 a R w):Cl Pg 158 [(Vp a)] false [.sc .p] R w:=
 ce (s' (s' l')) Tryz.func158 h
def TM (a:Option Addr)(R:TR [.sc .p]->Pr):Pr:=
 Nn a λb=>
 R ((some (b.add 13)),())
theorem S9 (a){R w}(h:TM a R w):Cl Pg 159 [(Vp a)] false [.sc .p] R w:=
 ce (s' (s' l')) Tryz.func159 h
def U0 (a:Option Addr)(R:TR [.sc .p]->Pr):Pr:=
 Nn a λb=>
 R ((some (b.add 14)),())
theorem SS (a){R w}(h:U0 a R w):Cl Pg 160 [(Vp a)] false [.sc .p] R w:=
 ce (s' (s' l')) Tryz.func160 h
def V5 (a:Value)(R:TR [.ag [.v,.v,.v]]->Pr):Pr:=
 AY ((a:Value).oneCell'=true) <|
 At #[a] 225 λb=>
 At #[.nilFunc,.nilFunc,.nilFunc] 171 λc=>
 AY (((.func (.func 235) #[] #[(Vp (some b))]):Value).oneCell'=true) <|
 AY (((.func (.func 236) #[] #[(Vp (some b))]):Value).oneCell'=true) <|
 AY (((.func (.func 238) #[] #[(Vp (some b))]):Value).oneCell'=true) <|
 St (c.add 0) (.func (.func 235) #[] #[(Vp (some b))]) <|
 St (c.add 1) (.func (.func 236) #[] #[(Vp (some b))]) <|
 St (c.add 2) (.func (.func 238) #[] #[(Vp (some b))]) <|
 Lv3 c λd e f=>
 R ((d,e,f,()),())
theorem SF (a){R w}(h:V5 a R w):Cl Pg 161 [a] false [.ag [.v,.v,.v]] R w:=
 ce (s' (s' l')) Tryz.func161 h
def RA (a:Option Addr)(R:TR [.sc .p]->Pr):Pr:=
 Nn a λb=>
 R ((some (b.add 4)),())
theorem QL (a){R w}(h:RA a R w):Cl Pg 162 [(Vp a)] false [.sc .p] R w:=
 ce (s' (s' l')) Tryz.func162 h
def RH (a:Option Addr)(R:TR [.sc .p]->Pr):Pr:=
 Nn a λb=>
 R ((some (b.add 5)),())
theorem Qx (a){R w}(h:RH a R w):Cl Pg 163 [(Vp a)] false [.sc .p] R w:=
 ce (s' (s' l')) Tryz.func163 h
def RS (a:Option Addr)(R:TR [.sc .b]->Pr):Pr:=
 Nn a λb=>
 Lb b 15 λc=>
 R ((!c),())
theorem Rh (a){R w}(h:RS a R w):Cl Pg 168 [(Vp a)] false [.sc .b] R w:=
 ce (s' (s' l')) Tryz.func168 h
def RI (a:Option Addr)(R:TR [.sc .b]->Pr):Pr:=
 Nn a λb=>
 Ls (b.add 16) 0 λc=>
 Ls (b.add 16) 1 λd=>
 R (((seq c (BA []))&&((seq d (BA []))&&true)),())
theorem QP (a){R w}(h:RI a R w):Cl Pg 173 [(Vp a)] false [.sc .b] R w:=
 ce (s' (s' l')) Tryz.func173 h
def Pu (a b c:Value)(R:TR [.ag [.v,.v,.v]]->Pr):Pr:=
 AY ((a:Value).oneCell'=true) <|
 At #[a] 234 λd=>
 AY ((b:Value).oneCell'=true) <|
 At #[b] 235 λe=>
 AY ((c:Value).oneCell'=true) <|
 At #[c] 236 λf=>
 At #[.nilFunc,.nilFunc,.nilFunc] 171 λg=>
 AY (((.func (.func 242) #[] #[(Vp (some d)),(Vp (some e))]):Value).oneCell'=true) <|
 AY (((.func (.func 243) #[] #[(Vp (some d)),(Vp (some f))]):Value).oneCell'=true) <|
 AY (((.func (.func 245) #[] #[(Vp (some d))]):Value).oneCell'=true) <|
 St (g.add 0) (.func (.func 242) #[] #[(Vp (some d)),(Vp (some e))]) <|
 St (g.add 1) (.func (.func 243) #[] #[(Vp (some d)),(Vp (some f))]) <|
 St (g.add 2) (.func (.func 245) #[] #[(Vp (some d))]) <|
 Lv3 g λi j k=>
 R ((i,j,k,()),())
theorem Qe (a b c){R w}(h:Pu a b c R w):Cl Pg 174 [a,b,c] false [.ag [.v,.v,.v]] R w:=
 ce (s' (s' l')) Tryz.func174 h
def RG (a:Option Addr)(R:TR [.sc .p]->Pr):Pr:=
 Nn a λb=>
 R ((some (b.add 18)),())
theorem QE (a){R w}(h:RG a R w):Cl Pg 175 [(Vp a)] false [.sc .p] R w:=
 ce (s' (s' l')) Tryz.func175 h
def Kk (a b c:Value)(R:TR [.ag [.v,.v,.v]]->Pr):Pr:=
 AY ((a:Value).oneCell'=true) <|
 At #[a] 240 λd=>
 AY ((b:Value).oneCell'=true) <|
 At #[b] 241 λe=>
 AY ((c:Value).oneCell'=true) <|
 At #[c] 242 λf=>
 At #[.nilFunc,.nilFunc,.nilFunc] 171 λg=>
 AY (((.func (.func 246) #[] #[(Vp (some d)),(Vp (some e))]):Value).oneCell'=true) <|
 AY (((.func (.func 247) #[] #[(Vp (some d)),(Vp (some f))]):Value).oneCell'=true) <|
 AY (((.func (.func 248) #[] #[(Vp (some d))]):Value).oneCell'=true) <|
 St (g.add 0) (.func (.func 246) #[] #[(Vp (some d)),(Vp (some e))]) <|
 St (g.add 1) (.func (.func 247) #[] #[(Vp (some d)),(Vp (some f))]) <|
 St (g.add 2) (.func (.func 248) #[] #[(Vp (some d))]) <|
 Lv3 g λi j k=>
 R ((i,j,k,()),())
theorem Mb (a b c){R w}(h:Kk a b c R w):Cl Pg 178 [a,b,c] false [.ag [.v,.v,.v]] R w:=
 ce (s' (s' l')) Tryz.func178 h
def RX (a:Option Addr)(R:TR [.sc .p]->Pr):Pr:=
 Nn a λb=>
 R ((some (b.add 19)),())
theorem QQ (a){R w}(h:RX a R w):Cl Pg 179 [(Vp a)] false [.sc .p] R w:=
 ce (s' (s' l')) Tryz.func179 h
def LO (a b c:Value)(R:TR [.ag [.v,.v,.v]]->Pr):Pr:=
 AY ((a:Value).oneCell'=true) <|
 At #[a] 246 λd=>
 AY ((b:Value).oneCell'=true) <|
 At #[b] 247 λe=>
 AY ((c:Value).oneCell'=true) <|
 At #[c] 248 λf=>
 At #[.nilFunc,.nilFunc,.nilFunc] 171 λg=>
 AY (((.func (.func 249) #[] #[(Vp (some d)),(Vp (some e))]):Value).oneCell'=true) <|
 AY (((.func (.func 250) #[] #[(Vp (some d)),(Vp (some f))]):Value).oneCell'=true) <|
 AY (((.func (.func 251) #[] #[(Vp (some d))]):Value).oneCell'=true) <|
 St (g.add 0) (.func (.func 249) #[] #[(Vp (some d)),(Vp (some e))]) <|
 St (g.add 1) (.func (.func 250) #[] #[(Vp (some d)),(Vp (some f))]) <|
 St (g.add 2) (.func (.func 251) #[] #[(Vp (some d))]) <|
 Lv3 g λi j k=>
 R ((i,j,k,()),())
theorem M4 (a b c){R w}(h:LO a b c R w):Cl Pg 182 [a,b,c] false [.ag [.v,.v,.v]] R w:=
 ce (s' (s' l')) Tryz.func182 h
def Rl (a:Option Addr)(R:TR [.sc .p]->Pr):Pr:=
 Nn a λb=>
 R ((some (b.add 20)),())
theorem Qv (a){R w}(h:Rl a R w):Cl Pg 183 [(Vp a)] false [.sc .p] R w:=
 ce (s' (s' l')) Tryz.func183 h
def Il (a:Sl)(b:Int)(R:TR [.sc (.i .i64)]->Pr):Pr:=
 Lp (σ:=Int×Int×Unit) (λc d=>
 Br (decide ((d.2.1:Int)<((a.len:Nat):Int))) (
 Ix a d.2.1 1 λe=>
 A2 .i32 e λf=>
 Br ((b:Int)==f) (
 R (d.2.1,())) (
 c (d.1,(An (d.2.1+1)),()))) (
 R ((-1),()))) (0,0,())
theorem KN (a b){R w}(h:Il a b R w):Cl Pg 186 [(Vs a),(.int .i32 b)] false [.sc (.i .i64)] R w:=
 ce (s' (q' (s' (.block (.loop [(4,.sc (.i .i64)),(8,.sc (.i .i64))] (s' (q' (k' l' l') (q' (.block (s' (s' (k' (s' l') l')))) l')))))) (s' l'))) Tryz.func186 h
def Hh (a b c d e:Int)(f g i:Sl)(j k:Int)(l m:ByteArray)(n o p:Int)(q r:ByteArray)(R:TR [.sc .sl,.sc (.i .i64)]->Pr):Pr:=
 At (Al a b c d e f g i j k l m n o p q r) 41 λs=>
 Az s λt u v x y z a0 b0 c0 d0 e0 f0 g0 i0 j0 k0 l0=>
 Cl Pg 25 [(.agg (Al t u v x y z a0 b0 c0 d0 e0 f0 g0 i0 j0 k0 l0))] false [.sc (.i .i64)] λm0=>
 Br ((m0.1:Int) !=0) (
 R (⟨none,0,0⟩,m0.1,())) (
 At #[(.int .u8 83)] 5 λn0=>
 At #[(.slice (some n0) 1 1)] 307 λo0=>
 Akq s λp0 q0 r0 s0 t0=>
 At #[(Vu (IntKind.u64.wrap (p0))),(Vu q0),(Vu r0),(Vu s0),(Vu t0)] 32 λu0=>
 Cl Pg 252 [(Vp (some o0)),(.slice (some u0) 5 5)] true [] λv0=>
 Ll s 5 λx0=>
 Cl Pg 253 [(Vp (some o0)),(Vs x0),(.func (.func 254) #[(Vp (some o0))] #[])] true [] λy0=>
 Ll s 6 λz0=>
 Cl Pg 255 [(Vp (some o0)),(Vs z0),(.func (.func 256) #[(Vp (some o0))] #[])] true [] λa1=>
 Ll s 7 λb1=>
 Cl Pg 257 [(Vp (some o0)),(Vs b1),(.func (.func 258) #[(Vp (some o0))] #[])] true [] λc1=>
 Lu s 8 λd1=>
 Lu s 9 λe1=>
 At #[(Vu d1),(Vu e1)] 32 λf1=>
 Cl Pg 252 [(Vp (some o0)),(.slice (some f1) 2 2)] true [] λg1=>
 Ls (s.add 10) 0 λi1=>
 Ls (s.add 10) 1 λj1=>
 Cl Pg 259 [(Vp (some o0)),(.agg #[(Vt i1),(Vt j1)])] true [] λk1=>
 Lu3 (s.add 12) λl1 m1 n1=>
 At (Au3 l1 m1 n1) 32 λo1=>
 Cl Pg 252 [(Vp (some o0)),(.slice (some o1) 3 3)] true [] λp1=>
 BU (((s.add 12).add 3).add 0) λq1=>
 BU (((s.add 12).add 3).add 1) λr1=>
 Cl Pg 259 [(Vp (some o0)),(.agg #[(Vt q1),(Vt r1)])] true [] λs1=>
 Ll o0 0 λt1=>
 R (t1,0,()))
theorem Jy (a b c d e f g i j k l m n o p q r){R w}(h:Hh a b c d e f g i j k l m n o p q r R w):Cl Pg 187 [(.agg (Al a b c d e f g i j k l m n o p q r))] true [.sc .sl,.sc (.i .i64)] R w:=
 ce (s' (q' (s' (s' (k' (s' l') l'))) (s' (s' (s' (s' (s' (s' (s' (s' (s' (s' l')))))))))))) Tryz.func187 h
def Cj (a:Sl)(b c:Int)(R:TR []->Pr):Pr:=
 Lp (σ:=Int×Unit) (λd e=>
 Br (decide ((e.1:Int)<c)) (
 Lp (σ:=Int×Unit) (λf g=>
 Jp (σ:=Bool×Unit) (λi=>
 Br i.1 (
 Dr <|
 Ix a (An (g.1-1)) 1 λj=>
 A2 .u64 j λk=>
 Ix a g.1 1 λl=>
 A2 .u64 l λm=>
 Ix a g.1 1 λn=>
 St n (Vu k) <|
 Ix a (An (g.1-1)) 1 λo=>
 St o (Vu m) <|
 f ((An (g.1-1)),())) (
 d ((An (e.1+1)),()))) λp=>
 Dr <|
 Br (decide ((g.1:Int)>b)) (
 Ix a g.1 1 λq=>
 A2 .u64 q λr=>
 Ix a (An (g.1-1)) 1 λs=>
 A2 .u64 s λt=>
 Cl Pg 194 [(Vu r),(Vu t)] false [.sc .b] λu=>
 p (u.1,())) (
 p (false,()))) (e.1,())) (
 R ())) ((An (b+1)),())
theorem Dx (a b c){R w}(h:Cj a b c R w):Cl Pg 188 [(Vs a),(Vi b),(Vi c)] true [] R w:=
 ce (s' (.block (.loop [(6,.sc (.i .i64))] (q' (s' (k' l' l')) (q' (.block (s' (.block (.loop [(7,.sc (.i .i64))] (q' (q' (.join [(30,.sc .b)] l') (k' l' l')) (q' (.block l') l')))))) l'))))) Tryz.func188 h
def CL (a:Sl)(b c:Int)(R:TR []->Pr):Pr:=
 AY (2≠(0:Int)) <|
 Lp (σ:=Int×Unit) (λd e=>
 Br (decide ((e.1:Int)>=0)) (
 Cl Pg 260 [(Vs a),(Vi e.1),(Vi (An (c-b))),(Vi b)] true [] λf=>
 d ((An (e.1-1)),())) (
 Lp (σ:=Int×Unit) (λg i=>
 Br (decide ((i.1:Int)>=0)) (
 Dr <|
 Ix a (An (b+i.1)) 1 λj=>
 A2 .u64 j λk=>
 Ix a b 1 λl=>
 A2 .u64 l λm=>
 Ix a b 1 λn=>
 St n (Vu k) <|
 Ix a (An (b+i.1)) 1 λo=>
 St o (Vu m) <|
 Cl Pg 260 [(Vs a),(Vi 0),(Vi i.1),(Vi b)] true [] λp=>
 g ((An (i.1-1)),())) (
 R ())) ((An ((An (c-b))-1)),()))) ((An ((An ((An (c-b))-1)).tdiv 2)),())
theorem Eg (a b c){R w}(h:CL a b c R w):Cl Pg 189 [(Vs a),(Vi b),(Vi c)] true [] R w:=
 ce (s' (s' (s' (q' (s' (.block (.loop [(9,.sc (.i .i64))] (q' (s' (k' l' l')) (q' (.block l') l'))))) (s' (.block (.loop [(10,.sc (.i .i64))] (q' (s' (k' l' l')) (q' (.block (s' l')) l'))))))))) Tryz.func189 h
def Cf (a:Sl)(b c:Int)(R:TR []->Pr):Pr:=
 Br (decide (((An (c-b)):Int)>=8)) (
 At #[(Vu 0)] 315 λd=>
 St d (Vu (IntKind.u64.wrap ((An (c-b))))) <|
 Cl Pg 261 [(Vi (An (c-b)))] false [.sc (.i .u64)] λe=>
 AY (4≠(0:Int)) <|
 Lp (σ:=Int×Unit) (λf g=>
 AY (4≠(0:Int)) <|
 Br (decide ((g.1:Int)<=(An ((An (b+(An ((An ((An (c-b)).tdiv 4))*2))))+1)))) (
 Cl Pg 262 [(Vp (some d))] false [.sc (.i .u64)] λi=>
 Jp (σ:=Int×Unit) (λj=>
 Dr <|
 Ix a (An (b+j.1)) 1 λk=>
 A2 .u64 k λl=>
 Ix a g.1 1 λm=>
 A2 .u64 m λn=>
 Ix a g.1 1 λo=>
 St o (Vu l) <|
 Ix a (An (b+j.1)) 1 λp=>
 St p (Vu n) <|
 f ((An (g.1+1)),())) λq=>
 Br (decide (((An ((AfX .u64 i.1 (IntKind.u64.wrap (e.1-1))))):Int)>=(An (c-b)))) (
 q ((An ((An ((AfX .u64 i.1 (IntKind.u64.wrap (e.1-1)))))-(An (c-b)))),())) (
 q ((An ((AfX .u64 i.1 (IntKind.u64.wrap (e.1-1))))),()))) (
 R ())) ((An ((An (b+(An ((An ((An (c-b)).tdiv 4))*2))))-1)),())) (
 R ())
theorem Dw (a b c){R w}(h:Cf a b c R w):Cl Pg 190 [(Vs a),(Vi b),(Vi c)] true [] R w:=
 ce (s' (s' (k' (s' (s' (s' (.block (.loop [(9,.sc (.i .i64))] (q' (s' (k' l' l')) (q' (.block (s' (q' (.join [(10,.sc (.i .i64))] (s' (k' l' l'))) l'))) l'))))))) l'))) Tryz.func190 h
def Cx (a:Sl)(b c:Int)(R:TR [.sc (.i .i64),.sc (.i .i64)]->Pr):Pr:=
 At #[(Vi 0)] 3 λd=>
 AY (4≠(0:Int)) <|
 AY (4≠(0:Int)) <|
 AY (4≠(0:Int)) <|
 Jp (σ:=Int×Unit) (λe=>
 A2 .i64 d λf=>
 Br ((f:Int)==0) (
 R (e.1,1,())) (
 Br ((f:Int)==12) (
 R (e.1,2,())) (
 R (e.1,0,())))) λg=>
 Br (decide (((An (c-b)):Int)>=8)) (
 Jp (σ:=Int×Int×Int×Unit) (λi=>
 Cl Pg 264 [(Vs a),(Vi i.1),(Vi i.2.1),(Vi i.2.2.1),(Vp (some d))] false [.sc (.i .i64)] λj=>
 g (j.1,())) λk=>
 Br (decide (((An (c-b)):Int)>=50)) (
 Cl Pg 263 [(Vs a),(Vi (An (b+(An ((An ((An (c-b)).tdiv 4))*1))))),(Vp (some d))] false [.sc (.i .i64)] λl=>
 Cl Pg 263 [(Vs a),(Vi (An (b+(An ((An ((An (c-b)).tdiv 4))*2))))),(Vp (some d))] false [.sc (.i .i64)] λm=>
 Cl Pg 263 [(Vs a),(Vi (An (b+(An ((An ((An (c-b)).tdiv 4))*3))))),(Vp (some d))] false [.sc (.i .i64)] λn=>
 k (l.1,m.1,n.1,())) (
 k ((An (b+(An ((An ((An (c-b)).tdiv 4))*1)))),(An (b+(An ((An ((An (c-b)).tdiv 4))*2)))),(An (b+(An ((An ((An (c-b)).tdiv 4))*3)))),()))) (
 g ((An (b+(An ((An ((An (c-b)).tdiv 4))*2)))),()))
theorem DM (a b c){R w}(h:Cx a b c R w):Cl Pg 191 [(Vs a),(Vi b),(Vi c)] true [.sc (.i .i64),.sc (.i .i64)] R w:=
 ce (s' (s' (s' (s' (s' (s' (q' (.join [(11,.sc (.i .i64))] (s' (k' (q' (.join [(10,.sc (.i .i64)),(11,.sc (.i .i64)),(12,.sc (.i .i64))] (s' (k' (s' (s' l')) l'))) l') l'))) (s' (.block (s' (k' (s' l') (s' (k' (s' l') (s' l')))))))))))))) Tryz.func191 h
def Cn (a:Sl)(b c:Int)(R:TR []->Pr):Pr:=
 Lp (σ:=Int×Int×Unit) (λd e=>
 Br (decide ((e.1:Int)<e.2.1)) (
 Dr <|
 Ix a e.2.1 1 λf=>
 A2 .u64 f λg=>
 Ix a e.1 1 λi=>
 A2 .u64 i λj=>
 Ix a e.1 1 λk=>
 St k (Vu g) <|
 Ix a e.2.1 1 λl=>
 St l (Vu j) <|
 d ((An (e.1+1)),(An (e.2.1-1)),())) (
 R ())) (b,(An (c-1)),())
theorem DA (a b c){R w}(h:Cn a b c R w):Cl Pg 192 [(Vs a),(Vi b),(Vi c)] true [] R w:=
 ce (s' (s' (.block (.loop [(6,.sc (.i .i64)),(7,.sc (.i .i64))] (q' (s' (k' l' l')) (.block (s' (s' l')))))))) Tryz.func192 h
def B6 (a:Sl)(b c:Int)(R:TR [.sc .b]->Pr):Pr:=
 Lp (σ:=Bool×Int×Int×Unit) (λd e=>
 Br (decide ((e.2.2.1:Int)<5)) (
 Jp (σ:=Bool×Int×Unit) (λf=>
 d (f.1,f.2.1,(An (e.2.2.1+1)),())) λg=>
 Lp (σ:=Int×Unit) (λi j=>
 Jp (σ:=Bool×Unit) (λk=>
 Br k.1 (
 i ((An (j.1+1)),())) (
 Br ((j.1:Int)==c) (
 R (true,())) (
 Br (decide (((An (c-b)):Int)<50)) (
 R (false,())) (
 Dr <|
 Ix a (An (j.1-1)) 1 λl=>
 A2 .u64 l λm=>
 Ix a j.1 1 λn=>
 A2 .u64 n λo=>
 Ix a j.1 1 λp=>
 St p (Vu m) <|
 Ix a (An (j.1-1)) 1 λq=>
 St q (Vu o) <|
 Jp (σ:=Unit) (λr=>
 Br (decide (((An (c-j.1)):Int)>=2)) (
 Lp (σ:=Int×Unit) (λs t=>
 Br (decide ((t.1:Int)<c)) (
 Dr <|
 Ix a t.1 1 λu=>
 A2 .u64 u λv=>
 Ix a (An (t.1-1)) 1 λx=>
 A2 .u64 x λy=>
 Cl Pg 194 [(Vu v),(Vu y)] false [.sc .b] λz=>
 Br (!z.1) (
 g (e.1,j.1,())) (
 Dr <|
 Ix a (An (t.1-1)) 1 λa0=>
 A2 .u64 a0 λb0=>
 Ix a t.1 1 λc0=>
 A2 .u64 c0 λd0=>
 Ix a t.1 1 λe0=>
 St e0 (Vu b0) <|
 Ix a (An (t.1-1)) 1 λf0=>
 St f0 (Vu d0) <|
 s ((An (t.1+1)),()))) (
 g (e.1,j.1,()))) ((An (j.1+1)),())) (
 g (e.1,j.1,()))) λg0=>
 Br (decide (((An (j.1-b)):Int)>=2)) (
 Lp (σ:=Int×Unit) (λi0 j0=>
 Br (decide ((j0.1:Int)>=1)) (
 Dr <|
 Ix a j0.1 1 λk0=>
 A2 .u64 k0 λl0=>
 Ix a (An (j0.1-1)) 1 λm0=>
 A2 .u64 m0 λn0=>
 Cl Pg 194 [(Vu l0),(Vu n0)] false [.sc .b] λo0=>
 Br (!o0.1) (
 g0 ()) (
 Dr <|
 Ix a (An (j0.1-1)) 1 λp0=>
 A2 .u64 p0 λq0=>
 Ix a j0.1 1 λr0=>
 A2 .u64 r0 λs0=>
 Ix a j0.1 1 λt0=>
 St t0 (Vu q0) <|
 Ix a (An (j0.1-1)) 1 λu0=>
 St u0 (Vu s0) <|
 i0 ((An (j0.1-1)),()))) (
 g0 ())) ((An (j.1-1)),())) (
 g0 ()))))) λv0=>
 Dr <|
 Br (decide ((j.1:Int)<c)) (
 Ix a j.1 1 λx0=>
 A2 .u64 x0 λy0=>
 Ix a (An (j.1-1)) 1 λz0=>
 A2 .u64 z0 λa1=>
 Cl Pg 194 [(Vu y0),(Vu a1)] false [.sc .b] λb1=>
 v0 ((!b1.1),())) (
 v0 (false,()))) (e.2.1,())) (
 R (false,()))) (false,(An (b+1)),0,())
theorem C5 (a b c){R w}(h:B6 a b c R w):Cl Pg 193 [(Vs a),(Vi b),(Vi c)] false [.sc .b] R w:=
 ce (s' (s' (q' (s' (.block (.loop [(6,.sc .b),(7,.sc (.i .i64)),(8,.sc (.i .i64))] (q' (s' (k' l' l')) (q' (.join [(6,.sc .b),(7,.sc (.i .i64))] (.block (q' (.block (.loop [(7,.sc (.i .i64))] (q' (q' (.join [(32,.sc .b)] l') (k' l' l')) (.block l')))) (q' (s' (k' (s' l') l')) (q' (s' (k' (s' l') l')) (s' (q' (.join [] (s' (k' (s' (.block (.loop [(9,.sc (.i .i64))] (q' (s' (k' l' l')) (q' (.block (q' (s' (k' l' l')) l')) l'))))) l'))) (s' (k' (s' (.block (.loop [(10,.sc (.i .i64))] (q' (s' (k' l' l')) (q' (.block (q' (s' (k' l' l')) l')) l'))))) l'))))))))) l'))))) (s' l')))) Tryz.func193 h
open Go Go.Sx
def LD (a b:Int)(R:TR [.sc .b]->Pr):Pr:=
 Cl Pg 110 [(Vu a)] false [.sc .b] λc=>
 Br c.1 (
 Cl Pg 110 [(Vu b)] false [.sc .b] λd=>
 Br (!d.1) (
 R (true,())) (
 R ((decide ((a:Int)<b)),()))) (
 R ((decide ((a:Int)<b)),()))
theorem MA (a b){R w}(h:LD a b R w):Cl Pg 194 [(Vu a),(Vu b)] false [.sc .b] R w:=
 ce (s' (s' l')) Tryz.func194 h
def Cc (a:Sl)(b c d:Int)(R:TR [.sc (.i .i64)]->Pr):Pr:=
 Dr <|
 Ix a d 1 λe=>
 A2 .u64 e λf=>
 Ix a b 1 λg=>
 A2 .u64 g λi=>
 Ix a b 1 λj=>
 St j (Vu f) <|
 Ix a d 1 λk=>
 St k (Vu i) <|
 Lp (σ:=Int×Int×Unit) (λl m=>
 Lp (σ:=Int×Unit) (λn o=>
 Jp (σ:=Bool×Unit) (λp=>
 Br p.1 (
 n ((An (o.1+1)),())) (
 Lp (σ:=Int×Unit) (λq r=>
 Jp (σ:=Bool×Unit) (λs=>
 Br s.1 (
 q ((An (r.1-1)),())) (
 Br (decide ((o.1:Int)>r.1)) (
 R (o.1,())) (
 Dr <|
 Ix a r.1 1 λt=>
 A2 .u64 t λu=>
 Ix a o.1 1 λv=>
 A2 .u64 v λx=>
 Ix a o.1 1 λy=>
 St y (Vu u) <|
 Ix a r.1 1 λz=>
 St z (Vu x) <|
 l ((An (o.1+1)),(An (r.1-1)),())))) λa0=>
 Dr <|
 Br (decide ((o.1:Int)<=r.1)) (
 Ix a b 1 λb0=>
 A2 .u64 b0 λc0=>
 Ix a r.1 1 λd0=>
 A2 .u64 d0 λe0=>
 Cl Pg 194 [(Vu c0),(Vu e0)] false [.sc .b] λf0=>
 a0 (f0.1,())) (
 a0 (false,()))) (m.2.1,()))) λg0=>
 Dr <|
 Br (decide ((o.1:Int)<=m.2.1)) (
 Ix a b 1 λi0=>
 A2 .u64 i0 λj0=>
 Ix a o.1 1 λk0=>
 A2 .u64 k0 λl0=>
 Cl Pg 194 [(Vu j0),(Vu l0)] false [.sc .b] λm0=>
 g0 ((!m0.1),())) (
 g0 (false,()))) (m.1,())) ((An (b+1)),(An (c-1)),())
theorem Dm (a b c d){R w}(h:Cc a b c d R w):Cl Pg 195 [(Vs a),(Vi b),(Vi c),(Vi d)] false [.sc (.i .i64)] R w:=
 ce (s' (s' (s' (q' (.block (.loop [(9,.sc (.i .i64)),(10,.sc (.i .i64))] (.block (q' (.block (.loop [(9,.sc (.i .i64))] (q' (q' (.join [(43,.sc .b)] l') (k' l' l')) (.block l')))) (q' (.block (.loop [(10,.sc (.i .i64))] (q' (q' (.join [(59,.sc .b)] l') (k' l' l')) (.block l')))) (q' (s' (k' l' l')) (s' (s' l')))))))) (s' l'))))) Tryz.func195 h
def CC (a:Sl)(b c d:Int)(R:TR [.sc (.i .i64),.sc .b]->Pr):Pr:=
 Dr <|
 Ix a d 1 λe=>
 A2 .u64 e λf=>
 Ix a b 1 λg=>
 A2 .u64 g λi=>
 Ix a b 1 λj=>
 St j (Vu f) <|
 Ix a d 1 λk=>
 St k (Vu i) <|
 Lp (σ:=Int×Unit) (λl m=>
 Jp (σ:=Bool×Unit) (λn=>
 Br n.1 (
 l ((An (m.1+1)),())) (
 Lp (σ:=Int×Unit) (λo p=>
 Jp (σ:=Bool×Unit) (λq=>
 Br q.1 (
 o ((An (p.1-1)),())) (
 Br (decide ((m.1:Int)>p.1)) (
 Dr <|
 Ix a b 1 λr=>
 A2 .u64 r λs=>
 Ix a p.1 1 λt=>
 A2 .u64 t λu=>
 Ix a p.1 1 λv=>
 St v (Vu s) <|
 Ix a b 1 λx=>
 St x (Vu u) <|
 R (p.1,true,())) (
 Dr <|
 Ix a p.1 1 λy=>
 A2 .u64 y λz=>
 Ix a m.1 1 λa0=>
 A2 .u64 a0 λb0=>
 Ix a m.1 1 λc0=>
 St c0 (Vu z) <|
 Ix a p.1 1 λd0=>
 St d0 (Vu b0) <|
 Lp (σ:=Int×Int×Unit) (λe0 f0=>
 Lp (σ:=Int×Unit) (λg0 i0=>
 Jp (σ:=Bool×Unit) (λj0=>
 Br j0.1 (
 g0 ((An (i0.1+1)),())) (
 Lp (σ:=Int×Unit) (λk0 l0=>
 Jp (σ:=Bool×Unit) (λm0=>
 Br m0.1 (
 k0 ((An (l0.1-1)),())) (
 Br (decide ((i0.1:Int)>l0.1)) (
 Dr <|
 Ix a b 1 λn0=>
 A2 .u64 n0 λo0=>
 Ix a l0.1 1 λp0=>
 A2 .u64 p0 λq0=>
 Ix a l0.1 1 λr0=>
 St r0 (Vu o0) <|
 Ix a b 1 λs0=>
 St s0 (Vu q0) <|
 R (l0.1,false,())) (
 Dr <|
 Ix a l0.1 1 λt0=>
 A2 .u64 t0 λu0=>
 Ix a i0.1 1 λv0=>
 A2 .u64 v0 λx0=>
 Ix a i0.1 1 λy0=>
 St y0 (Vu u0) <|
 Ix a l0.1 1 λz0=>
 St z0 (Vu x0) <|
 e0 ((An (i0.1+1)),(An (l0.1-1)),())))) λa1=>
 Dr <|
 Br (decide ((i0.1:Int)<=l0.1)) (
 Ix a l0.1 1 λb1=>
 A2 .u64 b1 λc1=>
 Ix a b 1 λd1=>
 A2 .u64 d1 λe1=>
 Cl Pg 194 [(Vu c1),(Vu e1)] false [.sc .b] λf1=>
 a1 ((!f1.1),())) (
 a1 (false,()))) (f0.2.1,()))) λg1=>
 Dr <|
 Br (decide ((i0.1:Int)<=f0.2.1)) (
 Ix a i0.1 1 λi1=>
 A2 .u64 i1 λj1=>
 Ix a b 1 λk1=>
 A2 .u64 k1 λl1=>
 Cl Pg 194 [(Vu j1),(Vu l1)] false [.sc .b] λm1=>
 g1 (m1.1,())) (
 g1 (false,()))) (f0.1,())) ((An (m.1+1)),(An (p.1-1)),())))) λn1=>
 Dr <|
 Br (decide ((m.1:Int)<=p.1)) (
 Ix a p.1 1 λo1=>
 A2 .u64 o1 λp1=>
 Ix a b 1 λq1=>
 A2 .u64 q1 λr1=>
 Cl Pg 194 [(Vu p1),(Vu r1)] false [.sc .b] λs1=>
 n1 ((!s1.1),())) (
 n1 (false,()))) ((An (c-1)),()))) λt1=>
 Dr <|
 Br (decide ((m.1:Int)<=(An (c-1)))) (
 Ix a m.1 1 λu1=>
 A2 .u64 u1 λv1=>
 Ix a b 1 λx1=>
 A2 .u64 x1 λy1=>
 Cl Pg 194 [(Vu v1),(Vu y1)] false [.sc .b] λz1=>
 t1 (z1.1,())) (
 t1 (false,()))) ((An (b+1)),())
theorem DT (a b c d){R w}(h:CC a b c d R w):Cl Pg 196 [(Vs a),(Vi b),(Vi c),(Vi d)] true [.sc (.i .i64),.sc .b] R w:=
 ce (s' (s' (s' (q' (.block (.loop [(10,.sc (.i .i64))] (q' (q' (.join [(43,.sc .b)] l') (k' l' l')) (.block l')))) (q' (.block (.loop [(11,.sc (.i .i64))] (q' (q' (.join [(60,.sc .b)] l') (k' l' l')) (.block l')))) (q' (s' (k' (s' (s' l')) l')) (s' (s' (s' (q' (.block (.loop [(10,.sc (.i .i64)),(11,.sc (.i .i64))] (.block (q' (.block (.loop [(10,.sc (.i .i64))] (q' (q' (.join [(112,.sc .b)] l') (k' l' l')) (.block l')))) (q' (.block (.loop [(11,.sc (.i .i64))] (q' (q' (.join [(129,.sc .b)] l') (k' l' l')) (.block l')))) (q' (s' (k' l' l')) (s' (s' l')))))))) (s' (s' l')))))))))))) Tryz.func196 h
def LH (a:Int)(R:TR [.sc (.i .i64)]->Pr):Pr:=
 Jp (σ:=Int×Int×Unit) (λb=>
 Jp (σ:=Int×Int×Unit) (λc=>
 Jp (σ:=Int×Int×Unit) (λd=>
 IxS (BA [0,1,2,2,3,3,3,3,4,4,4,4,4,4,4,4,5,5,5,5,5,5,5,5,5,5,5,5,5,5,5,5,6,6,6,6,6,6,6,6,6,6,6,6,6,6,6,6,6,6,6,6,6,6,6,6,6,6,6,6,6,6,6,6,7,7,7,7,7,7,7,7,7,7,7,7,7,7,7,7,7,7,7,7,7,7,7,7,7,7,7,7,7,7,7,7,7,7,7,7,7,7,7,7,7,7,7,7,7,7,7,7,7,7,7,7,7,7,7,7,7,7,7,7,7,7,7,7,8,8,8,8,8,8,8,8,8,8,8,8,8,8,8,8,8,8,8,8,8,8,8,8,8,8,8,8,8,8,8,8,8,8,8,8,8,8,8,8,8,8,8,8,8,8,8,8,8,8,8,8,8,8,8,8,8,8,8,8,8,8,8,8,8,8,8,8,8,8,8,8,8,8,8,8,8,8,8,8,8,8,8,8,8,8,8,8,8,8,8,8,8,8,8,8,8,8,8,8,8,8,8,8,8,8,8,8,8,8,8,8,8,8,8,8,8,8,8,8,8,8,8,8,8,8,8,8]) (IntKind.u8.wrap (d.1)) λc7=>
 R ((An (d.2.1+(An (c7)))),())) λe=>
 Br (decide ((c.1:Int)>=256)) (
 AY ((0:Int)<=8) <|
 e ((IW .u64 c.1 8),(An (c.2.1+8)),())) (
 e (c.1,c.2.1,()))) λf=>
 Br (decide ((b.1:Int)>=65536)) (
 AY ((0:Int)<=16) <|
 f ((IW .u64 b.1 16),(An (b.2.1+16)),())) (
 f (b.1,b.2.1,()))) λg=>
 Br (decide ((a:Int)>=4294967296)) (
 AY ((0:Int)<=32) <|
 g ((IW .u64 a 32),32,())) (
 g (a,0,()))
theorem MB (a){R w}(h:LH a R w):Cl Pg 198 [(Vu a)] false [.sc (.i .i64)] R w:=
 ce (s' (q' (.join [(0,.sc (.i .u64)),(2,.sc (.i .i64))] (s' (k' (s' l') l'))) (q' (.join [(0,.sc (.i .u64)),(2,.sc (.i .i64))] (s' (k' (s' l') l'))) (q' (.join [(0,.sc (.i .u64)),(2,.sc (.i .i64))] (s' (k' (s' l') l'))) (s' l'))))) Tryz.func198 h
def Zl (R:TR K6'->Pr):Pr:=
 At #[(Vb false),(Vb false),(Vb false),(Vb false),(Vb false),.nilFunc,(Vb false),(Vb false),(Vb false),(Vb false),(Vb false),.nilFunc,(Vb false),(Vb false),(Vb false),(Vb false),(Vb false),.nilFunc,(Vb false),(Vb false),(Vb false),(Vb false),(Vb false),.nilFunc,(Vb false),(Vb false),(Vb false),(Vb false),(Vb false),.nilFunc,(Vb false),(Vb false),(Vb false),(Vb false),(Vb false),.nilFunc] 264 λa=>
 AY (((.func (.func 265) #[] #[]):Value).oneCell'=true) <|
 AY (((.func (.func 266) #[] #[]):Value).oneCell'=true) <|
 AY (((.func (.func 267) #[] #[]):Value).oneCell'=true) <|
 AY (((.func (.func 268) #[] #[]):Value).oneCell'=true) <|
 AY (((.func (.func 269) #[] #[]):Value).oneCell'=true) <|
 Sb5 a false false false false false <|
 St (a.add 5) .nilFunc <|
 Tb a 6 true <|
 Tb a 7 false <|
 Tb a 8 false <|
 Tb a 9 false <|
 Tb a 10 false <|
 St (a.add 11) (.func (.func 265) #[] #[]) <|
 Tb a 12 true <|
 Tb a 13 true <|
 Tb a 14 false <|
 Tb a 15 false <|
 Tb a 16 true <|
 St (a.add 17) (.func (.func 266) #[] #[]) <|
 Tb a 18 true <|
 Tb a 19 false <|
 Tb a 20 false <|
 Tb a 21 false <|
 Tb a 22 true <|
 St (a.add 23) (.func (.func 267) #[] #[]) <|
 Tb a 24 false <|
 Tb a 25 false <|
 Tb a 26 true <|
 Tb a 27 true <|
 Tb a 28 false <|
 St (a.add 29) (.func (.func 268) #[] #[]) <|
 Tb a 30 false <|
 Tb a 31 false <|
 Tb a 32 true <|
 Tb a 33 false <|
 Tb a 34 true <|
 St (a.add 35) (.func (.func 269) #[] #[]) <|
 Gq a λb c d e f g i j k l m n o p q r s t u v x y z a0 b0 c0 d0 e0 f0 g0 i0 j0 k0 l0 m0 n0=>
 R ((b,c,d,e,f,g,i,j,k,l,m,n,o,p,q,r,s,t,u,v,x,y,z,a0,b0,c0,d0,e0,f0,g0,i0,j0,k0,l0,m0,n0,()),())
theorem VS {R w}(h:Zl  R w):Cl Pg 199 [] false K6' R w:=
 ce (s' (s' l')) Tryz.func199 h
def EY (a:Sl)(R:TR [.sc .sl]->Pr):Pr:=
 Br (decide ((((a.len:Nat):Int):Int)<2)) (
 R (a,())) (
 Lp (σ:=Sl×Int×Unit) (λb c=>
 Br (decide ((c.2.1:Int)<((a.len:Nat):Int))) (
 Dr <|
 Ix a c.2.1 1 λd=>
 A2 .u64 d λe=>
 Ix a (An (c.2.1-1)) 1 λf=>
 A2 .u64 f λg=>
 Br ((e:Int)==g) (
 AY ((0:Int)<=c.2.1/\c.2.1<=((a.len:Nat):Int)) <|
 Lp (σ:=Int×Int×Unit) (λi j=>
 Br (decide ((j.2.1:Int)<(((a.len-(Int.toNat c.2.1)):Nat):Int))) (
 Jp (σ:=Int×Unit) (λk=>
 i (k.1,(An (j.2.1+1)),())) λl=>
 Dr <|
 Ix ⟨(A7 a.p a.cap (Int.toNat c.2.1) 1),(a.len-(Int.toNat c.2.1)),(a.cap-(Int.toNat c.2.1))⟩ j.2.1 1 λm=>
 A2 .u64 m λn=>
 Ix ⟨(A7 a.p a.cap (Int.toNat c.2.1) 1),(a.len-(Int.toNat c.2.1)),(a.cap-(Int.toNat c.2.1))⟩ (An (j.2.1-1)) 1 λo=>
 A2 .u64 o λp=>
 Br ((n:Int) !=p) (
 Ix ⟨(A7 a.p a.cap (Int.toNat c.2.1) 1),(a.len-(Int.toNat c.2.1)),(a.cap-(Int.toNat c.2.1))⟩ j.2.1 1 λq=>
 A2 .u64 q λr=>
 Ix a j.1 1 λs=>
 St s (Vu r) <|
 l ((An (j.1+1)),())) (
 l (j.1,()))) (
 AY ((0:Int)<=j.1/\j.1<=((a.len:Nat):Int)) <|
 Zf (zc Pg 32) ⟨(A7 a.p a.cap (Int.toNat j.1) 1),(a.len-(Int.toNat j.1)),(a.cap-(Int.toNat j.1))⟩ <|
 AY ((0:Int)<=j.1/\j.1<=((a.cap:Nat):Int)) <|
 R (⟨(A7 a.p a.cap 0 1),((Int.toNat j.1)-0),(a.cap-0)⟩,()))) (c.2.1,1,())) (
 b (c.1,(An (c.2.1+1)),()))) (
 R (a,()))) (⟨none,0,0⟩,1,()))
theorem Hi (a){R w}(h:EY a R w):Cl Pg 200 [(Vs a)] false [.sc .sl] R w:=
 ce (s' (q' (s' (k' (s' l') l')) (q' (s' (.block (.loop [(2,.sc .sl),(3,.sc (.i .i64))] (q' (s' (k' l' l')) (q' (.block (s' (k' (s' (q' (s' (.block (.loop [(3,.sc (.i .i64)),(5,.sc (.i .i64))] (q' (s' (k' l' l')) (q' (.join [(3,.sc (.i .i64))] (.block (s' (k' (s' l') l')))) l'))))) (s' (s' l')))) l'))) l'))))) (s' l')))) Tryz.func200 h
theorem GQ (p_s:Sl)(p_del:Value){R:TR [.sc .sl]->Pr}{w:World}(h:Fp Pg 101 4 (zc Pg 146) (Ail [(.i .u64),.s,.s,.b] #[(.int .u64 0),(.string (BA [])),(.string (BA [])),(.bool false)] 146) p_s p_del R w):Cl Pg 201 [(.slice p_s.p p_s.len p_s.cap),p_del] false [.sc .sl] R w:=
 AF Tryz.checked.mixed (.seq .leaf (.seq .leaf (.seq (.seq .leaf (.cond (.seq .leaf .leaf) .leaf)) (.seq (.seq .leaf (.block (.loop [(5,.sc (.i .i64)),(6,.sc (.i .i64))] (.seq (.seq .leaf (.cond .leaf .leaf)) (.seq (.join [(5,.sc (.i .i64))] (.block (.seq .leaf (.seq .leaf (.cond (.seq .leaf .leaf) .leaf))))) .leaf))))) (.seq .leaf (.seq .leaf .leaf)))))) Tryz.func201 (by kernel_rfl) (by kernel_rfl) h
theorem Gd (p_s:Sl)(p_f:Value){R:TR [.sc (.i .i64)]->Pr}{w:World}(h:BG Pg 1 (ldK (.i .u64)) p_s p_f R w):Cl Pg 203 [(.slice p_s.p p_s.len p_s.cap),p_f] false [.sc (.i .i64)] R w:=
 AF Tryz.checked.mixed (.seq .leaf (.seq (.seq .leaf (.block (.loop [(4,.sc (.i .i64)),(8,.sc (.i .i64))] (.seq .leaf (.seq (.cond .leaf .leaf) (.seq (.block (.seq .leaf (.seq .leaf (.cond (.seq .leaf .leaf) .leaf)))) .leaf)))))) (.seq .leaf .leaf))) Tryz.func203 (by kernel_rfl) (by kernel_rfl) h
theorem Eu (p_x:Sl)(p_target:Int)(p_cmp:Value){R:TR [.sc (.i .i64),.sc .b]->Pr}{w:World}(h:B2 Pg 4 (ldA [(.i .u64),.sl,.sl,(.i .i64)]) p_x (.int .u64 p_target) p_cmp R w):Cl Pg 204 [(.slice p_x.p p_x.len p_x.cap),(.int .u64 p_target),p_cmp] true [.sc (.i .i64),.sc .b] R w:=
 AF Tryz.checked.mixed (.seq .leaf (.seq .leaf (.seq .leaf (.seq (.block (.loop [(9,.sc (.i .i64)),(10,.sc (.i .i64))] (.seq (.seq .leaf (.cond .leaf .leaf)) (.block (.seq .leaf (.seq .leaf (.cond .leaf .leaf))))))) (.seq .leaf .leaf))))) Tryz.func204 (by kernel_rfl) (by kernel_rfl) h
def EL (a:Int)(b c:Sl)(d e:Int)(R:TR [.sc (.i .i64)]->Pr):Pr:=
 At (RL a b c d) 114 λf=>
 Lu f 0 λg=>
 Cl Pg 71 [(Vu g),(Vu e)] false [.sc (.i .i64)] λi=>
 R (i.1,())
theorem GB (a b c d e){R w}(h:EL a b c d e R w):Cl Pg 205 [(.agg (RL a b c d)),(Vu e)] false [.sc (.i .i64)] R w:=
 ce (s' (s' l')) Tryz.func205 h
theorem Es (p_x:Sl)(p_target:Int)(p_cmp:Value){R:TR [.sc (.i .i64),.sc .b]->Pr}{w:World}(h:B2 Pg 2 (ldA [(.i .u64),.sl]) p_x (.int .u64 p_target) p_cmp R w):Cl Pg 206 [(.slice p_x.p p_x.len p_x.cap),(.int .u64 p_target),p_cmp] true [.sc (.i .i64),.sc .b] R w:=
 AF Tryz.checked.mixed (.seq .leaf (.seq .leaf (.seq .leaf (.seq (.block (.loop [(9,.sc (.i .i64)),(10,.sc (.i .i64))] (.seq (.seq .leaf (.cond .leaf .leaf)) (.block (.seq .leaf (.seq .leaf (.cond .leaf .leaf))))))) (.seq .leaf .leaf))))) Tryz.func206 (by kernel_rfl) (by kernel_rfl) h
def G3 (a:Int)(b:Sl)(c:Int)(R:TR [.sc (.i .i64)]->Pr):Pr:=
 At #[(Vu a),(Vs b)] 60 λd=>
 Lu d 0 λe=>
 Cl Pg 71 [(Vu e),(Vu c)] false [.sc (.i .i64)] λf=>
 R (f.1,())
theorem IU (a b c){R w}(h:G3 a b c R w):Cl Pg 207 [(.agg #[(Vu a),(Vs b)]),(Vu c)] false [.sc (.i .i64)] R w:=
 ce (s' (s' l')) Tryz.func207 h
def Zn (a b:Sl)(R:TR [.sc .sl,.sc .sl,.sc (.i .i64)]->Pr):Pr:=
 Cl Pg 271 [(Vs a)] false [.sc (.i .i64)] λc=>
 Br ((c.1:Int) !=0) (
 R (⟨none,0,0⟩,⟨none,0,0⟩,c.1,())) (
 Cl Pg 224 [(Vs b)] false [.sc (.i .i64)] λd=>
 Br ((d.1:Int) !=0) (
 R (⟨none,0,0⟩,⟨none,0,0⟩,d.1,())) (
 Cl Pg 272 [(Vs a)] false [.sc .sl] λe=>
 Lp (σ:=Sl×Sl×Int×Unit) (λf g=>
 Br (decide ((g.2.2.1:Int)<((b.len:Nat):Int))) (
 Ix b g.2.2.1 6 λi=>
 AN i λj k l m n o=>
 At Gx 81 λp=>
 Gh p j k l m n o <|
 At Nw 83 λq=>
 Dr <|
 Li p 0 λr=>
 AN p λs t u v x y=>
 Cl Pg 199 [] false K6' λz=>
 AH (Li p 0 λa0=>
 Ls p 1 λb0=>
 Ls p 2 λc0=>
 Ls p 3 λd0=>
 Ls p 4 λe0=>
 Li p 5 λf0=>
 λ_=>((.agg (Ar a0 b0 c0 d0 e0 f0)):Value)=(.agg (Ar s t u v x y))) <|
 AH (Li p 0 λg0=>
 λ_=>((Vi g0):Value)=(Vi r)) <|
 IxA (Cs [.b,.b,.b,.b,.b,.v,.b,.b,.b,.b,.b,.v,.b,.b,.b,.b,.b,.v,.b,.b,.b,.b,.b,.v,.b,.b,.b,.b,.b,.v,.b,.b,.b,.b,.b,.v] z.1) 6 r 6 λg30=>
 TyA [.b,.b,.b,.b,.b,.v] g30 λy31=>
 AB Pg y31.2.2.2.2.2.1 [(Vs g.1),(.agg (Ar s t u v x y))] true [.sc .sl,.ag [.b,.s,.sl]] λi0=>
 AgV q i0.2.1.1 i0.2.1.2.1 i0.2.1.2.2.1 <|
 HX q λj0 k0 l0=>
 At (Aat j0 k0 l0) 83 λm0=>
 App 83 3 48 (zc Pg 83) g.2.1 1 (BH (some m0) 1 3) λn0=>
 f (i0.1,n0,(An (g.2.2.1+1)),())) (
 R (g.1,g.2.1,0,()))) (e.1,⟨none,0,0⟩,0,())))
theorem VD (a b){R w}(h:Zn a b R w):Cl Pg 208 [(Vs a),(Vs b)] true [.sc .sl,.sc .sl,.sc (.i .i64)] R w:=
 ce (s' (q' (s' (s' (k' (s' l') l'))) (q' (s' (s' (k' (s' l') l'))) (s' (s' (q' (s' (.block (.loop [(0,.sc .sl),(9,.sc .sl),(27,.sc (.i .i64))] (s' (q' (k' l' l') (q' (.block (s' (s' (s' l')))) l')))))) (s' l'))))))) Tryz.func208 h
def UU (a:Sl)(b:Int)(R:TR [.ag [.s,.s]]->Pr):Pr:=
 At #[(Vt (BA [])),(Vt (BA []))] 37 λc=>
 Br (((An (b+1)):Int)==((a.len:Nat):Int)) (
 Ix a b 2 λd=>
 Ls d 0 λe=>
 Tt c 0 e <|
 St (c.add 1) (Vt (BA [])) <|
 Ls c 0 λf=>
 Ls c 1 λg=>
 R ((f,g,()),())) (
 Dr <|
 Ix a b 2 λi=>
 Ls i 0 λj=>
 Ix a (An (b+1)) 2 λk=>
 Ls k 0 λl=>
 Tt c 0 j <|
 Tt c 1 l <|
 Ls c 0 λm=>
 Ls c 1 λn=>
 R ((m,n,()),()))
theorem S4 (a b){R w}(h:UU a b R w):Cl Pg 209 [(Vs a),(Vi b)] false [.ag [.s,.s]] R w:=
 ce (s' (q' (s' (k' (s' l') l')) (s' l'))) Tryz.func209 h
def P2 (a:Sl)(b c:ByteArray)(R:TR [.sc .b]->Pr):Pr:=
 At #[(Vt b),(Vt c)] 37 λd=>
 Cl Pg 48 [(Vs a),(.func (.func 273) #[] #[(Vp (some d))])] false [.sc .b] λe=>
 R (e.1,())
theorem PL (a b c){R w}(h:P2 a b c R w):Cl Pg 210 [(Vs a),(.agg #[(Vt b),(Vt c)])] false [.sc .b] R w:=
 ce (s' (s' l')) Tryz.func210 h
theorem Kj (p_s:Sl)(p_i:Int)(p_v:Sl){R:TR [.sc .sl]->Pr}{w:World}(h:Fj Pg 275 276 60 2 32 (zc Pg 60) p_s p_i p_v R w):Cl Pg 213 [(.slice p_s.p p_s.len p_s.cap),(.int .i64 p_i),(.slice p_v.p p_v.len p_v.cap)] false [.sc .sl] R w:=
 AF Tryz.checked.mixed (.seq .leaf (.seq .leaf (.seq .leaf (.seq (.seq .leaf (.cond (.seq .leaf .leaf) .leaf)) (.seq .leaf (.seq (.seq .leaf (.cond (.seq .leaf .leaf) .leaf)) (.seq (.seq .leaf (.cond (.seq .leaf (.seq .leaf (.seq .leaf (.seq .leaf .leaf)))) .leaf)) (.seq .leaf (.seq (.seq .leaf (.cond (.seq .leaf (.seq .leaf (.seq .leaf .leaf))) .leaf)) (.seq .leaf (.seq .leaf (.seq .leaf .leaf)))))))))))) Tryz.func213 (by kernel_rfl) (by kernel_rfl) h
def Ii (a:Option Addr)(b c:Sl)(R:TR []->Pr):Pr:=
 Lp (σ:=Int×Unit) (λd e=>
 Br (decide ((e.1:Int)<((c.len:Nat):Int))) (
 Ix c e.1 1 λf=>
 A2 .u64 f λg=>
 Nn a λi=>
 Ll i 24 λj=>
 At #[(Vu g),(Vb true)] 282 λk=>
 App 282 2 16 (zc Pg 282) j 1 (BH (some k) 1 2) λl=>
 Nn a λm=>
 Ts m 24 l <|
 d ((An (e.1+1)),())) (
 Lp (σ:=Int×Unit) (λn o=>
 Br (decide ((o.1:Int)<((b.len:Nat):Int))) (
 Ix b o.1 1 λp=>
 A2 .u64 p λq=>
 Nn a λr=>
 Ll r 24 λs=>
 At #[(Vu q),(Vb false)] 282 λt=>
 App 282 2 16 (zc Pg 282) s 1 (BH (some t) 1 2) λu=>
 Nn a λv=>
 Ts v 24 u <|
 n ((An (o.1+1)),())) (
 R ())) (0,()))) (0,())
theorem KM (a b c){R w}(h:Ii a b c R w):Cl Pg 214 [(Vp a),(Vs b),(Vs c)] true [] R w:=
 ce (q' (s' (.block (.loop [(12,.sc (.i .i64))] (s' (q' (k' l' l') (q' (.block (s' l')) l')))))) (s' (.block (.loop [(30,.sc (.i .i64))] (s' (q' (k' l' l') (q' (.block (s' l')) l'))))))) Tryz.func214 h
def FA (a:Option Addr)(b:Int)(R:TR []->Pr):Pr:=
 Nn a λc=>
 Hr c 18 λd=>
 Cl Pg 277 [(Vp d),(Vu b)] true [.sc .sl,.sc .sl] λe=>
 Cl Pg 214 [(Vp a),(Vs e.1),(Vs e.2.1)] true [] λf=>
 R ()
theorem HR (a b){R w}(h:FA a b R w):Cl Pg 215 [(Vp a),(Vu b)] true [] R w:=
 ce (l') Tryz.func215 h
def Dy (a:Sl)(b:Int)(R:TR [.sc (.i .i64),.sc .b]->Pr):Pr:=
 Lp (σ:=Int×Int×Unit) (λc d=>
 Br (decide ((d.1:Int)<d.2.1)) (
 AY ((0:Int)<=1) <|
 Ix a (An ((IW .u64 (IntKind.u64.wrap ((An (d.1+d.2.1)))) 1))) 1 λe=>
 A2 .u64 e λf=>
 Cl Pg 194 [(Vu f),(Vu b)] false [.sc .b] λg=>
 Br g.1 (
 c ((An ((An ((IW .u64 (IntKind.u64.wrap ((An (d.1+d.2.1)))) 1)))+1)),d.2.1,())) (
 c (d.1,(An ((IW .u64 (IntKind.u64.wrap ((An (d.1+d.2.1)))) 1))),()))) (
 Br (decide ((d.1:Int)<((a.len:Nat):Int))) (
 Ix a d.1 1 λi=>
 A2 .u64 i λj=>
 Br ((j:Int)==b) (
 R (d.1,true,())) (
 Ix a d.1 1 λk=>
 A2 .u64 k λl=>
 Cl Pg 278 [(Vu l)] false [.sc .b] λm=>
 Br m.1 (
 Cl Pg 278 [(Vu b)] false [.sc .b] λn=>
 R (d.1,n.1,())) (
 R (d.1,false,())))) (
 R (d.1,false,())))) (0,((a.len:Nat):Int),())
theorem ET (a b){R w}(h:Dy a b R w):Cl Pg 216 [(Vs a),(Vu b)] true [.sc (.i .i64),.sc .b] R w:=
 ce (s' (s' (s' (q' (.block (.loop [(7,.sc (.i .i64)),(8,.sc (.i .i64))] (q' (s' (k' l' l')) (.block (s' (s' (k' l' l'))))))) (s' l'))))) Tryz.func216 h
theorem Ig (p_s:Sl)(p_i:Int)(p_v:Sl){R:TR [.sc .sl]->Pr}{w:World}(h:Fj Pg 279 280 32 1 8 (zc Pg 32) p_s p_i p_v R w):Cl Pg 217 [(.slice p_s.p p_s.len p_s.cap),(.int .i64 p_i),(.slice p_v.p p_v.len p_v.cap)] false [.sc .sl] R w:=
 AF Tryz.checked.mixed (.seq .leaf (.seq .leaf (.seq .leaf (.seq (.seq .leaf (.cond (.seq .leaf .leaf) .leaf)) (.seq .leaf (.seq (.seq .leaf (.cond (.seq .leaf .leaf) .leaf)) (.seq (.seq .leaf (.cond (.seq .leaf (.seq .leaf (.seq .leaf (.seq .leaf .leaf)))) .leaf)) (.seq .leaf (.seq (.seq .leaf (.cond (.seq .leaf (.seq .leaf (.seq .leaf .leaf))) .leaf)) (.seq .leaf (.seq .leaf (.seq .leaf .leaf)))))))))))) Tryz.func217 (by kernel_rfl) (by kernel_rfl) h
def NM (a:Sl)(b:Int)(R:TR N6->Pr):Pr:=
 At #[(Vt (BA [])),(Vt (BA []))] 37 λc=>
 Cl Pg 44 [(Vs a)] false [.sc (.i .i64)] λd=>
 Br ((d.1:Int) !=0) (
 St (c.add 0) (Vt (BA [])) <|
 St (c.add 1) (Vt (BA [])) <|
 Ls c 0 λe=>
 Ls c 1 λf=>
 R ((e,f,()),d.1,())) (
 Jp (σ:=Bool×Unit) (λg=>
 Br g.1 (
 St (c.add 0) (Vt (BA [])) <|
 St (c.add 1) (Vt (BA [])) <|
 Ls c 0 λi=>
 Ls c 1 λj=>
 R ((i,j,()),5,())) (
 Cl Pg 209 [(Vs a),(Vi b)] false [.ag [.s,.s]] λk=>
 Tt c 0 k.1.1 <|
 Tt c 1 k.1.2.1 <|
 Ls c 0 λl=>
 Ls c 1 λm=>
 R ((l,m,()),0,()))) λn=>
 Br (decide ((b:Int)<0)) (
 n (true,())) (
 n ((decide ((b:Int)>=((a.len:Nat):Int))),())))
theorem On (a b){R w}(h:NM a b R w):Cl Pg 218 [(Vs a),(Vi b)] true N6 R w:=
 ce (s' (q' (s' (s' (k' (s' l') l'))) (q' (q' (.join [(20,.sc .b)] l') (k' (s' l') l')) (s' l')))) Tryz.func218 h
def Iu (a:Option Addr)(R:TR [.sc .sl]->Pr):Pr:=
 Nn a λb=>
 Hr b 19 λc=>
 Jp (σ:=Sl×Unit) (λd=>
 Jp (σ:=Sl×Sl×Unit) (λe=>
 Jp (σ:=Sl×Unit) (λf=>
 R (f.1,())) λg=>
 Nn c λi=>
 Lb i 7 λj=>
 Br j (
 Nn c λk=>
 Ll k 9 λl=>
 Nn c λm=>
 Ll m 9 λn=>
 AY ((0:Int)<=(if((An (6-((e.2.1.len:Nat):Int))):Int)<((l.len:Nat):Int)then(An (6-((e.2.1.len:Nat):Int)))else((l.len:Nat):Int))/\(if((An (6-((e.2.1.len:Nat):Int))):Int)<((l.len:Nat):Int)then(An (6-((e.2.1.len:Nat):Int)))else((l.len:Nat):Int))<=((n.cap:Nat):Int)) <|
 App 81 6 80 (zc Pg 81) e.2.1 ((Int.toNat (if((An (6-((e.2.1.len:Nat):Int))):Int)<((l.len:Nat):Int)then(An (6-((e.2.1.len:Nat):Int)))else((l.len:Nat):Int)))-0) (BH (A7 n.p n.cap 0 6) ((Int.toNat (if((An (6-((e.2.1.len:Nat):Int))):Int)<((l.len:Nat):Int)then(An (6-((e.2.1.len:Nat):Int)))else((l.len:Nat):Int)))-0) 6) λo=>
 Nn c λp=>
 Ll p 9 λq=>
 AY ((0:Int)<=(if((An (6-((e.2.1.len:Nat):Int))):Int)<((l.len:Nat):Int)then(An (6-((e.2.1.len:Nat):Int)))else((l.len:Nat):Int))/\(if((An (6-((e.2.1.len:Nat):Int))):Int)<((l.len:Nat):Int)then(An (6-((e.2.1.len:Nat):Int)))else((l.len:Nat):Int))<=((q.len:Nat):Int)) <|
 Cl Pg 60 [(.slice (A7 q.p q.cap (Int.toNat (if((An (6-((e.2.1.len:Nat):Int))):Int)<((l.len:Nat):Int)then(An (6-((e.2.1.len:Nat):Int)))else((l.len:Nat):Int))) 6) (q.len-(Int.toNat (if((An (6-((e.2.1.len:Nat):Int))):Int)<((l.len:Nat):Int)then(An (6-((e.2.1.len:Nat):Int)))else((l.len:Nat):Int)))) (q.cap-(Int.toNat (if((An (6-((e.2.1.len:Nat):Int))):Int)<((l.len:Nat):Int)then(An (6-((e.2.1.len:Nat):Int)))else((l.len:Nat):Int)))))] false [.sc .sl] λr=>
 Nn c λs=>
 Ts s 9 r.1 <|
 g (o,())) (
 g (e.2.1,()))) λt=>
 Nn c λu=>
 Lb u 7 λv=>
 Br (!v) (
 Dr <|
 Nn a λx=>
 LJ (x.add 20) λy=>
 Nn c λz=>
 Ls z 10 λa0=>
 Nn c λb0=>
 Ls (b0.add 2) 1 λc0=>
 Nl y λv28=>
 Inv Pg y "Scan" [(.agg #[(Vt a0), (Vt c0)]), (Vi (An (6 - ((d.1.len : Nat) : Int))))] true [.sc .sl, .sc (.i .i64)] fun d0 =>
 Br ((d0.2.1:Int) !=0) (
 Nn a λe0=>
 Ti e0 25 d0.2.1 <|
 R (⟨none,0,0⟩,())) (
 Lp (σ:=Sl×Int×Unit) (λf0 g0=>
 Br (decide ((g0.2.1:Int)<((d0.1.len:Nat):Int))) (
 Ix d0.1 g0.2.1 2 λi0=>
 Ls i0 0 λj0=>
 Ls i0 1 λk0=>
 At #[(Vt (BA [])),(Vt (BA []))] 111 λl0=>
 Tt l0 0 j0 <|
 Tt l0 1 k0 <|
 Ls l0 0 λm0=>
 Ls l0 1 λn0=>
 At (Ar 2 m0 n0 (BA []) (BA []) 0) 81 λo0=>
 App 81 6 80 (zc Pg 81) g0.1 1 (BH (some o0) 1 6) λp0=>
 Ls l0 0 λq0=>
 Cl Pg 100 [(Vt q0)] true N6 λr0=>
 At #[(Vt (BA [])),(Vt (BA []))] 37 λs0=>
 Tt s0 0 r0.1.1 <|
 Tt s0 1 r0.1.2.1 <|
 Ls s0 1 λt0=>
 Nn c λu0=>
 Tt u0 10 t0 <|
 f0 (p0,(An (g0.2.1+1)),())) (
 Dr <|
 Br (decide ((((d0.1.len:Nat):Int):Int)<(An (6-((d.1.len:Nat):Int))))) (
 Nn c λv0=>
 Tb v0 7 true <|
 t (⟨none,0,0⟩,g0.1,())) (
 Nn c λx0=>
 Ls x0 10 λy0=>
 Br (seq y0 (BA [])) (
 Nn c λz0=>
 Tb z0 7 true <|
 t (⟨none,0,0⟩,g0.1,())) (
 Nn c λa1=>
 Ls (a1.add 2) 1 λb1=>
 Br (!(seq b1 (BA []))) (
 Nn c λc1=>
 Ls c1 10 λd1=>
 Nn c λe1=>
 Ls (e1.add 2) 1 λf1=>
 Nn c λg1=>
 St (g1.add 7) (Vb (!(slt d1 f1))) <|
 t (⟨none,0,0⟩,g0.1,())) (
 Nn c λi1=>
 Tb i1 7 false <|
 t (⟨none,0,0⟩,g0.1,())))))) (d.1,0,()))) (
 t (⟨none,0,0⟩,d.1,()))) λj1=>
 Nn c λk1=>
 Lu k1 1 λl1=>
 Br ((l1:Int)==0) (
 Dr <|
 Nn c λm1=>
 Ls (m1.add 2) 0 λn1=>
 Nn c λo1=>
 Ls (o1.add 2) 1 λp1=>
 At (Ar 5 (BA []) (BA []) n1 p1 0) 81 λq1=>
 App 81 6 80 (zc Pg 81) ⟨none,0,0⟩ 1 (BH (some q1) 1 6) λr1=>
 j1 (r1,())) (
 j1 (⟨none,0,0⟩,()))
theorem L6 (a){R w}(h:Iu a R w):Cl Pg 219 [(Vp a)] false [.sc .sl] R w:=
 ce (s' (s' (s' (q' (.join [(4,.sc .sl)] (s' (k' l' l'))) (q' (.join [(2,.sc .sl),(4,.sc .sl)] (s' (k' (s' (s' (q' (s' (k' (s' (s' l')) l')) (q' (s' (.block (.loop [(4,.sc .sl),(73,.sc (.i .i64))] (s' (q' (k' l' l') (q' (.block (s' (s' (s' l')))) l')))))) l')))) l'))) (q' (.join [(4,.sc .sl)] (s' (k' (s' (s' l')) l'))) (s' l'))))))) Tryz.func219 h
def Fy (a:Int)(b:Sl)(c:Addr)(R:TR [.sc .b]->Pr):Pr:=
 At #[(Vu a),(Vs b)] 60 λd=>
 Dr <|
 Ll d 1 λe=>
 Di c λf=>
 Nn f λg=>
 Ls (g.add 2) 0 λi=>
 Ls (g.add 2) 1 λj=>
 Cl Pg 210 [(Vs e),(.agg #[(Vt i),(Vt j)])] false [.sc .b] λk=>
 R (k.1,())
theorem HN (a b c){R w}(h:Fy a b c R w):Cl Pg 220 [(.agg #[(Vu a),(Vs b)]),(Vp (some c))] false [.sc .b] R w:=
 ce (s' (s' l')) Tryz.func220 h
theorem F4 (p_s:Sl)(p_f:Value){R:TR [.sc .b]->Pr}{w:World}(h:B7 Pg 281 p_s p_f R w):Cl Pg 221 [(.slice p_s.p p_s.len p_s.cap),p_f] false [.sc .b] R w:=
 AF Tryz.checked.mixed (.seq .leaf (.seq .leaf .leaf)) Tryz.func221 (by kernel_rfl) (by kernel_rfl) h
def F3 (a:Int)(b c:Sl)(d:Int)(e:Addr)(R:TR [.sc .b]->Pr):Pr:=
 At (RL a b c d) 114 λf=>
 Dr <|
 Ll f 1 λg=>
 Di e λi=>
 Nn i λj=>
 Ls (j.add 2) 0 λk=>
 Ls (j.add 2) 1 λl=>
 Cl Pg 210 [(Vs g),(.agg #[(Vt k),(Vt l)])] false [.sc .b] λm=>
 R (m.1,())
theorem HP (a b c d e){R w}(h:F3 a b c d e R w):Cl Pg 222 [(.agg (RL a b c d)),(Vp (some e))] false [.sc .b] R w:=
 ce (s' (s' l')) Tryz.func222 h
theorem GD (p_s:Sl)(p_f:Value){R:TR [.sc (.i .i64)]->Pr}{w:World}(h:BG Pg 2 (ldA [.s,.s]) p_s p_f R w):Cl Pg 223 [(.slice p_s.p p_s.len p_s.cap),p_f] false [.sc (.i .i64)] R w:=
 AF Tryz.checked.mixed (.seq .leaf (.seq (.seq .leaf (.block (.loop [(4,.sc (.i .i64)),(8,.sc (.i .i64))] (.seq .leaf (.seq (.cond .leaf .leaf) (.seq (.block (.seq .leaf (.seq .leaf (.cond (.seq .leaf .leaf) .leaf)))) .leaf)))))) (.seq .leaf .leaf))) Tryz.func223 (by kernel_rfl) (by kernel_rfl) h
def AeE (a:Sl)(R:TR [.sc (.i .i64)]->Pr):Pr:=
 Lp (σ:=Int×Int×Unit) (λb c=>
 Br (decide ((c.2.1:Int)<((a.len:Nat):Int))) (
 Ix a c.2.1 6 λd=>
 AN d λe f g i j k=>
 At Gx 81 λl=>
 Gh l e f g i j k <|
 AN l λm n o p q r=>
 Cl Pg 50 [(.agg (Ar m n o p q r))] false [.sc (.i .i64)] λs=>
 Br ((s.1:Int) !=0) (
 R (s.1,())) (
 b (c.1,(An (c.2.1+1)),()))) (
 R (0,()))) (0,0,())
theorem YX (a){R w}(h:AeE a R w):Cl Pg 224 [(Vs a)] false [.sc (.i .i64)] R w:=
 ce (s' (q' (s' (.block (.loop [(2,.sc (.i .i64)),(8,.sc (.i .i64))] (s' (q' (k' l' l') (q' (.block (s' (s' (s' (k' (s' l') l'))))) l')))))) (s' l'))) Tryz.func224 h
def MW (a b:ByteArray)(R:TR [.sc .b]->Pr):Pr:=
 At #[(Vt a),(Vt b)] 111 λc=>
 Ls c 0 λd=>
 Cl Pg 93 [(Vt d)] false [.sc (.i .i64)] λe=>
 Br ((e.1:Int) !=0) (
 R (true,())) (
 Ls c 1 λf=>
 R ((decide ((((f.size:Nat):Int):Int)>16)),()))
theorem Nx (a b){R w}(h:MW a b R w):Cl Pg 225 [(.agg #[(Vt a),(Vt b)])] false [.sc .b] R w:=
 ce (s' (s' l')) Tryz.func225 h
theorem EU (p_s:Sl)(p_f:Value){R:TR [.sc .b]->Pr}{w:World}(h:B7 Pg 282 p_s p_f R w):Cl Pg 226 [(.slice p_s.p p_s.len p_s.cap),p_f] false [.sc .b] R w:=
 AF Tryz.checked.mixed (.seq .leaf (.seq .leaf .leaf)) Tryz.func226 (by kernel_rfl) (by kernel_rfl) h
def ML (a:Bool)(b:ByteArray)(c:Sl)(d:Addr)(R:TR [.sc .b]->Pr):Pr:=
 At (Aat a b c) 83 λe=>
 Ls e 1 λf=>
 Br (decide ((((f.size:Nat):Int):Int)>16)) (
 R (true,())) (
 Ll e 2 λg=>
 Br (decide ((((g.len:Nat):Int):Int)>4)) (
 R (true,())) (
 Ll e 2 λi=>
 LJ d λj=>
 Cl Pg 228 [(Vs i),j] false [.sc .b] λk=>
 R (k.1,())))
theorem Nt (a b c d){R w}(h:ML a b c d R w):Cl Pg 227 [(.agg (Aat a b c)),(Vp (some d))] false [.sc .b] R w:=
 ce (s' (s' l')) Tryz.func227 h
theorem Fz (p_s:Sl)(p_f:Value){R:TR [.sc .b]->Pr}{w:World}(h:B7 Pg 283 p_s p_f R w):Cl Pg 228 [(.slice p_s.p p_s.len p_s.cap),p_f] false [.sc .b] R w:=
 AF Tryz.checked.mixed (.seq .leaf (.seq .leaf .leaf)) Tryz.func228 (by kernel_rfl) (by kernel_rfl) h
def Ur (a:Int)(b c d e:ByteArray)(f:Int)(R:TR [.sc .b]->Pr):Pr:=
 At (Ar a b c d e f) 81 λg=>
 AN g λi j k l m n=>
 Cl Pg 50 [(.agg (Ar i j k l m n))] false [.sc (.i .i64)] λo=>
 R (((o.1:Int) !=0),())
theorem S8 (a b c d e f){R w}(h:Ur a b c d e f R w):Cl Pg 229 [(.agg (Ar a b c d e f))] false [.sc .b] R w:=
 ce (s' (s' l')) Tryz.func229 h
def Xd (a:Int)(R:TR [.sc .sl]->Pr):Pr:=
 Lp (σ:=Int×Sl×Unit) (λb c=>
 Br (decide ((c.1:Int)>=128)) (
 At #[(.int .u8 (ior .u8 (IntKind.u8.wrap (c.1)) 128))] 5 λd=>
 App 5 1 1 (zc Pg 5) c.2.1 1 (BH (some d) 1 1) λe=>
 AY ((0:Int)<=7) <|
 b ((IW .u64 c.1 7),e,())) (
 At #[(.int .u8 (IntKind.u8.wrap (c.1)))] 5 λf=>
 App 5 1 1 (zc Pg 5) c.2.1 1 (BH (some f) 1 1) λg=>
 R (g,()))) (a,⟨none,0,0⟩,())
theorem Vw (a){R w}(h:Xd a R w):Cl Pg 231 [(Vu a)] false [.sc .sl] R w:=
 ce (s' (s' (q' (.block (.loop [(0,.sc (.i .u64)),(3,.sc .sl)] (q' (s' (k' l' l')) (.block (s' l'))))) (s' l')))) Tryz.func231 h
def Ud (a:Option Addr)(b:Addr)(R:TR [.sc .b]->Pr):Pr:=
 LJ b λc=>
 AB Pg c [(Vp a)] false [.sc .p] λd=>
 Nn d.1 λe=>
 A2 .u64 e λf=>
 R (((f:Int)==0),())
theorem SA (a b){R w}(h:Ud a b R w):Cl Pg 234 [(Vp a),(Vp (some b))] false [.sc .b] R w:=
 ce (s' (s' l')) Tryz.func234 h
def Qi (a:Option Addr)(b:Addr)(R:TR [.sc .b]->Pr):Pr:=
 LJ b λc=>
 AB Pg c [(Vp a)] false [.sc .p] λd=>
 Nn d.1 λe=>
 A2 .i64 e λf=>
 R (((f:Int)==0),())
theorem Px (a b){R w}(h:Qi a b R w):Cl Pg 238 [(Vp a),(Vp (some b))] false [.sc .b] R w:=
 ce (s' (s' l')) Tryz.func238 h
def UE (a:ByteArray)(R:TR [.sc .sl]->Pr):Pr:=
 Cl Pg 231 [(Vu (IntKind.u64.wrap (((a.size:Nat):Int))))] false [.sc .sl] λb=>
 App 5 1 1 (zc Pg 5) b.1 a.size (Ais a a.size) λc=>
 R (c,())
theorem S5 (a){R w}(h:UE a R w):Cl Pg 240 [(Vt a)] false [.sc .sl] R w:=
 ce (s' (s' l')) Tryz.func240 h
def MJ (a:Option Addr)(b:Addr)(R:TR [.sc .b]->Pr):Pr:=
 LJ b λc=>
 AB Pg c [(Vp a)] false [.sc .p] λd=>
 Nn d.1 λe=>
 DN e λf=>
 R (((((f.len:Nat):Int):Int)==0),())
theorem ND (a b){R w}(h:MJ a b R w):Cl Pg 245 [(Vp a),(Vp (some b))] false [.sc .b] R w:=
 ce (s' (s' l')) Tryz.func245 h
def Hq (a:Option Addr)(b:Addr)(R:TR [.sc .b]->Pr):Pr:=
 LJ b λc=>
 AB Pg c [(Vp a)] false [.sc .p] λd=>
 Nn d.1 λe=>
 DN e λf=>
 R (((((f.len:Nat):Int):Int)==0),())
theorem Jx (a b){R w}(h:Hq a b R w):Cl Pg 248 [(Vp a),(Vp (some b))] false [.sc .b] R w:=
 ce (s' (s' l')) Tryz.func248 h
def Ik (a:Option Addr)(b:Addr)(R:TR [.sc .b]->Pr):Pr:=
 LJ b λc=>
 AB Pg c [(Vp a)] false [.sc .p] λd=>
 Nn d.1 λe=>
 DN e λf=>
 R (((((f.len:Nat):Int):Int)==0),())
theorem K6 (a b){R w}(h:Ik a b R w):Cl Pg 251 [(Vp a),(Vp (some b))] false [.sc .b] R w:=
 ce (s' (s' l')) Tryz.func251 h
def Hu (a:Option Addr)(b:Sl)(R:TR []->Pr):Pr:=
 Cl Pg 285 [(Vp a),(Vs b),(.func (.func 258) #[(Vp a)] #[])] true [] λc=>
 R ()
theorem Js (a b){R w}(h:Hu a b R w):Cl Pg 252 [(Vp a),(Vs b)] true [] R w:=
 ce (l') Tryz.func252 h
def Iz (a:Option Addr)(b:Sl)(c:Value)(R:TR []->Pr):Pr:=
 Cl Pg 286 [(Vp a),(Vi ((b.len:Nat):Int))] true [] λd=>
 Cl Pg 287 [(Vp a),(Vs b),c] true [] λe=>
 R ()
theorem K9 (a b c){R w}(h:Iz a b c R w):Cl Pg 253 [(Vp a),(Vs b),c] true [] R w:=
 ce (s' l') Tryz.func253 h
def Gj (a:Option Addr)(b:ByteArray)(c:Int)(R:TR []->Pr):Pr:=
 At #[(Vt b),(Vi c)] 70 λd=>
 Ls d 0 λe=>
 Cl Pg 288 [(Vp a),(Vt e)] true [] λf=>
 Li d 1 λg=>
 Cl Pg 286 [(Vp a),(Vi g)] true [] λi=>
 R ()
theorem IT (a b c){R w}(h:Gj a b c R w):Cl Pg 254 [(Vp a),(.agg #[(Vt b),(Vi c)])] true [] R w:=
 ce (s' (s' l')) Tryz.func254 h
def Ks (a:Option Addr)(b:Sl)(c:Value)(R:TR []->Pr):Pr:=
 Cl Pg 286 [(Vp a),(Vi ((b.len:Nat):Int))] true [] λd=>
 Cl Pg 289 [(Vp a),(Vs b),c] true [] λe=>
 R ()
theorem LX (a b c){R w}(h:Ks a b c R w):Cl Pg 255 [(Vp a),(Vs b),c] true [] R w:=
 ce (s' l') Tryz.func255 h
def HI (a:Option Addr)(b:Int)(c:Sl)(R:TR []->Pr):Pr:=
 At #[(Vu b),(Vs c)] 60 λd=>
 Lu d 0 λe=>
 Cl Pg 258 [(Vp a),(Vu e)] true [] λf=>
 Ll d 1 λg=>
 Cl Pg 290 [(Vp a),(Vs g),(.func (.func 291) #[(Vp a)] #[])] true [] λi=>
 R ()
theorem JU (a b c){R w}(h:HI a b c R w):Cl Pg 256 [(Vp a),(.agg #[(Vu b),(Vs c)])] true [] R w:=
 ce (s' (s' l')) Tryz.func256 h
def Ht (a:Option Addr)(b:Sl)(c:Value)(R:TR []->Pr):Pr:=
 Cl Pg 286 [(Vp a),(Vi ((b.len:Nat):Int))] true [] λd=>
 Cl Pg 285 [(Vp a),(Vs b),c] true [] λe=>
 R ()
theorem JA (a b c){R w}(h:Ht a b c R w):Cl Pg 257 [(Vp a),(Vs b),c] true [] R w:=
 ce (s' l') Tryz.func257 h
def IA (a:Option Addr)(b:Int)(R:TR []->Pr):Pr:=
 Dr <|
 Nn a λc=>
 Ll c 0 λd=>
 Cl Pg 231 [(Vu b)] false [.sc .sl] λe=>
 AH (Ll c 0 λf=>
 λ_=>((Vs f):Value)=(Vs d)) <|
 App 5 1 1 (zc Pg 5) d e.1.len (BH e.1.p e.1.len 1) λg=>
 Nn a λi=>
 Ts i 0 g <|
 R ()
theorem KR (a b){R w}(h:IA a b R w):Cl Pg 258 [(Vp a),(Vu b)] true [] R w:=
 ce (l') Tryz.func258 h
def Ha (a:Option Addr)(b c:ByteArray)(R:TR []->Pr):Pr:=
 At #[(Vt b),(Vt c)] 37 λd=>
 Ls d 0 λe=>
 Cl Pg 288 [(Vp a),(Vt e)] true [] λf=>
 Ls d 1 λg=>
 Cl Pg 288 [(Vp a),(Vt g)] true [] λi=>
 R ()
theorem Kr (a b c){R w}(h:Ha a b c R w):Cl Pg 259 [(Vp a),(.agg #[(Vt b),(Vt c)])] true [] R w:=
 ce (s' (s' l')) Tryz.func259 h
def CK (a:Sl)(b c d:Int)(R:TR []->Pr):Pr:=
 Lp (σ:=Int×Unit) (λe f=>
 Br (decide (((An ((An (2*f.1))+1)):Int)>=c)) (
 R ()) (
 Jp (σ:=Int×Unit) (λg=>
 Dr <|
 Ix a (An (d+f.1)) 1 λi=>
 A2 .u64 i λj=>
 Ix a (An (d+g.1)) 1 λk=>
 A2 .u64 k λl=>
 Cl Pg 194 [(Vu j),(Vu l)] false [.sc .b] λm=>
 Br (!m.1) (
 R ()) (
 Dr <|
 Ix a (An (d+g.1)) 1 λn=>
 A2 .u64 n λo=>
 Ix a (An (d+f.1)) 1 λp=>
 A2 .u64 p λq=>
 Ix a (An (d+f.1)) 1 λr=>
 St r (Vu o) <|
 Ix a (An (d+g.1)) 1 λs=>
 St s (Vu q) <|
 e (g.1,()))) λt=>
 Jp (σ:=Bool×Unit) (λu=>
 Br u.1 (
 t ((An ((An ((An (2*f.1))+1))+1)),())) (
 t ((An ((An (2*f.1))+1)),()))) λv=>
 Dr <|
 Br (decide (((An ((An ((An (2*f.1))+1))+1)):Int)<c)) (
 Ix a (An (d+(An ((An (2*f.1))+1)))) 1 λx=>
 A2 .u64 x λy=>
 Ix a (An ((An (d+(An ((An (2*f.1))+1))))+1)) 1 λz=>
 A2 .u64 z λa0=>
 Cl Pg 194 [(Vu y),(Vu a0)] false [.sc .b] λb0=>
 v (b0.1,())) (
 v (false,())))) (b,())
theorem DZ (a b c d){R w}(h:CK a b c d R w):Cl Pg 260 [(Vs a),(Vi b),(Vi c),(Vi d)] true [] R w:=
 ce (s' (.block (.loop [(8,.sc (.i .i64))] (.block (s' (q' (s' (k' l' l')) (q' (.join [(9,.sc (.i .i64))] (q' (.join [(36,.sc .b)] l') (k' l' l'))) (q' (s' (k' l' l')) (s' l'))))))))) Tryz.func260 h
def EX (a:Int)(R:TR [.sc (.i .u64)]->Pr):Pr:=
 Cl Pg 88 [(Vu (IntKind.u64.wrap (a)))] false [.sc (.i .i64)] λb=>
 AY ((0:Int)<=b.1) <|
 R ((Adw .u64 1 b.1),())
theorem Ho (a){R w}(h:EX a R w):Cl Pg 261 [(Vi a)] false [.sc (.i .u64)] R w:=
 ce (s' (s' l')) Tryz.func261 h
def FL (a:Option Addr)(R:TR [.sc (.i .u64)]->Pr):Pr:=
 Dr <|
 Nn a λb=>
 A2 .u64 b λc=>
 Nn a λd=>
 A2 .u64 d λe=>
 AY ((0:Int)<=13) <|
 Nn a λf=>
 St f (Vu (AiD .u64 c (Adw .u64 e 13))) <|
 Dr <|
 Nn a λg=>
 A2 .u64 g λi=>
 Nn a λj=>
 A2 .u64 j λk=>
 AY ((0:Int)<=7) <|
 Nn a λl=>
 St l (Vu (AiD .u64 i (IW .u64 k 7))) <|
 Dr <|
 Nn a λm=>
 A2 .u64 m λn=>
 Nn a λo=>
 A2 .u64 o λp=>
 AY ((0:Int)<=17) <|
 Nn a λq=>
 St q (Vu (AiD .u64 n (Adw .u64 p 17))) <|
 Nn a λr=>
 A2 .u64 r λs=>
 R (s,())
theorem Ia (a){R w}(h:FL a R w):Cl Pg 262 [(Vp a)] false [.sc (.i .u64)] R w:=
 ce (s' (s' (s' (s' (s' l'))))) Tryz.func262 h
def Cb (a:Sl)(b:Int)(c:Option Addr)(R:TR [.sc (.i .i64)]->Pr):Pr:=
 Cl Pg 264 [(Vs a),(Vi (An (b-1))),(Vi b),(Vi (An (b+1))),(Vp c)] false [.sc (.i .i64)] λd=>
 R (d.1,())
theorem Dg (a b c){R w}(h:Cb a b c R w):Cl Pg 263 [(Vs a),(Vi b),(Vp c)] false [.sc (.i .i64)] R w:=
 ce (s' (s' l')) Tryz.func263 h
open Go Go.Sx
def Ds (a:Sl)(b c d:Int)(e:Option Addr)(R:TR [.sc (.i .i64)]->Pr):Pr:=
 Cl Pg 292 [(Vs a),(Vi b),(Vi c),(Vp e)] true [.sc (.i .i64),.sc (.i .i64)] λf=>
 Cl Pg 292 [(Vs a),(Vi f.2.1),(Vi d),(Vp e)] true [.sc (.i .i64),.sc (.i .i64)] λg=>
 Cl Pg 292 [(Vs a),(Vi f.1),(Vi g.1),(Vp e)] true [.sc (.i .i64),.sc (.i .i64)] λi=>
 R (i.2.1,())
theorem EN (a b c d e){R w}(h:Ds a b c d e R w):Cl Pg 264 [(Vs a),(Vi b),(Vi c),(Vi d),(Vp e)] false [.sc (.i .i64)] R w:=
 ce (s' (s' (s' (s' (s' l'))))) Tryz.func264 h
def Af4 (a:Sl)(b:Int)(c d e f:ByteArray)(g:Int)(R:TR [.sc .sl,.ag [.b,.s,.sl]]->Pr):Pr:=
 At (Ar b c d e f g) 81 λi=>
 At Nw 83 λj=>
 Ls i 1 λk=>
 Cl Pg 293 [(Vs a),(Vt k)] true [.sc (.i .i64),.sc .b] λl=>
 Br (!l.2.1) (
 Tb j 0 false <|
 St (j.add 1) (Vt (BA [])) <|
 St (j.add 2) (.slice none 0 0) <|
 HX j λm n o=>
 R (a,(m,n,o,()),())) (
 Dr <|
 Ix a l.1 2 λp=>
 Ls p 1 λq=>
 Tb j 0 true <|
 Tt j 1 q <|
 St (j.add 2) (.slice none 0 0) <|
 HX j λr s t=>
 R (a,(r,s,t,()),()))
theorem ZB (a b c d e f g){R w}(h:Af4 a b c d e f g R w):Cl Pg 265 [(Vs a),(.agg (Ar b c d e f g))] true [.sc .sl,.ag [.b,.s,.sl]] R w:=
 ce (s' (s' (q' (s' (k' (s' l') l')) (s' l')))) Tryz.func265 h
def Afd (a:Sl)(b:Int)(c d e f:ByteArray)(g:Int)(R:TR [.sc .sl,.ag [.b,.s,.sl]]->Pr):Pr:=
 At (Ar b c d e f g) 81 λi=>
 At Nw 83 λj=>
 Ls i 1 λk=>
 Cl Pg 293 [(Vs a),(Vt k)] true [.sc (.i .i64),.sc .b] λl=>
 Br (!l.2.1) (
 Ls i 1 λm=>
 Ls i 2 λn=>
 At #[(Vt m),(Vt n)] 111 λo=>
 Cl Pg 294 [(Vs a),(Vi l.1),(.slice (some o) 1 1)] false [.sc .sl] λp=>
 Tb j 0 false <|
 St (j.add 1) (Vt (BA [])) <|
 St (j.add 2) (.slice none 0 0) <|
 HX j λq r s=>
 R (p.1,(q,r,s,()),())) (
 Ls i 2 λt=>
 Ix a l.1 2 λu=>
 Tt u 1 t <|
 Tb j 0 false <|
 St (j.add 1) (Vt (BA [])) <|
 St (j.add 2) (.slice none 0 0) <|
 HX j λv x y=>
 R (a,(v,x,y,()),()))
theorem ZQ (a b c d e f g){R w}(h:Afd a b c d e f g R w):Cl Pg 266 [(Vs a),(.agg (Ar b c d e f g))] true [.sc .sl,.ag [.b,.s,.sl]] R w:=
 ce (s' (s' (q' (s' (k' (s' l') l')) (s' (s' l'))))) Tryz.func266 h
def Ae7 (a:Sl)(b:Int)(c d e f:ByteArray)(g:Int)(R:TR [.sc .sl,.ag [.b,.s,.sl]]->Pr):Pr:=
 At (Ar b c d e f g) 81 λi=>
 At Nw 83 λj=>
 Jp (σ:=Sl×Unit) (λk=>
 Tb j 0 false <|
 St (j.add 1) (Vt (BA [])) <|
 St (j.add 2) (.slice none 0 0) <|
 HX j λl m n=>
 R (k.1,(l,m,n,()),())) λo=>
 Ls i 1 λp=>
 Cl Pg 293 [(Vs a),(Vt p)] true [.sc (.i .i64),.sc .b] λq=>
 Br q.2.1 (
 Cl Pg 295 [(Vs a),(Vi q.1),(Vi (An (q.1+1)))] false [.sc .sl] λr=>
 o (r.1,())) (
 o (a,()))
theorem ZL (a b c d e f g){R w}(h:Ae7 a b c d e f g R w):Cl Pg 267 [(Vs a),(.agg (Ar b c d e f g))] true [.sc .sl,.ag [.b,.s,.sl]] R w:=
 ce (s' (q' (.join [(0,.sc .sl)] (s' (s' (k' l' l')))) (s' l'))) Tryz.func267 h
def Acl (a:Sl)(b:Int)(c d e f:ByteArray)(g:Int)(R:TR [.sc .sl,.ag [.b,.s,.sl]]->Pr):Pr:=
 At (Ar b c d e f g) 81 λi=>
 At Nw 83 λj=>
 AN i λk l m n o p=>
 Cl Pg 98 [(.agg (Ar k l m n o p))] false [.ag [.s,.s]] λq=>
 Cl Pg 296 [(Vs a),(.agg #[(Vt q.1.1),(Vt q.1.2.1)])] true [.sc (.i .i64),.sc (.i .i64)] λr=>
 Li i 5 λs=>
 AY ((0:Int)<=(if((An (r.1+s)):Int)<r.2.1 then(An (r.1+s))else r.2.1)/\(if((An (r.1+s)):Int)<r.2.1 then(An (r.1+s))else r.2.1)<=((a.cap:Nat):Int)) <|
 AY ((0:Int)<=r.1/\r.1<=(((Int.toNat (if((An (r.1+s)):Int)<r.2.1 then(An (r.1+s))else r.2.1)):Nat):Int)) <|
 Cl Pg 272 [(.slice (A7 a.p a.cap (Int.toNat r.1) 2) ((Int.toNat (if((An (r.1+s)):Int)<r.2.1 then(An (r.1+s))else r.2.1))-(Int.toNat r.1)) (a.cap-(Int.toNat r.1)))] false [.sc .sl] λt=>
 Tb j 0 false <|
 St (j.add 1) (Vt (BA [])) <|
 Ts j 2 t.1 <|
 HX j λu v x=>
 R (a,(u,v,x,()),())
theorem XS (a b c d e f g){R w}(h:Acl a b c d e f g R w):Cl Pg 268 [(Vs a),(.agg (Ar b c d e f g))] true [.sc .sl,.ag [.b,.s,.sl]] R w:=
 ce (s' (s' (s' l'))) Tryz.func268 h
def Zb (a:Sl)(b:Int)(c d e f:ByteArray)(g:Int)(R:TR [.sc .sl,.ag [.b,.s,.sl]]->Pr):Pr:=
 At (Ar b c d e f g) 81 λi=>
 At Nw 83 λj=>
 AN i λk l m n o p=>
 Cl Pg 98 [(.agg (Ar k l m n o p))] false [.ag [.s,.s]] λq=>
 Cl Pg 296 [(Vs a),(.agg #[(Vt q.1.1),(Vt q.1.2.1)])] true [.sc (.i .i64),.sc (.i .i64)] λr=>
 Cl Pg 295 [(Vs a),(Vi r.1),(Vi r.2.1)] false [.sc .sl] λs=>
 Tb j 0 false <|
 St (j.add 1) (Vt (BA [])) <|
 St (j.add 2) (.slice none 0 0) <|
 HX j λt u v=>
 R (s.1,(t,u,v,()),())
theorem Wg (a b c d e f g){R w}(h:Zb a b c d e f g R w):Cl Pg 269 [(Vs a),(.agg (Ar b c d e f g))] true [.sc .sl,.ag [.b,.s,.sl]] R w:=
 ce (s' (s' (s' l'))) Tryz.func269 h
def Sk (a:Sl)(R:TR [.sc (.i .i64)]->Pr):Pr:=
 Lp (σ:=Int×ByteArray×Int×Unit) (λb c=>
 Br (decide ((c.2.2.1:Int)<((a.len:Nat):Int))) (
 Ix a c.2.2.1 2 λd=>
 Ls d 0 λe=>
 Ls d 1 λf=>
 At #[(Vt (BA [])),(Vt (BA []))] 111 λg=>
 Tt g 0 e <|
 Tt g 1 f <|
 Ls g 0 λi=>
 Cl Pg 93 [(Vt i)] false [.sc (.i .i64)] λj=>
 Br ((j.1:Int) !=0) (
 R (20,())) (
 Ls g 1 λk=>
 Br (decide ((((k.size:Nat):Int):Int)>16)) (
 R (2,())) (
 Ls g 0 λl=>
 Br (slt l c.2.1||seq l c.2.1) (
 R (1,())) (
 Ls g 0 λm=>
 b (c.1,m,(An (c.2.2.1+1)),()))))) (
 R (0,()))) (0,(BA []),0,())
theorem Q6 (a){R w}(h:Sk a R w):Cl Pg 271 [(Vs a)] false [.sc (.i .i64)] R w:=
 ce (s' (s' (q' (s' (.block (.loop [(2,.sc (.i .i64)),(3,.sc .s),(8,.sc (.i .i64))] (s' (q' (k' l' l') (q' (.block (s' (q' (.block (s' (k' (s' l') (s' (k' (s' l') (s' (k' (s' l') l'))))))) l'))) l')))))) (s' l')))) Tryz.func271 h
theorem Lq (p_s:Sl){R:TR [.sc .sl]->Pr}{w:World}(h:Hn 111 2 32 (zc Pg 111) p_s R w):Cl Pg 272 [(.slice p_s.p p_s.len p_s.cap)] false [.sc .sl] R w:=
 AF Tryz.checked.mixed (.seq .leaf (.seq (.seq .leaf (.cond (.seq .leaf .leaf) .leaf)) (.seq .leaf .leaf))) Tryz.func272 (by kernel_rfl) (by kernel_rfl) h
def MH (a:Int)(b c d e:ByteArray)(f:Int)(g:Addr)(R:TR [.sc .b]->Pr):Pr:=
 At (Ar a b c d e f) 81 λi=>
 AN i λj k l m n o=>
 Cl Pg 61 [(.agg (Ar j k l m n o))] true N6 λp=>
 At #[(Vt (BA [])),(Vt (BA []))] 37 λq=>
 Tt q 0 p.1.1 <|
 Tt q 1 p.1.2.1 <|
 Ls q 0 λr=>
 Ls q 1 λs=>
 Ls g 0 λt=>
 Ls g 1 λu=>
 Cl Pg 105 [(.agg #[(Vt r),(Vt s)]),(.agg #[(Vt t),(Vt u)])] true [.ag [.s,.s],.sc .b] λv=>
 At #[(Vt (BA [])),(Vt (BA []))] 37 λx=>
 Tt x 0 v.1.1 <|
 Tt x 1 v.1.2.1 <|
 Br ((p.2.1:Int)==0) (
 R (v.2.1,())) (
 R (false,()))
theorem NA (a b c d e f g){R w}(h:MH a b c d e f g R w):Cl Pg 273 [(.agg (Ar a b c d e f)),(Vp (some g))] false [.sc .b] R w:=
 ce (s' (s' (s' (s' l')))) Tryz.func273 h
def Gm (a:Option Addr)(b:Int)(R:TR [.sc .sl,.sc .sl]->Pr):Pr:=
 Cl Pg 109 [(Vp a),(Vu b)] true [] λc=>
 Cl Pg 67 [(Vp a),(.slice none 0 0)] true [.sc .sl,.sc .sl] λd=>
 R (d.1,d.2.1,())
theorem Je (a b){R w}(h:Gm a b R w):Cl Pg 277 [(Vp a),(Vu b)] true [.sc .sl,.sc .sl] R w:=
 ce (s' (s' (s' l'))) Tryz.func277 h
def Gk (a:Int)(R:TR [.sc .b]->Pr):Pr:=
 R (((a:Int) !=a),())
theorem Jq (a){R w}(h:Gk a R w):Cl Pg 278 [(Vu a)] false [.sc .b] R w:=
 ce (s' (s' l')) Tryz.func278 h
theorem Hl (p_s:Sl)(p_f:Value){R:TR [.sc (.i .i64)]->Pr}{w:World}(h:BG Pg 4 (ldA [(.i .u64),.sl,.sl,(.i .i64)]) p_s p_f R w):Cl Pg 281 [(.slice p_s.p p_s.len p_s.cap),p_f] false [.sc (.i .i64)] R w:=
 AF Tryz.checked.mixed (.seq .leaf (.seq (.seq .leaf (.block (.loop [(4,.sc (.i .i64)),(8,.sc (.i .i64))] (.seq .leaf (.seq (.cond .leaf .leaf) (.seq (.block (.seq .leaf (.seq .leaf (.cond (.seq .leaf .leaf) .leaf)))) .leaf)))))) (.seq .leaf .leaf))) Tryz.func281 (by kernel_rfl) (by kernel_rfl) h
theorem FQ (p_s:Sl)(p_f:Value){R:TR [.sc (.i .i64)]->Pr}{w:World}(h:BG Pg 3 (ldA [.b,.s,.sl]) p_s p_f R w):Cl Pg 282 [(.slice p_s.p p_s.len p_s.cap),p_f] false [.sc (.i .i64)] R w:=
 AF Tryz.checked.mixed (.seq .leaf (.seq (.seq .leaf (.block (.loop [(4,.sc (.i .i64)),(8,.sc (.i .i64))] (.seq .leaf (.seq (.cond .leaf .leaf) (.seq (.block (.seq .leaf (.seq .leaf (.cond (.seq .leaf .leaf) .leaf)))) .leaf)))))) (.seq .leaf .leaf))) Tryz.func282 (by kernel_rfl) (by kernel_rfl) h
theorem Hf (p_s:Sl)(p_f:Value){R:TR [.sc (.i .i64)]->Pr}{w:World}(h:BG Pg 2 (ldA [.s,.s]) p_s p_f R w):Cl Pg 283 [(.slice p_s.p p_s.len p_s.cap),p_f] false [.sc (.i .i64)] R w:=
 AF Tryz.checked.mixed (.seq .leaf (.seq (.seq .leaf (.block (.loop [(4,.sc (.i .i64)),(8,.sc (.i .i64))] (.seq .leaf (.seq (.cond .leaf .leaf) (.seq (.block (.seq .leaf (.seq .leaf (.cond (.seq .leaf .leaf) .leaf)))) .leaf)))))) (.seq .leaf .leaf))) Tryz.func283 (by kernel_rfl) (by kernel_rfl) h
def Eb (a:Option Addr)(b:Sl)(c:Value)(R:TR []->Pr):Pr:=
 Lp (σ:=Int×Unit) (λd e=>
 Br (decide ((e.1:Int)<((b.len:Nat):Int))) (
 Ix b e.1 1 λf=>
 A2 .u64 f λg=>
 AB Pg c [(Vu g)] true [] λi=>
 d ((An (e.1+1)),())) (
 R ())) (0,())
theorem Eo (a b c){R w}(h:Eb a b c R w):Cl Pg 285 [(Vp a),(Vs b),c] true [] R w:=
 ce (s' (.block (.loop [(10,.sc (.i .i64))] (s' (q' (k' l' l') (q' (.block (s' l')) l')))))) Tryz.func285 h
def Is (a:Option Addr)(b:Int)(R:TR []->Pr):Pr:=
 Cl Pg 258 [(Vp a),(Vu (IntKind.u64.wrap (b)))] true [] λc=>
 R ()
theorem KJ (a b){R w}(h:Is a b R w):Cl Pg 286 [(Vp a),(Vi b)] true [] R w:=
 ce (l') Tryz.func286 h
def IJ (a:Option Addr)(b:Sl)(c:Value)(R:TR []->Pr):Pr:=
 Lp (σ:=Int×Unit) (λd e=>
 Br (decide ((e.1:Int)<((b.len:Nat):Int))) (
 Ix b e.1 2 λf=>
 Ls f 0 λg=>
 Li f 1 λi=>
 At #[(Vt (BA [])),(Vi 0)] 70 λj=>
 Tt j 0 g <|
 Ti j 1 i <|
 Ls j 0 λk=>
 Li j 1 λl=>
 AB Pg c [(.agg #[(Vt k),(Vi l)])] true [] λm=>
 d ((An (e.1+1)),())) (
 R ())) (0,())
theorem K4 (a b c){R w}(h:IJ a b c R w):Cl Pg 287 [(Vp a),(Vs b),c] true [] R w:=
 ce (s' (.block (.loop [(10,.sc (.i .i64))] (s' (q' (k' l' l') (q' (.block (s' l')) l')))))) Tryz.func287 h
def Hk (a:Option Addr)(b:ByteArray)(R:TR []->Pr):Pr:=
 Dr <|
 Nn a λc=>
 Ll c 0 λd=>
 Cl Pg 240 [(Vt b)] false [.sc .sl] λe=>
 AH (Ll c 0 λf=>
 λ_=>((Vs f):Value)=(Vs d)) <|
 App 5 1 1 (zc Pg 5) d e.1.len (BH e.1.p e.1.len 1) λg=>
 Nn a λi=>
 Ts i 0 g <|
 R ()
theorem JQ (a b){R w}(h:Hk a b R w):Cl Pg 288 [(Vp a),(Vt b)] true [] R w:=
 ce (l') Tryz.func288 h
def JH (a:Option Addr)(b:Sl)(c:Value)(R:TR []->Pr):Pr:=
 Lp (σ:=Int×Unit) (λd e=>
 Br (decide ((e.1:Int)<((b.len:Nat):Int))) (
 Ix b e.1 2 λf=>
 Lu f 0 λg=>
 Ll f 1 λi=>
 At #[(Vu 0),(.slice none 0 0)] 60 λj=>
 Tu j 0 g <|
 Ts j 1 i <|
 Lu j 0 λk=>
 Ll j 1 λl=>
 AB Pg c [(.agg #[(Vu k),(Vs l)])] true [] λm=>
 d ((An (e.1+1)),())) (
 R ())) (0,())
theorem Ma (a b c){R w}(h:JH a b c R w):Cl Pg 289 [(Vp a),(Vs b),c] true [] R w:=
 ce (s' (.block (.loop [(10,.sc (.i .i64))] (s' (q' (k' l' l') (q' (.block (s' l')) l')))))) Tryz.func289 h
def M8 (a:Option Addr)(b:Sl)(c:Value)(R:TR []->Pr):Pr:=
 Cl Pg 286 [(Vp a),(Vi ((b.len:Nat):Int))] true [] λd=>
 Cl Pg 300 [(Vp a),(Vs b),c] true [] λe=>
 R ()
theorem N9 (a b c){R w}(h:M8 a b c R w):Cl Pg 290 [(Vp a),(Vs b),c] true [] R w:=
 ce (s' l') Tryz.func290 h
def JR (a:Option Addr)(b:Int)(c d e f:ByteArray)(g:Int)(R:TR []->Pr):Pr:=
 At (Ar b c d e f g) 81 λi=>
 Li i 0 λj=>
 Cl Pg 286 [(Vp a),(Vi j)] true [] λk=>
 Ls i 1 λl=>
 Ls i 2 λm=>
 Ls i 3 λn=>
 Ls i 4 λo=>
 At (As4 l m n o) 9 λp=>
 Lp (σ:=Int×Unit) (λq r=>
 Br (decide ((r.1:Int)<((4:Nat):Int))) (
 Ix ⟨(some p),4,4⟩ r.1 1 λs=>
 BU s λt=>
 Cl Pg 288 [(Vp a),(Vt t)] true [] λu=>
 q ((An (r.1+1)),())) (
 Li i 5 λv=>
 Cl Pg 286 [(Vp a),(Vi v)] true [] λx=>
 R ())) (0,())
theorem Ml (a b c d e f g){R w}(h:JR a b c d e f g R w):Cl Pg 291 [(Vp a),(.agg (Ar b c d e f g))] true [] R w:=
 ce (s' (s' (q' (s' (.block (.loop [(20,.sc (.i .i64))] (s' (q' (k' l' l') (q' (.block (s' l')) l')))))) l'))) Tryz.func291 h
def Dt (a:Sl)(b c:Int)(d:Option Addr)(R:TR [.sc (.i .i64),.sc (.i .i64)]->Pr):Pr:=
 Dr <|
 Ix a c 1 λe=>
 A2 .u64 e λf=>
 Ix a b 1 λg=>
 A2 .u64 g λi=>
 Cl Pg 194 [(Vu f),(Vu i)] false [.sc .b] λj=>
 Br j.1 (
 Nn d λk=>
 A2 .i64 k λl=>
 Nn d λm=>
 St m (Vi (An (l+1))) <|
 R (c,b,())) (
 R (b,c,()))
theorem EF (a b c d){R w}(h:Dt a b c d R w):Cl Pg 292 [(Vs a),(Vi b),(Vi c),(Vp d)] true [.sc (.i .i64),.sc (.i .i64)] R w:=
 ce (s' (q' (s' (k' (s' (s' l')) l')) (s' l'))) Tryz.func292 h
def Ahi (a:Sl)(b:ByteArray)(R:TR [.sc (.i .i64),.sc .b]->Pr):Pr:=
 Cl Pg 301 [(Vs a),(Vt b),(.func (.func 302) #[] #[])] true [.sc (.i .i64),.sc .b] λc=>
 R (c.1,c.2.1,())
theorem Aaj (a b){R w}(h:Ahi a b R w):Cl Pg 293 [(Vs a),(Vt b)] true [.sc (.i .i64),.sc .b] R w:=
 ce (s' (s' l')) Tryz.func293 h
theorem JS (p_s:Sl)(p_i:Int)(p_v:Sl){R:TR [.sc .sl]->Pr}{w:World}(h:Fj Pg 304 305 111 2 32 (zc Pg 111) p_s p_i p_v R w):Cl Pg 294 [(.slice p_s.p p_s.len p_s.cap),(.int .i64 p_i),(.slice p_v.p p_v.len p_v.cap)] false [.sc .sl] R w:=
 AF Tryz.checked.mixed (.seq .leaf (.seq .leaf (.seq .leaf (.seq (.seq .leaf (.cond (.seq .leaf .leaf) .leaf)) (.seq .leaf (.seq (.seq .leaf (.cond (.seq .leaf .leaf) .leaf)) (.seq (.seq .leaf (.cond (.seq .leaf (.seq .leaf (.seq .leaf (.seq .leaf .leaf)))) .leaf)) (.seq .leaf (.seq (.seq .leaf (.cond (.seq .leaf (.seq .leaf (.seq .leaf .leaf))) .leaf)) (.seq .leaf (.seq .leaf (.seq .leaf .leaf)))))))))))) Tryz.func294 (by kernel_rfl) (by kernel_rfl) h
theorem Jv (p_s:Sl)(p_i:Int)(p_j:Int){R:TR [.sc .sl]->Pr}{w:World}(h:GN 111 2 32 (zc Pg 111) p_s p_i p_j R w):Cl Pg 295 [(.slice p_s.p p_s.len p_s.cap),(.int .i64 p_i),(.int .i64 p_j)] false [.sc .sl] R w:=
 AF Tryz.checked.mixed (.seq .leaf (.seq .leaf (.seq (.seq .leaf (.cond (.seq .leaf .leaf) .leaf)) (.seq .leaf (.seq .leaf (.seq .leaf (.seq .leaf .leaf))))))) Tryz.func295 (by kernel_rfl) (by kernel_rfl) h
def AbG (a:Sl)(b c:ByteArray)(R:TR [.sc (.i .i64),.sc (.i .i64)]->Pr):Pr:=
 At #[(Vt b),(Vt c)] 37 λd=>
 Ls d 0 λe=>
 Cl Pg 293 [(Vs a),(Vt e)] true [.sc (.i .i64),.sc .b] λf=>
 Jp (σ:=Int×Unit) (λg=>
 R (f.1,g.1,())) λi=>
 Ls d 1 λj=>
 Br (!(seq j (BA []))) (
 Ls d 1 λk=>
 Cl Pg 293 [(Vs a),(Vt k)] true [.sc (.i .i64),.sc .b] λl=>
 i (l.1,())) (
 i (((a.len:Nat):Int),()))
theorem Xq (a b c){R w}(h:AbG a b c R w):Cl Pg 296 [(Vs a),(.agg #[(Vt b),(Vt c)])] true [.sc (.i .i64),.sc (.i .i64)] R w:=
 ce (s' (s' (s' (q' (.join [(8,.sc (.i .i64))] (s' (k' l' l'))) (s' l'))))) Tryz.func296 h
def MF (a:Option Addr)(b:Sl)(c:Value)(R:TR []->Pr):Pr:=
 Lp (σ:=Int×Unit) (λd e=>
 Br (decide ((e.1:Int)<((b.len:Nat):Int))) (
 Ix b e.1 6 λf=>
 AN f λg i j k l m=>
 At Gx 81 λn=>
 Gh n g i j k l m <|
 AN n λo p q r s t=>
 AB Pg c [(.agg (Ar o p q r s t))] true [] λu=>
 d ((An (e.1+1)),())) (
 R ())) (0,())
theorem N5 (a b c){R w}(h:MF a b c R w):Cl Pg 300 [(Vp a),(Vs b),c] true [] R w:=
 ce (s' (.block (.loop [(10,.sc (.i .i64))] (s' (q' (k' l' l') (q' (.block (s' l')) l')))))) Tryz.func300 h
theorem Ey (p_x:Sl)(p_target:ByteArray)(p_cmp:Value){R:TR [.sc (.i .i64),.sc .b]->Pr}{w:World}(h:B2 Pg 2 (ldA [.s,.s]) p_x (.string p_target) p_cmp R w):Cl Pg 301 [(.slice p_x.p p_x.len p_x.cap),(.string p_target),p_cmp] true [.sc (.i .i64),.sc .b] R w:=
 AF Tryz.checked.mixed (.seq .leaf (.seq .leaf (.seq .leaf (.seq (.block (.loop [(9,.sc (.i .i64)),(10,.sc (.i .i64))] (.seq (.seq .leaf (.cond .leaf .leaf)) (.block (.seq .leaf (.seq .leaf (.cond .leaf .leaf))))))) (.seq .leaf .leaf))))) Tryz.func301 (by kernel_rfl) (by kernel_rfl) h
def Acb (a b c:ByteArray)(R:TR [.sc (.i .i64)]->Pr):Pr:=
 At #[(Vt a),(Vt b)] 111 λd=>
 Ls d 0 λe=>
 Cl Pg 303 [(Vt e),(Vt c)] false [.sc (.i .i64)] λf=>
 R (f.1,())
theorem XG (a b c){R w}(h:Acb a b c R w):Cl Pg 302 [(.agg #[(Vt a),(Vt b)]),(Vt c)] false [.sc (.i .i64)] R w:=
 ce (s' (s' l')) Tryz.func302 h
def LP (a b:ByteArray)(R:TR [.sc (.i .i64)]->Pr):Pr:=
 Cl Pg 308 [(Vt a),(Vt b)] false [.sc (.i .i64)] λc=>
 R (c.1,())
theorem MD (a b){R w}(h:LP a b R w):Cl Pg 303 [(Vt a),(Vt b)] false [.sc (.i .i64)] R w:=
 ce (s' (s' l')) Tryz.func303 h
def C9 (a b:ByteArray)(R:TR [.sc (.i .i64)]->Pr):Pr:=
 Ex Pg 310 [(Vt a),(Vt b)] false [.sc (.i .i64)] λc=>
 R (c.1,())
theorem DX (a b){R w}(h:C9 a b R w):Cl Pg 308 [(Vt a),(Vt b)] false [.sc (.i .i64)] R w:=
 ce (s' (s' l')) Tryz.func308 h
def El (a:Option Addr)(b c:ByteArray)(d:Int)(R:TR [.sc .sl,.sc (.i .i64)]->Pr):Pr:=
 At #[(Vt b),(Vt c)] 37 λe=>
 Dr <|
 Nn a λf=>
 Ll f 0 λg=>
 Ls e 0 λi=>
 Ls e 1 λj=>
 Cl Pg 20 [(Vs g),(.agg #[(Vt i),(Vt j)]),(Vi d)] false [.sc .sl] λk=>
 App 111 2 32 (zc Pg 111) ⟨none,0,0⟩ k.1.len (BH k.1.p k.1.len 2) λl=>
 R (l,0,())
theorem FZ (a b c d){R w}(h:El a b c d R w):Cl Pg 328 [(Vp a),(.agg #[(Vt b),(Vt c)]),(Vi d)] true [.sc .sl,.sc (.i .i64)] R w:=
 ce (s' (s' l')) Tryz.func328 h
open Go Go.Sx
def Fu (a:Int)(b c d e:ByteArray)(f:Int)(R:TR [.sc (.i .i64)]->Pr):Pr:=
 At (Ar a b c d e f) 81 λg=>
 Jp (σ:=Bool×Unit) (λi=>
 Jp (σ:=Bool×Unit) (λj=>
 Jp (σ:=Bool×Unit) (λk=>
 Br k.1 (
 R (40,())) (
 Jp (σ:=Bool×Unit) (λl=>
 Br l.1 (
 R (20,())) (
 Ls g 2 λm=>
 Br (decide ((((m.size:Nat):Int):Int)>16)) (
 R (2,())) (
 Jp (σ:=Bool×Unit) (λn=>
 Br n.1 (
 R (21,())) (
 Jp (σ:=Bool×Unit) (λo=>
 Br o.1 (
 R (1,())) (
 R (0,()))) λp=>
 Li g 0 λq=>
 Br ((q:Int)==4) (
 Li g 5 λr=>
 Br (decide ((r:Int)<1)) (
 p (true,())) (
 Li g 5 λs=>
 p ((decide ((s:Int)>4)),()))) (
 p (false,())))) λt=>
 Br j.1 (
 Ls g 3 λu=>
 Ls g 4 λv=>
 Cl Pg 91 [(.agg #[(Vt u),(Vt v)])] false [.sc (.i .i64)] λx=>
 t (((x.1:Int) !=0),())) (
 t (false,()))))) λy=>
 Br i.1 (
 Ls g 1 λz=>
 Cl Pg 35 [(Vt z)] false [.sc (.i .i64)] λa0=>
 y (((a0.1:Int) !=0),())) (
 y (false,())))) λb0=>
 Br (!i.1) (
 Br (!j.1) (
 b0 (true,())) (
 Br i.1 (
 Ls g 3 λc0=>
 Br (!(seq c0 (BA []))) (
 b0 (true,())) (
 Ls g 4 λd0=>
 Br (!(seq d0 (BA []))) (
 b0 (true,())) (
 Br j.1 (
 Ls g 1 λe0=>
 Br (!(seq e0 (BA []))) (
 b0 (true,())) (
 Li g 0 λf0=>
 Br ((f0:Int) !=2) (
 Ls g 2 λg0=>
 Br (!(seq g0 (BA []))) (
 b0 (true,())) (
 Li g 0 λi0=>
 Br ((i0:Int) !=4) (
 Li g 5 λj0=>
 b0 (((j0:Int) !=0),())) (
 b0 (false,())))) (
 Li g 0 λk0=>
 Br ((k0:Int) !=4) (
 Li g 5 λl0=>
 b0 (((l0:Int) !=0),())) (
 b0 (false,()))))) (
 Li g 0 λm0=>
 Br ((m0:Int) !=2) (
 Ls g 2 λn0=>
 Br (!(seq n0 (BA []))) (
 b0 (true,())) (
 Li g 0 λo0=>
 Br ((o0:Int) !=4) (
 Li g 5 λp0=>
 b0 (((p0:Int) !=0),())) (
 b0 (false,())))) (
 Li g 0 λq0=>
 Br ((q0:Int) !=4) (
 Li g 5 λr0=>
 b0 (((r0:Int) !=0),())) (
 b0 (false,()))))))) (
 Br j.1 (
 Ls g 1 λs0=>
 Br (!(seq s0 (BA []))) (
 b0 (true,())) (
 Li g 0 λt0=>
 Br ((t0:Int) !=2) (
 Ls g 2 λu0=>
 Br (!(seq u0 (BA []))) (
 b0 (true,())) (
 Li g 0 λv0=>
 Br ((v0:Int) !=4) (
 Li g 5 λx0=>
 b0 (((x0:Int) !=0),())) (
 b0 (false,())))) (
 Li g 0 λy0=>
 Br ((y0:Int) !=4) (
 Li g 5 λz0=>
 b0 (((z0:Int) !=0),())) (
 b0 (false,()))))) (
 Li g 0 λa1=>
 Br ((a1:Int) !=2) (
 Ls g 2 λb1=>
 Br (!(seq b1 (BA []))) (
 b0 (true,())) (
 Li g 0 λc1=>
 Br ((c1:Int) !=4) (
 Li g 5 λd1=>
 b0 (((d1:Int) !=0),())) (
 b0 (false,())))) (
 Li g 0 λe1=>
 Br ((e1:Int) !=4) (
 Li g 5 λf1=>
 b0 (((f1:Int) !=0),())) (
 b0 (false,()))))))) (
 Br i.1 (
 Ls g 3 λg1=>
 Br (!(seq g1 (BA []))) (
 b0 (true,())) (
 Ls g 4 λi1=>
 Br (!(seq i1 (BA []))) (
 b0 (true,())) (
 Br j.1 (
 Ls g 1 λj1=>
 Br (!(seq j1 (BA []))) (
 b0 (true,())) (
 Li g 0 λk1=>
 Br ((k1:Int) !=2) (
 Ls g 2 λl1=>
 Br (!(seq l1 (BA []))) (
 b0 (true,())) (
 Li g 0 λm1=>
 Br ((m1:Int) !=4) (
 Li g 5 λn1=>
 b0 (((n1:Int) !=0),())) (
 b0 (false,())))) (
 Li g 0 λo1=>
 Br ((o1:Int) !=4) (
 Li g 5 λp1=>
 b0 (((p1:Int) !=0),())) (
 b0 (false,()))))) (
 Li g 0 λq1=>
 Br ((q1:Int) !=2) (
 Ls g 2 λr1=>
 Br (!(seq r1 (BA []))) (
 b0 (true,())) (
 Li g 0 λs1=>
 Br ((s1:Int) !=4) (
 Li g 5 λt1=>
 b0 (((t1:Int) !=0),())) (
 b0 (false,())))) (
 Li g 0 λu1=>
 Br ((u1:Int) !=4) (
 Li g 5 λv1=>
 b0 (((v1:Int) !=0),())) (
 b0 (false,()))))))) (
 Br j.1 (
 Ls g 1 λx1=>
 Br (!(seq x1 (BA []))) (
 b0 (true,())) (
 Li g 0 λy1=>
 Br ((y1:Int) !=2) (
 Ls g 2 λz1=>
 Br (!(seq z1 (BA []))) (
 b0 (true,())) (
 Li g 0 λa2=>
 Br ((a2:Int) !=4) (
 Li g 5 λb2=>
 b0 (((b2:Int) !=0),())) (
 b0 (false,())))) (
 Li g 0 λc2=>
 Br ((c2:Int) !=4) (
 Li g 5 λd2=>
 b0 (((d2:Int) !=0),())) (
 b0 (false,()))))) (
 Li g 0 λe2=>
 Br ((e2:Int) !=2) (
 Ls g 2 λf2=>
 Br (!(seq f2 (BA []))) (
 b0 (true,())) (
 Li g 0 λg2=>
 Br ((g2:Int) !=4) (
 Li g 5 λi2=>
 b0 (((i2:Int) !=0),())) (
 b0 (false,())))) (
 Li g 0 λj2=>
 Br ((j2:Int) !=4) (
 Li g 5 λk2=>
 b0 (((k2:Int) !=0),())) (
 b0 (false,()))))))) λl2=>
 Li g 0 λm2=>
 Br ((m2:Int)==4) (
 l2 (true,())) (
 Li g 0 λn2=>
 l2 (((n2:Int)==5),()))) λo2=>
 Li g 0 λp2=>
 Br ((p2:Int)==1) (
 o2 (true,())) (
 Li g 0 λq2=>
 Br ((q2:Int)==2) (
 o2 (true,())) (
 Li g 0 λr2=>
 o2 (((r2:Int)==3),())))
theorem HV (a b c d e f){R w}(h:Fu a b c d e f R w):Cl Pg 43 [(.agg (Ar a b c d e f))] false [.sc (.i .i64)] R w:=
 ce (s' (q' (.join [(3,.sc .b)] l') (q' (.join [(4,.sc .b)] l') (q' (q' (.join [(72,.sc .b)] l') (k' (s' l') l')) (q' (q' (.join [(79,.sc .b)] l') (k' (s' l') l')) (q' (s' (k' (s' l') l')) (q' (q' (.join [(93,.sc .b)] l') (k' (s' l') l')) (q' (q' (.join [(106,.sc .b)] l') (k' (s' l') l')) (s' l'))))))))) Tryz.func43 h
open Go Go.Sx
structure Pa where
 k:ByteArray
 v:ByteArray
deriving DecidableEq
def C2:Rec Pa:=⟨[.s,.s],λx=>(x.k,x.v,()),rfl,by simp⟩
theorem Fm:zc Pg 111=#[.string (BA []),.string (BA [])]:=by kernel_rfl
theorem Ack:∀v∈(zc Pg 111).toList,v.oneCell'=true:=by rw[Fm];simp[Value.oneCell']
variable {w:World}{s:Sl}
theorem KH {l:List Pa}(h:A1 C2 w s l){i:Nat}{x:Pa}(hx:l[i]?=some x){K:ByteArray->ByteArray->Pr}(k:K x.k x.v w):
  Ix s (i:Int) 2 (λa=>BU (a.add 0) λx0=>BU (a.add 1) λx1=>K x0 x1) w:=
 h.ld (K:=λy=>K y.1 y.2.1) hx k
theorem KC (x:Pa){K:Addr->Pr}{w:World}(h:∀b w1,w1.heap[b]?=some (.cells #[.string x.k,.string x.v] 111 (0,0))->w.heap.size<=b->Aa [] w w1->K ⟨b,0,none⟩ w1):
  At #[.string (BA []),.string (BA [])] 111 (λa=>St (a.add 0) (.string x.k)<|St (a.add 1) (.string x.v)<|(K a)) w:=
 Ei (vs:=C2.c x) rfl (C2.one x) h
theorem Qb {l:List _}(h:A1 C2 w s l)(hN:l.length<=100000000){K:TR [.sc .sl]->Pr}(k:∀r w',Bh C2 w' r l->(∀x∈Ai r,w.heap.size<=x)->Aa [] w w'->K (r,()) w'):Cl Pg 272 [.slice s.p s.len s.cap] false [.sc .sl] K w:=
 Lq s (M6 (ρ:=C2) (by rw[Fm];rfl) (by omega) hN h k)
theorem AfY:Wc Pg 283 C2 C2.v:=λh hp hN _ k=>Hf _ _ (C0 (ρ:=C2) (HF C2) h hp hN k)
variable {f:Value}{F:Nat->Prop}
theorem N8 {l:List _}{p:_->Bool}(h:A1 C2 w s l)(hp:Go.Sx.QX Pg f C2.v p F l w)(hN:l.length<=100000000){K:TR [.sc .b]->Pr}(k:∀w',Aa [] w w'->K (l.any p,()) w'):Cl Pg 228 [.slice s.p s.len s.cap,f] false [.sc .b] K w:=
 Fz s f (BP (ρ:=C2) AfY h hp hN k)
variable {i j:Nat}{y z:Int}
theorem NS {l:List _}(h:Bh C2 w s l)(hij:i<=j)(hj:j<=l.length)(hN:l.length<=100000000)(hy:y=(i:Int))(hz:z=(j:Int)){K:TR [.sc .sl]->Pr}(k:∀r w',Bh C2 w' r (l.take i++l.drop j)->(∀x∈Ai r,x∈Ai s)->Aa (Ai s) w w'->K (r,()) w'):Cl Pg 295 [.slice s.p s.len s.cap,.int .i64 y,.int .i64 z] false [.sc .sl] K w:=
 Jv s y z (Ns (ρ:=C2) (by rw[Fm];rfl) Ack h hij hj hN hy hz k)
theorem VH {l:List _}{t:ByteArray}{c:_->Int}(h:A1 C2 w s l)(hp:IsC Pg f C2.v (.string t) c l w)(hs:l.Pairwise (λa b=>c b<0->c a<0))(hN:l.length<=100000000){K:TR [.sc (.i .i64),.sc .b]->Pr}(k:∀w',Aa [] w w'->K ((Ba c l:Int),Ee c l,()) w'):Cl Pg 301 [.slice s.p s.len s.cap,.string t,f] true [.sc (.i .i64),.sc .b] K w:=
 Ey s t f (C8 (ρ:=C2) (HF C2) h hp hs hN k)
theorem Ag6:Ac1 Pg 304 111 C2.n:=by
 intro w a b o la ca lb cb cs all t fr ha hb hne h0 K h;refine⟨(false,()),w,?_,h⟩
 rw[show([Value.slice (some ⟨a,0,none⟩) la ca,.slice (some ⟨b,o,none⟩) lb cb]:List Value).toArray=#[.slice (some ⟨a,0,none⟩) la ca,.slice (some ⟨b,o,none⟩) lb cb]from rfl,
  run_callFunc_extern Tryz.func304 (by kernel_rfl) (by kernel_rfl) (by kernel_rfl) (e:=Extern.SlicesOverlaps.overlaps #[25,25] #[4]) (by kernel_rfl),
  Lib.run_overlaps_apart w 25 4 111 (by kernel_rfl) 2 (λw=>by kernel_rfl) ⟨a,0,none⟩ ⟨b,o,none⟩ la ca lb cb hne 111 t cs.size all.size (by simp[World.shape?,ha]) (by simp[World.shape?,hb]) h0 (by simp[World.frozen?,ha]) (by simp[World.frozen?,ha])]
 rfl
variable {a:Nat}
theorem VQ {l:List _}{x:_}(h:Bh C2 w s l)(ha:w.heap[a]?=some (.cells (C2.c x).toArray 111 (0,0)))(hna:a∉Ai s)(hi:i<=l.length)(hN:l.length<=100000000){K:TR [.sc .sl]->Pr}(k:∀r w',Bh C2 w' r (l.take i++x::l.drop i)->(∀y∈Ai r,y∈Ai s\/w.heap.size<=y)->Aa (Ai s) w w'->K (r,()) w'):Cl Pg 294 [.slice s.p s.len s.cap,.int .i64 (i:Int),.slice (some ⟨a,0,none⟩) 1 1] false [.sc .sl] K w:=
 JS s (i:Int) ⟨some ⟨a,0,none⟩,1,1⟩ (Kc (ρ:=C2) Ag6 (by rw[Fm];rfl) Ack (by omega) hN h ha hna hi k)
structure Op where
 kind:Int
 key:ByteArray
 value:ByteArray
 lo:ByteArray
 hi:ByteArray
 AD:Int
deriving DecidableEq
def BQ:Rec Op:=⟨[.i .i64,.s,.s,.s,.s,.i .i64],λx=>(x.kind,x.key,x.value,x.lo,x.hi,x.AD,()),rfl,by simp⟩
theorem R1:zc Pg 81=#[.int .i64 0,.string (BA []),.string (BA []),.string (BA []),.string (BA []),.int .i64 0]:=by kernel_rfl
theorem Sn {l:List Op}(h:A1 BQ w s l){i:Nat}{x:Op}(hx:l[i]?=some x){K:Int->ByteArray->ByteArray->ByteArray->ByteArray->Int->Pr}(k:K x.kind x.key x.value x.lo x.hi x.AD w):
  Ix s (i:Int) 6 (λa=>A2 .i64 (a.add 0) λx0=>BU (a.add 1) λx1=>BU (a.add 2) λx2=>BU (a.add 3) λx3=>BU (a.add 4) λx4=>A2 .i64 (a.add 5) λx5=>K x0 x1 x2 x3 x4 x5) w:=
 h.ld (K:=λy=>K y.1 y.2.1 y.2.2.1 y.2.2.2.1 y.2.2.2.2.1 y.2.2.2.2.2.1) hx k
theorem Sq (x:Op){K:Addr->Pr}{w:World}(h:∀b w1,w1.heap[b]?=some (.cells #[.int .i64 x.kind,.string x.key,.string x.value,.string x.lo,.string x.hi,.int .i64 x.AD] 81 (0,0))->w.heap.size<=b->Aa [] w w1->K ⟨b,0,none⟩ w1):
  At #[.int .i64 0,.string (BA []),.string (BA []),.string (BA []),.string (BA []),.int .i64 0] 81 (λa=>St (a.add 0) (.int .i64 x.kind)<|St (a.add 1) (.string x.key)<|St (a.add 2) (.string x.value)<|St (a.add 3) (.string x.lo)<|St (a.add 4) (.string x.hi)<|St (a.add 5) (.int .i64 x.AD)<|(K a)) w:=
 Ei (vs:=BQ.c x) rfl (BQ.one x) h
theorem Kz {l:List _}(h:A1 BQ w s l)(hN:l.length<=100000000){K:TR [.sc .sl]->Pr}(k:∀r w',Bh BQ w' r l->(∀x∈Ai r,w.heap.size<=x)->Aa [] w w'->K (r,()) w'):Cl Pg 60 [.slice s.p s.len s.cap] false [.sc .sl] K w:=
 M0 s (M6 (ρ:=BQ) (by rw[R1];rfl) (by omega) hN h k)
theorem Akj:Wc Pg 96 BQ BQ.v:=λh hp hN _ k=>Jb _ _ (C0 (ρ:=BQ) (HF BQ) h hp hN k)
theorem BN {l:List _}{p:_->Bool}(h:A1 BQ w s l)(hp:Go.Sx.QX Pg f BQ.v p F l w)(hN:l.length<=100000000){K:TR [.sc .b]->Pr}(k:∀w',Aa [] w w'->K (l.any p,()) w'):Cl Pg 48 [.slice s.p s.len s.cap,f] false [.sc .b] K w:=
 GK s f (BP (ρ:=BQ) Akj h hp hN k)
structure Ow where
 lo:ByteArray
 BO:Int
deriving DecidableEq
def Mj:Rec Ow:=⟨[.s,.i .i64],λx=>(x.lo,x.BO,()),rfl,by simp⟩
theorem Ael:zc Pg 70=#[.string (BA []),.int .i64 0]:=by kernel_rfl
theorem UP {l:List Ow}(h:A1 Mj w s l){i:Nat}{x:Ow}(hx:l[i]?=some x){K:ByteArray->Int->Pr}(k:K x.lo x.BO w):
  Ix s (i:Int) 2 (λa=>BU (a.add 0) λx0=>A2 .i64 (a.add 1) λx1=>K x0 x1) w:=
 h.ld (K:=λy=>K y.1 y.2.1) hx k
theorem UB (x:Ow){K:Addr->Pr}{w:World}(h:∀b w1,w1.heap[b]?=some (.cells #[.string x.lo,.int .i64 x.BO] 70 (0,0))->w.heap.size<=b->Aa [] w w1->K ⟨b,0,none⟩ w1):
  At #[.string (BA []),.int .i64 0] 70 (λa=>St (a.add 0) (.string x.lo)<|St (a.add 1) (.int .i64 x.BO)<|(K a)) w:=
 Ei (vs:=Mj.c x) rfl (Mj.one x) h
theorem NO {l:List _}(h:A1 Mj w s l)(hN:l.length<=100000000){K:TR [.sc .sl]->Pr}(k:∀r w',Bh Mj w' r l->(∀x∈Ai r,w.heap.size<=x)->Aa [] w w'->K (r,()) w'):Cl Pg 57 [.slice s.p s.len s.cap] false [.sc .sl] K w:=
 JL s (M6 (ρ:=Mj) (by rw[Ael];rfl) (by omega) hN h k)
structure Rn where
 lo:ByteArray
 hi:ByteArray
deriving DecidableEq
def V8:Rec Rn:=⟨[.s,.s],λx=>(x.lo,x.hi,()),rfl,by simp⟩
theorem Aes:zc Pg 37=#[.string (BA []),.string (BA [])]:=by kernel_rfl
theorem UG {l:List Rn}(h:A1 V8 w s l){i:Nat}{x:Rn}(hx:l[i]?=some x){K:ByteArray->ByteArray->Pr}(k:K x.lo x.hi w):
  Ix s (i:Int) 2 (λa=>BU (a.add 0) λx0=>BU (a.add 1) λx1=>K x0 x1) w:=
 h.ld (K:=λy=>K y.1 y.2.1) hx k
theorem DS (x:Rn){K:Addr->Pr}{w:World}(h:∀b w1,w1.heap[b]?=some (.cells #[.string x.lo,.string x.hi] 37 (0,0))->w.heap.size<=b->Aa [] w w1->K ⟨b,0,none⟩ w1):
  At #[.string (BA []),.string (BA [])] 37 (λa=>St (a.add 0) (.string x.lo)<|St (a.add 1) (.string x.hi)<|(K a)) w:=
 Ei (vs:=V8.c x) rfl (V8.one x) h
theorem AdB:Wc Pg 223 V8 V8.v:=λh hp hN _ k=>GD _ _ (C0 (ρ:=V8) (HF V8) h hp hN k)
theorem ME {l:List _}{p:_->Bool}(h:A1 V8 w s l)(hp:Go.Sx.QX Pg f V8.v p F l w)(hN:l.length<=100000000){K:TR [.sc .b]->Pr}(k:∀w',Aa [] w w'->K (l.any p,()) w'):Cl Pg 134 [.slice s.p s.len s.cap,f] false [.sc .b] K w:=
 Ff s f (BP (ρ:=V8) AdB h hp hN k)
structure Lk where
 lo:ByteArray
 hi:ByteArray
 wr:Bool
deriving DecidableEq
def YT:Rec Lk:=⟨[.s,.s,.b],λx=>(x.lo,x.hi,x.wr,()),rfl,by simp⟩
theorem Acf:zc Pg 99=#[.string (BA []),.string (BA []),.bool false]:=by kernel_rfl
theorem SZ {l:List Lk}(h:A1 YT w s l){i:Nat}{x:Lk}(hx:l[i]?=some x){K:ByteArray->ByteArray->Bool->Pr}(k:K x.lo x.hi x.wr w):
  Ix s (i:Int) 3 (λa=>BU (a.add 0) λx0=>BU (a.add 1) λx1=>E7 (a.add 2) λx2=>K x0 x1 x2) w:=
 h.ld (K:=λy=>K y.1 y.2.1 y.2.2.1) hx k
structure Rs where
 found:Bool
 value:ByteArray
 sp:Sl
 LL:List Pa
def Xg:Rec Rs:=⟨[.b,.s,.sl],λx=>(x.found,x.value,x.sp,()),rfl,by simp⟩
theorem WI:zc Pg 83=#[.bool false,.string (BA []),.slice none 0 0]:=by kernel_rfl
theorem Acr:Wc Pg 282 Xg Xg.v:=λh hp hN _ k=>FQ _ _ (C0 (ρ:=Xg) (HF Xg) h hp hN k)
theorem Mi {l:List _}{p:_->Bool}(h:A1 Xg w s l)(hp:Go.Sx.QX Pg f Xg.v p F l w)(hN:l.length<=100000000){K:TR [.sc .b]->Pr}(k:∀w',Aa [] w w'->K (l.any p,()) w'):Cl Pg 226 [.slice s.p s.len s.cap,f] false [.sc .b] K w:=
 EU s f (BP (ρ:=Xg) Acr h hp hN k)
structure Hd where
 Ah:Int
 so:Sl
 ops:List Op
def Fo:Rec Hd:=⟨[.i .u64,.sl],λx=>(x.Ah,x.so,()),rfl,by simp⟩
theorem Tr:zc Pg 60=#[.int .u64 0,.slice none 0 0]:=by kernel_rfl
theorem AbT:∀v∈(zc Pg 60).toList,v.oneCell'=true:=by rw[Tr];simp[Value.oneCell']
theorem I0 {l:List Hd}(h:A1 Fo w s l){i:Nat}{x:Hd}(hx:l[i]?=some x){K:Int->Sl->Pr}(k:K x.Ah x.so w):
  Ix s (i:Int) 2 (λa=>A2 .u64 (a.add 0) λx0=>DN (a.add 1) λx1=>K x0 x1) w:=
 h.ld (K:=λy=>K y.1 y.2.1) hx k
theorem Lz (x:Hd){K:Addr->Pr}{w:World}(h:∀b w1,w1.heap[b]?=some (.cells #[.int .u64 x.Ah,.slice x.so.p x.so.len x.so.cap] 60 (0,0))->w.heap.size<=b->Aa [] w w1->K ⟨b,0,none⟩ w1):
  At #[.int .u64 0,.slice none 0 0] 60 (λa=>St (a.add 0) (.int .u64 x.Ah)<|St (a.add 1) (.slice x.so.p x.so.len x.so.cap)<|(K a)) w:=
 Ei (vs:=Fo.c x) rfl (Fo.one x) h
theorem XV {l:List _}(h:A1 Fo w s l)(hN:l.length<=100000000){K:TR [.sc .sl]->Pr}(k:∀r w',Bh Fo w' r l->(∀x∈Ai r,w.heap.size<=x)->Aa [] w w'->K (r,()) w'):Cl Pg 58 [.slice s.p s.len s.cap] false [.sc .sl] K w:=
 K7 s (M6 (ρ:=Fo) (by rw[Tr];rfl) (by omega) hN h k)
theorem AgR:Wc Pg 99 Fo Fo.v:=λh hp hN _ k=>Hp _ _ (C0 (ρ:=Fo) (HF Fo) h hp hN k)
theorem Gn {l:List _}{p:_->Bool}(h:A1 Fo w s l)(hp:Go.Sx.QX Pg f Fo.v p F l w)(hN:l.length<=100000000){K:TR [.sc .b]->Pr}(k:∀w',Aa [] w w'->K (l.any p,()) w'):Cl Pg 52 [.slice s.p s.len s.cap,f] false [.sc .b] K w:=
 F0 s f (BP (ρ:=Fo) AgR h hp hN k)
theorem VW {l:List _}(h:Bh Fo w s l)(hij:i<=j)(hj:j<=l.length)(hN:l.length<=100000000)(hy:y=(i:Int))(hz:z=(j:Int)){K:TR [.sc .sl]->Pr}(k:∀r w',Bh Fo w' r (l.take i++l.drop j)->(∀x∈Ai r,x∈Ai s)->Aa (Ai s) w w'->K (r,()) w'):Cl Pg 125 [.slice s.p s.len s.cap,.int .i64 y,.int .i64 z] false [.sc .sl] K w:=
 JD s y z (Ns (ρ:=Fo) (by rw[Tr];rfl) AbT h hij hj hN hy hz k)
theorem VE {l:List _}{t:Int}{c:_->Int}(h:A1 Fo w s l)(hp:IsC Pg f Fo.v (.int .u64 t) c l w)(hs:l.Pairwise (λa b=>c b<0->c a<0))(hN:l.length<=100000000){K:TR [.sc (.i .i64),.sc .b]->Pr}(k:∀w',Aa [] w w'->K ((Ba c l:Int),Ee c l,()) w'):Cl Pg 206 [.slice s.p s.len s.cap,.int .u64 t,f] true [.sc (.i .i64),.sc .b] K w:=
 Es s t f (C8 (ρ:=Fo) (HF Fo) h hp hs hN k)
theorem Agq:Ac1 Pg 275 60 Fo.n:=by
 intro w a b o la ca lb cb cs all t fr ha hb hne h0 K h;refine⟨(false,()),w,?_,h⟩
 rw[show([Value.slice (some ⟨a,0,none⟩) la ca,.slice (some ⟨b,o,none⟩) lb cb]:List Value).toArray=#[.slice (some ⟨a,0,none⟩) la ca,.slice (some ⟨b,o,none⟩) lb cb]from rfl,
  run_callFunc_extern Tryz.func275 (by kernel_rfl) (by kernel_rfl) (by kernel_rfl) (e:=Extern.SlicesOverlaps.overlaps #[34,34] #[4]) (by kernel_rfl),
  Lib.run_overlaps_apart w 34 4 60 (by kernel_rfl) 2 (λw=>by kernel_rfl) ⟨a,0,none⟩ ⟨b,o,none⟩ la ca lb cb hne 60 t cs.size all.size (by simp[World.shape?,ha]) (by simp[World.shape?,hb]) h0 (by simp[World.frozen?,ha]) (by simp[World.frozen?,ha])]
 rfl
theorem VX {l:List _}{x:_}(h:Bh Fo w s l)(ha:w.heap[a]?=some (.cells (Fo.c x).toArray 60 (0,0)))(hna:a∉Ai s)(hi:i<=l.length)(hN:l.length<=100000000){K:TR [.sc .sl]->Pr}(k:∀r w',Bh Fo w' r (l.take i++x::l.drop i)->(∀y∈Ai r,y∈Ai s\/w.heap.size<=y)->Aa (Ai s) w w'->K (r,()) w'):Cl Pg 213 [.slice s.p s.len s.cap,.int .i64 (i:Int),.slice (some ⟨a,0,none⟩) 1 1] false [.sc .sl] K w:=
 Kj s (i:Int) ⟨some ⟨a,0,none⟩,1,1⟩ (Kc (ρ:=Fo) Agq (by rw[Tr];rfl) AbT (by omega) hN h ha hna hi k)
structure Wt where
 Ah:Int
 so:Sl
 sk:Sl
 next:Int
 ops:List Op
 BB:List Lk
def NF:Rec Wt:=⟨[.i .u64,.sl,.sl,.i .i64],λx=>(x.Ah,x.so,x.sk,x.next,()),rfl,by simp⟩
theorem Xy:zc Pg 114=#[.int .u64 0,.slice none 0 0,.slice none 0 0,.int .i64 0]:=by kernel_rfl
theorem AbF:∀v∈(zc Pg 114).toList,v.oneCell'=true:=by rw[Xy];simp[Value.oneCell']
theorem AgE {l:List Wt}(h:A1 NF w s l){i:Nat}{x:Wt}(hx:l[i]?=some x){K:Int->Sl->Sl->Int->Pr}(k:K x.Ah x.so x.sk x.next w):
  Ix s (i:Int) 4 (λa=>A2 .u64 (a.add 0) λx0=>DN (a.add 1) λx1=>DN (a.add 2) λx2=>A2 .i64 (a.add 3) λx3=>K x0 x1 x2 x3) w:=
 h.ld (K:=λy=>K y.1 y.2.1 y.2.2.1 y.2.2.2.1) hx k
theorem AgD (x:Wt){K:Addr->Pr}{w:World}(h:∀b w1,w1.heap[b]?=some (.cells #[.int .u64 x.Ah,.slice x.so.p x.so.len x.so.cap,.slice x.sk.p x.sk.len x.sk.cap,.int .i64 x.next] 114 (0,0))->w.heap.size<=b->Aa [] w w1->K ⟨b,0,none⟩ w1):
  At #[.int .u64 0,.slice none 0 0,.slice none 0 0,.int .i64 0] 114 (λa=>St (a.add 0) (.int .u64 x.Ah)<|St (a.add 1) (.slice x.so.p x.so.len x.so.cap)<|St (a.add 2) (.slice x.sk.p x.sk.len x.sk.cap)<|St (a.add 3) (.int .i64 x.next)<|(K a)) w:=
 Ei (vs:=NF.c x) rfl (NF.one x) h
theorem Agj:Wc Pg 281 NF NF.v:=λh hp hN _ k=>Hl _ _ (C0 (ρ:=NF) (HF NF) h hp hN k)
theorem NB {l:List _}{p:_->Bool}(h:A1 NF w s l)(hp:Go.Sx.QX Pg f NF.v p F l w)(hN:l.length<=100000000){K:TR [.sc .b]->Pr}(k:∀w',Aa [] w w'->K (l.any p,()) w'):Cl Pg 221 [.slice s.p s.len s.cap,f] false [.sc .b] K w:=
 F4 s f (BP (ρ:=NF) Agj h hp hN k)
theorem VV {l:List _}(h:Bh NF w s l)(hij:i<=j)(hj:j<=l.length)(hN:l.length<=100000000)(hy:y=(i:Int))(hz:z=(j:Int)){K:TR [.sc .sl]->Pr}(k:∀r w',Bh NF w' r (l.take i++l.drop j)->(∀x∈Ai r,x∈Ai s)->Aa (Ai s) w w'->K (r,()) w'):Cl Pg 128 [.slice s.p s.len s.cap,.int .i64 y,.int .i64 z] false [.sc .sl] K w:=
 JM s y z (Ns (ρ:=NF) (by rw[Xy];rfl) AbF h hij hj hN hy hz k)
theorem VF {l:List _}{t:Int}{c:_->Int}(h:A1 NF w s l)(hp:IsC Pg f NF.v (.int .u64 t) c l w)(hs:l.Pairwise (λa b=>c b<0->c a<0))(hN:l.length<=100000000){K:TR [.sc (.i .i64),.sc .b]->Pr}(k:∀w',Aa [] w w'->K ((Ba c l:Int),Ee c l,()) w'):Cl Pg 204 [.slice s.p s.len s.cap,.int .u64 t,f] true [.sc (.i .i64),.sc .b] K w:=
 Eu s t f (C8 (ρ:=NF) (HF NF) h hp hs hN k)
theorem Agk:Ac1 Pg 211 114 NF.n:=by
 intro w a b o la ca lb cb cs all t fr ha hb hne h0 K h;refine⟨(false,()),w,?_,h⟩
 rw[show([Value.slice (some ⟨a,0,none⟩) la ca,.slice (some ⟨b,o,none⟩) lb cb]:List Value).toArray=#[.slice (some ⟨a,0,none⟩) la ca,.slice (some ⟨b,o,none⟩) lb cb]from rfl,
  run_callFunc_extern Tryz.func211 (by kernel_rfl) (by kernel_rfl) (by kernel_rfl) (e:=Extern.SlicesOverlaps.overlaps #[90,90] #[4]) (by kernel_rfl),
  Lib.run_overlaps_apart w 90 4 114 (by kernel_rfl) 4 (λw=>by kernel_rfl) ⟨a,0,none⟩ ⟨b,o,none⟩ la ca lb cb hne 114 t cs.size all.size (by simp[World.shape?,ha]) (by simp[World.shape?,hb]) h0 (by simp[World.frozen?,ha]) (by simp[World.frozen?,ha])]
 rfl
theorem Wa {l:List _}{x:_}(h:Bh NF w s l)(ha:w.heap[a]?=some (.cells (NF.c x).toArray 114 (0,0)))(hna:a∉Ai s)(hi:i<=l.length)(hN:l.length<=100000000){K:TR [.sc .sl]->Pr}(k:∀r w',Bh NF w' r (l.take i++x::l.drop i)->(∀y∈Ai r,y∈Ai s\/w.heap.size<=y)->Aa (Ai s) w w'->K (r,()) w'):Cl Pg 122 [.slice s.p s.len s.cap,.int .i64 (i:Int),.slice (some ⟨a,0,none⟩) 1 1] false [.sc .sl] K w:=
 Jz s (i:Int) ⟨some ⟨a,0,none⟩,1,1⟩ (Kc (ρ:=NF) Agk (by rw[Xy];rfl) AbF (by omega) hN h ha hna hi k)
structure Ev where
 Ah:Int
 dead:Bool
deriving DecidableEq
def evR:Rec Ev:=⟨[.i .u64,.b],λx=>(x.Ah,x.dead,()),rfl,by simp⟩
theorem AdC:zc Pg 282=#[.int .u64 0,.bool false]:=by kernel_rfl
theorem Aej {l:List Ev}(h:A1 evR w s l){i:Nat}{x:Ev}(hx:l[i]?=some x){K:Int->Bool->Pr}(k:K x.Ah x.dead w):
  Ix s (i:Int) 2 (λa=>A2 .u64 (a.add 0) λx0=>E7 (a.add 1) λx1=>K x0 x1) w:=
 h.ld (K:=λy=>K y.1 y.2.1) hx k
structure Mg where
 kind:Int
 src:Int
 dst:Int
 Ch:Int
 code:Int
 peer:Int
 VT:Int
 Au:Int
 Ah:Int
 low:Int
 CZ:Int
 Ao:Int
 move:Int
 attempt:Int
 n:Int
 flag:Bool
 FN:ByteArray
 G6:ByteArray
 so:Sl
 sr:Sl
 sw:Sl
 ops:List Op
 results:List Rs
 Ac:List Ow
def Yz:Rec Mg:=⟨[.i .i64,.i .i64,.i .i64,.i .i64,.i .i64,.i .i64,.i .u64,.i .u64,.i .u64,.i .u64,.i .u64,.i .u64,.i .u64,.i .u64,.i .u64,.b,.s,.s,.sl,.sl,.sl],λx=>(x.kind,x.src,x.dst,x.Ch,x.code,x.peer,x.VT,x.Au,x.Ah,x.low,x.CZ,x.Ao,x.move,x.attempt,x.n,x.flag,x.FN,x.G6,x.so,x.sr,x.sw,()),rfl,by simp⟩
theorem AhR:zc Pg 47=#[.int .i64 0,.int .i64 0,.int .i64 0,.int .i64 0,.int .i64 0,.int .i64 0,.int .u64 0,.int .u64 0,.int .u64 0,.int .u64 0,.int .u64 0,.int .u64 0,.int .u64 0,.int .u64 0,.int .u64 0,.bool false,.string (BA []),.string (BA []),.slice none 0 0,.slice none 0 0,.slice none 0 0]:=by kernel_rfl
theorem AiJ {l:List Mg}(h:A1 Yz w s l){i:Nat}{x:Mg}(hx:l[i]?=some x){K:Int->Int->Int->Int->Int->Int->Int->Int->Int->Int->Int->Int->Int->Int->Int->Bool->ByteArray->ByteArray->Sl->Sl->Sl->Pr}(k:K x.kind x.src x.dst x.Ch x.code x.peer x.VT x.Au x.Ah x.low x.CZ x.Ao x.move x.attempt x.n x.flag x.FN x.G6 x.so x.sr x.sw w):
  Ix s (i:Int) 21 (λa=>A2 .i64 (a.add 0) λx0=>A2 .i64 (a.add 1) λx1=>A2 .i64 (a.add 2) λx2=>A2 .i64 (a.add 3) λx3=>A2 .i64 (a.add 4) λx4=>A2 .i64 (a.add 5) λx5=>A2 .u64 (a.add 6) λx6=>A2 .u64 (a.add 7) λx7=>A2 .u64 (a.add 8) λx8=>A2 .u64 (a.add 9) λx9=>A2 .u64 (a.add 10) λx10=>A2 .u64 (a.add 11) λx11=>A2 .u64 (a.add 12) λx12=>A2 .u64 (a.add 13) λx13=>A2 .u64 (a.add 14) λx14=>E7 (a.add 15) λx15=>BU (a.add 16) λx16=>BU (a.add 17) λx17=>DN (a.add 18) λx18=>DN (a.add 19) λx19=>DN (a.add 20) λx20=>K x0 x1 x2 x3 x4 x5 x6 x7 x8 x9 x10 x11 x12 x13 x14 x15 x16 x17 x18 x19 x20) w:=
 h.ld (K:=λy=>K y.1 y.2.1 y.2.2.1 y.2.2.2.1 y.2.2.2.2.1 y.2.2.2.2.2.1 y.2.2.2.2.2.2.1 y.2.2.2.2.2.2.2.1 y.2.2.2.2.2.2.2.2.1 y.2.2.2.2.2.2.2.2.2.1 y.2.2.2.2.2.2.2.2.2.2.1 y.2.2.2.2.2.2.2.2.2.2.2.1 y.2.2.2.2.2.2.2.2.2.2.2.2.1 y.2.2.2.2.2.2.2.2.2.2.2.2.2.1 y.2.2.2.2.2.2.2.2.2.2.2.2.2.2.1 y.2.2.2.2.2.2.2.2.2.2.2.2.2.2.2.1 y.2.2.2.2.2.2.2.2.2.2.2.2.2.2.2.2.1 y.2.2.2.2.2.2.2.2.2.2.2.2.2.2.2.2.2.1 y.2.2.2.2.2.2.2.2.2.2.2.2.2.2.2.2.2.2.1 y.2.2.2.2.2.2.2.2.2.2.2.2.2.2.2.2.2.2.2.1 y.2.2.2.2.2.2.2.2.2.2.2.2.2.2.2.2.2.2.2.2.1) hx k
def HL:Rec Int:=Rec.sca (.i .u64) rfl
theorem GL:zc Pg 32=#[.int .u64 0]:=by kernel_rfl
theorem WQ:∀v∈(zc Pg 32).toList,v.oneCell'=true:=by rw[GL];simp[Value.oneCell']
theorem UM {l:List _}(h:A1 HL w s l)(hN:l.length<=100000000){K:TR [.sc .sl]->Pr}(k:∀r w',Bh HL w' r l->(∀x∈Ai r,w.heap.size<=x)->Aa [] w w'->K (r,()) w'):Cl Pg 59 [.slice s.p s.len s.cap] false [.sc .sl] K w:=
 Jc s (M6 (ρ:=HL) (by rw[GL];rfl) (by omega) hN h k)
theorem Acs:Wc Pg 203 HL (Kd.enc ((.i .u64))):=λh hp hN _ k=>Gd _ _ (C0 (ρ:=HL) (Ai6 (.i .u64) rfl) h hp hN k)
theorem NJ {l:List _}{p:_->Bool}(h:Bh HL w s l)(hp:Go.Sx.QX Pg f (Kd.enc ((.i .u64))) p (·∈Ai s) l w)(hN:l.length<=100000000){K:TR [.sc .sl]->Pr}(k:∀r w',Bh HL w' r (l.filter (λx=>!p x))->(∀x∈Ai r,x∈Ai s)->Aa (Ai s) w w'->K (r,()) w'):Cl Pg 113 [.slice s.p s.len s.cap,f] false [.sc .sl] K w:=
 Fw s f (NK (ρ:=HL) Acs (AfZ (.i .u64) rfl) (by rw[GL];rfl) WQ h hp hN k)
theorem AcY:Ac1 Pg 279 32 HL.n:=by
 intro w a b o la ca lb cb cs all t fr ha hb hne h0 K h;refine⟨(false,()),w,?_,h⟩
 rw[show([Value.slice (some ⟨a,0,none⟩) la ca,.slice (some ⟨b,o,none⟩) lb cb]:List Value).toArray=#[.slice (some ⟨a,0,none⟩) la ca,.slice (some ⟨b,o,none⟩) lb cb]from rfl,
  run_callFunc_extern Tryz.func279 (by kernel_rfl) (by kernel_rfl) (by kernel_rfl) (e:=Extern.SlicesOverlaps.overlaps #[35,35] #[4]) (by kernel_rfl),
  Lib.run_overlaps_apart w 35 4 32 (by kernel_rfl) 1 (λw=>by kernel_rfl) ⟨a,0,none⟩ ⟨b,o,none⟩ la ca lb cb hne 32 t cs.size all.size (by simp[World.shape?,ha]) (by simp[World.shape?,hb]) h0 (by simp[World.frozen?,ha]) (by simp[World.frozen?,ha])]
 rfl
theorem SH {l:List _}{x:_}(h:Bh HL w s l)(ha:w.heap[a]?=some (.cells (HL.c x).toArray 32 (0,0)))(hna:a∉Ai s)(hi:i<=l.length)(hN:l.length<=100000000){K:TR [.sc .sl]->Pr}(k:∀r w',Bh HL w' r (l.take i++x::l.drop i)->(∀y∈Ai r,y∈Ai s\/w.heap.size<=y)->Aa (Ai s) w w'->K (r,()) w'):Cl Pg 217 [.slice s.p s.len s.cap,.int .i64 (i:Int),.slice (some ⟨a,0,none⟩) 1 1] false [.sc .sl] K w:=
 Ig s (i:Int) ⟨some ⟨a,0,none⟩,1,1⟩ (Kc (ρ:=HL) AcY (by rw[GL];rfl) WQ (by omega) hN h ha hna hi k)
open Go Go.Sx
def Da (lo hi:ByteArray):Bool:=!(decide (lo.size>12)||decide (hi.size>12)||(!(seq hi (BA []))&&!(slt lo hi)))
def AV (a b:ByteArray):ByteArray:=if seq a (BA [])||(!(seq b (BA []))&&slt b a)then b else a
def HZ (a b:ByteArray):ByteArray:=if !(slt a b)then a else b
def Bw (alo ahi blo bhi:ByteArray):Bool:=Da alo ahi&&Da blo bhi&&Da (HZ alo blo) (AV ahi bhi)
def CW (alo ahi blo bhi:ByteArray):Bool:=Da alo ahi&&Da blo bhi&&(slt alo blo||seq alo blo)&&seq (AV ahi bhi) bhi
theorem seq_eq (a b:ByteArray):seq a b=decide (a=b):=by
 unfold seq;by_cases h:a=b
 ·subst h;simp
 ·rw[decide_eq_false h,beq_eq_false_iff_ne];intro e;rw[ByteArray.toList_eq,ByteArray.toList_eq]at e;exact h (ByteArray.ext (Array.toList_inj.1 e))
theorem Mz (a b:ByteArray):slt a b=decide (a.toList<b.toList):=Go.Proofs.bytesLess_eq _ _
theorem KF (a:ByteArray):slt a a=false:=by rw[Mz];simp[List.lt_irrefl]
variable {b:ByteArray}
theorem Ct {a:ByteArray}(h:slt a b=true):slt b a=false:=by
 rw[Mz,decide_eq_true_iff]at h;rw[Mz,decide_eq_false_iff_not];exact List.lt_asymm h
theorem Ek {a:ByteArray}(h:slt a b=false)(h2:slt b a=false):a=b:=by
 rw[Mz,decide_eq_false_iff_not]at h h2;have:=List.le_antisymm (List.not_lt.1 h2) (List.not_lt.1 h);rw[ByteArray.toList_eq,ByteArray.toList_eq]at this;exact ByteArray.ext (Array.toList_inj.1 this)
theorem Acu (a b:ByteArray):HZ a b=HZ b a:=by
 unfold HZ;cases h:slt a b<;>cases h2:slt b a
 ·simpa using Ek h h2
 ·rfl
 ·rfl
 ·rw[Ct h]at h2;cases h2
theorem Z4 (a b:ByteArray):AV a b=AV b a:=by
 unfold AV;rw[seq_eq,seq_eq];by_cases ha:a=BA []<;>by_cases hb:b=BA []
 ·rw[ha,hb]
 ·simp[ha,hb]
 ·simp[ha,hb]
 ·simp only[ha,hb,decide_false,Bool.false_or,Bool.not_false,Bool.true_and];cases h:slt a b<;>cases h2:slt b a
  ·simpa using Ek h h2
  ·rfl
  ·rfl
  ·rw[Ct h]at h2;cases h2
theorem Mp (a b c d:ByteArray):Bw a b c d=Bw c d a b:=by
 unfold Bw;rw[Acu a c,Z4 b d,Bool.and_comm (Da a b)]
theorem AbX (a b:ByteArray):HZ a b=a\/HZ a b=b:=by unfold HZ;split<;>simp
theorem W2 (a b:ByteArray):AV a b=a\/AV a b=b:=by unfold AV;split<;>simp
theorem QW {a:ByteArray}(h:Da a b=true):a.size<=12/\b.size<=12:=by
 unfold Da at h;simp at h;omega
theorem TQ (a b:ByteArray)(w:World):Cl Pg 103 [.string a,.string b] false [.sc .s] (λr w'=>r.1=AV a b/\w=w') w:=by
 refine AR λR hR=>?_;apply S3;have hR':R (AV a b,()) w:=hR _ _ ⟨rfl,rfl⟩;unfold TT;unfold AV at hR';simp only[Jp];cases h1:seq a (BA [])<;>cases h2:seq b (BA [])<;>cases h3:slt b a<;>simp only[Br,Bool.not_true,Bool.not_false]<;>simpa[h1,h2,h3]using hR'
theorem AiT (w:World):Cl Pg 94 [] false [.ag [.s,.s]] (λr w'=>r.1.1=BA []/\r.1.2.1=BA []/\Aa [] w w') w:=by
 refine AR λR hR=>?_;apply Wb;unfold ZJ;dsimp only[Ls,Vt];refine Ad λb w1 hb hn k1=>?_;simp only[Cr];refine Ax hb 0 _ rfl (by simp) λw2 hb2 k2=>?_;refine Ax hb2 1 _ rfl (by simp) λw3 hb3 k3=>?_;have hb4:w3.heap[b]?=some (.cells #[.string (BA []),.string (BA [])] 37 (0,0)):=hb3;simp only[CP,hb4,Ck,Nat.reduceAdd];exact hR ((BA [],BA [],()),()) _ ⟨rfl,rfl,Ky (Ky k1 k2 (by simpa using hn)) k3 (by simpa using hn)⟩
theorem WO (n:Nat):decide (((n:Nat):Int)>12)=decide (n>12):=decide_eq_decide.2 (by omega)
theorem Qu (lo hi:ByteArray)(w:World):Cl Pg 91 [.agg #[.string lo,.string hi]] false [.sc (.i .i64)] (λr w'=>r.1=(if Da lo hi then 0 else 21)/\Aa [] w w') w:=by
 refine AR λR hR=>?_;apply Jt;unfold Hy;dsimp only[Ls,Vt];refine Ad λb w1 hb hn k1=>?_;have hR':R (if Da lo hi then 0 else 21,()) w1:=hR _ _ ⟨rfl,k1⟩;unfold Da at hR';simp only[Jp,CP,hb,Ck,Nat.reduceAdd,WO];cases h1:decide (lo.size>12)<;>cases h2:decide (hi.size>12)<;>cases h3:seq hi (BA [])<;>cases h4:slt lo hi<;>rw[h1,h2,h3,h4]at hR'<;>simp only[CP,hb,Ck,Nat.reduceAdd,WO,h1,h2,h3,h4,Bool.not_true,Bool.not_false]<;>exact hR'
theorem Hv (lo hi:ByteArray)(w:World):Cl Pg 45 [.agg #[.string lo,.string hi]] false [.sc (.i .i64)] (λr w'=>r.1=(if Da lo hi then 0 else 21)/\Aa [] w w') w:=by
 refine AR λR hR=>?_;apply SD;unfold TF;dsimp only[Ls,Vt];refine Ad λb w1 hb hn k1=>?_;simp only[CP,hb,Ck,Nat.reduceAdd];refine Cl.mono (AiT _) ?_;rintro⟨⟨ra,rb,_⟩,_⟩ w2 ⟨e1,e2,k2⟩;dsimp only at e1 e2;subst e1 e2;have hb2:w2.heap[b]?=_:=k2.at (show w1.drew.heap[b]?=_ from hb) (by simp);have k02:Aa [] w w2:=Aj k1.drew k2;simp only[CP,hb2,Ck,Nat.reduceAdd];refine⟨by trivial,?_⟩;have hR':R (if Da lo hi then 0 else 21,()) w2:=hR _ _ ⟨rfl,k02⟩;rw[Bool.and_true];cases h0:seq lo (BA [])&&seq hi (BA [])with
 |true=>
  rw[Bool.and_eq_true,seq_eq,seq_eq,decide_eq_true_iff,decide_eq_true_iff]at h0;obtain⟨rfl,rfl⟩:=h0;simp only[Br];simpa[Da,BA,ByteArray.size,seq_eq]using hR'
 |false=>
  unfold Da at hR';simp only[Jp,CP,hb2,Ck,Nat.reduceAdd,WO];cases h1:decide (lo.size>12)<;>cases h2:decide (hi.size>12)<;>cases h3:seq hi (BA [])<;>cases h4:slt lo hi<;>rw[h1,h2,h3,h4]at hR'<;>simp only[CP,hb2,Ck,Nat.reduceAdd,WO,h1,h2,h3,h4,Bool.not_true,Bool.not_false]<;>exact hR'
theorem ok0 (c:Bool):((if c then(0:Int)else 21)==0)=c:=by cases c<;>rfl
theorem ok1 (c:Bool):((if c then(0:Int)else 21) !=0)=!c:=by cases c<;>rfl
def mLo (a b c d:ByteArray):ByteArray:=if Bw a b c d then HZ a c else BA []
def mHi (a b c d:ByteArray):ByteArray:=if Bw a b c d then AV b d else BA []
theorem WV (a b c d:ByteArray)(w:World):Cl Pg 105 [.agg #[.string a,.string b],.agg #[.string c,.string d]] true [.ag [.s,.s],.sc .b] (λr w'=>r=((mLo a b c d,mHi a b c d,()),Bw a b c d,())/\Aa [] w w') w:=by
 refine AR λR hR=>?_;apply TE;unfold WH;dsimp only[Ls,Tt,Vt];refine Ad λa1 w1 h1 n1 k1=>?_;refine Ad λa2 w2 h2 n2 k2=>?_;have h1:=k2.at h1 (by simp);refine Ad λa3 w3 h3 n3 k3=>?_;have h1:=k3.at h1 (by simp);have h2:=k3.at h2 (by simp);have k03:=Aj (Aj k1 k2) k3;have n3':w.heap.size<=a3:=by have:=k1.size;have:=k2.size;omega
 clear k1 k2 k3;refine AG (λs w'=>∃x,s=(some ⟨x,0,none⟩,())/\w'.heap[x]?=some (.cells #[.string (HZ a c),.string (AV b d)] 37 (0,0))/\Aa [] w3 w') (λJ hJ=>?_) ?_
 ·simp only[CP,h1,h2,Ck,Nat.reduceAdd];refine⟨?_,?_⟩
  ·refine Cl.mono (TQ _ _ _) ?_;rintro⟨r,_⟩ _ ⟨e,rfl⟩;dsimp only at e;subst e;simp only[CP,h1,h2,Ck,Nat.reduceAdd];refine⟨by trivial,by trivial,?_⟩;refine Ad λx w4 h4 n4 k4=>?_;have h1:=k4.at (w:=w3.drew) h1 (by simp);have h2:=k4.at (w:=w3.drew) h2 (by simp);simp only[CP,h1,h2,Ck,Nat.reduceAdd];refine⟨by trivial,by trivial,by trivial,by trivial,?_⟩;refine Ax h4 0 _ rfl (by simp) λw5 h5 k5=>?_;refine Ax h5 1 _ rfl (by simp) λw6 h6 k6=>?_;exact hJ _ _ ⟨x,rfl,h6,Ky (Ky (Aj (Aa.refl [] w3).drew k4) k5 (by simpa using n4)) k6 (by simpa using n4)⟩
  ·refine Ad λx w4 h4 n4 k4=>?_;have h1:=k4.at (w:=w3.drew) h1 (by simp);have h2:=k4.at (w:=w3.drew) h2 (by simp);simp only[CP,h1,h2,Ck,Nat.reduceAdd];refine⟨by trivial,by trivial,by trivial,by trivial,?_⟩;refine Cl.mono (TQ _ _ _) ?_;rintro⟨r,_⟩ _ ⟨e,rfl⟩;dsimp only at e;subst e;simp only[CP,h1,h2,Ck,Nat.reduceAdd];refine⟨by trivial,by trivial,?_⟩;refine Ax h4 0 _ rfl (by simp) λw5 h5 k5=>?_;refine Ax h5 1 _ rfl (by simp) λw6 h6 k6=>?_;exact hJ _ _ ⟨x,rfl,h6,Ky (Ky (Aj (Aa.refl [] w3).drew k4) k5 (by simpa using n4)) k6 (by simpa using n4)⟩
 ·rintro _ w4 ⟨x,rfl,h4,k4⟩;have h1:=k4.at h1 (by simp);have h2:=k4.at h2 (by simp);have h3:=k4.at h3 (by simp);have k04:=Aj k03 k4;refine AG (λs w'=>s=(!(Bw a b c d),())/\Aa [] w4 w') (λJ hJ=>?_) ?_
  ·simp only[CP,h1,Ck,Nat.reduceAdd];refine Cl.mono (Hv _ _ _) ?_;rintro⟨r,_⟩ w5 ⟨e,k5⟩;dsimp only at e;subst e;simp only[ok1];unfold Bw at hJ;cases c1:Da a b with
   |false=>exact hJ _ _ ⟨by rw[c1];rfl,k5⟩
   |true=>
   have h2:=k5.at h2 (by simp);have h4:=k5.at h4 (by simp);simp only[CP,h2,Ck,Nat.reduceAdd,Bool.not_true];refine Cl.mono (Hv _ _ _) ?_;rintro⟨r,_⟩ w6 ⟨e,k6⟩;dsimp only at e;subst e;simp only[ok1];cases c2:Da c d with
   |false=>exact hJ _ _ ⟨by rw[c1,c2];rfl,Aj k5 k6⟩
   |true=>
   have h4:=k6.at h4 (by simp);simp only[CP,h4,Ck,Nat.reduceAdd,Bool.not_true];refine Cl.mono (Hv _ _ _) ?_;rintro⟨r,_⟩ w7 ⟨e,k7⟩;dsimp only at e;subst e;simp only[ok1];exact hJ _ _ ⟨by rw[c1,c2];rfl,Aj (Aj k5 k6) k7⟩
  ·rintro _ w5 ⟨rfl,k5⟩;have h3:=k5.at h3 (by simp);have h4:=k5.at h4 (by simp);have k05:=Aj k04 k5;cases cm:Bw a b c d with
   |false=>
    simp only[CP,Bool.not_false,Nat.reduceAdd];refine Ax h3 0 _ rfl (by simp) λw6 h6 k6=>?_;refine Ax h6 1 _ rfl (by simp) λw7 h7 k7=>?_;have h7':w7.heap[a3]?=some (.cells #[.string (BA []),.string (BA [])] 37 (0,0)):=h7;simp only[CP,h7',Ck,Nat.reduceAdd];exact hR _ _ ⟨by unfold mLo mHi;rw[cm];rfl,Ky (Ky k05 k6 (by simpa using n3')) k7 (by simpa using n3')⟩
   |true=>
    simp only[CP,Bool.not_true,Nat.reduceAdd,h4,Ck];refine Ax h3 0 _ rfl (by simp) λw6 h6 k6=>?_;refine Ax h6 1 _ rfl (by simp) λw7 h7 k7=>?_;have h7':w7.heap[a3]?=some (.cells #[.string (HZ a c),.string (AV b d)] 37 (0,0)):=h7;simp only[CP,h7',Ck,Nat.reduceAdd];exact hR _ _ ⟨by unfold mLo mHi;rw[cm];rfl,Ky (Ky k05 k6 (by simpa using n3')) k7 (by simpa using n3')⟩
theorem Ag7 (a b c d:ByteArray)(w:World):Cl Pg 105 [.agg #[.string a,.string b],.agg #[.string c,.string d]] true [.ag [.s,.s],.sc .b] (λr w'=>r.2.1=Bw a b c d/\Aa [] w w') w:=
 Cl.mono (WV a b c d w) (by rintro r w' ⟨rfl,k⟩;exact⟨rfl,k⟩)
theorem Wz (a b c d:ByteArray)(w:World):Cl Pg 65 [.agg #[.string a,.string b],.agg #[.string c,.string d]] false [.sc .b] (λr w'=>r.1=CW a b c d/\Aa [] w w') w:=by
 refine AR λR hR=>?_;apply Qz;unfold Rv;dsimp only[Ls,Vt];refine Ad λa1 w1 h1 n1 k1=>?_;refine Ad λa2 w2 h2 n2 k2=>?_;have h1:=k2.at h1 (by simp);have k02:=(Aj k1 k2).drew;unfold CW at hR;simp only[CP,h1,Ck,Nat.reduceAdd];refine Cl.mono (Hv _ _ _) ?_;rintro⟨r,_⟩ w5 ⟨e,k5⟩;dsimp only at e;subst e;simp only[ok0];cases c1:Da a b with
 |false=>exact hR _ _ ⟨by rw[c1];rfl,Aj k02 k5⟩
 |true=>
 have h1:=k5.at (w:=w2.drew) h1 (by simp);have h2:=k5.at (w:=w2.drew) h2 (by simp);simp only[CP,h2,Ck,Nat.reduceAdd];refine Cl.mono (Hv _ _ _) ?_;rintro⟨r,_⟩ w6 ⟨e,k6⟩;dsimp only at e;subst e;simp only[ok0];have k06:=Aj (Aj k02 k5) k6;cases c2:Da c d with
 |false=>exact hR _ _ ⟨by rw[c1,c2];rfl,k06⟩
 |true=>
 have h1:=k6.at h1 (by simp);have h2:=k6.at h2 (by simp);simp only[CP,h1,h2,Ck,Nat.reduceAdd];cases c3:slt a c||seq a c with
 |false=>exact hR _ _ ⟨by rw[c1,c2,c3];rfl,k06⟩
 |true=>
 simp only[CP,h1,h2,Ck,Nat.reduceAdd];refine Cl.mono (TQ _ _ _) ?_;rintro⟨r,_⟩ _ ⟨e,rfl⟩;dsimp only at e;subst e;simp only[CP,h1,h2,Ck,Nat.reduceAdd];refine⟨by trivial,?_⟩;exact hR _ _ ⟨by rw[c1,c2,c3];rfl,k06⟩
theorem M1 (lo hi:ByteArray){w:World}{K:TR [.sc (.i .i64)]->Pr}(k:∀w',Aa [] w w'->K (if Da lo hi then 0 else 21,()) w'):Cl Pg 45 [.agg #[.string lo,.string hi]] false [.sc (.i .i64)] K w:=
 Cl.mono (Hv lo hi w) (by rintro⟨r,_⟩ w' ⟨e,kk⟩;dsimp only at e;subst e;exact k w' kk)
theorem Vr (a b c d:ByteArray){w:World}{K:TR [.ag [.s,.s],.sc .b]->Pr}(k:∀w',Aa [] w w'->K ((mLo a b c d,mHi a b c d,()),Bw a b c d,()) w'):Cl Pg 105 [.agg #[.string a,.string b],.agg #[.string c,.string d]] true [.ag [.s,.s],.sc .b] K w:=
 Cl.mono (WV a b c d w) (by rintro r w' ⟨rfl,kk⟩;exact k w' kk)
theorem Z1 (a b c d:ByteArray){w:World}{K:TR [.sc .b]->Pr}(k:∀w',Aa [] w w'->K (CW a b c d,()) w'):Cl Pg 65 [.agg #[.string a,.string b],.agg #[.string c,.string d]] false [.sc .b] K w:=
 Cl.mono (Wz a b c d w) (by rintro⟨r,_⟩ w' ⟨e,kk⟩;dsimp only at e;subst e;exact k w' kk)
theorem WA (lo hi:ByteArray){w:World}{K:TR [.sc (.i .i64)]->Pr}(k:∀w',Aa [] w w'->K (if Da lo hi then 0 else 21,()) w'):Cl Pg 91 [.agg #[.string lo,.string hi]] false [.sc (.i .i64)] K w:=
 Cl.mono (Qu lo hi w) (by rintro⟨r,_⟩ w' ⟨e,kk⟩;dsimp only at e;subst e;exact k w' kk)
def Kx (k:ByteArray):Bool:=!(seq k (BA [])||decide (k.size>12))
theorem Hb (key:ByteArray){w:World}{K:TR [.sc (.i .i64)]->Pr}(k:K (if Kx key then 0 else 20,()) w):Cl Pg 93 [.string key] false [.sc (.i .i64)] K w:=by
 apply Ov;unfold Of;unfold Kx at k;simp only[Jp,WO];cases h1:seq key (BA [])<;>cases h2:decide (key.size>12)<;>rw[h1,h2]at k<;>exact k
theorem Ih (key:ByteArray){w:World}{K:TR [.sc (.i .i64)]->Pr}(k:K (if Kx key then 0 else 20,()) w):Cl Pg 35 [.string key] false [.sc (.i .i64)] K w:=by
 apply GR;unfold Fb;unfold Kx at k;have h0:decide (((key.size:Nat):Int)<1)=seq key (BA []):=by
  rw[seq_eq];refine decide_eq_decide.2 ⟨λh=>?_,λh=>by rw[h];decide⟩;exact ByteArray.ext (Array.eq_empty_of_size_eq_zero (by have:key.data.size=key.size:=rfl;omega))
 simp only[Jp,WO]
 first
  |(rw[h0];cases h1:seq key (BA [])<;>cases h2:decide (key.size>12)<;>rw[h1,h2]at k<;>exact k)
  |(cases h1:seq key (BA [])<;>cases h2:decide (key.size>12)<;>rw[h1,h2]at k<;>exact k)
theorem Pc {k:ByteArray}(h:Kx k=true):0<k.size/\k.size<=12:=by
 unfold Kx at h;rw[seq_eq]at h;simp at h;refine⟨Nat.pos_of_ne_zero λh0=>h.1 ?_,h.2⟩;exact ByteArray.ext (Array.eq_empty_of_size_eq_zero (by have:k.data.size=k.size:=rfl;omega))
open Go Go.Sx
structure Ak where
 n:Int
 lo:ByteArray
 hi:ByteArray
 wr:Bool
deriving DecidableEq
instance:Inhabited Ak:=⟨⟨0,BA [],BA [],false⟩⟩
def akR:Rec Ak:=⟨[.i .u64,.s,.s,.b],λx=>(x.n,x.lo,x.hi,x.wr,()),rfl,by simp⟩
abbrev As (w:World)(s:Sl)(l:List Ak):Prop:=Bh akR w s l
def vA (x:Ak):Value:=.agg #[.int .u64 x.n,.string x.lo,.string x.hi,.bool x.wr]
variable {l:List Ak}
theorem UH (h:As w s l):s.len=l.length:=h.BY
theorem AdA (h:As w s l){i:Nat}{x:Ak}(hx:l[i]?=some x){K:Int->ByteArray->ByteArray->Bool->Pr}(k:K x.n x.lo x.hi x.wr w):
  Ix s (i:Int) 4 (λa=>A2 .u64 (a.add 0) λx1=>BU (a.add 1) λx2=>BU (a.add 2) λx3=>E7 (a.add 3) λx4=>K x1 x2 x3 x4) w:=
 h.C6.ld (K:=λy=>K y.1 y.2.1 y.2.2.1 y.2.2.2.1) hx k
theorem bx4 {n:Int}{lo hi:ByteArray}{wr:Bool}{K:Addr->Pr}(h:∀b w1,w1.heap[b]?=some (.cells #[.int .u64 n,.string lo,.string hi,.bool wr] 146 (0,0))->w.heap.size<=b->Aa [] w w1->K ⟨b,0,none⟩ w1):
  At #[(.int .u64 0),(.string (BA [])),(.string (BA [])),(.bool false)] 146 (λa=>St (a.add 0) (.int .u64 n)<|St (a.add 1) (.string lo)<|St (a.add 2) (.string hi)<|St (a.add 3) (.bool wr) (K a)) w:=
 Ei (vs:=[.int .u64 n,.string lo,.string hi,.bool wr]) rfl (by simp[Value.oneCell']) h
def B8 (x y:Ak):Bool:=Bw x.lo x.hi y.lo y.hi&&(x.n !=y.n&&(x.wr||y.wr))
theorem AcZ (x y:Ak):B8 x y=B8 y x:=by
 unfold B8;rw[Mp,Bool.or_comm x.wr y.wr];have:(x.n !=y.n)=(y.n !=x.n):=bne_comm;rw[this]
def QX (f:Value)(p:Ak->Bool)(m:List Nat)(w:World):Prop:=∀w',Aa m w w'->∀x,AB Pg f [vA x] false [.sc .b] (λr w''=>r.1=p x/\Aa [] w' w'') w'
variable {p:Ak->Bool}
theorem QX.to {m:List Nat}{w1:World}(h:QX f p m w)(hk:Aa m w w1):QX f p m w1:=λw' k x=>h w' (hk.trans k (λ_ hx=>.inl hx)) x
theorem QX.gen {m:List Nat}(h:QX f p m w):Go.Sx.QX Pg f akR.v p (·∈m) l w:=by
 intro w' k x _ K hK;obtain⟨m',h1,h2⟩:∃m',Aa m' w w'/\∀x∈m',x∈m:=by
  refine⟨m,⟨k.os,k.tape,k.output,k.size,λi hi hn=>k.get i hi hn⟩,λ_ h=>h⟩
 refine AB.mono (h w' (h1.mono λy hy=>.inl (h2 y hy)) x) ?_;rintro⟨r,_⟩ w2 ⟨e,k2⟩;dsimp only at e;subst e;exact hK w2 k2
theorem AeI (n:Int)(w:World):Cl Pg 64 [.int .u64 n] false [.sc .v] (λr w'=>∃e,w.heap.size<=e/\(∀m,e∉m->QX r.1 (λx=>x.n==n) m w')/\Aa [] w w') w:=by
 refine AR λR hR=>?_;apply VM;unfold Zo;dsimp only[Vp,Vu];refine Ad λe w1 h1 n1 k1=>?_;refine hR _ _ ⟨e,n1,λm hm w2 k2 x=>?_,k1⟩;have h1:=k2.at h1 hm;refine BJ (by kernel_rfl) ?_;refine AR λR' hR'=>?_;apply SQ;unfold UQ;dsimp only[Cg,Lu];refine Ad λb w3 h3 n3 k3=>?_;have h1:=k3.at h1 (by simp);simp only[CP,h3,h1,Ck,Nat.reduceAdd];exact hR' _ _ ⟨rfl,k3⟩
theorem O4 (x:Ak)(w:World):Cl Pg 66 [vA x] false [.sc .v] (λr w'=>∃e,w.heap.size<=e/\(∀m,e∉m->QX r.1 (λy=>B8 x y) m w')/\Aa [] w w') w:=by
 refine AR λR hR=>?_;apply OR;unfold NU;dsimp only[Cg,Vp];refine Ad λe w1 h1 n1 k1=>?_;refine hR _ _ ⟨e,n1,λm hm w2 k2 y=>?_,k1⟩;have h1:=k2.at h1 hm;refine BJ (by kernel_rfl) ?_;refine AR λR' hR'=>?_;apply MU;unfold LG;dsimp only[Cg,Lb,Lu,Tt,Vt];refine Ad λb w3 h3 n3 k3=>?_;have h1:=k3.at h1 (by simp);simp only[CP,h3,h1,Ck,Nat.reduceAdd];refine Cl.mono (Ag7 _ _ _ _ _) ?_;rintro⟨s,r,_⟩ w4 ⟨e4,k4⟩;dsimp only at e4;subst e4;have h1:=k4.at h1 (by simp);have h3:=k4.at h3 (by simp);have l1:=Av h1;have l3:=Av h3;refine Ad λc w5 h5 n5 k5=>?_;have h1:=k5.at h1 (by simp);have h3:=k5.at h3 (by simp);have n5':w2.heap.size<=c:=by have:=k3.size;have:=k4.size;omega
 simp only[Cr,Nat.reduceAdd];refine Ax h5 0 _ rfl (by simp) λw6 h6 k6=>?_;refine Ax h6 1 _ rfl (by simp) λw7 h7 k7=>?_;have x1:e∉[c]:=by simp;omega
 have x3:b∉[c]:=by simp;omega
 have h1:=k7.at (k6.at h1 x1) x1;have h3:=k7.at (k6.at h3 x3) x3;have k27:=Ky (Ky (Aj (Aj k3 k4) k5) k6 (by simpa using n5')) k7 (by simpa using n5');cases c1:Bw x.lo x.hi y.lo y.hi with
 |false=>exact hR' _ _ ⟨by show _=B8 x y;unfold B8;rw[c1];rfl,k27⟩
 |true=>
 simp only[CP,h3,h1,Ck,Nat.reduceAdd];cases c2:x.n !=y.n with
 |false=>exact hR' _ _ ⟨by show _=B8 x y;unfold B8;rw[c1,c2];rfl,k27⟩
 |true=>
 simp only[CP,h3,h1,Ck,Nat.reduceAdd];cases c3:x.wr with
 |true=>exact hR' _ _ ⟨by show _=B8 x y;unfold B8;rw[c1,c2,c3];rfl,k27⟩
 |false=>
 simp only[CP,h3,h1,Ck,Nat.reduceAdd];exact hR' _ _ ⟨by show _=B8 x y;unfold B8;rw[c1,c2,c3];rfl,k27⟩
theorem zcA:zc Pg 146=#[.int .u64 0,.string (BA []),.string (BA []),.bool false]:=by kernel_rfl
theorem AiA:∀v∈(zc Pg 146).toList,v.oneCell'=true:=by rw[zcA];simp[Value.oneCell']
theorem Akc:zc Pg 32=#[.int .u64 0]:=by kernel_rfl
theorem Alv:∀v∈(zc Pg 32).toList,v.oneCell'=true:=by rw[Akc];simp[Value.oneCell']
theorem ixA:Wc Pg 101 akR akR.v:=by
 intro w s l f p F h hp hN K k;exact Ic s f (C0 (HF akR) h hp hN k)
theorem Xi (h:As w s l)(hp:QX f p [] w)(hN:l.length<=1000):
  Cl Pg 101 [.slice s.p s.len s.cap,f] false [.sc (.i .i64)] (λr w'=>((∃(i:Nat) (x:Ak),r.1=(i:Int)/\l[i]?=some x/\p x=true/\∀y∈l.take i,p y=false)\/(r.1=-1/\∀y∈l,p y=false))/\Aa [] w w') w:=by
 refine ixA h.C6 (hp.gen (l:=l)) (by omega) ?_;intro w' k;refine⟨?_,k⟩;unfold Q3;cases hf:l.findIdx? p with
 |none=>exact .inr ⟨rfl,List.findIdx?_eq_none_iff.1 hf⟩
 |some i=>
  obtain⟨h1,h2,h3⟩:=List.findIdx?_eq_some_iff_getElem.1 hf;refine .inl ⟨i,_,rfl,List.getElem?_eq_getElem h1,h2,λy hy=>?_⟩;obtain⟨j,hj,rfl⟩:=List.mem_take_iff_getElem.1 hy;have:=h3 j (by omega);simpa using this
theorem L8 (h:As w s l)(hp:QX f p [] w)(hN:l.length<=1000):
  Cl Pg 63 [.slice s.p s.len s.cap,f] false [.sc .b] (λr w'=>r.1=l.any p/\Aa [] w w') w:=
 FO s f (BP ixA h.C6 (hp.gen (l:=l)) (by omega) λw' k=>⟨rfl,k⟩)
theorem Oc (h:As w s l)(hp:QX f p (Ai s) w)(hN:l.length<=1000):
  Cl Pg 201 [.slice s.p s.len s.cap,f] false [.sc .sl] (λr w'=>As w' r.1 (l.filter (λx=>!p x))/\(∀x∈Ai r.1,x∈Ai s)/\Aa (Ai s) w w') w:=
 GQ s f (NK (ρ:=akR) ixA (Agf akR rfl) (by rw[zcA];rfl) AiA h (hp.gen (l:=l)) (by omega) λr w' a b c=>⟨a,b,c⟩)
theorem Acy (h:As w s l){i:Nat}(hi:i<l.length)(hN:l.length<=1000){y z:Int}(hy:y=(i:Int))(hz:z=((i+1:Nat):Int)):
  Cl Pg 108 [.slice s.p s.len s.cap,.int .i64 y,.int .i64 z] false [.sc .sl] (λr w'=>As w' r.1 (l.eraseIdx i)/\(∀x∈Ai r.1,x∈Ai s)/\Aa (Ai s) w w') w:=
 K3 s y z (Ns (ρ:=akR) (by rw[zcA];rfl) AiA h (Nat.le_succ i) hi (by omega) hy hz λr w' a b c=>⟨by rw[List.eraseIdx_eq_take_drop_succ];exact a,b,c⟩)
theorem ovA:Ac1 Pg 111 146 akR.n:=by
 intro w a b o la ca lb cb cs all t fr ha hb hne h0 K h;refine⟨(false,()),w,?_,h⟩
 rw[show([Value.slice (some ⟨a,0,none⟩) la ca,.slice (some ⟨b,o,none⟩) lb cb]:List Value).toArray=#[.slice (some ⟨a,0,none⟩) la ca,.slice (some ⟨b,o,none⟩) lb cb]from rfl,
  run_callFunc_extern Tryz.func111 (by kernel_rfl) (by kernel_rfl) (by kernel_rfl) (e:=Extern.SlicesOverlaps.overlaps #[139,139] #[4]) (by kernel_rfl),
  Lib.run_overlaps_apart w 139 4 146 (by kernel_rfl) 4 (λw=>by kernel_rfl) ⟨a,0,none⟩ ⟨b,o,none⟩ la ca lb cb hne 146 t cs.size all.size (by simp[World.shape?,ha]) (by simp[World.shape?,hb]) h0 (by simp[World.frozen?,ha]) (by simp[World.frozen?,ha])]
 rfl
theorem Adq (h:As w s l){a:Nat}{x:Ak}(ha:w.heap[a]?=some (.cells #[.int .u64 x.n,.string x.lo,.string x.hi,.bool x.wr] 146 (0,0)))(hna:a∉Ai s){i:Nat}(hi:i<=l.length)(hN:l.length<=1000):
  Cl Pg 72 [.slice s.p s.len s.cap,.int .i64 (i:Int),.slice (some ⟨a,0,none⟩) 1 1] false [.sc .sl]
   (λr w'=>As w' r.1 (l.take i++x::l.drop i)/\(∀y∈Ai r.1,y∈Ai s\/w.heap.size<=y)/\Aa (Ai s) w w') w:=
 Lx s (i:Int) ⟨some ⟨a,0,none⟩,1,1⟩ (Kc (ρ:=akR) ovA (by rw[zcA];rfl) AiA (by omega) (by omega) h ha hna hi λr w' a b c=>⟨a,b,c⟩)
end Go.Proofs.YthkdehgfdllpoaaGreat
