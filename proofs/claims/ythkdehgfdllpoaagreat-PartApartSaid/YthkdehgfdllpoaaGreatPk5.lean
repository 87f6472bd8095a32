/- The parts of the proof, 5: words of the program, and what they do. Conditions: none. -/
import Derived.Test.YthkdehgfdllpoaaGreatPk4
set_option maxRecDepth 100000
set_option linter.unusedVariables false
set_option linter.unusedSimpArgs false
set_option linter.unusedSectionVars false
namespace Go.Proofs.YthkdehgfdllpoaaGreat
open Go Go.Sx
namespace PS
def AO (P:PS) (i:Nat):PS:={ P with held:=P.held.take i ++ P.held.drop (i + 1) }
def FT (P:PS) (o:Op):PS:=({ P with writes:=P.writes ++ [o] }:PS).behind o
def writeAll (P:PS) (ops:List Op):PS:=ops.foldl FT P
def Mn (flag:Bool) (ops:List Op):List Op:=ops.filter (fun o=>flag && fWr o.kind)
def Fh (P:PS) (t:Int):PS:=P.send { PM.zero with kind:=6,Ah:=t }
def decide (P:PS) (t:Int) (flag:Bool):PS:=
 if P.TJ t then match P.held[P.DY t]? with
  | none=>P.Fh t
  | some x=>(((P.Fh t).AO (P.DY t)).writeAll (Mn flag x.ops)).finish t
 else if P.Pb t then ((P.Fh t).Ay (P.Ce t)).finish t
 else P.Fh t
end PS
theorem Z2 (P:PS) (o:Op):P.behind o={ P with box:=(P.behind o).box }:=by
 unfold PS.behind;split
 ·rfl
 ·split <;> rfl
theorem Bj.box {P:PS} (h:Bj P) (b:Option PB):Bj { P with box:=b }:=⟨h.wt,h.hd,h.dj,h.fn,h.tb,h.wv,h.hv,h.mp,h.mn,h.wr,h.wn,h.er,h.bd,h.hn,h.fl⟩
theorem Uo {a b:List Op} (ha:A9 a=0) (hb:A9 b=0):A9 (a ++ b)=0:=by
 rw [Bu] at *;intro o ho;rcases List.mem_append.1 ho with ho | ho
 ·exact ha o ho
 ·exact hb o ho
theorem Z6 (P:PS) (o:Op):P.FT o={ P with writes:=P.writes ++ [o],box:=(P.FT o).box }:=Z2 _ o
theorem Bz:∀ (ops:List Op) (P:PS),P.writeAll ops={ P with writes:=P.writes ++ ops,box:=(P.writeAll ops).box }
 | [],P=>by show P=_;rw [List.append_nil];rfl
 | o :: l,P=>by
  show (P.FT o).writeAll l={ P with writes:=P.writes ++ o :: l,box:=((P.FT o).writeAll l).box };have h1:=Z6 P o;have h2:(P.FT o).writes ++ l=P.writes ++ o :: l:=by rw [h1];simp
  generalize hb:((P.FT o).writeAll l).box=bx;rw [Bz l (P.FT o),h2,hb,h1]
theorem Bj.writeAll {P:PS} (h:Bj P) {ops:List Op} (ho:A9 ops=0) (hn:P.writes.length + ops.length≤1000):Bj (P.writeAll ops):=by
 rw [Bz];exact Bj.box (P:={ P with writes:=P.writes ++ ops }) ⟨h.wt,h.hd,h.dj,h.fn,h.tb,h.wv,h.hv,h.mp,h.mn,Uo h.wr ho,by show (P.writes ++ ops).length≤1000;rw [List.length_append];omega,h.er,h.bd,h.hn,h.fl⟩ _
theorem Bj.AO {P:PS} (h:Bj P) (i:Nat):Bj (P.AO i):=by
 have hs:=Bp P.held i;refine ⟨h.wt,h.hd.sublist hs,fun x hx y hy=>h.dj x hx y (hs.subset hy),h.fn,h.tb,h.wv,fun y hy=>h.hv y (hs.subset hy),h.mp,h.mn,h.wr,h.wn,h.er,h.bd,?_,h.fl⟩;show (P.held.take i ++ P.held.drop (i + 1)).length + P.wait.length≤1000;have:=hs.length_le;have:=h.hn;omega
theorem Bj.Fh {P:PS} (h:Bj P) (t:Int) (hb:P.out.length + 1 + P.left≤20000):Bj (P.Fh t):=
 ⟨h.wt,h.hd,h.dj,h.fn,h.tb,h.wv,h.hv,h.mp,h.mn,h.wr,h.wn,h.er,by
  show (P.out ++ [_]).length + P.left≤20000;rw [List.length_append,List.length_singleton];exact hb,h.hn,h.fl⟩
theorem Aa9 {P:PS} {n:Nat} (h:AM P n) (o:Op):AM (P.behind o) (n + 1):=by
 unfold PS.behind;intro b hb;cases hp:P.box with
 | none=>rw [hp] at hb;dsimp only at hb;rw [hp] at hb;cases hb
 | some c=>
  rw [hp] at hb;dsimp only at hb;have:=h c hp;split at hb
  ·injection hb with hb;subst hb;simp only [List.length_append,List.length_singleton];omega
  ·rw [hp] at hb;injection hb with hb;subst hb;omega
theorem Aeo {w:World} {m:Nat} {T:Nat→Nat} {X:Mc} (h:A6 w m T X) (hN:X.d.held.length≤100000) {i:Nat} (hi:i < X.d.held.length) {y:Int} (hy:y=i) {J:Pr}
  (k:∀ r T' w',A6 w' m T' { X with d:={ X.d with sh:=r,held:=X.d.held.take i ++ X.d.held.drop (i + 1) } }→Aq T T' w w'→J w') :
  (Cl Pg 125 [.slice X.d.sh.p X.d.sh.len X.d.sh.cap,.int .i64 y,.int .i64 (An (y + 1))] false [.sc .sl] fun r=>St ⟨m,6,none⟩ (.slice r.1.p r.1.len r.1.cap) J) w:=by
 subst hy;refine VW h.r.he.ok (Nat.le_succ i) hi (by omega) rfl (AK (by omega)) ?_;intro r w1 h1 f1 k1;have s:CH 2 T (AX 2 r T) w w1:=CH.row k1 (fun b hb=>(h.r.he.tag b hb).2) (fun b hb=>.inl (f1 b hb));refine h.uHe k1 h1 (fun b hb=>.inl (f1 b hb)) (fun x hx=>(h.r.Ro x ((Bp _ _).subset hx)).kt (by decide) s) fun w2 h2 e2=>?_;exact k r _ w2 h2 e2
theorem Aef {w:World} {m:Nat} {T:Nat→Nat} {X:Mc} (h:A6 w m T X) (hR:AM X.p 100000) (hW:X.d.writes.length≤100000) (o:Op) {c:Nat} (hc:w.heap[c]?=some (.cells #[.int .i64 o.kind,.string o.key,.string o.value,.string o.lo,.string o.hi,.int .i64 o.AD] 81 (0,0))) (hT:T c=0) {J:Pr}
  (k:∀ X' T' w',A6 w' m T' X'→X'.p=X.p.FT o→DG X X'→Aq T T' w w'→J w') :
  (Dr <| Nn (some ⟨m,0,none⟩) fun a28=>DN ((a28.add 21).add 1) fun x29=>A2 .i64 ((⟨c,0,none⟩:Addr).add 0) fun x30=>BU ((⟨c,0,none⟩:Addr).add 1) fun x31=>BU ((⟨c,0,none⟩:Addr).add 2) fun x32=>BU ((⟨c,0,none⟩:Addr).add 3) fun x33=>BU ((⟨c,0,none⟩:Addr).add 4) fun x34=>A2 .i64 ((⟨c,0,none⟩:Addr).add 5) fun x35=>
   At #[(.int .i64 x30),(.string x31),(.string x32),(.string x33),(.string x34),(.int .i64 x35)] 81 fun a36=>
   AH (DN ((a28.add 21).add 1) fun x37=>fun _=>((.slice x37.p x37.len x37.cap):Value)=(.slice x29.p x29.len x29.cap)) <|
   App 81 6 80 (zc Pg 81) x29 1 (BH (some a36) 1 6) fun r38=>
   Nn (some ⟨m,0,none⟩) fun a39=>St ((a39.add 21).add 1) (.slice r38.p r38.len r38.cap) <|
   A2 .i64 ((⟨c,0,none⟩:Addr).add 0) fun x40=>BU ((⟨c,0,none⟩:Addr).add 1) fun x41=>BU ((⟨c,0,none⟩:Addr).add 2) fun x42=>BU ((⟨c,0,none⟩:Addr).add 3) fun x43=>BU ((⟨c,0,none⟩:Addr).add 4) fun x44=>A2 .i64 ((⟨c,0,none⟩:Addr).add 5) fun x45=>
   Cl Pg 126 [(.pointer (some ⟨m,0,none⟩)),(.agg #[(.int .i64 x40),(.string x41),(.string x42),(.string x43),(.string x44),(.int .i64 x45)])] true [] fun r46=>J) w:=by
 have g0:=h.Ab (Am w);simp only [sb,h.hd,Bs,hc,A5,Nat.reduceAdd];refine Ad fun d w1 h1 n1 k1=>?_;have g1:=g0.Ab k1;simp only [sb,g1.hd,Bs,A5,Nat.reduceAdd];refine ⟨by trivial,?_⟩;have hs:=g1.r.wr.ok;have hl:=hs.BY;refine AE.app (ρ:=BQ) (new:=[o]) hs (by rw [List.flatMap_singleton];exact BI (ρ:=BQ) (x:=o) h1) rfl (by rw [R1];rfl) (by omega) (by omega) ?_;intro r w2 h2 k2 f2;refine g1.uWr k2 h2 f2 fun w3 h3 e3=>?_;obtain ⟨hc3,hT3⟩:=((Aq.k0 (Aj (Am w) k1)).trans e3).at hc hT;simp only [sb,hc3];refine Afo h3 (fun b hb=>Nat.le_trans (hR b hb) (by decide)) o ?_;intro X4 T4 w4 h4 q4 x4 e4;exact k X4 T4 w4 h4 q4 ⟨x4.BD,x4.sM,x4.bx⟩ (((Aq.k0 (Aj (Am w) k1)).trans e3).trans e4)
theorem Af0 {X:Mc} {t:Int} (hp:Bj X.p) (h:X.p.TJ t=true):∃ x,X.d.held[X.p.DY t]?=some x∧x.Ah=t:=by
 obtain ⟨y,h1,h2⟩:=MN hp h;have h1':(X.d.held.map Hd.p)[X.p.DY t]?=some y:=h1;rw [List.getElem?_map,Option.map_eq_some_iff] at h1';obtain ⟨x,hx,rfl⟩:=h1';exact ⟨x,hx,h2⟩
theorem Aih {X:Mc} {t:Int} (hp:Bj X.p) (h:X.p.Pb t=true):∃ x,X.d.wait[X.p.Ce t]?=some x∧x.Ah=t:=by
 obtain ⟨y,h1,h2⟩:=D9 hp h;have h1':(X.d.wait.map Wt.p)[X.p.Ce t]?=some y:=h1;rw [List.getElem?_map,Option.map_eq_some_iff] at h1';obtain ⟨x,hx,rfl⟩:=h1';exact ⟨x,hx,h2⟩
theorem AdU {flag:Bool} {ops:List Op} {i:Nat} {o:Op} (ho:ops[i]?=some o) (P:PS):P.writeAll (PS.Mn flag (ops.take (i + 1)))=if flag && fWr o.kind then (P.writeAll (PS.Mn flag (ops.take i))).FT o else P.writeAll (PS.Mn flag (ops.take i)):=by
 rw [List.take_add_one,ho];unfold PS.Mn;rw [List.filter_append];show P.writeAll (_ ++ List.filter _ [o])=_;rw [List.filter_cons,List.filter_nil];cases (flag && fWr o.kind) with
 | false=>rw [if_neg (by simp),if_neg (by simp),List.append_nil]
 | true=>
  rw [if_pos rfl,if_pos rfl];unfold PS.writeAll;rw [List.foldl_append];rfl
theorem OZ (flag:Bool) (ops:List Op):(PS.Mn flag ops).length≤ops.length:=List.length_filter_le _ _
theorem OC {flag:Bool} {ops:List Op} (h:A9 ops=0):A9 (PS.Mn flag ops)=0:=by
 rw [Bu] at *;exact fun o ho=>h o (List.mem_filter.1 ho).1
theorem Ye:∀ (ops:List Op) {P:PS} {n:Nat},AM P n→AM (P.writeAll ops) (n + ops.length)
 | [],P,n,h=>h
 | o :: l,P,n,h=>by
  have h1:AM (P.FT o) (n + 1):=Aa9 (P:={ P with writes:=P.writes ++ [o] }) h o;have h2:=Ye l h1;rw [List.length_cons,show n + (l.length + 1)=n + 1 + l.length by omega];exact h2
set_option maxHeartbeats 1000000 in
theorem YD {w:World} {m:Nat} {T:Nat→Nat} {X:Mc} (h:A6 w m T X) (hp:Bj X.p) (hb:X.p.out.length + 1 + X.p.left≤20000) (hf:X.d.fin.length < 100000) (hw:X.d.writes.length≤900) (hR:AM X.p 90000) (x:Mg) {K:TR []→Pr}
  (k:∀ X' T' w',A6 w' m T' X'→X'.p=X.p.decide x.Ah x.flag→DG X X'→Aq T T' w w'→K () w') :
  Cl Pg 74 [.pointer (some ⟨m,0,none⟩),.agg #[.int .i64 x.kind,.int .i64 x.src,.int .i64 x.dst,.int .i64 x.Ch,.int .i64 x.code,.int .i64 x.peer,.int .u64 x.VT,.int .u64 x.Au,.int .u64 x.Ah,.int .u64 x.low,.int .u64 x.CZ,.int .u64 x.Ao,.int .u64 x.move,.int .u64 x.attempt,.int .u64 x.n,.bool x.flag,.string x.FN,.string x.G6,.slice x.so.p x.so.len x.so.cap,.slice x.sr.p x.sr.len x.sr.cap,.slice x.sw.p x.sw.len x.sw.cap]] true [] K w:=by
 refine IS _ _ _ _ _ _ _ _ _ _ _ _ _ _ _ _ _ _ _ x.so x.sr x.sw ?_;unfold Gi;dsimp only [Ag,Ar,Lb,AN,Ll,Lu,Gh,Ts,Vb,Vi,Vp,Vs,Vt,Vu,Gx];refine Ad fun a w1 h1 n1 k1=>?_;have g1:=h.Ab k1;have Ta:T a=0:=h.new n1;simp only [sb,h1];have o1:=hp.Afy;refine KD g1 ⟨6,0,0,0,0,0,0,0,x.Ah,0,0,0,0,0,0,false,BA [],BA [],⟨none,0,0⟩,⟨none,0,0⟩,⟨none,0,0⟩,[],[],[]⟩ (Bq.NI fun w=>⟨A1.nil w,⟨A1.nil w,by simp⟩,A1.nil w⟩) (by omega) ?_;intro so2 T2 w2 h2 e2;obtain ⟨ha2,Ta2⟩:=e2.at h1 Ta;have e02:Aq T T2 w w2:=(Aq.k0 k1).trans e2;obtain ⟨X2,hX2⟩:∃ X2:Mc,X2={ X with d:={ X.d with Er:=so2,out:=X.d.out ++ [⟨6,X.c.id,0,0,0,0,0,0,x.Ah,0,0,0,0,0,0,false,BA [],BA [],⟨none,0,0⟩,⟨none,0,0⟩,⟨none,0,0⟩,[],[],[]⟩] } }:=⟨_,rfl⟩;rw [← hX2] at h2;have q2:X2.p=X.p.Fh x.Ah:=by rw [hX2];unfold PS.Fh PS.send Mc.p;dsimp only;rw [List.map_append];rfl
 have p2:Bj X2.p:=by rw [q2];exact hp.Fh _ hb
 have x2:DG X X2:=by rw [hX2];exact ⟨rfl,rfl,rfl⟩
 have f2:X2.d.fin=X.d.fin:=by rw [hX2]
 have v2:X2.d.writes=X.d.writes:=by rw [hX2]
 have R2:AM X2.p 90000:=by rw [q2];exact hR
 have lx:=p2.Aem;simp only [sb,ha2];refine Aa6 h2 p2.hdX (by omega) x.Ah fun w3 k3=>?_;have g3:=h2.Ab k3;have ha3:=k3.Aw ha2;have e03:=e02.trans (Aq.k0 k3);rw [← XT,← Af1];dsimp only;have hdec:X.p.decide x.Ah x.flag=if X2.p.TJ x.Ah then match X2.p.held[X2.p.DY x.Ah]? with
  | none=>X2.p
  | some y=>((X2.p.AO (X2.p.DY x.Ah)).writeAll (PS.Mn x.flag y.ops)).finish x.Ah
 else if X2.p.Pb x.Ah then (X2.p.Ay (X2.p.Ce x.Ah)).finish x.Ah
 else X2.p:=by rw [q2];rfl
 rw [hdec] at k
 have fin:∀ (X5:Mc) (T5:Nat→Nat) (w5:World),A6 w5 m T5 X5→Bj X5.p→X5.d.fin=X.d.fin→DG X X5→Aq T T5 w w5→(∀ X' T' w',A6 w' m T' X'→X'.p=X5.p.finish x.Ah→DG X X'→Aq T T' w w'→K () w') →
   Cl Pg 127 [(.pointer (some ⟨m,0,none⟩)),(.int .u64 x.Ah)] true [] (fun r64=>K ()) w5:=by
  intro X5 T5 w5 h5 p5 f5 x5 e5 hk;refine Ad6 h5 p5 (by rw [f5];exact hf) x.Ah ?_;intro X6 T6 w6 h6 q6 x6 e6;exact hk X6 T6 w6 h6 q6 (x5.trans x6.two) (e5.trans e6)
 cases hhis:X2.p.TJ x.Ah with
 | true=>
  obtain ⟨y,hy,hyt⟩:=Af0 p2 hhis;have hyp:X2.p.held[X2.p.DY x.Ah]?=some y.p:=by
   show (X2.d.held.map Hd.p)[X2.p.DY x.Ah]?=_;rw [List.getElem?_map,hy];rfl
  rw [hhis,if_pos rfl,hyp] at k;dsimp only at k;have hlt:=(List.getElem?_eq_some_iff.1 hy).1;obtain ⟨v1,v2'⟩:=p2.hv y.p (List.mem_of_getElem? hyp);have v1:A9 y.ops=0:=v1;have v2':y.ops.length≤24:=v2';have himm:=(g3.r.Ro y (List.mem_of_getElem? hy));generalize hj:X2.p.DY x.Ah=j at *;simp only [sb,g3.hd,Bs];refine ld1 (ρ:=Fo) g3.r.he.ok.C6 hy 1 .sl y.so rfl ?_;simp only [sb,g3.hd,Bs];refine Aeo g3 (by omega) hlt rfl ?_;intro r4 T4 w4 h4 e4;obtain ⟨ha4,Ta4⟩:=e4.at ha3 Ta2;have e04:=e03.trans e4;have himm4:=himm.Bm e4;have hyl:=himm4.ok.len;obtain ⟨X4,hX4⟩:∃ X4:Mc,X4={ X2 with d:={ X2.d with sh:=r4,held:=X2.d.held.take j ++ X2.d.held.drop (j + 1) } }:=⟨_,rfl⟩;rw [← hX4] at h4;have q4:X4.p=X2.p.AO j:=by rw [hX4];unfold PS.AO Mc.p;dsimp only;rw [List.map_append,List.map_take,List.map_drop]
  have p4:Bj X4.p:=by rw [q4];exact p2.AO j
  have x4:DG X X4:=x2.trans (by rw [hX4];exact ⟨rfl,rfl,rfl⟩);have f4:X4.p.fin=X.d.fin:=by rw [q4];exact f2
  have u4:X4.p.writes=X.d.writes:=by rw [q4];exact v2
  have R4:AM X4.p 90000:=by rw [q4];exact R2
  rw [← q4] at k;rw [show y.p.ops=y.ops from rfl] at k;refine ⟨fun n st w'=>∃ (i:Nat) (X1:Mc) (T1:Nat→Nat),st=((i:Int),())∧n=y.ops.length - i∧i≤y.ops.length∧A6 w' m T1 X1∧X1.p=X4.p.writeAll (PS.Mn x.flag (y.ops.take i))∧DG X X1∧Aq T4 T1 w4 w',⟨_,0,X4,T4,rfl,rfl,by omega,h4,rfl,x4,Aq.refl _ _⟩,?_⟩;rintro n _ w5 ⟨i,X5,T5,rfl,rfl,hi,h5,q5,x5,e5⟩;obtain ⟨ha5,Ta5⟩:=e5.at ha4 Ta4;have l1:=OZ x.flag (y.ops.take i);have l2:(y.ops.take i).length=i:=by rw [List.length_take];omega
  have ok5:A9 (PS.Mn x.flag (y.ops.take i))=0:=OC (by rw [Bu] at *;exact fun o ho=>v1 o (List.mem_of_mem_take ho));have p5:Bj X5.p:=by rw [q5];exact p4.writeAll ok5 (by rw [u4];omega)
  have f5:X5.d.fin=X.d.fin:=by show X5.p.fin=_;rw [q5,Bz];exact f4
  have u5:X5.d.writes=X.d.writes ++ PS.Mn x.flag (y.ops.take i):=by show X5.p.writes=_;rw [q5,Bz,← u4]
  have R5:AM X5.p 100000:=by
   rw [q5];intro b hb;have:=Ye (PS.Mn x.flag (y.ops.take i)) R4 b hb;omega
  dsimp only;by_cases hil:i < y.ops.length
  ·rw [decide_eq_true (by omega)];simp only [Af];obtain ⟨o,ho⟩:∃ o,y.ops[i]?=some o:=⟨_,List.getElem?_eq_getElem hil⟩;have step:=AdU (flag:=x.flag) ho X4.p;dsimp only [Jp];refine Sn (himm4.Bm e5).ok ho ?_;refine Sq o fun c w6 h6 n6 k6=>?_;have g6:=h5.Ab k6;have Tc:T5 c=0:=h5.new n6;have ha6:=k6.Aw ha5;simp only [sb,ha6,h6];have nxt:∀ (X7:Mc) (T7:Nat→Nat) (w7:World),A6 w7 m T7 X7→X7.p=X4.p.writeAll (PS.Mn x.flag (y.ops.take (i + 1)))→DG X X7→Aq T4 T7 w4 w7→∃ m',m' < y.ops.length - i∧∃ (i_1:Nat) (X1:Mc) (T1:Nat→Nat),(An ((i:Int) + 1),())=((i_1:Int),())∧m'=y.ops.length - i_1∧i_1≤y.ops.length∧A6 w7 m T1 X1∧X1.p=X4.p.writeAll (PS.Mn x.flag (y.ops.take i_1))∧DG X X1∧Aq T4 T1 w4 w7:=by
    intro X7 T7 w7 h7 q7 x7 e7;exact ⟨y.ops.length - (i + 1),by omega,i + 1,X7,T7,by rw [AK (by omega)],rfl,by omega,h7,q7,x7,e7⟩
   cases hfl:x.flag with
   | false=>
    simp only [sb];rw [hfl] at step nxt q5;exact nxt X5 T5 w6 g6 (by rw [step];exact q5) x5 (e5.trans (Aq.k0 k6))
   | true=>
    simp only [sb,h6];rw [hfl] at step nxt q5;refine Vn o fun w7 k7=>?_;have g7:=g6.Ab k7;have h7:=k7.Aw h6;dsimp only;cases hwr:fWr o.kind with
    | false=>
     rw [hwr] at step;simp only [sb];exact nxt X5 T5 w7 g7 (by rw [step];exact q5) x5 (e5.trans (Aq.k0 (Aj k6 k7)))
    | true=>
     rw [hwr] at step;simp only [Af];refine Aef g7 R5 (by rw [u5,List.length_append];omega) o h7 Tc ?_;intro X8 T8 w8 h8 q8 x8 e8;exact nxt X8 T8 w8 h8 (by rw [step,q8,q5];rfl) (x5.trans x8) ((e5.trans (Aq.k0 (Aj k6 k7))).trans e8)
  ·rw [decide_eq_false (by omega)];simp only [sb,ha5];rw [List.take_of_length_le (by omega)] at q5;rw [← q5] at k;exact fin X5 T5 w5 h5 p5 f5 x5 (e04.trans e5) k
 | false=>
  rw [hhis,if_neg (by simp)] at k;simp only [sb,ha3];refine Nj g3 p2.wtX (by omega) x.Ah fun w4 k4=>?_;have g4:=g3.Ab k4;have ha4:=k4.Aw ha3;have e04:=e03.trans (Aq.k0 k4);rw [← U7,← XB];dsimp only;cases hwis:X2.p.Pb x.Ah with
  | false=>
   rw [hwis,if_neg (by simp)] at k;exact k X2 T2 w4 g4 rfl x2 e04
  | true=>
   rw [hwis,if_pos rfl] at k;obtain ⟨y,hy,hyt⟩:=Aih p2 hwis;have hlt:=(List.getElem?_eq_some_iff.1 hy).1;have hyp:X2.p.wait[X2.p.Ce x.Ah]?=some y.p:=by
    show (X2.d.wait.map Wt.p)[X2.p.Ce x.Ah]?=_;rw [List.getElem?_map,hy];rfl
   obtain ⟨pu,_⟩:=p2.Ay hyp;generalize hj:X2.p.Ce x.Ah=j at *;simp only [sb,g4.hd,Bs];refine Pp g4 (by omega) hlt rfl ?_;intro r5 T5 w5 h5 e5;obtain ⟨ha5,Ta5⟩:=e5.at ha4 Ta2;obtain ⟨X5,hX5⟩:∃ X5:Mc,X5={ X2 with d:={ X2.d with sw:=r5,wait:=X2.d.wait.take j ++ X2.d.wait.drop (j + 1) } }:=⟨_,rfl⟩;rw [← hX5] at h5;have q5:X5.p=X2.p.Ay j:=by rw [hX5];unfold PS.Ay Mc.p;dsimp only;rw [List.map_append,List.map_take,List.map_drop]
   rw [← q5] at k pu;simp only [sb,ha5];exact fin X5 T5 w5 h5 pu (by rw [hX5];exact f2) (x2.trans (by rw [hX5];exact ⟨rfl,rfl,rfl⟩)) (e04.trans e5) k
open Go Go.Sx
namespace PS
def Bk (P:PS) (low:Int):PS:=if P.c.low < low then { P with c:={ P.c with low:=low },fin:=P.fin.filter (fun n=>!(Decidable.decide (n < low))) } else P
def gone (P:PS) (t:Int):Bool:=Decidable.decide (t < P.c.low) || P.fin.contains t || P.Pb t
def Nb (P:PS) (o:Op):Bool:=Decidable.decide (ER o ≠ 0) || !Afm P.Ac P.c.id (Dp o).1 (Dp o).2
def full (P:PS):Bool:=Decidable.decide (6≤P.held.length + P.wait.length) || Decidable.decide (64≤P.held.length + P.wait.length + P.fin.length)
def C7 (P:PS) (Ao:Int) (ops:List Op):Bool:=Decidable.decide (Ao ≠ P.c.Ao) || (P.full || (ops.any P.Nb || P.closed ops))
def await (P:PS) (t:Int) (ops:List Op):PS:={ P with wait:=P.wait.take (P.Ce t) ++ ⟨t,ops,ops.map AI,0⟩ :: P.wait.drop (P.Ce t) }
def Du (P:PS) (t Ao:Int) (ops:List Op):PS:=
 if P.gone t then P
 else if P.TJ t then match P.held[P.DY t]? with
  | none=>P
  | some x=>P.Df t 3 (P.results x.ops)
 else if P.C7 Ao ops then P.Df t 4 []
 else ((P.await t ops).Cw 30 t).through DU
def work (P:PS) (t low Ao:Int) (ops:List Op):PS:=(P.Bk low).Du t Ao ops
end PS
theorem Bj.Bk {P:PS} (h:Bj P) (low:Int):Bj (P.Bk low):=by
 unfold PS.Bk;split
 ·exact ⟨h.wt,h.hd,h.dj,h.fn.filter _,h.tb,h.wv,h.hv,h.mp,h.mn,h.wr,h.wn,h.er,h.bd,h.hn,Nat.le_trans (List.length_filter_le _ _) h.fl⟩
 ·exact h
theorem GP (P:PS) (low:Int):(P.Bk low).out=P.out:=by unfold PS.Bk;split <;> rfl
theorem Hj (P:PS) (low:Int):(P.Bk low).left=P.left:=by unfold PS.Bk;split <;> rfl
theorem Bj.await {P:PS} (h:Bj P) {t:Int} {ops:List Op} (ho:A9 ops=0) (hl:ops.length≤24) (hw:∀ x∈P.wait,x.Ah ≠ t) (hn:∀ x∈P.held,x.Ah ≠ t) (hc:P.held.length + P.wait.length < 1000) (hb:P.out.length + P.left + 60≤20000):Bj (P.await t ops)∧(P.await t ops).out.length + (P.await t ops).left≤P.out.length + P.left + 49:=by
 have hmem:∀ y,y∈P.wait.take (P.Ce t) ++ ⟨t,ops,ops.map AI,0⟩ :: P.wait.drop (P.Ce t)→y=⟨t,ops,ops.map AI,0⟩∨y∈P.wait:=by
  intro y hy;rcases List.mem_append.1 hy with hy | hy
  ·exact .inr (List.mem_of_mem_take hy)
  ·rcases List.mem_cons.1 hy with hy | hy
   ·exact .inl hy
   ·exact .inr (List.mem_of_mem_drop hy)
 have hle:P.Ce t≤P.wait.length:=Dv _ _;have hlen:(P.wait.take (P.Ce t) ++ (⟨t,ops,ops.map AI,0⟩:PW) :: P.wait.drop (P.Ce t)).length=P.wait.length + 1:=by
  rw [List.length_append,List.length_cons,List.length_take,List.length_drop];omega
 have hsum:((P.wait.take (P.Ce t) ++ (⟨t,ops,ops.map AI,0⟩:PW) :: P.wait.drop (P.Ce t)).map PS.KL).sum=(P.wait.map PS.KL).sum + ops.length:=by
  conv=>rhs;rw [← List.take_append_drop (P.Ce t) P.wait]
  simp only [List.map_append,List.sum_append,List.map_cons,List.sum_cons];have:PS.KL ⟨t,ops,ops.map AI,0⟩=ops.length:=by unfold PS.KL;simp
  omega
 have hbb:(P.await t ops).out.length + (P.await t ops).left≤P.out.length + P.left + 49:=by
  unfold PS.await PS.left;dsimp only;rw [hsum,hlen];omega
 refine ⟨⟨Aas (f:=PW.Ah) (x:=⟨t,ops,ops.map AI,0⟩) h.wt hw,h.hd,fun x hx y hy=>?_,h.fn,h.tb,fun y hy=>?_,h.hv,h.mp,h.mn,h.wr,h.wn,h.er,by omega,?_,h.fl⟩,hbb⟩
 ·rcases hmem x hx with rfl | hx
  ·exact Ne.symm (hn y hy)
  ·exact h.dj x hx y hy
 ·rcases hmem y hy with rfl | hy
  ·exact ⟨ho,hl,rfl,by simp,by simp⟩
  ·exact h.wv y hy
 ·show P.held.length + (P.wait.take (P.Ce t) ++ _ :: P.wait.drop (P.Ce t)).length≤1000;rw [hlen];omega
open Go Go.Sx
theorem Adm {w:World} {m:Nat} {T:Nat→Nat} {X:Mc} (h:A6 w m T X) {a:Nat} (ha:w.heap[a]?=some (.cells #[.pointer (some ⟨m,0,none⟩)] 28 (0,0))) (hN:X.d.Ac.length≤1000000) {so:Sl} {ops:List Op} (ho:A1 BQ w so ops) (hl:ops.length≤1000000) {K:TR [.sc .b]→Pr}
  (k:∀ w',Aa [] w w'→K (ops.any X.p.Nb,()) w'):Cl Pg 48 [.slice so.p so.len so.cap,.func (.func 119) #[] #[.pointer (some ⟨a,0,none⟩)]] false [.sc .b] K w:=by
 refine BN (p:=X.p.Nb) (F:=fun _=>False) ho ?_ (by omega) fun w2 k2=>k w2 k2;intro w2 k2 x _ K1 hK;have k2:=k2.SU;have g2:=h.Ab k2;have a2:=k2.Aw ha;refine BJ (by kernel_rfl) ?_;refine Jn _ _ _ _ _ _ _ ?_;unfold Gv;dsimp only [Ar,N6,Li,AN,Ll,Ls,Tt,Vi,Vs,Vt];refine Ad fun c w3 h3 n3 k3=>?_;simp only [sb,h3];refine Ya x fun w4 k4=>?_;refine Ad fun d w5 h5 n5 k5=>?_;have k25:=Aj (Aj k3 k4) k5;refine AaD h5 rfl rfl fun w6 h6 k6=>?_;have k26:=BT k25 k6 (by have:=k3.size;have:=k4.size;omega);have g6:=g2.Ab k26;have a6:=k26.Aw a2;have a6d:w6.drew.heap[a]?=_:=a6;by_cases he:ER x=0
 ·simp only [he,if_true,sb,a6,g6.hd,Bs,h6,show ((0:Int) != 0)=false from rfl];refine AeK (g6.Ab (Am w6)).r.ow.ok hN _ _ _ fun w7 k7=>?_;have:=hK w7 (Aj k26.drew k7);unfold PS.Nb at this;rw [decide_eq_false (by simpa using he),Bool.false_or] at this;exact this
 ·rw [if_neg he];simp only [sb];rw [show ((ER x:Int) != 0)=true from by simpa using he];have:=hK _ k26.drew;unfold PS.Nb at this;rw [decide_eq_true he,Bool.true_or] at this;exact this
set_option maxHeartbeats 2000000 in
theorem Aen {w:World} {m:Nat} {T:Nat→Nat} {X:Mc} (h:A6 w m T X) (hp:Bj X.p) (hb:X.p.out.length + X.p.left + 60≤20000) (hO:X.d.Ac.length≤1000000) (x:Mg) (hx:Bq T (Su x) w) (ho:A9 x.ops=0) (hl:x.ops.length≤24) {K:TR []→Pr}
  (k:∀ X' T' w',A6 w' m T' X'→X'.p=X.p.work x.Ah x.low x.Ao x.ops→DG X X'→Aq T T' w w'→K () w') :
  Cl Pg 73 [.pointer (some ⟨m,0,none⟩),.agg #[.int .i64 x.kind,.int .i64 x.src,.int .i64 x.dst,.int .i64 x.Ch,.int .i64 x.code,.int .i64 x.peer,.int .u64 x.VT,.int .u64 x.Au,.int .u64 x.Ah,.int .u64 x.low,.int .u64 x.CZ,.int .u64 x.Ao,.int .u64 x.move,.int .u64 x.attempt,.int .u64 x.n,.bool x.flag,.string x.FN,.string x.G6,.slice x.so.p x.so.len x.so.cap,.slice x.sr.p x.sr.len x.sr.cap,.slice x.sw.p x.sw.len x.sw.cap]] true [] K w:=by
 refine Lo _ _ _ _ _ _ _ _ _ _ _ _ _ _ _ _ _ _ _ x.so x.sr x.sw ?_;unfold IE;dsimp only [Ag,RL,Ll,Lu,Ts,Tu,Vi,Vp,Vs,Vu];refine Ad fun a w1 h1 n1 k1=>?_;have g1:=h.Ab k1;have Ta:T a=0:=h.new n1;refine Ad fun b w2 h2 n2 k2=>?_;have g2:=g1.Ab k2;have h1:=k2.Aw h1;have Tb:T b=0:=g1.new n2;have k02:=Aj k1 k2;obtain ⟨f0,hf0⟩:∃ o,o=(Obj.cells #[.int .i64 x.kind,.int .i64 x.src,.int .i64 x.dst,.int .i64 x.Ch,.int .i64 x.code,.int .i64 x.peer,.int .u64 x.VT,.int .u64 x.Au,.int .u64 x.Ah,.int .u64 x.low,.int .u64 x.CZ,.int .u64 x.Ao,.int .u64 x.move,.int .u64 x.attempt,.int .u64 x.n,.bool x.flag,.string x.FN,.string x.G6,.slice x.so.p x.so.len x.so.cap,.slice x.sr.p x.sr.len x.sr.cap,.slice x.sw.p x.sw.len x.sw.cap] 47 (0,0)):=⟨_,rfl⟩;refine AG (fun _ w3=>∃ X3 T3,A6 w3 m T3 X3∧X3.p=X.p.Bk x.low∧DG X X3∧Aq T T3 w2 w3) (fun J hJ=>?_) ?_
 ·have hge:decide (x.low > X.c.low)=decide (X.p.c.low < x.low):=rfl;simp only [sb,h1,h2,g2.hd,Bs];by_cases hlow:X.p.c.low < x.low
  ·rw [hge,decide_eq_true hlow];simp only [sb,h1,h2];have h1d:w2.drew.heap[a]?=_:=h1;refine A6.set (X':={ X with c:={ X.c with low:=x.low } }) (show w2.drew.heap[m]?=_ from g2.hd) g2.t1 (g2.Ab (Am w2)).r (i:=8) (by decide) rfl rfl fun w3 h3 s3=>?_;have e3:Aq T T w2 w3:=(Aq.k0 (Am w2)).trans (s3.Bm (by decide));obtain ⟨a3,_⟩:=e3.at h1 Ta;obtain ⟨b3,_⟩:=e3.at h2 Tb;simp only [sb,a3,b3,h3.hd,Bs];have g3:=h3.Ab (Am w3);refine NJ (p:=fun n:Int=>decide (n < x.low)) g3.r.fi.ok ?_ (by have:=hp.fl;exact Nat.le_trans this (by omega)) ?_
   ·intro w4 k4 y _ K1 hK;refine BJ (by kernel_rfl) ?_;refine IZ _ _ ?_;unfold G2;dsimp only [Lu];have b4:w4.heap[b]?=_:=(k4.get b (Av b3) (fun hb=>by have:=(g3.r.fi.tag b hb).2;rw [Tb] at this;cases this)).trans b3;simp only [sb,b4];exact hK w4 (Aa.refl _ _)
   ·intro r w4 h4 f4 k4;have a4:w4.heap[a]?=_:=k4.at (show w3.drew.heap[a]?=_ from a3) (fun hb=>by have:=(g3.r.fi.tag a hb).2;rw [Ta] at this;cases this);have m4:w4.heap[m]?=_:=k4.at (show w3.drew.heap[m]?=_ from h3.hd) (fun hb=>by have:=(g3.r.fi.tag m hb).2;have:=h3.t1;omega);simp only [sb,a4];refine ⟨by trivial,?_⟩;refine g3.uFi k4 h4 (fun y hy=>.inl (f4 y hy)) fun w5 h5 e5=>?_;refine hJ () w5 ⟨_,_,h5,?_,⟨rfl,rfl,rfl⟩,(e3.trans (Aq.k0 (Am w3))).trans e5⟩;unfold PS.Bk;rw [if_pos hlow];rfl
  ·rw [hge,decide_eq_false hlow];simp only [sb];refine hJ () _ ⟨X,T,g2.Ab (Am w2),?_,DG.refl _,Aq.k0 (Am w2)⟩;unfold PS.Bk;rw [if_neg hlow]
 ·rintro _ w3 ⟨X3,T3,h3,q3,x3,e3⟩;obtain ⟨a3,Ta3⟩:=e3.at h1 Ta;obtain ⟨b3,Tb3⟩:=e3.at h2 Tb;have x3i:=(hx.Ab k02).Bm e3;have e03:Aq T T3 w w3:=(Aq.k0 k02).trans e3;have p3:Bj X3.p:=by rw [q3];exact hp.Bk _
  have O3:X3.d.Ac.length≤1000000:=by show X3.p.Ac.length≤_;rw [q3];unfold PS.Bk;split <;> exact hO
  have hb3:X3.p.out.length + X3.p.left + 60≤20000:=by rw [q3,GP,Hj];exact hb
  have lx:=p3.Aem;have ox:=p3.Afy;have k:∀ X' T' w',A6 w' m T' X'→X'.p=X3.p.Du x.Ah x.Ao x.ops→DG X3 X'→Aq T3 T' w3 w'→K () w':=by
   intro X' T' w' h' q' x' e';refine k X' T' w' h' ?_ (x3.trans x') (e03.trans e');rw [q',q3];rfl
  clear hb hO hp q3 x3 e3 e03 hx;simp only [sb,a3,b3];refine Nj h3 p3.wtX (by omega) x.Ah fun w4 k4=>?_;have g4:=h3.Ab k4;have a4:=k4.Aw a3;have b4:=k4.Aw b3;rw [← U7,← XB];dsimp only;refine BR (X3.p.gone x.Ah) (fun J hJ=>?_) fun w5 k5=>?_
  ·simp only [sb,a4,b4,g4.hd,Bs];have hge:decide (x.Ah < X3.c.low)=decide (x.Ah < X3.p.c.low):=rfl;unfold PS.gone at hJ;cases hlow:decide (x.Ah < X3.c.low) with
   | true=>
    rw [← hge,hlow] at hJ;simp only [sb];exact hJ _ (Am w4)
   | false=>
    rw [← hge,hlow,Bool.false_or] at hJ;simp only [sb,a4,b4,g4.hd,Bs];refine UI (g4.Ab (Am w4)).r.fi.ok.C6 x.Ah (by have:=p3.fl;exact Nat.le_trans this (by omega)) ?_;dsimp only;rw [show X3.p.fin=X3.d.fin from rfl] at hJ;cases hc:X3.d.fin.contains x.Ah with
    | true=>rw [hc,Bool.true_or] at hJ;exact hJ _ (Am w4)
    | false=>rw [hc,Bool.false_or] at hJ;exact hJ _ (Am w4)
  ·have g5:=g4.Ab k5;have k35:=Aj k4 k5;have a5:=k35.Aw a3;have b5:=k35.Aw b3;unfold PS.Du at k;cases hg:X3.p.gone x.Ah with
   | true=>
    rw [hg,if_pos rfl] at k;exact k X3 T3 w5 g5 rfl (DG.refl _) (Aq.k0 k35)
   | false=>
    rw [hg,if_neg (by simp)] at k;simp only [Ae,sb,a5,b5];refine Aa6 g5 p3.hdX (by omega) x.Ah fun w6 k6=>?_;have g6:=g5.Ab k6;have k36:=Aj k35 k6;have a6:=k36.Aw a3;have b6:=k36.Aw b3;rw [← XT,← Af1];dsimp only;cases hh:X3.p.TJ x.Ah with
    | true=>
     obtain ⟨y,hy,hyt⟩:=Af0 p3 hh;have hyp:X3.p.held[X3.p.DY x.Ah]?=some y.p:=by
      show (X3.d.held.map Hd.p)[X3.p.DY x.Ah]?=_;rw [List.getElem?_map,hy];rfl
     rw [hh,if_pos rfl,hyp] at k;dsimp only at k;obtain ⟨v1,v2⟩:=p3.hv y.p (List.mem_of_getElem? hyp);have v1:A9 y.ops=0:=v1;have v2:y.ops.length≤24:=v2;have a6d:w6.drew.heap[a]?=_:=a6;have g6d:=g6.Ab (Am w6);simp only [sb,a6,b6,g6.hd,Bs];refine ld1 (ρ:=Fo) g6d.r.he.ok.C6 hy 1 .sl y.so rfl ?_;refine W8 g6d p3.mp (Nat.le_trans p3.mn (by omega)) p3.wr (Nat.le_trans p3.wn (by omega)) (g6d.r.Ro y (List.mem_of_getElem? hy)).ok v1 (by omega) ?_;intro sr rs w7 k7 ir7 hrs;have k37:=Aj k36.drew k7;have a7:=k37.Aw a3;have b7:=k37.Aw b3;have g7:=g6d.Ab k7;simp only [sb,a7,b7];refine ⟨by trivial,by trivial,?_⟩;refine V6 g7 x.Ah 3 sr rs ir7 (by omega) ?_;intro so' T8 w8 h8 e8;refine k _ T8 w8 h8 ?_ ⟨rfl,rfl,rfl⟩ ((Aq.k0 k37).trans e8);show Mc.p _=X3.p.Df x.Ah 3 (X3.p.results y.ops);unfold PS.Df PS.send PS.results;rw [show (Bd (Bd X3.p.M X3.p.writes).1 y.ops).2=rs.map Rs.p from hrs.symm];unfold Mc.p;dsimp only;rw [List.map_append];rfl
    | false=>
     rw [hh,if_neg (by simp)] at k;have a6d:w6.drew.heap[a]?=_:=a6;simp only [sb,a6,b6,g6.hd,Bs];have g6d:=g6.Ab (Am w6);have k36:=k36.drew;have lh:=g6d.r.he.ok.BY;have lw:=g6d.r.wa.ok.BY;have lf:X3.d.sf.len=X3.d.fin.length:=V1 g6d.r.fi.ok.C6;have xi6:=x3i.Ab k36;refine BR (X3.p.C7 x.Ao x.ops) (fun J hJ=>?_) fun w7 k7=>?_
     ·have hJ:∀ c w',X3.p.C7 x.Ao x.ops=c→Aa [] w6.drew w'→J (c,()) w':=fun c w' e k=>by rw [← e];exact hJ w' k
      have kd:Aa [] w6.drew w6.drew.drew:=Am _;have h4:X3.p.held.length=X3.d.held.length:=List.length_map _;have h5:X3.p.wait.length=X3.d.wait.length:=List.length_map _;have h6:X3.p.fin.length=X3.d.fin.length:=rfl;have hfl:=p3.fl;simp only [sb,a6,b6,g6.hd,Bs];unfold PS.C7 PS.full at hJ;by_cases c1:x.Ao=X3.c.Ao
      ·rw [show ((x.Ao:Int) != X3.c.Ao)=false from by simpa using c1];rw [decide_eq_false (show ¬ (x.Ao ≠ X3.p.c.Ao) from fun h=>h c1),Bool.false_or] at hJ;simp only [Ae];rw [lh,lw,By (by omega) (by omega)];by_cases c2:6≤X3.d.held.length + X3.d.wait.length
       ·rw [decide_eq_true (by omega)];simp only [Af];refine hJ _ _ ?_ kd;rw [decide_eq_true (show 6≤X3.p.held.length + X3.p.wait.length by omega),Bool.true_or,Bool.true_or]
       ·rw [decide_eq_false (by omega)];rw [decide_eq_false (show ¬ 6≤X3.p.held.length + X3.p.wait.length by omega),Bool.false_or] at hJ;simp only [sb,a6,b6,g6.hd,Bs];rw [lf,By (by omega) (by omega)];by_cases c3:64≤X3.d.held.length + X3.d.wait.length + X3.d.fin.length
        ·rw [decide_eq_true (by omega)];simp only [Af];refine hJ _ _ ?_ kd;rw [decide_eq_true (show 64≤X3.p.held.length + X3.p.wait.length + X3.p.fin.length by omega),Bool.true_or]
        ·rw [decide_eq_false (by omega)];rw [decide_eq_false (show ¬ 64≤X3.p.held.length + X3.p.wait.length + X3.p.fin.length by omega),Bool.false_or] at hJ;simp only [sb,a6,b6,g6.hd,Bs];refine Adm (g6d.Ab kd) (show w6.drew.drew.heap[a]?=_ from a6) O3 (xi6.ok.1.Ab kd) (by omega) fun w7 k7=>?_;have k67:=Aj kd k7;have g7:=g6d.Ab k67;have a7:=k67.Aw (show w6.drew.heap[a]?=_ from a6);have b7:=k67.Aw (show w6.drew.heap[b]?=_ from b6);dsimp only;cases hfo:x.ops.any X3.p.Nb with
         | true=>
          simp only [Af];refine hJ _ _ ?_ k67;rw [hfo,Bool.true_or]
         | false=>
          rw [hfo,Bool.false_or] at hJ;simp only [sb,a7,b7];refine AdO g7 (xi6.ok.1.Ab k67) (by omega) fun w8 k8=>?_;exact hJ _ _ rfl (Aj k67 k8)
      ·rw [show ((x.Ao:Int) != X3.c.Ao)=true from by simpa using c1];simp only [Af];refine hJ _ _ ?_ kd;rw [decide_eq_true (show x.Ao ≠ X3.p.c.Ao from c1),Bool.true_or]
     ·have g7:=g6d.Ab k7;have k37:=Aj k36 k7;have a7:=k37.Aw a3;have b7:=k37.Aw b3;have xi7:=x3i.Ab k37;cases hr:X3.p.C7 x.Ao x.ops with
      | true=>
       rw [hr,if_pos rfl] at k;simp only [sb,a7,b7];refine V6 g7 x.Ah 4 ⟨none,0,0⟩ [] (Bq.NI fun w=>⟨A1.nil w,by simp⟩) (by omega) ?_;intro so' T8 w8 h8 e8;refine k _ T8 w8 h8 ?_ ⟨rfl,rfl,rfl⟩ ((Aq.k0 k37).trans e8);show Mc.p _=X3.p.Df x.Ah 4 [];unfold PS.Df PS.send Mc.p;dsimp only;rw [List.map_append];rfl
      | false=>
       rw [hr,if_neg (by simp)] at k;have hwis:X3.p.Pb x.Ah=false:=by unfold PS.gone at hg;simp only [Bool.or_eq_false_iff] at hg;exact hg.2
       have hful:X3.p.full=false:=by unfold PS.C7 at hr;simp only [Bool.or_eq_false_iff] at hr;exact hr.2.1
       have hc:X3.p.held.length + X3.p.wait.length < 6:=by unfold PS.full at hful;simp only [Bool.or_eq_false_iff,decide_eq_false_iff_not] at hful;omega
       obtain ⟨p8,b8⟩:=p3.await ho hl (KY p3 hwis) (Nd p3 hh) (by omega) hb3;simp only [sb,a7,b7];refine Ab2 xi7.ok.1 (by omega) ?_ (fun h=>absurd ho h);intro _ rk w8 h8 f8 k8;have k38:=Aj k37 k8;have a8:=k38.Aw a3;have b8':=k38.Aw b3;have g8:=g7.Ab k8;have xi8:=xi7.Ab k8;have g8d:=g8.Ab (Am w8);have imk:Bq T3 (fun w=>A1 YT w rk (x.ops.map AI)) w8:=Bq.of h8.C6 fun y hy=>g7.new (f8 y (h8.rb y hy));simp only [sb,a8,b8',g8.hd,Bs];refine Kz (xi8.ok.1.Ab (Am w8)) (by omega) ?_;intro rc w9 h9 f9 k9;have k89:=Aj (Am w8) k9;have k39:=Aj k38 k89;have a9:=k39.Aw a3;have b9:=k39.Aw b3;have g9:=g8.Ab k89;have imc:Bq T3 (fun w=>A1 BQ w rc x.ops) w9:=Bq.of h9.C6 fun y hy=>g8d.new (f9 y (h9.rb y hy));simp only [sb,a9,b9,g9.hd,Bs];refine ⟨by trivial,by trivial,by trivial,by trivial,?_⟩;refine Ad fun c w10 h10 n10 k10=>?_;have k310:=Aj k39 k10;have a10:=k310.Aw a3;have b10:=k310.Aw b3;have g10:=g9.Ab k10;simp only [sb,a10,b10,g10.hd,Bs];refine ⟨by trivial,by trivial,by trivial,?_⟩;have hle:X3.p.Ce x.Ah≤X3.d.wait.length:=by rw [U7];exact Dv _ _
       refine Wa (x:=⟨x.Ah,rc,rk,0,x.ops,x.ops.map AI⟩) g10.r.wa.ok h10 (fun hy=>by have:=(g10.r.wa.tag c hy).2;rw [g9.new n10] at this;cases this) hle (by omega) ?_;intro r w11 h11 f11 k11;have a11:w11.heap[a]?=_:=k11.at a10 (fun hb=>by have:=(g10.r.wa.tag a hb).2;rw [Ta3] at this;cases this);have b11:w11.heap[b]?=_:=k11.at b10 (fun hb=>by have:=(g10.r.wa.tag b hb).2;rw [Tb3] at this;cases this);have s11:CH 4 T3 (AX 4 r T3) w10 w11:=CH.row k11 (fun y hy=>(g10.r.wa.tag y hy).2) f11;simp only [sb,a11];refine ⟨by trivial,?_⟩;refine g10.uWa k11 h11 f11 (fun y hy=>?_) fun w12 h12 e12=>?_
       ·rcases List.mem_append.1 hy with hy | hy
        ·exact (g10.r.Ss y (List.mem_of_mem_take hy)).kt (by decide) s11
        ·rcases List.mem_cons.1 hy with rfl | hy
         ·exact ((imc.Ab k10).and (imk.Ab (Aj k89 k10))).kt (by decide) s11
         ·exact (g10.r.Ss y (List.mem_of_mem_drop hy)).kt (by decide) s11
       obtain ⟨a12,Ta12⟩:=e12.at a10 Ta3;obtain ⟨b12,Tb12⟩:=e12.at b10 Tb3;have e312:=(Aq.k0 k310).trans e12;obtain ⟨X4,hX4⟩:∃ X4:Mc,X4={ X3 with d:={ X3.d with sw:=r,wait:=X3.d.wait.take (X3.p.Ce x.Ah) ++ ⟨x.Ah,rc,rk,0,x.ops,x.ops.map AI⟩ :: X3.d.wait.drop (X3.p.Ce x.Ah) } }:=⟨_,rfl⟩;rw [← hX4] at h12;have q4:X4.p=X3.p.await x.Ah x.ops:=by rw [hX4];unfold PS.await Mc.p;dsimp only;rw [List.map_append,List.map_cons,List.map_take,List.map_drop];rfl
       rw [← q4] at p8 k;simp only [sb,a12,b12];refine Ad0 h12 p8 x.Ah fun X5 T5 w13 h13 q5 x5 e13=>?_;obtain ⟨a13,Ta13⟩:=e13.at a12 Ta12;have p9:=(p8.Cw 30 (t:=x.Ah)).1;rw [← q5] at p9 k;simp only [sb,a13];refine Xf h13 p9 fun X6 T6 w14 h14 q6 x6 e14=>?_;refine k X6 T6 w14 h14 q6 (DG.trans (by rw [hX4];exact ⟨rfl,rfl,rfl⟩) (x5.trans x6).two) ((e312.trans e13).trans e14)
open Go Go.Sx
abbrev ekI (k:IntKind):Int→Value:=fun x=>.int k x
theorem Vf {κ:Type} [DecidableEq κ] {ek:κ→Value} {K:Nat→Pr} {w:World} (hk:∀ m w',Vj w' m ek ([]:List (κ × Value))→w.heap.size≤m→Aa [] w w'→K m w'):O1 (.map #[] 0) K w:=
 hk _ _ (Vj.new w ek) (Nat.le_refl _) ((Aa.refl _ _).alloc _)
theorem Bb {k:IntKind} {w:World} {m:Nat} {kv:List (Int × Value)} (h:Vj w m (ekI k) kv) (x:Int) (v:Value) (hn:EW x kv 0=none) {K:Pr} (hk:∀ w',Vj w' m (ekI k) (kv ++ [(x,v)])→Aa [m] w w'→K w'):CI (.int k) (some m) (.int k x) v K w:=by
 refine Ahe (GM k) h x v fun w' h' k'=>hk w' ?_ k';rw [(Pe hn).2.1 v] at h';exact h'
theorem AeZ {k:IntKind} {w:World} {m:Nat} {kv:List (Int × Value)} {ks:List Kd} {z:Value} (h:Vj w m (ekI k) kv) {x:Int} {y:Kw ks} {K:Kw ks→Bool→Pr} (hg:Jd x kv=some (.agg (Cs ks y).toArray)) (hk:K y true w):LkA ks z (.int k) (some m) (.int k x) K w:=
 AbK (GM k) h x (by rw [hg];exact ⟨y,rfl,hk⟩)
theorem Afe {k:IntKind} {w:World} {m:Nat} {kv:List (Int × Value)} {ks:List Kd} (h:Vj w m (ekI k) kv) {x:Int} {y:Kw ks} {K:Kw ks→Bool→Pr} (hg:Jd x kv=none) (hk:K y false w):LkA ks (.agg (Cs ks y).toArray) (.int k) (some m) (.int k x) K w:=
 AbK (GM k) h x (by rw [hg];exact ⟨y,rfl,hk⟩)
abbrev fW:List Kd:=[.s,.v,.v,.v]
abbrev Ez (f:FuncId):Value:=.func (.func f) #[] #[]
abbrev fmT (s:List UInt8) (a b c:FuncId):Kw fW:=(BA s,Ez a,Ez b,Ez c,())
def GS:List (Int × Kw fW):=[(1,fmT [113,98,111] 135 136 137),(2,fmT [113,98,99,115] 136 135 139),(3,fmT [116,108,101,111] 136 141 142),(4,fmT [116,99,115] 141 136 144),(5,fmT [116,102] 136 141 145),(6,fmT [116] 141 136 145),(7,fmT [116] 141 136 145),(8,fmT [118,101,109,119] 136 141 146),(9,fmT [118] 141 136 145),(10,fmT [118,109,112,102,114] 136 141 147),(11,fmT [109,97,110,114,111] 141 141 148),(12,fmT [109,97,110] 141 141 150),(13,fmT [109] 141 136 145),(14,fmT [109] 141 136 145)]
def Alc:List (Int × Value):=GS.map fun p=>(p.1,.agg (Cs fW p.2).toArray)
def fmZ:Kw fW:=(BA [],Value.nilFunc,Value.nilFunc,Value.nilFunc,())
def LC {α:Type} (k:Int):List (Int × α)→Option α
 | []=>none
 | p :: r=>if k=p.1 then some p.2 else LC k r
theorem WK {α:Type} {k:Int}:∀ {l:List (Int × α)} {y:α},LC k l=some y→(k,y)∈l
 | p :: r,y,h=>by
  simp only [LC] at h;split at h
  ·rename_i hk;injection h with h;subst hk h;exact List.mem_cons_self
  ·exact List.mem_cons_of_mem _ (WK h)
theorem Aay:∀ {k:Int} {y:Kw fW},(k,y)∈GS→∀ v∈Cs fW y,v.oneCell'=true:=by
 intro k y h;have:∀ p∈GS,(Cs fW p.2).all (·.oneCell')=true:=by unfold GS;simp [Cs,Kd.enc,Value.oneCell']
 exact fun v hv=>List.all_eq_true.1 (this _ h) v hv
theorem Ae4 (k:Int):∀ l:List (Int × Kw fW),Jd k (l.map fun p=>(p.1,(.agg (Cs fW p.2).toArray:Value)))=(LC k l).map fun y=>(.agg (Cs fW y).toArray:Value)
 | []=>rfl
 | p :: l=>by
  rw [List.map_cons];simp only [Jd,LC];split
  ·rfl
  ·exact Ae4 k l
set_option maxHeartbeats 4000000 in
theorem Ab4 (kind:Int) {w:World} {K:TR [.ag fW,.sc .b]→Pr} (k:∀ w',Aa [] w w'→K ((LC kind GS).getD fmZ,(LC kind GS).isSome,()) w'):Cl Pg 79 [.int .i64 kind] true [.ag fW,.sc .b] K w:=by
 refine Rk _ ?_;unfold RN;dsimp only [K4',Ai1,Tt,Vi,Vt];refine Ad fun a w0 h0 n0 k0=>?_;refine Vf (ek:=ekI .i64) fun m w1 h1 n1 k1=>?_;have ka1:=Aj k0 k1;have nm:w.heap.size≤m:=by have:=k0.size;omega
 have ka1:Aa [] w w1∧w1.heap[a]?=some (.cells #[.string (BA []),.nilFunc,.nilFunc,.nilFunc] 162 (0,0)):=⟨ka1,k1.Aw h0⟩;have ma:a ≠ m:=fun e=>by have:=Av h0;omega
 refine ⟨rfl,rfl,rfl,?_⟩;refine Bb h1 1 _ rfl fun w2 h2 k2=>?_;have ka2:Aa [] w w2∧w2.heap[a]?=some (.cells #[.string (BA []),.nilFunc,.nilFunc,.nilFunc] 162 (0,0)):=⟨BT ka1.1 k2 nm,k2.Mw ka1.2 ma⟩;refine ⟨rfl,rfl,rfl,?_⟩;refine Bb h2 2 _ rfl fun w3 h3 k3=>?_;have ka3:Aa [] w w3∧w3.heap[a]?=some (.cells #[.string (BA []),.nilFunc,.nilFunc,.nilFunc] 162 (0,0)):=⟨BT ka2.1 k3 nm,k3.Mw ka2.2 ma⟩;refine ⟨rfl,rfl,rfl,?_⟩;refine Bb h3 3 _ rfl fun w4 h4 k4=>?_;have ka4:Aa [] w w4∧w4.heap[a]?=some (.cells #[.string (BA []),.nilFunc,.nilFunc,.nilFunc] 162 (0,0)):=⟨BT ka3.1 k4 nm,k4.Mw ka3.2 ma⟩;refine ⟨rfl,rfl,rfl,?_⟩;refine Bb h4 4 _ rfl fun w5 h5 k5=>?_;have ka5:Aa [] w w5∧w5.heap[a]?=some (.cells #[.string (BA []),.nilFunc,.nilFunc,.nilFunc] 162 (0,0)):=⟨BT ka4.1 k5 nm,k5.Mw ka4.2 ma⟩;refine ⟨rfl,rfl,rfl,?_⟩;refine Bb h5 5 _ rfl fun w6 h6 k6=>?_;have ka6:Aa [] w w6∧w6.heap[a]?=some (.cells #[.string (BA []),.nilFunc,.nilFunc,.nilFunc] 162 (0,0)):=⟨BT ka5.1 k6 nm,k6.Mw ka5.2 ma⟩;refine ⟨rfl,rfl,rfl,?_⟩;refine Bb h6 6 _ rfl fun w7 h7 k7=>?_;have ka7:Aa [] w w7∧w7.heap[a]?=some (.cells #[.string (BA []),.nilFunc,.nilFunc,.nilFunc] 162 (0,0)):=⟨BT ka6.1 k7 nm,k7.Mw ka6.2 ma⟩;refine ⟨rfl,rfl,rfl,?_⟩;refine Bb h7 7 _ rfl fun w8 h8 k8=>?_;have ka8:Aa [] w w8∧w8.heap[a]?=some (.cells #[.string (BA []),.nilFunc,.nilFunc,.nilFunc] 162 (0,0)):=⟨BT ka7.1 k8 nm,k8.Mw ka7.2 ma⟩;refine ⟨rfl,rfl,rfl,?_⟩;refine Bb h8 8 _ rfl fun w9 h9 k9=>?_;have ka9:Aa [] w w9∧w9.heap[a]?=some (.cells #[.string (BA []),.nilFunc,.nilFunc,.nilFunc] 162 (0,0)):=⟨BT ka8.1 k9 nm,k9.Mw ka8.2 ma⟩;refine ⟨rfl,rfl,rfl,?_⟩;refine Bb h9 9 _ rfl fun w10 h10 k10=>?_;have ka10:Aa [] w w10∧w10.heap[a]?=some (.cells #[.string (BA []),.nilFunc,.nilFunc,.nilFunc] 162 (0,0)):=⟨BT ka9.1 k10 nm,k10.Mw ka9.2 ma⟩;refine ⟨rfl,rfl,rfl,?_⟩;refine Bb h10 10 _ rfl fun w11 h11 k11=>?_;have ka11:Aa [] w w11∧w11.heap[a]?=some (.cells #[.string (BA []),.nilFunc,.nilFunc,.nilFunc] 162 (0,0)):=⟨BT ka10.1 k11 nm,k11.Mw ka10.2 ma⟩;refine ⟨rfl,rfl,rfl,?_⟩;refine Bb h11 11 _ rfl fun w12 h12 k12=>?_;have ka12:Aa [] w w12∧w12.heap[a]?=some (.cells #[.string (BA []),.nilFunc,.nilFunc,.nilFunc] 162 (0,0)):=⟨BT ka11.1 k12 nm,k12.Mw ka11.2 ma⟩;refine ⟨rfl,rfl,rfl,?_⟩;refine Bb h12 12 _ rfl fun w13 h13 k13=>?_;have ka13:Aa [] w w13∧w13.heap[a]?=some (.cells #[.string (BA []),.nilFunc,.nilFunc,.nilFunc] 162 (0,0)):=⟨BT ka12.1 k13 nm,k13.Mw ka12.2 ma⟩;refine ⟨rfl,rfl,rfl,?_⟩;refine Bb h13 13 _ rfl fun w14 h14 k14=>?_;have ka14:Aa [] w w14∧w14.heap[a]?=some (.cells #[.string (BA []),.nilFunc,.nilFunc,.nilFunc] 162 (0,0)):=⟨BT ka13.1 k14 nm,k14.Mw ka13.2 ma⟩;refine ⟨rfl,rfl,rfl,?_⟩;refine Bb h14 14 _ rfl fun w15 h15 k15=>?_;have ka15:Aa [] w w15∧w15.heap[a]?=some (.cells #[.string (BA []),.nilFunc,.nilFunc,.nilFunc] 162 (0,0)):=⟨BT ka14.1 k15 nm,k15.Mw ka14.2 ma⟩;have hkv:Vj w15 m (ekI .i64) Alc:=h15;have hg:=Ae4 kind GS
 have fin:∀ (y:Kw fW) (b:Bool),(∀ v∈Cs fW y,v.oneCell'=true)→(∀ w',Aa [] w w'→K (y,b,()) w')→(At #[.string (BA []),.nilFunc,.nilFunc,.nilFunc] 162 fun a5=>St (a5.add 0) (.string y.1) <| St (a5.add 1) y.2.1 <| St (a5.add 2) y.2.2.1 <| St (a5.add 3) y.2.2.2.1 <|
   BU (a5.add 0) fun x6=>LJ (a5.add 1) fun x7=>LJ (a5.add 2) fun x8=>LJ (a5.add 3) fun x9=>
   St ((⟨a,0,none⟩:Addr).add 0) (.string x6) <| St ((⟨a,0,none⟩:Addr).add 1) x7 <| St ((⟨a,0,none⟩:Addr).add 2) x8 <| St ((⟨a,0,none⟩:Addr).add 3) x9 <|
   BU ((⟨a,0,none⟩:Addr).add 0) fun x10=>LJ ((⟨a,0,none⟩:Addr).add 1) fun x11=>LJ ((⟨a,0,none⟩:Addr).add 2) fun x12=>LJ ((⟨a,0,none⟩:Addr).add 3) fun x13=>
   K ((x10,x11,x12,x13,()),b,())) w15:=by
  rintro ⟨y0,y1,y2,y3,⟨⟩⟩ b hone hK;have o1:y1.oneCell'=true:=hone y1 (by simp [Cs,Kd.enc]);have o2:y2.oneCell'=true:=hone y2 (by simp [Cs,Kd.enc]);have o3:y3.oneCell'=true:=hone y3 (by simp [Cs,Kd.enc]);have ha:=ka15.2;refine Aiw rfl rfl o1 o2 o3 fun c w20 h20 n20 kk=>?_;simp only [sb,h20];refine AkW (kk.Aw ha) rfl o1 o2 o3 fun w22 h22 k22=>?_;simp only [sb,h22];exact hK w22 (BT (Aj ka15.1 kk) k22 n0)
 cases hq:LC kind GS with
 | none=>
  rw [hq] at hg k;refine Afe (y:=fmZ) hkv hg ?_;exact fin fmZ false (by simp [fmZ,Cs,Kd.enc,Value.oneCell']) k
 | some y=>
  rw [hq] at hg k;refine AeZ hkv hg ?_;exact fin y true (Aay (WK hq)) k
open Go Go.Sx
abbrev Sm (x:Mg):Array Value:=#[.int .i64 x.kind,.int .i64 x.src,.int .i64 x.dst,.int .i64 x.Ch,.int .i64 x.code,.int .i64 x.peer,.int .u64 x.VT,.int .u64 x.Au,.int .u64 x.Ah,.int .u64 x.low,.int .u64 x.CZ,.int .u64 x.Ao,.int .u64 x.move,.int .u64 x.attempt,.int .u64 x.n,.bool x.flag,.string x.FN,.string x.G6,.slice x.so.p x.so.len x.so.cap,.slice x.sr.p x.sr.len x.sr.cap,.slice x.sw.p x.sw.len x.sw.cap]
def Zs (F:Nat→Prop) (f:Value) (z:Mg→Bool) (w:World):Prop:=∀ (x:Mg) (a:Nat) (w2:World),A4 F w w2→w2.heap[a]?=some (.cells (Sm x) 47 (0,0))→∀ K:TR [.sc .b]→Pr,K (z x,()) w2→AB Pg f [.pointer (some ⟨a,0,none⟩)] false [.sc .b] K w2
theorem Zs.keeps {F:Nat→Prop} {f:Value} {z:Mg→Bool} {w w':World} (h:Zs F f z w) (k:A4 F w w'):Zs F f z w':=fun x a w2 k2=>h x a w2 (k.same k2)
def Xm (f:Value) (off:Nat):Prop:=∀ (a:Nat) (w:World) (K:TR [.sc .p]→Pr),K (some ⟨a,off,none⟩,()) w→AB Pg f [.pointer (some ⟨a,0,none⟩)] false [.sc .p] K w
abbrev v3:List Kd:=[.v,.v,.v]
theorem Py {f:Value} {off:Nat} {g:Mg→Int} {F:Nat→Prop} (h1:f.oneCell'=true) (hof:Xm f off) (hg:∀ x,(Sm x)[off]?=some (.int .u64 (g x))) {w:World} (hF:∀ b,F b→b < w.heap.size) {K:TR [.ag v3]→Pr}
  (k:∀ f1 f2 f3 w',f1.oneCell'=true→f2.oneCell'=true→f3.oneCell'=true→Zs F f3 (fun x=>g x == 0) w'→Aa [] w w'→K ((f1,f2,f3,()),()) w'):Cl Pg 151 [f] false [.ag v3] K w:=by
 refine VP _ ?_;unfold Y3;dsimp only [Lv3,Vp];refine ⟨h1,?_⟩;refine Ad fun a w1 ha n1 k1=>?_;refine Ad fun b w2 hb n2 k2=>?_;refine ⟨rfl,rfl,rfl,?_⟩;refine Mf hb rfl rfl rfl fun w3 hb3 k3=>?_;simp only [sb,hb3];have k03:=BT (Aj k1 k2) k3 (by have:=k1.size;omega);have ha3:=k3.Mw (k2.Aw ha) (fun e=>by have:=Av ha;omega);refine k _ _ _ w3 rfl rfl rfl ?_ k03;intro x c w4 k4 hc K1 hK;have ha4:w4.heap[a]?=_:=(k4.get a (Av ha3) (fun hf=>by have:=hF a hf;omega)).trans ha3;refine BJ (by kernel_rfl) ?_;refine SA _ _ ?_;unfold Ud;dsimp only [Vp];simp only [sb,ha4];refine hof c w4 _ ?_;show A2 .u64 ⟨c,off,none⟩ _ w4;rw [RZ,hc];show asI .u64 _ ((Sm x)[off]?) w4;rw [hg x];simp only [sb];exact hK
theorem Ab6 {f:Value} {off:Nat} {g:Mg→Int} {F:Nat→Prop} (h1:f.oneCell'=true) (hof:Xm f off) (hg:∀ x,(Sm x)[off]?=some (.int .i64 (g x))) {w:World} (hF:∀ b,F b→b < w.heap.size) {K:TR [.ag v3]→Pr}
  (k:∀ f1 f2 f3 w',f1.oneCell'=true→f2.oneCell'=true→f3.oneCell'=true→Zs F f3 (fun x=>g x == 0) w'→Aa [] w w'→K ((f1,f2,f3,()),()) w'):Cl Pg 161 [f] false [.ag v3] K w:=by
 refine SF _ ?_;unfold V5;dsimp only [Lv3,Vp];refine ⟨h1,?_⟩;refine Ad fun a w1 ha n1 k1=>?_;refine Ad fun b w2 hb n2 k2=>?_;refine ⟨rfl,rfl,rfl,?_⟩;refine Mf hb rfl rfl rfl fun w3 hb3 k3=>?_;simp only [sb,hb3];have k03:=BT (Aj k1 k2) k3 (by have:=k1.size;omega);have ha3:=k3.Mw (k2.Aw ha) (fun e=>by have:=Av ha;omega);refine k _ _ _ w3 rfl rfl rfl ?_ k03;intro x c w4 k4 hc K1 hK;have ha4:w4.heap[a]?=_:=(k4.get a (Av ha3) (fun hf=>by have:=hF a hf;omega)).trans ha3;refine BJ (by kernel_rfl) ?_;refine Px _ _ ?_;unfold Qi;dsimp only [Vp];simp only [sb,ha4];refine hof c w4 _ ?_;show A2 .i64 ⟨c,off,none⟩ _ w4;rw [RZ,hc];show asI .i64 _ ((Sm x)[off]?) w4;rw [hg x];simp only [sb];exact hK
theorem Aez {f f' f'':Value} {off:Nat} {g:Mg→Sl} {F:Nat→Prop} (h1:f.oneCell'=true) (h1':f'.oneCell'=true) (h1'':f''.oneCell'=true) (hof:Xm f off) (hg:∀ x,(Sm x)[off]?=some (.slice (g x).p (g x).len (g x).cap)) {w:World} (hF:∀ b,F b→b < w.heap.size) {K:TR [.ag v3]→Pr}
  (k:∀ f1 f2 f3 w',f1.oneCell'=true→f2.oneCell'=true→f3.oneCell'=true→Zs F f3 (fun x=>(((g x).len:Nat):Int) == 0) w'→Aa [] w w'→K ((f1,f2,f3,()),()) w'):Cl Pg 174 [f,f',f''] false [.ag v3] K w:=by
 refine Qe _ _ _ ?_;unfold Pu;dsimp only [Lv3,Vp];refine ⟨h1,?_⟩;refine Ad fun a w1 ha n1 k1=>?_;refine ⟨h1',?_⟩;refine Ad fun a2 w12 ha2 n12 k12=>?_;refine ⟨h1'',?_⟩;refine Ad fun a3 w13 ha3 n13 k13=>?_;refine Ad fun b w2 hb n2 k2=>?_;refine ⟨rfl,rfl,rfl,?_⟩;refine Mf hb rfl rfl rfl fun w3 hb3 k3=>?_;simp only [sb,hb3];have k02:=Aj (Aj (Aj k1 k12) k13) k2;have k12':=Aj (Aj k12 k13) k2;have nb:w.heap.size≤b:=by have:=k1.size;have:=k12.size;have:=k13.size;omega
 have k03:=BT k02 k3 nb;have ha3:=k3.Mw (k12'.Aw ha) (fun e=>by have:=Av ha;have:=k12.size;have:=k13.size;omega);refine k _ _ _ w3 rfl rfl rfl ?_ k03;intro x c w4 k4 hc K1 hK;have ha4:w4.heap[a]?=_:=(k4.get a (Av ha3) (fun hf=>by have:=hF a hf;omega)).trans ha3;refine BJ (by kernel_rfl) ?_;refine ND _ _ ?_;unfold MJ;dsimp only [Vp];simp only [sb,ha4];refine hof c w4 _ ?_;show DN ⟨c,off,none⟩ _ w4;rw [Wn,hc];show asL _ ((Sm x)[off]?) w4;rw [hg x];simp only [sb];exact hK
theorem Yb {f f' f'':Value} {off:Nat} {g:Mg→Sl} {F:Nat→Prop} (h1:f.oneCell'=true) (h1':f'.oneCell'=true) (h1'':f''.oneCell'=true) (hof:Xm f off) (hg:∀ x,(Sm x)[off]?=some (.slice (g x).p (g x).len (g x).cap)) {w:World} (hF:∀ b,F b→b < w.heap.size) {K:TR [.ag v3]→Pr}
  (k:∀ f1 f2 f3 w',f1.oneCell'=true→f2.oneCell'=true→f3.oneCell'=true→Zs F f3 (fun x=>(((g x).len:Nat):Int) == 0) w'→Aa [] w w'→K ((f1,f2,f3,()),()) w'):Cl Pg 178 [f,f',f''] false [.ag v3] K w:=by
 refine Mb _ _ _ ?_;unfold Kk;dsimp only [Lv3,Vp];refine ⟨h1,?_⟩;refine Ad fun a w1 ha n1 k1=>?_;refine ⟨h1',?_⟩;refine Ad fun a2 w12 ha2 n12 k12=>?_;refine ⟨h1'',?_⟩;refine Ad fun a3 w13 ha3 n13 k13=>?_;refine Ad fun b w2 hb n2 k2=>?_;refine ⟨rfl,rfl,rfl,?_⟩;refine Mf hb rfl rfl rfl fun w3 hb3 k3=>?_;simp only [sb,hb3];have k02:=Aj (Aj (Aj k1 k12) k13) k2;have k12':=Aj (Aj k12 k13) k2;have nb:w.heap.size≤b:=by have:=k1.size;have:=k12.size;have:=k13.size;omega
 have k03:=BT k02 k3 nb;have ha3:=k3.Mw (k12'.Aw ha) (fun e=>by have:=Av ha;have:=k12.size;have:=k13.size;omega);refine k _ _ _ w3 rfl rfl rfl ?_ k03;intro x c w4 k4 hc K1 hK;have ha4:w4.heap[a]?=_:=(k4.get a (Av ha3) (fun hf=>by have:=hF a hf;omega)).trans ha3;refine BJ (by kernel_rfl) ?_;refine Jx _ _ ?_;unfold Hq;dsimp only [Vp];simp only [sb,ha4];refine hof c w4 _ ?_;show DN ⟨c,off,none⟩ _ w4;rw [Wn,hc];show asL _ ((Sm x)[off]?) w4;rw [hg x];simp only [sb];exact hK
theorem YU {f f' f'':Value} {off:Nat} {g:Mg→Sl} {F:Nat→Prop} (h1:f.oneCell'=true) (h1':f'.oneCell'=true) (h1'':f''.oneCell'=true) (hof:Xm f off) (hg:∀ x,(Sm x)[off]?=some (.slice (g x).p (g x).len (g x).cap)) {w:World} (hF:∀ b,F b→b < w.heap.size) {K:TR [.ag v3]→Pr}
  (k:∀ f1 f2 f3 w',f1.oneCell'=true→f2.oneCell'=true→f3.oneCell'=true→Zs F f3 (fun x=>(((g x).len:Nat):Int) == 0) w'→Aa [] w w'→K ((f1,f2,f3,()),()) w'):Cl Pg 182 [f,f',f''] false [.ag v3] K w:=by
 refine M4 _ _ _ ?_;unfold LO;dsimp only [Lv3,Vp];refine ⟨h1,?_⟩;refine Ad fun a w1 ha n1 k1=>?_;refine ⟨h1',?_⟩;refine Ad fun a2 w12 ha2 n12 k12=>?_;refine ⟨h1'',?_⟩;refine Ad fun a3 w13 ha3 n13 k13=>?_;refine Ad fun b w2 hb n2 k2=>?_;refine ⟨rfl,rfl,rfl,?_⟩;refine Mf hb rfl rfl rfl fun w3 hb3 k3=>?_;simp only [sb,hb3];have k02:=Aj (Aj (Aj k1 k12) k13) k2;have k12':=Aj (Aj k12 k13) k2;have nb:w.heap.size≤b:=by have:=k1.size;have:=k12.size;have:=k13.size;omega
 have k03:=BT k02 k3 nb;have ha3:=k3.Mw (k12'.Aw ha) (fun e=>by have:=Av ha;have:=k12.size;have:=k13.size;omega);refine k _ _ _ w3 rfl rfl rfl ?_ k03;intro x c w4 k4 hc K1 hK;have ha4:w4.heap[a]?=_:=(k4.get a (Av ha3) (fun hf=>by have:=hF a hf;omega)).trans ha3;refine BJ (by kernel_rfl) ?_;refine K6 _ _ ?_;unfold Ik;dsimp only [Vp];simp only [sb,ha4];refine hof c w4 _ ?_;show DN ⟨c,off,none⟩ _ w4;rw [Wn,hc];show asL _ ((Sm x)[off]?) w4;rw [hg x];simp only [sb];exact hK
def zOf:List (Int × (Mg→Bool)):=[(113,fun x=>x.VT == 0),(98,fun x=>x.Au == 0),(116,fun x=>x.Ah == 0),(108,fun x=>x.low == 0),(118,fun x=>x.CZ == 0),(101,fun x=>x.Ao == 0),(109,fun x=>x.move == 0),(97,fun x=>x.attempt == 0),(110,fun x=>x.n == 0),(99,fun x=>x.code == 0),(112,fun x=>x.peer == 0),(102,fun x=>!x.flag),(114,fun x=>seq x.FN (BA []) && (seq x.G6 (BA []) && true)),(111,fun x=>((x.so.len:Nat):Int) == 0),(115,fun x=>((x.sr.len:Nat):Int) == 0),(119,fun x=>((x.sw.len:Nat):Int) == 0)]
def zW (c:Int) (x:Mg):Bool:=((LC c zOf).getD fun _=>true) x
theorem Akt:Xm (Ez 152) 6:=by
 intro a w K hK;refine Ap (by kernel_rfl) ?_;refine SR _ ?_;unfold TU;simp only [sb];exact hK
theorem Akp:Xm (Ez 153) 7:=by
 intro a w K hK;refine Ap (by kernel_rfl) ?_;refine Sw _ ?_;unfold Uc;simp only [sb];exact hK
theorem Akd:Xm (Ez 154) 8:=by
 intro a w K hK;refine Ap (by kernel_rfl) ?_;refine SV _ ?_;unfold UW;simp only [sb];exact hK
theorem AjK:Xm (Ez 155) 9:=by
 intro a w K hK;refine Ap (by kernel_rfl) ?_;refine SB _ ?_;unfold Ve;simp only [sb];exact hK
theorem Ajx:Xm (Ez 156) 10:=by
 intro a w K hK;refine Ap (by kernel_rfl) ?_;refine Sz _ ?_;unfold UJ;simp only [sb];exact hK
theorem Aj8:Xm (Ez 157) 11:=by
 intro a w K hK;refine Ap (by kernel_rfl) ?_;refine S1 _ ?_;unfold TL;simp only [sb];exact hK
theorem AjD:Xm (Ez 158) 12:=by
 intro a w K hK;refine Ap (by kernel_rfl) ?_;refine Sv _ ?_;unfold U8;simp only [sb];exact hK
theorem Ajz:Xm (Ez 159) 13:=by
 intro a w K hK;refine Ap (by kernel_rfl) ?_;refine S9 _ ?_;unfold TM;simp only [sb];exact hK
theorem Aj9:Xm (Ez 160) 14:=by
 intro a w K hK;refine Ap (by kernel_rfl) ?_;refine SS _ ?_;unfold U0;simp only [sb];exact hK
theorem Aip:Xm (Ez 162) 4:=by
 intro a w K hK;refine Ap (by kernel_rfl) ?_;refine QL _ ?_;unfold RA;simp only [sb];exact hK
theorem AiL:Xm (Ez 163) 5:=by
 intro a w K hK;refine Ap (by kernel_rfl) ?_;refine Qx _ ?_;unfold RH;simp only [sb];exact hK
theorem Ake (F:Nat→Prop) (w:World):Zs F (Ez 168) (zW 102) w:=by
 intro x a w2 k2 h2 K hK;refine Ap (by kernel_rfl) ?_;refine Rh _ ?_;unfold RS;dsimp only [Lb];simp only [sb,h2,A5,Nat.reduceAdd];exact hK
theorem Aki (F:Nat→Prop) (w:World):Zs F (Ez 173) (zW 114) w:=by
 intro x a w2 k2 h2 K hK;refine Ap (by kernel_rfl) ?_;refine QP _ ?_;unfold RI;dsimp only [Ls];simp only [sb,h2,A5,Nat.reduceAdd];exact hK
theorem AhJ:Xm (Ez 175) 18:=by
 intro a w K hK;refine Ap (by kernel_rfl) ?_;refine QE _ ?_;unfold RG;simp only [sb];exact hK
theorem AiC:Xm (Ez 179) 19:=by
 intro a w K hK;refine Ap (by kernel_rfl) ?_;refine QQ _ ?_;unfold RX;simp only [sb];exact hK
theorem AiS:Xm (Ez 183) 20:=by
 intro a w K hK;refine Ap (by kernel_rfl) ?_;refine Qv _ ?_;unfold Rl;simp only [sb];exact hK
def SW (F:Nat→Prop) (p:Int × Value) (w:World):Prop:=∃ y:Kw v3,p.2=.agg (Cs v3 y).toArray∧y.1.oneCell'=true∧y.2.1.oneCell'=true∧y.2.2.1.oneCell'=true∧Zs F y.2.2.1 (zW p.1) w
theorem SW.keeps {F:Nat→Prop} {p:Int × Value} {w w':World} (h:SW F p w) (k:A4 F w w'):SW F p w':=by
 obtain ⟨y,h1,h2,h3,h4,h5⟩:=h;exact ⟨y,h1,h2,h3,h4,h5.keeps k⟩
theorem SW.add {F:Nat→Prop} {kv:List (Int × Value)} {p:Int × Value} {w:World} (h:∀ q∈kv,SW F q w) (hp:SW F p w):∀ q∈kv ++ [p],SW F q w:=by
 intro q hq;rcases List.mem_append.1 hq with hq | hq
 ·exact h q hq
 ·rw [List.mem_singleton] at hq;rw [hq];exact hp
set_option maxHeartbeats 4000000 in
theorem Ai8 {w:World} {K:TR [.sc .m]→Pr} (k:∀ m kv w',Vj w' m (ekI .i32) kv→kv.map Prod.fst=zOf.map Prod.fst→(∀ p∈kv,SW (·=m) p w')→w.heap.size≤m→Aa [] w w'→K (some m,()) w'):Cl Pg 80 [] false [.sc .m] K w:=by
 refine VY ?_;unfold ZG;refine Vf (ek:=ekI .i32) fun m w1 h1 n1 k1=>?_;have hF1:∀ b,b=m→b < w1.heap.size:=fun b hb=>by rw [hb];exact h1.lt
 have f1:∀ p∈([]:List (Int × Value)),SW (·=m) p w1:=by simp
 refine Py (off:=6) (g:=fun x=>x.VT) (F:=(·=m)) rfl (Akt) (fun x=>rfl) hF1 ?_;intro p2 q2 r2 w2 o2 o'2 o''2 z2 k'2;have k2:=Aj k1 k'2;have h2:=h1.CM k'2 (by simp);have f2:=fun p hp=>(f1 p hp).keeps k'2.Mh;have f2:=SW.add f2 (p:=(113,.agg #[p2,q2,r2])) ⟨(p2,q2,r2,()),rfl,o2,o'2,o''2,z2⟩;refine Bb h2 113 _ rfl fun w3 h3 k'3=>?_;have k3:=BT k2 k'3 n1;have f3:=fun p hp=>(f2 p hp).keeps (k'3.FY fun b hb=>.inl (by simpa using hb));have hF3:∀ b,b=m→b < w3.heap.size:=fun b hb=>by rw [hb];exact h3.lt
 refine Py (off:=7) (g:=fun x=>x.Au) (F:=(·=m)) rfl (Akp) (fun x=>rfl) hF3 ?_;intro p4 q4 r4 w4 o4 o'4 o''4 z4 k'4;have k4:=Aj k3 k'4;have h4:=h3.CM k'4 (by simp);have f4:=fun p hp=>(f3 p hp).keeps k'4.Mh;have f4:=SW.add f4 (p:=(98,.agg #[p4,q4,r4])) ⟨(p4,q4,r4,()),rfl,o4,o'4,o''4,z4⟩;refine Bb h4 98 _ rfl fun w5 h5 k'5=>?_;have k5:=BT k4 k'5 n1;have f5:=fun p hp=>(f4 p hp).keeps (k'5.FY fun b hb=>.inl (by simpa using hb));have hF5:∀ b,b=m→b < w5.heap.size:=fun b hb=>by rw [hb];exact h5.lt
 refine Py (off:=8) (g:=fun x=>x.Ah) (F:=(·=m)) rfl (Akd) (fun x=>rfl) hF5 ?_;intro p6 q6 r6 w6 o6 o'6 o''6 z6 k'6;have k6:=Aj k5 k'6;have h6:=h5.CM k'6 (by simp);have f6:=fun p hp=>(f5 p hp).keeps k'6.Mh;have f6:=SW.add f6 (p:=(116,.agg #[p6,q6,r6])) ⟨(p6,q6,r6,()),rfl,o6,o'6,o''6,z6⟩;refine Bb h6 116 _ rfl fun w7 h7 k'7=>?_;have k7:=BT k6 k'7 n1;have f7:=fun p hp=>(f6 p hp).keeps (k'7.FY fun b hb=>.inl (by simpa using hb));have hF7:∀ b,b=m→b < w7.heap.size:=fun b hb=>by rw [hb];exact h7.lt
 refine Py (off:=9) (g:=fun x=>x.low) (F:=(·=m)) rfl (AjK) (fun x=>rfl) hF7 ?_;intro p8 q8 r8 w8 o8 o'8 o''8 z8 k'8;have k8:=Aj k7 k'8;have h8:=h7.CM k'8 (by simp);have f8:=fun p hp=>(f7 p hp).keeps k'8.Mh;have f8:=SW.add f8 (p:=(108,.agg #[p8,q8,r8])) ⟨(p8,q8,r8,()),rfl,o8,o'8,o''8,z8⟩;refine Bb h8 108 _ rfl fun w9 h9 k'9=>?_;have k9:=BT k8 k'9 n1;have f9:=fun p hp=>(f8 p hp).keeps (k'9.FY fun b hb=>.inl (by simpa using hb));have hF9:∀ b,b=m→b < w9.heap.size:=fun b hb=>by rw [hb];exact h9.lt
 refine Py (off:=10) (g:=fun x=>x.CZ) (F:=(·=m)) rfl (Ajx) (fun x=>rfl) hF9 ?_;intro p10 q10 r10 w10 o10 o'10 o''10 z10 k'10;have k10:=Aj k9 k'10;have h10:=h9.CM k'10 (by simp);have f10:=fun p hp=>(f9 p hp).keeps k'10.Mh;have f10:=SW.add f10 (p:=(118,.agg #[p10,q10,r10])) ⟨(p10,q10,r10,()),rfl,o10,o'10,o''10,z10⟩;refine Bb h10 118 _ rfl fun w11 h11 k'11=>?_;have k11:=BT k10 k'11 n1;have f11:=fun p hp=>(f10 p hp).keeps (k'11.FY fun b hb=>.inl (by simpa using hb));have hF11:∀ b,b=m→b < w11.heap.size:=fun b hb=>by rw [hb];exact h11.lt
 refine Py (off:=11) (g:=fun x=>x.Ao) (F:=(·=m)) rfl (Aj8) (fun x=>rfl) hF11 ?_;intro p12 q12 r12 w12 o12 o'12 o''12 z12 k'12;have k12:=Aj k11 k'12;have h12:=h11.CM k'12 (by simp);have f12:=fun p hp=>(f11 p hp).keeps k'12.Mh;have f12:=SW.add f12 (p:=(101,.agg #[p12,q12,r12])) ⟨(p12,q12,r12,()),rfl,o12,o'12,o''12,z12⟩;refine Bb h12 101 _ rfl fun w13 h13 k'13=>?_;have k13:=BT k12 k'13 n1;have f13:=fun p hp=>(f12 p hp).keeps (k'13.FY fun b hb=>.inl (by simpa using hb));have hF13:∀ b,b=m→b < w13.heap.size:=fun b hb=>by rw [hb];exact h13.lt
 refine Py (off:=12) (g:=fun x=>x.move) (F:=(·=m)) rfl (AjD) (fun x=>rfl) hF13 ?_;intro p14 q14 r14 w14 o14 o'14 o''14 z14 k'14;have k14:=Aj k13 k'14;have h14:=h13.CM k'14 (by simp);have f14:=fun p hp=>(f13 p hp).keeps k'14.Mh;have f14:=SW.add f14 (p:=(109,.agg #[p14,q14,r14])) ⟨(p14,q14,r14,()),rfl,o14,o'14,o''14,z14⟩;refine Bb h14 109 _ rfl fun w15 h15 k'15=>?_;have k15:=BT k14 k'15 n1;have f15:=fun p hp=>(f14 p hp).keeps (k'15.FY fun b hb=>.inl (by simpa using hb));have hF15:∀ b,b=m→b < w15.heap.size:=fun b hb=>by rw [hb];exact h15.lt
 refine Py (off:=13) (g:=fun x=>x.attempt) (F:=(·=m)) rfl (Ajz) (fun x=>rfl) hF15 ?_;intro p16 q16 r16 w16 o16 o'16 o''16 z16 k'16;have k16:=Aj k15 k'16;have h16:=h15.CM k'16 (by simp);have f16:=fun p hp=>(f15 p hp).keeps k'16.Mh;have f16:=SW.add f16 (p:=(97,.agg #[p16,q16,r16])) ⟨(p16,q16,r16,()),rfl,o16,o'16,o''16,z16⟩;refine Bb h16 97 _ rfl fun w17 h17 k'17=>?_;have k17:=BT k16 k'17 n1;have f17:=fun p hp=>(f16 p hp).keeps (k'17.FY fun b hb=>.inl (by simpa using hb));have hF17:∀ b,b=m→b < w17.heap.size:=fun b hb=>by rw [hb];exact h17.lt
 refine Py (off:=14) (g:=fun x=>x.n) (F:=(·=m)) rfl (Aj9) (fun x=>rfl) hF17 ?_;intro p18 q18 r18 w18 o18 o'18 o''18 z18 k'18;have k18:=Aj k17 k'18;have h18:=h17.CM k'18 (by simp);have f18:=fun p hp=>(f17 p hp).keeps k'18.Mh;have f18:=SW.add f18 (p:=(110,.agg #[p18,q18,r18])) ⟨(p18,q18,r18,()),rfl,o18,o'18,o''18,z18⟩;refine Bb h18 110 _ rfl fun w19 h19 k'19=>?_;have k19:=BT k18 k'19 n1;have f19:=fun p hp=>(f18 p hp).keeps (k'19.FY fun b hb=>.inl (by simpa using hb));have hF19:∀ b,b=m→b < w19.heap.size:=fun b hb=>by rw [hb];exact h19.lt
 refine Ab6 (off:=4) (g:=fun x=>x.code) (F:=(·=m)) rfl (Aip) (fun x=>rfl) hF19 ?_;intro p20 q20 r20 w20 o20 o'20 o''20 z20 k'20;have k20:=Aj k19 k'20;have h20:=h19.CM k'20 (by simp);have f20:=fun p hp=>(f19 p hp).keeps k'20.Mh;have f20:=SW.add f20 (p:=(99,.agg #[p20,q20,r20])) ⟨(p20,q20,r20,()),rfl,o20,o'20,o''20,z20⟩;refine Bb h20 99 _ rfl fun w21 h21 k'21=>?_;have k21:=BT k20 k'21 n1;have f21:=fun p hp=>(f20 p hp).keeps (k'21.FY fun b hb=>.inl (by simpa using hb));have hF21:∀ b,b=m→b < w21.heap.size:=fun b hb=>by rw [hb];exact h21.lt
 refine Ab6 (off:=5) (g:=fun x=>x.peer) (F:=(·=m)) rfl (AiL) (fun x=>rfl) hF21 ?_;intro p22 q22 r22 w22 o22 o'22 o''22 z22 k'22;have k22:=Aj k21 k'22;have h22:=h21.CM k'22 (by simp);have f22:=fun p hp=>(f21 p hp).keeps k'22.Mh;have f22:=SW.add f22 (p:=(112,.agg #[p22,q22,r22])) ⟨(p22,q22,r22,()),rfl,o22,o'22,o''22,z22⟩;refine Bb h22 112 _ rfl fun w23 h23 k'23=>?_;have k23:=BT k22 k'23 n1;have f23:=fun p hp=>(f22 p hp).keeps (k'23.FY fun b hb=>.inl (by simpa using hb));have hF23:∀ b,b=m→b < w23.heap.size:=fun b hb=>by rw [hb];exact h23.lt
 refine ⟨rfl,rfl,rfl,?_⟩;have k24:=k23;have h24:=h23;have f24:=SW.add f23 (p:=(102,.agg #[Ez 164,Ez 166,Ez 168])) ⟨(Ez 164,Ez 166,Ez 168,()),rfl,rfl,rfl,rfl,Ake _ _⟩;obtain ⟨w24,rfl⟩:∃ w',w'=w23:=⟨_,rfl⟩;refine Bb h24 102 _ rfl fun w25 h25 k'25=>?_;have k25:=BT k24 k'25 n1;have f25:=fun p hp=>(f24 p hp).keeps (k'25.FY fun b hb=>.inl (by simpa using hb));have hF25:∀ b,b=m→b < w25.heap.size:=fun b hb=>by rw [hb];exact h25.lt
 refine ⟨rfl,rfl,rfl,?_⟩;have k26:=k25;have h26:=h25;have f26:=SW.add f25 (p:=(114,.agg #[Ez 169,Ez 171,Ez 173])) ⟨(Ez 169,Ez 171,Ez 173,()),rfl,rfl,rfl,rfl,Aki _ _⟩;obtain ⟨w26,rfl⟩:∃ w',w'=w25:=⟨_,rfl⟩;refine Bb h26 114 _ rfl fun w27 h27 k'27=>?_;have k27:=BT k26 k'27 n1;have f27:=fun p hp=>(f26 p hp).keeps (k'27.FY fun b hb=>.inl (by simpa using hb));have hF27:∀ b,b=m→b < w27.heap.size:=fun b hb=>by rw [hb];exact h27.lt
 refine Aez (off:=18) (g:=fun x=>x.so) (F:=(·=m)) rfl rfl rfl (AhJ) (fun x=>rfl) hF27 ?_;intro p28 q28 r28 w28 o28 o'28 o''28 z28 k'28;have k28:=Aj k27 k'28;have h28:=h27.CM k'28 (by simp);have f28:=fun p hp=>(f27 p hp).keeps k'28.Mh;have f28:=SW.add f28 (p:=(111,.agg #[p28,q28,r28])) ⟨(p28,q28,r28,()),rfl,o28,o'28,o''28,z28⟩;refine Bb h28 111 _ rfl fun w29 h29 k'29=>?_;have k29:=BT k28 k'29 n1;have f29:=fun p hp=>(f28 p hp).keeps (k'29.FY fun b hb=>.inl (by simpa using hb));have hF29:∀ b,b=m→b < w29.heap.size:=fun b hb=>by rw [hb];exact h29.lt
 refine Yb (off:=19) (g:=fun x=>x.sr) (F:=(·=m)) rfl rfl rfl (AiC) (fun x=>rfl) hF29 ?_;intro p30 q30 r30 w30 o30 o'30 o''30 z30 k'30;have k30:=Aj k29 k'30;have h30:=h29.CM k'30 (by simp);have f30:=fun p hp=>(f29 p hp).keeps k'30.Mh;have f30:=SW.add f30 (p:=(115,.agg #[p30,q30,r30])) ⟨(p30,q30,r30,()),rfl,o30,o'30,o''30,z30⟩;refine Bb h30 115 _ rfl fun w31 h31 k'31=>?_;have k31:=BT k30 k'31 n1;have f31:=fun p hp=>(f30 p hp).keeps (k'31.FY fun b hb=>.inl (by simpa using hb));have hF31:∀ b,b=m→b < w31.heap.size:=fun b hb=>by rw [hb];exact h31.lt
 refine YU (off:=20) (g:=fun x=>x.sw) (F:=(·=m)) rfl rfl rfl (AiS) (fun x=>rfl) hF31 ?_;intro p32 q32 r32 w32 o32 o'32 o''32 z32 k'32;have k32:=Aj k31 k'32;have h32:=h31.CM k'32 (by simp);have f32:=fun p hp=>(f31 p hp).keeps k'32.Mh;have f32:=SW.add f32 (p:=(119,.agg #[p32,q32,r32])) ⟨(p32,q32,r32,()),rfl,o32,o'32,o''32,z32⟩;refine Bb h32 119 _ rfl fun w33 h33 k'33=>?_;have k33:=BT k32 k'33 n1;have f33:=fun p hp=>(f32 p hp).keeps (k'33.FY fun b hb=>.inl (by simpa using hb));have hF33:∀ b,b=m→b < w33.heap.size:=fun b hb=>by rw [hb];exact h33.lt
 exact k m _ w33 h33 rfl f33 n1 k33
open Go Go.Sx
def ruR:Rec Int:=Rec.sca (.i .i32) rfl
theorem Aiu {w:World} {s:Sl} {l:List Int} (h:A1 ruR w s l):s.len=l.length:=h.len
theorem Akr {w:World} {s:Sl} {l:List Int} (h:A1 ruR w s l) {i:Nat} {x:Int} (hx:l[i]?=some x) {K:Int→Pr} (k:K x w):Ix s (i:Int) 1 (fun a=>A2 .i32 a K) w:=by
 obtain ⟨a,ha,hc⟩:=h.at hx;have hi:=(List.getElem?_eq_some_iff.1 hx).1;have hl:s.len=l.length:=h.len;unfold Ix;rw [ha];refine ⟨by omega,by omega,?_⟩;rw [Int.toNat_natCast];have h0:=hc 0 (.int .i32 x) rfl;rw [add_add,Nat.add_zero] at h0;exact DO (k:=.i .i32) (x:=x) h0 k
theorem AiB {s:ByteArray} {l:List Int} (hl:CT s=l.map (Value.int .i32)) {e:TypeId} {K:Sl→Pr} {w:World} (k:∀ r w',A1 ruR w' r l→Aa [] w w'→K r w'):Ag4 e s K w:=by
 intro c hc;refine k _ _ ⟨⟨?_,fun j v hj=>⟨⟨w.heap.size,0,none⟩,rfl,?_⟩⟩,hc⟩ ((Aa.refl _ _).drew.alloc _)
 ·rw [AP ruR.len];dsimp only;rw [hl,List.length_map]
 ·rw [Aif,Ci,show (w.drew.alloc (.cells (CT s ++ List.replicate (c - (CT s).length) (Value.int .i32 0)).toArray e)).heap[w.heap.size]?=_ from Bt w.drew _];have hfl:∀ l:List Int,l.flatMap ruR.c=l.map (Value.int .i32):=by
   intro l;induction l with
   | nil=>rfl
   | cons a l ih=>exact congrArg (Value.int .i32 a :: ·) ih
  rw [hfl l] at hj;rw [← hl] at hj;have hlt:=(List.getElem?_eq_some_iff.1 hj).1;show (CT s ++ List.replicate (c - (CT s).length) (Value.int .i32 0)).toArray[j]?=some v;rw [List.getElem?_toArray,List.getElem?_append_left hlt];exact hj
theorem YV {w:World} {s:Sl} {l:List Int} (h:A1 ruR w s l) (t:Int) (hN:l.length≤1000000) {K:TR [.sc .b]→Pr} (k:K (l.contains t,()) w):Cl Pg 81 [.slice s.p s.len s.cap,.int .i32 t] false [.sc .b] K w:=by
 have hl:=Aiu h;refine HS _ _ ?_;unfold F2;dsimp only [Vs];refine KN _ _ ?_;unfold Il;refine ⟨fun n st w'=>∃ (i:Nat),st=(0,(i:Int),())∧n=l.length - i∧i≤l.length∧(l.drop i).contains t=l.contains t∧w'=w,⟨_,0,rfl,rfl,by omega,rfl,rfl⟩,?_⟩;rintro n _ w1 ⟨i,rfl,rfl,hi,he,rfl⟩;dsimp only;by_cases hlt:i < l.length
 ·rw [decide_eq_true (by omega)];simp only [Af];obtain ⟨x,hx⟩:∃ x,l[i]?=some x:=⟨_,List.getElem?_eq_getElem hlt⟩;have hd:l.drop i=x :: l.drop (i + 1):=by rw [List.drop_eq_getElem_cons hlt,(List.getElem?_eq_some_iff.1 hx).2]
  rw [hd,List.contains_cons] at he;refine Akr h hx ?_;cases hc:(t == x) with
  | true=>
   rw [hc] at he;simp only [Af];rw [show decide ((i:Int) ≥ 0)=true from decide_eq_true (by omega),show true=l.contains t from by rw [← he];rfl];exact k
  | false=>
   rw [hc] at he;simp only [Ae];exact ⟨l.length - (i + 1),by omega,i + 1,by rw [AK (by omega)],rfl,by omega,by rw [← he,Bool.false_or],by trivial⟩
 ·rw [decide_eq_false (by omega)];rw [List.drop_of_length_le (by omega)] at he;simp only [Ae];rw [← he] at k;exact k
def TD (l:List Int) (x:Mg):Bool:=(zOf.map Prod.fst).all fun c=>l.contains c || zW c x
def Nfn (f:Value) (p:Int→Bool):Prop:=∀ (n:Int) (w:World) (K:TR [.sc .b]→Pr),K (p n,()) w→AB Pg f [.int .i64 n] false [.sc .b] K w
def CY (n:Int):Bool:=n == 0
def BE (n:Int):Bool:=decide (n ≥ 1) && decide (n≤4)
def TB (n:Int):Bool:=decide (n > 10) && decide (n≤14)
theorem CU:Nfn (Ez 136) CY:=by
 intro n w K hK;refine Ap (by kernel_rfl) ?_;refine SP _ ?_;exact hK
theorem Cu:Nfn (Ez 141) BE:=by
 intro n w K hK;refine Ap (by kernel_rfl) ?_;refine LN _ ?_;unfold Oo;unfold BE at hK;cases h:decide (n ≥ 1) with
 | true=>rw [h,Bool.true_and] at hK;exact hK
 | false=>rw [h,Bool.false_and] at hK;exact hK
theorem YB:Nfn (Ez 135) TB:=by
 intro n w K hK;refine Ap (by kernel_rfl) ?_;refine QG _ ?_;unfold RO;unfold TB at hK;cases h:decide (n > 10) with
 | true=>rw [h,Bool.true_and] at hK;exact hK
 | false=>rw [h,Bool.false_and] at hK;exact hK
def Gfn (f:Value) (x:Mg) (g:Bool) (w:World):Prop:=∀ (w1:World),Aa [] w w1→∀ (K:TR [.sc .b]→Pr),(∀ w',Aa [] w1 w'→K (g,()) w')→AB Pg f [.agg (Sm x)] false [.sc .b] K w1
theorem MO (x:Mg) (w:World):Gfn (Ez 145) x true w:=by
 intro w1 k1 K hK;refine Ap (by kernel_rfl) ?_;refine OO _ _ _ _ _ _ _ _ _ _ _ _ _ _ _ _ _ _ x.so x.sr x.sw ?_;unfold Od;dsimp only [Ag];refine Ad fun a w2 h2 n2 k2=>?_;exact hK _ k2
theorem Ahu {w:World} {s:Sl} {l:List Op} (h:A1 BQ w s l) (AD:Int) (hm:AD≤1000000) {K:TR [.sc .b]→Pr} (k:∀ w',Aa [] w w'→K (decide ((l.length:Int)≤AD) && decide (A9 l=0),()) w'):Cl Pg 143 [.slice s.p s.len s.cap,.int .i64 AD] false [.sc .b] K w:=by
 have hl:=h.len;refine VJ _ _ ?_;unfold ZY;dsimp only [Vs];rw [show decide (((s.len:Nat):Int)≤AD)=decide ((l.length:Int)≤AD) from by rw [hl]];by_cases hc:(l.length:Int)≤AD
 ·rw [decide_eq_true hc] at k ⊢;rw [Bool.true_and] at k;simp only [Af];refine BN (p:=fun o=>ER o != 0) (F:=fun _=>False) h ?_ (by omega) fun w1 k1=>?_
  ·intro w2 k2 x _ K1 hK;refine Ap (by kernel_rfl) ?_;refine S8 _ _ _ _ _ _ ?_;unfold Ur;dsimp only [Ar,AN];refine Ad fun c w3 h3 n3 k3=>?_;simp only [sb,h3];refine Ni x fun w4 k4=>?_;exact hK w4 (Aj k3 k4)
  ·have:=k w1 k1;rw [show decide (A9 l=0)=!(l.any fun o=>ER o != 0) from ?_] at this
   ·exact this
   ·by_cases hz:A9 l=0
    ·rw [decide_eq_true hz];rw [Bu] at hz;rw [show (l.any fun o=>ER o != 0)=false from List.any_eq_false.2 fun o ho=>by simp [hz o ho]];rfl
    ·rw [decide_eq_false hz];rw [Bu] at hz;have:(l.any fun o=>ER o != 0)=true:=by
      rw [List.any_eq_true];apply Classical.byContradiction;intro hn;apply hz;intro o ho;apply Classical.byContradiction;intro ho';exact hn ⟨o,ho,by simpa using ho'⟩
     rw [this];rfl
 ·rw [decide_eq_false hc] at k ⊢;exact k w (Aa.refl _ _)
theorem Afq (x:Mg) {w:World} (h:A1 BQ w x.so x.ops):Gfn (Ez 142) x (decide (0 < x.ops.length) && (decide (x.ops.length≤24) && decide (A9 x.ops=0))) w:=by
 intro w1 k1 K hK;refine Ap (by kernel_rfl) ?_;refine OF _ _ _ _ _ _ _ _ _ _ _ _ _ _ _ _ _ _ x.so x.sr x.sw ?_;unfold Om;dsimp only [Ag,Ll,Vi,Vs];refine Ad fun a w2 h2 n2 k2=>?_;have hl:=h.len;simp only [sb,h2];by_cases hc:0 < x.ops.length
 ·rw [decide_eq_true (by omega)];rw [decide_eq_true hc,Bool.true_and] at hK;simp only [sb,h2];refine Ahu (h.Ab (Aj k1 k2)) 24 (by decide) fun w3 k3=>?_;rw [show decide ((x.ops.length:Int)≤24)=decide (x.ops.length≤24) from decide_eq_decide.2 (by omega)];exact hK w3 (Aj k2 k3)
 ·rw [decide_eq_false (by omega)];rw [decide_eq_false hc,Bool.false_and] at hK;exact hK w2 k2
def Se (fr to:Int→Bool) (gd:Bool) (x:Mg):Bool:=fr x.src && (to x.dst && (x.Ch == 0 && gd))
set_option maxHeartbeats 2000000 in
theorem BK {w:World} {x:Mg} {s:List UInt8} {a b c:FuncId} (hf:LC x.kind GS=some (fmT s a b c)) {fr to:Int→Bool} {gd:Bool} (h1:Nfn (Ez a) fr) (h2:Nfn (Ez b) to) (h3:Gfn (Ez c) x gd w) {l:List Int} (hl:CT (BA s)=l.map (Value.int .i32)) (hN:l.length≤100) {K:TR [.sc (.i .i64)]→Pr}
  (k:∀ w',Aa [] w w'→K (if Se fr to gd x && TD l x then 0 else 180,()) w'):Cl Pg 31 [.agg (Sm x)] false [.sc (.i .i64)] K w:=by
 refine LR _ _ _ _ _ _ _ _ _ _ _ _ _ _ _ _ _ _ x.so x.sr x.sw ?_;unfold OI;dsimp only [Ag,K4',Li,Bn,Ls,Tt,Vi,Vp,Vs,Vt];refine Ad fun m w1 hm n1 k1=>?_;simp only [sb,hm];refine Ab4 x.kind fun w2 k2=>?_;rw [hf];have hm2:=k2.Aw hm;refine Aiw rfl rfl rfl rfl rfl fun f w3 hf3 n3 k3=>?_;have hm3:=k3.Aw hm2;have k03:=Aj (Aj k1 k2) k3;refine BR (!(Se fr to gd x)) (fun J hJ=>?_) fun w4 k4=>?_
 ·unfold Se at hJ;simp only [Option.isSome_some,Bool.not_true,sb,hf3,hm3];refine h1 _ _ _ ?_;dsimp only;cases c1:fr x.src with
  | false=>rw [c1] at hJ;exact hJ _ (Aa.refl _ _)
  | true=>
   rw [c1,Bool.true_and] at hJ;simp only [Bool.not_true,sb,hf3,hm3];refine h2 _ _ _ ?_;dsimp only;cases c2:to x.dst with
   | false=>rw [c2] at hJ;exact hJ _ (Aa.refl _ _)
   | true=>
    rw [c2,Bool.true_and] at hJ;simp only [Bool.not_true,sb,hf3,hm3];rw [show ((x.Ch:Int) != 0)=!(x.Ch == 0) from rfl];cases c3:(x.Ch == 0) with
    | false=>rw [c3] at hJ;exact hJ _ (Aa.refl _ _)
    | true=>
     rw [c3,Bool.true_and] at hJ;simp only [Bool.not_true,sb,hf3,hm3];refine h3 w3 k03 _ fun w5 k5=>?_;exact hJ w5 k5
 ·have k04:=Aj k03 k4;have hm4:=k4.Aw hm3;have hf4:=k4.Aw hf3;cases hh:Se fr to gd x with
  | false=>
   rw [hh] at k;simp only [Bool.not_false,Af];exact k w4 k04
  | true=>
   rw [hh,Bool.true_and] at k;simp only [Bool.not_true,Ae];refine Ai8 fun mm kv w5 h5 hkeys hfld n5 k5=>?_;have hm5:=k5.Aw hm4;have hf5:=k5.Aw hf4;have k05:=Aj k04 k5;refine Aij h5 fun w6 h6 k6 s6=>?_;generalize hit:w5.heap.size=it at *;refine ⟨fun n st w'=>∃ left:List Int,st.1=0∧n=left.length∧ItR w' it mm (ekI .i32) kv left∧Aa [] w5 w'∧(∀ c∈zOf.map Prod.fst,c∈left∨(l.contains c || zW c x)=true)∧(∀ c∈left,c∈zOf.map Prod.fst),⟨_,_,rfl,rfl,h6,k6,fun c hc=>.inl (by rw [hkeys];exact hc),fun c hc=>by rw [← hkeys];exact hc⟩,?_⟩;rintro n ⟨st,⟨⟩⟩ w7 ⟨left,rfl,rfl,h7,k7,hl7,hl7'⟩;refine Ag9 (GM .i32) h7 ?_ ?_
   ·intro ch v left' w8 hg hp h8 k8 s8;have k58:Aa [] w5 w8:=BT k7 k8 (by omega);have hm8:=k58.Aw hm5;have hf8:=k58.Aw hf5;obtain ⟨y,hv,o1,o2,o3,hz⟩:=hfld (ch,v) (Uy hg);refine AfB y hv ?_;refine bx3 rfl o1 o2 o3 fun q w9 h9 n9 k9=>?_;have k59:=Aj k58 k9;have hm9:=k9.Aw hm8;have hf9:=k9.Aw hf8;have i9:=h8.CM k9 (by simp) (by simp);have hch:ch∈zOf.map Prod.fst:=hl7' ch (hp.mem_iff.2 List.mem_cons_self);refine BR (!(l.contains ch || zW ch x)) (fun J hJ=>?_) fun w10 k10=>?_
    ·simp only [sb,hf9];refine AiB hl fun r w11 h11 k11=>?_;refine YV h11 ch (by omega) ?_;dsimp only;cases c1:l.contains ch with
     | true=>
      rw [c1] at hJ;simp only [Bool.not_true,Ae];exact hJ w11 k11
     | false=>
      rw [c1,Bool.false_or] at hJ;simp only [Bool.not_false,sb,k11.Aw h9];refine hz x m w11 (Aj k59 k11).Mh (k11.Aw hm9) _ ?_;exact hJ w11 k11
    ·cases c1:(l.contains ch || zW ch x) with
     | false=>
      simp only [Bool.not_false,Af];have:=k w10 (Aj k05 (Aj k59 k10));rw [show TD l x=false from ?_] at this
      ·exact this
      ·unfold TD;rw [List.all_eq_false];exact ⟨ch,hch,by rw [c1];simp⟩
     | true=>
      simp only [Bool.not_true,Ae];refine ⟨left'.length,by rw [hp.length_eq,List.length_cons];omega,left',by trivial,rfl,i9.CM k10 (by simp) (by simp),Aj k59 k10,fun c hc=>?_,fun c hc=>hl7' c (hp.mem_iff.2 (List.mem_cons_of_mem _ hc))⟩;rcases hl7 c hc with h | h
      ·rcases List.mem_cons.1 (hp.mem_iff.1 h) with rfl | h
       ·exact .inr c1
       ·exact .inl h
      ·exact .inr h
   ·intro hnil w8 hw8;have kk:Aa [] w7 w8:=by rcases hw8 with rfl | rfl;exact Aa.refl _ _;exact Am _
    have:=k w8 (Aj k05 (Aj k7 kk));rw [show TD l x=true from ?_] at this
    ·exact this
    ·unfold TD;rw [List.all_eq_true];intro c hc;rcases hl7 c hc with h | h
     ·rw [hnil] at h;cases h
     ·exact h
def Ab1 (x:Mg):Bool:=
 if x.kind=3 then Se CY BE (decide (0 < x.ops.length) && (decide (x.ops.length≤24) && decide (A9 x.ops=0))) x && TD [116,108,101,111] x
 else if x.kind=5 then Se CY BE true x && TD [116,102] x
 else if x.kind=6 then Se BE CY true x && TD [116] x
 else false
theorem AeM {w:World} {x:Mg} (hx:A1 BQ w x.so x.ops) (hk:x.kind=3∨x.kind=5∨x.kind=6) {K:TR [.sc (.i .i64)]→Pr}
  (k:∀ w',Aa [] w w'→K (if Ab1 x then 0 else 180,()) w'):Cl Pg 31 [.agg (Sm x)] false [.sc (.i .i64)] K w:=by
 unfold Ab1 at k;rcases hk with hk | hk | hk
 ·rw [if_pos hk] at k;exact BK (by rw [hk];rfl) CU Cu (Afq x hx) (l:=[116,108,101,111]) (by kernel_rfl) (by decide) k
 ·rw [if_neg (show ¬ x.kind=3 by omega),if_pos hk] at k;exact BK (by rw [hk];rfl) CU Cu (MO x w) (l:=[116,102]) (by kernel_rfl) (by decide) k
 ·rw [if_neg (show ¬ x.kind=3 by omega),if_neg (show ¬ x.kind=5 by omega),if_pos hk] at k;exact BK (by rw [hk];rfl) Cu CU (MO x w) (l:=[116]) (by kernel_rfl) (by decide) k
open Go Go.Sx
structure Sd where
 c:Sc
 so:Sl
 sh:Sl
 sf:Sl
 Ac:List Ow
 held:List Hd
 fin:List Int
abbrev shA (d:Sd):Array Value:=#[.int .i64 d.c.id,.int .u64 d.c.Au,.int .u64 d.c.CZ,.int .u64 d.c.Ao,.int .u64 d.c.move,.slice d.so.p d.so.len d.so.cap,.slice d.sh.p d.sh.len d.sh.cap,.slice d.sf.p d.sf.len d.sf.cap,.int .u64 d.c.low,.int .u64 d.c.frozen,.string d.c.Qk,.string d.c.MS,.int .u64 d.c.AJ,.int .u64 d.c.CD,.int .u64 d.c.Bo,.string d.c.Ph,.string d.c.Qq]
abbrev shL (d:Sd):List Value:=[.int .i64 d.c.id,.int .u64 d.c.Au,.int .u64 d.c.CZ,.int .u64 d.c.Ao,.int .u64 d.c.move,.slice d.so.p d.so.len d.so.cap,.slice d.sh.p d.sh.len d.sh.cap,.slice d.sf.p d.sf.len d.sf.cap,.int .u64 d.c.low,.int .u64 d.c.frozen,.string d.c.Qk,.string d.c.MS,.int .u64 d.c.AJ,.int .u64 d.c.CD,.int .u64 d.c.Bo,.string d.c.Ph,.string d.c.Qq]
abbrev shK:List Kd:=[.i .i64,.i .u64,.i .u64,.i .u64,.i .u64,.sl,.sl,.sl,.i .u64,.i .u64,.s,.s,.i .u64,.i .u64,.i .u64,.s,.s]
abbrev shT (d:Sd):Kw shK:=(d.c.id,d.c.Au,d.c.CZ,d.c.Ao,d.c.move,d.so,d.sh,d.sf,d.c.low,d.c.frozen,d.c.Qk,d.c.MS,d.c.AJ,d.c.CD,d.c.Bo,d.c.Ph,d.c.Qq,())
theorem Ul {w:World} {b:Nat} {cs:Array Value} {t:TypeId} (h:w.heap[b]?=some (.cells cs t (0,0))) (hs:cs.size=17) (d:Sd) {K:Pr} (k:∀ w',w'.heap[b]?=some (.cells (shA d) t (0,0))→Aa [b] w w'→K w') :
  (St (Addr.add ⟨b,0,none⟩ 0) (.int .i64 d.c.id) <| St (Addr.add ⟨b,0,none⟩ 1) (.int .u64 d.c.Au) <| St (Addr.add ⟨b,0,none⟩ 2) (.int .u64 d.c.CZ) <| St (Addr.add ⟨b,0,none⟩ 3) (.int .u64 d.c.Ao) <| St (Addr.add ⟨b,0,none⟩ 4) (.int .u64 d.c.move) <| St (Addr.add ⟨b,0,none⟩ 5) (.slice d.so.p d.so.len d.so.cap) <| St (Addr.add ⟨b,0,none⟩ 6) (.slice d.sh.p d.sh.len d.sh.cap) <| St (Addr.add ⟨b,0,none⟩ 7) (.slice d.sf.p d.sf.len d.sf.cap) <| St (Addr.add ⟨b,0,none⟩ 8) (.int .u64 d.c.low) <| St (Addr.add ⟨b,0,none⟩ 9) (.int .u64 d.c.frozen) <| St (Addr.add ⟨b,0,none⟩ 10) (.string d.c.Qk) <| St (Addr.add ⟨b,0,none⟩ 11) (.string d.c.MS) <| St (Addr.add ⟨b,0,none⟩ 12) (.int .u64 d.c.AJ) <| St (Addr.add ⟨b,0,none⟩ 13) (.int .u64 d.c.CD) <| St (Addr.add ⟨b,0,none⟩ 14) (.int .u64 d.c.Bo) <| St (Addr.add ⟨b,0,none⟩ 15) (.string d.c.Ph) <| St (Addr.add ⟨b,0,none⟩ 16) (.string d.c.Qq) <| K) w:=L0 (vs:=shL d) h hs.symm (by simp [Value.oneCell']) k
theorem Ai9 {w:World} {b:Nat} {t:TypeId} {d:Sd} (h:w.heap[b]?=some (.cells (shA d) t (0,0))) {K:Kw shK→Pr} (k:K (shT d) w) :
  (A2 .i64 (Addr.add ⟨b,0,none⟩ 0) fun x0=>A2 .u64 (Addr.add ⟨b,0,none⟩ 1) fun x1=>A2 .u64 (Addr.add ⟨b,0,none⟩ 2) fun x2=>A2 .u64 (Addr.add ⟨b,0,none⟩ 3) fun x3=>A2 .u64 (Addr.add ⟨b,0,none⟩ 4) fun x4=>DN (Addr.add ⟨b,0,none⟩ 5) fun x5=>DN (Addr.add ⟨b,0,none⟩ 6) fun x6=>DN (Addr.add ⟨b,0,none⟩ 7) fun x7=>A2 .u64 (Addr.add ⟨b,0,none⟩ 8) fun x8=>A2 .u64 (Addr.add ⟨b,0,none⟩ 9) fun x9=>BU (Addr.add ⟨b,0,none⟩ 10) fun x10=>BU (Addr.add ⟨b,0,none⟩ 11) fun x11=>A2 .u64 (Addr.add ⟨b,0,none⟩ 12) fun x12=>A2 .u64 (Addr.add ⟨b,0,none⟩ 13) fun x13=>A2 .u64 (Addr.add ⟨b,0,none⟩ 14) fun x14=>BU (Addr.add ⟨b,0,none⟩ 15) fun x15=>BU (Addr.add ⟨b,0,none⟩ 16) fun x16=>K (x0,x1,x2,x3,x4,x5,x6,x7,x8,x9,x10,x11,x12,x13,x14,x15,x16,())) w:=by
 simp only [sb,h];exact k
structure YP (d:Sd) (w:World):Prop where
 ow:A1 Mj w d.so d.Ac
 he:A1 Fo w d.sh d.held
 hd:∀ x∈d.held,A1 BQ w x.so x.ops
 fi:A1 HL w d.sf d.fin
theorem YP.Ab {d:Sd} {w w':World} (h:YP d w) (k:Aa [] w w'):YP d w':=⟨h.ow.Ab k,h.he.Ab k,fun x hx=>(h.hd x hx).Ab k,h.fi.Ab k⟩
structure ShN (d d':Sd) (n:Nat) (w:World):Prop where
 c:d'.c=d.c
 Ac:d'.Ac=d.Ac
 held:d'.held.map Hd.p=d.held.map Hd.p
 fin:d'.fin=d.fin
 ow:Bh Mj w d'.so d'.Ac
 he:Bh Fo w d'.sh d'.held
 hd:∀ x∈d'.held,Bh BQ w x.so x.ops
 fi:Bh HL w d'.sf d'.fin
 fow:∀ b∈Ai d'.so,n≤b
 fhe:∀ b∈Ai d'.sh,n≤b
 fhd:∀ x∈d'.held,∀ b∈Ai x.so,n≤b
 ffi:∀ b∈Ai d'.sf,n≤b
 d1:∀ b∈Ai d'.so,b ∉ Ai d'.sh∧b ∉ Ai d'.sf
 d2:∀ b∈Ai d'.sf,b ∉ Ai d'.sh
 d3:∀ x∈d'.held,∀ b∈Ai x.so,b ∉ Ai d'.sh∧b ∉ Ai d'.sf
theorem ShN.shd {d d':Sd} {n:Nat} {w:World} (h:ShN d d' n w):YP d' w:=⟨h.ow.C6,h.he.C6,fun x hx=>(h.hd x hx).C6,h.fi.C6⟩
theorem AcL {l:List Hd} {i:Nat} {x:Hd} (hx:l[i]?=some x) (r:Sl):(l.set i { x with so:=r }).map Hd.p=l.map Hd.p:=by
 rw [List.map_set];have h2:(l.map Hd.p)[i]?=some x.p:=by rw [List.getElem?_map,hx];rfl
 apply List.ext_getElem?;intro j;by_cases hj:i=j
 ·subst hj;rw [List.getElem?_set_self (by rw [List.length_map];exact (List.getElem?_eq_some_iff.1 hx).1),h2];rfl
 ·rw [List.getElem?_set_ne hj]
set_option maxHeartbeats 2000000 in
theorem MK {w:World} {d:Sd} (h:YP d w) (hN:d.Ac.length≤100000∧d.held.length≤100000∧d.fin.length≤200000∧∀ x∈d.held,x.ops.length≤100000) {K:TR [.ag shK]→Pr}
  (k:∀ d' w',ShN d d' w.heap.size w'→Aa [] w w'→K (shT d',()) w'):Cl Pg 26 [.agg (shA d)] false [.ag shK] K w:=by
 refine QK _ _ _ _ _ d.so d.sh d.sf _ _ _ _ _ _ _ _ _ ?_;unfold Sf;dsimp only [Al,Ux,Az,Ll,Lu,Bf,Ts,Tu,Vs,Vu,AQ];refine Ad fun a w1 h1 n1 k1=>?_;refine Ad fun b w2 h2 n2 k2=>?_;have nab:a ≠ b:=fun e=>by have:=Av h1;omega
 have h1:=k2.Aw h1;have k02:=Aj k1 k2;simp only [sb,h1];have kd:=k02.drew;refine NO (h.ow.Ab kd) (by omega) fun r1 w3 h3 f3 k3=>?_;have a3:w3.heap[a]?=_:=k3.Aw (show w2.drew.heap[a]?=_ from h1);have b3:w3.heap[b]?=_:=k3.Aw (show w2.drew.heap[b]?=_ from h2);have k03:=Aj kd k3;simp only [sb,a3];refine ⟨by trivial,by trivial,?_⟩;refine XV (h.he.Ab k03) (by omega) fun r2 w4 h4 f4 k4=>?_;have a4:=k4.Aw a3;have b4:=k4.Aw b3;have k04:=Aj k03 k4;simp only [sb,a4];refine ⟨by trivial,?_⟩;refine UM (h.fi.Ab k04) (by omega) fun r3 w5 h5 f5 k5=>?_;have a5:=k5.Aw a4;have b5:=k5.Aw b4;have k05:=Aj k04 k5;have sz:w.heap.size≤w2.heap.size:=k02.size;have sz3:w.heap.size≤w3.heap.size:=k03.size;have sz4:w.heap.size≤w4.heap.size:=k04.size;have lt2:a < w2.heap.size∧b < w2.heap.size:=⟨Av h1,Av h2⟩;have d2:w2.drew.heap.size=w2.heap.size:=rfl;have lt3:w2.heap.size≤w3.heap.size:=by have:=k3.size;omega
 have lt4:w3.heap.size≤w4.heap.size:=k4.size;have na:w.heap.size≤a:=n1;have nb:w.heap.size≤b:=by have:=k1.size;omega
 refine Ax a5 5 _ rfl (by simp) fun w6 a6 k6=>?_;simp only [Ck] at a6;refine Ax a6 6 _ rfl (by simp) fun w7 a7 k7=>?_;simp only [Ck] at a7;refine Ax a7 7 _ rfl (by simp) fun w8 a8 k8=>?_;simp only [Ck] at a8;have k58:Aa [a] w5 w8:=(k6.trans k7 (fun _ hx=>.inl hx)).trans k8 (fun _ hx=>.inl hx);have b8:=k58.Mw b5 (Ne.symm nab);have o8:Bh Mj w8 r1 d.Ac:=(h3.keeps (Aj k4 k5) (by simp)).keeps k58 (fun y hy=>by have:=f3 y hy;simp;omega);have q8:Bh Fo w8 r2 d.held:=(h4.keeps k5 (by simp)).keeps k58 (fun y hy=>by have:=f4 y hy;simp;omega);have i8:Bh HL w8 r3 d.fin:=h5.keeps k58 (fun y hy=>by have:=f5 y hy;simp;omega);have k08:=BT k05 k58 na;have f1':∀ y∈Ai r1,w2.heap.size≤y:=fun y hy=>by have:=f3 y hy;omega
 have f2':∀ y∈Ai r2,w3.heap.size≤y:=f4;have f3':∀ y∈Ai r3,w4.heap.size≤y:=f5;have dis1:∀ y∈Ai r1,y ∉ Ai r2:=fun y hy h=>by have:=f4 y h;have:=h3.lt y hy;omega
 have dis3:∀ y∈Ai r3,y ∉ Ai r2:=fun y hy h=>by have:=f5 y hy;have:=h4.lt y h;omega
 have lb8:b < w8.heap.size:=Av b8;have sw8:w.heap.size≤w8.heap.size:=k08.size;simp only [sb,a8];have hl:=q8.BY
 refine ⟨fun n st w'=>∃ (i:Nat) (held:List Hd),st=((i:Int),())∧n=d.held.length - i∧i≤d.held.length∧held.length=d.held.length∧held.map Hd.p=d.held.map Hd.p∧Bh Fo w' r2 held∧Bh Mj w' r1 d.Ac∧Bh HL w' r3 d.fin∧(∀ x∈held.take i,Bh BQ w' x.so x.ops∧∀ y∈Ai x.so,w8.heap.size≤y)∧(∀ x∈held,A1 BQ w' x.so x.ops∧∀ z∈rb x.so,z < w.heap.size∨w8.heap.size≤z)∧Aa [] w w' ∧
  w'.heap[a]?=w8.heap[a]?∧w'.heap[b]?=w8.heap[b]?∧w8.heap.size≤w'.heap.size,⟨_,0,d.held,rfl,rfl,by omega,rfl,rfl,q8,o8,i8,by simp,fun x hx=>⟨(h.hd x hx).Ab k08,fun z hz=>.inl ((h.hd x hx).lt z hz)⟩,k08,rfl,rfl,Nat.le_refl _⟩,?_⟩
 rintro n _ w9 ⟨i,held,rfl,rfl,hi,hlen,hmap,q9,o9,i9,t9,r9,k9,a9,b9,s9⟩;rw [a8] at a9;rw [b8] at b9;dsimp only;by_cases hlt:i < d.held.length
 ·rw [decide_eq_true (by omega)];simp only [Af];obtain ⟨x,hx⟩:∃ x,held[i]?=some x:=⟨_,List.getElem?_eq_getElem (by omega)⟩;have hxr:=(r9 x (List.mem_of_getElem? hx)).1;refine I0 q9.C6 hx ?_;refine Lz x fun c w10 h10 n10 k10=>?_;have a10:=k10.Aw a9;simp only [sb,a10,h10];have kd10:=k10.drew;refine Kz (hxr.Ab kd10) (by
   have hm:x.p∈d.held.map Hd.p:=by rw [← hmap];exact List.mem_map.2 ⟨x,List.mem_of_getElem? hx,rfl⟩
   obtain ⟨z,hz,hzx⟩:=List.mem_map.1 hm;have:=hN.2.2.2 z hz;have e:z.ops=x.ops:=congrArg PH.ops hzx;rw [← e];omega) fun rc w11 h11 f11 k11=>?_
  have a11:w11.heap[a]?=_:=k11.Aw (show w10.drew.heap[a]?=_ from a10);simp only [sb,a11];refine ⟨by trivial,?_⟩;have k911:=Aj kd10 k11;have q11:=q9.keeps k911 (by simp);have hl11:=q11.BY;obtain ⟨e,o,hpp,hbb⟩:=q11.base (by omega);refine Aai hpp (by omega) 2 ?_;rw [A5];have hfl:(held.flatMap Fo.c).length=held.length * 2:=AP Fo.len _;have hmul:(i + 1) * 2≤held.length * 2:=Nat.mul_le_mul_right _ (by omega);refine q11.Abh hpp (i * 2 + 1) (by omega) (by omega) rfl fun w12 h12 k12=>?_;have h12':Bh Fo w12 r2 (held.set i { x with so:=rc }):=by
   have:=Nf (size:=2) Fo.len held i 1 x { x with so:=rc } (.slice rc.p rc.len rc.cap) hx (by decide) rfl;show AE _ _ _ _;rw [← this];exact h12
  have ek:∀ y∈Ai r2,y=e:=fun y hy=>by rw [hbb] at hy;simpa using hy
  have he2:e∈Ai r2:=by rw [hbb];simp
  have ne:=f2' e he2;have nlt:=q8.lt e he2;have se11:w8.heap.size≤w11.heap.size:=by have:=k911.size;omega
  have kall:Aa [e] w9 w12:=(k911.mono (by simp)).trans k12 (fun _ hx=>.inl hx);refine ⟨d.held.length - (i + 1),by omega,i + 1,held.set i { x with so:=rc },by rw [AK (by omega)],rfl,by omega,by rw [List.length_set];exact hlen,by rw [AcL hx];exact hmap,h12',o9.keeps kall ?_,i9.keeps kall ?_,?_,?_,BT (Aj k9 k911) k12 (by omega),?_,?_,?_⟩
  ·intro y hy;have:=f1' y hy;simp;exact fun h=>dis1 y hy (h ▸ he2)
  ·intro y hy;simp;exact fun h=>dis3 y hy (h ▸ he2)
  ·intro y hy;rw [List.take_add_one,List.getElem?_set_self (by omega),List.take_set_of_le (Nat.le_refl i)] at hy;rcases List.mem_append.1 hy with hy | hy
   ·obtain ⟨t1,t2⟩:=t9 y hy;exact ⟨t1.keeps kall (fun z hz=>by have:=t2 z hz;simp;omega),t2⟩
   ·simp at hy;subst hy;have f11':∀ z∈Ai rc,w8.heap.size≤z:=fun z hz=>by have:=f11 z hz;have:w10.drew.heap.size=w10.heap.size:=rfl;have:=k10.size;omega
    exact ⟨h11.keeps k12 (fun z hz=>by have:=f11' z hz;simp;omega),f11'⟩
  ·intro y hy;rcases List.mem_or_eq_of_mem_set hy with hy | rfl
   ·obtain ⟨r91,r92⟩:=r9 y hy;exact ⟨r91.keeps kall (fun z hz=>by have:=r92 z hz;simp;omega),r92⟩
   ·have f11':∀ z∈Ai rc,w8.heap.size≤z:=fun z hz=>by have:=f11 z hz;have:w10.drew.heap.size=w10.heap.size:=rfl;have:=k10.size;omega
    have hh:=h11.keeps k12 (fun z hz=>by have:=f11' z hz;simp;omega);exact ⟨hh.C6,fun z hz=>.inr (f11' z (hh.rb z hz))⟩
  ·exact (k12.Mw a11 (by omega)).trans a8.symm
  ·exact (k12.Mw (k911.Aw b9) (by omega)).trans b8.symm
  ·have:=kall.size;omega
 ·rw [decide_eq_false (by omega)];simp only [sb,a9];refine Ul b9 rfl { d with so:=r1,sh:=r2,sf:=r3 } fun w10 b10 k10=>?_;refine Ai9 (K:=fun y=>K (y,())) b10 ?_;refine k { d with so:=r1,sh:=r2,sf:=r3,held:=held } w10 ⟨rfl,rfl,hmap,rfl,?_,?_,?_,?_,?_,?_,?_,?_,?_,dis3,?_⟩ (BT k9 k10 nb)
  ·exact o9.keeps k10 (fun y hy=>by have:=f1' y hy;simp;omega)
  ·exact q9.keeps k10 (fun y hy=>by have:=f2' y hy;simp;omega)
  ·intro x hx;obtain ⟨t1,t2⟩:=t9 x (by rw [List.take_of_length_le (by omega)];exact hx);exact t1.keeps k10 (fun y hy=>by have:=t2 y hy;simp;omega)
  ·exact i9.keeps k10 (fun y hy=>by have:=f3' y hy;simp;omega)
  ·intro y hy;have:=f1' y hy;omega
  ·intro y hy;have:=f2' y hy;omega
  ·intro x hx y hy;obtain ⟨t1,t2⟩:=t9 x (by rw [List.take_of_length_le (by omega)];exact hx);have:=t2 y hy;omega
  ·intro y hy;have:=f3' y hy;omega
  ·intro y hy;have l3:=h3.lt y hy;exact ⟨fun h=>by have:=f4 y h;omega,fun h=>by have:=f5 y h;omega⟩
  ·intro x hx y hy;obtain ⟨t1,t2⟩:=t9 x (by rw [List.take_of_length_le (by omega)];exact hx);have:=t2 y hy;have z5:=k5.size;have z8:=k58.size;exact ⟨fun h=>by have:=h4.lt y h;omega,fun h=>by have:=h5.lt y h;omega⟩
def Mc.sd (X:Mc):Sd:=⟨X.c,X.d.so,X.d.sh,X.d.sf,X.d.Ac,X.d.held,X.d.fin⟩
theorem A6.shd {w:World} {m:Nat} {T:Nat→Nat} {X:Mc} (h:A6 w m T X):YP X.sd w:=⟨h.r.ow.ok,h.r.he.ok.C6,fun x hx=>(h.r.Ro x hx).ok,h.r.fi.ok.C6⟩
def XU (d:Sd):Prop:=d.Ac.length≤100000∧d.held.length≤100000∧d.fin.length≤200000∧∀ x∈d.held,x.ops.length≤100000
theorem Yr {w:World} {m:Nat} {T:Nat→Nat} {X:Mc} (h:A6 w m T X) (hN:XU X.sd) {K:TR [.ag shK]→Pr}
  (k:∀ d' w',ShN X.sd d' w.heap.size w'→Aa [] w w'→K (shT d',()) w'):Cl Pg 14 [.pointer (some ⟨m,0,none⟩)] false [.ag shK] K w:=by
 refine Kh _ ?_;unfold GV;dsimp only [Al,Ux,Az,Bf,AQ];refine Ad fun a w1 h1 n1 k1=>?_;have g1:=h.Ab k1;simp only [sb,g1.hd,Bs];refine MK (d:=X.sd) g1.shd hN fun d' w2 h2 k2=>?_;have k02:=Aj k1 k2;refine Ul (k2.Aw h1) rfl d' fun w3 h3 k3=>?_;refine Ai9 (K:=fun y=>K (y,())) h3 ?_;have hne:∀ b,w1.heap.size≤b→b ≠ a:=fun b hb e=>by have:=Av h1;omega
 have s1:=k1.size;refine k d' w3 ⟨h2.c,h2.Ac,h2.held,h2.fin,h2.ow.keeps k3 ?_,h2.he.keeps k3 ?_,fun x hx=>(h2.hd x hx).keeps k3 ?_,h2.fi.keeps k3 ?_,fun b hb=>Nat.le_trans s1 (h2.fow b hb),fun b hb=>Nat.le_trans s1 (h2.fhe b hb),fun x hx b hb=>Nat.le_trans s1 (h2.fhd x hx b hb),fun b hb=>Nat.le_trans s1 (h2.ffi b hb),h2.d1,h2.d2,h2.d3⟩ (BT k02 k3 n1)
 ·intro b hb;simpa using hne b (h2.fow b hb)
 ·intro b hb;simpa using hne b (h2.fhe b hb)
 ·intro b hb;simpa using hne b (h2.fhd x hx b hb)
 ·intro b hb;simpa using hne b (h2.ffi b hb)
theorem AbI {w:World} {m:Nat} {T:Nat→Nat} {X:Mc} (h:A6 w m T X) (hN:X.d.wait.length≤100000) {K:TR [.sc .sl]→Pr}
  (k:∀ r w',Bh HL w' r (X.d.wait.map (·.Ah))→(∀ b∈Ai r,w.heap.size≤b)→Aa [] w w'→K (r,()) w'):Cl Pg 16 [.pointer (some ⟨m,0,none⟩)] false [.sc .sl] K w:=by
 refine JF _ ?_;unfold HE;dsimp only [Ll,Lu,Ah5,Aho,Vu,Ahz];simp only [sb,h.hd,Bs];have hl:=h.r.wa.ok.BY;refine ⟨fun n st w'=>∃ (i:Nat) (r:Sl),st=(r,(i:Int),())∧n=X.d.wait.length - i∧i≤X.d.wait.length∧Bh HL w' r ((X.d.wait.take i).map (·.Ah))∧(∀ b∈Ai r,w.heap.size≤b)∧Aa [] w w',⟨_,0,⟨none,0,0⟩,rfl,rfl,by omega,AE.nil _ _,by simp [Ai],Aa.refl _ _⟩,?_⟩;rintro n _ w1 ⟨i,r,rfl,rfl,hi,h1,f1,k1⟩;dsimp only;by_cases hlt:i < X.d.wait.length
 ·rw [decide_eq_true (by omega)];simp only [Af];obtain ⟨x,hx⟩:∃ x,X.d.wait[i]?=some x:=⟨_,List.getElem?_eq_getElem hlt⟩;refine AgE (h.Ab k1).r.wa.ok.C6 hx ?_;refine AgD x fun c w2 h2 n2 k2=>?_;simp only [sb,h2];refine Ad fun e w3 h3 n3 k3=>?_;have k13:=Aj k2 k3;have q3:=h1.keeps k13 (by simp);have hl3:r.len=((X.d.wait.take i).map (·.Ah)).length:=h1.BY;rw [List.length_map,List.length_take] at hl3;refine AE.app (ρ:=HL) (new:=[x.Ah]) q3 (by rw [List.flatMap_singleton];exact BI (ρ:=HL) (x:=x.Ah) h3) rfl (by rw [GL];rfl) (by omega) (by omega) ?_;intro r4 w4 h4 k4 f4;have k14:Aa (Ai r) w w4:=((Aj k1 k13).mono (by simp)).trans k4 (fun _ hx=>.inl hx);refine ⟨X.d.wait.length - (i + 1),by omega,i + 1,r4,by rw [AK (by omega)],rfl,by omega,?_,fun b hb=>?_,Ky (Aj k1 k13) k4 f1⟩
  ·rw [List.take_add_one,hx,List.map_append];exact h4
  ·rcases f4 b hb with h' | h'
   ·exact f1 b h'
   ·have:=k1.size;have:=k13.size;omega
 ·rw [decide_eq_false (by omega)];rw [List.take_of_length_le (by omega)] at h1;exact k r w1 h1 f1 k1
open Go Go.Sx
def UR (l:List Int):Bool:=decide (l.Pairwise (· < ·))
theorem Yn:∀ {l:List Int},(∀ i x y,l[i]?=some x→l[i + 1]?=some y→x < y)→l.Pairwise (· < ·)
 | [],_=>List.Pairwise.nil
 | [a],_=>List.pairwise_singleton _ _
 | a :: b :: l,h=>by
  have h2:(b :: l).Pairwise (· < ·):=Yn fun i x y hx hy=>h (i + 1) x y hx hy;have hab:=h 0 a b rfl rfl;refine List.pairwise_cons.2 ⟨fun c hc=>?_,h2⟩;rcases List.mem_cons.1 hc with rfl | hc
  ·exact hab
  ·have:=(List.pairwise_cons.1 h2).1 c hc;omega
theorem Abv {l:List Int} (h:l.Pairwise (· < ·)) {i:Nat} {x y:Int} (hx:l[i]?=some x) (hy:l[i + 1]?=some y):x < y:=by
 have:=List.pairwise_iff_getElem.1 h i (i + 1) (List.getElem?_eq_some_iff.1 hx).1 (List.getElem?_eq_some_iff.1 hy).1 (by omega);rw [(List.getElem?_eq_some_iff.1 hx).2,(List.getElem?_eq_some_iff.1 hy).2] at this;exact this
theorem Ajr {α:Type} {ρ:Rec α} {w:World} {s:Sl} {l:List α} (h:A1 ρ w s l) {i:Nat} {x:α} (hx:l[i]?=some x) {K:Addr→Pr} (k:∀ a,(∀ j u,(ρ.c x)[j]?=some u→w.cell? (a.add j)=some u)→K a w):Ix s (i:Int) ρ.n K w:=by
 obtain ⟨a,ha,hc⟩:=h.at hx;have hi:=(List.getElem?_eq_some_iff.1 hx).1;have hl:=h.len;unfold Ix;rw [ha];refine ⟨by omega,by omega,?_⟩;rw [Int.toNat_natCast];exact k _ hc
theorem Abx {w w':World} (k:Aa [] w w') {a:Addr} {v:Value} (h:w.cell? a=some v):w'.cell? a=some v:=by
 cases hb:w.heap[a.block]? with
 | none=>simp [World.cell?,hb] at h
 | some o=>
  have:=k.Aw hb;unfold World.cell? at h ⊢;rw [this];rw [hb] at h;exact h
theorem Akw {w:World} {s:Sl} {l:List Int} (h:A1 HL w s l) {i:Nat} {x:Int} (hx:l[i]?=some x) {K:Addr→Pr} (k:∀ a,w.cell? a=some (.int .u64 x)→K a w):Ix s (i:Int) 1 K w:=by
 obtain ⟨a,ha,hc⟩:=h.at hx;have hi:=(List.getElem?_eq_some_iff.1 hx).1;have hl:s.len=l.length:=h.len;unfold Ix;rw [ha];refine ⟨by omega,by omega,?_⟩;rw [Int.toNat_natCast];have h0:=hc 0 (.int .u64 x) rfl;rw [add_add,Nat.add_zero] at h0;exact k _ h0
theorem AgP {w:World} {s:Sl} {l:List Int} (h:A1 HL w s l) (hN:l.length≤1000000) {K:TR [.sc .b]→Pr} (k:∀ w',Aa [] w w'→K (UR l,()) w'):Cl Pg 55 [.slice s.p s.len s.cap,.func (.func 56) #[] #[]] false [.sc .b] K w:=by
 have hl:=V1 h;refine Ie _ _ ?_;unfold FF;dsimp only [Vu];refine ⟨fun n st w'=>∃ (i:Nat),st=(false,(i:Int),())∧n=l.length - i∧i≤l.length∧(∀ j x y,j + 1 < i→l[j]?=some x→l[j + 1]?=some y→x < y)∧Aa [] w w',⟨_,0,rfl,rfl,by omega,fun j x y hj=>absurd hj (by omega),Aa.refl _ _⟩,?_⟩;rintro n _ w1 ⟨i,rfl,rfl,hi,he,k1⟩;dsimp only;have by1:∀ (z:Int) {w:World} {K:TR [.sc (.i .u64)]→Pr},K (z,()) w→AB Pg (.func (.func 56) #[] #[]) [.int .u64 z] false [.sc (.i .u64)] K w:=by
  intro z w K hK;refine Ap (by kernel_rfl) ?_;exact IQ _ hK
 by_cases hlt:i < l.length
 ·rw [decide_eq_true (by omega)];simp only [Af];obtain ⟨y,hy⟩:∃ y,l[i]?=some y:=⟨_,List.getElem?_eq_getElem hlt⟩;dsimp only [Jp];unfold Dr;have kd:=k1.drew;have h1:=h.Ab kd;rcases Nat.eq_zero_or_pos i with h0 | h0
  ·subst h0;rw [decide_eq_false (by omega)];simp only [Ae];exact ⟨l.length - 1,by omega,1,by rw [AK (by decide)],rfl,by omega,fun j x y hj=>absurd hj (by omega),kd⟩
  ·rw [decide_eq_true (by omega)];obtain ⟨x,hx⟩:∃ x,l[i - 1]?=some x:=⟨_,List.getElem?_eq_getElem (by omega)⟩;simp only [Af];rw [show An ((i:Int) - 1)=((i - 1:Nat):Int) from by rw [By (by omega) (by omega)];omega];refine ldn h1 hx ?_;refine Akw h1 hy fun a ha=>?_;refine DO (k:=.i .u64) (x:=y) ha ?_;refine by1 x ?_;refine ⟨DO (k:=.i .u64) (K:=fun x10 _=>(Value.int .u64 x10)=(Value.int .u64 y)) (x:=y) ha rfl,?_⟩
   ·refine by1 y ?_;dsimp only;by_cases hxy:x < y
    ·rw [show decide (x ≥ y)=false from decide_eq_false (by omega)];simp only [Ae];refine ⟨l.length - (i + 1),by omega,i + 1,by rw [AK (by omega)],rfl,by omega,fun j u v hj hu hv=>?_,kd⟩;rcases Nat.lt_or_ge (j + 1) i with h' | h'
     ·exact he j u v h' hu hv
     ·obtain rfl:j=i - 1:=by omega
      rw [hx] at hu;rw [show i - 1 + 1=i by omega,hy] at hv;injection hu with hu;injection hv with hv;omega
    ·rw [show decide (x ≥ y)=true from decide_eq_true (by omega)];have:=k _ kd;rw [show UR l=false from decide_eq_false fun hr=>hxy (Abv hr hx (by rw [show i - 1 + 1=i by omega];exact hy))] at this;exact this
 ·rw [decide_eq_false (by omega)];have:=k w1 k1;rw [show UR l=true from decide_eq_true (Yn fun j x y hx hy=>he j x y (by have:=(List.getElem?_eq_some_iff.1 hy).1;omega) hx hy)] at this;exact this
theorem Agp {w:World} {s:Sl} {l:List Hd} (h:A1 Fo w s l) (hN:l.length≤1000000) {K:TR [.sc .b]→Pr} (k:∀ w',Aa [] w w'→K (UR (l.map (·.Ah)),()) w'):Cl Pg 53 [.slice s.p s.len s.cap,.func (.func 54) #[] #[]] false [.sc .b] K w:=by
 have hl:=h.len;have hm:(l.map (·.Ah)).length=l.length:=List.length_map _;refine JT _ _ ?_;unfold HM;dsimp only [Ll,Lu,Vs,Vu];refine ⟨fun n st w'=>∃ (i:Nat),st=(false,(i:Int),())∧n=l.length - i∧i≤l.length∧(∀ j x y,j + 1 < i→(l.map (·.Ah))[j]?=some x→(l.map (·.Ah))[j + 1]?=some y→x < y)∧Aa [] w w',⟨_,0,rfl,rfl,by omega,fun j x y hj=>absurd hj (by omega),Aa.refl _ _⟩,?_⟩;rintro n _ w1 ⟨i,rfl,rfl,hi,he,k1⟩;dsimp only;have by1:∀ (z:Hd) {w:World} {K:TR [.sc (.i .u64)]→Pr},(∀ w',Aa [] w w'→K (z.Ah,()) w')→AB Pg (.func (.func 54) #[] #[]) [.agg #[.int .u64 z.Ah,.slice z.so.p z.so.len z.so.cap]] false [.sc (.i .u64)] K w:=by
  intro z w K hK;refine Ap (by kernel_rfl) ?_;refine Jo _ z.so ?_;unfold Gl;dsimp only [Lu,Vs,Vu];refine Ad fun b w2 h2 n2 k2=>?_;simp only [sb,h2];exact hK w2 k2
 by_cases hlt:i < l.length
 ·rw [decide_eq_true (by omega)];simp only [Af];obtain ⟨y,hy⟩:∃ y,l[i]?=some y:=⟨_,List.getElem?_eq_getElem hlt⟩;have hy':(l.map (·.Ah))[i]?=some y.Ah:=by rw [List.getElem?_map,hy];rfl
  dsimp only [Jp];unfold Dr;have kd:=k1.drew;have h1:=h.Ab kd;rcases Nat.eq_zero_or_pos i with h0 | h0
  ·subst h0;rw [decide_eq_false (by omega)];simp only [Ae];exact ⟨l.length - 1,by omega,1,by rw [AK (by decide)],rfl,by omega,fun j x y hj=>absurd hj (by omega),kd⟩
  ·rw [decide_eq_true (by omega)];obtain ⟨x,hx⟩:∃ x,l[i - 1]?=some x:=⟨_,List.getElem?_eq_getElem (by omega)⟩;have hx':(l.map (·.Ah))[i - 1]?=some x.Ah:=by rw [List.getElem?_map,hx];rfl
   simp only [Af];rw [show An ((i:Int) - 1)=((i - 1:Nat):Int) from by rw [By (by omega) (by omega)];omega];refine I0 h1 hx ?_;refine Ajr (ρ:=Fo) h1 hy fun a ha=>?_;have c0:=ha 0 (.int .u64 y.Ah) rfl;have c1:=ha 1 (.slice y.so.p y.so.len y.so.cap) rfl;refine DO (k:=.i .u64) (x:=y.Ah) c0 ?_;refine DO (k:=.sl) (x:=y.so) c1 ?_;refine by1 x fun w2 k2=>?_;have d0:=Abx k2 c0;have d1:=Abx k2 c1;refine ⟨DO (k:=.i .u64) (K:=fun x12=>DN (a.add 1) fun x13 _=>(Value.agg #[.int .u64 x12,.slice x13.p x13.len x13.cap])=(.agg #[.int .u64 y.Ah,.slice y.so.p y.so.len y.so.cap])) (x:=y.Ah) d0 (DO (k:=.sl) (K:=fun x13 _=>(Value.agg #[.int .u64 y.Ah,.slice x13.p x13.len x13.cap])=(.agg #[.int .u64 y.Ah,.slice y.so.p y.so.len y.so.cap])) (x:=y.so) d1 rfl),?_⟩;refine by1 y fun w3 k3=>?_;have k13:=Aj (Aj kd k2) k3;dsimp only;by_cases hxy:x.Ah < y.Ah
   ·rw [show decide (x.Ah ≥ y.Ah)=false from decide_eq_false (by omega)];simp only [Ae];refine ⟨l.length - (i + 1),by omega,i + 1,by rw [AK (by omega)],rfl,by omega,fun j u v hj hu hv=>?_,k13⟩;rcases Nat.lt_or_ge (j + 1) i with h' | h'
    ·exact he j u v h' hu hv
    ·obtain rfl:j=i - 1:=by omega
     rw [hx'] at hu;rw [show i - 1 + 1=i by omega,hy'] at hv;injection hu with hu;injection hv with hv;omega
   ·rw [show decide (x.Ah ≥ y.Ah)=true from decide_eq_true (by omega)];have:=k _ k13;rw [show UR (l.map (·.Ah))=false from decide_eq_false fun hr=>hxy (Abv hr hx' (by rw [show i - 1 + 1=i by omega];exact hy'))] at this;exact this
 ·rw [decide_eq_false (by omega)];have:=k w1 k1;rw [show UR (l.map (·.Ah))=true from decide_eq_true (Yn fun j x y hx hy=>he j x y (by have:=(List.getElem?_eq_some_iff.1 hy).1;omega) hx hy)] at this;exact this
theorem Us (b:Bool) {w:World} {K:TR [.sc (.i .i64)]→Pr} (k:K (if b then 0 else 1,()) w):Cl Pg 51 [.bool b] false [.sc (.i .i64)] K w:=by
 refine QH _ ?_;unfold R0;cases b <;> exact k
def Y1 (fin:List Int) (h:PH):Bool:=decide (h.ops.length=0) || (decide (24 < h.ops.length) || (fin.contains h.Ah || decide (A9 h.ops ≠ 0)))
def inZ (c:Sc):Bool:=(c.AJ == 0) && ((c.CD == 0) && ((c.Bo == 0) && ((seq c.Ph (BA []) && (seq c.Qq (BA []) && true)) && true)))
def TK (c:Sc):Bool:=seq c.Qk (BA []) && (seq c.MS (BA []) && true)
def Xe (c:Sc) (Ac:List Ow) (held:List PH) (fin:List Int):Bool:=decide (c.id < 1) || (decide (c.id > 4) || (!Be Ac || (decide (6 < held.length) || (decide (64 < held.length + fin.length) || (!Da c.Ph c.Qq || !Da c.Qk c.MS)))))
def W0 (held:List PH) (fin:List Int):Bool:=!held.any (Y1 fin) && (UR (held.map (·.Ah)) && UR fin)
def OA (c:Sc) (Ac:List Ow) (held:List PH) (fin:List Int):Bool:=!Xe c Ac held fin && ((c.AJ != 0 || inZ c) && ((c.frozen != 0 || TK c) && W0 held fin))
theorem AiQ (l:List Op):(l.any fun o=>ER o != 0)=decide (A9 l ≠ 0):=by
 by_cases hz:A9 l=0
 ·rw [decide_eq_false (by simpa using hz)];rw [Bu] at hz;exact List.any_eq_false.2 fun o ho=>by simp [hz o ho]
 ·rw [decide_eq_true hz];rw [Bu] at hz;rw [List.any_eq_true];apply Classical.byContradiction;intro hn;apply hz;intro o ho;apply Classical.byContradiction;intro ho';exact hn ⟨o,ho,by simpa using ho'⟩
theorem AiH {w:World} {d:Sd} (h:YP d w) (hN:XU d) {a:Nat} (ha:w.heap[a]?=some (.cells (shA d) 41 (0,0))) {K:TR [.sc .b]→Pr} (k:∀ w',Aa [] w w'→K ((d.held.map Hd.p).any (Y1 d.fin),()) w') :
  Cl Pg 52 [.slice d.sh.p d.sh.len d.sh.cap,.func (.func 46) #[] #[.pointer (some ⟨a,0,none⟩)]] false [.sc .b] K w:=by
 rw [List.any_map] at k;refine Gn (p:=Y1 d.fin ∘ Hd.p) (F:=fun _=>False) h.he ?_ (by have:=hN.2.1;omega) fun w1 k1=>k w1 k1;intro w2 k2 x hx K1 hK;have k2:=k2.SU;have a2:=k2.Aw ha;have hxo:=(h.hd x hx).Ab k2;have hl:=hxo.len;have hxn:=hN.2.2.2 x hx;refine BJ (by kernel_rfl) ?_;refine Ja _ x.so _ ?_;unfold Gw;dsimp only [Ll,Lu,Vs,Vu];refine Ad fun b w3 h3 n3 k3=>?_;have a3:=k3.Aw a2;simp only [sb,h3];show (Br (((x.so.len:Nat):Int) == 0) _ _) w3;unfold Function.comp Y1 at hK
 change ∀ w'',Aa [] w2 w''→K1 (decide (x.ops.length=0) || (decide (24 < x.ops.length) || (d.fin.contains x.Ah || decide (A9 x.ops ≠ 0))),()) w'' at hK
 by_cases c1:x.ops.length=0
 ·rw [show (((x.so.len:Nat):Int) == 0)=true from by rw [hl,c1];rfl];rw [decide_eq_true c1] at hK;exact hK w3 k3
 ·rw [show (((x.so.len:Nat):Int) == 0)=false from by rw [hl];simpa using (by omega:¬ ((x.ops.length:Nat):Int)=0)];rw [decide_eq_false c1,Bool.false_or] at hK;simp only [sb,h3];by_cases c2:24 < x.ops.length
  ·rw [show decide (((x.so.len:Nat):Int) > 24)=true from decide_eq_true (by omega)];rw [decide_eq_true c2] at hK;exact hK w3 k3
  ·rw [show decide (((x.so.len:Nat):Int) > 24)=false from decide_eq_false (by omega)];rw [decide_eq_false c2,Bool.false_or] at hK;simp only [sb,h3,a3];refine UI ((h.fi.Ab k2).Ab k3) x.Ah (by have:=hN.2.2.1;omega) ?_;dsimp only;cases c3:d.fin.contains x.Ah with
   | true=>rw [c3] at hK;exact hK w3 k3
   | false=>
    rw [c3,Bool.false_or] at hK;simp only [sb,h3];refine BN (p:=fun o=>ER o != 0) (F:=fun _=>False) (hxo.Ab k3) ?_ (by omega) fun w4 k4=>?_
    ·intro w5 k5 y _ K2 hK2;refine Ap (by kernel_rfl) ?_;refine HG _ _ _ _ _ _ ?_;unfold Fe;dsimp only [Ar,AN];refine Ad fun c w6 h6 n6 k6=>?_;simp only [sb,h6];refine Ni y fun w7 k7=>?_;exact hK2 w7 (Aj k6 k7)
    ·rw [AiQ];exact hK w4 (Aj k3 k4)
set_option maxHeartbeats 2000000 in
theorem Lt {w:World} {d:Sd} (h:YP d w) (hN:XU d) {K:TR [.sc (.i .i64)]→Pr} (k:∀ w',Aa [] w w'→K (if OA d.c d.Ac (d.held.map Hd.p) d.fin then 0 else 1,()) w'):Cl Pg 25 [.agg (shA d)] false [.sc (.i .i64)] K w:=by
 refine KA _ _ _ _ _ d.so d.sh d.sf _ _ _ _ _ _ _ _ _ ?_;unfold IC;dsimp only [Al,Li,Ll,Ls,Lu,Ah0,Vb,Vp,Vs,Vt];refine Ad fun a w1 h1 n1 k1=>?_;obtain ⟨N1,N2,N3,N4⟩:=hN;have hN:XU d:=⟨N1,N2,N3,N4⟩;have g1:=h.Ab k1;have lh:=h.he.len;have lf:=V1 h.fi;have lm:(d.held.map Hd.p).length=d.held.length:=List.length_map _;refine BR (Xe d.c d.Ac (d.held.map Hd.p) d.fin) (fun J hJ=>?_) fun w2 k2=>?_
 ·unfold Xe at hJ;simp only [sb,h1];by_cases c1:d.c.id < 1
  ·rw [decide_eq_true c1] at hJ ⊢;exact hJ w1 (Aa.refl _ _)
  rw [decide_eq_false c1] at hJ ⊢;rw [Bool.false_or] at hJ;simp only [sb,h1];by_cases c2:d.c.id > 4
  ·rw [decide_eq_true c2] at hJ ⊢;exact hJ w1 (Aa.refl _ _)
  rw [decide_eq_false c2] at hJ ⊢;rw [Bool.false_or] at hJ;simp only [sb,h1];refine Pj g1.ow (by omega) fun w2 k2=>?_;have h2:=k2.Aw h1;cases c3:Be d.Ac with
  | false=>rw [c3] at hJ;exact hJ w2 k2
  | true=>
  rw [c3,Bool.not_true,Bool.false_or] at hJ;simp only [if_true,show ((0:Int) != 0)=false from rfl,sb,h2];by_cases c4:6 < d.held.length
  ·rw [show decide (((d.sh.len:Nat):Int) > 6)=true from decide_eq_true (by omega)];rw [lm,decide_eq_true c4] at hJ;exact hJ w2 k2
  rw [show decide (((d.sh.len:Nat):Int) > 6)=false from decide_eq_false (by omega)];rw [lm,decide_eq_false c4,Bool.false_or] at hJ;simp only [sb,h2];rw [lh,lf,By (by omega) (by omega)];by_cases c5:64 < d.held.length + d.fin.length
  ·rw [show decide (((d.held.length:Nat):Int) + ((d.fin.length:Nat):Int) > 64)=true from decide_eq_true (by omega)];rw [decide_eq_true c5] at hJ;exact hJ w2 k2
  rw [show decide (((d.held.length:Nat):Int) + ((d.fin.length:Nat):Int) > 64)=false from decide_eq_false (by omega)];rw [decide_eq_false c5,Bool.false_or] at hJ;simp only [sb,h2,A5,Nat.reduceAdd];refine M1 _ _ fun w3 k3=>?_;have h3:=k3.Aw h2;cases c6:Da d.c.Ph d.c.Qq with
  | false=>rw [c6] at hJ;exact hJ w3 (Aj k2 k3)
  | true=>
  rw [c6,Bool.not_true,Bool.false_or] at hJ;simp only [if_true,show ((0:Int) != 0)=false from rfl,sb,h3,A5,Nat.reduceAdd];refine M1 _ _ fun w4 k4=>?_;rw [ok1];exact hJ w4 (Aj (Aj k2 k3) k4)
 ·have k02:=Aj k1 k2;have h2:=k2.Aw h1;unfold OA at k;cases hz:Xe d.c d.Ac (d.held.map Hd.p) d.fin with
  | true=>rw [hz] at k;exact k w2 k02
  | false=>
   rw [hz,Bool.not_false,Bool.true_and] at k;simp only [Ae]
   have tail:∀ (K:TR [.sc (.i .i64)]→Pr),(∀ w',Aa [] w w'→K (if W0 (d.held.map Hd.p) d.fin then 0 else 1,()) w') →
     (DN ((⟨a,0,none⟩:Addr).add 6) fun x6=>Cl Pg 52 [(.slice x6.p x6.len x6.cap),(.func (.func 46) #[] #[(.pointer (some ⟨a,0,none⟩))])] false [.sc .b] fun r7=>Br (!r7.1) (DN ((⟨a,0,none⟩:Addr).add 6) fun x8=>
      Cl Pg 53 [(.slice x8.p x8.len x8.cap),(.func (.func 54) #[] #[])] false [.sc .b] fun r9=>Br r9.1 (DN ((⟨a,0,none⟩:Addr).add 7) fun x10=>
      Cl Pg 55 [(.slice x10.p x10.len x10.cap),(.func (.func 56) #[] #[])] false [.sc .b] fun r11=>Cl Pg 51 [(.bool r11.1)] false [.sc (.i .i64)] fun r12=>K (r12.1,())) (Cl Pg 51 [(.bool false)] false [.sc (.i .i64)] fun r13=>K (r13.1,()))) (Cl Pg 51 [(.bool false)] false [.sc (.i .i64)] fun r14=>K (r14.1,()))) w2:=by
    intro K k;unfold W0 at k;simp only [sb,h2];refine AiH (h.Ab k02) hN h2 fun w3 k3=>?_;have h3:=k3.Aw h2;have k03:=Aj k02 k3;dsimp only;cases c1:(d.held.map Hd.p).any (Y1 d.fin) with
    | true=>rw [c1] at k;exact Us false (k w3 k03)
    | false=>
     rw [c1,Bool.not_false,Bool.true_and] at k;simp only [Bool.not_false,sb,h3];refine Agp (h.he.Ab k03) (by omega) fun w4 k4=>?_;have h4:=k4.Aw h3;have k04:=Aj k03 k4;dsimp only;rw [show (d.held.map Hd.p).map (·.Ah)=d.held.map (·.Ah) from by rw [List.map_map];rfl] at k;cases c2:UR (d.held.map (·.Ah)) with
     | false=>rw [c2] at k;exact Us false (k w4 k04)
     | true=>
      rw [c2,Bool.true_and] at k;simp only [sb,h4];refine AgP (h.fi.Ab k04) (by omega) fun w5 k5=>?_;exact Us _ (k w5 (Aj k04 k5))
   have cl:∀ (i:Nat) (v:Value),(shA d)[i]?=some v→w2.cell? ⟨a,i,none⟩=some v:=fun i v hv=>by rw [Ci,h2];exact hv
   have cold:(∀ w',Aa [] w w'→K (if ((d.c.frozen != 0 || TK d.c) && W0 (d.held.map Hd.p) d.fin) then 0 else 1,()) w') →
     (A2 .u64 ((⟨a,0,none⟩:Addr).add 9) fun x5=>Br ((x5:Int) != 0) (DN ((⟨a,0,none⟩:Addr).add 6) fun x6=>Cl Pg 52 [(.slice x6.p x6.len x6.cap),(.func (.func 46) #[] #[(.pointer (some ⟨a,0,none⟩))])] false [.sc .b] fun r7=>Br (!r7.1) (DN ((⟨a,0,none⟩:Addr).add 6) fun x8=>
      Cl Pg 53 [(.slice x8.p x8.len x8.cap),(.func (.func 54) #[] #[])] false [.sc .b] fun r9=>Br r9.1 (DN ((⟨a,0,none⟩:Addr).add 7) fun x10=>
      Cl Pg 55 [(.slice x10.p x10.len x10.cap),(.func (.func 56) #[] #[])] false [.sc .b] fun r11=>Cl Pg 51 [(.bool r11.1)] false [.sc (.i .i64)] fun r12=>K (r12.1,())) (Cl Pg 51 [(.bool false)] false [.sc (.i .i64)] fun r13=>K (r13.1,()))) (Cl Pg 51 [(.bool false)] false [.sc (.i .i64)] fun r14=>K (r14.1,())))
      (BU (((⟨a,0,none⟩:Addr).add 10).add 0) fun x15=>BU (((⟨a,0,none⟩:Addr).add 10).add 1) fun x16=>Br ((seq x15 (BA [])) && ((seq x16 (BA [])) && true)) (DN ((⟨a,0,none⟩:Addr).add 6) fun x6=>Cl Pg 52 [(.slice x6.p x6.len x6.cap),(.func (.func 46) #[] #[(.pointer (some ⟨a,0,none⟩))])] false [.sc .b] fun r7=>Br (!r7.1) (DN ((⟨a,0,none⟩:Addr).add 6) fun x8=>
      Cl Pg 53 [(.slice x8.p x8.len x8.cap),(.func (.func 54) #[] #[])] false [.sc .b] fun r9=>Br r9.1 (DN ((⟨a,0,none⟩:Addr).add 7) fun x10=>
      Cl Pg 55 [(.slice x10.p x10.len x10.cap),(.func (.func 56) #[] #[])] false [.sc .b] fun r11=>Cl Pg 51 [(.bool r11.1)] false [.sc (.i .i64)] fun r12=>K (r12.1,())) (Cl Pg 51 [(.bool false)] false [.sc (.i .i64)] fun r13=>K (r13.1,()))) (Cl Pg 51 [(.bool false)] false [.sc (.i .i64)] fun r14=>K (r14.1,()))) (Cl Pg 51 [(.bool false)] false [.sc (.i .i64)] fun r26=>K (r26.1,())))) w2:=by
    intro k;refine DO (k:=.i .u64) (x:=d.c.frozen) (cl 9 _ rfl) ?_;cases c1:(d.c.frozen != 0) with
    | true=>
     rw [c1,Bool.true_or,Bool.true_and] at k;simp only [Af];exact tail K k
    | false=>
     rw [c1,Bool.false_or] at k;simp only [Ae];refine DO (k:=.s) (x:=d.c.Qk) (cl 10 _ rfl) ?_;refine DO (k:=.s) (x:=d.c.MS) (cl 11 _ rfl) ?_;show (Br (TK d.c) _ _) w2;cases c2:TK d.c with
     | true=>
      rw [c2,Bool.true_and] at k;simp only [Af];exact tail K k
     | false=>rw [c2] at k;exact Us false (k w2 k02)
   refine DO (k:=.i .u64) (x:=d.c.AJ) (cl 12 _ rfl) ?_;cases c1:(d.c.AJ != 0) with
   | true=>
    rw [c1,Bool.true_or,Bool.true_and] at k;simp only [Af];exact cold k
   | false=>
    rw [c1,Bool.false_or] at k;simp only [Ae];refine DO (k:=.i .u64) (x:=d.c.AJ) (cl 12 _ rfl) ?_;refine DO (k:=.i .u64) (x:=d.c.CD) (cl 13 _ rfl) ?_;refine DO (k:=.i .u64) (x:=d.c.Bo) (cl 14 _ rfl) ?_;refine DO (k:=.s) (x:=d.c.Ph) (cl 15 _ rfl) ?_;refine DO (k:=.s) (x:=d.c.Qq) (cl 16 _ rfl) ?_;show (Br (inZ d.c) _ _) w2;cases c2:inZ d.c with
    | true=>
     rw [c2,Bool.true_and] at k;simp only [Af];exact cold k
    | false=>rw [c2] at k;exact Us false (k w2 k02)
open Go Go.Sx
def u8 (x:Int):UInt8:=UInt8.ofNat (IntKind.u8.wrap x).toNat
theorem Ae1 (x:Int):IntKind.u8.wrap x=x % 256:=by
 simp [IntKind.wrap,IntKind.bits,IntKind.signed]
theorem AbC (x:Int):IntKind.u8.wrap x=((u8 x).toNat:Int):=by
 unfold u8;rw [UInt8.toNat_ofNat',Ae1];omega
def YR:Nat→Int→List UInt8
 | 0,n=>[u8 n]
 | f + 1,n=>if 128≤n then u8 (ior .u8 (IntKind.u8.wrap n) 128) :: YR f (IW .u64 n 7) else [u8 n]
def Bv (n:Int):List UInt8:=YR n.toNat n
theorem Aiz {n:Int} (h:128≤n):IW .u64 n 7=((n.toNat / 128:Nat):Int):=by
 obtain ⟨m,rfl⟩:∃ m:Nat,n=m:=⟨n.toNat,by omega⟩;rw [show IW .u64 (m:Int) 7=((m >>> 7:Nat):Int) from PI .u64 m 7 (by decide),Nat.shiftRight_eq_div_pow];rfl
theorem Ad2 (a b:Int):ior .u8 a b=IntKind.u8.wrap (ior .u8 a b):=by
 unfold ior;rw [Ae1,Ae1];omega
theorem YY:∀ (f k:Nat) (n:Int),n.toNat < 128 ^ (k + 1)→(YR f n).length≤k + 1
 | 0,k,n,h=>by simp [YR]
 | f + 1,k,n,h=>by
  unfold YR;split
  ·rename_i h2;rw [Aiz h2];cases k with
   | zero=>omega
   | succ k=>
    have:=YY f k (((n.toNat / 128:Nat):Int)) (by
     rw [Int.toNat_natCast];rw [Nat.pow_succ] at h;exact Nat.div_lt_of_lt_mul (by rw [Nat.mul_comm];exact h))
    simp only [List.length_cons];omega
  ·simp
theorem Qp {n:Int} (h:n < 18446744073709551616):(Bv n).length≤10:=YY _ 9 n (by
 have:(128:Nat) ^ (9 + 1)=1180591620717411303424:=by decide
 omega)
theorem Vh:zc Pg 5=#[.int .u8 0]:=by kernel_rfl
theorem Ah6 (n:Int) (hn:n < 18446744073709551616) {w:World} {K:TR [.sc .sl]→Pr} (k:∀ r w',AE w' r 1 (cB (Bv n))→(∀ b∈Ai r,w.heap.size≤b)→Aa [] w w'→K (r,()) w'):Cl Pg 231 [.int .u64 n] false [.sc .sl] K w:=by
 refine Vw _ ?_;unfold Xd;have p10:(128:Nat) ^ 10=1180591620717411303424:=by decide
 refine ⟨fun m st w'=>∃ (f:Nat) (v:Int) (r:Sl) (bs:List UInt8),st=(v,r,())∧m=v.toNat∧v.toNat≤f∧bs ++ YR f v=Bv n∧v.toNat * 128 ^ bs.length≤n.toNat∧bs.length≤10∧AE w' r 1 (cB bs)∧(∀ b∈Ai r,w.heap.size≤b)∧Aa [] w w',⟨_,n.toNat,n,⟨none,0,0⟩,[],rfl,rfl,Nat.le_refl _,rfl,by simp,by simp,AE.nil _ _,by simp [Ai],Aa.refl _ _⟩,?_⟩;rintro _ _ w1 ⟨f,v,r,bs,rfl,rfl,hv,he,hb,hc,h1,f1,k1⟩;dsimp only;have hl:=Ng h1
 have app:∀ (y:UInt8) {K2:Sl→Pr},(∀ r4 w4,AE w4 r4 1 (cB (bs ++ [y]))→(∀ b∈Ai r4,w.heap.size≤b)→Aa [] w w4→K2 r4 w4) →
   (At #[.int .u8 ((y.toNat:Nat):Int)] 5 fun a3=>App 5 1 1 (zc Pg 5) r 1 (BH (some a3) 1 1) K2) w1:=by
  intro y K2 hK;refine Ad fun a w2 h2 n2 k2=>?_;have h12:=h1.keeps k2 (by simp);refine MZ (new:=[.int .u8 ((y.toNat:Nat):Int)]) h12 ?_ rfl (by simp [Value.oneCell']) (by rw [Vh];rfl) (by omega) (by omega) ?_
  ·exact BI (ρ:=Rec.sca (.i .u8) rfl) (x:=((y.toNat:Nat):Int)) h2
  ·intro r4 w4 h4 _ k4 f4;refine hK r4 w4 ?_ ?_ (Ky (Aj k1 k2) k4 f1)
   ·rw [show cB (bs ++ [y])=cB bs ++ [.int .u8 ((y.toNat:Nat):Int)] from by unfold cB;rw [List.map_append];rfl];exact h4
   ·intro b hb;rcases f4 b hb with h' | h'
    ·exact f1 b h'
    ·have:=k1.size;have:=k2.size;omega
 by_cases hge:v ≥ 128
 ·rw [decide_eq_true hge];simp only [Af];rw [Ad2,AbC];refine app _ ?_;intro r4 w4 h4 f4 k4;refine ⟨by decide,?_⟩;obtain ⟨f',rfl⟩:∃ f',f=f' + 1:=⟨f - 1,by omega⟩;have hd:v.toNat / 128 < v.toNat:=Nat.div_lt_self (by omega) (by decide);rw [Aiz hge];refine ⟨v.toNat / 128,hd,f',_,r4,bs ++ [u8 (ior .u8 (IntKind.u8.wrap v) 128)],rfl,by rw [Int.toNat_natCast],by rw [Int.toNat_natCast];omega,?_,?_,?_,h4,f4,k4⟩
  ·rw [← he]
   conv=>rhs;rw [YR,if_pos hge,Aiz hge]
   rw [List.append_assoc];rfl
  ·rw [Int.toNat_natCast,List.length_append,List.length_singleton,Nat.pow_succ,Nat.mul_comm (128 ^ bs.length),← Nat.mul_assoc];exact Nat.le_trans (Nat.mul_le_mul_right _ (Nat.div_mul_le_self _ _)) hb
  ·rw [List.length_append,List.length_singleton];rcases Nat.lt_or_ge bs.length 10 with h' | h'
   ·omega
   ·have:bs.length=10:=by omega
    rw [this,p10] at hb;omega
 ·rw [decide_eq_false hge];simp only [Ae];rw [AbC];refine app _ ?_;intro r4 w4 h4 f4 k4;refine k r4 w4 ?_ f4 k4;rw [show bs ++ [u8 v]=Bv n from ?_] at h4
  ·exact h4
  ·rw [← he];cases f with
   | zero=>rfl
   | succ f=>rw [YR,if_neg (by omega)]
def Cd (s:ByteArray):List UInt8:=Bv (s.size:Int) ++ s.data.toList
theorem Aiq (s:ByteArray) (hs:s.size≤1000000) {w:World} {K:TR [.sc .sl]→Pr} (k:∀ r w',AE w' r 1 (cB (Cd s))→(∀ b∈Ai r,w.heap.size≤b)→Aa [] w w'→K (r,()) w'):Cl Pg 240 [.string s] false [.sc .sl] K w:=by
 refine S5 _ ?_;unfold UE;dsimp only [Vu];rw [B1 (by omega)];refine Ah6 _ (by omega) fun r1 w1 h1 f1 k1=>?_;have hl:=Ng h1;dsimp only;have hn:=Qp (n:=(s.size:Int)) (by omega);have hsz:s.data.toList.length=s.size:=by simp
 refine MZ (new:=cB s.data.toList) h1 ?_ (by rw [En,hsz,Nat.mul_one]) (Ad3 _) (by rw [Vh];rfl) (by omega) (by omega) ?_
 ·show cB s.data.toList=(FU s).take s.size;rw [QA,List.take_of_length_le (by rw [En,hsz];exact Nat.le_refl _)]
 ·intro r4 w4 h4 _ k4 f4;refine k r4 w4 ?_ ?_ (Ky k1 k4 f1)
  ·unfold Cd;rw [show cB (Bv (s.size:Int) ++ s.data.toList)=cB (Bv (s.size:Int)) ++ cB s.data.toList from by unfold cB;rw [List.map_append]];exact h4
  ·intro b hb;rcases f4 b hb with h' | h'
   ·exact f1 b h'
   ·have:=k1.size;omega
structure WR (n0:Nat) (w:World) (x:Nat) (s:Sl) (bs:List UInt8):Prop where
 hd:w.heap[x]?=some (.cells #[.slice s.p s.len s.cap] 307 (0,0))
 row:AE w s 1 (cB bs)
 ne:x ∉ Ai s
 nx:n0≤x
 nb:∀ b∈Ai s,n0≤b
structure WE (w:World) (x:Nat) (s:Sl) (w':World) (s':Sl):Prop where
 kp:Aa (x :: Ai s) w w'
 fr:∀ b∈Ai s',b∈Ai s∨w.heap.size≤b
theorem WE.trans {w w' w'':World} {x:Nat} {s s' s'':Sl} (h:WE w x s w' s') (k:WE w' x s' w'' s''):WE w x s w'' s'':=
 ⟨h.kp.trans k.kp fun b hb=>by
  rcases List.mem_cons.1 hb with rfl | hb
  ·exact .inl List.mem_cons_self
  ·rcases h.fr b hb with h' | h'
   ·exact .inl (List.mem_cons_of_mem _ h')
   ·exact .inr h',fun b hb=>by
  rcases k.fr b hb with h' | h'
  ·exact h.fr b h'
  ·exact .inr (Nat.le_trans h.kp.size h')⟩
theorem WE.k0 {w w':World} {x:Nat} {s:Sl} (h:Aa [] w w'):WE w x s w' s:=⟨h.mono (by simp),fun b hb=>.inl hb⟩
theorem WR.Ab {n0:Nat} {w w':World} {x:Nat} {s:Sl} {bs:List UInt8} (h:WR n0 w x s bs) (k:Aa [] w w'):WR n0 w' x s bs:=⟨k.Aw h.hd,h.row.keeps k (by simp),h.ne,h.nx,h.nb⟩
theorem WE.at {n0:Nat} {w w':World} {x:Nat} {s s':Sl} {bs:List UInt8} (r:WR n0 w x s bs) (h:WE w x s w' s') {c:Nat} {o:Obj} (hc:w.heap[c]?=some o) (nx:c ≠ x) (ns:c ∉ Ai s):w'.heap[c]?=some o∧c ∉ Ai s':=
 ⟨h.kp.at hc (by simp [nx,ns]),fun hb=>by rcases h.fr c hb with h' | h';exact ns h';have:=Av hc;omega⟩
theorem WR.new {n0:Nat} {w:World} {x:Nat} {s:Sl} {bs:List UInt8} (r:WR n0 w x s bs) {c:Nat} (hc:w.heap.size≤c):c ≠ x∧c ∉ Ai s:=⟨fun e=>by have:=Av r.hd;omega,fun hb=>by have:=r.row.lt c hb;omega⟩
theorem Aky {n0:Nat} {w:World} {x:Nat} {s:Sl} {bs new:List UInt8} (h:WR n0 w x s bs) (hb:bs.length + new.length≤1000000000) {w1:World} (k1:Aa [] w w1) {r:Sl} (hr:AE w1 r 1 (cB new)) {K:Pr} (hn:n0≤w.heap.size)
  (k:∀ s' w',WR n0 w' x s' (bs ++ new)→WE w x s w' s'→K w'):App 5 1 1 (zc Pg 5) s r.len (BH r.p r.len 1) (fun r5=>Nn (some ⟨x,0,none⟩) fun a6=>St (a6.add 0) (.slice r5.p r5.len r5.cap) K) w1:=by
 have h1:=h.Ab k1;have l1:=Ng h1.row;have l2:=Ng hr;refine MZ (new:=cB new) h1.row hr.rdc (by rw [En,l2,Nat.mul_one]) (Ad3 _) (by rw [Vh];rfl) (by omega) (by omega) ?_;intro r5 w5 h5 _ k5 f5;have x5:=k5.at h1.hd h.ne;have n5:x ∉ Ai r5:=fun hb=>by rcases f5 x hb with h' | h';exact h.ne h';have:=Av h1.hd;omega
 simp only [sb];refine Ax x5 0 _ rfl (by simp) fun w6 h6 k6=>?_;simp only [Ck] at h6;refine k r5 w6 ⟨h6,?_,n5,h.nx,fun b hb=>?_⟩ ⟨?_,fun b hb=>?_⟩
 ·rw [show cB (bs ++ new)=cB bs ++ cB new from by unfold cB;rw [List.map_append]];exact h5.keeps k6 (fun b hb=>by simp;intro e;subst e;exact n5 hb)
 ·rcases f5 b hb with h' | h'
  ·exact h.nb b h'
  ·have:=k1.size;omega
 ·exact ((k1.mono (by simp)).trans (k5.mono (m':=x :: Ai s) fun y hy=>.inl (List.mem_cons_of_mem _ hy)) (fun _ hx=>.inl hx)).trans (k6.mono (m':=x :: Ai s) fun y hy=>.inl (by simp at hy;rw [hy];exact List.mem_cons_self)) (fun _ hx=>.inl hx)
 ·rcases f5 b hb with h' | h'
  ·exact .inl h'
  ·exact .inr (by have:=k1.size;omega)
open Go Go.Sx
def TA:Nat:=1000000000
theorem Abf (n:Int) (hn:n < 18446744073709551616) {n0:Nat} {w:World} {x:Nat} {s:Sl} {bs:List UInt8} (h:WR n0 w x s bs) (h0:n0≤w.heap.size) (hb:(bs ++ Bv n).length≤TA) {K:TR []→Pr} (k:∀ s' w',WR n0 w' x s' (bs ++ Bv n)→WE w x s w' s'→K () w'):Cl Pg 258 [.pointer (some ⟨x,0,none⟩),.int .u64 n] true [] K w:=by
 refine KR _ _ ?_;unfold IA;dsimp only [Ll,Ts,Vs,Vu];simp only [sb,h.hd];refine Ah6 n hn fun r w1 h1 f1 k1=>?_;have h2:=h.Ab (Aj (Am w) k1);simp only [sb,h2.hd];refine ⟨by trivial,?_⟩;exact Aky h (by rw [List.length_append] at hb;exact hb) (Aj (Am w) k1) h1 h0 k
theorem Yx (n:Int) (hn:0≤n∧n < 18446744073709551616) {n0:Nat} {w:World} {x:Nat} {s:Sl} {bs:List UInt8} (h:WR n0 w x s bs) (h0:n0≤w.heap.size) (hb:(bs ++ Bv n).length≤TA) {K:TR []→Pr} (k:∀ s' w',WR n0 w' x s' (bs ++ Bv n)→WE w x s w' s'→K () w'):Cl Pg 286 [.pointer (some ⟨x,0,none⟩),.int .i64 n] true [] K w:=by
 refine KJ _ _ ?_;unfold Is;dsimp only [Vp,Vu];have e:IntKind.u64.wrap n=n:=by
  have:=B1 (n:=n.toNat) (by omega);rw [Int.toNat_of_nonneg hn.1] at this;exact this
 rw [e];exact Abf n hn.2 h h0 hb k
theorem Tj (t:ByteArray) (hn:t.size≤1000000) {n0:Nat} {w:World} {x:Nat} {s:Sl} {bs:List UInt8} (h:WR n0 w x s bs) (h0:n0≤w.heap.size) (hb:(bs ++ Cd t).length≤TA) {K:TR []→Pr} (k:∀ s' w',WR n0 w' x s' (bs ++ Cd t)→WE w x s w' s'→K () w'):Cl Pg 288 [.pointer (some ⟨x,0,none⟩),.string t] true [] K w:=by
 refine JQ _ _ ?_;unfold Hk;dsimp only [Ll,Ts,Vs,Vt];simp only [sb,h.hd];refine Aiq t hn fun r w1 h1 f1 k1=>?_;have h2:=h.Ab (Aj (Am w) k1);simp only [sb,h2.hd];refine ⟨by trivial,?_⟩;exact Aky h (by rw [List.length_append] at hb;exact hb) (Aj (Am w) k1) h1 h0 k
theorem CR {a b c:List UInt8} (h:(a ++ b ++ c).length≤TA):(a ++ b).length≤TA:=by rw [List.length_append] at h;omega
def SC {α:Type} (n0:Nat) (x:Nat) (f:Value) (v:α→Value) (enc:α→List UInt8) (D:α→World→Prop):Prop:=
 ∀ (y:α) (w:World) (s:Sl) (bs:List UInt8),WR n0 w x s bs→n0≤w.heap.size→D y w→(bs ++ enc y).length≤TA→∀ K:TR []→Pr,(∀ s' w',WR n0 w' x s' (bs ++ enc y)→WE w x s w' s'→K () w')→AB Pg f [v y] true [] K w
def Wk (n0:Nat) (x:Nat) (D:World→Prop):Prop:=∀ (w w':World) (s s':Sl) (bs:List UInt8),WR n0 w x s bs→n0≤w.heap.size→D w→WE w x s w' s'→D w'
theorem Wk.k0 {n0 x:Nat} {D:World→Prop} (h:Wk n0 x D) {w w':World} {s:Sl} {bs:List UInt8} (r:WR n0 w x s bs) (h0:n0≤w.heap.size) (hD:D w) (k:Aa [] w w'):D w':=h w w' s s bs r h0 hD (WE.k0 k)
theorem Np {α:Type} {ρ:Rec α} {n0 x:Nat} {r:Sl} {l:List α} (hx:n0≤x) (hr:∀ b∈rb r,b < n0):Wk n0 x (fun w=>A1 ρ w r l):=by
 intro w w' s s' bs h h0 hD e;refine hD.keeps e.kp fun b hb=>?_;have:=hr b hb;simp only [List.mem_cons,not_or];exact ⟨by omega,fun h'=>by have:=h.nb b h';omega⟩
theorem Tv {n m:Int} (e:n=m) (hn:0≤m∧m < 18446744073709551616) {n0:Nat} {w:World} {x:Nat} {s:Sl} {bs:List UInt8} (h:WR n0 w x s bs) (h0:n0≤w.heap.size) (hb:(bs ++ Bv m).length≤TA) {K:TR []→Pr} (k:∀ s' w',WR n0 w' x s' (bs ++ Bv m)→WE w x s w' s'→K () w'):Cl Pg 286 [.pointer (some ⟨x,0,none⟩),.int .i64 n] true [] K w:=by
 subst e;exact Yx n hn h h0 hb k
theorem XM {n0:Nat} {w:World} {x:Nat} {s:Sl} {bs:List UInt8} (h:WR n0 w x s bs) (h0:n0≤w.heap.size) {r:Sl} {l:List Int} (hr:A1 HL w r l) (ho:Wk n0 x (fun w=>A1 HL w r l)) {f:Value} {enc:Int→List UInt8} {D:Int→World→Prop} (hf:SC n0 x f (Value.int .u64) enc D) (hD:∀ y∈l,D y w) (hoD:∀ y∈l,Wk n0 x (D y)) (hN:l.length≤1000000) (hb:(bs ++ l.flatMap enc).length≤TA) {K:TR []→Pr} (k:∀ s' w',WR n0 w' x s' (bs ++ l.flatMap enc)→WE w x s w' s'→K () w'):Cl Pg 285 [.pointer (some ⟨x,0,none⟩),.slice r.p r.len r.cap,f] true [] K w:=by
 have hl:r.len=l.length:=hr.len;refine Eo _ _ _ ?_;unfold Eb;dsimp only [Vu];refine ⟨fun n st w'=>∃ (i:Nat) (s':Sl),st=((i:Int),())∧n=l.length - i∧i≤l.length∧WR n0 w' x s' (bs ++ (l.take i).flatMap enc)∧WE w x s w' s'∧A1 HL w' r l∧(∀ y∈l,D y w')∧n0≤w'.heap.size,⟨_,0,s,rfl,rfl,by omega,by simpa using h,WE.k0 (Aa.refl _ _),hr,hD,h0⟩,?_⟩;rintro n _ w1 ⟨i,s1,rfl,rfl,hi,h1,e1,r1,d1,z1⟩;dsimp only;by_cases hlt:i < l.length
 ·rw [decide_eq_true (by omega)];simp only [Af];obtain ⟨y,hy⟩:∃ y,l[i]?=some y:=⟨_,List.getElem?_eq_getElem hlt⟩;have hym:=List.mem_of_getElem? hy;have htk:(l.take (i + 1)).flatMap enc=(l.take i).flatMap enc ++ enc y:=by rw [List.take_add_one,hy,List.flatMap_append];simp
  have hbb:(bs ++ (l.take i).flatMap enc ++ enc y).length≤TA:=by
   have e:l.flatMap enc=(l.take (i + 1)).flatMap enc ++ (l.drop (i + 1)).flatMap enc:=by rw [← List.flatMap_append,List.take_append_drop]
   rw [e,htk] at hb;simp only [List.length_append] at hb ⊢;omega
  have nxt:∀ (w2:World),Aa [] w1 w2→AB Pg f [(Value.int .u64) y] true [] (fun r5=>fun w'=>∃ m,m < l.length - i∧∃ (i_1:Nat) (s':Sl),(An ((i:Int) + 1),())=((i_1:Int),())∧m=l.length - i_1∧i_1≤l.length∧WR n0 w' x s' (bs ++ (l.take i_1).flatMap enc)∧WE w x s w' s'∧A1 HL w' r l∧(∀ y∈l,D y w')∧n0≤w'.heap.size) w2:=by
   intro w2 k2;have z2:n0≤w2.heap.size:=Nat.le_trans z1 k2.size;refine hf y w2 s1 _ (h1.Ab k2) z2 ((hoD y hym).k0 h1 z1 (d1 y hym) k2) hbb _ ?_;intro s3 w3 h3 e3;refine ⟨l.length - (i + 1),by omega,i + 1,s3,by rw [AK (by omega)],rfl,by omega,?_,e1.trans ((WE.k0 k2).trans e3),ho _ _ _ _ _ h1 z1 r1 ((WE.k0 k2).trans e3),fun z hz=>hoD z hz _ _ _ _ _ h1 z1 (d1 z hz) ((WE.k0 k2).trans e3),Nat.le_trans z2 e3.kp.size⟩;rw [htk,← List.append_assoc];exact h3
  refine ldn r1 hy ?_;exact nxt w1 (Aa.refl _ _)
 ·rw [decide_eq_false (by omega)];rw [List.take_of_length_le (by omega)] at h1;exact k s1 w1 h1 e1
theorem VG {n0:Nat} {w:World} {x:Nat} {s:Sl} {bs:List UInt8} (h:WR n0 w x s bs) (h0:n0≤w.heap.size) {r:Sl} {l:List Int} (hr:A1 HL w r l) (ho:Wk n0 x (fun w=>A1 HL w r l)) {f:Value} {enc:Int→List UInt8} {D:Int→World→Prop} (hf:SC n0 x f (Value.int .u64) enc D) (hD:∀ y∈l,D y w) (hoD:∀ y∈l,Wk n0 x (D y)) (hN:l.length≤1000000) (hb:(bs ++ (Bv (l.length:Int) ++ l.flatMap enc)).length≤TA) {K:TR []→Pr} (k:∀ s' w',WR n0 w' x s' (bs ++ (Bv (l.length:Int) ++ l.flatMap enc))→WE w x s w' s'→K () w'):Cl Pg 257 [.pointer (some ⟨x,0,none⟩),.slice r.p r.len r.cap,f] true [] K w:=by
 have hl:r.len=l.length:=hr.len;refine JA _ _ _ ?_;unfold Ht;dsimp only [Vi,Vp,Vs];rw [← List.append_assoc] at hb k;have e:(((r.len:Nat):Int))=(l.length:Int):=by rw [hl]
 refine Tv e ⟨by omega,by omega⟩ h h0 (CR hb) fun s1 w1 h1 e1=>?_;have z1:n0≤w1.heap.size:=Nat.le_trans h0 e1.kp.size;refine XM h1 z1 (ho _ _ _ _ _ h h0 hr e1) ho hf (fun y hy=>hoD y hy _ _ _ _ _ h h0 (hD y hy) e1) hoD hN hb fun s2 w2 h2 e2=>?_;exact k s2 w2 h2 (e1.trans e2)
theorem Zv {n0:Nat} {w:World} {x:Nat} {s:Sl} {bs:List UInt8} (h:WR n0 w x s bs) (h0:n0≤w.heap.size) {r:Sl} {l:List Ow} (hr:A1 Mj w r l) (ho:Wk n0 x (fun w=>A1 Mj w r l)) {f:Value} {enc:Ow→List UInt8} {D:Ow→World→Prop} (hf:SC n0 x f Mj.v enc D) (hD:∀ y∈l,D y w) (hoD:∀ y∈l,Wk n0 x (D y)) (hN:l.length≤1000000) (hb:(bs ++ l.flatMap enc).length≤TA) {K:TR []→Pr} (k:∀ s' w',WR n0 w' x s' (bs ++ l.flatMap enc)→WE w x s w' s'→K () w'):Cl Pg 287 [.pointer (some ⟨x,0,none⟩),.slice r.p r.len r.cap,f] true [] K w:=by
 have hl:r.len=l.length:=hr.len;refine K4 _ _ _ ?_;unfold IJ;dsimp only [Li,Ls,Ti,Tt,Vi,Vt];refine ⟨fun n st w'=>∃ (i:Nat) (s':Sl),st=((i:Int),())∧n=l.length - i∧i≤l.length∧WR n0 w' x s' (bs ++ (l.take i).flatMap enc)∧WE w x s w' s'∧A1 Mj w' r l∧(∀ y∈l,D y w')∧n0≤w'.heap.size,⟨_,0,s,rfl,rfl,by omega,by simpa using h,WE.k0 (Aa.refl _ _),hr,hD,h0⟩,?_⟩;rintro n _ w1 ⟨i,s1,rfl,rfl,hi,h1,e1,r1,d1,z1⟩;dsimp only;by_cases hlt:i < l.length
 ·rw [decide_eq_true (by omega)];simp only [Af];obtain ⟨y,hy⟩:∃ y,l[i]?=some y:=⟨_,List.getElem?_eq_getElem hlt⟩;have hym:=List.mem_of_getElem? hy;have htk:(l.take (i + 1)).flatMap enc=(l.take i).flatMap enc ++ enc y:=by rw [List.take_add_one,hy,List.flatMap_append];simp
  have hbb:(bs ++ (l.take i).flatMap enc ++ enc y).length≤TA:=by
   have e:l.flatMap enc=(l.take (i + 1)).flatMap enc ++ (l.drop (i + 1)).flatMap enc:=by rw [← List.flatMap_append,List.take_append_drop]
   rw [e,htk] at hb;simp only [List.length_append] at hb ⊢;omega
  have nxt:∀ (w2:World),Aa [] w1 w2→AB Pg f [Mj.v y] true [] (fun r5=>fun w'=>∃ m,m < l.length - i∧∃ (i_1:Nat) (s':Sl),(An ((i:Int) + 1),())=((i_1:Int),())∧m=l.length - i_1∧i_1≤l.length∧WR n0 w' x s' (bs ++ (l.take i_1).flatMap enc)∧WE w x s w' s'∧A1 Mj w' r l∧(∀ y∈l,D y w')∧n0≤w'.heap.size) w2:=by
   intro w2 k2;have z2:n0≤w2.heap.size:=Nat.le_trans z1 k2.size;refine hf y w2 s1 _ (h1.Ab k2) z2 ((hoD y hym).k0 h1 z1 (d1 y hym) k2) hbb _ ?_;intro s3 w3 h3 e3;refine ⟨l.length - (i + 1),by omega,i + 1,s3,by rw [AK (by omega)],rfl,by omega,?_,e1.trans ((WE.k0 k2).trans e3),ho _ _ _ _ _ h1 z1 r1 ((WE.k0 k2).trans e3),fun z hz=>hoD z hz _ _ _ _ _ h1 z1 (d1 z hz) ((WE.k0 k2).trans e3),Nat.le_trans z2 e3.kp.size⟩;rw [htk,← List.append_assoc];exact h3
  refine UP r1 hy ?_;refine UB y fun c w2 h2 n2 k2=>?_;simp only [sb,h2];exact nxt w2 k2
 ·rw [decide_eq_false (by omega)];rw [List.take_of_length_le (by omega)] at h1;exact k s1 w1 h1 e1
theorem Yj {n0:Nat} {w:World} {x:Nat} {s:Sl} {bs:List UInt8} (h:WR n0 w x s bs) (h0:n0≤w.heap.size) {r:Sl} {l:List Ow} (hr:A1 Mj w r l) (ho:Wk n0 x (fun w=>A1 Mj w r l)) {f:Value} {enc:Ow→List UInt8} {D:Ow→World→Prop} (hf:SC n0 x f Mj.v enc D) (hD:∀ y∈l,D y w) (hoD:∀ y∈l,Wk n0 x (D y)) (hN:l.length≤1000000) (hb:(bs ++ (Bv (l.length:Int) ++ l.flatMap enc)).length≤TA) {K:TR []→Pr} (k:∀ s' w',WR n0 w' x s' (bs ++ (Bv (l.length:Int) ++ l.flatMap enc))→WE w x s w' s'→K () w'):Cl Pg 253 [.pointer (some ⟨x,0,none⟩),.slice r.p r.len r.cap,f] true [] K w:=by
 have hl:r.len=l.length:=hr.len;refine K9 _ _ _ ?_;unfold Iz;dsimp only [Vi,Vp,Vs];rw [← List.append_assoc] at hb k;have e:(((r.len:Nat):Int))=(l.length:Int):=by rw [hl]
 refine Tv e ⟨by omega,by omega⟩ h h0 (CR hb) fun s1 w1 h1 e1=>?_;have z1:n0≤w1.heap.size:=Nat.le_trans h0 e1.kp.size;refine Zv h1 z1 (ho _ _ _ _ _ h h0 hr e1) ho hf (fun y hy=>hoD y hy _ _ _ _ _ h h0 (hD y hy) e1) hoD hN hb fun s2 w2 h2 e2=>?_;exact k s2 w2 h2 (e1.trans e2)
theorem AdD {n0:Nat} {w:World} {x:Nat} {s:Sl} {bs:List UInt8} (h:WR n0 w x s bs) (h0:n0≤w.heap.size) {r:Sl} {l:List Op} (hr:A1 BQ w r l) (ho:Wk n0 x (fun w=>A1 BQ w r l)) {f:Value} {enc:Op→List UInt8} {D:Op→World→Prop} (hf:SC n0 x f BQ.v enc D) (hD:∀ y∈l,D y w) (hoD:∀ y∈l,Wk n0 x (D y)) (hN:l.length≤1000000) (hb:(bs ++ l.flatMap enc).length≤TA) {K:TR []→Pr} (k:∀ s' w',WR n0 w' x s' (bs ++ l.flatMap enc)→WE w x s w' s'→K () w'):Cl Pg 300 [.pointer (some ⟨x,0,none⟩),.slice r.p r.len r.cap,f] true [] K w:=by
 have hl:r.len=l.length:=hr.len;refine N5 _ _ _ ?_;unfold MF;dsimp only [Ar,AN,Gh,Gx];refine ⟨fun n st w'=>∃ (i:Nat) (s':Sl),st=((i:Int),())∧n=l.length - i∧i≤l.length∧WR n0 w' x s' (bs ++ (l.take i).flatMap enc)∧WE w x s w' s'∧A1 BQ w' r l∧(∀ y∈l,D y w')∧n0≤w'.heap.size,⟨_,0,s,rfl,rfl,by omega,by simpa using h,WE.k0 (Aa.refl _ _),hr,hD,h0⟩,?_⟩;rintro n _ w1 ⟨i,s1,rfl,rfl,hi,h1,e1,r1,d1,z1⟩;dsimp only;by_cases hlt:i < l.length
 ·rw [decide_eq_true (by omega)];simp only [Af];obtain ⟨y,hy⟩:∃ y,l[i]?=some y:=⟨_,List.getElem?_eq_getElem hlt⟩;have hym:=List.mem_of_getElem? hy;have htk:(l.take (i + 1)).flatMap enc=(l.take i).flatMap enc ++ enc y:=by rw [List.take_add_one,hy,List.flatMap_append];simp
  have hbb:(bs ++ (l.take i).flatMap enc ++ enc y).length≤TA:=by
   have e:l.flatMap enc=(l.take (i + 1)).flatMap enc ++ (l.drop (i + 1)).flatMap enc:=by rw [← List.flatMap_append,List.take_append_drop]
   rw [e,htk] at hb;simp only [List.length_append] at hb ⊢;omega
  have nxt:∀ (w2:World),Aa [] w1 w2→AB Pg f [BQ.v y] true [] (fun r5=>fun w'=>∃ m,m < l.length - i∧∃ (i_1:Nat) (s':Sl),(An ((i:Int) + 1),())=((i_1:Int),())∧m=l.length - i_1∧i_1≤l.length∧WR n0 w' x s' (bs ++ (l.take i_1).flatMap enc)∧WE w x s w' s'∧A1 BQ w' r l∧(∀ y∈l,D y w')∧n0≤w'.heap.size) w2:=by
   intro w2 k2;have z2:n0≤w2.heap.size:=Nat.le_trans z1 k2.size;refine hf y w2 s1 _ (h1.Ab k2) z2 ((hoD y hym).k0 h1 z1 (d1 y hym) k2) hbb _ ?_;intro s3 w3 h3 e3;refine ⟨l.length - (i + 1),by omega,i + 1,s3,by rw [AK (by omega)],rfl,by omega,?_,e1.trans ((WE.k0 k2).trans e3),ho _ _ _ _ _ h1 z1 r1 ((WE.k0 k2).trans e3),fun z hz=>hoD z hz _ _ _ _ _ h1 z1 (d1 z hz) ((WE.k0 k2).trans e3),Nat.le_trans z2 e3.kp.size⟩;rw [htk,← List.append_assoc];exact h3
  refine Sn r1 hy ?_;refine Sq y fun c w2 h2 n2 k2=>?_;simp only [sb,h2];exact nxt w2 k2
 ·rw [decide_eq_false (by omega)];rw [List.take_of_length_le (by omega)] at h1;exact k s1 w1 h1 e1
theorem Adj {n0:Nat} {w:World} {x:Nat} {s:Sl} {bs:List UInt8} (h:WR n0 w x s bs) (h0:n0≤w.heap.size) {r:Sl} {l:List Op} (hr:A1 BQ w r l) (ho:Wk n0 x (fun w=>A1 BQ w r l)) {f:Value} {enc:Op→List UInt8} {D:Op→World→Prop} (hf:SC n0 x f BQ.v enc D) (hD:∀ y∈l,D y w) (hoD:∀ y∈l,Wk n0 x (D y)) (hN:l.length≤1000000) (hb:(bs ++ (Bv (l.length:Int) ++ l.flatMap enc)).length≤TA) {K:TR []→Pr} (k:∀ s' w',WR n0 w' x s' (bs ++ (Bv (l.length:Int) ++ l.flatMap enc))→WE w x s w' s'→K () w'):Cl Pg 290 [.pointer (some ⟨x,0,none⟩),.slice r.p r.len r.cap,f] true [] K w:=by
 have hl:r.len=l.length:=hr.len;refine N9 _ _ _ ?_;unfold M8;dsimp only [Vi,Vp,Vs];rw [← List.append_assoc] at hb k;have e:(((r.len:Nat):Int))=(l.length:Int):=by rw [hl]
 refine Tv e ⟨by omega,by omega⟩ h h0 (CR hb) fun s1 w1 h1 e1=>?_;have z1:n0≤w1.heap.size:=Nat.le_trans h0 e1.kp.size;refine AdD h1 z1 (ho _ _ _ _ _ h h0 hr e1) ho hf (fun y hy=>hoD y hy _ _ _ _ _ h h0 (hD y hy) e1) hoD hN hb fun s2 w2 h2 e2=>?_;exact k s2 w2 h2 (e1.trans e2)
theorem Aao {n0:Nat} {w:World} {x:Nat} {s:Sl} {bs:List UInt8} (h:WR n0 w x s bs) (h0:n0≤w.heap.size) {r:Sl} {l:List Hd} (hr:A1 Fo w r l) (ho:Wk n0 x (fun w=>A1 Fo w r l)) {f:Value} {enc:Hd→List UInt8} {D:Hd→World→Prop} (hf:SC n0 x f Fo.v enc D) (hD:∀ y∈l,D y w) (hoD:∀ y∈l,Wk n0 x (D y)) (hN:l.length≤1000000) (hb:(bs ++ l.flatMap enc).length≤TA) {K:TR []→Pr} (k:∀ s' w',WR n0 w' x s' (bs ++ l.flatMap enc)→WE w x s w' s'→K () w'):Cl Pg 289 [.pointer (some ⟨x,0,none⟩),.slice r.p r.len r.cap,f] true [] K w:=by
 have hl:r.len=l.length:=hr.len;refine Ma _ _ _ ?_;unfold JH;dsimp only [Ll,Lu,Ts,Tu,Vs,Vu];refine ⟨fun n st w'=>∃ (i:Nat) (s':Sl),st=((i:Int),())∧n=l.length - i∧i≤l.length∧WR n0 w' x s' (bs ++ (l.take i).flatMap enc)∧WE w x s w' s'∧A1 Fo w' r l∧(∀ y∈l,D y w')∧n0≤w'.heap.size,⟨_,0,s,rfl,rfl,by omega,by simpa using h,WE.k0 (Aa.refl _ _),hr,hD,h0⟩,?_⟩;rintro n _ w1 ⟨i,s1,rfl,rfl,hi,h1,e1,r1,d1,z1⟩;dsimp only;by_cases hlt:i < l.length
 ·rw [decide_eq_true (by omega)];simp only [Af];obtain ⟨y,hy⟩:∃ y,l[i]?=some y:=⟨_,List.getElem?_eq_getElem hlt⟩;have hym:=List.mem_of_getElem? hy;have htk:(l.take (i + 1)).flatMap enc=(l.take i).flatMap enc ++ enc y:=by rw [List.take_add_one,hy,List.flatMap_append];simp
  have hbb:(bs ++ (l.take i).flatMap enc ++ enc y).length≤TA:=by
   have e:l.flatMap enc=(l.take (i + 1)).flatMap enc ++ (l.drop (i + 1)).flatMap enc:=by rw [← List.flatMap_append,List.take_append_drop]
   rw [e,htk] at hb;simp only [List.length_append] at hb ⊢;omega
  have nxt:∀ (w2:World),Aa [] w1 w2→AB Pg f [Fo.v y] true [] (fun r5=>fun w'=>∃ m,m < l.length - i∧∃ (i_1:Nat) (s':Sl),(An ((i:Int) + 1),())=((i_1:Int),())∧m=l.length - i_1∧i_1≤l.length∧WR n0 w' x s' (bs ++ (l.take i_1).flatMap enc)∧WE w x s w' s'∧A1 Fo w' r l∧(∀ y∈l,D y w')∧n0≤w'.heap.size) w2:=by
   intro w2 k2;have z2:n0≤w2.heap.size:=Nat.le_trans z1 k2.size;refine hf y w2 s1 _ (h1.Ab k2) z2 ((hoD y hym).k0 h1 z1 (d1 y hym) k2) hbb _ ?_;intro s3 w3 h3 e3;refine ⟨l.length - (i + 1),by omega,i + 1,s3,by rw [AK (by omega)],rfl,by omega,?_,e1.trans ((WE.k0 k2).trans e3),ho _ _ _ _ _ h1 z1 r1 ((WE.k0 k2).trans e3),fun z hz=>hoD z hz _ _ _ _ _ h1 z1 (d1 z hz) ((WE.k0 k2).trans e3),Nat.le_trans z2 e3.kp.size⟩;rw [htk,← List.append_assoc];exact h3
  refine I0 r1 hy ?_;refine Lz y fun c w2 h2 n2 k2=>?_;simp only [sb,h2];exact nxt w2 k2
 ·rw [decide_eq_false (by omega)];rw [List.take_of_length_le (by omega)] at h1;exact k s1 w1 h1 e1
theorem ZC {n0:Nat} {w:World} {x:Nat} {s:Sl} {bs:List UInt8} (h:WR n0 w x s bs) (h0:n0≤w.heap.size) {r:Sl} {l:List Hd} (hr:A1 Fo w r l) (ho:Wk n0 x (fun w=>A1 Fo w r l)) {f:Value} {enc:Hd→List UInt8} {D:Hd→World→Prop} (hf:SC n0 x f Fo.v enc D) (hD:∀ y∈l,D y w) (hoD:∀ y∈l,Wk n0 x (D y)) (hN:l.length≤1000000) (hb:(bs ++ (Bv (l.length:Int) ++ l.flatMap enc)).length≤TA) {K:TR []→Pr} (k:∀ s' w',WR n0 w' x s' (bs ++ (Bv (l.length:Int) ++ l.flatMap enc))→WE w x s w' s'→K () w'):Cl Pg 255 [.pointer (some ⟨x,0,none⟩),.slice r.p r.len r.cap,f] true [] K w:=by
 have hl:r.len=l.length:=hr.len;refine LX _ _ _ ?_;unfold Ks;dsimp only [Vi,Vp,Vs];rw [← List.append_assoc] at hb k;have e:(((r.len:Nat):Int))=(l.length:Int):=by rw [hl]
 refine Tv e ⟨by omega,by omega⟩ h h0 (CR hb) fun s1 w1 h1 e1=>?_;have z1:n0≤w1.heap.size:=Nat.le_trans h0 e1.kp.size;refine Aao h1 z1 (ho _ _ _ _ _ h h0 hr e1) ho hf (fun y hy=>hoD y hy _ _ _ _ _ h h0 (hD y hy) e1) hoD hN hb fun s2 w2 h2 e2=>?_;exact k s2 w2 h2 (e1.trans e2)
theorem Tl {P:Program} {g:FuncId} (hg:SM P g=true) {c:Value} {args:List Value} {tup:Bool} {rs:List RK} {K:TR rs→Pr} {w:World} (h:Cl P g (c :: args) tup rs K w):AB P (.func (.func g) #[c] #[]) args tup rs K w:=by
 unfold AB;simp only [hg];simpa using h
def WT (o:Ow):List UInt8:=Cd o.lo ++ Bv o.BO
def Uh (o:Op):List UInt8:=Bv o.kind ++ Cd o.key ++ Cd o.value ++ Cd o.lo ++ Cd o.hi ++ Bv o.AD
def AbD (h:Hd):List UInt8:=Bv h.Ah ++ (Bv (h.ops.length:Int) ++ h.ops.flatMap Uh)
def DR (n:Int):Prop:=0≤n∧n < 18446744073709551616
def AhD (o:Ow):Prop:=DR o.BO∧o.lo.size≤1000000
def AhX (o:Op):Prop:=DR o.kind∧DR o.AD∧o.key.size≤1000000∧o.value.size≤1000000∧o.lo.size≤1000000∧o.hi.size≤1000000
theorem TN {n0 x:Nat} {p:Prop}:Wk n0 x (fun _=>p):=fun _ _ _ _ _ _ _ h _=>h
theorem AbJ {n0 x:Nat}:SC n0 x (.func (.func 258) #[.pointer (some ⟨x,0,none⟩)] #[]) (Value.int .u64) Bv (fun y _=>DR y):=by
 intro y w s bs h h0 hD hb K hK;refine Tl (by kernel_rfl) ?_;exact Abf y hD.2 h h0 hb hK
theorem Ac5 {n0 x:Nat}:SC n0 x (.func (.func 254) #[.pointer (some ⟨x,0,none⟩)] #[]) Mj.v WT (fun y _=>AhD y):=by
 intro y w s bs h h0 hD hb K hK;refine Tl (by kernel_rfl) ?_;refine IT _ _ _ ?_;unfold Gj;dsimp only [Li,Ls,Vi,Vp,Vt];refine Ad fun a w1 h1 n1 k1=>?_;have g1:=h.Ab k1;have z1:=Nat.le_trans h0 k1.size;obtain ⟨na,ns⟩:=h.new n1;unfold WT at hb hK;rw [← List.append_assoc] at hb hK;simp only [sb,h1];refine Tj _ hD.2 g1 z1 (CR hb) fun s2 w2 g2 e2=>?_;obtain ⟨h2,_⟩:=e2.at g1 h1 na ns;simp only [sb,h2];refine Yx _ hD.1 g2 (Nat.le_trans z1 e2.kp.size) hb fun s3 w3 g3 e3=>?_;exact hK s3 w3 g3 ((WE.k0 k1).trans (e2.trans e3))
theorem Aek (lo hi:ByteArray) (hl:lo.size≤1000000) (hh:hi.size≤1000000) {n0:Nat} {w:World} {x:Nat} {s:Sl} {bs:List UInt8} (h:WR n0 w x s bs) (h0:n0≤w.heap.size) (hb:(bs ++ (Cd lo ++ Cd hi)).length≤TA) {K:TR []→Pr} (k:∀ s' w',WR n0 w' x s' (bs ++ (Cd lo ++ Cd hi))→WE w x s w' s'→K () w'):Cl Pg 259 [.pointer (some ⟨x,0,none⟩),.agg #[.string lo,.string hi]] true [] K w:=by
 refine Kr _ _ _ ?_;unfold Ha;dsimp only [Ls,Vp,Vt];refine Ad fun a w1 h1 n1 k1=>?_;have g1:=h.Ab k1;have z1:=Nat.le_trans h0 k1.size;obtain ⟨na,ns⟩:=h.new n1;rw [← List.append_assoc] at hb k;simp only [sb,h1];refine Tj _ hl g1 z1 (CR hb) fun s2 w2 g2 e2=>?_;obtain ⟨h2,_⟩:=e2.at g1 h1 na ns;simp only [sb,h2];refine Tj _ hh g2 (Nat.le_trans z1 e2.kp.size) hb fun s3 w3 g3 e3=>?_;exact k s3 w3 g3 ((WE.k0 k1).trans (e2.trans e3))
set_option maxHeartbeats 1000000 in
theorem Aig {n0 x:Nat}:SC n0 x (.func (.func 291) #[.pointer (some ⟨x,0,none⟩)] #[]) BQ.v Uh (fun y _=>AhX y):=by
 intro y w s bs h h0 hD hb K hK;obtain ⟨d1,d2,d3,d4,d5,d6⟩:=hD;refine Tl (by kernel_rfl) ?_;refine Ml _ _ _ _ _ _ _ ?_;unfold JR;dsimp only [Ar,As4,Li,Ls,Vi,Vp,Vt];refine Ad fun a w1 h1 n1 k1=>?_;have g1:=h.Ab k1;have z1:=Nat.le_trans h0 k1.size;obtain ⟨na,ns⟩:=h.new n1;unfold Uh at hb hK;simp only [← List.append_assoc] at hb hK;have b5:=CR hb;have b4:=CR b5;have b3:=CR b4;have b2:=CR b3;have b1:=CR b2;simp only [sb,h1];refine Yx _ d1 g1 z1 b1 fun s2 w2 g2 e2=>?_;obtain ⟨h2,ns2⟩:=e2.at g1 h1 na ns;have z2:=Nat.le_trans z1 e2.kp.size;simp only [sb,h2];refine Ad fun c w3 h3 n3 k3=>?_;have g3:=g2.Ab k3;have z3:=Nat.le_trans z2 k3.size;obtain ⟨nc,nsc⟩:=g2.new n3;have h23:=k3.Aw h2;have at4:∀ (w':World),w'.heap[c]?=some (.cells #[.string y.key,.string y.value,.string y.lo,.string y.hi] 9 (0,0))→∀ (i:Nat) (t:ByteArray),[y.key,y.value,y.lo,y.hi][i]?=some t→∀ {K:ByteArray→Pr},K t w'→Ix ⟨some ⟨c,0,none⟩,4,4⟩ (i:Int) 1 (fun a=>BU a K) w':=by
  intro w' hw i t ht K hK;have hi:i < 4:=(List.getElem?_eq_some_iff.1 ht).1;refine Aai (b:=c) (o:=0) rfl hi 1 ?_;rw [Nat.zero_add,Nat.mul_one];refine DO (k:=.s) (x:=t) ?_ hK;rw [Ci,hw];have:i=0∨i=1∨i=2∨i=3:=by omega
  rcases this with rfl | rfl | rfl | rfl <;> (simp at ht;subst ht;rfl)
 have pre:∀ i≤4,(bs ++ Bv y.kind ++ ([y.key,y.value,y.lo,y.hi].take i).flatMap Cd).length≤TA:=by
  intro i hi;have:i=0∨i=1∨i=2∨i=3∨i=4:=by omega
  simp only [List.length_append] at *;rcases this with rfl | rfl | rfl | rfl | rfl <;> simp <;> omega
 refine ⟨fun m st w'=>∃ (i:Nat) (s':Sl),st=((i:Int),())∧m=4 - i∧i≤4∧WR n0 w' x s' (bs ++ Bv y.kind ++ ([y.key,y.value,y.lo,y.hi].take i).flatMap Cd)∧WE w3 x s2 w' s',⟨_,0,s2,rfl,rfl,by omega,by simpa using g3,WE.k0 (Aa.refl _ _)⟩,?_⟩;rintro m _ w4 ⟨i,s4,rfl,rfl,hi,g4,e4⟩;obtain ⟨hc4,nsc4⟩:=e4.at g3 h3 nc nsc;obtain ⟨h4,ns4⟩:=e4.at g3 h23 na ns2;have z4:=Nat.le_trans z3 e4.kp.size;dsimp only;by_cases hlt:i < 4
 ·rw [decide_eq_true (by omega)];simp only [Af];obtain ⟨t,ht⟩:∃ t,[y.key,y.value,y.lo,y.hi][i]?=some t:=⟨_,List.getElem?_eq_getElem hlt⟩;have htk:([y.key,y.value,y.lo,y.hi].take (i + 1)).flatMap Cd=([y.key,y.value,y.lo,y.hi].take i).flatMap Cd ++ Cd t:=by rw [List.take_add_one,ht,List.flatMap_append];simp
  have hts:t.size≤1000000:=by
   have hm:=List.mem_of_getElem? ht;simp only [List.mem_cons,List.not_mem_nil,or_false] at hm;rcases hm with rfl | rfl | rfl | rfl <;> assumption
  have hp:=pre (i + 1) (by omega);rw [htk,← List.append_assoc] at hp;refine at4 w4 hc4 i t ht ?_;refine Tj t hts g4 z4 hp fun s5 w5 g5 e5=>?_;refine ⟨4 - (i + 1),by omega,i + 1,s5,by rw [AK (by omega)],rfl,by omega,?_,e4.trans e5⟩;rw [htk,← List.append_assoc];exact g5
 ·rw [decide_eq_false (by omega)];simp only [sb,h4];rw [List.take_of_length_le (by simp;omega)] at g4;have g4:WR n0 w4 x s4 (bs ++ Bv y.kind ++ Cd y.key ++ Cd y.value ++ Cd y.lo ++ Cd y.hi):=by simpa using g4
  refine Yx _ d2 g4 z4 hb fun s5 w5 g5 e5=>?_;exact hK s5 w5 g5 ((WE.k0 k1).trans (e2.trans ((WE.k0 k3).trans (e4.trans e5))))
theorem Af7 {n0 x:Nat} (hx:n0≤x):SC n0 x (.func (.func 256) #[.pointer (some ⟨x,0,none⟩)] #[]) Fo.v AbD (fun y w=>DR y.Ah∧(∀ o∈y.ops,AhX o)∧y.ops.length≤100000∧A1 BQ w y.so y.ops∧∀ b∈rb y.so,b < n0):=by
 intro y w s bs h h0 hD hb K hK;obtain ⟨d1,d2,d3,d4,d5⟩:=hD;refine Tl (by kernel_rfl) ?_;refine JU _ _ y.so ?_;unfold HI;dsimp only [Ll,Lu,Vp,Vs,Vu];refine Ad fun a w1 h1 n1 k1=>?_;have g1:=h.Ab k1;have z1:=Nat.le_trans h0 k1.size;obtain ⟨na,ns⟩:=h.new n1;unfold AbD at hb hK;rw [← List.append_assoc] at hb hK;simp only [sb,h1];refine Abf _ d1.2 g1 z1 (CR hb) fun s2 w2 g2 e2=>?_;obtain ⟨h2,_⟩:=e2.at g1 h1 na ns;have z2:=Nat.le_trans z1 e2.kp.size;simp only [sb,h2];have off:=Np (ρ:=BQ) (l:=y.ops) hx d5;refine Adj g2 z2 (off _ _ _ _ _ g1 z1 (d4.Ab k1) e2) off Aig d2 (fun o ho=>TN) (by omega) hb fun s3 w3 g3 e3=>?_;exact hK s3 w3 g3 ((WE.k0 k1).trans (e2.trans e3))
theorem XH (l:List Int):l.flatMap HL.c=l.map (Value.int .u64):=by
 induction l with
 | nil=>rfl
 | cons a l ih=>exact congrArg (Value.int .u64 a :: ·) ih
theorem AdM {w:World} {c:Nat} {t:TypeId} {fr:Nat × Nat} {l:List Int} (h:w.heap[c]?=some (.cells (l.map (Value.int .u64)).toArray t fr)):A1 HL w ⟨some ⟨c,0,none⟩,l.length,l.length⟩ l:=by
 refine ⟨⟨by rw [AP HL.len],fun j v hj=>⟨⟨c,0,none⟩,rfl,?_⟩⟩,Nat.le_refl _⟩;rw [Aif,Ci,h];rw [XH] at hj;show (l.map (Value.int .u64)).toArray[j]?=some v;rw [List.getElem?_toArray];exact hj
theorem Abl {n0:Nat} {w:World} {x:Nat} {s:Sl} {bs:List UInt8} (h:WR n0 w x s bs) (h0:n0≤w.heap.size) {l:List Int} {c:Nat} {t:TypeId} (hc:w.heap[c]?=some (.cells (l.map (Value.int .u64)).toArray t (0,0))) (nc:c ≠ x) (nsc:c ∉ Ai s) {n:Nat} (hn:n=l.length) (hD:∀ y∈l,DR y) (hN:l.length≤1000000) (hb:(bs ++ l.flatMap Bv).length≤TA) {K:TR []→Pr} (k:∀ s' w',WR n0 w' x s' (bs ++ l.flatMap Bv)→WE w x s w' s'→K () w'):Cl Pg 252 [.pointer (some ⟨x,0,none⟩),.slice (some ⟨c,0,none⟩) n n] true [] K w:=by
 subst hn;refine Js _ ⟨some ⟨c,0,none⟩,l.length,l.length⟩ ?_;unfold Hu;dsimp only [Vp,Vs];refine Eo _ ⟨some ⟨c,0,none⟩,l.length,l.length⟩ _ ?_;unfold Eb;dsimp only [Vu];refine ⟨fun n st w'=>∃ (i:Nat) (s':Sl),st=((i:Int),())∧n=l.length - i∧i≤l.length∧WR n0 w' x s' (bs ++ (l.take i).flatMap Bv)∧WE w x s w' s',⟨_,0,s,rfl,rfl,by omega,by simpa using h,WE.k0 (Aa.refl _ _)⟩,?_⟩;rintro n _ w1 ⟨i,s1,rfl,rfl,hi,h1,e1⟩;obtain ⟨hc1,_⟩:=e1.at h hc nc nsc;have z1:=Nat.le_trans h0 e1.kp.size;dsimp only;by_cases hlt:i < l.length
 ·rw [decide_eq_true (by omega)];simp only [Af];obtain ⟨y,hy⟩:∃ y,l[i]?=some y:=⟨_,List.getElem?_eq_getElem hlt⟩;have hym:=List.mem_of_getElem? hy;have htk:(l.take (i + 1)).flatMap Bv=(l.take i).flatMap Bv ++ Bv y:=by rw [List.take_add_one,hy,List.flatMap_append];simp
  have hbb:(bs ++ (l.take i).flatMap Bv ++ Bv y).length≤TA:=by
   have e:l.flatMap Bv=(l.take (i + 1)).flatMap Bv ++ (l.drop (i + 1)).flatMap Bv:=by rw [← List.flatMap_append,List.take_append_drop]
   rw [e,htk] at hb;simp only [List.length_append] at hb ⊢;omega
  refine ldn (AdM hc1) hy ?_;refine AbJ y w1 s1 _ h1 z1 (hD y hym) hbb _ ?_;intro s3 w3 h3 e3;refine ⟨l.length - (i + 1),by omega,i + 1,s3,by rw [AK (by omega)],rfl,by omega,?_,e1.trans e3⟩;rw [htk,← List.append_assoc];exact h3
 ·rw [decide_eq_false (by omega)];rw [List.take_of_length_le (by omega)] at h1;exact k s1 w1 h1 e1
open Go Go.Sx
def Y2 (h:PH):List UInt8:=Bv h.Ah ++ (Bv (h.ops.length:Int) ++ h.ops.flatMap Uh)
def AcB (c:Sc) (Ac:List Ow) (held:List PH) (fin:List Int):List UInt8:=
 [83] ++ [c.id,c.Au,c.CZ,c.Ao,c.move].flatMap Bv ++ (Bv (Ac.length:Int) ++ Ac.flatMap WT) ++ (Bv (held.length:Int) ++ held.flatMap Y2) ++ (Bv (fin.length:Int) ++ fin.flatMap Bv) ++ [c.low,c.frozen].flatMap Bv ++ (Cd c.Qk ++ Cd c.MS) ++ [c.AJ,c.CD,c.Bo].flatMap Bv ++ (Cd c.Ph ++ Cd c.Qq)
structure ScR (c:Sc):Prop where
 Au:DR c.Au
 CZ:DR c.CZ
 Ao:DR c.Ao
 move:DR c.move
 low:DR c.low
 frozen:DR c.frozen
 AJ:DR c.AJ
 CD:DR c.CD
 Bo:DR c.Bo
theorem Wl:∀ {l:List Ow} {p:ByteArray},Qd p l=true→∀ o∈l,AhD o∧o.lo.size≤12
 | x :: l,p,h,o,ho=>by
  rw [Qd] at h;simp only [Bool.and_eq_true,decide_eq_true_iff] at h;obtain ⟨⟨⟨h1,h2⟩,h3,h4⟩,h5⟩:=h;rcases List.mem_cons.1 ho with rfl | ho
  ·have:=(Pc h3).2;exact ⟨⟨⟨by omega,by omega⟩,by omega⟩,this⟩
  ·exact Wl h5 o ho
theorem WX {l:List Ow} (h:Be l=true):(∀ o∈l,AhD o∧o.lo.size≤12)∧l.length≤6:=by
 cases l with
 | nil=>cases h
 | cons x l=>
  rw [Be] at h;simp only [Bool.and_eq_true,decide_eq_true_iff] at h;obtain ⟨⟨⟨⟨h1,h2⟩,h3⟩,h4⟩,h5⟩:=h;refine ⟨fun o ho=>?_,by simp;omega⟩;rcases List.mem_cons.1 ho with rfl | ho
  ·rw [seq_eq,decide_eq_true_iff] at h1;have:o.lo.size=0:=by rw [h1];rfl
   exact ⟨⟨⟨by omega,by omega⟩,by omega⟩,by omega⟩
  ·exact Wl h4 o ho
theorem Aa3 {a b:ByteArray} (h:Da a b=true):a.size≤12∧b.size≤12:=QW h
theorem AaJ {a:ByteArray} (h:seq a (BA [])=true):a.size=0:=by
 rw [seq_eq,decide_eq_true_iff] at h;rw [h];rfl
theorem Afh {o:Op} (h:ER o=0):AhX o∧o.key.size≤12∧o.value.size≤16∧o.lo.size≤12∧o.hi.size≤12:=by
 unfold ER at h;split at h
 ·cases h
 rename_i h1;split at h
 ·cases h
 rename_i h2;split at h
 ·cases h
 rename_i h3;split at h
 ·cases h
 rename_i h4;split at h
 ·cases h
 rename_i h5;simp only [Bool.or_eq_true,Bool.and_eq_true,Bool.not_eq_true',decide_eq_true_iff,not_or,not_and,Bool.not_eq_false,Bool.not_eq_true,bne_iff_ne,ne_eq,Decidable.not_not] at h1 h2 h3 h4 h5;obtain ⟨a1,a2,a3,a4,a5⟩:=h1;have hk:=PZ a1;have kr:DR o.kind:=by rcases hk with h | h | h | h | h <;> exact ⟨by omega,by omega⟩
 have ks:o.key.size≤12:=by
  cases hf:Fx o.kind with
  | true=>exact (Pc (h2 hf)).2
  | false=>have:=AaJ (a2 hf);omega
 have rs:o.lo.size≤12∧o.hi.size≤12:=by
  cases hf:FH o.kind with
  | true=>exact Aa3 (h4 hf)
  | false=>
   have:=a4 hf;exact ⟨by have:=AaJ this.1;omega,by have:=AaJ this.2.1;omega⟩
 have ms:DR o.AD:=by
  cases hf:FD o.kind with
  | true=>have:=h5 hf;exact ⟨by omega,by omega⟩
  | false=>have:=a5 hf;exact ⟨by omega,by omega⟩
 exact ⟨⟨kr,ms,by omega,by omega,by omega,by omega⟩,ks,by omega,rs.1,rs.2⟩
theorem ID {α:Type} {f:α→List UInt8} {m:Nat}:∀ {l:List α},(∀ x∈l,(f x).length≤m)→(l.flatMap f).length≤l.length * m
 | [],_=>by simp
 | a :: l,h=>by
  rw [List.flatMap_cons,List.length_append,List.length_cons,Nat.succ_mul];have h1:=h a List.mem_cons_self;have h2:=ID (l:=l) fun x hx=>h x (List.mem_cons_of_mem _ hx);omega
theorem Cm {n:Int} (h:DR n):(Bv n).length≤10:=Qp h.2
theorem EB (t:ByteArray) (h:t.size≤1000000):(Cd t).length≤10 + t.size:=by
 unfold Cd;rw [List.length_append];have:=Qp (n:=(t.size:Int)) (by omega);have:t.data.toList.length=t.size:=by simp
 omega
theorem AdE {o:Op} (h:ER o=0):(Uh o).length≤200:=by
 obtain ⟨⟨a,b,_⟩,c,d,e,f⟩:=Afh h;have:=Cm a;have:=Cm b;have:=EB o.key (by omega);have:=EB o.value (by omega);have:=EB o.lo (by omega);have:=EB o.hi (by omega);unfold Uh;simp only [List.length_append];omega
theorem Ahf {n:Nat} (h:n≤1000000):DR (n:Int):=⟨by omega,by omega⟩
structure ShR (c:Sc) (Ac:List Ow) (held:List PH) (fin:List Int):Prop where
 c:ScR c
 Ah:∀ h∈held,DR h.Ah
 fin:∀ n∈fin,DR n
theorem ZR {c:Sc} {Ac:List Ow} {held:List PH} {fin:List Int} (h:OA c Ac held fin=true):(1≤c.id∧c.id≤4)∧Be Ac=true∧held.length≤6∧held.length + fin.length≤64∧(c.Ph.size≤12∧c.Qq.size≤12)∧(c.Qk.size≤12∧c.MS.size≤12)∧∀ x∈held,A9 x.ops=0∧x.ops.length≤24∧x.ops.length ≠ 0∧x.Ah ∉ fin:=by
 unfold OA at h;simp only [Bool.and_eq_true,Bool.not_eq_true'] at h;obtain ⟨h1,h2,h3,h4⟩:=h;unfold Xe at h1;simp only [Bool.or_eq_false_iff,decide_eq_false_iff_not,Bool.not_eq_false'] at h1;obtain ⟨a1,a2,a3,a4,a5,a6,a7⟩:=h1;refine ⟨⟨by omega,by omega⟩,a3,by omega,by omega,Aa3 a6,Aa3 a7,fun x hx=>?_⟩;unfold W0 at h4;simp only [Bool.and_eq_true,Bool.not_eq_true'] at h4;have hb:=List.any_eq_false.1 h4.1 x hx;unfold Y1 at hb;simp only [Bool.or_eq_true,decide_eq_true_iff,not_or,ne_eq,Decidable.not_not,List.contains_iff_mem] at hb;obtain ⟨b1,b2,b3,b4⟩:=hb;exact ⟨b4,by omega,b1,b3⟩
theorem Aee {x:PH} (ht:DR x.Ah) (ho:A9 x.ops=0) (hl:x.ops.length≤24):(Y2 x).length≤5000:=by
 unfold Y2;have h1:=Cm ht;have h2:=Cm (Ahf (n:=x.ops.length) (by omega));rw [Bu] at ho;have h3:=ID (f:=Uh) (m:=200) fun o hm=>AdE (ho o hm);simp only [List.length_append];have:x.ops.length * 200≤24 * 200:=Nat.mul_le_mul_right _ hl;omega
theorem Ag3 {c:Sc} {Ac:List Ow} {held:List PH} {fin:List Int} (hr:ShR c Ac held fin) (h:OA c Ac held fin=true):(AcB c Ac held fin).length≤100000:=by
 obtain ⟨a1,a2,a3,a4,a5,a6,a7⟩:=ZR h;obtain ⟨o1,o2⟩:=WX a2;have l1:=ID (f:=Bv) (m:=10) (l:=[c.id,c.Au,c.CZ,c.Ao,c.move]) (by
  intro x hx;simp only [List.mem_cons,List.not_mem_nil,or_false] at hx;rcases hx with rfl | rfl | rfl | rfl | rfl
  ·exact Qp (by omega)
  ·exact Cm hr.c.Au
  ·exact Cm hr.c.CZ
  ·exact Cm hr.c.Ao
  ·exact Cm hr.c.move)
 have l2:=ID (f:=Bv) (m:=10) (l:=[c.low,c.frozen]) (by
  intro x hx;simp only [List.mem_cons,List.not_mem_nil,or_false] at hx;rcases hx with rfl | rfl
  ·exact Cm hr.c.low
  ·exact Cm hr.c.frozen)
 have l3:=ID (f:=Bv) (m:=10) (l:=[c.AJ,c.CD,c.Bo]) (by
  intro x hx;simp only [List.mem_cons,List.not_mem_nil,or_false] at hx;rcases hx with rfl | rfl | rfl
  ·exact Cm hr.c.AJ
  ·exact Cm hr.c.CD
  ·exact Cm hr.c.Bo)
 have l4:=ID (f:=WT) (m:=40) (l:=Ac) (by
  intro x hx;obtain ⟨⟨h1,_⟩,h2⟩:=o1 x hx;have:=Cm h1;have:=EB x.lo (by omega);unfold WT;rw [List.length_append];omega)
 have l5:=ID (f:=Y2) (m:=5000) (l:=held) fun x hx=>Aee (hr.Ah x hx) (a7 x hx).1 (a7 x hx).2.1;have l6:=ID (f:=Bv) (m:=10) (l:=fin) fun x hx=>Cm (hr.fin x hx);have m4:Ac.length * 40≤6 * 40:=Nat.mul_le_mul_right _ o2;have m5:held.length * 5000≤6 * 5000:=Nat.mul_le_mul_right _ a3;have m6:fin.length * 10≤64 * 10:=Nat.mul_le_mul_right _ (by omega);have n1:=Cm (Ahf (n:=Ac.length) (by omega));have n2:=Cm (Ahf (n:=held.length) (by omega));have n3:=Cm (Ahf (n:=fin.length) (by omega));have t1:=EB c.Qk (by omega);have t2:=EB c.MS (by omega);have t3:=EB c.Ph (by omega);have t4:=EB c.Qq (by omega);unfold AcB;simp only [List.length_append,List.length_cons,List.length_nil] at *;omega
theorem Adg (l:List Hd):l.flatMap AbD=(l.map Hd.p).flatMap Y2:=by
 rw [List.flatMap_map];rfl
theorem AhC {w:World} {b:Nat} {v:Value} {t:TypeId} (h:w.heap[b]?=some (.cells #[v] t (0,0))):AE w ⟨some ⟨b,0,none⟩,1,1⟩ 1 [v]:=
 ⟨rfl,Nat.le_refl _,.inr ⟨b,0,_,_,_,rfl,h,by simp,fun j _=>by rw [Nat.zero_add];simp,by simp⟩⟩
set_option maxHeartbeats 4000000 in
theorem Ji {w:World} {d:Sd} (h:YP d w) (hN:XU d) (hr:ShR d.c d.Ac (d.held.map Hd.p) d.fin) {K:TR [.sc .sl,.sc (.i .i64)]→Pr}
  (k1:OA d.c d.Ac (d.held.map Hd.p) d.fin=true→∀ r w',AE w' r 1 (cB (AcB d.c d.Ac (d.held.map Hd.p) d.fin))→(∀ b∈Ai r,w.heap.size≤b)→Aa [] w w'→K (r,0,()) w')
  (k2:OA d.c d.Ac (d.held.map Hd.p) d.fin=false→∀ w',Aa [] w w'→K (⟨none,0,0⟩,1,()) w'):Cl Pg 187 [.agg (shA d)] true [.sc .sl,.sc (.i .i64)] K w:=by
 refine Jy _ _ _ _ _ d.so d.sh d.sf _ _ _ _ _ _ _ _ _ ?_;unfold Hh;dsimp only [Al,Au3,Akq,Az,Ll,Ls,Lu,Lu3,Vp,Vs,Vt,Vu];refine Ad fun a w1 h1 n1 q1=>?_;simp only [sb,h1];refine Lt (d:=d) (h.Ab q1) hN fun w2 q2=>?_;have q02:=Aj q1 q2;have h2:=q2.Aw h1;cases hok:OA d.c d.Ac (d.held.map Hd.p) d.fin with
 | false=>exact k2 hok w2 q02
 | true=>
  have k1:=k1 hok;obtain ⟨a1,a2,a3,a4,a5,a6,a7⟩:=ZR hok;obtain ⟨o1,o2⟩:=WX a2;have hbig:=Ag3 hr hok;have hlen:(d.held.map Hd.p).length=d.held.length:=List.length_map _;simp only [if_true,show ((0:Int) != 0)=false from rfl,Ae];refine Ad fun b w3 h3 n3 q3=>?_;refine Ad fun x w4 h4 n4 q4=>?_;have n0:w.heap.size≤w2.heap.size:=q02.size;have r4:WR w.heap.size w4 x ⟨some ⟨b,0,none⟩,1,1⟩ [83]:=by
   refine ⟨h4,AhC (q4.Aw h3),?_,by have:=q3.size;omega,?_⟩
   ·intro hb;simp [Ai,OT] at hb;have:=Av h3;omega
   ·intro c hc;simp [Ai,OT] at hc;omega
  have z4:w.heap.size≤w4.heap.size:=by have:=q3.size;have:=q4.size;omega
  have q04:=Aj q02 (Aj q3 q4);have a4':=(Aj q3 q4).Aw h2;have lta:a < w2.heap.size:=Av h2;have nx:a ≠ x:=by have:=q3.size;omega
  have ns:a ∉ Ai (⟨some ⟨b,0,none⟩,1,1⟩:Sl):=fun hb=>by simp [Ai,OT] at hb;omega
  have off_ow:=Np (ρ:=Mj) (x:=x) (l:=d.Ac) r4.nx h.ow.lt;have off_he:=Np (ρ:=Fo) (x:=x) (l:=d.held) r4.nx h.he.lt;have off_fi:=Np (ρ:=HL) (x:=x) (l:=d.fin) r4.nx h.fi.lt;unfold AcB at hbig k1;rw [hlen,← Adg] at hbig k1;have b9:([83] ++ [d.c.id,d.c.Au,d.c.CZ,d.c.Ao,d.c.move].flatMap Bv ++ (Bv (d.Ac.length:Int) ++ d.Ac.flatMap WT) ++ (Bv (d.held.length:Int) ++ d.held.flatMap AbD) ++ (Bv (d.fin.length:Int) ++ d.fin.flatMap Bv) ++ [d.c.low,d.c.frozen].flatMap Bv ++ (Cd d.c.Qk ++ Cd d.c.MS) ++ [d.c.AJ,d.c.CD,d.c.Bo].flatMap Bv ++ (Cd d.c.Ph ++ Cd d.c.Qq)).length≤TA:=Nat.le_trans hbig (by decide);have b8:=CR b9;have b7:=CR b8;have b6:=CR b7;have b5:=CR b6;have b4:=CR b5;have b3:=CR b4;have b2:=CR b3;clear hbig;have wid:IntKind.u64.wrap d.c.id=d.c.id:=by
   have:=B1 (n:=d.c.id.toNat) (by omega);rw [Int.toNat_of_nonneg (by omega)] at this;exact this
  simp only [sb,a4',wid];refine Ad fun c5 w5 h5 n5 q5=>?_;have r5:=r4.Ab q5;obtain ⟨nc5,ns5⟩:=r4.new n5;refine Abl (l:=[d.c.id,d.c.Au,d.c.CZ,d.c.Ao,d.c.move]) r5 (Nat.le_trans z4 q5.size) h5 nc5 ns5 rfl ?_ (by simp) b2 ?_
  ·intro y hy;simp only [List.mem_cons,List.not_mem_nil,or_false] at hy;rcases hy with rfl | rfl | rfl | rfl | rfl
   ·exact ⟨by omega,by omega⟩
   ·exact hr.c.Au
   ·exact hr.c.CZ
   ·exact hr.c.Ao
   ·exact hr.c.move
  intro s6 w6 r6 e6';have e6:WE w4 x _ w6 s6:=(WE.k0 q5).trans e6';have z6:=Nat.le_trans z4 e6.kp.size;obtain ⟨a6',_⟩:=e6.at r4 a4' nx ns;simp only [sb,a6'];refine Yj r6 z6 (off_ow _ _ _ _ _ r4 z4 (h.ow.Ab q04) e6) off_ow Ac5 (fun y hy=>(o1 y hy).1) (fun y hy=>TN) (by omega) b3 ?_;intro s7 w7 r7 e7';have e7:=e6.trans e7';have z7:=Nat.le_trans z4 e7.kp.size;obtain ⟨a7',_⟩:=e7.at r4 a4' nx ns;simp only [sb,a7'];refine ZC r7 z7 (off_he _ _ _ _ _ r4 z4 (h.he.Ab q04) e7) off_he (Af7 r4.nx) (fun y hy=>?_) (fun y hy w w' s s' bs h h0 hD e=>⟨hD.1,hD.2.1,hD.2.2.1,Np (ρ:=BQ) r4.nx hD.2.2.2.2 _ _ _ _ _ h h0 hD.2.2.2.1 e,hD.2.2.2.2⟩) (by omega) b4 ?_
  ·have hy':y.p∈d.held.map Hd.p:=List.mem_map.2 ⟨y,hy,rfl⟩;obtain ⟨c1,c2,_⟩:=a7 y.p hy';have hlt:=(h.hd y hy).lt;rw [Bu] at c1;exact ⟨hr.Ah y.p hy',fun o ho=>(Afh (c1 o ho)).1,Nat.le_trans c2 (by omega),Np (ρ:=BQ) r4.nx hlt _ _ _ _ _ r4 z4 ((h.hd y hy).Ab q04) e7,hlt⟩
  intro s8 w8 r8 e8';have e8:=e7.trans e8';have z8:=Nat.le_trans z4 e8.kp.size;obtain ⟨a8',_⟩:=e8.at r4 a4' nx ns;simp only [sb,a8'];refine VG r8 z8 (off_fi _ _ _ _ _ r4 z4 (h.fi.Ab q04) e8) off_fi AbJ (fun y hy=>hr.fin y hy) (fun y hy=>TN) (by omega) b5 ?_;intro s9 w9 r9 e9';have e9:=e8.trans e9';have z9:=Nat.le_trans z4 e9.kp.size;obtain ⟨a9',_⟩:=e9.at r4 a4' nx ns;simp only [sb,a9'];refine Ad fun c10 w10 h10 n10 q10=>?_;have r10:=r9.Ab q10;obtain ⟨nc10,ns10⟩:=r9.new n10;refine Abl (l:=[d.c.low,d.c.frozen]) r10 (Nat.le_trans z9 q10.size) h10 nc10 ns10 rfl ?_ (by simp) b6 ?_
  ·intro y hy;simp only [List.mem_cons,List.not_mem_nil,or_false] at hy;rcases hy with rfl | rfl
   ·exact hr.c.low
   ·exact hr.c.frozen
  intro s11 w11 r11 e11';have e11:=e9.trans ((WE.k0 q10).trans e11');have z11:=Nat.le_trans z4 e11.kp.size;obtain ⟨a11',_⟩:=e11.at r4 a4' nx ns;simp only [sb,a11',A5,Nat.reduceAdd];refine Aek _ _ (by omega) (by omega) r11 z11 b7 ?_;intro s12 w12 r12 e12';have e12:=e11.trans e12';have z12:=Nat.le_trans z4 e12.kp.size;obtain ⟨a12',_⟩:=e12.at r4 a4' nx ns;simp only [sb,a12',A5,Nat.reduceAdd];refine Ad fun c13 w13 h13 n13 q13=>?_;have r13:=r12.Ab q13;obtain ⟨nc13,ns13⟩:=r12.new n13;refine Abl (l:=[d.c.AJ,d.c.CD,d.c.Bo]) r13 (Nat.le_trans z12 q13.size) h13 nc13 ns13 rfl ?_ (by simp) b8 ?_
  ·intro y hy;simp only [List.mem_cons,List.not_mem_nil,or_false] at hy;rcases hy with rfl | rfl | rfl
   ·exact hr.c.AJ
   ·exact hr.c.CD
   ·exact hr.c.Bo
  intro s14 w14 r14 e14';have e14:=e12.trans ((WE.k0 q13).trans e14');have z14:=Nat.le_trans z4 e14.kp.size;obtain ⟨a14',_⟩:=e14.at r4 a4' nx ns;simp only [sb,a14',A5,Nat.reduceAdd];refine Aek _ _ (by omega) (by omega) r14 z14 b9 ?_;intro s15 w15 r15 e15';have e15:=e14.trans e15';simp only [sb,r15.hd];refine k1 s15 w15 r15.row r15.nb (q04.trans e15.kp fun y hy=>.inr ?_);rcases List.mem_cons.1 hy with rfl | hy
  ·exact r4.nx
  ·exact r4.nb y hy
def Pv (c:Sc) (o:List Ow) (h:List PH) (f:List Int) (c':Sc) (o':List Ow) (h':List PH) (f':List Int):Bool:=OA c o h f && (OA c' o' h' f' && seq ⟨(AcB c o h f).toArray⟩ ⟨(AcB c' o' h' f').toArray⟩)
set_option maxHeartbeats 2000000 in
theorem AdT {w:World} {d e:Sd} (h:YP d w) (hN:XU d) (hr:ShR d.c d.Ac (d.held.map Hd.p) d.fin) (h':YP e w) (hN':XU e) (hr':ShR e.c e.Ac (e.held.map Hd.p) e.fin) {K:TR [.sc .b]→Pr}
  (k:∀ w',Aa [] w w'→K (Pv d.c d.Ac (d.held.map Hd.p) d.fin e.c e.Ac (e.held.map Hd.p) e.fin,()) w'):Cl Pg 82 [.agg (shA d),.agg (shA e)] false [.sc .b] K w:=by
 refine Vl _ _ _ _ _ d.so d.sh d.sf _ _ _ _ _ _ _ _ _ _ _ _ _ _ e.so e.sh e.sf _ _ _ _ _ _ _ _ _ ?_;unfold W3;dsimp only [Al,Az];refine Ad fun a w1 h1 n1 k1=>?_;refine Ad fun b w2 h2 n2 k2=>?_;have h1:=k2.Aw h1;have k02:=Aj k1 k2;unfold Pv at k;simp only [sb,h1];refine Ji (d:=d) (h.Ab k02) hN hr (fun hok r1 w3 h3 f3 k3=>?_) (fun hok w3 k3=>?_)
 ·have h23:=k3.Aw h2;have k03:=Aj k02 k3;rw [hok,Bool.true_and] at k;simp only [sb,h23];refine Ji (d:=e) (h'.Ab k03) hN' hr' (fun hok' r2 w4 h4 f4 k4=>?_) (fun hok' w4 k4=>?_)
  ·rw [hok',Bool.true_and] at k;simp only [show ((0:Int) == 0)=true from rfl,Af];refine TC (h3.keeps k4 (by simp)).rdb ?_;refine TC h4.rdb ?_;exact k w4 (Aj k03 k4)
  ·rw [hok',Bool.false_and] at k;exact k w4 (Aj k03 k4)
 ·have h23:=k3.Aw h2;have k03:=Aj k02 k3;rw [hok,Bool.false_and] at k;simp only [sb,h23];refine Ji (d:=e) (h'.Ab k03) hN' hr' (fun hok' r2 w4 h4 f4 k4=>?_) (fun hok' w4 k4=>?_)
  ·exact k w4 (Aj k03 k4)
  ·exact k w4 (Aj k03 k4)
open Go Go.Sx
def CG (k:Nat) (T:Nat→Nat):Nat→Nat:=fun b=>if T b=k then 0 else T b
theorem A8 {k:Nat} {T:Nat→Nat} {b:Nat} (h:T b=0):CG k T b=0:=by unfold CG;split <;> first | rfl | exact h
theorem AS {k j:Nat} {T:Nat→Nat} {b:Nat} (hj:j ≠ k) (h:T b=j):CG k T b=j:=by unfold CG;rw [if_neg (by rw [h];exact hj)];exact h
theorem Aa1 {k:Nat} {T:Nat→Nat} {b:Nat} (h:T b=k):CG k T b=0:=if_pos h
theorem XN {k:Nat} {T:Nat→Nat} {b:Nat} (h:CG k T b ≠ 0):T b ≠ 0:=fun h0=>h (A8 h0)
theorem Aq.off {k:Nat} (hk:k ≠ 0∧k < 11) {T:Nat→Nat} {w:World}:Aq T (CG k T) w w:=⟨A4.refl _ _,fun _ _ h=>by unfold CG;rw [if_neg (by omega)]⟩
theorem SI {α:Type} {ρ:Rec α} {T:Nat→Nat} {j:Nat} {w:World}:FV T j (·∈Ai (⟨none,0,0⟩:Sl)) (fun w=>Bh ρ w ⟨none,0,0⟩ []) w:=.of (AE.nil _ _) (by simp [Ai])
theorem Rest.AjS {w:World} {T:Nat→Nat} {X:Co} (h:Rest w T X):Rest w (CG 6 T) { X with Er:=⟨none,0,0⟩,out:=[] }:=
 ⟨h.ow.drop fun _=>A8,h.he.drop (fun _=>A8) (fun _=>AS (by decide)),fun x hx=>(h.Ro x hx).drop fun _=>A8,h.fi.drop (fun _=>A8) (fun _=>AS (by decide)),h.wa.drop (fun _=>A8) (fun _=>AS (by decide)),fun x hx=>(h.Ss x hx).drop fun _=>A8,h.ta.drop (fun _=>A8) (fun _=>AS (by decide)),SI,by simp,h.wr.drop (fun _=>A8) (fun _=>AS (by decide)),h.li.drop (fun _=>A8) (fun _=>AS (by decide)),h.bo.drop (fun _=>A8) (fun _=>AS (by decide)),h.ro.drop (fun _=>A8) (fun _=>AS (by decide)),h.lo.drop fun _=>A8,h.RF.drop (fun _=>A8) (fun _=>AS (by decide)),fun b hb=>h.bd b (XN hb)⟩
theorem Rest.Aj1 {w:World} {T:Nat→Nat} {X:Co} (h:Rest w T X):Rest w (CG 7 T) { X with Nv:=⟨none,0,0⟩,writes:=[] }:=
 ⟨h.ow.drop fun _=>A8,h.he.drop (fun _=>A8) (fun _=>AS (by decide)),fun x hx=>(h.Ro x hx).drop fun _=>A8,h.fi.drop (fun _=>A8) (fun _=>AS (by decide)),h.wa.drop (fun _=>A8) (fun _=>AS (by decide)),fun x hx=>(h.Ss x hx).drop fun _=>A8,h.ta.drop (fun _=>A8) (fun _=>AS (by decide)),h.ou.drop (fun _=>A8) (fun _=>AS (by decide)),fun x hx=>(h.Wp x hx).drop fun _=>A8,SI,h.li.drop (fun _=>A8) (fun _=>AS (by decide)),h.bo.drop (fun _=>A8) (fun _=>AS (by decide)),h.ro.drop (fun _=>A8) (fun _=>AS (by decide)),h.lo.drop fun _=>A8,h.RF.drop (fun _=>A8) (fun _=>AS (by decide)),fun b hb=>h.bd b (XN hb)⟩
def MI (so sw:Sl) (out:List Mg) (writes:List Op) (w:World):Prop:=A1 Yz w so out∧(∀ x∈out,Su x w)∧A1 BQ w sw writes
theorem AiG {w:World} {T:Nat→Nat} {X:Co} (h:Rest w T X):Bq (CG 7 (CG 6 T)) (MI X.Er X.Nv X.out X.writes) w:=by
 have h6:Bq (CG 7 (CG 6 T)) (fun w=>Bh Yz w X.Er X.out) w:=h.ou.AcO (fun b hb=>A8 (A8 hb)) (fun b hb=>A8 (Aa1 hb));have h7:Bq (CG 7 (CG 6 T)) (fun w=>Bh BQ w X.Nv X.writes) w:=h.wr.AcO (fun b hb=>A8 (A8 hb)) (fun b hb=>Aa1 (AS (by decide) hb));refine ⟨⟨h6.ok.C6,fun x hx=>(h.Wp x hx).ok,h7.ok.C6⟩,fun w' hs hw=>⟨(h6.st w' hs hw).C6,fun x hx=>((h.Wp x hx).drop fun b hb=>A8 (A8 hb)).st w' hs hw,(h7.st w' hs hw).C6⟩⟩
theorem Td {w:World} {m:Nat} {T:Nat→Nat} {X:Mc} (h:A6 w m T X) {K:Pr}
  (k:∀ w',A6 w' m (CG 7 (CG 6 T)) { X with c:={ X.c with HA:=false },d:={ X.d with Er:=⟨none,0,0⟩,out:=[],Nv:=⟨none,0,0⟩,writes:=[] } }→Bq (CG 7 (CG 6 T)) (MI X.d.Er X.d.Nv X.d.out X.d.writes) w'→Aq T (CG 7 (CG 6 T)) w w'→K w') :
  (St ⟨m,21,none⟩ (.slice none 0 0) <| St ⟨m,22,none⟩ (.slice none 0 0) <| St ⟨m,23,none⟩ (.bool false) K) w:=by
 have hI:=AiG h.r;have t1:CG 7 (CG 6 T) m=1:=AS (by decide) (AS (by decide) h.t1);have r0:=h.r.AjS.Aj1;refine Ax h.hd 21 _ rfl (by simp [Bs]) fun w1 h1 k1=>?_;refine Ax h1 22 _ rfl (by simp [Bs]) fun w2 h2 k2=>?_;refine Ax h2 23 _ rfl (by simp [Bs]) fun w3 h3 k3=>?_;have kk:Aa [m] w w3:=(k1.trans k2 (fun _ hx=>.inl hx)).trans k3 (fun _ hx=>.inl hx);have s:CH 1 (CG 7 (CG 6 T)) (CG 7 (CG 6 T)) w w3:=⟨kk.FY fun b hb=>.inl (by simp at hb;rw [hb];exact t1),fun _ _ _=>rfl⟩;have e:Aq T (CG 7 (CG 6 T)) w w3:=((Aq.off (by decide)).trans (Aq.off (by decide))).trans (s.Bm (by decide));refine k w3 ⟨?_,t1,r0.k1 s⟩ (hI.Bm (s.Bm (by decide))) e;rw [h3];simp [Bs]
def Dz (c:Nat) (T:Nat→Nat):Nat→Nat:=fun b=>if b=c then 11 else T b
theorem Rest.kx {w w':World} {T T':Nat→Nat} {X:Co} (h:Rest w T X) (s:CH 11 T T' w w') (hb:∀ b,T' b ≠ 0→b < w'.heap.size):Rest w' T' X:=
 ⟨h.ow.kt (by decide) s,h.he.kt (by decide) (by decide) s,fun x hx=>(h.Ro x hx).kt (by decide) s,h.fi.kt (by decide) (by decide) s,h.wa.kt (by decide) (by decide) s,fun x hx=>(h.Ss x hx).kt (by decide) s,h.ta.kt (by decide) (by decide) s,h.ou.kt (by decide) (by decide) s,fun x hx=>(h.Wp x hx).kt (by decide) s,h.wr.kt (by decide) (by decide) s,h.li.kt (by decide) (by decide) s,h.bo.kt (by decide) (by decide) s,h.ro.kt (by decide) (by decide) s,h.lo.kt (by decide) s,h.RF.kt (by decide) (by decide) s,hb⟩
theorem A6.own {w w':World} {m:Nat} {T:Nat→Nat} {X:Mc} (h:A6 w m T X) (k:Aa [] w w') {c:Nat} (hc:w.heap.size≤c) (hc':c < w'.heap.size):A6 w' m (Dz c T) X∧CH 11 T (Dz c T) w w'∧Aq T (Dz c T) w w':=by
 have tg:∀ b,b < w.heap.size→Dz c T b=T b:=fun b hb=>if_neg (by omega);have s:CH 11 T (Dz c T) w w':=⟨k.FY (by simp),fun b hb _=>tg b hb⟩;refine ⟨⟨k.Aw h.hd,(tg m h.lt).trans h.t1,h.r.kx s fun b hb=>?_⟩,s,⟨k.FY (by simp),fun b hb _=>tg b hb⟩⟩;unfold Dz at hb;split at hb
 ·rename_i e;rw [e];exact hc'
 ·exact Nat.lt_of_lt_of_le (h.r.bd b hb) k.size
theorem A6.LK {w w':World} {m:Nat} {T:Nat→Nat} {X:Mc} (h:A6 w m T X) {c:Nat} (hc:T c=11) (k:Aa [c] w w'):A6 w' m T X∧CH 11 T T w w':=by
 have s:CH 11 T T w w':=⟨k.FY fun b hb=>.inl (by simp at hb;rw [hb];exact hc),fun _ _ _=>rfl⟩;refine ⟨⟨k.Mw h.hd (fun e=>by have:=h.t1;rw [e,hc] at this;cases this),h.t1,h.r.kx s fun b hb=>Nat.lt_of_lt_of_le (h.r.bd b hb) k.size⟩,s⟩
theorem G8 {T T':Nat→Nat} {w w' w'':World} {l:List Nat} (h:Aq T T' w w') (k:Aa l w' w'') (hl:∀ x∈l,w.heap.size≤x):Aq T T' w w'':=
 ⟨h.kp.trans (k.FY (F:=fun b=>b∈l) fun b hb=>.inl hb) fun x hx=>.inr (hl x hx),h.tg⟩
namespace PS
def clear (P:PS):PS:={ P with out:=[],writes:=[],c:={ P.c with HA:=false } }
def FR (P Q:PS):Bool:=Decidable.decide (0 < Q.writes.length) || !Pv P.c P.Ac P.held P.fin Q.c Q.Ac Q.held Q.fin
end PS
theorem Bj.clear {P:PS} (h:Bj P):Bj P.clear:=
 ⟨h.wt,h.hd,h.dj,h.fn,h.tb,h.wv,h.hv,h.mp,h.mn,rfl,by simp [PS.clear],h.er,by have:=h.bd;show 0 + P.left≤20000;omega,h.hn,h.fl⟩
def PN (Q:PS):Prop:=Q.Ac.length≤100000∧Q.held.length≤100000∧Q.fin.length≤200000∧∀ x∈Q.held,x.ops.length≤100000
theorem PN.sd {X:Mc} (h:PN X.p):XU X.sd:=by
 obtain ⟨h1,h2,h3,h4⟩:=h;rw [show X.p.held=X.d.held.map Hd.p from rfl,List.length_map] at h2;exact ⟨h1,h2,h3,fun x hx=>h4 x.p (List.mem_map.2 ⟨x,hx,rfl⟩)⟩
theorem Ajo (X:Mc):X.sd.c=X.p.c∧X.sd.Ac=X.p.Ac∧X.sd.held.map Hd.p=X.p.held∧X.sd.fin=X.p.fin:=⟨rfl,rfl,rfl,rfl⟩
theorem ShR.HA {c:Sc} {o:List Ow} {h:List PH} {f:List Int} (hr:ShR c o h f) (b:Bool):ShR { c with HA:=b } o h f:=⟨⟨hr.c.Au,hr.c.CZ,hr.c.Ao,hr.c.move,hr.c.low,hr.c.frozen,hr.c.AJ,hr.c.CD,hr.c.Bo⟩,hr.Ah,hr.fin⟩
set_option maxHeartbeats 4000000 in
theorem AjW {w:World} {m:Nat} {T:Nat→Nat} {X:Mc} (h:A6 w m T X) (hN:XU X.sd) (hr:ShR X.p.c X.p.Ac X.p.held X.p.fin) {f:Value} {Q:PS}
  (hQ:Q.c.e=0) (hrQ:ShR Q.c Q.Ac Q.held Q.fin) (hNQ:PN Q)
  (hf:∀ (w1:World) (T1:Nat→Nat) (X1:Mc),A6 w1 m T1 X1→X1.p=X.p.clear→DG X X1→Aq T T1 w w1→∀ K:TR []→Pr,(∀ X2 T2 w2,A6 w2 m T2 X2→X2.p=Q→DG X1 X2→Aq T1 T2 w1 w2→K () w2)→AB Pg f [] true [] K w1)
  {K:TR [.ag [.sl,.sl,.b],.sc (.i .i64)]→Pr}
  (k:∀ so sw out writes X2 T2 w2,A6 w2 m T2 X2→X2.p=Q.clear→out.map Mg.p=Q.out→writes=Q.writes→Bq T2 (MI so sw out writes) w2→DG X X2→Aq T T2 w w2→K ((so,sw,X.p.FR Q,()),0,()) w2) :
  Cl Pg 32 [.pointer (some ⟨m,0,none⟩),f] true [.ag [.sl,.sl,.b],.sc (.i .i64)] K w:=by
 refine F6 _ _ ?_;unfold FX;dsimp only [Al,Ux,Vv,Li,Az,Ll,SL,Bf,KV,Tb,Vb,Vi,AQ,LW];refine Ad fun a w1 h1 n1 k1=>?_;obtain ⟨g1,s1,e1⟩:=h.own k1 n1 (Av h1);generalize hT:Dz a T=T1 at *;have Ta:T1 a=11:=by rw [← hT];exact if_pos rfl
 simp only [sb,g1.hd,Bs];refine MK (d:=X.sd) g1.shd hN fun d w2 hd2 k2=>?_;have g2:=g1.Ab k2;have h2:=k2.Aw h1;refine Ad fun b w3 h3 n3 k3=>?_;have g3:=g2.Ab k3;have Tb:T1 b=0:=g2.new n3;refine Ul h3 rfl d fun w4 h4 k4=>?_;have k34:Aa [] w2 w4:=BT k3 k4 n3;have g4:=g2.Ab k34;have a4:=k34.Aw h2;have k04:=Aj (Aj k1 k2) k34;have z1:=k1.size;have imD:Bq T1 (YP d) w4:=by
  have q:=hd2;have fr:∀ y,w1.heap.size≤y→T1 y=0:=fun y hy=>g1.new hy;have ow:=(q.ow.keeps k34 (by simp)).C6;have he:=(q.he.keeps k34 (by simp)).C6;have hh:=fun x hx=>((q.hd x hx).keeps k34 (by simp)).C6;have fi:=(q.fi.keeps k34 (by simp)).C6;have rbk:∀ {α:Type} {ρ:Rec α} {s:Sl} {l:List α} (hs:Bh ρ w2 s l) (hf:∀ y∈Ai s,w1.heap.size≤y),∀ y∈rb s,T1 y=0:=fun hs hf y hy=>fr y (hf y (hs.rb y hy));exact ⟨⟨ow,he,hh,fi⟩,fun w' hs hw=>⟨(Bq.of ow (rbk q.ow q.fow)).st w' hs hw,(Bq.of he (rbk q.he q.fhe)).st w' hs hw,fun x hx=>(Bq.of (hh x hx) (rbk (q.hd x hx) (q.fhd x hx))).st w' hs hw,(Bq.of fi (rbk q.fi q.ffi)).st w' hs hw⟩⟩
 have dN:XU d:=by
  refine ⟨by rw [hd2.Ac];exact hN.1,?_,by rw [hd2.fin];exact hN.2.2.1,fun x hx=>?_⟩
  ·have:=congrArg List.length hd2.held;simp only [List.length_map] at this;rw [this];exact hN.2.1
  ·have hm:x.p∈X.sd.held.map Hd.p:=by rw [← hd2.held];exact List.mem_map.2 ⟨x,hx,rfl⟩
   obtain ⟨z,hz,hzx⟩:=List.mem_map.1 hm;have e:z.ops=x.ops:=congrArg PH.ops hzx;rw [← e];exact hN.2.2.2 z hz
 have dR:ShR d.c d.Ac (d.held.map Hd.p) d.fin:=by rw [hd2.c,hd2.Ac,hd2.held,hd2.fin];exact hr
 have eqS:∀ Q':PS,Pv d.c d.Ac (d.held.map Hd.p) d.fin Q'.c Q'.Ac Q'.held Q'.fin=Pv X.p.c X.p.Ac X.p.held X.p.fin Q'.c Q'.Ac Q'.held Q'.fin:=fun Q'=>by rw [hd2.c,hd2.Ac,hd2.held,hd2.fin];rfl
 simp only [sb];refine Td g4 fun w5 h5 i5 e5=>?_;obtain ⟨a5,Ta5⟩:=e5.Ql a4 Ta;obtain ⟨b5,Tb5⟩:=e5.at h4 Tb;have D5:=imD.Bm e5;have e05:Aq T _ w w5:=e1.trans ((Aq.k0 (Aj k2 k34)).trans e5);refine hf w5 _ _ h5 rfl ⟨rfl,rfl,rfl⟩ e05 _ ?_;intro X6 T6 w6 h6 q6 x6 e6;obtain ⟨a6,Ta6⟩:=e6.Ql a5 Ta5;obtain ⟨b6,Tb6⟩:=e6.at b5 Tb5;have D6:=D5.Bm e6;have e06:=e05.trans e6;have c6:X6.c=Q.c:=by rw [← q6];rfl
 have ee:X6.c.e=0:=by rw [c6];exact hQ
 simp only [sb,h6.hd,Bs,ee,show ((0:Int) != 0)=false from rfl,A5,Nat.reduceAdd];refine bx3 rfl rfl rfl rfl fun c w7 h7 n7 k7=>?_;obtain ⟨g7,s7,e7⟩:=h6.own k7 n7 (Av h7);have a7:=k7.Aw a6;have b7:=k7.Aw b6;generalize hT7:Dz c T6=T7 at *;have Tc:T7 c=11:=by rw [← hT7];exact if_pos rfl
 have Ta7:T7 a=11:=by rw [← hT7];unfold Dz;split;rfl;exact Ta6
 have Tb7:T7 b=0:=by rw [← hT7];unfold Dz;rw [if_neg (by have:=Av b6;omega)];exact Tb6
 simp only [sb];refine Td g7 fun w8 h8 i8 e8=>?_;obtain ⟨a8,Ta8⟩:=e8.Ql a7 Ta7;obtain ⟨b8,Tb8⟩:=e8.at b7 Tb7;obtain ⟨c8,Tc8⟩:=e8.Ql h7 Tc;have D8:=(D6.Bm e7).Bm e8;have e08:=(e06.trans e7).trans e8;have hwl:X6.d.writes=Q.writes:=by rw [← q6];rfl
 have hsl:X6.d.Nv.len=X6.d.writes.length:=i8.ok.2.2.len;have hx6:DG X X6:=⟨x6.BD,x6.sM,x6.bx⟩;have nac:a ≠ c:=by have:=Av a6;omega
 have zc:w.heap.size≤c:=by have:=e06.kp.size;omega
 generalize hT8:CG 7 (CG 6 T7)=T8 at *;obtain ⟨X8,hX8⟩:∃ X8:Mc,X8={ X6 with c:={ X6.c with HA:=false },d:={ X6.d with Er:=⟨none,0,0⟩,out:=[],Nv:=⟨none,0,0⟩,writes:=[] } }:=⟨_,rfl⟩;rw [← hX8] at h8;have q8:X8.p=Q.clear:=by rw [hX8,← q6];rfl
 have x8:DG X X8:=by rw [hX8];exact ⟨x6.BD,x6.sM,x6.bx⟩
 have hout:X6.d.out.map Mg.p=Q.out:=by rw [← q6];rfl
 clear hf h6 x6 e6 q6 g7 h5;refine AG (fun _ w9=>A6 w9 m T8 X8∧Bq T8 (MI X6.d.Er X6.d.Nv X6.d.out X6.d.writes) w9∧Aa [c] w8 w9∧w9.heap[c]?=some (.cells #[.slice X6.d.Er.p X6.d.Er.len X6.d.Er.cap,.slice X6.d.Nv.p X6.d.Nv.len X6.d.Nv.cap,.bool (X.p.FR Q)] 52 (0,0))) (fun J hJ=>?_) ?_
 ·simp only [sb,c8];have hbm:∀ (w9:World) (bv:Bool),Aa [] w8 w9→X.p.FR Q=bv→St ⟨c,2,none⟩ (.bool bv) (J ()) w9:=by
   intro w9 bv k9 hbv;refine Ax (k9.Aw c8) 2 _ rfl (by simp) fun w10 c10 k10=>?_;simp only [Ck] at c10;obtain ⟨h10,s10⟩:=(h8.Ab k9).LK Tc8 k10;refine hJ () w10 ⟨h10,(i8.Ab k9).kt (by decide) s10,(k9.mono (by simp)).trans k10 (fun _ hx=>.inl hx),?_⟩;rw [hbv];exact c10
  unfold PS.FR at hbm;by_cases hw0:0 < Q.writes.length
  ·rw [show decide (((X6.d.Nv.len:Nat):Int) > 0)=true from decide_eq_true (by rw [hsl,hwl];omega)];simp only [sb];refine hbm _ true (Am w8) ?_;rw [decide_eq_true hw0,Bool.true_or]
  ·rw [show decide (((X6.d.Nv.len:Nat):Int) > 0)=false from decide_eq_false (by rw [hsl,hwl];omega)];simp only [sb,b8,h8.hd,Bs];have g8:=h8.Ab (Am w8);refine AdT (d:=d) (e:=X8.sd) (D8.ok.Ab (Am w8)) dN dR g8.shd ?_ ?_ fun w9 k9=>?_
   ·refine PN.sd ?_;rw [q8];exact hNQ
   ·obtain ⟨p1,p2,p3,p4⟩:=Ajo X8;rw [p1,p2,p3,p4,q8];exact hrQ.HA false
   ·refine hbm w9 _ (Aj (Am w8) k9) ?_;rw [decide_eq_false hw0,Bool.false_or];show _=!(Pv d.c d.Ac (d.held.map Hd.p) d.fin X8.p.c X8.p.Ac X8.p.held X8.p.fin);rw [eqS X8.p,q8];rfl
 ·rintro _ w9 ⟨h9,i9,k9,c9⟩;have a9:=k9.Mw a8 nac;simp only [sb,c9];refine Mf a9 rfl rfl rfl fun w10 a10 k10=>?_;obtain ⟨h10,s10⟩:=h9.LK Ta8 k10;simp only [sb,a10];refine k _ _ X6.d.out X6.d.writes X8 T8 w10 h10 q8 hout hwl (i9.kt (by decide) s10) x8 ?_;exact G8 (G8 e08 k9 (by simp;exact zc)) k10 (by simp;exact n1)
open Go Go.Sx
structure FM (P Q:PS):Prop where
 c:Q.c=P.c
 Ac:Q.Ac=P.Ac
 fin:Q.fin=P.fin
 M:Q.M=P.M
 writes:Q.writes=P.writes
 box:Q.box=P.box
 held:∀ y∈Q.held,y∈P.held∨∃ x∈P.wait,y=⟨x.Ah,x.ops⟩
 wait:∀ y∈Q.wait,∃ x∈P.wait,y.Ah=x.Ah∧y.ops=x.ops∧y.BB=x.BB
 len:Q.held.length + Q.wait.length≤P.held.length + P.wait.length
theorem FM.refl (P:PS):FM P P:=⟨rfl,rfl,rfl,rfl,rfl,rfl,fun _ h=>.inl h,fun y h=>⟨y,h,rfl,rfl,rfl⟩,Nat.le_refl _⟩
theorem FM.trans {P Q R:PS} (h:FM P Q) (k:FM Q R):FM P R:=by
 refine ⟨k.c.trans h.c,k.Ac.trans h.Ac,k.fin.trans h.fin,k.M.trans h.M,k.writes.trans h.writes,k.box.trans h.box,fun y hy=>?_,fun y hy=>?_,Nat.le_trans k.len h.len⟩
 ·rcases k.held y hy with h1 | ⟨x,hx,rfl⟩
  ·exact h.held y h1
  ·obtain ⟨z,hz,e1,e2,_⟩:=h.wait x hx;exact .inr ⟨z,hz,by rw [e1,e2]⟩
 ·obtain ⟨x,hx,e1,e2,e3⟩:=k.wait y hy;obtain ⟨z,hz,f1,f2,f3⟩:=h.wait x hx;exact ⟨z,hz,e1.trans f1,e2.trans f2,e3.trans f3⟩
theorem Ju (P:PS) (t c:Int) (rs:List Rp):FM P (P.Df t c rs):=⟨rfl,rfl,rfl,rfl,rfl,rfl,fun _ h=>.inl h,fun y h=>⟨y,h,rfl,rfl,rfl⟩,Nat.le_refl _⟩
theorem Pm (P:PS) (t:Int):FM P (P.release t):=⟨rfl,rfl,rfl,rfl,rfl,rfl,fun _ h=>.inl h,fun y h=>⟨y,h,rfl,rfl,rfl⟩,Nat.le_refl _⟩
theorem Adl (P:PS) (l:List Ev):FM P { P with line:=l }:=⟨rfl,rfl,rfl,rfl,rfl,rfl,fun _ h=>.inl h,fun y h=>⟨y,h,rfl,rfl,rfl⟩,Nat.le_refl _⟩
theorem Im (P:PS) (i:Nat):FM P (P.Ay i):=
 ⟨rfl,rfl,rfl,rfl,rfl,rfl,fun _ h=>.inl h,fun y h=>⟨y,(Bp P.wait i).subset h,rfl,rfl,rfl⟩,Nat.add_le_add_left (Bp P.wait i).length_le _⟩
theorem Xz {α:Type} {l:List α} {i:Nat} {x y:α} (h:y∈l.take i ++ x :: l.drop i):y=x∨y∈l:=by
 rcases List.mem_append.1 h with h | h
 ·exact .inr (List.mem_of_mem_take h)
 ·rcases List.mem_cons.1 h with h | h
  ·exact .inl h
  ·exact .inr (List.mem_of_mem_drop h)
theorem AbS {α:Type} (l:List α) (i:Nat) (x:α):(l.take i ++ x :: l.drop i).length=l.length + 1:=by
 rw [List.length_append,List.length_cons,List.length_take,List.length_drop];omega
theorem Wu {P:PS} {i:Nat} {x:PW} (hx:P.wait[i]?=some x):FM P ((P.Ay i).hold x.Ah x.ops):=by
 have hlt:=(List.getElem?_eq_some_iff.1 hx).1;refine ⟨rfl,rfl,rfl,rfl,rfl,rfl,fun y h=>?_,fun y h=>⟨y,(Bp P.wait i).subset h,rfl,rfl,rfl⟩,?_⟩
 ·rcases Xz h with rfl | h
  ·exact .inr ⟨x,List.mem_of_getElem? hx,rfl⟩
  ·exact .inl h
 ·show (P.held.take _ ++ _ :: P.held.drop _).length + (P.wait.take i ++ P.wait.drop (i + 1)).length≤_;rw [AbS];have:=Jw P.wait i hlt;omega
theorem PG {P:PS} {i:Nat} {x:PW} (hx:P.wait[i]?=some x) (lk:Lk):FM P (P.Cq i x lk):=by
 refine ⟨rfl,rfl,rfl,rfl,rfl,rfl,fun _ h=>.inl h,fun y h=>?_,?_⟩
 ·rcases List.mem_or_eq_of_mem_set h with h | rfl
  ·exact ⟨y,h,rfl,rfl,rfl⟩
  ·exact ⟨x,List.mem_of_getElem? hx,rfl,rfl,rfl⟩
 ·show P.held.length + (P.wait.set i _).length≤_;rw [List.length_set];exact Nat.le_refl _
theorem GO:∀ (f:Nat) {P:PS} {t:Int},Bj P→FM P (P.Cw f t)
 | 0,P,t,_=>FM.refl P
 | f + 1,P,t,h=>by
  unfold PS.Cw;split
  ·exact FM.refl P
  ·rename_i hw;have hw:P.Pb t=true:=by simpa using hw
   obtain ⟨x,hx,ht⟩:=D9 h hw;rw [hx];dsimp only;subst ht;split
   ·exact (Wu hx).trans (Ju _ _ _ _)
   ·split
    ·exact FM.refl P
    ·rename_i lk hlk;obtain ⟨h1,_⟩:=h.Cq hx hlk;split
     ·exact PG hx lk
     ·split
      ·exact (((PG hx lk).trans (Im _ _)).trans (Ju _ _ _ _)).trans (Pm _ _)
      ·exact (PG hx lk).trans (GO f h1)
theorem Aar {P:PS} (h:Bj P) (ev:Ev):FM P (P.event ev):=by
 unfold PS.event;split
 ·exact GO 30 h
 ·split
  ·exact (Im _ _).trans (Ju _ _ _ _)
  ·exact FM.refl P
theorem Cv:∀ (f:Nat) {P:PS},Bj P→FM P (P.through f)
 | 0,P,_=>FM.refl P
 | f + 1,P,h=>by
  cases hl:P.line with
  | nil=>
   unfold PS.through;rw [hl];exact FM.refl P
  | cons ev l=>
   rw [CQ hl];obtain ⟨h1,_⟩:=h.pop hl;exact ((Adl P l).trans (Aar h1 ev)).trans (Cv f (h1.event ev).1)
structure PRg (P:PS):Prop where
 c:ScR P.c
 held:∀ h∈P.held,DR h.Ah
 wait:∀ h∈P.wait,DR h.Ah
 fin:∀ n∈P.fin,DR n
theorem PRg.sub {P Q:PS} (h:PRg P) (s:FM P Q):PRg Q:=by
 refine ⟨by rw [s.c];exact h.c,fun y hy=>?_,fun y hy=>?_,by rw [s.fin];exact h.fin⟩
 ·rcases s.held y hy with h1 | ⟨x,hx,rfl⟩
  ·exact h.held y h1
  ·exact h.wait x hx
 ·obtain ⟨x,hx,e,_⟩:=s.wait y hy;rw [e];exact h.wait x hx
theorem PRg.shr {P:PS} (h:PRg P):ShR P.c P.Ac P.held P.fin:=⟨h.c,h.held,h.fin⟩
structure PCt (P:PS):Prop where
 hw:P.held.length + P.wait.length≤6
 all:P.held.length + P.wait.length + P.fin.length≤64
 ow:P.Ac.length≤6
theorem PCt.sub {P Q:PS} (h:PCt P) (s:FM P Q):PCt Q:=⟨Nat.le_trans s.len h.hw,by rw [s.fin];have:=s.len;have:=h.all;omega,by rw [s.Ac];exact h.ow⟩
theorem Ru {P:PS} (h:Bj P) (c:PCt P):PN P:=⟨Nat.le_trans c.ow (by omega),by have:=c.hw;omega,by have:=c.all;omega,fun x hx=>Nat.le_trans (h.hv x hx).2 (by omega)⟩
structure PJ (P:PS):Prop where
 ok:Bj P
 rg:PRg P
 ct:PCt P
 line:P.line=[]
theorem PJ.left {P:PS} (h:PJ P):P.left≤600:=by
 have h1:∀ l:List PW,(∀ x∈l,x.BB.length≤24)→(l.map PS.KL).sum≤l.length * 24:=by
  intro l;induction l with
  | nil=>intro _;simp
  | cons a l ih=>
   intro hl;simp only [List.map_cons,List.sum_cons,List.length_cons];have:=ih fun x hx=>hl x (List.mem_cons_of_mem _ hx);have:=hl a List.mem_cons_self;have:PS.KL a≤a.BB.length:=Nat.sub_le _ _;omega
 have h2:=h1 P.wait fun x hx=>by
  obtain ⟨_,v2,v3,_⟩:=h.ok.wv x hx;rw [v3,List.length_map];exact v2
 have hf:=h.ok.tb.few;have hc:=h.ct.hw;unfold PS.left;rw [h.line];simp only [List.length_nil];omega
open Go Go.Sx
theorem PJ.clear {P:PS} (h:PJ P):PJ P.clear:=⟨h.ok.clear,⟨⟨h.rg.c.Au,h.rg.c.CZ,h.rg.c.Ao,h.rg.c.move,h.rg.c.low,h.rg.c.frozen,h.rg.c.AJ,h.rg.c.CD,h.rg.c.Bo⟩,h.rg.held,h.rg.wait,h.rg.fin⟩,⟨h.ct.hw,h.ct.all,h.ct.ow⟩,h.line⟩
theorem PJ.Df {P:PS} (h:PJ P) (t c:Int) (rs:List Rp) (hb:P.out.length + 1 + P.left≤20000):PJ (P.Df t c rs):=⟨h.ok.Df t c rs hb,h.rg.sub (Ju _ _ _ _),h.ct.sub (Ju _ _ _ _),h.line⟩
theorem PJ.Bk {P:PS} (h:PJ P) {low:Int} (hl:DR low):PJ (P.Bk low):=by
 refine ⟨h.ok.Bk low,?_,?_,?_⟩
 ·unfold PS.Bk;split
  ·exact ⟨⟨h.rg.c.Au,h.rg.c.CZ,h.rg.c.Ao,h.rg.c.move,hl,h.rg.c.frozen,h.rg.c.AJ,h.rg.c.CD,h.rg.c.Bo⟩,h.rg.held,h.rg.wait,fun n hn=>h.rg.fin n (List.mem_filter.1 hn).1⟩
  ·exact h.rg
 ·unfold PS.Bk;split
  ·refine ⟨h.ct.hw,?_,h.ct.ow⟩;have:=List.length_filter_le (fun n=>!(decide (n < low))) P.fin;have:=h.ct.all;show P.held.length + P.wait.length + (P.fin.filter _).length≤64;omega
  ·exact h.ct
 ·unfold PS.Bk;split <;> exact h.line
theorem PJ.Du {P:PS} (h:PJ P) {t Ao:Int} (ht:DR t) {ops:List Op} (ho:A9 ops=0) (hl:ops.length≤24) (hb:P.out.length + P.left + 60≤20000):PJ (P.Du t Ao ops):=by
 unfold PS.Du;cases hg:P.gone t with
 | true=>rw [if_pos rfl];exact h
 | false=>
  rw [if_neg (by simp)];cases hh:P.TJ t with
  | true=>
   rw [if_pos rfl];split
   ·exact h
   ·exact h.Df _ _ _ (by omega)
  | false=>
   rw [if_neg (by simp)];cases hr:P.C7 Ao ops with
   | true=>rw [if_pos rfl];exact h.Df _ _ _ (by omega)
   | false=>
    rw [if_neg (by simp)];have hwis:P.Pb t=false:=by unfold PS.gone at hg;simp only [Bool.or_eq_false_iff] at hg;exact hg.2
    have hful:P.full=false:=by unfold PS.C7 at hr;simp only [Bool.or_eq_false_iff] at hr;exact hr.2.1
    have hc:P.held.length + P.wait.length < 6∧P.held.length + P.wait.length + P.fin.length < 64:=by unfold PS.full at hful;simp only [Bool.or_eq_false_iff,decide_eq_false_iff_not] at hful;omega
    obtain ⟨h1,b1⟩:=h.ok.await ho hl (KY h.ok hwis) (Nd h.ok hh) (by omega) hb;have hlen:(P.await t ops).wait.length=P.wait.length + 1:=AbS _ _ _;have r1:PRg (P.await t ops):=⟨h.rg.c,h.rg.held,fun y hy=>by
     rcases Xz hy with rfl | hy
     ·exact ht
     ·exact h.rg.wait y hy,h.rg.fin⟩
    have c1:PCt (P.await t ops):=⟨by show P.held.length + _≤6;rw [hlen];omega,by show P.held.length + _ + P.fin.length≤64;rw [hlen];omega,h.ct.ow⟩;obtain ⟨h2,b2⟩:=h1.Cw 30 (t:=t);obtain ⟨h3,b3⟩:=h2.through DU;have s:=(GO 30 (t:=t) h1).trans (Cv DU h2);exact ⟨h3,r1.sub s,c1.sub s,Mr _ h2 (by have:=h2.bd;unfold DU;omega)⟩
theorem PJ.work {P:PS} (h:PJ P) {t low Ao:Int} (ht:DR t) (hlo:DR low) {ops:List Op} (ho:A9 ops=0) (hl:ops.length≤24) (hb:P.out.length + P.left + 60≤20000):PJ (P.work t low Ao ops):=
 (h.Bk hlo).Du ht ho hl (by rw [GP,Hj];exact hb)
theorem PJ.finish {P:PS} (h:Bj P) (r:PRg P) (c:PCt P) {t:Int} (ht:DR t) (hl:P.held.length + P.wait.length + P.fin.length < 64):PJ (P.finish t):=by
 obtain ⟨h1,b1,l1⟩:=h.BV t (by omega);have r1:PRg (P.BV t):=by
  unfold PS.BV;split
  ·exact ⟨r.c,r.held,r.wait,fun n hn=>by rcases Xz hn with rfl | hn;exact ht;exact r.fin n hn⟩
  ·exact r
 have hw:(P.BV t).held=P.held∧(P.BV t).wait=P.wait∧(P.BV t).Ac=P.Ac:=by unfold PS.BV;split <;> exact ⟨rfl,rfl,rfl⟩
 have c1:PCt (P.BV t):=by
  obtain ⟨e1,e2,e3⟩:=hw;exact ⟨by rw [e1,e2];exact c.hw,by rw [e1,e2];omega,by rw [e3];exact c.ow⟩
 obtain ⟨h2,b2⟩:=h1.release t;obtain ⟨h3,b3⟩:=h2.through DU;have s:=(Pm (P.BV t) t).trans (Cv DU h2);exact ⟨h3,r1.sub s,c1.sub s,Mr _ h2 (by have:=h2.bd;unfold DU;omega)⟩
theorem PJ.decide {P:PS} (h:PJ P) {t:Int} (ht:DR t) (flag:Bool) (hb:P.out.length + 1 + P.left≤20000) (hw:P.writes.length≤900):PJ (P.decide t flag):=by
 have ha:Bj (P.Fh t):=h.ok.Fh t hb;unfold PS.decide;cases hh:P.TJ t with
 | true=>
  rw [if_pos rfl];obtain ⟨x,hx,hxt⟩:=MN h.ok hh;rw [hx];dsimp only;have hlt:=(List.getElem?_eq_some_iff.1 hx).1;obtain ⟨v1,v2⟩:=h.ok.hv x (List.mem_of_getElem? hx);have hwl:=OZ flag x.ops;have hu:Bj ((P.Fh t).AO (P.DY t)):=ha.AO _;have hwa:Bj (((P.Fh t).AO (P.DY t)).writeAll (PS.Mn flag x.ops)):=hu.writeAll (OC v1) (by show P.writes.length + _≤1000;omega);have hlen:=Jw P.held (P.DY t) hlt;have hsub:=Bp P.held (P.DY t);have e:=Bz (PS.Mn flag x.ops) ((P.Fh t).AO (P.DY t));have eh:(((P.Fh t).AO (P.DY t)).writeAll (PS.Mn flag x.ops)).held=P.held.take (P.DY t) ++ P.held.drop (P.DY t + 1):=by rw [e];rfl
  have ew:(((P.Fh t).AO (P.DY t)).writeAll (PS.Mn flag x.ops)).wait=P.wait:=by rw [e];rfl
  have ef:(((P.Fh t).AO (P.DY t)).writeAll (PS.Mn flag x.ops)).fin=P.fin:=by rw [e];rfl
  have ec:(((P.Fh t).AO (P.DY t)).writeAll (PS.Mn flag x.ops)).c=P.c:=by rw [e];rfl
  have eo:(((P.Fh t).AO (P.DY t)).writeAll (PS.Mn flag x.ops)).Ac=P.Ac:=by rw [e];rfl
  have c1:=h.ct.hw;have c2:=h.ct.all;refine PJ.finish hwa ⟨by rw [ec];exact h.rg.c,fun y hy=>h.rg.held y (hsub.subset (by rw [← eh];exact hy)),by rw [ew];exact h.rg.wait,by rw [ef];exact h.rg.fin⟩ ⟨by rw [eh,ew];omega,by rw [eh,ew,ef];omega,by rw [eo];exact h.ct.ow⟩ ht (by rw [eh,ew,ef];omega)
 | false=>
  rw [if_neg (by simp)];cases hwi:P.Pb t with
  | true=>
   rw [if_pos rfl];obtain ⟨x,hx,hxt⟩:=D9 h.ok hwi;have hlt:=(List.getElem?_eq_some_iff.1 hx).1;obtain ⟨hu,_⟩:=ha.Ay (i:=P.Ce t) hx;have hlen:((P.Fh t).Ay (P.Ce t)).wait.length + 1=P.wait.length:=Jw P.wait (P.Ce t) hlt;have hsub:=Bp P.wait (P.Ce t);have c1:=h.ct.hw;have c2:=h.ct.all;have eh:((P.Fh t).Ay (P.Ce t)).held=P.held:=rfl;have ef:((P.Fh t).Ay (P.Ce t)).fin=P.fin:=rfl;exact PJ.finish hu ⟨h.rg.c,h.rg.held,fun y hy=>h.rg.wait y (hsub.subset hy),h.rg.fin⟩ ⟨by rw [eh];omega,by rw [eh,ef];omega,h.ct.ow⟩ ht (by rw [eh,ef];omega)
  | false=>
   rw [if_neg (by simp)];exact ⟨ha,⟨h.rg.c,h.rg.held,h.rg.wait,h.rg.fin⟩,⟨h.ct.hw,h.ct.all,h.ct.ow⟩,h.line⟩
open Go Go.Sx
def Akk:List (Int × (PM→Bool)):=[(113,fun x=>x.VT == 0),(98,fun x=>x.Au == 0),(116,fun x=>x.Ah == 0),(108,fun x=>x.low == 0),(118,fun x=>x.CZ == 0),(101,fun x=>x.Ao == 0),(109,fun x=>x.move == 0),(97,fun x=>x.attempt == 0),(110,fun x=>x.n == 0),(99,fun x=>x.code == 0),(112,fun x=>x.peer == 0),(102,fun x=>!x.flag),(114,fun x=>seq x.FN (BA []) && (seq x.G6 (BA []) && true)),(111,fun x=>((x.ops.length:Nat):Int) == 0),(115,fun x=>((x.results.length:Nat):Int) == 0),(119,fun x=>((x.Ac.length:Nat):Int) == 0)]
def Em (l:List Int) (x:PM):Bool:=Akk.all fun p=>l.contains p.1 || p.2 x
def BW (fr to:Int→Bool) (gd:Bool) (x:PM):Bool:=fr x.src && (to x.dst && (x.Ch == 0 && gd))
def Q9 (x:PM):Bool:=
 if x.kind=3 then BW CY BE (decide (0 < x.ops.length) && (decide (x.ops.length≤24) && decide (A9 x.ops=0))) x && Em [116,108,101,111] x
 else if x.kind=5 then BW CY BE true x && Em [116,102] x
 else if x.kind=6 then BW BE CY true x && Em [116] x
 else false
theorem Afj {x:Mg} (h1:x.so.len=x.ops.length) (h2:x.sr.len=x.results.length) (h3:x.sw.len=x.Ac.length) (l:List Int):TD l x=Em l x.p:=by
 have e1:x.p.ops.length=x.so.len:=by rw [h1];rfl
 have e2:x.p.results.length=x.sr.len:=by rw [h2];exact List.length_map _
 have e3:x.p.Ac.length=x.sw.len:=by rw [h3];rfl
 unfold TD Em Akk;rw [show (zOf.map Prod.fst)=[113,98,116,108,118,101,109,97,110,99,112,102,114,111,115,119] from rfl];simp only [List.all_cons,List.all_nil,e1,e2,e3];rfl
theorem Agr {x:Mg} {w:World} (h:Su x w):Ab1 x=Q9 x.p:=by
 have z:=Afj (x:=x) h.1.len h.2.1.1.len h.2.2.len;unfold Ab1 Q9;rw [z,z,z];rfl
def Fi (k:Int):Bool:=k == 3 || (k == 5 || (k == 8 || (k == 10 || (k == 11 || k == 12))))
namespace PS
def bad (P:PS) (x:PM):Bool:=!Q9 x || (x.dst != P.c.id || !Fi x.kind)
def taken (P:PS) (x:PM):PS:=if x.kind=3 then P.clear.work x.Ah x.low x.Ao x.ops else P.clear.decide x.Ah x.flag
end PS
theorem PJ.taken {P:PS} (h:PJ P) {x:PM} (ht:DR x.Ah) (hl:DR x.low) (hb:P.bad x=false) (hk:x.kind=3∨x.kind=5∨x.kind=6):PJ (P.taken x):=by
 have hc:=h.clear;have hleft:=hc.left;have ho:P.clear.out.length=0:=rfl;unfold PS.taken;by_cases h3:x.kind=3
 ·rw [if_pos h3];unfold PS.bad at hb;simp only [Bool.or_eq_false_iff,Bool.not_eq_false'] at hb;have hm:=hb.1;unfold Q9 BW at hm;rw [if_pos h3] at hm;simp only [Bool.and_eq_true,decide_eq_true_iff] at hm;exact hc.work ht hl hm.1.2.2.2.2.2 hm.1.2.2.2.2.1 (by omega)
 ·rw [if_neg h3];exact hc.decide ht x.flag (by omega) (by show 0≤900;omega)
abbrev Mu:List (Int × Value):=[(3,Ez 73),(5,Ez 74),(8,Ez 75),(10,Ez 76),(11,Ez 77),(12,Ez 78)]
theorem Tf {w:World} {K:TR [.sc .m]→Pr} (k:∀ m w',Vj w' m (ekI .i64) Mu→w.heap.size≤m→Aa [] w w'→K (some m,()) w'):Cl Pg 30 [] false [.sc .m] K w:=by
 refine SE ?_;unfold Ui;dsimp only [Vi];refine Vf (ek:=ekI .i64) fun m w1 h1 n1 k1=>?_;refine Bb h1 3 _ rfl fun w2 h2 k2=>?_;have k2:=BT k1 k2 n1;refine Bb h2 5 _ rfl fun w3 h3 k3=>?_;have k3:=BT k2 k3 n1;refine Bb h3 8 _ rfl fun w4 h4 k4=>?_;have k4:=BT k3 k4 n1;refine Bb h4 10 _ rfl fun w5 h5 k5=>?_;have k5:=BT k4 k5 n1;refine Bb h5 11 _ rfl fun w6 h6 k6=>?_;have k6:=BT k5 k6 n1;refine Bb h6 12 _ rfl fun w7 h7 k7=>?_;exact k m w7 h7 n1 (BT k6 k7 n1)
def dV (k:Int):Value:=(Jd k Mu).getD Value.nilFunc
theorem Fk {w:World} {m:Nat} (h:Vj w m (ekI .i64) Mu) (x:Int) {K:Value→Bool→Pr} (k:K (dV x) (Fi x) w):LkK .v Value.nilFunc (.int .i64) (some m) (.int .i64 x) K w:=by
 have hi:Fi x=(Jd x Mu).isSome:=by
  unfold Fi Mu;simp only [Jd];by_cases h1:x=3
  ·simp [h1]
  ·by_cases h2:x=5
   ·simp [h2]
   ·by_cases h3:x=8
    ·simp [h3]
    ·by_cases h4:x=10
     ·simp [h4]
     ·by_cases h5:x=11
      ·simp [h5]
      ·by_cases h6:x=12
       ·simp [h6]
       ·simp [h1,h2,h3,h4,h5,h6]
 unfold dV at k;rw [hi] at k;cases hg:Jd x Mu with
 | none=>rw [hg] at k;exact AdI (kd:=.v) (GM .i64) h hg k
 | some v=>rw [hg] at k;exact Ae6 (kd:=.v) (x:=v) (GM .i64) h hg k
theorem Yh (x:Int):(dV x).oneCell'=true:=by
 unfold dV;cases hg:Jd x Mu with
 | none=>rfl
 | some v=>
  have:=Uy hg;unfold Mu at this;simp only [List.mem_cons,Prod.mk.injEq,List.not_mem_nil,or_false] at this;rcases this with h | h | h | h | h | h <;> (rw [h.2];rfl)
open Go Go.Sx
theorem AgG {w:World} {m:Nat} {T:Nat→Nat} {X:Mc} (h:A6 w m T X) (hJ:PJ X.p) (ho:X.p.out=[]) (hwr:X.p.writes=[]) (hR:AM X.p 90000) (x:Mg) (hx:Bq T (Su x) w) (hk:x.kind=3∨x.kind=5) (h3:x.kind=3→A9 x.ops=0∧x.ops.length≤24)
  {c a b:Nat} (hc:w.heap[c]?=some (.cells #[dV x.kind] 102 (0,0))) (ha:w.heap[a]?=some (.cells #[.pointer (some ⟨m,0,none⟩)] 28 (0,0))) (hb:w.heap[b]?=some (.cells (Sm x) 47 (0,0))) {K:TR []→Pr}
  (k:∀ X' T' w',A6 w' m T' X'→X'.p=(if x.kind=3 then X.p.work x.Ah x.low x.Ao x.ops else X.p.decide x.Ah x.flag)→DG X X'→Aq T T' w w'→K () w') :
  AB Pg (.func (.func 33) #[] #[.pointer (some ⟨c,0,none⟩),.pointer (some ⟨a,0,none⟩),.pointer (some ⟨b,0,none⟩)]) [] true [] K w:=by
 refine Q4 (cs:=[.pointer (some ⟨c,0,none⟩),.pointer (some ⟨a,0,none⟩),.pointer (some ⟨b,0,none⟩)]) (by kernel_rfl) ?_;refine DW _ _ _ ?_;unfold DQ;dsimp only [Ag,Bn,Vp];simp only [sb,hc,ha,hb];have hl:=hJ.left;have ol:X.p.out.length=0:=by rw [ho];rfl
 rcases hk with hk | hk
 ·rw [if_pos hk] at k;rw [show dV x.kind=Ez 73 from by rw [hk];rfl];refine Ap (by kernel_rfl) ?_;exact Aen h hJ.ok (by omega) (by have:=hJ.ct.ow;exact Nat.le_trans this (by omega)) x hx (h3 hk).1 (h3 hk).2 k
 ·rw [if_neg (by omega)] at k;rw [show dV x.kind=Ez 74 from by rw [hk];rfl];refine Ap (by kernel_rfl) ?_;refine YD h hJ.ok (by omega) (by have:=hJ.ct.all;have e:X.p.fin.length=X.d.fin.length:=rfl;omega) (by have e:X.p.writes.length=X.d.writes.length:=rfl;rw [← e,hwr];simp) hR x k
set_option maxHeartbeats 4000000 in
theorem Rj {w:World} {m:Nat} {T:Nat→Nat} {X:Mc} (h:A6 w m T X) (hJ:PJ X.p) (hR:AM X.p 90000) (x:Mg) (hx:Bq T (Su x) w) (hk:x.kind=3∨x.kind=5∨x.kind=6) (ht:DR x.Ah) (hlo:DR x.low) {K:TR [.ag [.sl,.sl,.b],.sc (.i .i64)]→Pr}
  (k1:X.p.bad x.p=true→∀ T' w',A6 w' m T' X→Aq T T' w w'→K ((⟨none,0,0⟩,⟨none,0,0⟩,false,()),180,()) w')
  (k2:X.p.bad x.p=false→∀ so sw out writes X2 T2 w2,A6 w2 m T2 X2→X2.p=(X.p.taken x.p).clear→out.map Mg.p=(X.p.taken x.p).out→writes=(X.p.taken x.p).writes→Bq T2 (MI so sw out writes) w2→DG X X2→Aq T T2 w w2→K ((so,sw,X.p.FR (X.p.taken x.p),()),0,()) w2) :
  Cl Pg 11 [.pointer (some ⟨m,0,none⟩),.agg (Sm x)] true [.ag [.sl,.sl,.b],.sc (.i .i64)] K w:=by
 refine EO _ _ _ _ _ _ _ _ _ _ _ _ _ _ _ _ _ _ _ x.so x.sr x.sw ?_;unfold EH;dsimp only [Ag,Vv,Li,Bn,SL,KV,Tb,Vb,Vi,Vp,LW];refine Ad fun a w1 h1 n1 q1=>?_;refine Ad fun b w2 h2 n2 q2=>?_;refine Ad fun e w3 h3 n3 q3=>?_;have q02:=Aj q1 q2;have g2:=h.Ab q02;have a2:=q2.Aw h1;have Ta2:T a=0:=h.new n1;have Tb2:T b=0:=(h.Ab q1).new n2;obtain ⟨g3,s3,e3⟩:=g2.own q3 n3 (Av h3);obtain ⟨a3,Ta3⟩:=e3.at a2 Ta2;obtain ⟨b3,Tb3⟩:=e3.at h2 Tb2;have ev3:Aq T (Dz e T) w w3:=(Aq.k0 q02).trans e3;have x3:=hx.Bm ev3;generalize hT3:Dz e T=T3 at *;have Te:T3 e=11:=by rw [← hT3];exact if_pos rfl
 have hm:=Agr x3.ok;refine AG (fun s w4=>∃ c,s=(some ⟨c,0,none⟩,Fi x.kind,())∧Aa [] w3 w4∧w4.heap[c]?=some (.cells #[dV x.kind] 102 (0,0))∧w3.heap.size≤c) (fun J hJ4=>?_) ?_
 ·simp only [sb,b3];have b3d:w3.drew.heap[b]?=_:=b3;have zd:w3.drew.heap.size=w3.heap.size:=rfl;refine ⟨?_,?_⟩
  ·refine Tf fun mm w4 h4 n4 q4=>?_;have b4:=q4.Aw b3d;simp only [sb,b4];refine ⟨by trivial,?_⟩;refine Fk h4 x.kind ?_;refine ⟨rfl,?_⟩;refine Ad fun c w5 h5 n5 q5=>?_;have b5:=q5.Aw b4;have h45:=h4.CM q5 (by simp);simp only [sb,b5];refine ⟨Fk h45 x.kind rfl,by trivial,?_⟩;refine Ax h5 0 _ (Yh _) (by simp) fun w6 h6 q6=>?_;simp only [Ck] at h6;exact hJ4 _ w6 ⟨c,rfl,BT (Aj (Aj (Am w3) q4) q5) q6 (by have:=q4.size;omega),h6,by have:=q4.size;omega⟩
  ·refine ⟨rfl,?_⟩;refine Ad fun c w4 h4 n4 q4=>?_;have b4:=q4.Aw b3d;simp only [sb,b4];refine ⟨by trivial,?_⟩;refine Tf fun mm w5 h5 n5 q5=>?_;have b5:=q5.Aw b4;simp only [sb,b5];refine ⟨by trivial,?_⟩;refine Fk h5 x.kind ?_;refine Ax (q5.Aw h4) 0 _ (Yh _) (by simp) fun w6 h6 q6=>?_;simp only [Ck] at h6;exact hJ4 _ w6 ⟨c,rfl,BT (Aj (Aj (Am w3) q4) q5) q6 (by omega),h6,by omega⟩
 ·rintro _ w4 ⟨c,rfl,q4,hc4,nc4⟩;have g4:=g3.Ab q4;have a4:=q4.Aw a3;have b4:=q4.Aw b3;have d4:=q4.Aw h3;have x4:=x3.Ab q4;have Tc:T3 c=0:=g3.new nc4;refine BR (X.p.bad x.p) (fun J hJ6=>?_) fun w5 q5=>?_
  ·unfold PS.bad at hJ6;simp only [sb,b4];refine AeM (x:=x) (x4.ok.1.Ab (Am w4)) hk fun w5 q5=>?_;have g5:=(g4.Ab (Am w4)).Ab q5;have a5:=q5.Aw (show w4.drew.heap[a]?=_ from a4);have b5:=q5.Aw (show w4.drew.heap[b]?=_ from b4);have q45:=Aj (Am w4) q5;rw [hm];cases c1:Q9 x.p with
   | false=>rw [c1] at hJ6;exact hJ6 w5 q45
   | true=>
    rw [c1,Bool.not_true,Bool.false_or] at hJ6;simp only [if_true,show ((0:Int) != 0)=false from rfl,sb,a5,b5,g5.hd,Bs];rw [show (x.p.dst != X.p.c.id)=(x.dst != X.c.id) from rfl,show Fi x.p.kind=Fi x.kind from rfl] at hJ6;cases c2:(x.dst != X.c.id) with
    | true=>rw [c2] at hJ6;exact hJ6 w5 q45
    | false=>
     rw [c2,Bool.false_or] at hJ6;exact hJ6 w5 q45
  ·have g5:=g4.Ab q5;have a5:=q5.Aw a4;have b5:=q5.Aw b4;have c5:=q5.Aw hc4;have d5:=q5.Aw d4;have x5:=x4.Ab q5;have ev5:Aq T T3 w w5:=ev3.trans (Aq.k0 (Aj q4 q5));have ze:w.heap.size≤e:=by have:=q02.size;omega
   cases hbad:X.p.bad x.p with
   | true=>
    simp only [Af];refine Mf d5 rfl rfl rfl fun w6 h6 q6=>?_;obtain ⟨g6,_⟩:=g5.LK Te q6;simp only [sb,h6];exact k1 hbad T3 w6 g6 (G8 ev5 q6 (by simp;exact ze))
   | false=>
    have hQ:=hJ.taken ht hlo hbad hk;have hk':x.kind=3∨x.kind=5:=by
     unfold PS.bad at hbad;simp only [Bool.or_eq_false_iff,Bool.not_eq_false'] at hbad;have hd:=hbad.2.2;rcases hk with h | h | h
     ·exact .inl h
     ·exact .inr h
     ·rw [show x.p.kind=6 from h] at hd;simp [Fi] at hd
    have hops:x.kind=3→A9 x.ops=0∧x.ops.length≤24:=by
     intro h3;unfold PS.bad at hbad;simp only [Bool.or_eq_false_iff,Bool.not_eq_false'] at hbad;have hm:=hbad.1;unfold Q9 BW at hm;rw [if_pos (show x.p.kind=3 from h3)] at hm;simp only [Bool.and_eq_true,decide_eq_true_iff] at hm;exact ⟨hm.1.2.2.2.2.2,hm.1.2.2.2.2.1⟩
    simp only [sb,a5];refine AjW (Q:=X.p.taken x.p) g5 (Ru hJ.ok hJ.ct).sd hJ.rg.shr hQ.ok.er hQ.rg.shr (Ru hQ.ok hQ.ct) ?_ ?_
    ·intro w6 T6 X6 h6 q6 x6 e6 K1 hK1;obtain ⟨a6,Ta6⟩:=e6.at a5 Ta3;obtain ⟨b6,Tb6⟩:=e6.at b5 Tb3;obtain ⟨c6,Tc6⟩:=e6.at c5 Tc;have hJ6:PJ X6.p:=by rw [q6];exact hJ.clear
     refine AgG h6 hJ6 (by rw [q6];rfl) (by rw [q6];rfl) (by rw [q6];exact hR) x (x5.Bm e6) hk' hops c6 a6 b6 ?_;intro X7 T7 w7 h7 q7 x7 e7;refine hK1 X7 T7 w7 h7 ?_ x7 e7;rw [q7,q6];rfl
    ·intro so sw out writes X7 T7 w7 h7 q7 ho hw i7 x7 e7;obtain ⟨d7,Td7⟩:=e7.Ql d5 Te;refine Mf d7 rfl rfl rfl fun w8 h8 q8=>?_;obtain ⟨g8,s8⟩:=h7.LK Td7 q8;simp only [sb,h8];exact k2 hbad so sw out writes X7 T7 w8 g8 q7 ho hw (i7.kt (by decide) s8) x7 (G8 (ev5.trans e7) q8 (by simp;exact ze))
open Go Go.Sx
theorem A6.st {w w':World} {m:Nat} {T:Nat→Nat} {X:Mc} (h:A6 w m T X) (k:Aa [X.d.BD] w w') {sM:Sl} {M:List Pa} (hs:w'.heap[X.d.BD]?=some (.cells #[.slice sM.p sM.len sM.cap] 27 (0,0))) (hM:A1 C2 w' sM M) (h0:∀ b∈rb sM,T b=0):A6 w' m T { X with d:={ X.d with sM:=sM,M:=M } }:=by
 have ht:=(h.r.RF.tag X.d.BD rfl).2;have s:CH 12 T T w w':=⟨k.FY fun b hb=>.inl (by simp at hb;rw [hb];exact ht),fun _ _ _=>rfl⟩;have q:=h.r;refine ⟨k.Mw h.hd (fun e=>by have:=h.t1;rw [e,ht] at this;cases this),h.t1,q.ow.kt (by decide) s,q.he.kt (by decide) (by decide) s,fun x hx=>(q.Ro x hx).kt (by decide) s,q.fi.kt (by decide) (by decide) s,q.wa.kt (by decide) (by decide) s,fun x hx=>(q.Ss x hx).kt (by decide) s,q.ta.kt (by decide) (by decide) s,q.ou.kt (by decide) (by decide) s,fun x hx=>(q.Wp x hx).kt (by decide) s,q.wr.kt (by decide) (by decide) s,q.li.kt (by decide) (by decide) s,q.bo.kt (by decide) (by decide) s,q.ro.kt (by decide) (by decide) s,q.lo.kt (by decide) s,⟨⟨hs,hM⟩,fun w2 _ hw=>⟨(hw _ (Av hs) (.inl ht)).trans hs,hM.heap fun b hb=>hw b (hM.lt b hb) (.inr (h0 b hb))⟩,fun b hb=>by subst hb;exact ⟨Av hs,ht⟩⟩,fun b hb=>Nat.lt_of_lt_of_le (q.bd b hb) k.size⟩
open Classical in
noncomputable def DI (m BD:Nat) (sh sf:Sl) (H:Nat→Prop):Nat→Nat:=fun b=>if b=m then 1 else if b=BD then 12 else if b∈Ai sh then 2 else if b∈Ai sf then 3 else if H b then 5 else 0
def bx0:Bx:=⟨0,0,BA [],BA [],0,false,false,false,⟨none,0,0⟩,⟨none,0,0⟩,BA [],[],[]⟩
set_option maxHeartbeats 4000000 in
theorem Aeu {w:World} {d:Sd} (h:YP d w) (hN:XU d) (hok:OA d.c d.Ac (d.held.map Hd.p) d.fin=true) (h0:d.held=[]) (hb:0≤d.c.Au∧d.c.Au + 1 < 18446744073709551616) {BD:Nat} {sM:Sl} {M:List Pa}
  (hs:w.heap[BD]?=some (.cells #[.slice sM.p sM.len sM.cap] 27 (0,0))) (hM:A1 C2 w sM M) (hn:BD ∉ rb sM) {K:TR [.sc .p,.sc (.i .i64)]→Pr}
  (k:∀ m T X w',A6 w' m T X→X.p=⟨{ d.c with Au:=d.c.Au + 1,HA:=false,e:=0 },d.Ac,[],d.fin,[],⟨[],[]⟩,[],[],[],none,M⟩→X.d.BD=BD→X.d.sM=sM→(∀ b,T b ≠ 0→b=BD∨w.heap.size≤b)→Aa [] w w'→K (some ⟨m,0,none⟩,0,()) w') :
  Cl Pg 9 [.agg (shA d),stV BD] true [.sc .p,.sc (.i .i64)] K w:=by
 refine Oa _ _ _ _ _ d.so d.sh d.sf _ _ _ _ _ _ _ _ _ _ ?_;unfold Uq;dsimp only [Al,SG,Ux,Az,Ll,Hr,UC,Lu,Acq,Ts,Tu,Vb,Vi,Vp,Vs,Vt,Vu,AcR];refine Ad fun a w1 h1 n1 k1=>?_;simp only [sb,h1];refine Lt (d:=d) (h.Ab k1) hN fun w2 k2=>?_;rw [hok];have h2:=k2.Aw h1;simp only [if_true,show ((0:Int) != 0)=false from rfl,Ae];refine ⟨false,rfl,?_⟩;simp only [sb,h2];have k02:=Aj k1 k2;refine MK (d:=d) (h.Ab k02) hN fun d' w3 hd k3=>?_;have k03:=Aj k02 k3;refine Cl.mono (Afp w3) ?_;rintro ⟨r,_⟩ w4 ⟨t,H,hr,hT,hH,k4⟩;dsimp only at hr;subst hr;have k04:=Aj k03 k4;refine ⟨rfl,?_⟩;refine Ad fun m w5 h5 n5 k5=>?_;have k05:=Aj k04 k5;have hw:IntKind.u64.wrap (d'.c.Au + 1)=d.c.Au + 1:=by
  rw [hd.c];have:=B1 (n:=(d.c.Au + 1).toNat) (by omega);rw [Int.toNat_of_nonneg (by omega)] at this;exact this
 simp only [sb,h5,A5,Nat.reduceAdd];refine Ax h5 1 _ rfl (by simp) fun w6 h6 k6=>?_;simp only [Ck] at h6;have nm:w.heap.size≤m:=by have:=k04.size;omega
 have k06:=BT k05 k6 nm;have hheld:d'.held=[]:=by
  have:=hd.held;rw [h0,List.map_nil,List.map_eq_nil_iff] at this;exact this
 have hshl:d'.sh.len=0:=by have:=hd.he.BY;rw [hheld] at this;exact this
 simp only [sb,h6];refine ⟨fun n st w'=>st=(none,0,0,())∧w6=w',⟨0,rfl,rfl⟩,?_⟩;rintro n _ w7 ⟨rfl,rfl⟩;dsimp only;rw [decide_eq_false (by rw [hshl];omega)];simp only [Ae];have s2:=k02.size;have s3:=k3.size;have s4:=k4.size;have s5:=k5.size;have s6:=k6.size;have hlt:=Av hs;have z2:∀ {α:Type} {ρ:Rec α} {s:Sl} {l:List α},Bh ρ w3 s l→∀ b∈Ai s,b < w3.heap.size:=fun hs b hb=>hs.lt b hb;have Hlt:∀ b,H b→b < w4.heap.size:=by obtain ⟨sh,sw,q⟩:=hT;exact q.bl
 have k36:Aa [m] w3 w6:=((Aj k4 k5).mono (by simp)).trans k6 (fun _ hx=>.inl hx);have ow6:=hd.ow.keeps k36 (fun b hb=>by have:=hd.ow.lt b hb;simp;omega);have he6:=hd.he.keeps k36 (fun b hb=>by have:=hd.he.lt b hb;simp;omega);have fi6:=hd.fi.keeps k36 (fun b hb=>by have:=hd.fi.lt b hb;simp;omega);have ta6:Ny w6 t H ⟨[],[]⟩:=hT.heap fun b hb=>by
  have:=Hlt b hb;exact ((k5.mono (m':=[m]) (by simp)).trans k6 (fun _ hx=>.inl hx)).get b this (by simp;omega)
 have tm:DI m BD d'.sh d'.sf H m=1:=if_pos rfl;have ts:DI m BD d'.sh d'.sf H BD=12:=by unfold DI;rw [if_neg (by omega),if_pos rfl]
 have th:∀ b∈Ai d'.sh,DI m BD d'.sh d'.sf H b=2:=fun b hb=>by
  have l1:=hd.fhe b hb;have l2:=hd.he.lt b hb;unfold DI;rw [if_neg (by omega),if_neg (by omega),if_pos hb]
 have tf:∀ b∈Ai d'.sf,DI m BD d'.sh d'.sf H b=3:=fun b hb=>by
  have l1:=hd.ffi b hb;have l2:=hd.fi.lt b hb;unfold DI;rw [if_neg (by omega),if_neg (by omega),if_neg (hd.d2 b hb),if_pos hb]
 have tH:∀ b,H b→DI m BD d'.sh d'.sf H b=5:=fun b hb=>by
  have l1:=hH b hb;have l2:=Hlt b hb;unfold DI;rw [if_neg (by omega),if_neg (by omega),if_neg (fun h=>by have:=hd.he.lt b h;omega),if_neg (fun h=>by have:=hd.fi.lt b h;omega),if_pos hb]
 have to:∀ b∈Ai d'.so,DI m BD d'.sh d'.sf H b=0:=fun b hb=>by
  have l1:=hd.fow b hb;have l2:=hd.ow.lt b hb;unfold DI;rw [if_neg (by omega),if_neg (by omega),if_neg (hd.d1 b hb).1,if_neg (hd.d1 b hb).2,if_neg (fun h=>by have:=hH b h;omega)]
 have old:∀ b,b < w.heap.size→b ≠ BD→DI m BD d'.sh d'.sf H b=0:=fun b hb hne=>by
  unfold DI;rw [if_neg (by omega),if_neg hne,if_neg (fun h=>by have:=hd.fhe b h;omega),if_neg (fun h=>by have:=hd.ffi b h;omega),if_neg (fun h=>by have:=hH b h;omega)]
 have tn:∀ b,DI m BD d'.sh d'.sf H b ≠ 0→(b=BD∨w.heap.size≤b)∧b < w6.heap.size:=fun b hb=>by
  unfold DI at hb;split at hb
  ·rename_i e;subst e;exact ⟨.inr nm,Av h6⟩
  ·split at hb
   ·rename_i e;subst e;exact ⟨.inl rfl,by omega⟩
   ·split at hb
    ·rename_i e;have:=hd.fhe b e;have:=hd.he.lt b e;exact ⟨.inr (by omega),by omega⟩
    ·split at hb
     ·rename_i e;have:=hd.ffi b e;have:=hd.fi.lt b e;exact ⟨.inr (by omega),by omega⟩
     ·split at hb
      ·rename_i e;have:=hH b e;have:=Hlt b e;exact ⟨.inr (by omega),by omega⟩
      ·exact absurd rfl hb
 have hs6:=k06.Aw hs;have hM6:=hM.Ab k06;generalize hTT:DI m BD d'.sh d'.sf H=T at *;refine k m T ⟨{ d.c with Au:=d.c.Au + 1,HA:=false,e:=0 },⟨d'.so,d'.sh,d'.sf,⟨none,0,0⟩,t,none,BD,⟨none,0,0⟩,⟨none,0,0⟩,⟨none,0,0⟩,d.Ac,[],d.fin,[],⟨[],[]⟩,H,[],[],[],bx0,sM,M⟩⟩ w6 ⟨?_,tm,?_⟩ rfl rfl rfl (fun b hb=>(tn b hb).1) k06
 ·rw [h6,hw,hd.c];rfl
 ·rw [hd.Ac] at ow6;rw [hd.fin] at fi6;rw [hheld] at he6;refine ⟨Bq.of ow6.C6 fun b hb=>to b (ow6.rb b hb),.of he6 th,by simp,.of fi6 tf,SI,by simp,⟨ta6,fun w2 _ hw=>ta6.heap fun b hb=>hw b (by have:=Hlt b hb;omega) (.inl (tH b hb)),fun b hb=>⟨by have:=Hlt b hb;omega,tH b hb⟩⟩,SI,by simp,SI,SI,⟨fun b hb=>(by cases hb),fun w2 _ _ b hb=>(by cases hb),fun b hb=>(by cases hb)⟩,SI,Bq.NI fun w=>A1.nil w,⟨⟨hs6,hM6⟩,fun w2 _ hw=>⟨(hw _ (Av hs6) (.inl ts)).trans hs6,hM6.heap fun b hb=>hw b (hM6.lt b hb) (.inr (old b (hM.lt b hb) (fun e=>hn (e ▸ hb))))⟩,fun b hb=>by subst hb;exact ⟨Av hs6,ts⟩⟩,fun b hb=>(tn b hb).2⟩
open Go Go.Sx
def c0:Sc:=⟨1,0,0,1,0,0,0,BA [],BA [],0,0,0,BA [],BA [],false,0⟩
def Adn:List Ow:=[⟨BA [],1⟩,⟨BA [109],2⟩]
def P0 (M:List Pa):PS:=⟨{ c0 with Au:=c0.Au + 1,HA:=false,e:=0 },Adn,[],[],[],⟨[],[]⟩,[],[],[],none,M⟩
def wk (t:Int) (o:Op):PM:=⟨3,0,1,0,0,0,0,0,t,0,0,1,0,0,0,false,BA [],BA [],[o],[],[]⟩
def TG (k v:List UInt8):Op:=⟨2,BA k,BA v,BA [],BA [],0⟩
def VA (k:List UInt8):Op:=⟨1,BA k,BA [],BA [],BA [],0⟩
def dc5:PM:=⟨5,0,1,0,0,0,0,0,5,0,0,0,0,0,0,true,BA [],BA [],[],[],[]⟩
def ak1:PM:=⟨6,1,0,0,0,0,0,0,0,0,0,0,0,0,0,false,BA [],BA [],[],[],[]⟩
def L1:PS:=((P0 []).taken (wk 5 (TG [97] [120])))
def L2:PS:=(L1.clear.taken (wk 6 (VA [97])))
def L3:PS:=(L2.clear.taken (wk 4 (VA [97])))
def L4:PS:=(L3.clear.taken dc5)
def L5:PS:=(L4.clear.taken (wk 7 (TG [122] [])))
theorem t0:OA c0 Adn [] []=true:=by kernel_rfl
theorem t1:(P0 []).bad (wk 5 (TG [97] [120]))=false:=by kernel_rfl
theorem t1o:L1.out.map (fun x=>x.code)=[3]:=by kernel_rfl
theorem t1l:(P0 []).FR L1=true:=by kernel_rfl
theorem t2:L1.clear.bad (wk 6 (VA [97]))=false:=by kernel_rfl
theorem t2o:L2.out.map (fun x=>x.code)=[5]:=by kernel_rfl
theorem t3:L2.clear.bad (wk 4 (VA [97]))=false:=by kernel_rfl
theorem t3o:L3.out.map (fun x=>x.code)=[]:=by kernel_rfl
theorem t3w:L3.clear.wait.map (fun x=>x.Ah)=[4]:=by kernel_rfl
theorem t4:L3.clear.bad dc5=false:=by kernel_rfl
theorem t4w:L4.writes.length=1:=by kernel_rfl
theorem t4o:L4.out.map (fun x=>(x.kind,x.Ah,x.results.map fun r=>r.value))=[(6,5,[]),(4,4,[BA [120]])]:=by kernel_rfl
theorem t5:L4.clear.bad (wk 7 (TG [122] []))=false:=by kernel_rfl
theorem t5o:L5.out.map (fun x=>x.code)=[4]:=by kernel_rfl
theorem t6:L5.clear.bad ak1=true:=by kernel_rfl
theorem t7:L5.clear.held.length=1:=by kernel_rfl
theorem t7b:L5.clear.c.Au=1:=by kernel_rfl
theorem b1:L1.clear.box=none:=by kernel_rfl
theorem b2:L2.clear.box=none:=by kernel_rfl
theorem b3:L3.clear.box=none:=by kernel_rfl
theorem b4:L4.clear.box=none:=by kernel_rfl
theorem b5:L5.clear.box=none:=by kernel_rfl
theorem Q1 {P:PS} (h:P.box=none) {n:Nat}:AM P n:=fun b hb=>by rw [h] at hb;cases hb
theorem PJ0 {M:List Pa} (hM:AU M) (hN:M.length≤200000):PJ (P0 M):=by
 have z:DR 0:=⟨by decide,by decide⟩;have o:DR 1:=⟨by decide,by decide⟩;exact ⟨⟨List.Pairwise.nil,List.Pairwise.nil,by simp [P0],List.Pairwise.nil,⟨List.Pairwise.nil,by simp [P0]⟩,by simp [P0],by simp [P0],hM,hN,rfl,by simp [P0],rfl,by simp [P0,PS.left],by simp [P0],by simp [P0]⟩,⟨⟨o,z,o,z,z,z,z,z,z⟩,by simp [P0],by simp [P0],by simp [P0]⟩,⟨by simp [P0],by simp [P0],by simp [P0,Adn]⟩,rfl⟩
open Go Go.Sx
abbrev mgK:List Kd:=[.i .i64,.i .i64,.i .i64,.i .i64,.i .i64,.i .i64,.i .u64,.i .u64,.i .u64,.i .u64,.i .u64,.i .u64,.i .u64,.i .u64,.i .u64,.b,.s,.s,.sl,.sl,.sl]
abbrev mgT (x:Mg):Kw mgK:=(x.kind,x.src,x.dst,x.Ch,x.code,x.peer,x.VT,x.Au,x.Ah,x.low,x.CZ,x.Ao,x.move,x.attempt,x.n,x.flag,x.FN,x.G6,x.so,x.sr,x.sw,())
abbrev Alj (x:Mg):List Value:=[.int .i64 x.kind,.int .i64 x.src,.int .i64 x.dst,.int .i64 x.Ch,.int .i64 x.code,.int .i64 x.peer,.int .u64 x.VT,.int .u64 x.Au,.int .u64 x.Ah,.int .u64 x.low,.int .u64 x.CZ,.int .u64 x.Ao,.int .u64 x.move,.int .u64 x.attempt,.int .u64 x.n,.bool x.flag,.string x.FN,.string x.G6,.slice x.so.p x.so.len x.so.cap,.slice x.sr.p x.sr.len x.sr.cap,.slice x.sw.p x.sw.len x.sw.cap]
theorem Ajp {w:World} {b:Nat} {cs:Array Value} {t:TypeId} (h:w.heap[b]?=some (.cells cs t (0,0))) (hs:cs.size=21) (x:Mg) {K:Pr} (k:∀ w',w'.heap[b]?=some (.cells (Sm x) t (0,0))→Aa [b] w w'→K w') :
  (St (Addr.add ⟨b,0,none⟩ 0) (.int .i64 x.kind) <| St (Addr.add ⟨b,0,none⟩ 1) (.int .i64 x.src) <| St (Addr.add ⟨b,0,none⟩ 2) (.int .i64 x.dst) <| St (Addr.add ⟨b,0,none⟩ 3) (.int .i64 x.Ch) <| St (Addr.add ⟨b,0,none⟩ 4) (.int .i64 x.code) <| St (Addr.add ⟨b,0,none⟩ 5) (.int .i64 x.peer) <| St (Addr.add ⟨b,0,none⟩ 6) (.int .u64 x.VT) <| St (Addr.add ⟨b,0,none⟩ 7) (.int .u64 x.Au) <| St (Addr.add ⟨b,0,none⟩ 8) (.int .u64 x.Ah) <| St (Addr.add ⟨b,0,none⟩ 9) (.int .u64 x.low) <| St (Addr.add ⟨b,0,none⟩ 10) (.int .u64 x.CZ) <| St (Addr.add ⟨b,0,none⟩ 11) (.int .u64 x.Ao) <| St (Addr.add ⟨b,0,none⟩ 12) (.int .u64 x.move) <| St (Addr.add ⟨b,0,none⟩ 13) (.int .u64 x.attempt) <| St (Addr.add ⟨b,0,none⟩ 14) (.int .u64 x.n) <| St (Addr.add ⟨b,0,none⟩ 15) (.bool x.flag) <| St (Addr.add ⟨b,0,none⟩ 16) (.string x.FN) <| St (Addr.add ⟨b,0,none⟩ 17) (.string x.G6) <| St (Addr.add ⟨b,0,none⟩ 18) (.slice x.so.p x.so.len x.so.cap) <| St (Addr.add ⟨b,0,none⟩ 19) (.slice x.sr.p x.sr.len x.sr.cap) <| St (Addr.add ⟨b,0,none⟩ 20) (.slice x.sw.p x.sw.len x.sw.cap) <| K) w:=L0 (vs:=Alj x) h hs.symm (by simp [Value.oneCell']) k
theorem AkY {w:World} {b:Nat} {t:TypeId} {x:Mg} (h:w.heap[b]?=some (.cells (Sm x) t (0,0))) {K:Kw mgK→Pr} (k:K (mgT x) w) :
  (A2 .i64 (Addr.add ⟨b,0,none⟩ 0) fun x0=>A2 .i64 (Addr.add ⟨b,0,none⟩ 1) fun x1=>A2 .i64 (Addr.add ⟨b,0,none⟩ 2) fun x2=>A2 .i64 (Addr.add ⟨b,0,none⟩ 3) fun x3=>A2 .i64 (Addr.add ⟨b,0,none⟩ 4) fun x4=>A2 .i64 (Addr.add ⟨b,0,none⟩ 5) fun x5=>A2 .u64 (Addr.add ⟨b,0,none⟩ 6) fun x6=>A2 .u64 (Addr.add ⟨b,0,none⟩ 7) fun x7=>A2 .u64 (Addr.add ⟨b,0,none⟩ 8) fun x8=>A2 .u64 (Addr.add ⟨b,0,none⟩ 9) fun x9=>A2 .u64 (Addr.add ⟨b,0,none⟩ 10) fun x10=>A2 .u64 (Addr.add ⟨b,0,none⟩ 11) fun x11=>A2 .u64 (Addr.add ⟨b,0,none⟩ 12) fun x12=>A2 .u64 (Addr.add ⟨b,0,none⟩ 13) fun x13=>A2 .u64 (Addr.add ⟨b,0,none⟩ 14) fun x14=>E7 (Addr.add ⟨b,0,none⟩ 15) fun x15=>BU (Addr.add ⟨b,0,none⟩ 16) fun x16=>BU (Addr.add ⟨b,0,none⟩ 17) fun x17=>DN (Addr.add ⟨b,0,none⟩ 18) fun x18=>DN (Addr.add ⟨b,0,none⟩ 19) fun x19=>DN (Addr.add ⟨b,0,none⟩ 20) fun x20=>K (x0,x1,x2,x3,x4,x5,x6,x7,x8,x9,x10,x11,x12,x13,x14,x15,x16,x17,x18,x19,x20,())) w:=by
 simp only [sb,h];exact k
def d0 (a:Nat):Sd:=⟨c0,⟨some ⟨a,0,none⟩,2,2⟩,⟨none,0,0⟩,⟨none,0,0⟩,Adn,[],[]⟩
theorem AbQ {w:World} {K:TR [.ag shK]→Pr} (k:∀ a w',YP (d0 a) w'→w.heap.size≤a→Aa [] w w'→K (shT (d0 a),()) w'):Cl Pg 10 [] false [.ag shK] K w:=by
 refine Kg ?_;unfold HC;dsimp only [Ux,Az,AjV,Tu,Vi,Vt,AQ];refine Ad fun b w1 h1 n1 k1=>?_;refine Ad fun a w2 h2 n2 k2=>?_;refine Ul (k2.Aw h1) rfl (d0 a) fun w3 h3 k3=>?_;refine Ai9 (K:=fun y=>K (y,())) h3 ?_;have ab:a ≠ b:=fun e=>by have:=Av h1;omega
 have h23:=k3.Mw h2 ab;refine k a w3 ⟨?_,A1.nil _,by simp [d0],A1.nil _⟩ (by have:=k1.size;omega) (BT (Aj k1 k2) k3 n1);have hs:Bh Mj w3 ⟨some ⟨a,0,none⟩,2,2⟩ Adn:=⟨rfl,Nat.le_refl _,.inr ⟨a,0,_,_,_,rfl,h23,(show (4:Nat)≤4 from Nat.le_refl _),fun j _=>by rw [Nat.zero_add];show (#[Value.string (BA []),.int .i64 1,.string (BA [109]),.int .i64 2]:Array Value)[j]?=([Value.string (BA []),.int .i64 1,.string (BA [109]),.int .i64 2]:List Value)[j]?;simp,by simp⟩⟩;exact hs.C6
def wkM (t:Int) (o:Op) (b:Nat):Mg:=⟨3,0,1,0,0,0,0,0,t,0,0,1,0,0,0,false,BA [],BA [],⟨some ⟨b,0,none⟩,1,1⟩,⟨none,0,0⟩,⟨none,0,0⟩,[o],[],[]⟩
theorem Tg (t:Int) (o:Op) {w:World} {K:TR [.ag mgK]→Pr} (k:∀ b w',w'.heap[b]?=some (.cells #[.int .i64 o.kind,.string o.key,.string o.value,.string o.lo,.string o.hi,.int .i64 o.AD] 81 (0,0))→w.heap.size≤b→Aa [] w w'→K (mgT (wkM t o b),()) w') :
  Cl Pg 24 [.int .u64 t,.agg #[.int .i64 o.kind,.string o.key,.string o.value,.string o.lo,.string o.hi,.int .i64 o.AD]] false [.ag mgK] K w:=by
 refine KU _ _ _ _ _ _ _ ?_;unfold Ij;dsimp only [Ar,K2',Bn,AN,Aft,Vt,KW];refine Ad fun a w1 h1 n1 k1=>?_;refine Ad fun b w2 h2 n2 k2=>?_;have h12:=k2.Aw h1;simp only [sb,h12];refine Ad fun c w3 h3 n3 k3=>?_;refine Ajp (k3.Aw h2) rfl (wkM t o c) fun w4 h4 k4=>?_;refine AkY (K:=fun y=>K (y,())) h4 ?_;have cb:c ≠ b:=fun e=>by have:=Av h2;omega
 exact k c w4 (k4.Mw h3 cb) (by have:=k1.size;have:=k2.size;omega) (BT (Aj (Aj k1 k2) k3) k4 (by have:=k1.size;omega))
theorem AbM {t:Int} {o:Op} {b:Nat} {w:World} {T:Nat→Nat} (h:w.heap[b]?=some (.cells #[.int .i64 o.kind,.string o.key,.string o.value,.string o.lo,.string o.hi,.int .i64 o.AD] 81 (0,0))) (hT:T b=0):Bq T (Su (wkM t o b)) w:=by
 have h1:=AeW h;have hi:Bq T (fun w=>A1 BQ w ⟨some ⟨b,0,none⟩,1,1⟩ [o]) w:=Bq.of h1 fun y hy=>by
  rw [Uf (by simp)] at hy;simp [OT] at hy;rw [hy];exact hT
 exact hi.and (Bq.NI (φ:=fun w=>Yi ⟨none,0,0⟩ [] w∧A1 Mj w ⟨none,0,0⟩ []) fun w=>⟨⟨A1.nil w,by simp⟩,A1.nil w⟩)
def dcM:Mg:=⟨5,0,1,0,0,0,0,0,5,0,0,0,0,0,0,true,BA [],BA [],⟨none,0,0⟩,⟨none,0,0⟩,⟨none,0,0⟩,[],[],[]⟩
def akM:Mg:=⟨6,1,0,0,0,0,0,0,0,0,0,0,0,0,0,false,BA [],BA [],⟨none,0,0⟩,⟨none,0,0⟩,⟨none,0,0⟩,[],[],[]⟩
structure AgK (b:Nat) (so sw:Sl) (l:Bool) (T:Nat→Nat) (w:World):Prop where
 h:w.heap[b]?=some (.cells #[.slice so.p so.len so.cap,.slice sw.p sw.len sw.cap,.bool l] 52 (0,0))
 t:T b=0
theorem AgK.Bm {b:Nat} {so sw:Sl} {l:Bool} {T T':Nat→Nat} {w w':World} (h:AgK b so sw l T w) (e:Aq T T' w w'):AgK b so sw l T' w':=⟨(e.at h.h h.t).1,(e.at h.h h.t).2⟩
theorem Aco {so sw:Sl} {l:Bool} {w:World} {m:Nat} {T:Nat→Nat} {X:Mc} (g:A6 w m T X) {K:Addr→Pr} (k:∀ b w',AgK b so sw l T w'→A6 w' m T X→Aa [] w w'→K ⟨b,0,none⟩ w') :
  At #[.slice none 0 0,.slice none 0 0,.bool false] 52 (fun a=>St (a.add 0) (.slice so.p so.len so.cap) <| St (a.add 1) (.slice sw.p sw.len sw.cap) <| St (a.add 2) (.bool l) <| K a) w:=
 bx3 rfl rfl rfl rfl fun b w' h' n' k'=>k b w' ⟨h',g.new n'⟩ (g.Ab k') k'
theorem AfT {α β:Type} {f:α→β} {l:List α} {b:β} (h:l.map f=[b]):∃ x,l=[x]∧f x=b:=by
 match l,h with
 | [x],h=>exact ⟨x,rfl,by simpa using h⟩
theorem Alq {α β:Type} {f:α→β} {l:List α} {a b:β} (h:l.map f=[a,b]):∃ x y,l=[x,y]∧f x=a∧f y=b:=by
 match l,h with
 | [x,y],h=>
  simp only [List.map_cons,List.map_nil,List.cons.injEq,and_true] at h;exact ⟨x,y,rfl,h.1,h.2⟩
set_option maxHeartbeats 8000000 in
theorem Ai0 {w:World} {K:TR [.sc .b]→Pr} (k:∀ w',Aa [] w w'→K (true,()) w'):Cl Pg 8 [] false [.sc .b] K w:=by
 refine La ?_;unfold Ip;dsimp only [Ag,Al,Ux,Vv,K2',Lb,Li,Ll,Ls,Lu,Bf,KV,Vb,Vi,Vp,Vt,Vu,AQ,LW];refine AbQ fun a w1 h1 n1 k1=>?_;refine Ad fun st w2 h2 n2 k2=>?_;have k02:=Aj k1 k2;have nst:w.heap.size≤st:=by have:=k1.size;omega
 refine Aeu (d:=d0 a) (BD:=st) (sM:=⟨none,0,0⟩) (M:=[]) (h1.Ab k2) (show XU (d0 a) from ⟨show (2:Nat)≤100000 by decide,show (0:Nat)≤100000 by decide,show (0:Nat)≤200000 by decide,by simp [d0]⟩) t0 rfl ⟨show (0:Int)≤0 by decide,show (0:Int) + 1 < 18446744073709551616 by decide⟩ h2 (A1.nil _) (by simp [rb]) ?_;intro m T X w3 h3 q3 _ _ hT k3;have q3:X.p=P0 []:=q3;have kk:∀ (T':Nat→Nat) (w':World),Aq T T' w3 w'→Aa [] w w':=fun T' w' e=>by
  have:=(Aj k02 k3).Mh (F:=fun _=>False) |>.trans e.kp (fun x hx=>.inr (by have:=hT x hx.1;have:=k02.size;omega));exact this.SU
 have J0:PJ (P0 []):=PJ0 ⟨by simp,List.Pairwise.nil⟩ (by simp);have oks:∀ n:Int,0≤n∧n < 10→DR n:=fun n hn=>⟨hn.1,by omega⟩;refine BR false (fun J hJ=>hJ _ (Aa.refl _ _)) fun w4 k4=>?_;simp only [Ae];have E0:Aq T T w3 w4:=Aq.k0 k4;have g0:=h3.Ab k4;have q0:=q3;obtain ⟨T0,hT0⟩:∃ T0,T0=T:=⟨_,rfl⟩;rw [← hT0] at g0 E0;obtain ⟨X0,hX0⟩:∃ X0,X0=X:=⟨_,rfl⟩;rw [← hX0] at g0 q0;obtain ⟨v0,hv0⟩:∃ v0,v0=w4:=⟨_,rfl⟩;rw [← hv0] at g0 E0 ⊢;refine Tg 5 (TG [97] [120]) fun y1 u1 hb1 nb1 kb1=>?_;have gg1:=g0.Ab kb1;have EE1:=E0.trans (Aq.k0 kb1);refine Rj gg1 (by rw [q0];exact J0) (by rw [q0];exact Q1 rfl) (wkM 5 (TG [97] [120]) y1) (AbM (t:=5) hb1 (g0.new nb1)) (.inl rfl) (oks 5 ⟨by decide,by decide⟩) (oks 0 ⟨by decide,by decide⟩) (fun hb=>by rw [q0] at hb;exact absurd (hb.symm.trans t1) (by decide)) ?_;intro _ so1 sw1 out1 wr1 X1 T1 u'1 h1 q1 ho1 hw1 I1 x1 e1;rw [q0] at q1 ho1 hw1;have q1:X1.p=L1.clear:=q1;have ho1:out1.map Mg.p=L1.out:=ho1;have hw1:wr1=L1.writes:=hw1;have J1:PJ L1.clear:=(J0.taken (x:=(wkM 5 (TG [97] [120]) y1).p) (oks 5 ⟨by decide,by decide⟩) (oks 0 ⟨by decide,by decide⟩) t1 (.inl rfl)).clear;refine Aco h1 fun d1 v1 D1 g1 k1=>?_;have E1:=(EE1.trans e1).trans (Aq.k0 k1:Aq T1 T1 _ _);have I1:=I1.Ab k1;refine Tg 6 (VA [97]) fun y2 u2 hb2 nb2 kb2=>?_;have gg2:=g1.Ab kb2;have EE2:=E1.trans (Aq.k0 kb2);have D1:=D1.Bm (Aq.k0 kb2:Aq T1 T1 _ _);have I1:=I1.Ab kb2;refine Rj gg2 (by rw [q1];exact J1) (by rw [q1];exact Q1 b1) (wkM 6 (VA [97]) y2) (AbM (t:=6) hb2 (g1.new nb2)) (.inl rfl) (oks 6 ⟨by decide,by decide⟩) (oks 0 ⟨by decide,by decide⟩) (fun hb=>by rw [q1] at hb;exact absurd (hb.symm.trans t2) (by decide)) ?_;intro _ so2 sw2 KI wr2 X2 T2 u'2 h2 q2 ho2 hw2 I2 x2 e2;rw [q1] at q2 ho2 hw2;have q2:X2.p=L2.clear:=q2;have ho2:KI.map Mg.p=L2.out:=ho2;have hw2:wr2=L2.writes:=hw2;have J2:PJ L2.clear:=(J1.taken (x:=(wkM 6 (VA [97]) y2).p) (oks 6 ⟨by decide,by decide⟩) (oks 0 ⟨by decide,by decide⟩) t2 (.inl rfl)).clear;refine Aco h2 fun d2 v2 D2 g2 k2=>?_;have E2:=(EE2.trans e2).trans (Aq.k0 k2:Aq T2 T2 _ _);have I2:=I2.Ab k2;have D1:=(D1.Bm e2).Bm (Aq.k0 k2:Aq T2 T2 _ _);have I1:=(I1.Bm e2).Ab k2;refine Tg 4 (VA [97]) fun y3 u3 hb3 nb3 kb3=>?_;have gg3:=g2.Ab kb3;have EE3:=E2.trans (Aq.k0 kb3);have D1:=D1.Bm (Aq.k0 kb3:Aq T2 T2 _ _);have I1:=I1.Ab kb3;have D2:=D2.Bm (Aq.k0 kb3:Aq T2 T2 _ _);have I2:=I2.Ab kb3;refine Rj gg3 (by rw [q2];exact J2) (by rw [q2];exact Q1 b2) (wkM 4 (VA [97]) y3) (AbM (t:=4) hb3 (g2.new nb3)) (.inl rfl) (oks 4 ⟨by decide,by decide⟩) (oks 0 ⟨by decide,by decide⟩) (fun hb=>by rw [q2] at hb;exact absurd (hb.symm.trans t3) (by decide)) ?_;intro _ so3 sw3 out3 wr3 X3 T3 u'3 h3 q3 ho3 hw3 I3 x3 e3;rw [q2] at q3 ho3 hw3;have q3:X3.p=L3.clear:=q3;have ho3:out3.map Mg.p=L3.out:=ho3;have hw3:wr3=L3.writes:=hw3;have J3:PJ L3.clear:=(J2.taken (x:=(wkM 4 (VA [97]) y3).p) (oks 4 ⟨by decide,by decide⟩) (oks 0 ⟨by decide,by decide⟩) t3 (.inl rfl)).clear;refine Aco h3 fun d3 v3 D3 g3 k3=>?_;have E3:=(EE3.trans e3).trans (Aq.k0 k3:Aq T3 T3 _ _);have I3:=I3.Ab k3;have D1:=(D1.Bm e3).Bm (Aq.k0 k3:Aq T3 T3 _ _);have I1:=(I1.Bm e3).Ab k3;have D2:=(D2.Bm e3).Bm (Aq.k0 k3:Aq T3 T3 _ _);have I2:=(I2.Bm e3).Ab k3;refine AbI g3 (by have h:=J3.ct.hw;rw [← q3] at h;have e:X3.p.wait.length=X3.d.wait.length:=List.length_map _;omega) fun rW vW hW fW kW=>?_;have lW:rW.len=1:=by
  have h1:rW.len=(X3.d.wait.map (·.Ah)).length:=hW.BY;have h2:=t3w;rw [← q3] at h2;have h3:=congrArg List.length h2;have e:X3.p.wait.length=X3.d.wait.length:=List.length_map _;rw [List.length_map] at h1 h3;rw [h1,← e,h3];rfl
 have g3:=g3.Ab kW;have E3:=E3.trans (Aq.k0 kW);have D1:=D1.Bm (Aq.k0 kW:Aq T3 T3 _ _);have I1:=I1.Ab kW;have D2:=D2.Bm (Aq.k0 kW:Aq T3 T3 _ _);have I2:=I2.Ab kW;have D3:=D3.Bm (Aq.k0 kW:Aq T3 T3 _ _);have I3:=I3.Ab kW;have gg4:=g3;have EE4:=E3;refine Rj gg4 (by rw [q3];exact J3) (by rw [q3];exact Q1 b3) (dcM) (Bq.NI (φ:=Su _) fun w=>⟨A1.nil w,⟨A1.nil w,by simp [dcM,akM]⟩,A1.nil w⟩) (.inr (.inl rfl)) (oks 5 ⟨by decide,by decide⟩) (oks 0 ⟨by decide,by decide⟩) (fun hb=>by rw [q3] at hb;exact absurd (hb.symm.trans t4) (by decide)) ?_;intro _ so4 sw4 out4 wr4 X4 T4 u'4 h4 q4 ho4 hw4 I4 x4 e4;rw [q3] at q4 ho4 hw4;have q4:X4.p=L4.clear:=q4;have ho4:out4.map Mg.p=L4.out:=ho4;have hw4:wr4=L4.writes:=hw4;have J4:PJ L4.clear:=(J3.taken (x:=(dcM).p) (oks 5 ⟨by decide,by decide⟩) (oks 0 ⟨by decide,by decide⟩) t4 (.inr (.inl rfl))).clear;refine Aco h4 fun d4 v4 D4 g4 k4=>?_;have E4:=(EE4.trans e4).trans (Aq.k0 k4:Aq T4 T4 _ _);have I4:=I4.Ab k4;have D1:=(D1.Bm e4).Bm (Aq.k0 k4:Aq T4 T4 _ _);have I1:=(I1.Bm e4).Ab k4;have D2:=(D2.Bm e4).Bm (Aq.k0 k4:Aq T4 T4 _ _);have I2:=(I2.Bm e4).Ab k4;have D3:=(D3.Bm e4).Bm (Aq.k0 k4:Aq T4 T4 _ _);have I3:=(I3.Bm e4).Ab k4;refine Tg 7 (TG [122] []) fun y5 u5 hb5 nb5 kb5=>?_;have gg5:=g4.Ab kb5;have EE5:=E4.trans (Aq.k0 kb5);have D1:=D1.Bm (Aq.k0 kb5:Aq T4 T4 _ _);have I1:=I1.Ab kb5;have D2:=D2.Bm (Aq.k0 kb5:Aq T4 T4 _ _);have I2:=I2.Ab kb5;have D3:=D3.Bm (Aq.k0 kb5:Aq T4 T4 _ _);have I3:=I3.Ab kb5;have D4:=D4.Bm (Aq.k0 kb5:Aq T4 T4 _ _);have I4:=I4.Ab kb5;refine Rj gg5 (by rw [q4];exact J4) (by rw [q4];exact Q1 b4) (wkM 7 (TG [122] []) y5) (AbM (t:=7) hb5 (g4.new nb5)) (.inl rfl) (oks 7 ⟨by decide,by decide⟩) (oks 0 ⟨by decide,by decide⟩) (fun hb=>by rw [q4] at hb;exact absurd (hb.symm.trans t5) (by decide)) ?_;intro _ so5 sw5 out5 wr5 X5 T5 u'5 h5 q5 ho5 hw5 I5 x5 e5;rw [q4] at q5 ho5 hw5;have q5:X5.p=L5.clear:=q5;have ho5:out5.map Mg.p=L5.out:=ho5;have hw5:wr5=L5.writes:=hw5;have J5:PJ L5.clear:=(J4.taken (x:=(wkM 7 (TG [122] []) y5).p) (oks 7 ⟨by decide,by decide⟩) (oks 0 ⟨by decide,by decide⟩) t5 (.inl rfl)).clear;refine Aco h5 fun d5 v5 D5 g5 k5=>?_;have E5:=(EE5.trans e5).trans (Aq.k0 k5:Aq T5 T5 _ _);have I5:=I5.Ab k5;have D1:=(D1.Bm e5).Bm (Aq.k0 k5:Aq T5 T5 _ _);have I1:=(I1.Bm e5).Ab k5;have D2:=(D2.Bm e5).Bm (Aq.k0 k5:Aq T5 T5 _ _);have I2:=(I2.Bm e5).Ab k5;have D3:=(D3.Bm e5).Bm (Aq.k0 k5:Aq T5 T5 _ _);have I3:=(I3.Bm e5).Ab k5;have D4:=(D4.Bm e5).Bm (Aq.k0 k5:Aq T5 T5 _ _);have I4:=(I4.Bm e5).Ab k5;refine Rj g5 (by rw [q5];exact J5) (by rw [q5];exact Q1 b5) akM (Bq.NI (φ:=Su _) fun w=>⟨A1.nil w,⟨A1.nil w,by simp [akM]⟩,A1.nil w⟩) (.inr (.inr rfl)) (oks 0 ⟨by decide,by decide⟩) (oks 0 ⟨by decide,by decide⟩) ?_ (fun hb=>by rw [q5] at hb;exact absurd (t6.symm.trans hb) (by decide));intro _ T6 u6 h6 e6;refine Aco h6 fun d6 v6 D6 g6 k6=>?_;have E6:=(E5.trans e6).trans (Aq.k0 k6:Aq T6 T6 _ _);have D1:=(D1.Bm e6).Bm (Aq.k0 k6:Aq T6 T6 _ _);have I1:=(I1.Bm e6).Ab k6;have D2:=(D2.Bm e6).Bm (Aq.k0 k6:Aq T6 T6 _ _);have I2:=(I2.Bm e6).Ab k6;have D3:=(D3.Bm e6).Bm (Aq.k0 k6:Aq T6 T6 _ _);have I3:=(I3.Bm e6).Ab k6;have D4:=(D4.Bm e6).Bm (Aq.k0 k6:Aq T6 T6 _ _);have I4:=(I4.Bm e6).Ab k6;have D5:=(D5.Bm e6).Bm (Aq.k0 k6:Aq T6 T6 _ _);have I5:=(I5.Bm e6).Ab k6;refine Yr g6 (PN.sd (by rw [q5];exact Ru J5.ok J5.ct)) fun dS w7 hS k7=>?_;refine Ad fun s w8 h8 n8 k8=>?_;refine Ul h8 rfl dS fun w9 h9 k9=>?_;have k79:Aa [] v6 w9:=BT (Aj k7 k8) k9 (by have:=k7.size;omega);have E9:=E6.trans (Aq.k0 k79:Aq T6 T6 _ _);have D1:=D1.Bm (Aq.k0 k79:Aq T6 T6 _ _);have I1:=I1.Ab k79;have D2:=D2.Bm (Aq.k0 k79:Aq T6 T6 _ _);have I2:=I2.Ab k79;have D3:=D3.Bm (Aq.k0 k79:Aq T6 T6 _ _);have I3:=I3.Ab k79;have D4:=D4.Bm (Aq.k0 k79:Aq T6 T6 _ _);have I4:=I4.Ab k79;have D5:=D5.Bm (Aq.k0 k79:Aq T6 T6 _ _);have I5:=I5.Ab k79;rw [hT0] at E9;have fin:=k w9 (kk _ _ E9);clear k kk;obtain ⟨z1,rfl,hz1⟩:∃ z,out1=[z]∧z.code=3:=AfT (f:=fun x:Mg=>x.code) (by have h:=congrArg (List.map (fun x:PM=>x.code)) ho1;rw [t1o,List.map_map] at h;exact h);obtain ⟨z2,rfl,hz2⟩:∃ z,KI=[z]∧z.code=5:=AfT (f:=fun x:Mg=>x.code) (by have h:=congrArg (List.map (fun x:PM=>x.code)) ho2;rw [t2o,List.map_map] at h;exact h);obtain ⟨z5,rfl,hz5⟩:∃ z,out5=[z]∧z.code=4:=AfT (f:=fun x:Mg=>x.code) (by have h:=congrArg (List.map (fun x:PM=>x.code)) ho5;rw [t5o,List.map_map] at h;exact h);have hl3:so3.len=0:=by
  have h:=congrArg (List.map (fun x:PM=>x.code)) ho3;rw [t3o,List.map_map] at h;have h2:=congrArg List.length h;rw [List.length_map] at h2;rw [I3.ok.1.len,h2];rfl
 obtain ⟨z4,z4',rfl,hk4,ht4,hr4⟩:∃ z z',out4=[z,z']∧z.kind=6∧z'.Ah=4∧z'.results.map (fun r=>r.value)=[BA [120]]:=by
  have h:=congrArg (List.map (fun x:PM=>(x.kind,x.Ah,x.results.map fun r=>r.value))) ho4;rw [t4o,List.map_map] at h;obtain ⟨z,z',e,h1,h2⟩:=Alq h;simp only [Function.comp,Prod.mk.injEq] at h1 h2;refine ⟨z,z',e,h1.1,h2.2.1,?_⟩;have:=h2.2.2;rw [show z'.p.results=z'.results.map Rs.p from rfl,List.map_map] at this;exact this
 obtain ⟨rr,hrr,hrv⟩:=AfT hr4;have hw4l:sw4.len=1:=by rw [I4.ok.2.2.len,hw4,t4w]
 have hD4:=(I4.ok.2.1 z4' (by simp)).2.1.1;have hsr:z4'.sr.len=1:=by rw [hD4.len,hrr];rfl
 have hheld:dS.sh.len=1:=by
  have h1:dS.sh.len=dS.held.length:=hS.he.BY;have h2:=congrArg List.length hS.held;rw [List.length_map,List.length_map] at h2;have h3:=t7;rw [← q5] at h3;have e:X5.p.held.length=X5.d.held.length:=List.length_map _;rw [h1,h2];show X5.d.held.length=1;omega
 have hboot:dS.c.Au=1:=by rw [hS.c];have h:=t7b;rw [← q5] at h;exact h
 have hlast:X0.p.FR (X0.p.taken (wkM 5 (TG [97] [120]) y1).p)=true:=by rw [q0];exact t1l
 have one:((((1:Nat):Int):Int) == 1)=true:=rfl;simp only [sb,D1.h];rw [show so1.len=1 from I1.ok.1.len,one];simp only [sb,D1.h];refine ld1 (ρ:=Yz) (i:=0) I1.ok.1 rfl 4 (.i .i64) z1.code rfl ?_;rw [hz1,show ((3:Int) == 3)=true from rfl];simp only [sb,D1.h];rw [hlast];simp only [sb,D2.h];rw [show so2.len=1 from I2.ok.1.len,one];simp only [sb,D2.h];refine ld1 (ρ:=Yz) (i:=0) I2.ok.1 rfl 4 (.i .i64) z2.code rfl ?_;rw [hz2,show ((5:Int) == 5)=true from rfl];simp only [sb,D3.h];rw [hl3,show ((((0:Nat):Int):Int) == 0)=true from rfl];simp only [sb];rw [lW,one];simp only [sb,D4.h];rw [hw4l,one];simp only [sb,D4.h];rw [show so4.len=2 from I4.ok.1.len,show ((((2:Nat):Int):Int) == 2)=true from rfl];simp only [sb,D4.h];refine ld1 (ρ:=Yz) (i:=0) I4.ok.1 rfl 0 (.i .i64) z4.kind rfl ?_;rw [hk4,show ((6:Int) == 6)=true from rfl];simp only [sb,D4.h];refine ld1 (ρ:=Yz) (i:=1) I4.ok.1 rfl 8 (.i .u64) z4'.Ah rfl ?_;rw [ht4,show ((4:Int) == 4)=true from rfl];simp only [sb,D4.h];refine ld1 (ρ:=Yz) (i:=1) I4.ok.1 rfl 19 .sl z4'.sr rfl ?_;rw [hsr,one];simp only [sb,D4.h];refine ld1 (ρ:=Yz) (i:=1) I4.ok.1 rfl 19 .sl z4'.sr rfl ?_;refine ld1 (ρ:=Xg) (i:=0) hD4 (by rw [hrr];rfl) 1 .s rr.value rfl ?_;rw [hrv,show seq (BA [120]) (BA [120])=true from by rw [seq_eq];simp];simp only [sb,D5.h];rw [show so5.len=1 from I5.ok.1.len,one];simp only [sb,D5.h];refine ld1 (ρ:=Yz) (i:=0) I5.ok.1 rfl 4 (.i .i64) z5.code rfl ?_;rw [hz5,show ((4:Int) == 4)=true from rfl];simp only [sb];rw [show ((180:Int) == 180)=true from rfl];simp only [sb,h9];rw [hheld,one];simp only [sb,h9];rw [hboot,show ((1:Int) == 1)=true from rfl];exact fin
open Go Go.Sx
theorem Oy {P:PS} (h:Bj P) (t:Int) (hf:P.fin.length < 100000):FM (P.BV t) (P.finish t):=by
 obtain ⟨h1,_⟩:=h.BV t hf;obtain ⟨h2,_⟩:=h1.release t;exact (Pm _ t).trans (Cv DU h2)
theorem Vg {P:PS} (h:PJ P):P.fin.length < 100000:=by have:=h.ct.all;omega
open Go Go.Sx
structure Sp where
 x:Mg
 again:Bool
def spR:Rec Sp:=⟨[.i .i64,.i .i64,.i .i64,.i .i64,.i .i64,.i .i64,.i .u64,.i .u64,.i .u64,.i .u64,.i .u64,.i .u64,.i .u64,.i .u64,.i .u64,.b,.s,.s,.sl,.sl,.sl,.b],fun y=>(y.x.kind,y.x.src,y.x.dst,y.x.Ch,y.x.code,y.x.peer,y.x.VT,y.x.Au,y.x.Ah,y.x.low,y.x.CZ,y.x.Ao,y.x.move,y.x.attempt,y.x.n,y.x.flag,y.x.FN,y.x.G6,y.x.so,y.x.sr,y.x.sw,y.again,()),rfl,by simp⟩
theorem Aj7 {w:World} {s:Sl} {l:List Sp} (h:A1 spR w s l) {i:Nat} {y:Sp} (hx:l[i]?=some y) {K:Int→Int→Int→Int→Int→Int→Int→Int→Int→Int→Int→Int→Int→Int→Int→Bool→ByteArray→ByteArray→Sl→Sl→Sl→Bool→Pr} (k:K y.x.kind y.x.src y.x.dst y.x.Ch y.x.code y.x.peer y.x.VT y.x.Au y.x.Ah y.x.low y.x.CZ y.x.Ao y.x.move y.x.attempt y.x.n y.x.flag y.x.FN y.x.G6 y.x.so y.x.sr y.x.sw y.again w) :
  Ix s (i:Int) 22 (fun a=>A2 .i64 (a.add 0) fun x0=>A2 .i64 (a.add 1) fun x1=>A2 .i64 (a.add 2) fun x2=>A2 .i64 (a.add 3) fun x3=>A2 .i64 (a.add 4) fun x4=>A2 .i64 (a.add 5) fun x5=>A2 .u64 (a.add 6) fun x6=>A2 .u64 (a.add 7) fun x7=>A2 .u64 (a.add 8) fun x8=>A2 .u64 (a.add 9) fun x9=>A2 .u64 (a.add 10) fun x10=>A2 .u64 (a.add 11) fun x11=>A2 .u64 (a.add 12) fun x12=>A2 .u64 (a.add 13) fun x13=>A2 .u64 (a.add 14) fun x14=>E7 (a.add 15) fun x15=>BU (a.add 16) fun x16=>BU (a.add 17) fun x17=>DN (a.add 18) fun x18=>DN (a.add 19) fun x19=>DN (a.add 20) fun x20=>E7 (a.add 21) fun x21=>K x0 x1 x2 x3 x4 x5 x6 x7 x8 x9 x10 x11 x12 x13 x14 x15 x16 x17 x18 x19 x20 x21) w:=
 h.ld (K:=fun z=>K z.1 z.2.1 z.2.2.1 z.2.2.2.1 z.2.2.2.2.1 z.2.2.2.2.2.1 z.2.2.2.2.2.2.1 z.2.2.2.2.2.2.2.1 z.2.2.2.2.2.2.2.2.1 z.2.2.2.2.2.2.2.2.2.1 z.2.2.2.2.2.2.2.2.2.2.1 z.2.2.2.2.2.2.2.2.2.2.2.1 z.2.2.2.2.2.2.2.2.2.2.2.2.1 z.2.2.2.2.2.2.2.2.2.2.2.2.2.1 z.2.2.2.2.2.2.2.2.2.2.2.2.2.2.1 z.2.2.2.2.2.2.2.2.2.2.2.2.2.2.2.1 z.2.2.2.2.2.2.2.2.2.2.2.2.2.2.2.2.1 z.2.2.2.2.2.2.2.2.2.2.2.2.2.2.2.2.2.1 z.2.2.2.2.2.2.2.2.2.2.2.2.2.2.2.2.2.2.1 z.2.2.2.2.2.2.2.2.2.2.2.2.2.2.2.2.2.2.2.1 z.2.2.2.2.2.2.2.2.2.2.2.2.2.2.2.2.2.2.2.2.1 z.2.2.2.2.2.2.2.2.2.2.2.2.2.2.2.2.2.2.2.2.2.1) hx k
theorem AjF (y:Sp) {K:Addr→Pr} {w:World} (h:∀ b w1,w1.heap[b]?=some (.cells #[.int .i64 y.x.kind,.int .i64 y.x.src,.int .i64 y.x.dst,.int .i64 y.x.Ch,.int .i64 y.x.code,.int .i64 y.x.peer,.int .u64 y.x.VT,.int .u64 y.x.Au,.int .u64 y.x.Ah,.int .u64 y.x.low,.int .u64 y.x.CZ,.int .u64 y.x.Ao,.int .u64 y.x.move,.int .u64 y.x.attempt,.int .u64 y.x.n,.bool y.x.flag,.string y.x.FN,.string y.x.G6,.slice y.x.so.p y.x.so.len y.x.so.cap,.slice y.x.sr.p y.x.sr.len y.x.sr.cap,.slice y.x.sw.p y.x.sw.len y.x.sw.cap,.bool y.again] 49 (0,0))→w.heap.size≤b→Aa [] w w1→K ⟨b,0,none⟩ w1) :
  At #[.int .i64 0,.int .i64 0,.int .i64 0,.int .i64 0,.int .i64 0,.int .i64 0,.int .u64 0,.int .u64 0,.int .u64 0,.int .u64 0,.int .u64 0,.int .u64 0,.int .u64 0,.int .u64 0,.int .u64 0,.bool false,.string (BA []),.string (BA []),.slice none 0 0,.slice none 0 0,.slice none 0 0,.bool false] 49 (fun a=>St (a.add 0) (.int .i64 y.x.kind) <| St (a.add 1) (.int .i64 y.x.src) <| St (a.add 2) (.int .i64 y.x.dst) <| St (a.add 3) (.int .i64 y.x.Ch) <| St (a.add 4) (.int .i64 y.x.code) <| St (a.add 5) (.int .i64 y.x.peer) <| St (a.add 6) (.int .u64 y.x.VT) <| St (a.add 7) (.int .u64 y.x.Au) <| St (a.add 8) (.int .u64 y.x.Ah) <| St (a.add 9) (.int .u64 y.x.low) <| St (a.add 10) (.int .u64 y.x.CZ) <| St (a.add 11) (.int .u64 y.x.Ao) <| St (a.add 12) (.int .u64 y.x.move) <| St (a.add 13) (.int .u64 y.x.attempt) <| St (a.add 14) (.int .u64 y.x.n) <| St (a.add 15) (.bool y.x.flag) <| St (a.add 16) (.string y.x.FN) <| St (a.add 17) (.string y.x.G6) <| St (a.add 18) (.slice y.x.so.p y.x.so.len y.x.so.cap) <| St (a.add 19) (.slice y.x.sr.p y.x.sr.len y.x.sr.cap) <| St (a.add 20) (.slice y.x.sw.p y.x.sw.len y.x.sw.cap) <| St (a.add 21) (.bool y.again) <| (K a)) w:=
 Ei (vs:=spR.c y) rfl (spR.one y) h
theorem Ag8 {x:Mg} {w0 w:World} {T:Nat→Nat} (h:Su x w0) (k:Aa [] w0 w) (ht:∀ b,b < w0.heap.size→T b=0):Bq T (Su x) w:=by
 have z:∀ {α:Type} {ρ:Rec α} {s:Sl} {l:List α},A1 ρ w0 s l→Bq T (fun w=>A1 ρ w s l) w:=fun h=>Bq.of (h.Ab k) fun b hb=>ht b (h.lt b hb);have h2:=h.2.1;refine (z h.1).and (Bq.and ⟨⟨h2.1.Ab k,fun y hy=>A1.Ab (h2.2 y hy) k⟩,fun w' hs hw=>⟨(z h2.1).st w' hs hw,fun y hy=>(z (h2.2 y hy)).st w' hs hw⟩⟩ (z h.2.2))
open Go Go.Sx
theorem PJ.store {P:PS} (h:PJ P) {M:List Pa} (hM:AU M) (hN:M.length≤200000):PJ { P with M:=M }:=
 ⟨⟨h.ok.wt,h.ok.hd,h.ok.dj,h.ok.fn,h.ok.tb,h.ok.wv,h.ok.hv,hM,hN,h.ok.wr,h.ok.wn,h.ok.er,h.ok.bd,h.ok.hn,h.ok.fl⟩,⟨h.rg.c,h.rg.held,h.rg.wait,h.rg.fin⟩,⟨h.ct.hw,h.ct.all,h.ct.ow⟩,h.line⟩
theorem AgT {P:PS} (h:Bj P) (t Ao:Int) {ops:List Op} (ho:A9 ops=0) (hl:ops.length≤24) (hb:P.out.length + P.left + 60≤20000):(P.Du t Ao ops).M=P.M:=by
 unfold PS.Du;cases hg:P.gone t with
 | true=>rw [if_pos rfl]
 | false=>
  rw [if_neg (by simp)];cases hh:P.TJ t with
  | true=>
   rw [if_pos rfl];split <;> rfl
  | false=>
   rw [if_neg (by simp)];cases hr:P.C7 Ao ops with
   | true=>rw [if_pos rfl];rfl
   | false=>
    rw [if_neg (by simp)];have hwis:P.Pb t=false:=by unfold PS.gone at hg;simp only [Bool.or_eq_false_iff] at hg;exact hg.2
    have hful:P.full=false:=by unfold PS.C7 at hr;simp only [Bool.or_eq_false_iff] at hr;exact hr.2.1
    have hc:P.held.length + P.wait.length < 6:=by unfold PS.full at hful;simp only [Bool.or_eq_false_iff,decide_eq_false_iff_not] at hful;omega
    obtain ⟨h1,b1⟩:=h.await ho hl (KY h hwis) (Nd h hh) (by omega) hb;obtain ⟨h2,b2⟩:=h1.Cw 30 (t:=t);exact ((GO 30 (t:=t) h1).trans (Cv DU h2)).M
theorem Afg {P:PS} (h:PJ P) (u:Int) (flag:Bool) (hb:P.out.length + 1 + P.left≤20000) (hw:P.writes.length≤900):(P.decide u flag).M=P.M:=by
 have hfM:∀ {Q:PS},Bj Q→Q.fin.length < 100000→(Q.finish u).M=Q.M:=fun {Q} hq hf=>(Oy hq u hf).M.trans (by unfold PS.BV;split <;> rfl);have ha:Bj (P.Fh u):=h.ok.Fh u hb;have hf:=Vg h;unfold PS.decide;cases hh:P.TJ u with
 | true=>
  rw [if_pos rfl];obtain ⟨x,hx,hxt⟩:=MN h.ok hh;rw [hx];dsimp only;obtain ⟨v1,v2⟩:=h.ok.hv x (List.mem_of_getElem? hx);have hwl:=OZ flag x.ops;have hu:Bj ((P.Fh u).AO (P.DY u)):=ha.AO _;have hwa:Bj (((P.Fh u).AO (P.DY u)).writeAll (PS.Mn flag x.ops)):=hu.writeAll (OC v1) (by show P.writes.length + _≤1000;omega);have e:=Bz (PS.Mn flag x.ops) ((P.Fh u).AO (P.DY u));rw [hfM hwa (by rw [e];exact hf),e];rfl
 | false=>
  rw [if_neg (by simp)];cases hwi:P.Pb u with
  | true=>
   rw [if_pos rfl];obtain ⟨x,hx,hxt⟩:=D9 h.ok hwi;obtain ⟨hu,_⟩:=ha.Ay (i:=P.Ce u) hx;rw [hfM hu hf];rfl
  | false=>
   rw [if_neg (by simp)];rfl
open Go Go.Sx
theorem Ki (a:ByteArray):seq a a=true:=by rw [seq_eq];simp
open Go Go.Sx
def VI (P:PS):Prop:=∀ x∈P.out,x.kind=4→x.code=3→∃ h∈P.held,h.Ah=x.Ah∧x.results=(Bd (Bd P.M P.writes).1 h.ops).2
theorem VI.same {P Q:PS} (h:VI P) (ho:Q.out=P.out) (hh:Q.held=P.held) (hM:Q.M=P.M) (hw:Q.writes=P.writes):VI Q:=by
 unfold VI;rw [ho,hh,hM,hw];exact h
theorem VI.Df {P:PS} (h:VI P) (t c:Int) (rs:List Rp) (hc:c ≠ 3):VI (P.Df t c rs):=by
 intro x hx h4 h3;rcases List.mem_append.1 hx with hx | hx
 ·exact h x hx h4 h3
 ·rw [List.mem_singleton] at hx;subst hx;exact absurd h3 hc
theorem VI.yes {P:PS} (h:VI P) {i:Nat} {x:PW}:VI (((P.Ay i).hold x.Ah x.ops).Df x.Ah 3 (((P.Ay i).hold x.Ah x.ops).results x.ops)):=by
 intro y hy h4 h3;rcases List.mem_append.1 hy with hy | hy
 ·obtain ⟨z,hz,e1,e2⟩:=h y hy h4 h3;refine ⟨z,?_,e1,e2⟩;show z∈P.held.take ((P.Ay i).DY x.Ah) ++ ⟨x.Ah,x.ops⟩ :: P.held.drop ((P.Ay i).DY x.Ah);rw [← List.take_append_drop ((P.Ay i).DY x.Ah) P.held] at hz;rcases List.mem_append.1 hz with hz | hz
  ·exact List.mem_append.2 (.inl hz)
  ·exact List.mem_append.2 (.inr (List.mem_cons_of_mem _ hz))
 ·rw [List.mem_singleton] at hy;subst hy;exact ⟨⟨x.Ah,x.ops⟩,List.mem_append.2 (.inr List.mem_cons_self),rfl,rfl⟩
theorem VI.Cw:∀ (f:Nat) {P:PS} {t:Int},Bj P→VI P→VI (P.Cw f t)
 | 0,P,t,_,v=>v
 | f + 1,P,t,h,v=>by
  unfold PS.Cw;split
  ·exact v
  ·rename_i hw;have hw:P.Pb t=true:=by simpa using hw
   obtain ⟨x,hx,ht⟩:=D9 h hw;rw [hx];dsimp only;subst ht;split
   ·exact v.yes
   ·split
    ·exact v
    ·rename_i lk hlk;obtain ⟨h1,_⟩:=h.Cq hx hlk;have v1:VI (P.Cq (P.Ce x.Ah) x lk):=v.same rfl rfl rfl rfl;split
     ·exact v1
     ·split
      ·exact VI.same (P:=((P.Cq (P.Ce x.Ah) x lk).Ay (P.Ce x.Ah)).Df x.Ah 5 []) ((VI.same (P:=P.Cq (P.Ce x.Ah) x lk) v1 rfl rfl rfl rfl).Df x.Ah 5 [] (by decide)) rfl rfl rfl rfl
      ·exact VI.Cw f h1 v1
theorem VI.event {P:PS} (h:Bj P) (v:VI P) (ev:Ev):VI (P.event ev):=by
 unfold PS.event;split
 ·exact v.Cw 30 h
 ·split
  ·exact (VI.same (P:=P) v rfl rfl rfl rfl).Df _ 5 [] (by decide)
  ·exact v
theorem VI.through:∀ (f:Nat) {P:PS},Bj P→VI P→VI (P.through f)
 | 0,P,_,v=>v
 | f + 1,P,h,v=>by
  cases hl:P.line with
  | nil=>
   unfold PS.through;rw [hl];exact v
  | cons ev l=>
   rw [CQ hl];obtain ⟨h1,_⟩:=h.pop hl;exact VI.through f (h1.event ev).1 (VI.event h1 (VI.same (P:=P) v rfl rfl rfl rfl) ev)
theorem VI.Du {P:PS} (h:Bj P) (v:VI P) (t Ao:Int) {ops:List Op} (ho:A9 ops=0) (hl:ops.length≤24) (hb:P.out.length + P.left + 60≤20000):VI (P.Du t Ao ops):=by
 unfold PS.Du;cases hg:P.gone t with
 | true=>rw [if_pos rfl];exact v
 | false=>
  rw [if_neg (by simp)];cases hh:P.TJ t with
  | true=>
   rw [if_pos rfl];obtain ⟨x,hx,hxt⟩:=MN h hh;rw [hx];dsimp only;intro y hy h4 h3;rcases List.mem_append.1 hy with hy | hy
   ·exact v y hy h4 h3
   ·rw [List.mem_singleton] at hy;subst hy;exact ⟨x,List.mem_of_getElem? hx,hxt,rfl⟩
  | false=>
   rw [if_neg (by simp)];cases hr:P.C7 Ao ops with
   | true=>rw [if_pos rfl];exact v.Df _ _ _ (by decide)
   | false=>
    rw [if_neg (by simp)];have hwis:P.Pb t=false:=by unfold PS.gone at hg;simp only [Bool.or_eq_false_iff] at hg;exact hg.2
    have hful:P.full=false:=by unfold PS.C7 at hr;simp only [Bool.or_eq_false_iff] at hr;exact hr.2.1
    have hc:P.held.length + P.wait.length < 6:=by unfold PS.full at hful;simp only [Bool.or_eq_false_iff,decide_eq_false_iff_not] at hful;omega
    obtain ⟨h1,b1⟩:=h.await ho hl (KY h hwis) (Nd h hh) (by omega) hb;obtain ⟨h2,b2⟩:=h1.Cw 30 (t:=t);exact VI.through DU h2 (VI.Cw 30 h1 (VI.same (P:=P) v rfl rfl rfl rfl))
theorem VI.finish {P:PS} (h:Bj P) (v:VI P) (t:Int) (hf:P.fin.length < 100000):VI (P.finish t):=by
 obtain ⟨h1,_⟩:=h.BV t hf;obtain ⟨h2,_⟩:=h1.release t;have v1:VI (P.BV t):=by unfold PS.BV;split;exact VI.same (P:=P) v rfl rfl rfl rfl;exact v
 exact VI.through DU h2 (VI.same (P:=P.BV t) v1 rfl rfl rfl rfl)
theorem VI.none {P:PS} (h:∀ x∈P.out,x.kind ≠ 4):VI P:=fun x hx h4=>absurd h4 (h x hx)
theorem VI.decide {P:PS} (h:PJ P) (u:Int) (flag:Bool) (ho:P.out=[]) (hb:P.out.length + 1 + P.left≤20000) (hw:P.writes.length≤900):VI (P.decide u flag):=by
 have ha:Bj (P.Fh u):=h.ok.Fh u hb;have hf:=Vg h;have hk:∀ x∈(P.Fh u).out,x.kind ≠ 4:=by
  intro x hx;have hx:x∈P.out ++ [_]:=hx;rw [ho,List.nil_append,List.mem_singleton] at hx;subst hx;show (6:Int) ≠ 4
  decide
 unfold PS.decide;cases hh:P.TJ u with
 | true=>
  rw [if_pos rfl];obtain ⟨x,hx,hxt⟩:=MN h.ok hh;rw [hx];dsimp only;obtain ⟨v1,v2⟩:=h.ok.hv x (List.mem_of_getElem? hx);have hwl:=OZ flag x.ops;have hu:Bj ((P.Fh u).AO (P.DY u)):=ha.AO _;have hwa:Bj (((P.Fh u).AO (P.DY u)).writeAll (PS.Mn flag x.ops)):=hu.writeAll (OC v1) (by show P.writes.length + _≤1000;omega);have e:=Bz (PS.Mn flag x.ops) ((P.Fh u).AO (P.DY u));exact VI.finish hwa (VI.none (by rw [e];exact hk)) u (by rw [e];exact hf)
 | false=>
  rw [if_neg (by simp)];cases hwi:P.Pb u with
  | true=>
   rw [if_pos rfl];obtain ⟨x,hx,hxt⟩:=D9 h.ok hwi;obtain ⟨hu,_⟩:=ha.Ay (i:=P.Ce u) hx;exact VI.finish hu (VI.none hk) u hf
  | false=>
   rw [if_neg (by simp)];exact VI.none hk
theorem VI.taken {P:PS} (h:PJ P) {x:PM} (hk:x.kind=3∨x.kind=5) (hb:P.bad x=false):VI (P.taken x):=by
 have hc:=h.clear;have hleft:=hc.left;have ho:P.clear.out.length=0:=rfl;unfold PS.taken;rcases hk with h3 | h5
 ·rw [if_pos h3];unfold PS.bad at hb;simp only [Bool.or_eq_false_iff,Bool.not_eq_false'] at hb;have hm:=hb.1;unfold Q9 BW at hm;rw [if_pos h3] at hm;simp only [Bool.and_eq_true,decide_eq_true_iff] at hm;refine VI.Du (hc.ok.Bk x.low) (VI.none ?_) x.Ah x.Ao hm.1.2.2.2.2.2 hm.1.2.2.2.2.1 (by rw [GP,Hj];omega);rw [GP];intro y hy;cases hy
 ·rw [if_neg (by omega)];exact VI.decide hc x.Ah x.flag rfl (by omega) (by show 0≤900;omega)
open Go Go.Sx
theorem Aik (z:Mg) {K:Addr→Pr} {w:World} (h:∀ b w1,w1.heap[b]?=some (.cells #[.int .i64 z.kind,.int .i64 z.src,.int .i64 z.dst,.int .i64 z.Ch,.int .i64 z.code,.int .i64 z.peer,.int .u64 z.VT,.int .u64 z.Au,.int .u64 z.Ah,.int .u64 z.low,.int .u64 z.CZ,.int .u64 z.Ao,.int .u64 z.move,.int .u64 z.attempt,.int .u64 z.n,.bool z.flag,.string z.FN,.string z.G6,.slice z.so.p z.so.len z.so.cap,.slice z.sr.p z.sr.len z.sr.cap,.slice z.sw.p z.sw.len z.sw.cap] 47 (0,0))→w.heap.size≤b→Aa [] w w1→K ⟨b,0,none⟩ w1) :
  At #[.int .i64 0,.int .i64 0,.int .i64 0,.int .i64 0,.int .i64 0,.int .i64 0,.int .u64 0,.int .u64 0,.int .u64 0,.int .u64 0,.int .u64 0,.int .u64 0,.int .u64 0,.int .u64 0,.int .u64 0,.bool false,.string (BA []),.string (BA []),.slice none 0 0,.slice none 0 0,.slice none 0 0] 47 (fun a=>St (a.add 0) (.int .i64 z.kind) <| St (a.add 1) (.int .i64 z.src) <| St (a.add 2) (.int .i64 z.dst) <| St (a.add 3) (.int .i64 z.Ch) <| St (a.add 4) (.int .i64 z.code) <| St (a.add 5) (.int .i64 z.peer) <| St (a.add 6) (.int .u64 z.VT) <| St (a.add 7) (.int .u64 z.Au) <| St (a.add 8) (.int .u64 z.Ah) <| St (a.add 9) (.int .u64 z.low) <| St (a.add 10) (.int .u64 z.CZ) <| St (a.add 11) (.int .u64 z.Ao) <| St (a.add 12) (.int .u64 z.move) <| St (a.add 13) (.int .u64 z.attempt) <| St (a.add 14) (.int .u64 z.n) <| St (a.add 15) (.bool z.flag) <| St (a.add 16) (.string z.FN) <| St (a.add 17) (.string z.G6) <| St (a.add 18) (.slice z.so.p z.so.len z.so.cap) <| St (a.add 19) (.slice z.sr.p z.sr.len z.sr.cap) <| St (a.add 20) (.slice z.sw.p z.sw.len z.sw.cap) <| (K a)) w:=
 Ei (vs:=Yz.c z) rfl (Yz.one z) h
open Go Go.Sx Go.ChangeShapes Go.WideShapes Go.ChangeAt Go.RowKit
section
variable {H:Type} {enc:TypeId × Value→H} {W:World}
theorem Zh {v:Value} (h:Tz enc Pg W 25 v):∃ (s:Sl) (l:List Pa),v=.slice s.p s.len s.cap∧A1 C2 W s l∧s.len * Pg.bytesOf 111≤140737488355328∧∀ x∈l,True:=
 h.list (k:=6) (e:=111) (L:=[9,9]) (ρ:=C2) (by kernel_rfl) (by kernel_rfl) (by kernel_rfl) (by kernel_rfl) fun y _=>⟨⟨y.1,y.2.1⟩,rfl,trivial⟩
theorem AhM {v:Value} (h:Tz enc Pg W 44 v):∃ (s:Sl) (l:List Op),v=.slice s.p s.len s.cap∧A1 BQ W s l∧s.len * Pg.bytesOf 81≤140737488355328∧∀ x∈l,True:=
 h.list (k:=6) (e:=81) (L:=[3,9,9,9,9,3]) (ρ:=BQ) (by kernel_rfl) (by kernel_rfl) (by kernel_rfl) (by kernel_rfl) fun y _=>⟨⟨y.1,y.2.1,y.2.2.1,y.2.2.2.1,y.2.2.2.2.1,y.2.2.2.2.2.1⟩,rfl,trivial⟩
theorem Adr {v:Value} (h:Tz enc Pg W 33 v):∃ (s:Sl) (l:List Ow),v=.slice s.p s.len s.cap∧A1 Mj W s l∧s.len * Pg.bytesOf 70≤140737488355328∧∀ x∈l,True:=
 h.list (k:=6) (e:=70) (L:=[9,3]) (ρ:=Mj) (by kernel_rfl) (by kernel_rfl) (by kernel_rfl) (by kernel_rfl) fun y _=>⟨⟨y.1,y.2.1⟩,rfl,trivial⟩
theorem Xs {s t:Sl} (h:(Value.slice s.p s.len s.cap)=.slice t.p t.len t.cap):s=t:=by
 cases s;cases t;simp only [Value.slice.injEq] at h;obtain ⟨rfl,rfl,rfl⟩:=h;rfl
theorem Aa0 {v:Value} (h:Tz enc Pg W 45 v):∃ (s:Sl) (l:List Rs),v=.slice s.p s.len s.cap∧A1 Xg W s l∧s.len * Pg.bytesOf 83≤140737488355328∧∀ x∈l,A1 C2 W x.sp x.LL:=
 h.list (k:=6) (e:=83) (L:=[4,9,25]) (ρ:=Xg) (by kernel_rfl) (by kernel_rfl) (by kernel_rfl) (by kernel_rfl) fun y hy=>by
  obtain ⟨s,l,e,hl,_,_⟩:=Zh hy.2.2.1;have e:=Xs e;exact ⟨⟨y.1,y.2.1,y.2.2.1,l⟩,rfl,by rw [e];exact hl⟩
end
open Go Go.Sx
def AbY (p:Pa):Bool:=!Kx p.k || decide (p.v.size > 16)
def AfJ (x:Rp):Bool:=decide (x.value.size > 16) || (decide (x.LL.length > 4) || x.LL.any AbY)
def Wq (l:List Rp) (AD:Int):Bool:=decide ((l.length:Int)≤AD) && !(l.any AfJ)
theorem OS {w:World} {s:Sl} {l:List Rs} (h:Yi s l w) (AD:Int) (hm:AD≤1000000) {K:TR [.sc .b]→Pr} (k:∀ w',Aa [] w w'→K (Wq (l.map Rs.p) AD,()) w'):Cl Pg 140 [.slice s.p s.len s.cap,.int .i64 AD] false [.sc .b] K w:=by
 have hl:=h.1.len;refine P8 _ _ ?_;unfold P6;dsimp only [Vp,Vs];refine ⟨rfl,?_⟩;refine Ad fun a w1 h1 n1 k1=>?_;refine Ax h1 0 _ rfl (by simp) fun w2 h2 k2=>?_;simp only [Ck] at h2;have k02:=BT k1 k2 n1;unfold Wq at k;rw [List.length_map] at k;by_cases hc:(l.length:Int)≤AD
 ·rw [decide_eq_true (by rw [hl];exact hc)];rw [decide_eq_true hc,Bool.true_and] at k;simp only [Af];refine Mi (p:=fun x=>AfJ x.p) (F:=fun _=>False) (h.1.Ab k02) ?_ (by omega) fun w3 k3=>?_
  ·intro w4 k4 x hx K1 hK;have k4:=k4.SU;have ha4:=k4.Aw h2;have hp:A1 C2 w4 x.sp x.LL:=A1.Ab (h.2 x hx) (Aj k02 k4);have hpl:=hp.len;refine BJ (by kernel_rfl) ?_;refine Nt x.found x.value x.sp _ ?_;unfold ML;dsimp only [Aat,Ll,Ls,Vs];refine Ad fun b w5 h5 n5 k5=>?_;simp only [sb,h5];have hK:∀ w'',Aa [] w4 w''→K1 (decide (x.value.size > 16) || (decide (x.LL.length > 4) || x.LL.any AbY),()) w'':=hK;by_cases c1:x.value.size > 16
   ·rw [decide_eq_true (by omega)];rw [decide_eq_true c1,Bool.true_or] at hK;exact hK _ k5
   ·rw [decide_eq_false (by omega)];rw [decide_eq_false c1,Bool.false_or] at hK;simp only [Ae,sb,h5];by_cases c2:x.LL.length > 4
    ·rw [decide_eq_true (by omega)];rw [decide_eq_true c2,Bool.true_or] at hK;exact hK _ k5
    ·rw [decide_eq_false (by omega)];rw [decide_eq_false c2,Bool.false_or] at hK;simp only [Ae,sb,h5,k5.Aw ha4];refine N8 (p:=AbY) (F:=fun _=>False) (hp.Ab k5) ?_ (by omega) fun w6 k6=>?_
     ·intro w7 k7 y hy K2 hK2;refine Ap (by kernel_rfl) ?_;refine Nx y.k y.v ?_;unfold MW;dsimp only [Ls,Vt];refine Ad fun c w8 h8 n8 k8=>?_;simp only [sb,h8];refine Hb _ ?_;unfold AbY at hK2;dsimp only;cases c3:Kx y.k with
      | false=>
       rw [c3] at hK2;simp only [Bool.false_eq_true,if_false,show ((20:Int) != 0)=true from rfl,sb];exact hK2 _ k8
      | true=>
       rw [c3,Bool.not_true,Bool.false_or] at hK2;simp only [if_true,show ((0:Int) != 0)=false from rfl,sb,h8];rw [show decide (((y.v.size:Nat):Int) > 16)=decide (y.v.size > 16) from decide_eq_decide.2 (by omega)];exact hK2 _ k8
     ·exact hK w6 (Aj k5 k6)
  ·have:=k w3 (Aj k02 k3);rw [show (l.map Rs.p).any AfJ=l.any (fun x=>AfJ x.p) from by rw [List.any_map];rfl] at this;exact this
 ·rw [decide_eq_false (by rw [hl];exact hc)];rw [decide_eq_false hc] at k;exact k _ k02
def PC (l:List Op):Bool:=decide (0 < l.length) && (decide (l.length≤4) && decide (A9 l=0))
theorem Acp {w:World} {s:Sl} {l:List Op} (h:A1 BQ w s l) {K:TR [.sc (.i .i64)]→Pr} (k:∀ e w',(decide (e=0))=PC l→Aa [] w w'→K (e,()) w'):Cl Pg 138 [.slice s.p s.len s.cap] false [.sc (.i .i64)] K w:=by
 have hl:=h.len;refine VK _ ?_;unfold Y4;dsimp only [Vs];unfold PC at k;refine BR (decide (l.length=0) || decide (l.length > 4)) (fun J hJ=>?_) fun w1 k1=>?_
 ·by_cases c0:l.length=0
  ·rw [decide_eq_true c0,Bool.true_or] at hJ;rw [show ((((s.len:Nat):Int):Int) == 0)=true from by rw [hl,c0];rfl];exact hJ _ (Aa.refl _ _)
  ·rw [decide_eq_false c0,Bool.false_or] at hJ;rw [show ((((s.len:Nat):Int):Int) == 0)=false from by rw [hl];simpa using c0];rw [show decide (((s.len:Nat):Int) > 4)=decide (l.length > 4) from decide_eq_decide.2 (by omega)];exact hJ _ (Aa.refl _ _)
 ·by_cases c0:l.length=0
  ·rw [decide_eq_true c0,Bool.true_or];rw [decide_eq_false (by omega),Bool.false_and] at k;exact k 3 w1 rfl k1
  ·rw [decide_eq_false c0,Bool.false_or];rw [decide_eq_true (by omega),Bool.true_and] at k;by_cases c4:l.length > 4
   ·rw [decide_eq_true c4];rw [decide_eq_false (by omega),Bool.false_and] at k;exact k 3 w1 rfl k1
   ·rw [decide_eq_false c4];rw [decide_eq_true (by omega),Bool.true_and] at k;simp only [Ae];refine Ah1 (h.Ab k1) (by omega) fun w2 k2=>?_;exact k _ w2 rfl (Aj k1 k2)
theorem Akg (x:Mg) {w:World} (h:A1 BQ w x.so x.ops):Gfn (Ez 137) x (PC x.ops) w:=by
 intro w1 k1 K hK;refine Ap (by kernel_rfl) ?_;refine Ox _ _ _ _ _ _ _ _ _ _ _ _ _ _ _ _ _ _ x.so x.sr x.sw ?_;unfold NX;dsimp only [Ag,Ll,Vs];refine Ad fun a w2 h2 n2 k2=>?_;simp only [sb,h2];refine Acp (h.Ab (Aj k1 k2)) fun e w3 he k3=>?_;rw [show ((e:Int) == 0)=PC x.ops from by rw [← he];rfl];exact hK w3 (Aj k2 k3)
def Aid (x:PM):Bool:=(x.code == 1 || x.code == 2) && Wq x.results 4
theorem Ajs (x:Mg) {w:World} (h:Yi x.sr x.results w):Gfn (Ez 139) x (Aid x.p) w:=by
 intro w1 k1 K hK;refine Ap (by kernel_rfl) ?_;refine O0 _ _ _ _ _ _ _ _ _ _ _ _ _ _ _ _ _ _ x.so x.sr x.sw ?_;unfold Oe;dsimp only [Ag,Li,Ll,Vi,Vs];refine Ad fun a w2 h2 n2 k2=>?_;have k02:=Aj k1 k2;have hr:Yi x.sr x.results w2:=⟨h.1.Ab k02,fun y hy=>A1.Ab (h.2 y hy) k02⟩;have e:Aid x.p=((x.code == 1 || x.code == 2) && Wq (x.results.map Rs.p) 4):=rfl;rw [e] at hK;simp only [sb,h2];cases c1:((x.code:Int) == 1) with
 | true=>
  rw [c1,Bool.true_or,Bool.true_and] at hK;simp only [sb,h2];exact OS hr 4 (by decide) fun w3 k3=>hK w3 (Aj k2 k3)
 | false=>
  rw [c1,Bool.false_or] at hK;simp only [sb,h2];cases c2:((x.code:Int) == 2) with
  | true=>
   rw [c2,Bool.true_and] at hK;simp only [sb,h2];exact OS hr 4 (by decide) fun w3 k3=>hK w3 (Aj k2 k3)
  | false=>
   rw [c2,Bool.false_and] at hK;simp only [sb];exact hK w2 k2
def Afs (x:PM):Bool:=decide (x.code ≥ 3) && (decide (x.code≤5) && Wq x.results 24)
theorem AhP (x:Mg) {w:World} (h:Yi x.sr x.results w):Gfn (Ez 144) x (Afs x.p) w:=by
 intro w1 k1 K hK;refine Ap (by kernel_rfl) ?_;refine O6 _ _ _ _ _ _ _ _ _ _ _ _ _ _ _ _ _ _ x.so x.sr x.sw ?_;unfold Ob;dsimp only [Ag,Li,Ll,Vi,Vs];refine Ad fun a w2 h2 n2 k2=>?_;have k02:=Aj k1 k2;have hr:Yi x.sr x.results w2:=⟨h.1.Ab k02,fun y hy=>A1.Ab (h.2 y hy) k02⟩;have e:Afs x.p=(decide (x.code ≥ 3) && (decide (x.code≤5) && Wq (x.results.map Rs.p) 24)):=rfl;rw [e] at hK;simp only [sb,h2];cases c1:decide ((x.code:Int) ≥ 3) with
 | false=>
  rw [c1,Bool.false_and] at hK;exact hK w2 k2
 | true=>
  rw [c1,Bool.true_and] at hK;simp only [sb,h2];cases c2:decide ((x.code:Int)≤5) with
  | false=>
   rw [c2,Bool.false_and] at hK;exact hK w2 k2
  | true=>
   rw [c2,Bool.true_and] at hK;simp only [sb,h2];exact OS hr 24 (by decide) fun w3 k3=>hK w3 (Aj k2 k3)
theorem Ajl (x:Mg) {w:World} (h:A1 Mj w x.sw x.Ac) (hN:x.Ac.length≤140737488355328):Gfn (Ez 146) x (Be x.Ac) w:=by
 intro w1 k1 K hK;refine Ap (by kernel_rfl) ?_;refine OQ _ _ _ _ _ _ _ _ _ _ _ _ _ _ _ _ _ _ x.so x.sr x.sw ?_;unfold Oi;dsimp only [Ag,Ll,Vs];refine Ad fun a w2 h2 n2 k2=>?_;simp only [sb,h2];refine Pj (h.Ab (Aj k1 k2)) hN fun w3 k3=>?_;rw [show (((if Be x.Ac then (0:Int) else 170):Int) == 0)=Be x.Ac from by cases Be x.Ac <;> rfl];exact hK w3 (Aj k2 k3)
theorem Af6 (n:Int) {w:World} {K:TR [.sc .b]→Pr} (k:K (BE n,()) w):Cl Pg 141 [.int .i64 n] false [.sc .b] K w:=by
 refine LN _ ?_;unfold Oo;unfold BE at k;cases h:decide (n ≥ 1) with
 | true=>rw [h,Bool.true_and] at k;exact k
 | false=>rw [h,Bool.false_and] at k;exact k
def YG (x:PM):Bool:=BE x.peer && Da x.FN x.G6
theorem AjB (c:Bool):(((if c then (0:Int) else 21):Int) == 0)=c:=by cases c <;> rfl
theorem AhL (x:Mg) (w:World):Gfn (Ez 147) x (YG x.p) w:=by
 intro w1 k1 K hK;refine Ap (by kernel_rfl) ?_;refine O8 _ _ _ _ _ _ _ _ _ _ _ _ _ _ _ _ _ _ x.so x.sr x.sw ?_;unfold Og;dsimp only [Ag,Li,Ls,Vi,Vt];refine Ad fun a w2 h2 n2 k2=>?_;have e:YG x.p=(BE x.peer && Da x.FN x.G6):=rfl;rw [e] at hK;simp only [sb,h2];refine Af6 _ ?_;dsimp only;cases c1:BE x.peer with
 | false=>
  rw [c1,Bool.false_and] at hK;exact hK w2 k2
 | true=>
  rw [c1,Bool.true_and] at hK;simp only [sb,h2,A5,Nat.reduceAdd];refine M1 _ _ fun w3 k3=>?_;dsimp only;rw [AjB];exact hK w3 (Aj k2 k3)
def WG (x:PM):Bool:=!(x.src == x.dst) && ((decide (x.ops.length≤6) && decide (A9 x.ops=0)) && (Da x.FN x.G6 && !(x.ops.any fun o=>!fWr o.kind)))
theorem AhV (x:Mg) {w:World} (h:A1 BQ w x.so x.ops):Gfn (Ez 148) x (WG x.p) w:=by
 intro w1 k1 K hK;refine Ap (by kernel_rfl) ?_;refine OW _ _ _ _ _ _ _ _ _ _ _ _ _ _ _ _ _ _ x.so x.sr x.sw ?_;unfold NV;dsimp only [Ag,Li,Ll,Ls,Vi,Vs,Vt];refine Ad fun a w2 h2 n2 k2=>?_;have e:WG x.p=(!(x.src == x.dst) && ((decide (x.ops.length≤6) && decide (A9 x.ops=0)) && (Da x.FN x.G6 && !(x.ops.any fun o=>!fWr o.kind)))):=rfl;rw [e] at hK;simp only [sb,h2];rw [show ((x.src:Int) != x.dst)=!(x.src == x.dst) from rfl];cases c1:(x.src == x.dst) with
 | true=>
  rw [c1] at hK;exact hK w2 k2
 | false=>
  rw [c1,Bool.not_false,Bool.true_and] at hK;simp only [Bool.not_false,sb,h2];refine Ahu (h.Ab (Aj k1 k2)) 6 (by decide) fun w3 k3=>?_;have h3:=k3.Aw h2;rw [show decide ((x.ops.length:Int)≤6)=decide (x.ops.length≤6) from decide_eq_decide.2 (by omega)];dsimp only;cases c2:(decide (x.ops.length≤6) && decide (A9 x.ops=0)) with
  | false=>
   rw [c2,Bool.false_and] at hK;exact hK w3 (Aj k2 k3)
  | true=>
   rw [c2,Bool.true_and] at hK;have hl6:x.ops.length≤6:=by rw [Bool.and_eq_true] at c2;exact of_decide_eq_true c2.1
   simp only [sb,h3,A5,Nat.reduceAdd];refine M1 _ _ fun w4 k4=>?_;have h4:=k4.Aw h3;dsimp only;rw [AjB];cases c3:Da x.FN x.G6 with
   | false=>
    rw [c3,Bool.false_and] at hK;exact hK w4 (Aj (Aj k2 k3) k4)
   | true=>
    rw [c3,Bool.true_and] at hK;simp only [sb,h4];have k24:=Aj (Aj k2 k3) k4;refine BN (p:=fun o=>!fWr o.kind) (F:=fun _=>False) (h.Ab (Aj k1 k24)) ?_ (by omega) fun w5 k5=>?_
    ·intro w6 k6 o ho K1 hK1;refine Ap (by kernel_rfl) ?_;refine Mo _ _ _ _ _ _ ?_;unfold LS;dsimp only [Ar,AN];refine Ad fun c w7 h7 n7 k7=>?_;simp only [sb,h7];refine Vn o fun w8 k8=>?_;exact hK1 w8 (Aj k7 k8)
    ·exact hK w5 (Aj k24 k5)
def Acd (x:PM):Bool:=!(x.src == x.dst)
theorem Aeq (x:Mg) (w:World):Gfn (Ez 150) x (Acd x.p) w:=by
 intro w1 k1 K hK;refine Ap (by kernel_rfl) ?_;refine OX _ _ _ _ _ _ _ _ _ _ _ _ _ _ _ _ _ _ x.so x.sr x.sw ?_;unfold NY;dsimp only [Ag,Li];refine Ad fun a w2 h2 n2 k2=>?_;simp only [sb,h2];exact hK w2 k2
def pmA (x:PM):Bool:=
 if x.kind=1 then BW TB CY (PC x.ops) x && Em [113,98,111] x
 else if x.kind=2 then BW CY TB (Aid x) x && Em [113,98,99,115] x
 else if x.kind=3 then BW CY BE (decide (0 < x.ops.length) && (decide (x.ops.length≤24) && decide (A9 x.ops=0))) x && Em [116,108,101,111] x
 else if x.kind=4 then BW BE CY (Afs x) x && Em [116,99,115] x
 else if x.kind=5 then BW CY BE true x && Em [116,102] x
 else if x.kind=6 then BW BE CY true x && Em [116] x
 else if x.kind=7 then BW BE CY true x && Em [116] x
 else if x.kind=8 then BW CY BE (Be x.Ac) x && Em [118,101,109,119] x
 else if x.kind=9 then BW BE CY true x && Em [118] x
 else if x.kind=10 then BW CY BE (YG x) x && Em [118,109,112,102,114] x
 else if x.kind=11 then BW BE BE (WG x) x && Em [109,97,110,114,111] x
 else if x.kind=12 then BW BE BE (Acd x) x && Em [109,97,110] x
 else if x.kind=13 then BW BE CY true x && Em [109] x
 else if x.kind=14 then BW BE CY true x && Em [109] x
 else false
theorem ZI {x:PM} (hk:x.kind=3∨x.kind=5∨x.kind=6):pmA x=Q9 x:=by
 unfold pmA Q9;rcases hk with hk | hk | hk <;> simp [hk]
theorem AeC {w:World} {x:Mg} (hf:LC x.kind GS=none) {K:TR [.sc (.i .i64)]→Pr} (k:∀ w',Aa [] w w'→K (180,()) w'):Cl Pg 31 [.agg (Sm x)] false [.sc (.i .i64)] K w:=by
 refine LR _ _ _ _ _ _ _ _ _ _ _ _ _ _ _ _ _ _ x.so x.sr x.sw ?_;unfold OI;dsimp only [Ag,K4',Li,Bn,Ls,Tt,Vi,Vp,Vs,Vt];refine Ad fun m w1 hm n1 k1=>?_;simp only [sb,hm];refine Ab4 x.kind fun w2 k2=>?_;rw [hf];refine Aiw rfl rfl rfl rfl rfl fun f w3 hf3 n3 k3=>?_;have k03:=Aj (Aj k1 k2) k3;refine BR true (fun J hJ=>?_) fun w4 k4=>?_
 ·simp only [Option.isSome_none,Bool.not_false,sb];exact hJ _ (Aa.refl _ _)
 ·simp only [sb];exact k w4 (Aj k03 k4)
theorem AdX {w:World} {x:Mg} (hx:Su x w) (hN:x.Ac.length≤140737488355328) {K:TR [.sc (.i .i64)]→Pr} (k:∀ w',Aa [] w w'→K (if pmA x.p then 0 else 180,()) w'):Cl Pg 31 [.agg (Sm x)] false [.sc (.i .i64)] K w:=by
 have z:=Afj (x:=x) hx.1.len hx.2.1.1.len hx.2.2.len;have fin:∀ {fr to:Int→Bool} {gd:Bool} {l:List Int},pmA x.p=(BW fr to gd x.p && Em l x.p)→(∀ w',Aa [] w w'→K (if Se fr to gd x && TD l x then 0 else 180,()) w'):=by
  intro fr to gd l e w' kk;have:=k w' kk;rw [e,← z] at this;exact this
 have hk:x.p.kind=x.kind:=rfl;unfold pmA at fin;by_cases c1:x.kind=1
 ·exact BK (by rw [c1];rfl) YB CU (Akg x hx.1) (l:=[113,98,111]) (by kernel_rfl) (by decide) (fin (by rw [hk,c1];rfl))
 by_cases c2:x.kind=2
 ·exact BK (by rw [c2];rfl) CU YB (Ajs x hx.2.1) (l:=[113,98,99,115]) (by kernel_rfl) (by decide) (fin (by rw [hk,c2];rfl))
 by_cases c3:x.kind=3
 ·exact BK (by rw [c3];rfl) CU Cu (Afq x hx.1) (l:=[116,108,101,111]) (by kernel_rfl) (by decide) (fin (by rw [hk,c3];rfl))
 by_cases c4:x.kind=4
 ·exact BK (by rw [c4];rfl) Cu CU (AhP x hx.2.1) (l:=[116,99,115]) (by kernel_rfl) (by decide) (fin (by rw [hk,c4];rfl))
 by_cases c5:x.kind=5
 ·exact BK (by rw [c5];rfl) CU Cu (MO x w) (l:=[116,102]) (by kernel_rfl) (by decide) (fin (by rw [hk,c5];rfl))
 by_cases c6:x.kind=6
 ·exact BK (by rw [c6];rfl) Cu CU (MO x w) (l:=[116]) (by kernel_rfl) (by decide) (fin (by rw [hk,c6];rfl))
 by_cases c7:x.kind=7
 ·exact BK (by rw [c7];rfl) Cu CU (MO x w) (l:=[116]) (by kernel_rfl) (by decide) (fin (by rw [hk,c7];rfl))
 by_cases c8:x.kind=8
 ·exact BK (by rw [c8];rfl) CU Cu (Ajl x hx.2.2 hN) (l:=[118,101,109,119]) (by kernel_rfl) (by decide) (fin (by rw [hk,c8];rfl))
 by_cases c9:x.kind=9
 ·exact BK (by rw [c9];rfl) Cu CU (MO x w) (l:=[118]) (by kernel_rfl) (by decide) (fin (by rw [hk,c9];rfl))
 by_cases c10:x.kind=10
 ·exact BK (by rw [c10];rfl) CU Cu (AhL x w) (l:=[118,109,112,102,114]) (by kernel_rfl) (by decide) (fin (by rw [hk,c10];rfl))
 by_cases c11:x.kind=11
 ·exact BK (by rw [c11];rfl) Cu Cu (AhV x hx.1) (l:=[109,97,110,114,111]) (by kernel_rfl) (by decide) (fin (by rw [hk,c11];rfl))
 by_cases c12:x.kind=12
 ·exact BK (by rw [c12];rfl) Cu Cu (Aeq x w) (l:=[109,97,110]) (by kernel_rfl) (by decide) (fin (by rw [hk,c12];rfl))
 by_cases c13:x.kind=13
 ·exact BK (by rw [c13];rfl) Cu CU (MO x w) (l:=[109]) (by kernel_rfl) (by decide) (fin (by rw [hk,c13];rfl))
 by_cases c14:x.kind=14
 ·exact BK (by rw [c14];rfl) Cu CU (MO x w) (l:=[109]) (by kernel_rfl) (by decide) (fin (by rw [hk,c14];rfl))
 refine AeC ?_ fun w' kk=>?_
 ·unfold GS;simp only [LC,c1,c2,c3,c4,c5,c6,c7,c8,c9,c10,c11,c12,c13,c14,if_false]
 ·have:=k w' kk;unfold pmA at this;simp only [hk,c1,c2,c3,c4,c5,c6,c7,c8,c9,c10,c11,c12,c13,c14,if_false] at this;exact this
end Go.Proofs.YthkdehgfdllpoaaGreat
