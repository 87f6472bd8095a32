/- The parts of the proof, 6: words of the program, and what they do. Conditions: none. -/
import Derived.Test.YthkdehgfdllpoaaGreatPk5
set_option maxRecDepth 100000
set_option linter.unusedVariables false
set_option linter.unusedSimpArgs false
set_option linter.unusedSectionVars false
namespace Go.Proofs.YthkdehgfdllpoaaGreat
open Go Go.Sx
theorem AcK {w:World} {s:Sl} {l:List Ow} (h:A1 Mj w s l) {i:Nat} (hi:i < l.length) (hN:l.length≤1000000) {K:TR [.ag [.s,.s],.sc (.i .i64)]→Pr} (k:∀ w',Aa [] w w'→K (if Be l then (((D7 l i).1,(D7 l i).2,()),0,()) else ((BA [],BA [],()),170,())) w'):Cl Pg 218 [.slice s.p s.len s.cap,.int .i64 (i:Int)] true [.ag [.s,.s],.sc (.i .i64)] K w:=by
 have hl:=h.len;refine On _ _ ?_;unfold NM;dsimp only [N6,Ls,Tt,Vi,Vs,Vt];refine Ad fun a w1 h1 n1 k1=>?_;refine Pj (h.Ab k1) (by omega) fun w2 k2=>?_;have h2:=k2.Aw h1;have k02:=Aj k1 k2;dsimp only;cases hok:Be l with
 | false=>
  rw [hok] at k;simp only [Bool.false_eq_true,if_false,show ((170:Int) != 0)=true from rfl,Af] at k ⊢;refine KI h2 fun w3 k3=>?_;exact k w3 (BT k02 k3 n1)
 | true=>
  rw [hok] at k;simp only [if_true,show ((0:Int) != 0)=false from rfl,Ae] at k ⊢;refine BR false (fun J hJ=>?_) fun w3 k3=>?_
  ·rw [decide_eq_false (by omega)];simp only [Ae];rw [decide_eq_false (by omega)];exact hJ _ (Aa.refl _ _)
  ·simp only [Ae];have k03:=Aj k02 k3;refine Aec (h.Ab k03) hi hN fun w4 k4=>?_;refine KI (k4.Aw (k3.Aw h2)) fun w5 k5=>?_;exact k w5 (BT (Aj k03 k4) k5 n1)
def IK (id:Int) (l:List Ow) (own:Bool) (n:Nat):List Rn:=((List.range n).filter fun i=>(((l[i]?.getD ⟨BA [],0⟩).BO == id) == own)).map fun i=>⟨(D7 l i).1,(D7 l i).2⟩
def B0 (id:Int) (l:List Ow) (own:Bool):List Rn:=if Be l then IK id l own l.length else []
theorem Yk {id:Int} {l:List Ow} {own:Bool} {n:Nat} {x:Ow} (hx:l[n]?=some x) (c:Bool) (hc:((x.BO == id) == own)=c):IK id l own (n + 1)=IK id l own n ++ (if c then [⟨(D7 l n).1,(D7 l n).2⟩] else []):=by
 unfold IK;rw [List.range_succ,List.filter_append,List.map_append,List.filter_cons,List.filter_nil,hx,Option.getD_some,hc];cases c <;> rfl
theorem R3 (id:Int) (l:List Ow) (own:Bool) (n:Nat):(IK id l own n).length≤n:=by
 unfold IK;rw [List.length_map];exact Nat.le_trans (List.length_filter_le _ _) (by rw [List.length_range];exact Nat.le_refl _)
theorem Ft (id:Int) (l:List Ow) (own:Bool):(B0 id l own).length≤l.length:=by
 unfold B0;split
 ·exact R3 _ _ _ _
 ·simp
set_option maxHeartbeats 1000000 in
theorem Uj {w:World} {m:Nat} {T:Nat→Nat} {X:Mc} (h:A6 w m T X) {s:Sl} {l:List Ow} (hl:A1 Mj w s l) (hN:l.length≤1000000) (own:Bool) {K:TR [.sc .sl]→Pr}
  (k:∀ r w',Bh V8 w' r (B0 X.c.id l own)→(∀ b∈Ai r,w.heap.size≤b)→Aa [] w w'→K (r,()) w'):Cl Pg 129 [.pointer (some ⟨m,0,none⟩),.slice s.p s.len s.cap,.bool own] false [.sc .sl] K w:=by
 have hll:=hl.len;refine Jl _ _ _ ?_;unfold Gy;dsimp only [N6,Li,Ls,Ti,Tt,Vi,Vs,Vt];refine ⟨fun n st w'=>∃ (i:Nat) (r:Sl),st=(r,(i:Int),())∧n=l.length - i∧i≤l.length∧Bh V8 w' r (if Be l then IK X.c.id l own i else [])∧(∀ b∈Ai r,w.heap.size≤b)∧Aa [] w w',⟨_,0,⟨none,0,0⟩,rfl,rfl,by omega,by cases Be l <;> exact AE.nil _ _,by simp [Ai],Aa.refl _ _⟩,?_⟩;rintro n _ w1 ⟨i,r,rfl,rfl,hi,h1,f1,k1⟩;dsimp only;by_cases hlt:i < l.length
 ·rw [decide_eq_true (by omega)];simp only [Af];obtain ⟨x,hx⟩:∃ x,l[i]?=some x:=⟨_,List.getElem?_eq_getElem hlt⟩;refine AG (fun st w'=>Bh V8 w' st.1 (if Be l then IK X.c.id l own (i + 1) else [])∧(∀ b∈Ai st.1,w.heap.size≤b)∧Aa [] w w') (fun J hJ=>?_) ?_
  ·refine UP (hl.Ab k1) hx ?_;refine UB x fun b w2 h2 n2 k2=>?_;have k02:=Aj k1 k2;refine AcK (hl.Ab k02) hlt hN fun w3 k3=>?_;obtain ⟨y,hy⟩:∃ y:Rn,y=(if Be l then ⟨(D7 l i).1,(D7 l i).2⟩ else ⟨BA [],BA []⟩):=⟨_,rfl⟩;have e1:(if Be l then (((D7 l i).1,(D7 l i).2,()),(0:Int),()) else ((BA [],BA [],()),(170:Int),()))=(((y.lo,y.hi,()),(if Be l then (0:Int) else 170),()):TR [.ag [.s,.s],.sc (.i .i64)]):=by rw [hy];cases Be l <;> rfl
   rw [e1];dsimp only;refine DS y fun c w4 h4 n4 k4=>?_;have k04:=Aj (Aj k02 k3) k4;have g4:=h.Ab k04;have x4:=(Aj k3 k4).Aw h2;have r4:Bh V8 w4 r _:=h1.Ab (Aj (Aj k2 k3) k4);refine BR (Be l && ((x.BO == X.c.id) == own)) (fun J2 hJ2=>?_) fun w5 k5=>?_
   ·simp only [sb];cases hok:Be l with
    | false=>
     rw [hok] at hJ2;simp only [Bool.false_eq_true,if_false,show ((170:Int) == 0)=false from rfl,sb];exact hJ2 _ (Am w4)
    | true=>
     rw [hok,Bool.true_and] at hJ2;simp only [if_true,show ((0:Int) == 0)=true from rfl,sb,x4,g4.hd,Bs,A5,Nat.reduceAdd];exact hJ2 _ (Am w4)
   ·have k05:=Aj k04 k5;have c5:=k5.Aw h4;cases hok:Be l with
    | false=>
     rw [hok] at r4;simp only [Bool.false_and,sb];refine hJ _ w5 ⟨?_,f1,k05⟩;rw [hok];exact r4.Ab k5
    | true=>
     rw [hok] at r4 hy;have e2:=Yk hx _ (rfl:((x.BO == X.c.id) == own)=_);rw [Bool.true_and];generalize hq:((x.BO == X.c.id) == own)=q at e2 ⊢;cases q with
     | false=>
      simp only [sb];refine hJ _ w5 ⟨?_,f1,k05⟩;rw [hok,if_pos rfl,e2,if_neg (by simp),List.append_nil];exact r4.Ab k5
     | true=>
      rw [if_pos rfl] at e2;rw [if_pos rfl] at hy;simp only [sb,c5];refine Ad fun d w6 h6 n6 k6=>?_;have r6:Bh V8 w6 r _:=r4.Ab (Aj k5 k6);have hrl:=r6.BY;have hri:=R3 X.c.id l own i;rw [if_pos rfl] at hrl;refine AE.app (ρ:=V8) (new:=[y]) r6 (by rw [List.flatMap_singleton];exact BI (ρ:=V8) (x:=y) h6) rfl (by rw [Aes];rfl) (by omega) (by omega) ?_;intro r7 w7 h7 k7 f7;have kk:Aa [] w w7:=Ky (Aj k05 k6) k7 f1;refine hJ _ w7 ⟨?_,fun b hb=>?_,kk⟩
      ·rw [hok,if_pos rfl,e2];rw [if_pos rfl] at h7;rw [← hy];exact h7
      ·rcases f7 b hb with hb | hb
       ·exact f1 b hb
       ·have:=(Aj k05 k6).size;omega
  ·rintro ⟨r2,_⟩ w2 ⟨h2,f2,k2⟩;exact ⟨l.length - (i + 1),by omega,i + 1,r2,by rw [AK (by omega)],rfl,by omega,h2,f2,k2⟩
 ·rw [decide_eq_false (by omega)];simp only [Ae];obtain rfl:i=l.length:=by omega
  exact k r w1 h1 f1 k1
def clO (a b c d:ByteArray):Op:=⟨5,BA [],BA [],mLo a b c d,mHi a b c d,0⟩
namespace PS
def KG (P:PS) (r q:Rn):PS:=if Bw r.lo r.hi q.lo q.hi then { P with writes:=P.writes ++ [clO r.lo r.hi q.lo q.hi] } else P
end PS
theorem AeY {w:World} {m:Nat} {T:Nat→Nat} {X:Mc} (h:A6 w m T X) (r q:Rn) (hW:X.d.writes.length≤100000) {K:TR []→Pr}
  (k:∀ X' T' w',A6 w' m T' X'→X'.p=X.p.KG r q→Fix X X'→Aq T T' w w'→K () w') :
  Cl Pg 130 [.pointer (some ⟨m,0,none⟩),.agg #[.string r.lo,.string r.hi],.agg #[.string q.lo,.string q.hi]] true [] K w:=by
 refine JG _ _ _ _ _ ?_;unfold Hz;dsimp only [Ar,Ll,Ls,Ts,Tt,Vs,Vt];refine Ad fun a w1 h1 n1 k1=>?_;refine Ad fun b w2 h2 n2 k2=>?_;have h1:=k2.Aw h1;simp only [sb,h1,h2];refine Vr _ _ _ _ fun w3 k3=>?_;dsimp only;refine DS ⟨mLo r.lo r.hi q.lo q.hi,mHi r.lo r.hi q.lo q.hi⟩ fun c w4 h4 n4 k4=>?_;have k04:=Aj (Aj (Aj k1 k2) k3) k4;have g4:=h.Ab k04;unfold PS.KG at k;cases hm:Bw r.lo r.hi q.lo q.hi with
 | false=>
  rw [hm,if_neg (by simp)] at k;simp only [sb];exact k X T w4 g4 rfl (Fix.refl _) (Aq.k0 k04)
 | true=>
  rw [hm,if_pos rfl] at k;simp only [sb,g4.hd,Bs,h4,A5,Nat.reduceAdd];have g5:=g4.Ab (Am w4);refine Ad fun d w6 h6 n6 k6=>?_;have g6:=g5.Ab k6;simp only [sb,g6.hd,Bs,A5,Nat.reduceAdd];refine ⟨by trivial,?_⟩;have hs:=g6.r.wr.ok;have hl:=hs.BY;refine AE.app (ρ:=BQ) (new:=[clO r.lo r.hi q.lo q.hi]) hs (by rw [List.flatMap_singleton];exact BI (ρ:=BQ) (x:=clO r.lo r.hi q.lo q.hi) h6) rfl (by rw [R1];rfl) (by omega) (by omega) ?_;intro r7 w7 h7 k7 f7;refine g6.uWr k7 h7 f7 fun w8 h8 e8=>?_;exact k _ _ w8 h8 rfl ⟨rfl,rfl,rfl,rfl⟩ ((Aq.k0 (Aj (Aj k04 (Am w4)) k6)).trans e8)
open Go Go.Sx
theorem A6.MC {w:World} {m:Nat} {T:Nat→Nat} {X:Mc} (h:A6 w m T X) (c:Sc) {i:Nat} {v:Value} (hi:i < 26) (h1:v.oneCell'=true) (he:(Bs X).set i v=Bs { X with c:=c }) {K:Pr} (k:∀ w',A6 w' m T { X with c:=c }→Aq T T w w'→K w'):St ⟨m,i,none⟩ v K w:=
 A6.set (X':={ X with c:=c }) h.hd h.t1 h.r hi h1 he fun w' h' s=>k w' h' (s.Bm (by decide))
theorem Rest.unbox {w:World} {T:Nat→Nat} {X:Co} (h:Rest w T X):Rest w T { X with bx:=none }:=
 ⟨h.ow,h.he,h.Ro,h.fi,h.wa,h.Ss,h.ta,h.ou,h.Wp,h.wr,h.li,⟨(fun b hb=>by cases hb),(fun w' _ _ b hb=>by cases hb),(fun b hb=>by cases hb)⟩,h.ro,h.lo,h.RF,h.bd⟩
theorem A6.unbox {w:World} {m:Nat} {T:Nat→Nat} {X:Mc} (h:A6 w m T X) {K:Pr} (k:∀ w',A6 w' m T { X with d:={ X.d with bx:=none } }→Aq T T w w'→K w'):St ⟨m,19,none⟩ (.pointer none) K w:=
 A6.set (X':={ X with d:={ X.d with bx:=none } }) h.hd h.t1 h.r.unbox (by decide) rfl rfl fun w' h' s=>k w' h' (s.Bm (by decide))
theorem Rest.uOw {w:World} {T:Nat→Nat} {X:Co} (h:Rest w T X) {r:Sl} {l:List Ow} (hr:Bq T (fun w=>A1 Mj w r l) w):Rest w T { X with so:=r,Ac:=l }:=
 ⟨hr,h.he,h.Ro,h.fi,h.wa,h.Ss,h.ta,h.ou,h.Wp,h.wr,h.li,h.bo,h.ro,h.lo,h.RF,h.bd⟩
theorem A6.uOw {w:World} {m:Nat} {T:Nat→Nat} {X:Mc} (h:A6 w m T X) {r:Sl} {l:List Ow} (hr:Bq T (fun w=>A1 Mj w r l) w) {K:Pr} (k:∀ w',A6 w' m T { X with d:={ X.d with so:=r,Ac:=l } }→Aq T T w w'→K w'):St ⟨m,5,none⟩ (.slice r.p r.len r.cap) K w:=
 A6.set (X':={ X with d:={ X.d with so:=r,Ac:=l } }) h.hd h.t1 (h.r.uOw hr) (by decide) rfl rfl fun w' h' s=>k w' h' (s.Bm (by decide))
structure Dl (X X':Mc):Prop where
 BD:X'.d.BD=X.d.BD
 sM:X'.d.sM=X.d.sM
theorem Dl.refl (X:Mc):Dl X X:=⟨rfl,rfl⟩
theorem Dl.trans {X Y Z:Mc} (h:Dl X Y) (k:Dl Y Z):Dl X Z:=⟨k.BD.trans h.BD,k.sM.trans h.sM⟩
theorem Fix.s {X X':Mc} (h:Fix X X'):Dl X X':=⟨h.BD,h.sM⟩
theorem DG.s {X X':Mc} (h:DG X X'):Dl X X':=⟨h.BD,h.sM⟩
namespace PS
def Cy (P:PS) (rs:List Rn) (q:Rn):PS:=rs.foldl (fun P r=>P.KG r q) P
def Dn (P:PS) (r:Rn) (had:List Rn):PS:=had.foldl (fun P h=>P.KG r h) P
def FB (P:PS) (others had:List Rn):PS:=others.foldl (fun P r=>P.Dn r had) P
def W4 (P:PS) (x:PM):PS:={ P with c:={ P.c with CZ:=x.CZ,Ao:=x.Ao,move:=x.move },Ac:=x.Ac }
def DE (P:PS) (mv:Int):PS:=match P.box with
 | none=>P
 | some b=>if b.move != mv then { P with box:=none } else P
def QD (P:PS) (mv:Int):PS:=if P.c.frozen != mv then { P with c:={ P.c with frozen:=0,Qk:=BA [],MS:=BA [] } } else P
def Aic (P:PS):PS:={ P with c:={ P.c with AJ:=0,CD:=0,Bo:=0,Ph:=BA [],Qq:=BA [] } }
def Kl (P:PS) (mv:Int) (others:List Rn):PS:=if (P.c.AJ != 0) && (P.c.AJ != mv) then (P.Cy others ⟨P.c.Ph,P.c.Qq⟩).Aic else P
def Ko (P:PS) (x:PM):PS:=((((P.W4 x).DE x.move).QD x.move).Kl x.move (B0 P.c.id x.Ac false)).FB (B0 P.c.id x.Ac false) (B0 P.c.id P.Ac true)
def mapped (P:PS) (x:PM):PS:=if P.c.CZ < x.CZ then P.Ko x else P
def No (P:PS) (x:PM):PS:=(P.mapped x).send { PM.zero with kind:=9,CZ:=(P.mapped x).c.CZ }
end PS
theorem ZA (P:PS) (r q:Rn):(P.KG r q).writes.length≤P.writes.length + 1:=by
 unfold PS.KG;split
 ·simp
 ·omega
theorem Wm (P:PS) (r q:Rn):P.KG r q={ P with writes:=(P.KG r q).writes }:=by
 unfold PS.KG;split <;> rfl
theorem CS (q:Rn):∀ (rs:List Rn) (P:PS),P.Cy rs q={ P with writes:=(P.Cy rs q).writes }∧(P.Cy rs q).writes.length≤P.writes.length + rs.length
 | [],P=>⟨rfl,Nat.le_refl _⟩
 | r :: rs,P=>by
  obtain ⟨h1,h2⟩:=CS q rs (P.KG r q);have e:P.Cy (r :: rs) q=(P.KG r q).Cy rs q:=rfl;have h3:=ZA P r q;rw [e];refine ⟨?_,by rw [List.length_cons];omega⟩;have h4:=Wm P r q;generalize ha:((P.KG r q).Cy rs q).writes=a at *;rw [h1,h4]
theorem KT (r:Rn):∀ (hs:List Rn) (P:PS),P.Dn r hs={ P with writes:=(P.Dn r hs).writes }∧(P.Dn r hs).writes.length≤P.writes.length + hs.length
 | [],P=>⟨rfl,Nat.le_refl _⟩
 | q :: hs,P=>by
  obtain ⟨h1,h2⟩:=KT r hs (P.KG r q);have e:P.Dn r (q :: hs)=(P.KG r q).Dn r hs:=rfl;have h3:=ZA P r q;rw [e];refine ⟨?_,by rw [List.length_cons];omega⟩;have h4:=Wm P r q;generalize ha:((P.KG r q).Dn r hs).writes=a at *;rw [h1,h4]
theorem Ef (had:List Rn):∀ (rs:List Rn) (P:PS),P.FB rs had={ P with writes:=(P.FB rs had).writes }∧(P.FB rs had).writes.length≤P.writes.length + rs.length * had.length
 | [],P=>⟨rfl,by simp [PS.FB]⟩
 | r :: rs,P=>by
  obtain ⟨h1,h2⟩:=Ef had rs (P.Dn r had);have e:P.FB (r :: rs) had=(P.Dn r had).FB rs had:=rfl;obtain ⟨h4,h3⟩:=KT r had P;rw [e];refine ⟨?_,by rw [List.length_cons,Nat.succ_mul];omega⟩;generalize ha:((P.Dn r had).FB rs had).writes=a at *;rw [h1,h4]
theorem GZ {α β:Type} (f:β→α→β) {l:List α} {i:Nat} {x:α} (hx:l[i]?=some x) (b:β):(l.take (i + 1)).foldl f b=f ((l.take i).foldl f b) x:=by
 rw [List.take_add_one,hx,List.foldl_append];rfl
theorem Nh {X:Mc} {P:PS} (h:X.p=P):X.d.writes=P.writes:=by rw [← h];rfl
theorem AjO {X:Mc} {P:PS} (h:X.p=P):X.c=P.c:=by rw [← h];rfl
theorem Ac9 {w:World} {m:Nat} {T:Nat→Nat} {X:Mc} (h:A6 w m T X) {s:Sl} {rs:List Rn} (hs:Bq T (fun w=>A1 V8 w s rs) w) (hN:rs.length≤1000) (hW:X.d.writes.length≤20000) {J:Pr}
  (k:∀ X' T' w',A6 w' m T' X'→X'.p=X.p.Cy rs ⟨X.c.Ph,X.c.Qq⟩→Fix X X'→Aq T T' w w'→J w') :
  (Lp (σ:=Int × Unit) (fun L56 s57=>Br (decide ((s57.1:Int) < ((s.len:Nat):Int))) (Ix s s57.1 2 fun a58=>BU (a58.add 0) fun x59=>BU (a58.add 1) fun x60=>At #[(.string (BA [])),(.string (BA []))] 37 fun a61=>St (a61.add 0) (.string x59) <| St (a61.add 1) (.string x60) <| Dr <| BU (a61.add 0) fun x62=>BU (a61.add 1) fun x63=>Nn (some ⟨m,0,none⟩) fun a64=>
   BU ((((a64.add 0).add 12).add 3).add 0) fun x65=>BU ((((a64.add 0).add 12).add 3).add 1) fun x66=>Cl Pg 130 [(.pointer (some ⟨m,0,none⟩)),(.agg #[(.string x62),(.string x63)]),(.agg #[(.string x65),(.string x66)])] true [] fun r67=>L56 ((An (s57.1 + 1)),())) J) (0,())) w:=by
 have hsl:=hs.ok.len;refine ⟨fun n st w'=>∃ (i:Nat) (X1:Mc) (T1:Nat→Nat),st=((i:Int),())∧n=rs.length - i∧i≤rs.length∧A6 w' m T1 X1∧X1.p=X.p.Cy (rs.take i) ⟨X.c.Ph,X.c.Qq⟩∧Fix X X1∧Aq T T1 w w',⟨_,0,X,T,rfl,rfl,by omega,h,rfl,Fix.refl _,Aq.refl _ _⟩,?_⟩;rintro n _ w1 ⟨i,X1,T1,rfl,rfl,hi,h1,q1,f1,e1⟩;dsimp only;by_cases hlt:i < rs.length
 ·rw [decide_eq_true (by omega)];simp only [Af];obtain ⟨x,hx⟩:∃ x,rs[i]?=some x:=⟨_,List.getElem?_eq_getElem hlt⟩;refine UG (hs.Bm e1).ok hx ?_;refine DS x fun b w2 h2 n2 k2=>?_;have g2:=h1.Ab k2;have g3:=g2.Ab (Am w2);obtain ⟨s1,s2⟩:=CS ⟨X.c.Ph,X.c.Qq⟩ (rs.take i) X.p;have hc:X1.c=X.c:=by rw [AjO q1,s1];rfl
  have hw:X1.d.writes.length≤100000:=by
   rw [Nh q1];have h3:(rs.take i).length≤i:=List.length_take_le _ _;have h4:X.p.writes.length=X.d.writes.length:=rfl;omega
  simp only [sb,h2,g2.hd,Bs,A5,Nat.reduceAdd];rw [hc];refine AeY g3 x ⟨X.c.Ph,X.c.Qq⟩ hw ?_;intro X4 T4 w4 h4 q4 f4 e4;refine ⟨rs.length - (i + 1),by omega,i + 1,X4,T4,by rw [AK (by omega)],rfl,by omega,h4,?_,f1.trans f4,(e1.trans (Aq.k0 (Aj k2 (Am w2)))).trans e4⟩;rw [q4,q1];unfold PS.Cy;rw [GZ _ hx]
 ·rw [decide_eq_false (by omega)];simp only [Ae];rw [List.take_of_length_le (by omega)] at q1;exact k X1 T1 w1 h1 q1 f1 e1
set_option maxHeartbeats 1000000 in
theorem Agz {w:World} {m:Nat} {T:Nat→Nat} {X:Mc} (h:A6 w m T X) {s t:Sl} {rs hs:List Rn} (hS:Bq T (fun w=>A1 V8 w s rs) w) (hH:Bq T (fun w=>A1 V8 w t hs) w) (hN:rs.length≤100) (hN2:hs.length≤100) (hW:X.d.writes.length≤20000) {J:Pr}
  (k:∀ X' T' w',A6 w' m T' X'→X'.p=X.p.FB rs hs→Fix X X'→Aq T T' w w'→J w') :
  (Lp (σ:=Int × Unit) (fun L37 s38=>Br (decide ((s38.1:Int) < ((s.len:Nat):Int))) (Ix s s38.1 2 fun a39=>BU (a39.add 0) fun x40=>BU (a39.add 1) fun x41=>At #[(.string (BA [])),(.string (BA []))] 37 fun a42=>St (a42.add 0) (.string x40) <| St (a42.add 1) (.string x41) <|
   Lp (σ:=Int × Unit) (fun L43 s44=>Br (decide ((s44.1:Int) < ((t.len:Nat):Int))) (Ix t s44.1 2 fun a45=>BU (a45.add 0) fun x46=>BU (a45.add 1) fun x47=>At #[(.string (BA [])),(.string (BA []))] 37 fun a48=>St (a48.add 0) (.string x46) <| St (a48.add 1) (.string x47) <|
    BU (a42.add 0) fun x49=>BU (a42.add 1) fun x50=>BU (a48.add 0) fun x51=>BU (a48.add 1) fun x52=>Cl Pg 130 [(.pointer (some ⟨m,0,none⟩)),(.agg #[(.string x49),(.string x50)]),(.agg #[(.string x51),(.string x52)])] true [] fun r53=>L43 ((An (s44.1 + 1)),())) (L37 ((An (s38.1 + 1)),()))) (0,())) J) (0,())) w:=by
 have hsl:=hS.ok.len;have htl:=hH.ok.len;refine ⟨fun n st w'=>∃ (i:Nat) (X1:Mc) (T1:Nat→Nat),st=((i:Int),())∧n=rs.length - i∧i≤rs.length∧A6 w' m T1 X1∧X1.p=X.p.FB (rs.take i) hs∧Fix X X1∧Aq T T1 w w',⟨_,0,X,T,rfl,rfl,by omega,h,rfl,Fix.refl _,Aq.refl _ _⟩,?_⟩;rintro n _ w1 ⟨i,X1,T1,rfl,rfl,hi,h1,q1,f1,e1⟩;dsimp only;by_cases hlt:i < rs.length
 ·rw [decide_eq_true (by omega)];simp only [Af];obtain ⟨x,hx⟩:∃ x,rs[i]?=some x:=⟨_,List.getElem?_eq_getElem hlt⟩;refine UG (hS.Bm e1).ok hx ?_;refine DS x fun b w2 h2 n2 k2=>?_;have g2:=h1.Ab k2;have Tb:=h1.new n2;obtain ⟨s1,s2⟩:=Ef hs (rs.take i) X.p;have hw1:X1.d.writes.length≤30000:=by
   rw [Nh q1];have h3:(rs.take i).length≤100:=Nat.le_trans (List.length_take_le' _ _) hN;have h4:X.p.writes.length=X.d.writes.length:=rfl;have h5:(rs.take i).length * hs.length≤100 * 100:=Nat.mul_le_mul h3 hN2;omega
  refine ⟨fun n st w'=>∃ (j:Nat) (X2:Mc) (T2:Nat→Nat),st=((j:Int),())∧n=hs.length - j∧j≤hs.length∧A6 w' m T2 X2∧X2.p=X1.p.Dn x (hs.take j)∧Fix X1 X2∧Aq T1 T2 w2 w',⟨_,0,X1,T1,rfl,rfl,by omega,g2,rfl,Fix.refl _,Aq.refl _ _⟩,?_⟩;rintro n _ w3 ⟨j,X3,T3,rfl,rfl,hj,h3,q3,f3,e3⟩;have e13:=(e1.trans (Aq.k0 k2)).trans e3;dsimp only;by_cases hjl:j < hs.length
  ·rw [decide_eq_true (by omega)];simp only [Af];obtain ⟨y,hy⟩:∃ y,hs[j]?=some y:=⟨_,List.getElem?_eq_getElem hjl⟩;refine UG (hH.Bm e13).ok hy ?_;refine DS y fun c w4 h4 n4 k4=>?_;have g4:=h3.Ab k4;obtain ⟨b3,Tb3⟩:=e3.at h2 Tb;have b4:=k4.Aw b3;obtain ⟨t1,t2⟩:=KT x (hs.take j) X1.p;have hw:X3.d.writes.length≤100000:=by
    rw [Nh q3];have h3:(hs.take j).length≤100:=Nat.le_trans (List.length_take_le' _ _) hN2;have h4:X1.p.writes.length=X1.d.writes.length:=rfl;omega
   simp only [sb,h4,b4];refine AeY g4 x y hw ?_;intro X5 T5 w5 h5 q5 f5 e5;refine ⟨hs.length - (j + 1),by omega,j + 1,X5,T5,by rw [AK (by omega)],rfl,by omega,h5,?_,f3.trans f5,(e3.trans (Aq.k0 k4)).trans e5⟩;rw [q5,q3];unfold PS.Dn;rw [GZ _ hy]
  ·rw [decide_eq_false (by omega)];simp only [Ae];rw [List.take_of_length_le (by omega)] at q3;refine ⟨rs.length - (i + 1),by omega,i + 1,X3,T3,by rw [AK (by omega)],rfl,by omega,h3,?_,f1.trans f3,e13⟩;rw [q3,q1];unfold PS.FB;rw [GZ _ hx]
 ·rw [decide_eq_false (by omega)];simp only [Ae];rw [List.take_of_length_le (by omega)] at q1;exact k X1 T1 w1 h1 q1 f1 e1
open Go Go.Sx
structure Nz (P Q:PS) (n:Nat):Prop where
 held:Q.held=P.held
 fin:Q.fin=P.fin
 wait:Q.wait=P.wait
 BS:Q.BS=P.BS
 out:Q.out=P.out
 line:Q.line=P.line
 M:Q.M=P.M
 wr:Q.writes.length≤P.writes.length + n
theorem Nz.trans {P Q R:PS} {n k:Nat} (h:Nz P Q n) (g:Nz Q R k):Nz P R (n + k):=⟨g.held.trans h.held,g.fin.trans h.fin,g.wait.trans h.wait,g.BS.trans h.BS,g.out.trans h.out,g.line.trans h.line,g.M.trans h.M,by have:=h.wr;have:=g.wr;omega⟩
theorem Rm (P:PS) (l:List Op) {n:Nat} (h:l.length≤P.writes.length + n):Nz P { P with writes:=l } n:=⟨rfl,rfl,rfl,rfl,rfl,rfl,rfl,h⟩
theorem KO (P:PS) (rs:List Rn) (q:Rn):Nz P (P.Cy rs q) rs.length:=by
 obtain ⟨h1,h2⟩:=CS q rs P;rw [h1];exact Rm P _ h2
theorem Un (P:PS) (rs hs:List Rn):Nz P (P.FB rs hs) (rs.length * hs.length):=by
 obtain ⟨h1,h2⟩:=Ef hs rs P;rw [h1];exact Rm P _ h2
theorem Qo (P:PS) (mv:Int):Nz P (P.DE mv) 0:=by
 unfold PS.DE;split
 ·exact ⟨rfl,rfl,rfl,rfl,rfl,rfl,rfl,Nat.le_refl _⟩
 ·split <;> exact ⟨rfl,rfl,rfl,rfl,rfl,rfl,rfl,Nat.le_refl _⟩
theorem WM (P:PS) (mv:Int):Nz P (P.QD mv) 0:=by
 unfold PS.QD;split <;> exact ⟨rfl,rfl,rfl,rfl,rfl,rfl,rfl,Nat.le_refl _⟩
theorem AaS (P:PS) (mv:Int) (rs:List Rn):Nz P (P.Kl mv rs) rs.length:=by
 unfold PS.Kl;split
 ·have h:=KO P rs ⟨P.c.Ph,P.c.Qq⟩;exact ⟨h.held,h.fin,h.wait,h.BS,h.out,h.line,h.M,h.wr⟩
 ·exact ⟨rfl,rfl,rfl,rfl,rfl,rfl,rfl,Nat.le_add_right _ _⟩
theorem YF (P:PS) (x:PM):Nz P (P.mapped x) (x.Ac.length + x.Ac.length * P.Ac.length):=by
 unfold PS.mapped;split
 ·unfold PS.Ko;have h0:Nz P (P.W4 x) 0:=⟨rfl,rfl,rfl,rfl,rfl,rfl,rfl,Nat.le_refl _⟩;have h:=(((h0.trans (Qo _ x.move)).trans (WM _ x.move)).trans (AaS _ x.move (B0 P.c.id x.Ac false))).trans (Un _ (B0 P.c.id x.Ac false) (B0 P.c.id P.Ac true));refine ⟨h.held,h.fin,h.wait,h.BS,h.out,h.line,h.M,Nat.le_trans h.wr ?_⟩;have l1:=Ft P.c.id x.Ac false;have l2:=Ft P.c.id P.Ac true;have l3:=Nat.mul_le_mul l1 l2;omega
 ·exact ⟨rfl,rfl,rfl,rfl,rfl,rfl,rfl,Nat.le_add_right _ _⟩
theorem SX {X:Mc} {P:PS} (h:X.p=P):X.d.out.length=P.out.length:=by rw [← h];exact (List.length_map _).symm
theorem ON {id:Int} {l:List Ow} {own:Bool} {n:Nat} (h:l.length≤n):(B0 id l own).length≤n:=Nat.le_trans (Ft _ _ _) h
set_option maxHeartbeats 4000000 in
theorem Ad4 {w:World} {m:Nat} {T:Nat→Nat} {X:Mc} (h:A6 w m T X) (x:Mg) (hx:Bq T (Su x) w) (hO:X.d.Ac.length≤100) (hO2:x.Ac.length≤100) (hb:X.d.out.length≤90000) (hw:X.d.writes.length≤1000) {K:TR []→Pr}
  (k:∀ X' T' w',A6 w' m T' X'→X'.p=X.p.No x.p→Dl X X'→Aq T T' w w'→K () w') :
  Cl Pg 75 [.pointer (some ⟨m,0,none⟩),.agg (Sm x)] true [] K w:=by
 refine Jf _ _ _ _ _ _ _ _ _ _ _ _ _ _ _ _ _ _ _ x.so x.sr x.sw ?_;unfold Gt;dsimp only [Ag,Ll,Hr,Ls,Lu,Tp,Ts,Tt,Tu,Vb,Vi,Vp,Vs,Vt,Vu];refine Ad fun a w1 h1 n1 k1=>?_;have g1:=h.Ab k1;have Ta:T a=0:=h.new n1;refine AG (fun _ w'=>∃ X' T',A6 w' m T' X'∧X'.p=X.p.mapped x.p∧Dl X X'∧Aq T T' w w') (fun J hJ=>?_) ?_
 ·have g1d:=g1.Ab (Am w1);simp only [sb,h1,g1.hd,Bs,A5,Nat.reduceAdd];by_cases hv:x.CZ > X.c.CZ
  ·rw [decide_eq_true hv];simp only [sb,g1.hd,Bs,A5,Nat.reduceAdd];refine Uj g1d g1d.r.ow.ok (by omega) true fun r1 w2 hr1 fr1 k2=>?_;have k02:=Aj (Aj k1 (Am w1)) k2;have g2:=h.Ab k02;have h2:=(Aj (Am w1) k2).Aw h1;have iH:Bq T (fun w=>A1 V8 w r1 (B0 X.c.id X.d.Ac true)) w2:=.of hr1.C6 fun b hb=>h.new (by
    have:=fr1 b (AE.rb hr1 b hb);have d:w1.drew.heap.size=w1.heap.size:=rfl;have:=k1.size;omega)
   simp only [sb,h2];have hx2:=hx.Ab k02;have iO:A1 Mj w2.drew x.sw x.Ac:=hx2.ok.2.2.Ab (Am w2);refine NO iO (by omega) ?_;intro r3 w3 hr3 fr3 k3;have k23:=Aj (Am w2) k3;have g3:=g2.Ab k23;have h3:=k23.Aw h2;have iH3:=iH.Ab k23;have iO3:Bq T (fun w=>A1 Mj w r3 x.Ac) w3:=.of hr3.C6 fun b hb=>g2.new (by
    have:=fr3 b (AE.rb hr3 b hb);have d:w2.drew.heap.size=w2.heap.size:=rfl;omega)
   have e03:Aq T T w w3:=Aq.k0 (Aj k02 k23);simp only [sb,h3,g3.hd,Bs,A5,Nat.reduceAdd];refine ⟨by trivial,by trivial,by trivial,?_⟩;refine g3.MC { X.c with CZ:=x.CZ } (by decide) rfl rfl fun w4 g4 e4=>?_;obtain ⟨h4,T4⟩:=e4.at h3 Ta;simp only [sb,h4];refine ⟨by trivial,by trivial,?_⟩;refine g4.MC { X.c with CZ:=x.CZ,Ao:=x.Ao } (by decide) rfl rfl fun w5 g5 e5=>?_;obtain ⟨h5,T5⟩:=e5.at h4 T4;simp only [sb,h5];refine ⟨by trivial,?_⟩;refine g5.MC { X.c with CZ:=x.CZ,Ao:=x.Ao,move:=x.move } (by decide) rfl rfl fun w6 g6 e6=>?_;obtain ⟨h6,T6⟩:=e6.at h5 T5;have iO6:=((iO3.Bm e4).Bm e5).Bm e6;refine g6.uOw iO6 fun w7 g7 e7=>?_;obtain ⟨h7,T7⟩:=e7.at h6 T6;have e07:=(((e03.trans e4).trans e5).trans e6).trans e7;have iH7:=(((iH3.Bm e4).Bm e5).Bm e6).Bm e7;have iO7:=iO6.Bm e7;obtain ⟨X7,hX7⟩:∃ X7:Mc,X7={ c:={ X.c with CZ:=x.CZ,Ao:=x.Ao,move:=x.move },d:={ X.d with so:=r3,Ac:=x.Ac } }:=⟨_,rfl⟩;rw [← hX7] at g7;have q7:X7.p=X.p.W4 x.p:=by rw [hX7];rfl
   have f7:Dl X X7:=by rw [hX7];exact ⟨rfl,rfl⟩
   have o7:X7.d.out=X.d.out:=by rw [hX7]
   have w7':X7.d.writes=X.d.writes:=by rw [hX7]
   have c7:X7.c.id=X.c.id:=by rw [hX7]
   have ow7:X7.d.so=r3∧X7.d.Ac=x.Ac:=by rw [hX7];exact ⟨rfl,rfl⟩
   refine AG (fun _ w'=>∃ X8 T8,A6 w' m T8 X8∧X8.p=X7.p.DE x.move∧Dl X X8∧X8.d.out=X.d.out∧X8.d.writes=X.d.writes∧X8.c=X7.c∧X8.d.so=r3∧X8.d.Ac=x.Ac∧Aq T T8 w7 w') (fun J8 hJ8=>?_) ?_
   ·have g7d:=g7.Ab (Am w7);unfold PS.DE at hJ8;have hbx:X7.p.box=X7.d.bx.map fun _=>X7.d.box.p:=rfl;rw [hbx] at hJ8;refine BR (match X7.d.bx with | none=>false | some _=>X7.d.box.move != x.move) (fun J9 hJ9=>?_) fun w8 k8=>?_
    ·cases hc:X7.d.bx with
     | none=>
      rw [hc] at hJ9;simp only [sb,g7.hd,Bs,A5,Nat.reduceAdd,hc,Option.map_none,Option.isNone_none,Bool.not_true];exact hJ9 _ (Am w7)
     | some b=>
      rw [hc] at hJ9;have hb:=g7.r.bo.ok b hc;simp only [sb,g7.hd,Bs,A5,Nat.reduceAdd,hc,Option.map_some,Option.isNone_some,Bool.not_false,hb,Gb,h7];exact hJ9 _ (Am w7)
    ·have g8:=g7.Ab k8;cases hc:X7.d.bx with
     | none=>
      rw [hc] at hJ8;simp only [sb];exact hJ8 () w8 ⟨X7,_,g8,rfl,f7,o7,w7',rfl,ow7.1,ow7.2,Aq.k0 k8⟩
     | some b=>
      rw [hc] at hJ8;simp only [Option.map_some] at hJ8;rw [show X7.d.box.p.move=X7.d.box.move from rfl] at hJ8;dsimp only;cases hm:(X7.d.box.move != x.move) with
      | false=>
       rw [hm] at hJ8;simp only [sb];exact hJ8 () w8 ⟨X7,_,g8,rfl,f7,o7,w7',rfl,ow7.1,ow7.2,Aq.k0 k8⟩
      | true=>
       rw [hm] at hJ8;simp only [sb];refine g8.unbox fun w9 g9 e9=>?_;exact hJ8 () w9 ⟨_,_,g9,rfl,⟨f7.BD,f7.sM⟩,o7,w7',rfl,ow7.1,ow7.2,(Aq.k0 k8).trans e9⟩
   ·rintro _ w8 ⟨X8,T8,g8,q8,f8,o8,w8',c8,so8,ow8,e8⟩;obtain ⟨h8,Ta8⟩:=e8.at h7 T7;have e08:=e07.trans e8;refine AG (fun _ w'=>∃ X9 T9,A6 w' m T9 X9∧X9.p=X8.p.QD x.move∧Dl X X9∧X9.d.out=X.d.out∧X9.d.writes=X.d.writes∧X9.c.id=X.c.id∧X9.d.so=r3∧X9.d.Ac=x.Ac∧Aq T8 T9 w8 w') (fun J9 hJ9=>?_) ?_
    ·have g8d:=g8.Ab (Am w8);unfold PS.QD at hJ9;simp only [sb,g8.hd,Bs,A5,Nat.reduceAdd,h8];cases hm:((X8.c.frozen:Int) != x.move) with
     | false=>
      simp only [sb];exact hJ9 () _ ⟨X8,_,g8d,(by rw [if_neg (by rw [show X8.p.c.frozen=X8.c.frozen from rfl,hm];simp)]),f8,o8,w8',(by rw [c8,c7]),so8,ow8,Aq.k0 (Am w8)⟩
     | true=>
      simp only [sb];refine g8d.MC { X8.c with frozen:=0 } (by decide) rfl rfl fun w9 g9 e9=>?_;refine g9.MC { X8.c with frozen:=0,Qk:=BA [] } (by decide) rfl rfl fun w10 g10 e10=>?_;refine g10.MC { X8.c with frozen:=0,Qk:=BA [],MS:=BA [] } (by decide) rfl rfl fun w11 g11 e11=>?_;exact hJ9 () w11 ⟨_,_,g11,(by rw [if_pos (by rw [show X8.p.c.frozen=X8.c.frozen from rfl,hm])];rfl),⟨f8.BD,f8.sM⟩,o8,w8',(by show X8.c.id=_;rw [c8,c7]),so8,ow8,(((Aq.k0 (Am w8)).trans e9).trans e10).trans e11⟩
    ·rintro _ w9 ⟨X9,T9,g9,q9,f9,o9,w9',c9,so9,ow9,e9⟩;obtain ⟨h9,Ta9⟩:=e9.at h8 Ta8;have e79:=e8.trans e9;have e09:=e07.trans e79;have iO9:=iO7.Bm e79;have iH9:=iH7.Bm e79;simp only [sb,g9.hd,Bs,A5,Nat.reduceAdd];rw [so9];refine Uj g9 iO9.ok (by omega) false fun r10 w10 hr10 fr10 k10=>?_;rw [c9] at hr10;have g10:=g9.Ab k10;have h10:=k10.Aw h9;have iS10:Bq T9 (fun w=>A1 V8 w r10 (B0 X.c.id x.Ac false)) w10:=.of hr10.C6 fun b hb=>g9.new (fr10 b (AE.rb hr10 b hb));have iH10:=iH9.Ab k10;have e010:=e09.trans (Aq.k0 k10);have lS:(B0 X.c.id x.Ac false).length≤100:=ON hO2;have lH:(B0 X.c.id X.d.Ac true).length≤100:=ON hO;refine AG (fun _ w'=>∃ X11 T11,A6 w' m T11 X11∧X11.p=X9.p.Kl x.move (B0 X.c.id x.Ac false)∧Dl X X11∧X11.d.writes.length≤2000∧Aq T9 T11 w10 w') (fun J11 hJ11=>?_) ?_
     ·have g10d:=g10.Ab (Am w10);unfold PS.Kl at hJ11;refine BR ((X9.c.AJ != 0) && (X9.c.AJ != x.move)) (fun J12 hJ12=>?_) fun w11 k11=>?_
      ·simp only [sb,g10.hd,Bs,A5,Nat.reduceAdd,h10];cases hm:((X9.c.AJ:Int) != 0) with
       | false=>
        rw [hm] at hJ12;simp only [sb];exact hJ12 _ (Am w10)
       | true=>
        rw [hm,Bool.true_and] at hJ12;simp only [sb,g10.hd,Bs,A5,Nat.reduceAdd,h10];exact hJ12 _ (Am w10)
      ·have g11:=g10.Ab k11;have hp:X9.p.c.AJ=X9.c.AJ:=rfl;rw [hp] at hJ11;cases hm:((X9.c.AJ != 0) && (X9.c.AJ != x.move)) with
       | false=>
        rw [hm] at hJ11;simp only [sb];exact hJ11 () w11 ⟨X9,T9,g11,rfl,f9,by rw [w9'];omega,Aq.k0 k11⟩
       | true=>
        rw [hm] at hJ11;simp only [Af];refine Ac9 g11 (iS10.Ab k11) (by omega) (by rw [w9'];omega) ?_;intro X12 T12 w12 g12 q12 f12 e12;refine g12.MC { X12.c with AJ:=0 } (by decide) rfl rfl fun w13 g13 e13=>?_;refine g13.MC { X12.c with AJ:=0,CD:=0 } (by decide) rfl rfl fun w14 g14 e14=>?_;refine g14.MC { X12.c with AJ:=0,CD:=0,Bo:=0 } (by decide) rfl rfl fun w15 g15 e15=>?_;refine g15.MC { X12.c with AJ:=0,CD:=0,Bo:=0,Ph:=BA [] } (by decide) rfl rfl fun w16 g16 e16=>?_;refine g16.MC { X12.c with AJ:=0,CD:=0,Bo:=0,Ph:=BA [],Qq:=BA [] } (by decide) rfl rfl fun w17 g17 e17=>?_;refine hJ11 () w17 ⟨_,T12,g17,?_,⟨(f9.trans f12.s).BD,(f9.trans f12.s).sM⟩,?_,((((((Aq.k0 k11).trans e12).trans e13).trans e14).trans e15).trans e16).trans e17⟩
        ·rw [if_pos rfl];show ({ X12.p with c:=_ }:PS)=_;rw [q12];unfold PS.Aic;rw [AjO q12];rfl
        ·show X12.d.writes.length≤2000;have s1:=(KO X9.p (B0 X.c.id x.Ac false) ⟨X9.c.Ph,X9.c.Qq⟩).wr;have s2:X9.p.writes.length=X.d.writes.length:=by show X9.d.writes.length=_;rw [w9']
         rw [Nh q12];omega
     ·rintro _ w11 ⟨X11,T11,g11,q11,f11,wr11,e11⟩;refine Agz g11 (iS10.Bm e11) (iH10.Bm e11) lS lH (by omega) ?_;intro X12 T12 w12 g12 q12 f12 e12;refine hJ () w12 ⟨X12,T12,g12,?_,f11.trans f12.s,(e010.trans e11).trans e12⟩
      ·unfold PS.mapped;rw [if_pos (show X.p.c.CZ < x.p.CZ from hv)];rw [q12,q11,q9,q8,q7];rfl
  ·rw [decide_eq_false hv];simp only [Ae];exact hJ () _ ⟨X,T,g1d,(if_neg hv).symm,Dl.refl _,Aq.k0 (Aj k1 (Am w1))⟩
 ·rintro _ w2 ⟨X2,T2,g2,q2,f2,e2⟩;have o2:X2.d.out.length=X.d.out.length:=by
   rw [SX q2,(YF X.p x.p).out];exact List.length_map _
  simp only [sb,g2.hd,Bs,A5,Nat.reduceAdd];refine KD g2 ⟨9,0,0,0,0,0,0,0,0,0,X2.c.CZ,0,0,0,0,false,BA [],BA [],⟨none,0,0⟩,⟨none,0,0⟩,⟨none,0,0⟩,[],[],[]⟩ (Bq.NI fun w=>⟨A1.nil w,⟨A1.nil w,by simp⟩,A1.nil w⟩) (by rw [o2];omega) ?_;intro so3 T3 w3 g3 e3;refine k _ T3 w3 g3 ?_ ⟨f2.BD,f2.sM⟩ (e2.trans e3);unfold PS.No PS.send;rw [← q2];unfold Mc.p;dsimp only;rw [List.map_append];rfl
open Go Go.Sx
def AfS (lo hi:ByteArray) (o:Op):Bool:=if ER o=0 then !CW lo hi (Dp o).1 (Dp o).2 else true
def Zg (n:Int):Int:=IntKind.u64.wrap (n + 1)
theorem Agh (n:Int):DR (Zg n):=by
 unfold Zg DR;simp only [IntKind.wrap,IntKind.signed,IntKind.bits];simp;omega
namespace PS
def PA (P:PS) (x:PM):Bool:=!((x.move == 0) || ((x.move != P.c.move) || ((B0 P.c.id P.Ac true).any (fun r=>Bw r.lo r.hi x.FN x.G6) || x.ops.any (AfS x.FN x.G6))))
def RJ (P:PS) (x:PM):Bool:=(x.move != P.c.AJ) || Decidable.decide (x.attempt > P.c.CD)
def opens (P:PS) (x:PM):PS:=if P.RJ x then { P with c:={ P.c with AJ:=x.move,CD:=x.attempt,Bo:=0,Ph:=x.FN,Qq:=x.G6 } } else P
def odd (P:PS) (x:PM):Bool:=Decidable.decide (x.attempt < P.c.CD) || (Decidable.decide (x.n > P.c.Bo) || !(seq x.FN P.c.Ph && (seq x.G6 P.c.Qq && true)))
def enters (P:PS) (x:PM):PS:=if x.n == P.c.Bo then { P with writes:=P.writes ++ x.ops,c:={ P.c with Bo:=Zg P.c.Bo } } else P
def Xh (x:PM):PM:={ PM.zero with kind:=12,dst:=x.src,move:=x.move,attempt:=x.attempt,n:=x.n }
def NW (P:PS) (x:PM):PS:=
 if P.PA x then if P.RJ x && (x.n != 0) then P else if (P.opens x).odd x then P.opens x else ((P.opens x).enters x).send (Xh x) else P
end PS
set_option maxHeartbeats 8000000 in
theorem AfW {w:World} {m:Nat} {T:Nat→Nat} {X:Mc} (h:A6 w m T X) (x:Mg) (hx:Bq T (Su x) w) (hO:X.d.Ac.length≤100) (hL:x.ops.length≤100) (hb:X.d.out.length≤90000) (hw:X.d.writes.length≤1000) {K:TR []→Pr}
  (k:∀ X' T' w',A6 w' m T' X'→X'.p=X.p.NW x.p→Fix X X'→Aq T T' w w'→K () w') :
  Cl Pg 77 [.pointer (some ⟨m,0,none⟩),.agg (Sm x)] true [] K w:=by
 refine JE _ _ _ _ _ _ _ _ _ _ _ _ _ _ _ _ _ _ _ x.so x.sr x.sw ?_;unfold HH;dsimp only [Ag,Li,Ll,Ls,Lu,Ts,Vb,Vi,Vp,Vs,Vt,Vu];refine Ad fun a w1 h1 n1 k1=>?_;have g1:=h.Ab k1;have Ta:T a=0:=h.new n1;have ol:x.so.len=x.ops.length:=hx.ok.1.len;unfold PS.NW at k;have em:X.p.PA x.p=!((x.move == 0) || ((x.move != X.c.move) || ((B0 X.c.id X.d.Ac true).any (fun r=>Bw r.lo r.hi x.FN x.G6) || x.ops.any (AfS x.FN x.G6)))):=rfl;refine BR (!X.p.PA x.p) (fun J hJ=>?_) fun w2 k2=>?_
 ·rw [em,Bool.not_not] at hJ;have g1d:=g1.Ab (Am w1);simp only [sb,h1,g1.hd,Bs,A5,Nat.reduceAdd];cases c1:((x.move:Int) == 0) with
  | true=>
   rw [c1,Bool.true_or] at hJ;exact hJ _ (Am w1)
  | false=>
   rw [c1,Bool.false_or] at hJ;simp only [sb,h1,g1.hd,Bs,A5,Nat.reduceAdd];cases c2:((x.move:Int) != X.c.move) with
   | true=>
    rw [c2,Bool.true_or] at hJ;exact hJ _ (Am w1)
   | false=>
    rw [c2,Bool.false_or] at hJ;simp only [sb,g1.hd,Bs,A5,Nat.reduceAdd];refine Uj g1d g1d.r.ow.ok (by omega) true fun r2 w2 hr2 fr2 k2=>?_;have h2:=(Aj (Am w1) k2).Aw h1;have lr:(B0 X.c.id X.d.Ac true).length≤100:=ON hO;refine ME (p:=fun r=>Bw r.lo r.hi x.FN x.G6) (F:=fun _=>False) hr2.C6 ?_ (by omega) fun w3 k3=>?_
    ·intro w4 k4 y hy K1 hK;have h4:=k4.SU.Aw h2;refine BJ (by kernel_rfl) ?_;refine HO y.lo y.hi _ ?_;unfold F5;dsimp only [Ls,Tt,Vt];refine Ad fun b w5 h5 n5 k5=>?_;simp only [sb,h5,k5.Aw h4,A5,Nat.reduceAdd];refine Vr _ _ _ _ fun w6 k6=>?_;dsimp only;refine DS ⟨mLo y.lo y.hi x.FN x.G6,mHi y.lo y.hi x.FN x.G6⟩ fun c w7 h7 n7 k7=>?_;exact hK w7 (Aj (Aj k5 k6) k7)
    ·have h3:=k3.Aw h2;have k13:=Aj (Aj (Am w1) k2) k3;dsimp only;cases c3:(B0 X.c.id X.d.Ac true).any (fun r=>Bw r.lo r.hi x.FN x.G6) with
     | true=>
      rw [c3,Bool.true_or] at hJ;exact hJ _ k13
     | false=>
      rw [c3,Bool.false_or] at hJ;simp only [sb,h3,A5,Nat.reduceAdd];refine BN (p:=AfS x.FN x.G6) (F:=fun _=>False) (hx.ok.1.Ab (Aj k1 k13)) ?_ (by omega) fun w4 k4=>?_
      ·intro w4 k4 o ho K1 hK;have h4:=k4.SU.Aw h3;refine BJ (by kernel_rfl) ?_;refine HW o.kind o.key o.value o.lo o.hi o.AD _ ?_;unfold FJ;dsimp only [Ar,N6,AN,Ls,Tt,Vt];refine Ad fun b w5 h5 n5 k5=>?_;have h45:=k5.Aw h4;simp only [sb,h5];refine Ya o fun w6 k6=>?_;obtain ⟨y,hy⟩:∃ y:Rn,y=(if ER o=0 then ⟨(Dp o).1,(Dp o).2⟩ else ⟨BA [],BA []⟩):=⟨_,rfl⟩;have e1:(if ER o=0 then (((Dp o).1,(Dp o).2,()),(0:Int),()) else ((BA [],BA [],()),ER o,()))=(((y.lo,y.hi,()),ER o,()):TR [.ag [.s,.s],.sc (.i .i64)]):=by
        rw [hy];by_cases h0:ER o=0
        ·rw [if_pos h0,if_pos h0,h0]
        ·rw [if_neg h0,if_neg h0]
       rw [e1];dsimp only;refine DS y fun c w7 h7 n7 k7=>?_;have h47:=(Aj k6 k7).Aw h45;unfold AfS at hK;by_cases h0:ER o=0
       ·rw [if_pos h0] at hK hy;rw [h0];simp only [show ((0:Int) != 0)=false from rfl,sb,h47,h7,A5,Nat.reduceAdd];refine Z1 _ _ _ _ fun w8 k8=>?_;rw [hy];exact hK w8 (Aj (Aj (Aj k5 k6) k7) k8)
       ·rw [if_neg h0] at hK;rw [show ((ER o:Int) != 0)=true from by simpa using h0];simp only [Af];exact hK w7 (Aj (Aj k5 k6) k7)
      ·exact hJ w4 (Aj k13 k4)
 have g2:=g1.Ab k2;have h2:=k2.Aw h1;have e02:Aq T T w w2:=Aq.k0 (Aj k1 k2);cases hm:X.p.PA x.p with
 | false=>
  rw [hm,if_neg (by simp)] at k;simp only [Bool.not_false,sb];exact k X T w2 g2 rfl (Fix.refl _) e02
 | true=>
  rw [hm,if_pos rfl] at k;simp only [Bool.not_true,sb];have en:X.p.RJ x.p=((x.move != X.c.AJ) || decide (x.attempt > X.c.CD)):=rfl;refine AG (fun _ w'=>(X.p.RJ x.p && (x.n != 0))=false∧∃ X3,A6 w' m T X3∧X3.p=X.p.opens x.p∧X3.d=X.d∧Aq T T w1 w') (fun J3 hJ3=>?_) ?_
  ·refine BR (X.p.RJ x.p) (fun J4 hJ4=>?_) fun w3 k3=>?_
   ·rw [en] at hJ4;simp only [sb,h2,g2.hd,Bs,A5,Nat.reduceAdd];cases c1:((x.move:Int) != X.c.AJ) with
    | true=>
     rw [c1,Bool.true_or] at hJ4;exact hJ4 _ (Am w2)
    | false=>
     rw [c1,Bool.false_or] at hJ4;simp only [sb,h2,g2.hd,Bs,A5,Nat.reduceAdd];exact hJ4 _ (Am w2)
   ·have g3:=g2.Ab k3;have h3:=k3.Aw h2;have e03:Aq T T w1 w3:=Aq.k0 (Aj k2 k3);cases hn:X.p.RJ x.p with
    | false=>
     simp only [sb];refine hJ3 () w3 ⟨by rw [hn];rfl,X,g3,?_,rfl,e03⟩;unfold PS.opens;rw [hn];rfl
    | true=>
     rw [hn] at k hJ3;simp only [sb,h3];cases c2:((x.n:Int) != 0) with
     | true=>
      rw [show (x.p.n != 0)=(x.n != 0) from rfl,c2] at k;simp only [Af];exact k X T w3 g3 rfl (Fix.refl _) ((Aq.k0 k1).trans e03)
     | false=>
      rw [c2] at hJ3;simp only [sb,h3,A5,Nat.reduceAdd];refine g3.MC { X.c with AJ:=x.move } (by decide) rfl rfl fun w4 g4 e4=>?_;refine g4.MC { X.c with AJ:=x.move,CD:=x.attempt } (by decide) rfl rfl fun w5 g5 e5=>?_;refine g5.MC { X.c with AJ:=x.move,CD:=x.attempt,Bo:=0 } (by decide) rfl rfl fun w6 g6 e6=>?_;refine g6.MC { X.c with AJ:=x.move,CD:=x.attempt,Bo:=0,Ph:=x.FN } (by decide) rfl rfl fun w7 g7 e7=>?_;refine g7.MC { X.c with AJ:=x.move,CD:=x.attempt,Bo:=0,Ph:=x.FN,Qq:=x.G6 } (by decide) rfl rfl fun w8 g8 e8=>?_;refine hJ3 () w8 ⟨rfl,_,g8,?_,rfl,((((e03.trans e4).trans e5).trans e6).trans e7).trans e8⟩;unfold PS.opens;rw [hn];rfl
  ·rintro _ w3 ⟨hn,X3,g3,q3,d3,e03⟩;have hn:(X.p.RJ x.p && (x.p.n != 0))=false:=hn;rw [hn,if_neg (by simp)] at k;rw [← q3] at k;obtain ⟨h3,Ta3⟩:=e03.at h1 Ta;have e0:Aq T T w w3:=(Aq.k0 k1).trans e03;have wl:X3.d.writes.length≤1000:=by rw [d3];exact hw
   have bl:X3.d.out.length≤90000:=by rw [d3];exact hb
   have f3:Fix X X3:=by constructor <;> rw [d3]
   have eo:X3.p.odd x.p=(decide (x.attempt < X3.c.CD) || (decide (x.n > X3.c.Bo) || !(seq x.FN X3.c.Ph && (seq x.G6 X3.c.Qq && true)))):=rfl;refine BR (X3.p.odd x.p) (fun J4 hJ4=>?_) fun w4 k4=>?_
   ·rw [eo] at hJ4;simp only [sb,h3,g3.hd,Bs,A5,Nat.reduceAdd];cases c1:decide ((x.attempt:Int) < X3.c.CD) with
    | true=>
     rw [c1,Bool.true_or] at hJ4;exact hJ4 _ (Am w3)
    | false=>
     rw [c1,Bool.false_or] at hJ4;simp only [sb,h3,g3.hd,Bs,A5,Nat.reduceAdd];cases c2:decide ((x.n:Int) > X3.c.Bo) with
     | true=>
      rw [c2,Bool.true_or] at hJ4;exact hJ4 _ (Am w3)
     | false=>
      rw [c2,Bool.false_or] at hJ4;simp only [sb,h3,g3.hd,Bs,A5,Nat.reduceAdd];exact hJ4 _ (Am w3)
   have g4:=g3.Ab k4;have h4:=k4.Aw h3;have e04:=e0.trans (Aq.k0 k4);cases ho:X3.p.odd x.p with
   | true=>
    rw [ho,if_pos rfl] at k;simp only [Af];exact k X3 T w4 g4 rfl f3 e04
   | false=>
    rw [ho,if_neg (by simp)] at k;simp only [Ae];refine AG (fun _ w'=>∃ X5 T5,A6 w' m T5 X5∧X5.p=X3.p.enters x.p∧Fix X3 X5∧X5.d.out=X3.d.out∧Aq T T5 w4 w') (fun J5 hJ5=>?_) ?_
    ·have g4d:=g4.Ab (Am w4);unfold PS.enters at hJ5;rw [show (x.p.n == X3.p.c.Bo)=(x.n == X3.c.Bo) from rfl] at hJ5;simp only [sb,h4,g4.hd,Bs,A5,Nat.reduceAdd];cases c1:((x.n:Int) == X3.c.Bo) with
     | false=>
      rw [c1] at hJ5;simp only [sb];exact hJ5 () _ ⟨X3,T,g4d,rfl,Fix.refl _,rfl,Aq.k0 (Am w4)⟩
     | true=>
      rw [c1] at hJ5;have g5:=g4d.Ab (Am w4.drew);have k45:=Aj (Am w4) (Am w4.drew);simp only [sb,h4,g4.hd,Bs,A5,Nat.reduceAdd];have hs:=g5.r.wr.ok;have hl:=hs.BY;have hxo:=(hx.Bm (e04.trans (Aq.k0 k45))).ok.1;refine AE.app (ρ:=BQ) (new:=x.ops) hs hxo.rd ol (by rw [R1];rfl) (by omega) (by omega) ?_;intro r6 w6 h6 k6 f6;refine g5.uWr k6 h6 f6 fun w7 g7 e7=>?_;simp only [sb,g7.hd,Bs,A5,Nat.reduceAdd];refine g7.MC { X3.c with Bo:=Zg X3.c.Bo } (by decide) rfl rfl fun w8 g8 e8=>?_;exact hJ5 () w8 ⟨_,_,g8,rfl,⟨rfl,rfl,rfl,rfl⟩,rfl,((Aq.k0 k45).trans e7).trans e8⟩
    ·rintro _ w5 ⟨X5,T5,g5,q5,f5,o5,e5⟩;obtain ⟨h5,Ta5⟩:=e5.at h4 Ta3;simp only [sb,h5];refine KD g5 ⟨12,0,x.src,0,0,0,0,0,0,0,0,0,x.move,x.attempt,x.n,false,BA [],BA [],⟨none,0,0⟩,⟨none,0,0⟩,⟨none,0,0⟩,[],[],[]⟩ (Bq.NI fun w=>⟨A1.nil w,⟨A1.nil w,by simp⟩,A1.nil w⟩) (by rw [o5];omega) ?_;intro so6 T6 w6 g6 e6;refine k _ T6 w6 g6 ?_ (f3.trans (f5.trans ⟨rfl,rfl,rfl,rfl⟩)) ((e04.trans e5).trans e6);rw [← q5];unfold PS.send PS.Xh Mc.p;dsimp only;rw [List.map_append];rfl
open Go Go.Sx
theorem A6.ZZ {w:World} {m:Nat} {T:Nat→Nat} {X:Mc} (h:A6 w m T X) {b:Nat} (hx:X.d.bx=some b) (B:Bx) (hr:B.sr=X.d.box.sr∧B.row=X.d.box.row) (hl:Bq T (fun w=>A1 BQ w B.sl B.load) w) {i:Nat} {v:Value} (hi:i < 11) (h1:v.oneCell'=true) (he:(Gb X.d.box).set i v=Gb B) {K:Pr}
  (k:∀ w',A6 w' m T { X with d:={ X.d with box:=B } }→Aq T T w w'→K w'):St ⟨b,i,none⟩ v K w:=by
 obtain ⟨lb,tb⟩:=h.r.bo.tag b hx;have mb:m ≠ b:=fun e=>by have:=h.t1;rw [e,tb] at this;cases this
 refine Ax (h.r.bo.ok b hx) i v h1 (by simpa [Gb] using hi) fun w2 h2 k2=>?_;have s:CH 9 T T w w2:=⟨k2.FY fun c hc=>.inl (by simp at hc;rw [hc];exact tb),fun _ _ _=>rfl⟩;have q:=h.r;have hnew:w2.heap[b]?=some (.cells (Gb B).toArray 118 (0,0)):=by
  rw [h2,← he];simp
 have e0:∀ c,X.d.bx=some c→c=b:=fun c hc=>by rw [hx] at hc;injection hc with hc;exact hc.symm
 refine k w2 ⟨k2.Mw h.hd mb,h.t1,?_⟩ (s.Bm (by decide));refine ⟨q.ow.kt (by decide) s,q.he.kt (by decide) (by decide) s,fun x hx=>(q.Ro x hx).kt (by decide) s,q.fi.kt (by decide) (by decide) s,q.wa.kt (by decide) (by decide) s,fun x hx=>(q.Ss x hx).kt (by decide) s,q.ta.kt (by decide) (by decide) s,q.ou.kt (by decide) (by decide) s,fun x hx=>(q.Wp x hx).kt (by decide) s,q.wr.kt (by decide) (by decide) s,q.li.kt (by decide) (by decide) s,?_,?_,hl.kt (by decide) s,q.RF.kt (by decide) (by decide) s,fun b hb=>Nat.lt_of_lt_of_le (q.bd b hb) k2.size⟩
 ·refine ⟨fun c hc=>by rw [e0 c hc];exact hnew,fun w3 _ hw c hc=>?_,fun c hc=>?_⟩
  ·rw [e0 c hc,hw b (by have:=k2.size;omega) (.inl tb)];exact hnew
  ·rw [e0 c hc];exact ⟨by have:=k2.size;omega,tb⟩
 ·show FV T 10 (·∈Ai B.sr) (fun w=>Bh BQ w B.sr B.row) w2;rw [hr.1,hr.2];exact q.ro.kt (by decide) (by decide) s
theorem Y8 {w:World} {T:Nat→Nat} (h:∀ b,T b ≠ 0→b < w.heap.size):∃ k,12 < k∧∀ b,T b ≠ k:=by
 have:∀ n,∃ k,12 < k∧∀ b,b < n→T b < k:=by
  intro n;induction n with
  | zero=>exact ⟨13,by decide,fun b hb=>by omega⟩
  | succ n ih=>
   obtain ⟨k,h1,h2⟩:=ih;refine ⟨k + T n + 1,by omega,fun b hb=>?_⟩;rcases Nat.lt_or_ge b n with hb' | hb'
   ·have:=h2 b hb';omega
   ·obtain rfl:b=n:=by omega
    omega
 obtain ⟨k,h1,h2⟩:=this w.heap.size;refine ⟨k,h1,fun b hb=>?_⟩;have h0:T b ≠ 0:=by omega
 have:=h2 b (h b h0);omega
theorem Rest.kk {k:Nat} (hk:12 < k) {w w':World} {T T':Nat→Nat} {X:Co} (h:Rest w T X) (s:CH k T T' w w') (hb:∀ b,T' b ≠ 0→b < w'.heap.size):Rest w' T' X:=
 ⟨h.ow.kt (by omega) s,h.he.kt (by omega) (by omega) s,fun x hx=>(h.Ro x hx).kt (by omega) s,h.fi.kt (by omega) (by omega) s,h.wa.kt (by omega) (by omega) s,fun x hx=>(h.Ss x hx).kt (by omega) s,h.ta.kt (by omega) (by omega) s,h.ou.kt (by omega) (by omega) s,fun x hx=>(h.Wp x hx).kt (by omega) s,h.wr.kt (by omega) (by omega) s,h.li.kt (by omega) (by omega) s,h.bo.kt (by omega) (by omega) s,h.ro.kt (by omega) (by omega) s,h.lo.kt (by omega) s,h.RF.kt (by omega) (by omega) s,hb⟩
theorem A6.kk {k:Nat} (hk:12 < k) {w w':World} {m:Nat} {T T':Nat→Nat} {X:Mc} (h:A6 w m T X) (s:CH k T T' w w') (hb:∀ b,T' b ≠ 0→b < w'.heap.size):A6 w' m T' X:=
 ⟨(s.kp.get m h.lt (by rw [h.t1];omega)).trans h.hd,(s.tg m h.lt (by rw [h.t1];omega)).trans h.t1,h.r.kk hk s hb⟩
structure Loc {α:Type} (ρ:Rec α) (k n:Nat) (T:Nat→Nat) (r:Sl) (l:List α) (w:World):Prop where
 c:FV T k (·∈Ai r) (fun w=>Bh ρ w r l) w
 new:∀ b,T b=k→n≤b
theorem Loc.nil {α:Type} {ρ:Rec α} {k n:Nat} {T:Nat→Nat} {w:World} (h:∀ b,T b ≠ k):Loc ρ k n T ⟨none,0,0⟩ [] w:=⟨.of (AE.nil _ _) (by simp [Ai]),fun b hb=>absurd hb (h b)⟩
theorem Aq.loc {k:Nat} (hk:12 < k) {T0 T T':Nat→Nat} {w0 w w':World} (e:Aq T0 T w0 w) (s:CH k T T' w w') (hn:∀ b,T b=k→w0.heap.size≤b):Aq T0 T' w0 w':=by
 refine ⟨e.kp.trans s.kp fun x hx=>.inr (hn x hx),fun b hb h0=>?_⟩;have e1:=e.tg b hb h0;rw [← e1];exact s.tg b (Nat.lt_of_lt_of_le hb e.kp.size) fun hk'=>by have:=hn b hk';omega
theorem Tn {α:Type} {ρ:Rec α} {k n:Nat} (hk:12 < k) {e bytes:Nat} {z:Array Value} {w w0:World} {m:Nat} {T T0:Nat→Nat} {X:Mc} (h:A6 w m T X) {r:Sl} {l new:List α} (hr:Loc ρ k n T r l w) (h0:Aq T0 T w0 w) (hn:n=w0.heap.size) {src:List Value→World→Prop} (hsrc:src (new.flatMap ρ.c) w) {q:Nat} (hq:q=new.length) (hz:z.size=ρ.n)
  (h47:(r.len + q) * bytes≤140737488355328) (h63:r.len + q≤9223372036854775807) {K:Sl→Pr}
  (kk:∀ r' T' w',A6 w' m T' X→Loc ρ k n T' r' (l ++ new) w'→CH k T T' w w'→Aq T0 T' w0 w'→K r' w'):App e ρ.n bytes z r q src K w:=by
 refine AE.app hr.c.ok hsrc hq hz h47 h63 ?_;intro r' w' h' k' f';have s:CH k T (AX k r' T) w w':=CH.row k' (fun b hb=>(hr.c.tag b hb).2) f';have hb:∀ b,AX k r' T b ≠ 0→b < w'.heap.size:=GH h' k'.size h.r.bd;refine kk r' _ w' (h.kk hk s hb) ⟨.of h' ED,fun b hb=>?_⟩ s (Aq.loc hk h0 s (by rw [← hn];exact hr.new));unfold AX at hb;split at hb
 ·rename_i hm;rcases f' b hm with h1 | h1
  ·exact hr.new b (hr.c.tag b h1).2
  ·have:=h0.kp.size;omega
 ·exact hr.new b hb
theorem Loc.Bm {α:Type} {ρ:Rec α} {k n:Nat} (hk:12 < k) {w w':World} {T:Nat→Nat} {r:Sl} {l:List α} (h:Loc ρ k n T r l w) (e:Aq T T w w'):Loc ρ k n T r l w':=by
 have hs:=e.kp.size;have get:∀ b,b < w.heap.size→(T b=k∨T b=0)→w'.heap[b]?=w.heap[b]?:=fun b hb ht=>e.kp.get b hb (by rcases ht with ht | ht <;> rw [ht] <;> omega);refine ⟨⟨h.c.st w' hs get,fun w2 h2 hw=>h.c.st w2 (Nat.le_trans hs h2) fun b hb ht=>?_,fun b hb=>⟨Nat.lt_of_lt_of_le (h.c.tag b hb).1 hs,(h.c.tag b hb).2⟩⟩,h.new⟩;rw [hw b (Nat.lt_of_lt_of_le hb hs) ht];exact get b hb ht
theorem Loc.Ab {α:Type} {ρ:Rec α} {k n:Nat} (hk:12 < k) {w w':World} {T:Nat→Nat} {r:Sl} {l:List α} (h:Loc ρ k n T r l w) (e:Aa [] w w'):Loc ρ k n T r l w':=Loc.Bm hk h (Aq.k0 e)
theorem Loc.row {α:Type} {ρ:Rec α} {k n:Nat} (hk:12 < k) {w w':World} {T:Nat→Nat} {r:Sl} {l:List α} (h:Loc ρ k n T r l w) {j:Nat} {q:Sl} (hj:j < k) (hq:∀ c∈Ai q,w.heap.size≤c) (e:Aq T (AX j q T) w w'):Loc ρ k n (AX j q T) r l w':=by
 have hs:=e.kp.size;have old:∀ b,b < w.heap.size→AX j q T b=T b:=fun b hb=>if_neg fun hm=>by have:=hq b hm;omega
 have get:∀ b,b < w.heap.size→(T b=k∨T b=0)→w'.heap[b]?=w.heap[b]?:=fun b hb ht=>e.kp.get b hb (by rcases ht with ht | ht <;> rw [ht] <;> omega);refine ⟨⟨h.c.st w' hs get,fun w2 h2 hw=>h.c.st w2 (Nat.le_trans hs h2) fun b hb ht=>?_,fun b hb=>?_⟩,fun b hb=>?_⟩
 ·rw [hw b (Nat.lt_of_lt_of_le hb hs) (by rw [old b hb];exact ht)];exact get b hb ht
 ·obtain ⟨h1,h2⟩:=h.c.tag b hb;exact ⟨Nat.lt_of_lt_of_le h1 hs,(old b h1).trans h2⟩
 ·unfold AX at hb;split at hb
  ·omega
  ·exact h.new b hb
theorem Loc.AcO {α:Type} {ρ:Rec α} {k:Nat} (hk:12 < k) {w w0:World} {m:Nat} {T T0:Nat→Nat} {X:Mc} (h:A6 w m T X) {r:Sl} {l:List α} (hr:Loc ρ k w0.heap.size T r l w) (h0:Aq T0 T w0 w):A6 w m (CG k T) X∧Bq (CG k T) (fun w=>A1 ρ w r l) w∧Aq T0 (CG k T) w0 w:=by
 have q:=h.r;refine ⟨⟨h.hd,AS (by omega) h.t1,q.ow.drop fun _=>A8,q.he.drop (fun _=>A8) (fun _=>AS (by omega)),fun x hx=>(q.Ro x hx).drop fun _=>A8,q.fi.drop (fun _=>A8) (fun _=>AS (by omega)),q.wa.drop (fun _=>A8) (fun _=>AS (by omega)),fun x hx=>(q.Ss x hx).drop fun _=>A8,q.ta.drop (fun _=>A8) (fun _=>AS (by omega)),q.ou.drop (fun _=>A8) (fun _=>AS (by omega)),fun x hx=>(q.Wp x hx).drop fun _=>A8,q.wr.drop (fun _=>A8) (fun _=>AS (by omega)),q.li.drop (fun _=>A8) (fun _=>AS (by omega)),q.bo.drop (fun _=>A8) (fun _=>AS (by omega)),q.ro.drop (fun _=>A8) (fun _=>AS (by omega)),q.lo.drop fun _=>A8,q.RF.drop (fun _=>A8) (fun _=>AS (by omega)),fun b hb=>q.bd b (XN hb)⟩,?_,h0.kp,fun b hb ht=>?_⟩
 ·have:=hr.c.AcO (T':=CG k T) (fun _=>A8) (fun _=>Aa1);exact this.map fun w h=>h.C6
 ·rw [← h0.tg b hb ht];unfold CG;rw [if_neg];intro e;have:=hr.new b e;omega
open Go Go.Sx
def D0 (b:PB):List Op:=if b.n == 0 then [⟨5,BA [],BA [],b.lo,b.hi,0⟩] else []
def Agw (p:Pa):Op:=⟨2,p.k,p.v,BA [],BA [],0⟩
def Ae5 (p:Pa):ByteArray:=if Kx p.k then M9 p.k else BA []
def GJ (M:List Pa) (b:PB):List Pa:=BM M b.whr b.hi (An (6 - ((D0 b).length:Int)))
def Zc (ps:List Pa) (a:ByteArray):ByteArray:=ps.foldl (fun _ p=>Ae5 p) a
def AeN (M:List Pa) (b:PB) (wh:ByteArray):Bool:=decide (((GJ M b).length:Int) < An (6 - ((D0 b).length:Int))) || (seq wh (BA []) || (!seq b.hi (BA []) && !slt wh b.hi))
def EV (M:List Pa) (b:PB):PB:=if b.all then b else { b with whr:=Zc (GJ M b) b.whr,all:=AeN M b (Zc (GJ M b) b.whr) }
def CO (M:List Pa) (b:PB):List Op:=if b.all then D0 b else D0 b ++ (GJ M b).map Agw
def Pz (b:PB) (l:List Op):Nat:=min (6 - l.length) b.row.length
def Db (M:List Pa) (b:PB):PB × List Op:=if (EV M b).all then ({ EV M b with row:=(EV M b).row.drop (Pz (EV M b) (CO M b)) },CO M b ++ (EV M b).row.take (Pz (EV M b) (CO M b))) else (EV M b,CO M b)
theorem Pd (b:PB):(D0 b).length≤1:=by unfold D0;split <;> simp
theorem Abt (M:List Pa) (lo hi:ByteArray) (n:Nat):(BM M lo hi (n:Int)).length≤n:=by
 unfold BM;rw [if_neg (by omega),List.length_take];exact Nat.min_le_left _ _
theorem R9 (M:List Pa) (b:PB):(D0 b).length + (GJ M b).length≤6:=by
 have h:=Pd b;have e:An (6 - ((D0 b).length:Int))=((6 - (D0 b).length:Nat):Int):=Go.Sx.N0 (m:=6) (by omega) (by omega);unfold GJ;rw [e];have:=Abt M b.whr b.hi (6 - (D0 b).length);omega
theorem OL (M:List Pa) (b:PB):(CO M b).length≤6:=by
 have h1:=Pd b;have h2:=R9 M b;unfold CO;split
 ·omega
 ·rw [List.length_append,List.length_map];omega
theorem Acx {ps:List Pa} {i:Nat} {p:Pa} (h:ps[i]?=some p) (a:ByteArray):Zc (ps.take (i + 1)) a=Ae5 p:=by
 unfold Zc;rw [GZ _ h]
set_option maxHeartbeats 8000000 in
theorem Ai3 {w:World} {m:Nat} {T:Nat→Nat} {X:Mc} (h:A6 w m T X) {b:Nat} (hx:X.d.bx=some b) (hMN:X.d.M.length≤300000) (hR:X.d.box.row.length≤1000000) {K:TR [.sc .sl]→Pr}
  (k:∀ r T' B w',A6 w' m T' { X with d:={ X.d with box:=B } }→B.p=(Db X.d.M X.d.box.p).1→Bq T' (fun w=>A1 BQ w r (Db X.d.M X.d.box.p).2) w'→Aq T T' w w'→K (r,()) w') :
  Cl Pg 219 [.pointer (some ⟨m,0,none⟩)] false [.sc .sl] K w:=by
 obtain ⟨kt,hk,hT⟩:=Y8 h.r.bd;refine L6 _ ?_;unfold Iu;dsimp only [Ar,N6,Lb,Ll,Hr,Ls,Lu,Tb,Ti,Ts,Tt,Vb,Vi,Vt];simp only [sb,h.hd,Bs,hx,Option.map_some];refine AG (fun s w'=>∃ T1,A6 w' m T1 X∧Loc BQ kt w.heap.size T1 s.1 (D0 X.d.box.p) w'∧Aq T T1 w w') (fun J3 hJ3=>?_) ?_
 ·have hb:=h.r.bo.ok b hx;simp only [sb,hb,Gb];unfold D0 at hJ3;rw [show (X.d.box.p.n == 0)=(X.d.box.n == 0) from rfl] at hJ3;cases c0:((X.d.box.n:Int) == 0) with
  | false=>
   rw [c0] at hJ3;simp only [sb];exact hJ3 _ w ⟨T,h,Loc.nil hT,Aq.refl _ _⟩
  | true=>
   rw [c0] at hJ3;have hd:=h.Ab (Am w);simp only [sb,hb,Gb,A5,Nat.reduceAdd];refine Ad fun c w1 h1 n1 k1=>?_;have g1:=hd.Ab k1;refine Tn hk g1 (ρ:=BQ) (l:=[]) (new:=[⟨5,BA [],BA [],X.d.box.lo,X.d.box.hi,0⟩]) (Loc.nil hT) (Aq.k0 (Aj (Am w) k1)) rfl (by rw [List.flatMap_singleton];exact BI (ρ:=BQ) (x:=⟨5,BA [],BA [],X.d.box.lo,X.d.box.hi,0⟩) h1) rfl (by rw [R1];rfl) (by show (0 + 1) * 80≤_;omega) (by show 0 + 1≤_;omega) ?_;intro r2 T2 w2 g2 l2 _ e2;exact hJ3 _ w2 ⟨T2,g2,l2,e2⟩
 ·rintro ⟨r1,⟨⟩⟩ w1 ⟨T1,g1,l1,e1⟩;have l1:Loc BQ kt w.heap.size T1 r1 (D0 X.d.box.p) w1:=l1;have lf:=Pd X.d.box.p;have hl1:=l1.c.ok.BY;dsimp only;refine AG (fun s w'=>∃ T2 B,A6 w' m T2 { X with d:={ X.d with box:=B } }∧B.p=EV X.d.M X.d.box.p∧Loc BQ kt w.heap.size T2 s.2.1 (CO X.d.M X.d.box.p) w'∧Aq T T2 w w') (fun J5 hJ5=>?_) ?_
  ·have hb:=g1.r.bo.ok b hx;simp only [sb,hb,Gb];unfold EV CO at hJ5;rw [show X.d.box.p.all=X.d.box.all from rfl] at hJ5;cases ca:X.d.box.all with
   | true=>
    rw [ca] at hJ5;simp only [Bool.not_true,sb];exact hJ5 _ w1 ⟨T1,X.d.box,g1,rfl,l1,e1⟩
   | false=>
    rw [ca] at hJ5;have g1d:=g1.Ab (Am w1);simp only [Bool.not_false,sb,g1.hd,Bs,hb,Gb,A5,Nat.reduceAdd];refine ⟨rfl,?_⟩;refine ZE g1d.r.RF.ok (by omega) _ _ _ ?_;intro r2 w2 hr2 fr2 k2;rw [hl1] at hr2 ⊢;have hr2:Bh C2 w2 r2 (GJ X.d.M X.d.box.p):=hr2;have k12:=Aj (Am w1) k2;have g2:=g1.Ab k12;have l2:=l1.Ab hk k12;have e2:=e1.trans (Aq.k0 k12);have hl2:=hr2.BY;have sl:=R9 X.d.M X.d.box.p;have i2:Bq T1 (fun w=>A1 C2 w r2 (GJ X.d.M X.d.box.p)) w2:=.of hr2.C6 fun b hb=>g1.new (by have:=fr2 b (AE.rb hr2 b hb);have d:w1.drew.heap.size=w1.heap.size:=rfl;omega);simp only [show ((0:Int) != 0)=false from rfl,Ae];generalize hps:GJ X.d.M X.d.box.p=ps at *;refine ⟨fun n st w'=>∃ (i:Nat) (r:Sl) (T3:Nat→Nat),st=(r,(i:Int),())∧n=ps.length - i∧i≤ps.length∧A6 w' m T3 { X with d:={ X.d with box:={ X.d.box with whr:=Zc (ps.take i) X.d.box.whr } } }∧Loc BQ kt w.heap.size T3 r (D0 X.d.box.p ++ (ps.take i).map Agw) w'∧Bq T3 (fun w=>A1 C2 w r2 ps) w'∧Aq T T3 w w',⟨_,0,r1,T1,rfl,rfl,by omega,g2,by simpa using l2,i2,e2⟩,?_⟩;rintro n _ w3 ⟨i,r3,T3,rfl,rfl,hi,g3,l3,i3,e3⟩;dsimp only;by_cases hlt:i < ps.length
    ·rw [decide_eq_true (by omega)];simp only [Af];obtain ⟨p,hp⟩:∃ p,ps[i]?=some p:=⟨_,List.getElem?_eq_getElem hlt⟩;refine KH i3.ok hp ?_;refine KC p fun c w4 h4 n4 k4=>?_;simp only [sb,h4];refine Ad fun d w5 h5 n5 k5=>?_;have k35:=Aj k4 k5;have g5:=g3.Ab k35;have l5:=l3.Ab hk k35;have hl5:=l5.c.ok.BY;rw [List.length_append,List.length_map,List.length_take] at hl5;have Tc:T3 c=0:=g3.new n4;refine Tn hk g5 (ρ:=BQ) (q:=1) (new:=[Agw p]) l5 (e3.trans (Aq.k0 k35)) rfl (by rw [List.flatMap_singleton];exact BI (ρ:=BQ) (x:=Agw p) h5) rfl (by rw [R1];rfl) (by omega) (by omega) ?_;intro r6 T6 w6 g6 l6 s6 e6;have h6:w6.heap[c]?=_:=(s6.kp.get c (Av (k5.Aw h4)) (by rw [Tc];omega)).trans (k5.Aw h4);have i6:=(i3.Ab k35).kt (by omega) s6;simp only [sb,h6];refine Ab3 _ fun w7 k7=>?_;obtain ⟨y,hy⟩:∃ y:Rn,y=(if Kx p.k then ⟨p.k,M9 p.k⟩ else ⟨BA [],BA []⟩):=⟨_,rfl⟩;have ey:(if Kx p.k then ((p.k,M9 p.k,()),(0:Int),()) else ((BA [],BA [],()),(20:Int),()))=(((y.lo,y.hi,()),(if Kx p.k then (0:Int) else 20),()):TR [.ag [.s,.s],.sc (.i .i64)]):=by rw [hy];cases Kx p.k <;> rfl
     have yh:y.hi=Ae5 p:=by rw [hy];unfold Ae5;cases Kx p.k <;> rfl
     rw [ey];dsimp only;refine DS y fun q w8 h8 n8 k8=>?_;have k68:=Aj k7 k8;have g8:=g6.Ab k68;simp only [sb,h8];refine g8.ZZ hx { X.d.box with whr:=Ae5 p } ⟨rfl,rfl⟩ g8.r.lo (by decide) rfl (by rw [yh];rfl) fun w9 g9 e9=>?_;have e69:Aq T6 T6 w6 w9:=(Aq.k0 k68).trans e9;refine ⟨ps.length - (i + 1),by omega,i + 1,r6,T6,by rw [AK (by omega)],rfl,by omega,?_,?_,i6.Bm e69,e6.trans e69⟩
     ·rw [Acx hp];exact g9
     ·have:=Loc.Bm hk l6 e69;rw [List.take_add_one,hp,List.map_append,← List.append_assoc];exact this
    ·rw [decide_eq_false (by omega)];rw [List.take_of_length_le (by omega)] at g3 l3;have g3d:=g3.Ab (Am w3);have e3d:=e3.trans (Aq.k0 (Am w3));have l3d:=l3.Ab hk (Am w3);have fin:∀ (v:Bool),v=AeN X.d.M X.d.box.p (Zc ps X.d.box.whr)→(St ⟨b,7,none⟩ (.bool v) (J5 (⟨none,0,0⟩,r3,()))) w3.drew:=by
      intro v hv;refine g3d.ZZ hx { X.d.box with whr:=Zc ps X.d.box.whr,all:=v } ⟨rfl,rfl⟩ g3d.r.lo (by decide) rfl rfl fun w9 g9 e9=>?_;refine hJ5 _ w9 ⟨T3,_,g9,?_,Loc.Bm hk l3d e9,e3d.trans e9⟩;rw [hv];rfl
     unfold AeN at fin;rw [hps] at fin;have hb3:=g3.r.bo.ok b hx;have w6:An (6 - ((D0 X.d.box.p).length:Int))=((6 - (D0 X.d.box.p).length:Nat):Int):=Go.Sx.N0 (m:=6) (by omega) (by omega);simp only [sb];rw [hl2,w6];rw [w6] at fin;cases d1:decide (((ps.length:Nat):Int) < ((6 - (D0 X.d.box.p).length:Nat):Int)) with
     | true=>
      rw [d1] at fin;simp only [sb];exact fin true (by rw [Bool.true_or])
     | false=>
      rw [d1,Bool.false_or] at fin;simp only [sb,hb3,Gb];cases d2:seq (Zc ps X.d.box.whr) (BA []) with
      | true=>
       rw [d2] at fin;simp only [sb];exact fin true (by rw [Bool.true_or])
      | false=>
       rw [d2,Bool.false_or] at fin;rw [show X.d.box.p.hi=X.d.box.hi from rfl] at fin;simp only [sb,hb3,Gb,A5,Nat.reduceAdd];cases d3:seq X.d.box.hi (BA []) with
       | true=>
        rw [d3] at fin;simp only [Bool.not_true,sb];exact fin false (by simp)
       | false=>
        rw [d3] at fin;simp only [Bool.not_false,sb,hb3,Gb,A5,Nat.reduceAdd];exact fin _ (by rw [Bool.not_false,Bool.true_and])
  ·rintro ⟨z,r2,⟨⟩⟩ w2 ⟨T2,B,g2,q2,l2,e2⟩;have l2:Loc BQ kt w.heap.size T2 r2 (CO X.d.M X.d.box.p) w2:=l2;have hl2:=l2.c.ok.BY;have sl:=OL X.d.M X.d.box.p;have rowB:B.row=X.d.box.row:=by
    have:B.p.row=X.d.box.p.row:=by rw [q2];unfold EV;split <;> rfl
    exact this
   have hb2:=g2.r.bo.ok b hx;refine AG (fun s w'=>∃ T3 B3,A6 w' m T3 { X with d:={ X.d with box:=B3 } }∧B3.p=(Db X.d.M X.d.box.p).1∧Loc BQ kt w.heap.size T3 s.1 (Db X.d.M X.d.box.p).2 w'∧Aq T T3 w w') (fun J7 hJ7=>?_) ?_
   ·unfold Db at hJ7;rw [← q2] at hJ7;rw [show B.p.all=B.all from rfl] at hJ7;simp only [sb,hb2,Gb];cases ca:B.all with
    | false=>
     rw [ca] at hJ7;simp only [sb];exact hJ7 _ w2 ⟨T2,B,g2,rfl,l2,e2⟩
    | true=>
     rw [ca] at hJ7;simp only [sb,hb2,Gb];have hro:=g2.r.ro.ok;have hrl:=hro.BY;have hrc:=AE.cap hro;have hrl:B.sr.len=B.row.length:=hrl;have hrc:B.sr.len≤B.sr.cap:=hrc;have hn:(if (An (6 - ((r2.len:Nat):Int)):Int) < ((B.sr.len:Nat):Int) then An (6 - ((r2.len:Nat):Int)) else ((B.sr.len:Nat):Int))=((Pz B.p (CO X.d.M X.d.box.p):Nat):Int):=by
      rw [hl2,hrl,show An (6 - (((CO X.d.M X.d.box.p).length:Nat):Int))=((6 - (CO X.d.M X.d.box.p).length:Nat):Int) from Go.Sx.N0 (m:=6) (by omega) (by omega)];unfold Pz;rw [show B.p.row=B.row from rfl];split <;> omega
     have hle:Pz B.p (CO X.d.M X.d.box.p)≤B.row.length:=Nat.min_le_right _ _;have hle6:Pz B.p (CO X.d.M X.d.box.p)≤6:=Nat.le_trans (Nat.min_le_left _ _) (by omega);rw [hn];generalize hnn:Pz B.p (CO X.d.M X.d.box.p)=n at *;rw [Int.toNat_natCast];refine ⟨⟨by omega,by omega⟩,?_⟩;have hre:A1 BQ w2 B.sr B.row:=hro.C6;have hd:=hre.drop (lo:=0) (hi:=n) (by omega) (by omega);rw [List.drop_zero,Nat.sub_zero] at hd;refine Tn hk g2 (ρ:=BQ) (new:=B.row.take n) l2 e2 rfl hd.rd (by rw [List.length_take];omega) (by rw [R1];rfl) (by omega) (by omega) ?_;intro r3 T3 w3 g3 l3 s3 e3;have hb3:=g3.r.bo.ok b hx;simp only [sb,hb3,Gb];refine ⟨⟨by omega,by omega⟩,?_⟩;have hro3:=g3.r.ro.ok;have hre3:A1 BQ w3 B.sr B.row:=hro3.C6;have hd3:=hre3.drop (lo:=n) (hi:=B.sr.len) (by omega) (Nat.le_refl _);have et:(B.row.drop n).take (B.sr.len - n)=B.row.drop n:=List.take_of_length_le (by rw [List.length_drop];omega);have hd3:A1 BQ w3 ⟨A7 B.sr.p B.sr.cap n 6,B.sr.len - n,B.sr.cap - n⟩ (B.row.drop n):=by rw [← et];exact hd3
     have eB:B.row.length=X.d.box.row.length:=by rw [rowB]
     refine Kz hd3 (by rw [List.length_drop];omega) ?_;intro r4 w4 h4 f4 k4;have l4:=l3.Ab hk k4;simp only [sb];refine g3.uRo hx (l:=B.row.drop n) (k4.mono (by simp)) h4 (fun c hc=>.inr (f4 c hc)) fun w5 g5 e5=>?_;refine hJ7 _ w5 ⟨_,_,g5,rfl,?_,e3.trans e5⟩;exact Loc.row hk l3 (by omega) (fun c hc=>f4 c hc) e5
   ·rintro ⟨r3,⟨⟩⟩ w3 ⟨T3,B3,g3,q3,l3,e3⟩;dsimp only;obtain ⟨g4,i4,e4⟩:=Loc.AcO hk g3 l3 e3;exact k r3 _ B3 w3 g4 q3 i4 e4
open Go Go.Sx
namespace PS
def Acj (P:PS) (b:PB):PM:={ PM.zero with kind:=11,dst:=b.peer,move:=b.move,attempt:=P.c.Au,n:=b.n,FN:=b.lo,G6:=b.hi,ops:=b.load }
def DV (P:PS):PS:=match P.box with
 | none=>P
 | some b=>P.send (P.Acj b)
def busy (P:PS) (lo hi:ByteArray):Bool:=P.held.any (fun h=>h.ops.any (CE lo hi)) || P.wait.any (fun w=>w.ops.any (CE lo hi))
def AbL (b:PB):Bool:=(b.n == 0) || (!b.all || Decidable.decide (0 < b.row.length))
def My (P:PS) (b:PB):PS:=({ P with box:=some { (Db P.M b).1 with load:=(Db P.M b).2,under:=true } }).DV
def freeze (P:PS) (b:PB):PS:=({ P with c:={ P.c with frozen:=b.move,Qk:=b.lo,MS:=b.hi },box:=none }).send { PM.zero with kind:=14,move:=b.move }
def Fa (P:PS):PS:=match P.box with
 | none=>P
 | some b=>if b.under then P else if AbL b then P.My b else if b.B9 && !P.busy b.lo b.hi then P.freeze b else P
end PS
theorem mgz {w:World} {T:Nat→Nat} {x:Mg} (h1:x.so=⟨none,0,0⟩) (h2:x.sr=⟨none,0,0⟩) (h3:x.sw=⟨none,0,0⟩) (h4:x.ops=[]) (h5:x.results=[]) (h6:x.Ac=[]):Bq T (Su x) w:=by
 refine Bq.NI (φ:=Su x) fun w=>⟨?_,⟨?_,?_⟩,?_⟩
 ·rw [h1,h4];exact A1.nil w
 ·rw [h2,h5];exact A1.nil w
 ·rw [h5];simp
 ·rw [h3,h6];exact A1.nil w
theorem Afv {w:World} {m:Nat} {T:Nat→Nat} {X:Mc} (h:A6 w m T X) {b:Nat} (hx:X.d.bx=some b) (hL:X.d.box.load.length≤1000000) (hb:X.d.out.length≤90000) {K:TR []→Pr}
  (k:∀ X' T' w',A6 w' m T' X'→X'.p=X.p.DV→Fix X X'→Aq T T' w w'→K () w'):Cl Pg 39 [.pointer (some ⟨m,0,none⟩)] true [] K w:=by
 refine KQ _ ?_;unfold IG;dsimp only [Li,Ll,Hr,Ls,Lu,Vb,Vi,Vp,Vs,Vt,Vu];have hbx:=h.r.bo.ok b hx;have hd:=h.Ab (Am w);simp only [sb,h.hd,Bs,hx,Option.map_some,hbx,Gb,A5,Nat.reduceAdd];refine Kz hd.r.lo.ok (by omega) ?_;intro r w1 h1 f1 k1;have k01:=Aj (Am w) k1;have g1:=h.Ab k01;have b1:=g1.r.bo.ok b hx;simp only [sb,g1.hd,Bs,b1,Gb,A5,Nat.reduceAdd];refine ⟨by trivial,by trivial,by trivial,by trivial,by trivial,?_⟩;have i1:Bq T (fun w=>A1 BQ w r X.d.box.load) w1:=.of h1.C6 fun c hc=>h.new (by have:=f1 c (AE.rb h1 c hc);have d:w.drew.heap.size=w.heap.size:=rfl;omega);refine KD g1 ⟨11,0,X.d.box.peer,0,0,0,0,0,0,0,0,0,X.d.box.move,X.c.Au,X.d.box.n,false,X.d.box.lo,X.d.box.hi,r,⟨none,0,0⟩,⟨none,0,0⟩,X.d.box.load,[],[]⟩ (i1.map (ψ:=Su _) fun w hw=>⟨hw,⟨A1.nil w,by simp⟩,A1.nil w⟩) (by omega) ?_;intro so2 T2 w2 g2 e2;refine k _ T2 w2 g2 ?_ ⟨rfl,rfl,rfl,rfl⟩ ((Aq.k0 k01).trans e2);unfold PS.DV;rw [show X.p.box=some X.d.box.p from by show X.d.bx.map _=_;rw [hx];rfl];unfold PS.send PS.Acj Mc.p;dsimp only;rw [List.map_append,hx];rfl
theorem A6.AhI {w:World} {m:Nat} {T:Nat→Nat} {X:Mc} (h:A6 w m T X) (c:Sc) {i:Nat} {v:Value} (hi:i < 26) (h1:v.oneCell'=true) (he:(Bs X).set i v=Bs { X with c:=c }) {K:Pr} (k:∀ w',A6 w' m T { X with c:=c }→CH 1 T T w w'→K w'):St ⟨m,i,none⟩ v K w:=
 A6.set (X':={ X with c:=c }) h.hd h.t1 h.r hi h1 he k
theorem A6.Ai5 {w:World} {m:Nat} {T:Nat→Nat} {X:Mc} (h:A6 w m T X) {K:Pr} (k:∀ w',A6 w' m T { X with d:={ X.d with bx:=none } }→CH 1 T T w w'→K w'):St ⟨m,19,none⟩ (.pointer none) K w:=
 A6.set (X':={ X with d:={ X.d with bx:=none } }) h.hd h.t1 h.r.unbox (by decide) rfl rfl k
theorem CH.at {k:Nat} {T T':Nat→Nat} {w w':World} (s:CH k T T' w w') {b:Nat} {o:Obj} (h:w.heap[b]?=some o) (ht:T b ≠ k):w'.heap[b]?=some o:=(s.kp.get b (Av h) ht).trans h
set_option maxHeartbeats 8000000 in
theorem Agx {w:World} {m:Nat} {T:Nat→Nat} {X:Mc} (h:A6 w m T X) (hMN:X.d.M.length≤300000) (hR:AM X.p 1000000) (hb:X.d.out.length≤90000) (hH:∀ x∈X.d.held,x.ops.length≤1000) (hW:∀ x∈X.d.wait,x.ops.length≤1000) (hHn:X.d.held.length≤100000) (hWn:X.d.wait.length≤100000) {K:TR []→Pr}
  (k:∀ X' T' w',A6 w' m T' X'→X'.p=X.p.Fa→Dl X X'→Aq T T' w w'→K () w'):Cl Pg 131 [.pointer (some ⟨m,0,none⟩)] true [] K w:=by
 refine JX _ ?_;unfold GX;dsimp only [Lb,Ll,Hr,Ls,Lu,Tb,Tp,Ts,Tu,Vb,Vi,Vp,Vs,Vt,Vu];simp only [sb,h.hd,Bs];refine Ad fun a w1 h1 n1 k1=>?_;refine Ax h1 0 _ rfl (by simp) fun w2 h2 k2=>?_;simp only [Ck] at h2;have k02:=BT k1 k2 n1;have g2:=h.Ab k02;have Ta:T a=0:=h.new n1;unfold PS.Fa at k;cases hx:X.d.bx with
 | none=>
  rw [show X.p.box=none from by show X.d.bx.map _=_;rw [hx];rfl] at k;rw [hx] at h2;refine BR true (fun J hJ=>?_) fun w3 k3=>?_
  ·simp only [sb,h2,Option.map_none,Option.isNone_none];exact hJ _ (Aa.refl _ _)
  ·simp only [sb];exact k X T w3 (g2.Ab k3) rfl (Dl.refl _) (Aq.k0 (Aj k02 k3))
 | some b=>
  have hp:X.p.box=some X.d.box.p:=by show X.d.bx.map _=_;rw [hx];rfl
  rw [hp] at k;rw [hx] at h2;dsimp only at k;rw [show X.d.box.p.under=X.d.box.under from rfl] at k;have hrow:X.d.box.row.length≤1000000:=hR X.d.box.p hp;have hb2:=g2.r.bo.ok b hx;refine BR X.d.box.under (fun J hJ=>?_) fun w3 k3=>?_
  ·simp only [sb,h2,Option.map_some,Option.isNone_some,hb2,Gb];exact hJ _ (Aa.refl _ _)
  have g3:=g2.Ab k3;have h3:=k3.Aw h2;have k03:=Aj k02 k3;cases hu:X.d.box.under with
  | true=>
   rw [hu,if_pos rfl] at k;simp only [sb];exact k X T w3 g3 rfl (Dl.refl _) (Aq.k0 k03)
  | false=>
   rw [hu,if_neg (by simp)] at k;simp only [sb];have hb3:=g3.r.bo.ok b hx;have hrl:X.d.box.sr.len=X.d.box.row.length:=g3.r.ro.ok.BY;have em:PS.AbL X.d.box.p=((X.d.box.n == 0) || (!X.d.box.all || decide (0 < X.d.box.row.length))):=rfl;refine BR (PS.AbL X.d.box.p) (fun J hJ=>?_) fun w4 k4=>?_
   ·rw [em] at hJ;simp only [sb,h3,Option.map_some,hb3,Gb];cases c1:((X.d.box.n:Int) == 0) with
    | true=>rw [c1,Bool.true_or] at hJ;exact hJ _ (Aa.refl _ _)
    | false=>
     rw [c1,Bool.false_or] at hJ;simp only [sb,h3,Option.map_some,hb3,Gb];cases c2:X.d.box.all with
     | false=>rw [c2,Bool.not_false,Bool.true_or] at hJ;exact hJ _ (Aa.refl _ _)
     | true=>
      rw [c2,Bool.not_true,Bool.false_or] at hJ;simp only [Bool.not_true,sb,h3,Option.map_some,hb3,Gb];rw [show decide (((X.d.box.sr.len:Nat):Int) > 0)=decide (0 < X.d.box.row.length) from decide_eq_decide.2 (by omega)];exact hJ _ (Aa.refl _ _)
   have g4:=g3.Ab k4;have h4:=k4.Aw h3;have k04:=Aj k03 k4;cases hm:PS.AbL X.d.box.p with
   | true=>
    rw [hm,if_pos rfl] at k;have g4d:=g4.Ab (Am w4);have h4d:w4.drew.heap[a]?=_:=h4;simp only [sb,h4,Option.map_some];refine Ai3 g4d hx hMN hrow ?_;intro r5 T5 B5 w5 g5 q5 i5 e5;obtain ⟨h5,Ta5⟩:=e5.at h4d Ta;simp only [sb,h5,Option.map_some];refine ⟨by trivial,?_⟩;obtain ⟨X5,hX5⟩:∃ X5:Mc,X5={ X with d:={ X.d with box:=B5 } }:=⟨_,rfl⟩;rw [← hX5] at g5;have hx5:X5.d.bx=some b:=by rw [hX5];exact hx
    have hB5:X5.d.box=B5:=by rw [hX5]
    refine g5.ZZ hx5 { X5.d.box with sl:=r5,load:=(Db X.d.M X.d.box.p).2 } ⟨rfl,rfl⟩ i5 (by decide) rfl rfl fun w6 g6 e6=>?_;obtain ⟨h6,Ta6⟩:=e6.at h5 Ta5;simp only [sb,h6,Option.map_some];refine g6.ZZ hx5 { X5.d.box with sl:=r5,load:=(Db X.d.M X.d.box.p).2,under:=true } ⟨rfl,rfl⟩ g6.r.lo (by decide) rfl rfl fun w7 g7 e7=>?_;have hnl:(Db X.d.M X.d.box.p).2.length≤1000000:=by
     have h1:=OL X.d.M X.d.box.p;unfold Db;split
     ·have:(Pz (EV X.d.M X.d.box.p) (CO X.d.M X.d.box.p))≤6:=Nat.le_trans (Nat.min_le_left _ _) (by omega);rw [List.length_append,List.length_take];omega
     ·show (CO X.d.M X.d.box.p).length≤_;omega
    refine Afv g7 hx5 hnl (by rw [hX5];exact hb) ?_;intro X8 T8 w8 g8 q8 f8 e8;refine k X8 T8 w8 g8 ?_ ⟨by rw [f8.BD];show X5.d.BD=_;rw [hX5],by rw [f8.sM];show X5.d.sM=_;rw [hX5]⟩ (((((Aq.k0 (Aj k04 (Am w4))).trans e5).trans e6).trans e7).trans e8);rw [q8];unfold PS.My
    congr 1
    have:B5.p=(Db X.p.M X.d.box.p).1:=q5;rw [← this,hX5];unfold Mc.p Bx.p;dsimp only;rw [hx];rfl
   | false=>
    rw [hm,if_neg (by simp)] at k;simp only [sb];have hb4:=g4.r.bo.ok b hx;refine BR (X.p.busy X.d.box.lo X.d.box.hi) (fun J hJ=>?_) fun w5 k5=>?_
    ·unfold PS.busy at hJ;simp only [sb,g4.hd,Bs,A5,Nat.reduceAdd];refine Gn (p:=fun x=>x.ops.any (CE X.d.box.lo X.d.box.hi)) (F:=fun _=>False) g4.r.he.ok.C6 ?_ (by omega) fun w5 k5=>?_
     ·intro w6 k6 x hxm K1 hK;have k6:=k6.SU;have h6:=k6.Aw h4;have b6:=k6.Aw hb4;have ho:A1 BQ w6 x.so x.ops:=(g4.r.Ro x hxm).ok.Ab k6;refine BJ (by kernel_rfl) ?_;refine HN x.Ah x.so _ ?_;unfold Fy;dsimp only [Ll,Ls,Vs,Vt,Vu];refine Ad fun c w7 h7 n7 k7=>?_;simp only [sb,h7,k7.Aw h6,Option.map_some,k7.Aw b6,Gb,A5,Nat.reduceAdd];refine JN (ho.Ab (Aj k7 (Am w7))) (by have:=hH x hxm;omega) _ _ fun w8 k8=>?_;exact hK w8 (Aj (Aj k7 (Am w7)) k8)
     ·have g5:=g4.Ab k5;have h5:=k5.Aw h4;have b5:=g5.r.bo.ok b hx;rw [show X.p.held.any (fun h=>h.ops.any (CE X.d.box.lo X.d.box.hi))=X.d.held.any (fun x=>x.ops.any (CE X.d.box.lo X.d.box.hi)) from by show (X.d.held.map Hd.p).any _=_;rw [List.any_map];rfl] at hJ;dsimp only;cases c1:X.d.held.any (fun x=>x.ops.any (CE X.d.box.lo X.d.box.hi)) with
      | true=>rw [c1,Bool.true_or] at hJ;exact hJ _ k5
      | false=>
       rw [c1,Bool.false_or] at hJ;simp only [sb,g5.hd,Bs];refine NB (p:=fun x=>x.ops.any (CE X.d.box.lo X.d.box.hi)) (F:=fun _=>False) g5.r.wa.ok.C6 ?_ (by omega) fun w6 k6=>?_
       ·intro w7 k7 x hxm K1 hK;have k7:=k7.SU;have h7:=k7.Aw h5;have b7:=k7.Aw b5;have ho:A1 BQ w7 x.so x.ops:=(g5.r.Ss x hxm).ok.1.Ab k7;refine BJ (by kernel_rfl) ?_;refine HP x.Ah x.so x.sk x.next _ ?_;unfold F3;dsimp only [RL,Ll,Ls,Vs,Vt];refine Ad fun c w8 h8 n8 k8=>?_;simp only [sb,h8,k8.Aw h7,Option.map_some,k8.Aw b7,Gb,A5,Nat.reduceAdd];refine JN (ho.Ab (Aj k8 (Am w8))) (by have:=hW x hxm;omega) _ _ fun w9 k9=>?_;exact hK w9 (Aj (Aj k8 (Am w8)) k9)
       ·rw [show X.p.wait.any (fun h=>h.ops.any (CE X.d.box.lo X.d.box.hi))=X.d.wait.any (fun x=>x.ops.any (CE X.d.box.lo X.d.box.hi)) from by show (X.d.wait.map Wt.p).any _=_;rw [List.any_map];rfl] at hJ;exact hJ _ (Aj k5 k6)
    have g5:=g4.Ab k5;have h5:=k5.Aw h4;have k05:=Aj k04 k5;have hb5:=g5.r.bo.ok b hx;rw [show X.d.box.p.B9=X.d.box.B9 from rfl,show X.d.box.p.lo=X.d.box.lo from rfl,show X.d.box.p.hi=X.d.box.hi from rfl] at k;refine BR (X.d.box.B9 && !X.p.busy X.d.box.lo X.d.box.hi) (fun J hJ=>?_) fun w6 k6=>?_
    ·simp only [sb,h5,Option.map_some,hb5,Gb];cases c1:X.d.box.B9 with
     | false=>rw [c1,Bool.false_and] at hJ;exact hJ _ (Aa.refl _ _)
     | true=>rw [c1,Bool.true_and] at hJ;exact hJ _ (Aa.refl _ _)
    have g6:=g5.Ab k6;have h6:=k6.Aw h5;have k06:=Aj k05 k6;have hb6:=g6.r.bo.ok b hx;cases hc:(X.d.box.B9 && !X.p.busy X.d.box.lo X.d.box.hi) with
    | false=>
     rw [hc,if_neg (by simp)] at k;simp only [sb];exact k X T w6 g6 rfl (Dl.refl _) (Aq.k0 k06)
    | true=>
     rw [hc,if_pos rfl] at k;have g6d:=g6.Ab (Am w6);obtain ⟨lb,tb⟩:=g6d.r.bo.tag b hx;simp only [sb,h6,Option.map_some,hb6,Gb,A5,Nat.reduceAdd];refine g6d.AhI { X.c with frozen:=X.d.box.move } (by decide) rfl rfl fun w7 g7 s7=>?_;refine g7.AhI { X.c with frozen:=X.d.box.move,Qk:=X.d.box.lo } (by decide) rfl rfl fun w8 g8 s8=>?_;refine g8.AhI { X.c with frozen:=X.d.box.move,Qk:=X.d.box.lo,MS:=X.d.box.hi } (by decide) rfl rfl fun w9 g9 s9=>?_;refine g9.Ai5 fun w10 g10 s10=>?_;have st:∀ {c:Nat} {o:Obj},w6.drew.heap[c]?=some o→T c ≠ 1→w10.heap[c]?=some o:=fun hc ht=>CH.at s10 (CH.at s9 (CH.at s8 (CH.at s7 hc ht) ht) ht) ht;have h10:=st (show w6.drew.heap[a]?=_ from h6) (by rw [Ta];decide);have b10:=st (show w6.drew.heap[b]?=_ from hb6) (by rw [tb];decide);simp only [sb,h10,Option.map_some,b10,Gb];refine KD g10 ⟨14,0,0,0,0,0,0,0,0,0,0,0,X.d.box.move,0,0,false,BA [],BA [],⟨none,0,0⟩,⟨none,0,0⟩,⟨none,0,0⟩,[],[],[]⟩ (mgz rfl rfl rfl rfl rfl rfl) (by show X.d.out.length≤_;omega) ?_;intro so11 T11 w11 g11 e11;refine k _ T11 w11 g11 ?_ ⟨rfl,rfl⟩ ((((((Aq.k0 (Aj k06 (Am w6))).trans (s7.Bm (by decide))).trans (s8.Bm (by decide))).trans (s9.Bm (by decide))).trans (s10.Bm (by decide))).trans e11);unfold PS.freeze PS.send Mc.p;dsimp only;rw [List.map_append];rfl
open Go Go.Sx
namespace PS
def Qf (P:PS) (b:PB) (x:PM):Bool:=!((b.move != x.move) || ((b.peer != x.src) || ((x.attempt != P.c.Au) || (!b.under || (x.n != b.n)))))
def KB (P:PS) (x:PM):PS:=match P.box with
 | none=>P
 | some b=>if P.Qf b x then ({ P with box:=some { b with under:=false,n:=Zg b.n } }).Fa else P
def P9 (P:PS) (x:PM):Bool:=!((x.CZ != P.c.CZ) || ((x.move == 0) || ((x.move != P.c.move) || ((x.peer == P.c.id) || !Afm P.Ac P.c.id x.FN x.G6))))
def XF (x:PM):PB:=⟨x.move,0,x.FN,x.G6,x.peer,false,false,false,x.FN,[],[]⟩
def boxed (P:PS) (x:PM):PS:=match P.box with
 | none=>{ P with box:=some (XF x) }
 | some _=>P
def closing (P:PS) (flag:Bool):PS:=match P.box with
 | none=>P
 | some b=>{ P with box:=some { b with B9:=b.B9 || flag } }
def SY (P:PS):Bool:=match P.box with
 | none=>false
 | some b=>!b.B9 && !b.under
def QC (P:PS) (x:PM):PS:=if (((P.boxed x).closing x.flag).Fa).SY then (((P.boxed x).closing x.flag).Fa).send { PM.zero with kind:=13,move:=x.move } else ((P.boxed x).closing x.flag).Fa
def Lr (P:PS) (x:PM):PS:=if P.P9 x then if P.c.frozen == x.move then P.send { PM.zero with kind:=14,move:=x.move } else P.QC x else P
end PS
structure Bds (X:Mc):Prop where
 M:X.d.M.length≤300000
 row:AM X.p 900000
 out:X.d.out.length≤80000
 hd:∀ x∈X.d.held,x.ops.length≤1000
 wt:∀ x∈X.d.wait,x.ops.length≤1000
 hn:X.d.held.length≤100000
 wn:X.d.wait.length≤100000
theorem Bds.box {X:Mc} (h:Bds X) {b:Option Nat} {B:Bx} (hr:B.row.length≤900000):Bds { X with d:={ X.d with bx:=b,box:=B } }:=
 ⟨h.M,fun y hy=>by
  have hy:b.map (fun _=>B.p)=some y:=hy;cases b with
  | none=>cases hy
  | some c=>rw [Option.map_some] at hy;injection hy with hy;rw [← hy];exact hr,h.out,h.hd,h.wt,h.hn,h.wn⟩
theorem Zr {w:World} {m:Nat} {T:Nat→Nat} {X:Mc} (h:A6 w m T X) (hb:Bds X) {K:TR []→Pr} (k:∀ X' T' w',A6 w' m T' X'→X'.p=X.p.Fa→Dl X X'→Aq T T' w w'→K () w'):Cl Pg 131 [.pointer (some ⟨m,0,none⟩)] true [] K w:=
 Agx h hb.M (fun b h=>Nat.le_trans (hb.row b h) (by decide)) (Nat.le_trans hb.out (by decide)) hb.hd hb.wt hb.hn hb.wn k
theorem AaA {X:Mc} {b:Nat} (hx:X.d.bx=some b) (B:Bx):Mc.p { X with d:={ X.d with box:=B } }={ X.p with box:=some B.p }:=by
 unfold Mc.p;dsimp only;rw [hx];rfl
theorem Af2 {w:World} {m:Nat} {T:Nat→Nat} {X:Mc} (h:A6 w m T X) (x:Mg) (hB:Bds X) {K:TR []→Pr}
  (k:∀ X' T' w',A6 w' m T' X'→X'.p=X.p.KB x.p→Dl X X'→Aq T T' w w'→K () w'):Cl Pg 78 [.pointer (some ⟨m,0,none⟩),.agg (Sm x)] true [] K w:=by
 refine IN _ _ _ _ _ _ _ _ _ _ _ _ _ _ _ _ _ _ _ x.so x.sr x.sw ?_;unfold Ge;dsimp only [Ag,Lb,Li,Hr,Lu,Tb,Vp,Vu];refine Ad fun a w1 h1 n1 k1=>?_;have g1:=h.Ab k1;have Ta:T a=0:=h.new n1;have g1d:=g1.Ab (Am w1);simp only [sb,g1.hd,Bs];unfold PS.KB at k;cases hx:X.d.bx with
 | none=>
  rw [show X.p.box=none from by show X.d.bx.map _=_;rw [hx];rfl] at k;refine BR true (fun J hJ=>?_) fun w2 k2=>?_
  ·simp only [Option.map_none,Option.isNone_none,sb];exact hJ _ (Am w1)
  ·simp only [sb];exact k X T w2 (g1.Ab k2) rfl (Dl.refl _) (Aq.k0 (Aj k1 k2))
 | some b=>
  have hp:X.p.box=some X.d.box.p:=by show X.d.bx.map _=_;rw [hx];rfl
  rw [hp] at k;dsimp only at k;have hb1:=g1.r.bo.ok b hx;have ei:X.p.Qf X.d.box.p x.p=!((X.d.box.move != x.move) || ((X.d.box.peer != x.src) || ((x.attempt != X.c.Au) || (!X.d.box.under || (x.n != X.d.box.n))))):=rfl;refine BR (!X.p.Qf X.d.box.p x.p) (fun J hJ=>?_) fun w2 k2=>?_
  ·rw [ei,Bool.not_not] at hJ;simp only [Option.map_some,Option.isNone_some,sb,hb1,Gb,h1];cases c1:((X.d.box.move:Int) != x.move) with
   | true=>rw [c1,Bool.true_or] at hJ;exact hJ _ (Am w1)
   | false=>
    rw [c1,Bool.false_or] at hJ;simp only [sb,hb1,Gb,h1];cases c2:((X.d.box.peer:Int) != x.src) with
    | true=>rw [c2,Bool.true_or] at hJ;exact hJ _ (Am w1)
    | false=>
     rw [c2,Bool.false_or] at hJ;simp only [sb,hb1,Gb,h1,g1.hd,Bs,A5,Nat.reduceAdd];cases c3:((x.attempt:Int) != X.c.Au) with
     | true=>rw [c3,Bool.true_or] at hJ;exact hJ _ (Am w1)
     | false=>
      rw [c3,Bool.false_or] at hJ;simp only [sb,hb1,Gb,h1];cases c4:X.d.box.under with
      | false=>rw [c4,Bool.not_false,Bool.true_or] at hJ;exact hJ _ (Am w1)
      | true=>
       rw [c4,Bool.not_true,Bool.false_or] at hJ;simp only [Bool.not_true,sb,hb1,Gb,h1];exact hJ _ (Am w1)
  have g2:=g1.Ab k2;have e02:Aq T T w w2:=Aq.k0 (Aj k1 k2);cases hl:X.p.Qf X.d.box.p x.p with
  | false=>
   rw [hl,if_neg (by simp)] at k;simp only [Bool.not_false,sb];exact k X T w2 g2 rfl (Dl.refl _) e02
  | true=>
   rw [hl,if_pos rfl] at k;simp only [Bool.not_true,Option.map_some,sb];refine g2.ZZ hx { X.d.box with under:=false } ⟨rfl,rfl⟩ g2.r.lo (by decide) rfl rfl fun w3 g3 e3=>?_;have hb3:=g3.r.bo.ok b hx;simp only [sb,hb3,Gb];refine g3.ZZ hx { X.d.box with under:=false,n:=Zg X.d.box.n } ⟨rfl,rfl⟩ g3.r.lo (by decide) rfl rfl fun w4 g4 e4=>?_;refine Zr g4 (hB.box (b:=X.d.bx) (B:={ X.d.box with under:=false,n:=Zg X.d.box.n }) (hB.row X.d.box.p hp)) ?_;intro X5 T5 w5 g5 q5 f5 e5;refine k X5 T5 w5 g5 ?_ ⟨f5.BD,f5.sM⟩ (((e02.trans e3).trans e4).trans e5);rw [q5];exact congrArg PS.Fa (AaA hx { X.d.box with under:=false,n:=Zg X.d.box.n })
theorem A6.Aj3 {w0 w:World} {m:Nat} {T:Nat→Nat} {X:Mc} (h:A6 w0 m T X) (k0:Aa [] w0 w) {c:Nat} (hc:w0.heap.size≤c) (B:Bx) (hb:w.heap[c]?=some (.cells (Gb B).toArray 118 (0,0))) (e1:B.sl=⟨none,0,0⟩) (e2:B.sr=⟨none,0,0⟩) (e3:B.load=[]) (e4:B.row=[]) {K:Pr}
  (k:∀ T' w',A6 w' m T' { X with d:={ X.d with bx:=some c,box:=B } }→Aq T T' w0 w'→K w'):St ⟨m,19,none⟩ (.pointer (some ⟨c,0,none⟩)) K w:=by
 obtain ⟨T',hT'⟩:∃ T':Nat→Nat,T'=fun b=>if b=c then 9 else T b:=⟨_,rfl⟩;have tg:∀ b,b < w0.heap.size→T' b=T b:=fun b hb=>by rw [hT'];exact if_neg (by omega)
 have Tc:T' c=9:=by rw [hT'];exact if_pos rfl
 have s:CH 9 T T' w0 w:=⟨k0.FY (by simp),fun b hb _=>tg b hb⟩;have q:=h.r;have lc:=Av hb;have hr:Rest w T' { X.d with bx:=some c,box:=B }:=by
  refine ⟨q.ow.kt (by decide) s,q.he.kt (by decide) (by decide) s,fun x hx=>(q.Ro x hx).kt (by decide) s,q.fi.kt (by decide) (by decide) s,q.wa.kt (by decide) (by decide) s,fun x hx=>(q.Ss x hx).kt (by decide) s,q.ta.kt (by decide) (by decide) s,q.ou.kt (by decide) (by decide) s,fun x hx=>(q.Wp x hx).kt (by decide) s,q.wr.kt (by decide) (by decide) s,q.li.kt (by decide) (by decide) s,?_,?_,?_,q.RF.kt (by decide) (by decide) s,fun b hb=>?_⟩
  ·have e0:∀ b,some c=some b→b=c:=fun b hb=>by injection hb with hb;exact hb.symm
   refine ⟨fun b hb'=>by rw [e0 b hb'];exact hb,fun w3 _ hw b hb'=>?_,fun b hb'=>?_⟩
   ·rw [e0 b hb',hw c lc (.inl Tc)];exact hb
   ·rw [e0 b hb'];exact ⟨lc,Tc⟩
  ·show FV T' 10 (·∈Ai B.sr) (fun w=>Bh BQ w B.sr B.row) w;rw [e2,e4];exact .of (AE.nil _ _) (by simp [Ai])
  ·show Bq T' (fun w=>A1 BQ w B.sl B.load) w;rw [e1,e3];exact Bq.NI fun w=>A1.nil w
  ·rw [hT'] at hb;dsimp only at hb;split at hb
   ·rename_i e;rw [e];exact lc
   ·exact Nat.lt_of_lt_of_le (q.bd b hb) k0.size
 refine A6.set (X':={ X with d:={ X.d with bx:=some c,box:=B } }) (k0.Aw h.hd) ((tg m h.lt).trans h.t1) hr (by decide) rfl rfl fun w2 g2 s2=>?_;refine k T' w2 g2 (Aq.trans (b:=w) ⟨k0.FY (by simp),fun b hb _=>tg b hb⟩ (s2.Bm (by decide)))
set_option maxHeartbeats 8000000 in
theorem Afl {w:World} {m:Nat} {T:Nat→Nat} {X:Mc} (h:A6 w m T X) (x:Mg) (hO:X.d.Ac.length≤100) (hB:Bds X) {K:TR []→Pr}
  (hS:∀ (Y:Mc),Y.p=((X.p.boxed x.p).closing x.flag).Fa→Y.d.out.length≤90000)
  (k:∀ X' T' w',A6 w' m T' X'→X'.p=X.p.Lr x.p→Dl X X'→Aq T T' w w'→K () w'):Cl Pg 76 [.pointer (some ⟨m,0,none⟩),.agg (Sm x)] true [] K w:=by
 refine Jk _ _ _ _ _ _ _ _ _ _ _ _ _ _ _ _ _ _ _ x.so x.sr x.sw ?_;unfold Gz;dsimp only [Ag,Lb,Li,Ll,Hr,Ls,Lu,Tb,Vb,Vi,Vp,Vs,Vt,Vu];refine Ad fun a w1 h1 n1 k1=>?_;have g1:=h.Ab k1;have Ta:T a=0:=h.new n1;unfold PS.Lr at k;have em:X.p.P9 x.p=!((x.CZ != X.c.CZ) || ((x.move == 0) || ((x.move != X.c.move) || ((x.peer == X.c.id) || !Afm X.d.Ac X.c.id x.FN x.G6)))):=rfl;refine BR (!X.p.P9 x.p) (fun J hJ=>?_) fun w2 k2=>?_
 ·rw [em,Bool.not_not] at hJ;have g1d:=g1.Ab (Am w1);simp only [sb,h1,g1.hd,Bs,A5,Nat.reduceAdd];cases c1:((x.CZ:Int) != X.c.CZ) with
  | true=>rw [c1,Bool.true_or] at hJ;exact hJ _ (Am w1)
  | false=>
   rw [c1,Bool.false_or] at hJ;simp only [sb,h1];cases c2:((x.move:Int) == 0) with
   | true=>rw [c2,Bool.true_or] at hJ;exact hJ _ (Am w1)
   | false=>
    rw [c2,Bool.false_or] at hJ;simp only [sb,h1,g1.hd,Bs,A5,Nat.reduceAdd];cases c3:((x.move:Int) != X.c.move) with
    | true=>rw [c3,Bool.true_or] at hJ;exact hJ _ (Am w1)
    | false=>
     rw [c3,Bool.false_or] at hJ;simp only [sb,h1,g1.hd,Bs,A5,Nat.reduceAdd];cases c4:((x.peer:Int) == X.c.id) with
     | true=>rw [c4,Bool.true_or] at hJ;exact hJ _ (Am w1)
     | false=>
      rw [c4,Bool.false_or] at hJ;simp only [sb,h1,g1.hd,Bs,A5,Nat.reduceAdd];refine AeK g1d.r.ow.ok (by omega) X.c.id x.FN x.G6 fun w2 k2=>?_;exact hJ w2 (Aj (Am w1) k2)
 have g2:=g1.Ab k2;have h2:=k2.Aw h1;have e02:Aq T T w w2:=Aq.k0 (Aj k1 k2);cases hm:X.p.P9 x.p with
 | false=>
  rw [hm,if_neg (by simp)] at k;simp only [Bool.not_false,sb];exact k X T w2 g2 rfl (Dl.refl _) e02
 | true=>
  rw [hm,if_pos rfl] at k;have g2d:=g2.Ab (Am w2);simp only [Bool.not_true,sb,h2,g2.hd,Bs,A5,Nat.reduceAdd];rw [show (X.p.c.frozen == x.p.move)=(X.c.frozen == x.move) from rfl] at k;cases c1:((X.c.frozen:Int) == x.move) with
  | true=>
   rw [c1,if_pos rfl] at k;simp only [sb,h2];refine KD g2d ⟨14,0,0,0,0,0,0,0,0,0,0,0,x.move,0,0,false,BA [],BA [],⟨none,0,0⟩,⟨none,0,0⟩,⟨none,0,0⟩,[],[],[]⟩ (mgz rfl rfl rfl rfl rfl rfl) (by have:=hB.out;omega) ?_;intro so3 T3 w3 g3 e3;refine k _ T3 w3 g3 ?_ ⟨rfl,rfl⟩ ((e02.trans (Aq.k0 (Am w2))).trans e3);unfold PS.send Mc.p;dsimp only;rw [List.map_append];rfl
  | false=>
   rw [c1,if_neg (by simp)] at k;simp only [sb];have h2d:w2.drew.heap[a]?=_:=h2;have e2d:=e02.trans (Aq.k0 (Am w2));refine AG (fun _ w'=>∃ X3 T3 b,A6 w' m T3 X3∧X3.d.bx=some b∧X3.p=X.p.boxed x.p∧Dl X X3∧Bds X3∧Aq T T3 w2.drew w') (fun J3 hJ3=>?_) ?_
   ·simp only [sb,g2.hd,Bs];unfold PS.boxed at hJ3;cases hx:X.d.bx with
    | none=>
     rw [show X.p.box=none from by show X.d.bx.map _=_;rw [hx];rfl] at hJ3;simp only [Option.map_none,Option.isNone_none,sb,h2,g2.hd,Bs,A5,Nat.reduceAdd];refine Ad fun c w3 h3 n3 k3=>?_;refine g2d.Aj3 k3 n3 ⟨x.move,0,x.FN,x.G6,x.peer,false,false,false,⟨none,0,0⟩,⟨none,0,0⟩,x.FN,[],[]⟩ h3 rfl rfl rfl rfl fun T4 w4 g4 e4=>?_;exact hJ3 () w4 ⟨_,T4,c,g4,rfl,rfl,⟨rfl,rfl⟩,hB.box (by simp),e4⟩
    | some b=>
     rw [show X.p.box=some X.d.box.p from by show X.d.bx.map _=_;rw [hx];rfl] at hJ3;simp only [Option.map_some,Option.isNone_some,sb];exact hJ3 () _ ⟨X,T,b,g2d,hx,rfl,Dl.refl _,hB,Aq.refl _ _⟩
   ·rintro _ w3 ⟨X3,T3,b,g3,hx3,q3,f3,B3,e3⟩;obtain ⟨h3,Ta3⟩:=e3.at h2d Ta;have hp3:X3.p.box=some X3.d.box.p:=by show X3.d.bx.map _=_;rw [hx3];rfl
    refine AG (fun _ w'=>∃ X4,A6 w' m T3 X4∧X4.d.bx=some b∧X4.p=X3.p.closing x.flag∧Dl X3 X4∧Bds X4∧Aq T3 T3 w3 w') (fun J4 hJ4=>?_) ?_
    ·have g3d:=g3.Ab (Am w3);have hb3:=g3.r.bo.ok b hx3;unfold PS.closing at hJ4;rw [hp3] at hJ4;simp only [sb,g3.hd,Bs,hx3,Option.map_some,hb3,Gb];cases c2:X3.d.box.B9 with
     | true=>
      simp only [sb];refine g3d.ZZ hx3 { X3.d.box with B9:=true } ⟨rfl,rfl⟩ g3d.r.lo (by decide) rfl rfl fun w4 g4 e4=>?_;refine hJ4 () w4 ⟨_,g4,hx3,?_,⟨rfl,rfl⟩,B3.box (b:=X3.d.bx) (B:={ X3.d.box with B9:=true }) (B3.row X3.d.box.p hp3),(Aq.k0 (Am w3)).trans e4⟩;rw [AaA hx3];dsimp only;rw [show X3.d.box.p.B9=X3.d.box.B9 from rfl,c2];rfl
     | false=>
      simp only [sb,h3];refine g3d.ZZ hx3 { X3.d.box with B9:=x.flag } ⟨rfl,rfl⟩ g3d.r.lo (by decide) rfl rfl fun w4 g4 e4=>?_;refine hJ4 () w4 ⟨_,g4,hx3,?_,⟨rfl,rfl⟩,B3.box (b:=X3.d.bx) (B:={ X3.d.box with B9:=x.flag }) (B3.row X3.d.box.p hp3),(Aq.k0 (Am w3)).trans e4⟩;rw [AaA hx3];dsimp only;rw [show X3.d.box.p.B9=X3.d.box.B9 from rfl,c2];rfl
    ·rintro _ w4 ⟨X4,g4,hx4,q4,f4,B4,e4⟩;obtain ⟨h4,Ta4⟩:=e4.at h3 Ta3;refine Zr g4 B4 ?_;intro X5 T5 w5 g5 q5 f5 e5;obtain ⟨h5,Ta5⟩:=e5.at h4 Ta4;have q5':X5.p=((X.p.boxed x.p).closing x.flag).Fa:=by rw [q5,q4,q3]
     have o5:=hS X5 q5';have e05:=((e2d.trans e3).trans e4).trans e5;have f05:=(f3.trans f4).trans f5;unfold PS.QC at k;rw [show x.p.flag=x.flag from rfl,← q5'] at k;refine BR X5.p.SY (fun J6 hJ6=>?_) fun w6 k6=>?_
     ·simp only [sb,g5.hd,Bs];unfold PS.SY at hJ6;cases hx5:X5.d.bx with
      | none=>
       rw [show X5.p.box=none from by show X5.d.bx.map _=_;rw [hx5];rfl] at hJ6;simp only [Option.map_none,Option.isNone_none,Bool.not_true,sb];exact hJ6 _ (Aa.refl _ _)
      | some b5=>
       rw [show X5.p.box=some X5.d.box.p from by show X5.d.bx.map _=_;rw [hx5];rfl] at hJ6;have hb5:=g5.r.bo.ok b5 hx5;simp only [Option.map_some,Option.isNone_some,Bool.not_false,sb,g5.hd,Bs,hx5,hb5,Gb];dsimp only at hJ6;rw [show X5.d.box.p.B9=X5.d.box.B9 from rfl,show X5.d.box.p.under=X5.d.box.under from rfl] at hJ6;cases c2:X5.d.box.B9 with
       | true=>rw [c2,Bool.not_true,Bool.false_and] at hJ6;exact hJ6 _ (Aa.refl _ _)
       | false=>
        rw [c2,Bool.not_false,Bool.true_and] at hJ6;simp only [Bool.not_false,sb,g5.hd,Bs,hx5,Option.map_some,hb5,Gb];exact hJ6 _ (Aa.refl _ _)
     ·have g6:=g5.Ab k6;have h6:=k6.Aw h5;cases c2:X5.p.SY with
      | false=>
       rw [c2,if_neg (by simp)] at k;simp only [sb];exact k X5 T5 w6 g6 rfl f05 (e05.trans (Aq.k0 k6))
      | true=>
       rw [c2,if_pos rfl] at k;simp only [sb,h6];refine KD g6 ⟨13,0,0,0,0,0,0,0,0,0,0,0,x.move,0,0,false,BA [],BA [],⟨none,0,0⟩,⟨none,0,0⟩,⟨none,0,0⟩,[],[],[]⟩ (mgz rfl rfl rfl rfl rfl rfl) (by omega) ?_;intro so7 T7 w7 g7 e7;refine k _ T7 w7 g7 ?_ ⟨f05.BD,f05.sM⟩ ((e05.trans (Aq.k0 k6)).trans e7);unfold PS.send Mc.p;dsimp only;rw [List.map_append];rfl
open Go Go.Sx
theorem QB (x y:Ak) (h:x.n=y.n):B8 x y=false:=by
 unfold B8;rw [show (x.n != y.n)=false from by simp [h]];simp
theorem Mv {Q:TS→List Int→List Int→Prop} (hstep:∀ s g d x,Q s g d→x∈s.wait→P1 s x=true→Q (Dd x s).2 (g ++ [x.n]) (d ++ (Dd x s).1)) :
  ∀ {k:Nat} {s:TS} {g d:List Int},Q s g d→Q (AT k s g d).1 (AT k s g d).2.1 (AT k s g d).2.2
 | 0,s,g,d,h=>h
 | k + 1,s,g,d,h=>by
  unfold AT;split
  ·exact h
  ·rename_i x hx;exact Mv hstep (hstep s g d x h (List.mem_of_find?_eq_some hx) (List.find?_some hx))
theorem Ep (d:List Int):∀ (s:TS) (y:Ak),(y∈(Ca d s).held ↔ y∈s.held∧y.n ∉ d)∧(y∈(Ca d s).wait ↔ y∈s.wait∧y.n ∉ d):=by
 unfold Ca;induction d with
 | nil=>intro s y;simp
 | cons n d ih=>
  intro s y;rw [List.foldl_cons];obtain ⟨h1,h2⟩:=ih (CJ n s) y;rw [h1,h2];unfold CJ;simp only [List.mem_filter,List.mem_cons,not_or,Bool.not_eq_true',beq_eq_false_iff_ne];exact ⟨⟨fun h=>⟨h.1.1,h.1.2,h.2⟩,fun h=>⟨⟨h.1,h.2.1⟩,h.2.2⟩⟩,⟨fun h=>⟨h.1.1,h.1.2,h.2⟩,fun h=>⟨⟨h.1,h.2.1⟩,h.2.2⟩⟩⟩
theorem Iw {x:Ak} {l:List Ak} {n:Int} (h:n∈Ed x l):∃ y∈l,y.n=n∧x.n < n:=by
 unfold Ed at h;simp only [List.mem_map,List.mem_filter,Bool.and_eq_true,decide_eq_true_iff] at h;obtain ⟨y,⟨h1,h2,h3⟩,rfl⟩:=h;exact ⟨y,h1,rfl,h2⟩
def G4 (t:Int) (l:Lk):Ak:=⟨t,l.lo,l.hi,l.wr⟩
theorem Yq {a b:ByteArray} (h:Da a b=true):CW a b a b=true:=by
 unfold CW;rw [h];have e:AV b b=b:=by unfold AV;split <;> rfl
 rw [e,Ki,Ki];simp
theorem Qs {x:Ak} (h:Da x.lo x.hi=true):F7 x x=true:=by
 unfold F7;rw [Yq h];cases x.wr <;> simp
theorem QT {x y:Ak} (h:F7 x y=true):y.n=x.n:=by
 unfold F7 at h;rw [Bool.and_eq_true] at h;simpa using h.1
structure F1 (W:List PW) (H:List PH) (s:TS) (D:Int→Prop) (G:List Int):Prop where
 snd:∀ x∈s.held,∀ y∈s.held,B8 x y=false
 hc:∀ h∈H,∀ o∈h.ops,∃ y∈s.held,F7 (G4 h.Ah (AI o)) y=true
 wt:∀ y∈s.wait,¬ D y.n∧y.n ∉ G∧∃ p∈W,p.Ah=y.n∧∃ (i:Nat) (lk:Lk),(i:Int) + 1=p.next∧p.BB[i]?=some lk∧y=G4 p.Ah lk
 wc:∀ p∈W,D p.Ah∨∀ (i:Nat) (lk:Lk),(i:Int) < p.next→p.BB[i]?=some lk→(∃ y∈s.held,F7 (G4 p.Ah lk) y=true)∨((i:Int) + 1=p.next∧G4 p.Ah lk∈s.wait)
 dg:∀ t∈G,¬ D t
 nd:G.Nodup
structure LIE (W:List PW) (H:List PH):Prop where
 un:∀ p∈W,∀ q∈W,p.Ah=q.Ah→p=q
 dj:∀ p∈W,∀ h∈H,p.Ah ≠ h.Ah
 ok:∀ p∈W,∀ lk∈p.BB,Da lk.lo lk.hi=true
section
variable {W:List PW} {H:List PH} {s:TS} {D:Int→Prop} {G:List Int}
theorem F1.drop (h:F1 W H s D G) (e:LIE W H) {d:List Int} (hd:∀ n∈d,(∃ p∈W,p.Ah=n)∧n ∉ G):F1 W H (Ca d s) (fun t=>D t∨t∈d) G:=by
 refine ⟨fun x hx y hy=>h.snd x ((Ep d s x).1.1 hx).1 y ((Ep d s y).1.1 hy).1,fun g hg o ho=>?_,fun y hy=>?_,fun p hp=>?_,fun t ht h'=>?_,h.nd⟩
 ·obtain ⟨y,h1,h2⟩:=h.hc g hg o ho;refine ⟨y,(Ep d s y).1.2 ⟨h1,fun hn=>?_⟩,h2⟩;obtain ⟨p,hp,e1⟩:=(hd _ hn).1;exact e.dj p hp g hg (e1.trans (QT h2))
 ·obtain ⟨h1,h2⟩:=(Ep d s y).2.1 hy;obtain ⟨a,b,c⟩:=h.wt y h1;exact ⟨fun hD=>hD.elim a h2,b,c⟩
 ·by_cases hn:p.Ah∈d
  ·exact .inl (.inr hn)
  ·rcases h.wc p hp with h1 | h1
   ·exact .inl (.inl h1)
   ·refine .inr fun i lk hi hl=>?_;rcases h1 i lk hi hl with ⟨y,h2,h3⟩ | ⟨h2,h3⟩
    ·exact .inl ⟨y,(Ep d s y).1.2 ⟨h2,by rw [QT h3];exact hn⟩,h3⟩
    ·exact .inr ⟨h2,(Ep d s _).2.2 ⟨h3,hn⟩⟩
 ·rcases h' with h' | h'
  ·exact h.dg t ht h'
  ·exact (hd t h').2 ht
theorem F1.add (h:F1 W H s D G) {x:Ak} (hx:∀ y∈s.held,B8 x y=false):F1 W H ⟨s.held ++ [x],s.wait⟩ D G:=by
 refine ⟨fun a ha b hb=>?_,fun g hg o ho=>?_,h.wt,fun p hp=>?_,h.dg,h.nd⟩
 ·simp only [List.mem_append,List.mem_singleton] at ha hb;rcases ha with ha | rfl <;> rcases hb with hb | rfl
  ·exact h.snd a ha b hb
  ·rw [AcZ];exact hx a ha
  ·exact hx b hb
  ·exact QB _ _ rfl
 ·obtain ⟨y,h1,h2⟩:=h.hc g hg o ho;exact ⟨y,List.mem_append.2 (.inl h1),h2⟩
 ·rcases h.wc p hp with h1 | h1
  ·exact .inl h1
  ·refine .inr fun i lk hi hl=>?_;rcases h1 i lk hi hl with ⟨y,h2,h3⟩ | h2
   ·exact .inl ⟨y,List.mem_append.2 (.inl h2),h3⟩
   ·exact .inr h2
theorem Ad8 {x:Ak} (h:P1 s x=true):∀ y∈s.held,B8 x y=false:=by
 unfold P1 at h;rw [Bool.not_eq_true',List.any_eq_false] at h;intro y hy;have:=h y hy;simpa using this
theorem F1.pick (h:F1 W H s D G) (e:LIE W H) {x:Ak} (hx:x∈s.wait) (hf:P1 s x=true):F1 W H (Dd x s).2 (fun t=>D t∨t∈(Dd x s).1) (G ++ [x.n]):=by
 obtain ⟨d1,g1,p,hp,e1,i,lk,hi,hl,ex⟩:=h.wt x hx;have h1:=h.add (Ad8 hf);have hok:Da x.lo x.hi=true:=by rw [ex];exact e.ok p hp lk (List.mem_of_getElem? hl)
 have hm:F1 W H ⟨s.held ++ [x],s.wait.filter (fun y=>!(y.n == x.n))⟩ D (G ++ [x.n]):=by
  refine ⟨h1.snd,h1.hc,fun y hy=>?_,fun q hq=>?_,fun t ht=>?_,?_⟩
  ·rw [List.mem_filter] at hy;obtain ⟨a,b,c⟩:=h.wt y hy.1;refine ⟨a,fun hg=>?_,c⟩;rcases List.mem_append.1 hg with hg | hg
   ·exact b hg
   ·have:=hy.2;simp at this hg;exact this hg
  ·rcases h1.wc q hq with h2 | h2
   ·exact .inl h2
   ·refine .inr fun j l2 hj hl2=>?_;rcases h2 j l2 hj hl2 with h3 | ⟨h3,h4⟩
    ·exact .inl h3
    ·by_cases hn:q.Ah=x.n
     ·have:=e.un q hq p hp (hn.trans e1.symm);subst this;have:j=i:=by omega
      subst this;rw [hl] at hl2;injection hl2 with hl2;subst hl2;rw [← ex];exact .inl ⟨x,List.mem_append.2 (.inr (List.mem_singleton.2 rfl)),Qs hok⟩
     ·refine .inr ⟨h3,List.mem_filter.2 ⟨h4,?_⟩⟩;simpa [G4] using hn
  ·rcases List.mem_append.1 ht with ht | ht
   ·exact h.dg t ht
   ·rw [List.mem_singleton.1 ht];exact d1
  ·rw [List.nodup_append];refine ⟨h.nd,by simp,fun a ha b hb=>?_⟩;rw [List.mem_singleton.1 hb];exact fun e=>g1 (e ▸ ha)
 unfold Dd AL;refine hm.drop e fun n hn=>?_;obtain ⟨y,hy,e2,_⟩:=Iw hn;obtain ⟨_,b,q,hq,e3,_⟩:=hm.wt y hy;exact ⟨⟨q,hq,e3.trans e2⟩,by rw [← e2];exact b⟩
theorem F1.settle (e:LIE W H) {k:Nat} {g d:List Int} (h:F1 W H s (fun t=>D t∨t∈d) (G ++ g)):F1 W H (AT k s g d).1 (fun t=>D t∨t∈(AT k s g d).2.2) (G ++ (AT k s g d).2.1):=by
 refine Mv (Q:=fun s g d=>F1 W H s (fun t=>D t∨t∈d) (G ++ g)) ?_ h;intro s g d x h hx hf;have:=h.pick e hx hf;rw [List.append_assoc] at this;refine ⟨this.snd,this.hc,fun y hy=>?_,fun p hp=>?_,fun t ht h'=>?_,this.nd⟩
 ·obtain ⟨a,b⟩:=this.wt y hy;exact ⟨fun h'=>a (by rcases h' with h' | h';exact .inl (.inl h');exact (List.mem_append.1 h').elim (fun h=>.inl (.inr h)) .inr),b⟩
 ·rcases this.wc p hp with h1 | h1
  ·refine .inl ?_;rcases h1 with (h1 | h1) | h1
   ·exact .inl h1
   ·exact .inr (List.mem_append.2 (.inl h1))
   ·exact .inr (List.mem_append.2 (.inr h1))
  ·exact .inr h1
 ·refine this.dg t ht ?_;rcases h' with h' | h'
  ·exact .inl (.inl h')
  ·exact (List.mem_append.1 h').elim (fun h=>.inl (.inr h)) .inr
theorem F1.Akz {g d:List Int} (h:F1 W H s (fun t=>D t∨t∈d) (G ++ g)):F1 W H s (fun t=>D t∨t∈Dk d) (G ++ Dk g):=by
 refine ⟨h.snd,h.hc,fun y hy=>?_,fun p hp=>?_,fun t ht h'=>?_,?_⟩
 ·obtain ⟨a,b,c⟩:=h.wt y hy;refine ⟨fun h'=>a (by rw [EP] at h';exact h'),fun hg=>b ?_,c⟩;rw [List.mem_append,EP] at hg;exact List.mem_append.2 hg
 ·rcases h.wc p hp with h1 | h1
  ·exact .inl (by rw [EP];exact h1)
  ·exact .inr h1
 ·rw [List.mem_append,EP] at ht;rw [EP] at h';exact h.dg t (List.mem_append.2 ht) h'
 ·have hn:=h.nd;rw [List.nodup_append] at hn ⊢;refine ⟨hn.1,(Sg g).imp (fun h=>Int.ne_of_lt h),fun a ha b hb=>?_⟩;rw [EP] at hb;exact hn.2.2 a ha b hb
structure Upd (W W':List PW) (p p':PW):Prop where
 a:∀ q∈W',q=p'∨(q∈W∧q.Ah ≠ p.Ah)
 b:p'∈W'
 c:∀ q∈W,q.Ah ≠ p.Ah→q∈W'
def Pw (p:PW):PW:={ p with next:=p.next + 1 }
theorem Upd.lie {W':List PW} {p:PW} (u:Upd W W' p (Pw p)) (e:LIE W H) (hp:p∈W):LIE W' H:=by
 refine ⟨fun a ha b hb hab=>?_,fun a ha h hh=>?_,fun a ha lk hl=>?_⟩
 ·rcases u.a a ha with rfl | ⟨ha,na⟩ <;> rcases u.a b hb with rfl | ⟨hb,nb⟩
  ·rfl
  ·exact absurd hab.symm nb
  ·exact absurd hab na
  ·exact e.un a ha b hb hab
 ·rcases u.a a ha with rfl | ⟨ha,_⟩
  ·exact e.dj p hp h hh
  ·exact e.dj a ha h hh
 ·rcases u.a a ha with rfl | ⟨ha,_⟩
  ·exact e.ok p hp lk hl
  ·exact e.ok a ha lk hl
theorem F1.S0 (h:F1 W H s D G) (e:LIE W H) {W':List PW} {p:PW} (hp:p∈W) (u:Upd W W' p (Pw p)) (ht:∀ y∈s.wait,y.n ≠ p.Ah) (hD:¬ D p.Ah) {j:Nat} {lk:Lk} (hj:(j:Int)=p.next) (hl:p.BB[j]?=some lk) (hc:∃ y∈s.held,F7 (G4 p.Ah lk) y=true):F1 W' H s D G:=by
 refine ⟨h.snd,h.hc,fun y hy=>?_,fun q hq=>?_,h.dg,h.nd⟩
 ·obtain ⟨a,b,q,hq,e1,c⟩:=h.wt y hy;exact ⟨a,b,q,u.c q hq (by rw [e1];exact ht y hy),e1,c⟩
 ·rcases u.a q hq with rfl | ⟨hq,_⟩
  ·refine .inr fun i l2 hi hl2=>?_;have hi:(i:Int) < p.next + 1:=hi;have hl2:p.BB[i]?=some l2:=hl2;by_cases hij:i=j
   ·subst hij;rw [hl] at hl2;injection hl2 with hl2;subst hl2;exact .inl hc
   ·rcases h.wc p hp with h1 | h1
    ·exact absurd h1 hD
    ·rcases h1 i l2 (by omega) hl2 with h2 | ⟨h2,h3⟩
     ·exact .inl h2
     ·exact absurd rfl (ht _ h3)
  ·exact h.wc q hq
theorem TZ {x y:Ak} {l:List Ak}:y∈QN x l ↔ y=x∨y∈l:=by
 unfold QN;simp only [List.mem_append,List.mem_cons,List.mem_filter,Bool.not_eq_true',decide_eq_true_iff,decide_eq_false_iff_not];constructor
 ·rintro (⟨h,_⟩ | rfl | ⟨h,_⟩)
  ·exact .inr h
  ·exact .inl rfl
  ·exact .inr h
 ·rintro (rfl | h)
  ·exact .inr (.inl rfl)
  ·by_cases hlt:y.n < x.n
   ·exact .inl ⟨h,hlt⟩
   ·exact .inr (.inr ⟨h,hlt⟩)
theorem AdS {x:Ak} {s:TS}:∀ y∈(Dd x s).2.wait,y∈s.wait:=by
 intro y hy;unfold Dd AL at hy;have:=((Ep _ _ y).2.1 hy).1;exact (List.mem_filter.1 this).1
theorem Acv {x:Ak} {s:TS}:∀ n∈(Dd x s).1,∃ y∈s.wait,y.n=n:=by
 intro n hn;unfold Dd AL at hn;obtain ⟨y,hy,e,_⟩:=Iw hn;exact ⟨y,(List.mem_filter.1 hy).1,e⟩
theorem AaH {N:Int→Prop} {k:Nat} {g d:List Int} (h:(∀ y∈s.wait,N y.n)∧(∀ n∈g,N n)∧(∀ n∈d,N n)):(∀ y∈(AT k s g d).1.wait,N y.n)∧(∀ n∈(AT k s g d).2.1,N n)∧(∀ n∈(AT k s g d).2.2,N n):=by
 refine Mv (Q:=fun s g d=>(∀ y∈s.wait,N y.n)∧(∀ n∈g,N n)∧(∀ n∈d,N n)) ?_ h;rintro s g d x ⟨h1,h2,h3⟩ hx hf;refine ⟨fun y hy=>h1 y (AdS y hy),fun n hn=>?_,fun n hn=>?_⟩
 ·rcases List.mem_append.1 hn with hn | hn
  ·exact h2 n hn
  ·rw [List.mem_singleton.1 hn];exact h1 x hx
 ·rcases List.mem_append.1 hn with hn | hn
  ·exact h3 n hn
  ·obtain ⟨y,hy,e⟩:=Acv n hn;rw [← e];exact h1 y hy
theorem F1.ask (h:F1 W H s D G) (e:LIE W H) {W':List PW} {p:PW} (hp:p∈W) (u:Upd W W' p (Pw p)) (ht:∀ y∈s.wait,y.n ≠ p.Ah) (hD:¬ D p.Ah) (hG:p.Ah ∉ G) {j:Nat} {lk:Lk} (hj:(j:Int)=p.next) (hl:p.BB[j]?=some lk) :
  ((Bc (G4 p.Ah lk) s).1.1=1∧F1 W' H (Bc (G4 p.Ah lk) s).2 (fun t=>D t∨t∈(Bc (G4 p.Ah lk) s).1.2.2.1) (G ++ (Bc (G4 p.Ah lk) s).1.2.1)∧(∀ y∈(Bc (G4 p.Ah lk) s).2.wait,y.n ≠ p.Ah)∧p.Ah ∉ (Bc (G4 p.Ah lk) s).1.2.2.1∧p.Ah ∉ (Bc (G4 p.Ah lk) s).1.2.1) ∨
  ((Bc (G4 p.Ah lk) s).1.1=2∧(Bc (G4 p.Ah lk) s).1.2.1=[]∧(Bc (G4 p.Ah lk) s).1.2.2.1=[]∧F1 W' H (Bc (G4 p.Ah lk) s).2 D G) ∨
  ((Bc (G4 p.Ah lk) s).1.1=3∧(Bc (G4 p.Ah lk) s).1.2.1=[]∧(Bc (G4 p.Ah lk) s).1.2.2.1=[]∧(Bc (G4 p.Ah lk) s).2=s):=by
 have hok:=e.ok p hp lk (List.mem_of_getElem? hl);obtain ⟨x,hx⟩:∃ x,x=G4 p.Ah lk:=⟨_,rfl⟩;rw [← hx];have xn:x.n=p.Ah:=by rw [hx];rfl
 have xok:Da x.lo x.hi=true:=by rw [hx];exact hok
 have dD:∀ {s':TS},F1 W' H s' D G→F1 W' H s' (fun t=>D t∨t∈([]:List Int)) (G ++ []):=fun h=>by
  rw [List.append_nil];exact ⟨h.snd,h.hc,fun y hy=>⟨fun h'=>(h.wt y hy).1 (by simpa using h'),(h.wt y hy).2⟩,fun p hp=>(h.wc p hp).elim (fun h'=>.inl (.inl h')) .inr,fun t ht h'=>h.dg t ht (by simpa using h'),h.nd⟩
 unfold Bc;rw [if_neg (by rw [xok];simp),if_neg (by
  rw [Bool.not_eq_true,List.any_eq_false];intro y hy;have:=ht y hy;rw [← xn] at this;simpa using this)]
 split
 ·rename_i hc;refine .inl ⟨rfl,?_,ht,by simp,by simp⟩;rw [List.any_eq_true] at hc;refine dD (h.S0 e hp u ht hD hj hl ?_);rw [← hx];exact hc
 ·split
  ·exact .inr (.inr ⟨rfl,rfl,rfl,rfl⟩)
  ·split
   ·rename_i hw;rw [List.any_eq_false] at hw;have hfree:∀ y∈s.held,B8 x y=false:=fun y hy=>by simpa using hw y hy
    have h1:F1 W' H ⟨s.held ++ [x],s.wait⟩ D G:=(h.add hfree).S0 e hp u ht hD hj hl ⟨x,List.mem_append.2 (.inr (List.mem_singleton.2 rfl)),by rw [← hx];exact Qs xok⟩;have e':=u.lie e hp;have h2:F1 W' H (AL x s).2 (fun t=>D t∨t∈(AL x s).1) (G ++ []):=by
     rw [List.append_nil];unfold AL;refine h1.drop e' fun n hn=>?_;obtain ⟨y,hy,e2,_⟩:=Iw hn;obtain ⟨_,b,q,hq,e3,_⟩:=h1.wt y hy;exact ⟨⟨q,hq,e3.trans e2⟩,by rw [← e2];exact b⟩
    have h3:=(h2.settle e' (k:=(AL x s).2.wait.length)).Akz;obtain ⟨s1,s2,s3⟩:=AaH (N:=fun n=>n ≠ p.Ah) (s:=(AL x s).2) (k:=(AL x s).2.wait.length) (g:=[]) (d:=(AL x s).1) ⟨fun y hy=>ht y (by unfold AL at hy;exact ((Ep _ _ y).2.1 hy).1),by simp,fun n hn=>by
     unfold AL at hn;obtain ⟨y,hy,e2,_⟩:=Iw hn;rw [← e2];exact ht y hy⟩
    refine .inl ⟨rfl,h3,s1,?_,?_⟩
    ·show p.Ah ∉ Dk _;rw [EP];exact fun hn=>s3 _ hn rfl
    ·show p.Ah ∉ Dk _;rw [EP];exact fun hn=>s2 _ hn rfl
   ·split
    ·refine .inr (.inl ⟨rfl,rfl,rfl,h.snd,h.hc,fun y hy=>?_,fun q hq=>?_,h.dg,h.nd⟩)
     ·rcases TZ.1 hy with rfl | hy
      ·rw [xn];exact ⟨hD,hG,Pw p,u.b,rfl,j,lk,by show (j:Int) + 1=p.next + 1;omega,hl,hx⟩
      ·obtain ⟨a,b,q,hq,e1,c⟩:=h.wt y hy;exact ⟨a,b,q,u.c q hq (by rw [e1];exact ht y hy),e1,c⟩
     ·rcases u.a q hq with rfl | ⟨hq,_⟩
      ·refine .inr fun i l2 hi hl2=>?_;have hi:(i:Int) < p.next + 1:=hi;have hl2:p.BB[i]?=some l2:=hl2;by_cases hij:i=j
       ·subst hij;rw [hl] at hl2;injection hl2 with hl2;subst hl2;refine .inr ⟨by show (i:Int) + 1=p.next + 1;omega,TZ.2 (.inl hx.symm)⟩
       ·rcases h.wc p hp with h1 | h1
        ·exact absurd h1 hD
        ·rcases h1 i l2 (by omega) hl2 with h2 | ⟨h2,h3⟩
         ·exact .inl h2
         ·exact absurd rfl (ht _ h3)
      ·rcases h.wc q hq with h1 | h1
       ·exact .inl h1
       ·refine .inr fun i l2 hi hl2=>?_;rcases h1 i l2 hi hl2 with h2 | ⟨h2,h3⟩
        ·exact .inl h2
        ·exact .inr ⟨h2,TZ.2 (.inr h3)⟩
    ·exact .inr (.inr ⟨rfl,rfl,rfl,rfl⟩)
theorem F1.rel (h:F1 W H s D G) {W':List PW} {H':List PH} {t:Int} (hW:∀ p∈W',p∈W∧p.Ah ≠ t) (hW2:∀ p∈W,p.Ah ≠ t→p∈W') (hH:∀ g∈H',g∈H∧g.Ah ≠ t) (e':LIE W' H'):F1 W' H' (ES t s).2 (fun u=>D u∨u∈(ES t s).1.2) (G ++ (ES t s).1.1):=by
 have h1:F1 W' H' (CJ t s) (fun u=>D u∨u∈([]:List Int)) (G ++ []):=by
  have m1:∀ y,y∈(CJ t s).held ↔ y∈s.held∧y.n ≠ t:=fun y=>by unfold CJ;simp
  have m2:∀ y,y∈(CJ t s).wait ↔ y∈s.wait∧y.n ≠ t:=fun y=>by unfold CJ;simp
  rw [List.append_nil];refine ⟨fun x hx y hy=>h.snd x ((m1 x).1 hx).1 y ((m1 y).1 hy).1,fun g hg o ho=>?_,fun y hy=>?_,fun p hp=>?_,fun u hu h'=>h.dg u hu (by simpa using h'),h.nd⟩
  ·obtain ⟨y,h1,h2⟩:=h.hc g (hH g hg).1 o ho;exact ⟨y,(m1 y).2 ⟨h1,by rw [QT h2];exact (hH g hg).2⟩,h2⟩
  ·obtain ⟨h1,h2⟩:=(m2 y).1 hy;obtain ⟨a,b,p,hp,e1,c⟩:=h.wt y h1;exact ⟨fun h'=>a (by simpa using h'),b,p,hW2 p hp (by rw [e1];exact h2),e1,c⟩
  ·rcases h.wc p (hW p hp).1 with h1 | h1
   ·exact .inl (.inl h1)
   ·refine .inr fun i lk hi hl=>?_;rcases h1 i lk hi hl with ⟨y,h2,h3⟩ | ⟨h2,h3⟩
    ·exact .inl ⟨y,(m1 y).2 ⟨h2,by rw [QT h3];exact (hW p hp).2⟩,h3⟩
    ·exact .inr ⟨h2,(m2 _).2 ⟨h3,(hW p hp).2⟩⟩
 unfold ES;exact (h1.settle e' (k:=(CJ t s).wait.length)).Akz
end
open Go Go.Sx
theorem AbV {o:Op} (h:ER o=0):Da (AI o).lo (AI o).hi=true:=by
 unfold AI Dp;unfold ER at h;dsimp only;cases hk:seq o.key (BA []) with
 | false=>
  rw [if_neg (by simp)];exact (AeD (XQ (by unfold ER;exact h) hk)).1
 | true=>
  rw [if_pos rfl];have e:o.key=BA []:=by rw [seq_eq,decide_eq_true_iff] at hk;exact hk
  have k0:Kx o.key=false:=by unfold Kx;rw [hk];rfl
  split at h
  ·cases h
  ·rename_i h1;simp only [Bool.or_eq_true,not_or,Bool.not_eq_true,Bool.not_eq_false'] at h1;split at h
   ·cases h
   ·rename_i h2;rw [k0,Bool.not_false,Bool.and_true] at h2;split at h
    ·cases h
    ·split at h
     ·cases h
     ·rename_i h4;have hkd:=h1.1;have hr:FH o.kind=true:=by
       unfold Na at hkd;unfold Fx at h2;unfold FH;simp only [Bool.or_eq_true,beq_iff_eq,not_or,Bool.and_eq_true,decide_eq_true_iff] at hkd h2 ⊢;omega
      rw [hr,Bool.true_and] at h4;simpa using h4
def Dh (l:List Ev) (t:Int):Prop:=(⟨t,true⟩:Ev)∈l
def PO (l:List Ev):List Int:=(l.filter (fun e=>!e.dead)).map (·.Ah)
def Nu (P:PS):Prop:=F1 P.wait P.held P.BS (Dh P.line) (PO P.line)
theorem F1.congr {W:List PW} {H:List PH} {s:TS} {D D':Int→Prop} {G:List Int} (h:F1 W H s D G) (e:∀ t,D t ↔ D' t):F1 W H s D' G:=by
 have:D=D':=funext fun t=>propext (e t);rw [← this];exact h
theorem Nu.eq {P Q:PS} (h:Nu P) (e1:Q.wait=P.wait) (e2:Q.held=P.held) (e3:Q.BS=P.BS) (e4:Q.line=P.line):Nu Q:=by
 unfold Nu;rw [e1,e2,e3,e4];exact h
theorem Wj {l:List Ev} {g d:List Int} (t:Int):Dh (l ++ Gc true d ++ Gc false g) t ↔ Dh l t∨t∈d:=by
 unfold Dh Gc;simp only [List.mem_append,List.mem_map,Ev.mk.injEq];constructor
 ·rintro ((h | ⟨a,h,rfl,_⟩) | ⟨a,_,_,h⟩)
  ·exact .inl h
  ·exact .inr h
  ·cases h
 ·rintro (h | h)
  ·exact .inl (.inl h)
  ·exact .inl (.inr ⟨t,h,by simp⟩)
theorem Ab8 {l:List Ev} {g d:List Int}:PO (l ++ Gc true d ++ Gc false g)=PO l ++ g:=by
 unfold PO Gc;rw [List.filter_append,List.filter_append,List.map_append,List.map_append];have h1:(d.map fun x=>(⟨x,true⟩:Ev)).filter (fun e=>!e.dead)=[]:=by
  rw [List.filter_eq_nil_iff];intro e he;obtain ⟨a,_,rfl⟩:=List.mem_map.1 he;simp
 have h2:(g.map fun x=>(⟨x,false⟩:Ev)).filter (fun e=>!e.dead)=g.map fun x=>(⟨x,false⟩:Ev):=by
  rw [List.filter_eq_self];intro e he;obtain ⟨a,_,rfl⟩:=List.mem_map.1 he;rfl
 rw [h1,h2,List.map_map,show ((fun x:Ev=>x.Ah) ∘ fun x:Int=>(⟨x,false⟩:Ev))=id from rfl,List.map_id];simp
theorem Nu.told {P:PS} {W:List PW} {H:List PH} {s:TS} {g d:List Int} (h:F1 W H s (fun t=>Dh P.line t∨t∈d) (PO P.line ++ g)) {Q:PS} (e1:Q.wait=W) (e2:Q.held=H) (e3:Q.BS=s) (e4:Q.line=P.line ++ Gc true d ++ Gc false g):Nu Q:=by
 unfold Nu;rw [e1,e2,e3,e4,Ab8];exact h.congr fun t=>(Wj t).symm
theorem XZ {P:PS} (h:Bj P):LIE P.wait P.held:=by
 refine ⟨fun p hp q hq e=>?_,h.dj,fun p hp lk hl=>?_⟩
 ·obtain ⟨i,hi,rfl⟩:=List.mem_iff_getElem.1 hp;obtain ⟨j,hj,rfl⟩:=List.mem_iff_getElem.1 hq;rcases Nat.lt_trichotomy i j with h1 | h1 | h1
  ·have:=List.pairwise_iff_getElem.1 h.wt i j hi hj h1;omega
  ·subst h1;rfl
  ·have:=List.pairwise_iff_getElem.1 h.wt j i hj hi h1;omega
 ·obtain ⟨v1,_,v3,_⟩:=h.wv p hp;rw [v3] at hl;obtain ⟨o,ho,rfl⟩:=List.mem_map.1 hl;exact AbV (Bu.1 v1 o ho)
theorem mem_erase {α:Type} {l:List α} {i:Nat} {x y:α} (hx:l[i]?=some x) (hy:y∈l) (hn:y ≠ x):y∈l.take i ++ l.drop (i + 1):=by
 obtain ⟨j,hj⟩:=List.getElem?_of_mem hy;rcases Nat.lt_trichotomy j i with h | h | h
 ·exact List.mem_append.2 (.inl (List.mem_of_getElem? (i:=j) (by rw [List.getElem?_take,if_pos h];exact hj)))
 ·subst h;rw [hx] at hj;injection hj with hj;exact absurd hj.symm hn
 ·exact List.mem_append.2 (.inr (List.mem_of_getElem? (i:=j - (i + 1)) (by rw [List.getElem?_drop,show i + 1 + (j - (i + 1))=j by omega];exact hj)))
theorem Nc {P:PS} (h:Bj P) {i:Nat} {x:PW} (hx:P.wait[i]?=some x):(∀ q∈P.wait.take i ++ P.wait.drop (i + 1),q∈P.wait∧q.Ah ≠ x.Ah)∧(∀ q∈P.wait,q.Ah ≠ x.Ah→q∈P.wait.take i ++ P.wait.drop (i + 1)):=
 ⟨fun q hq=>⟨(Bp P.wait i).subset hq,Fv h hx q hq⟩,fun q hq hn=>mem_erase hx hq fun e=>hn (by rw [e])⟩
theorem Ag5 {P:PS} (h:Bj P) {i:Nat} {x:PW} (hx:P.wait[i]?=some x):Upd P.wait (P.wait.set i (Pw x)) x (Pw x):=by
 have hi:=(List.getElem?_eq_some_iff.1 hx).1;refine ⟨fun q hq=>?_,List.mem_of_getElem? (i:=i) (List.getElem?_set_self hi),fun q hq hn=>?_⟩
 ·obtain ⟨j,hj⟩:=List.getElem?_of_mem hq;by_cases hij:i=j
  ·subst hij;rw [List.getElem?_set_self hi] at hj;injection hj with hj;exact .inl hj.symm
  ·rw [List.getElem?_set_ne hij] at hj;refine .inr ⟨List.mem_of_getElem? hj,fun e=>?_⟩;have:=(XZ h).un q (List.mem_of_getElem? hj) x (List.mem_of_getElem? hx) e;subst this;obtain ⟨h1,h2⟩:=List.getElem?_eq_some_iff.1 hj;obtain ⟨h3,h4⟩:=List.getElem?_eq_some_iff.1 hx;rcases Nat.lt_or_gt_of_ne hij with h5 | h5
   ·have:=List.pairwise_iff_getElem.1 h.wt i j h3 h1 h5;rw [h2,h4] at this;omega
   ·have:=List.pairwise_iff_getElem.1 h.wt j i h1 h3 h5;rw [h2,h4] at this;omega
 ·obtain ⟨j,hj⟩:=List.getElem?_of_mem hq;by_cases hij:i=j
  ·subst hij;rw [hx] at hj;injection hj with hj;exact absurd (by rw [hj]) hn
  ·exact List.mem_of_getElem? (i:=j) (by rw [List.getElem?_set_ne hij];exact hj)
theorem F1.hold {W W':List PW} {H H':List PH} {s:TS} {D:Int→Prop} {G:List Int} (h:F1 W H s D G) {p:PW} (hp:p∈W) (h1:∀ q∈W',q∈W) (h2:∀ q∈W,q.Ah ≠ p.Ah→q∈W') (h3:∀ g∈H',g=⟨p.Ah,p.ops⟩∨g∈H) (hl:p.BB=p.ops.map AI) (hn:p.next=p.BB.length) (ht:∀ y∈s.wait,y.n ≠ p.Ah) (hD:¬ D p.Ah):F1 W' H' s D G:=by
 refine ⟨h.snd,fun g hg o ho=>?_,fun y hy=>?_,fun q hq=>h.wc q (h1 q hq),h.dg,h.nd⟩
 ·rcases h3 g hg with rfl | hg
  ·have ho:o∈p.ops:=ho;obtain ⟨i,hi⟩:=List.getElem?_of_mem ho;have hlk:p.BB[i]?=some (AI o):=by rw [hl,List.getElem?_map,hi];rfl
   have hil:=(List.getElem?_eq_some_iff.1 hlk).1;rcases h.wc p hp with h4 | h4
   ·exact absurd h4 hD
   ·rcases h4 i _ (by omega) hlk with h5 | ⟨_,h5⟩
    ·exact h5
    ·exact absurd rfl (ht _ h5)
  ·exact h.hc g hg o ho
 ·obtain ⟨a,b,q,hq,e1,c⟩:=h.wt y hy;exact ⟨a,b,q,h2 q hq (by rw [e1];exact ht y hy),e1,c⟩
def Pre (P:PS) (t:Int):Prop:=P.Pb t=true→¬ Dh P.line t∧t ∉ PO P.line∧∀ y∈P.BS.wait,y.n ≠ t
theorem Nu.Cw:∀ (f:Nat) {P:PS} {t:Int},Bj P→Nu P→Pre P t→Nu (P.Cw f t)
 | 0,P,t,_,h,_=>h
 | f + 1,P,t,hp,h,pre=>by
  unfold PS.Cw;split
  ·exact h
  ·rename_i hw;have hw:P.Pb t=true:=by simpa using hw
   obtain ⟨hD,hG,ht⟩:=pre hw;obtain ⟨x,hx,e⟩:=D9 hp hw;rw [hx];dsimp only;subst e;have hxm:=List.mem_of_getElem? hx;obtain ⟨v1,v2,v3,v4,v5⟩:=hp.wv x hxm;obtain ⟨l1,l2⟩:=Nc hp hx;split
   ·rename_i hn;refine Nu.eq (P:=(P.Ay (P.Ce x.Ah)).hold x.Ah x.ops) ?_ rfl rfl rfl rfl;refine F1.hold h hxm (fun q hq=>(l1 q hq).1) l2 (fun g hg=>?_) v3 hn ht hD;rcases List.mem_append.1 hg with hg | hg
    ·exact .inr (List.mem_of_mem_take hg)
    ·rcases List.mem_cons.1 hg with rfl | hg
     ·exact .inl rfl
     ·exact .inr (List.mem_of_mem_drop hg)
   ·split
    ·exact h
    ·rename_i lk hlk;have hj:((x.next.toNat:Nat):Int)=x.next:=Int.toNat_of_nonneg v4;obtain ⟨p1,_⟩:=hp.Cq hx hlk;have u:=Ag5 hp hx;have ask:=F1.ask h (XZ hp) hxm u ht hD hG hj hlk;rw [show (⟨x.Ah,lk.lo,lk.hi,lk.wr⟩:Ak)=G4 x.Ah lk from rfl];rcases ask with ⟨a1,a2,a3,a4,a5⟩ | ⟨a1,a2,a3,a4⟩ | ⟨a1,a2,a3,a4⟩
     ·rw [if_neg (by rw [a1];decide),if_neg (by rw [a1];decide)];refine Nu.Cw f p1 (Nu.told a2 rfl rfl rfl rfl) fun _=>⟨?_,?_,a3⟩
      ·show ¬ Dh (P.line ++ Gc true _ ++ Gc false _) x.Ah;rw [Wj];exact fun h=>h.elim hD a4
      ·show x.Ah ∉ PO (P.line ++ Gc true _ ++ Gc false _);rw [Ab8,List.mem_append];exact fun h=>h.elim hG a5
     ·rw [if_pos a1];refine Nu.told (P:=P) (g:=[]) (d:=[]) (W:=P.wait.set (P.Ce x.Ah) (Pw x)) (H:=P.held) (s:=(Bc (G4 x.Ah lk) P.BS).2) ?_ rfl rfl rfl ?_
      ·rw [List.append_nil];exact a4.congr fun t=>by simp
      ·show P.line ++ Gc true (Bc (G4 x.Ah lk) P.BS).1.2.2.1 ++ Gc false (Bc (G4 x.Ah lk) P.BS).1.2.1=_;rw [a2,a3]
     ·rw [if_neg (by rw [a1];decide),if_pos a1];have hx1:(P.Cq (P.Ce x.Ah) x lk).wait[P.Ce x.Ah]?=some (Pw x):=List.getElem?_set_self (List.getElem?_eq_some_iff.1 hx).1;obtain ⟨p2,_⟩:=p1.Ay hx1;obtain ⟨m1,m2⟩:=Nc p1 hx1;have ln:(P.Cq (P.Ce x.Ah) x lk).line=P.line:=by
       show P.line ++ Gc true (Bc (G4 x.Ah lk) P.BS).1.2.2.1 ++ Gc false (Bc (G4 x.Ah lk) P.BS).1.2.1=_;rw [a2,a3];simp [Gc]
      have tb:(P.Cq (P.Ce x.Ah) x lk).BS=P.BS:=a4;have hr:=F1.rel h (W':=((P.Cq (P.Ce x.Ah) x lk).Ay (P.Ce x.Ah)).wait) (H':=P.held) (t:=x.Ah) (fun q hq=>?_) (fun q hq hn=>m2 q (u.c q hq hn) hn) (fun g hg=>⟨hg,Ne.symm (hp.dj x hxm g hg)⟩) (XZ p2)
      ·refine Nu.told (P:=P) hr rfl rfl ?_ ?_
       ·show (ES x.Ah (P.Cq (P.Ce x.Ah) x lk).BS).2=_;rw [tb]
       ·show (P.Cq (P.Ce x.Ah) x lk).line ++ Gc true (ES x.Ah (P.Cq (P.Ce x.Ah) x lk).BS).1.2 ++ Gc false (ES x.Ah (P.Cq (P.Ce x.Ah) x lk).BS).1.1=_;rw [tb,ln]
      ·obtain ⟨h1,h2⟩:=m1 q hq;have h2:q.Ah ≠ x.Ah:=h2;rcases u.a q h1 with rfl | h3
       ·exact absurd rfl h2
       ·exact h3
theorem F1.less {W:List PW} {H:List PH} {s:TS} {D D':Int→Prop} {G G':List Int} (h:F1 W H s D G) (hD:∀ t,D' t→D t) (hW:∀ p∈W,D p.Ah→D' p.Ah) (hG:G'.Sublist G):F1 W H s D' G':=
 ⟨h.snd,h.hc,fun y hy=>⟨fun h'=>(h.wt y hy).1 (hD _ h'),fun h'=>(h.wt y hy).2.1 (hG.subset h'),(h.wt y hy).2.2⟩,fun p hp=>(h.wc p hp).elim (fun h'=>.inl (hW p hp h')) .inr,fun t ht h'=>h.dg t (hG.subset ht) (hD _ h'),h.nd.sublist hG⟩
theorem Nu.event {P:PS} (hp:Bj P) {ev:Ev} {l:List Ev} (hl:P.line=ev :: l) (h:Nu P):Nu (({ P with line:=l }:PS).event ev):=by
 obtain ⟨p1,_⟩:=hp.pop hl;unfold Nu at h;rw [hl] at h;obtain ⟨t,dead⟩:=ev;unfold PS.event;cases dead with
 | false=>
  simp only [Bool.not_false,if_true];have g1:PO ((⟨t,false⟩:Ev) :: l)=t :: PO l:=rfl;have d1:∀ u,Dh ((⟨t,false⟩:Ev) :: l) u ↔ Dh l u:=fun u=>by unfold Dh;simp
  rw [g1] at h;have h:=h.congr d1;have h0:Nu { P with line:=l }:=h.less (fun _ h=>h) (fun _ _ h=>h) (List.sublist_cons_self _ _);refine h0.Cw 30 p1 fun _=>⟨h.dg t List.mem_cons_self,(List.nodup_cons.1 h.nd).1,fun y hy e=>?_⟩;have:=(h.wt y hy).2.1;rw [e] at this;exact this List.mem_cons_self
 | true=>
  have g1:PO ((⟨t,true⟩:Ev) :: l)=PO l:=rfl;have d1:∀ u,Dh ((⟨t,true⟩:Ev) :: l) u ↔ u=t∨Dh l u:=fun u=>by unfold Dh;simp
  rw [g1] at h;have h:=h.congr d1;simp only [Bool.not_true,Bool.false_eq_true,if_false];split
  ·rename_i hw;obtain ⟨x,hx,e⟩:=D9 p1 hw;obtain ⟨l1,l2⟩:=Nc p1 hx;subst e;refine Nu.eq (P:=({ P with line:=l }:PS).Ay (({ P with line:=l }:PS).Ce x.Ah)) ?_ rfl rfl rfl rfl;refine ⟨h.snd,h.hc,fun y hy=>?_,fun q hq=>?_,fun u hu h'=>h.dg u hu (.inr h'),h.nd⟩
   ·obtain ⟨a,b,q,hq,e1,c⟩:=h.wt y hy;refine ⟨fun h'=>a (.inr h'),b,q,l2 q hq fun e2=>a (.inl (by rw [← e1];exact e2)),e1,c⟩
   ·obtain ⟨q1,q2⟩:=l1 q hq;rcases h.wc q q1 with h1 | h1
    ·exact .inl (h1.resolve_left q2)
    ·exact .inr h1
  ·rename_i hw;have hw:({ P with line:=l }:PS).Pb t=false:=by simpa using hw
   have hn:=KY p1 hw;exact h.less (fun _ h=>.inr h) (fun p hp h'=>h'.resolve_left (hn p hp)) (List.Sublist.refl _)
theorem Nu.through:∀ (f:Nat) {P:PS},Bj P→Nu P→Nu (P.through f)
 | 0,P,_,h=>h
 | f + 1,P,hp,h=>by
  cases hl:P.line with
  | nil=>
   unfold PS.through;rw [hl];exact h
  | cons ev l=>
   rw [CQ hl];obtain ⟨h1,_⟩:=hp.pop hl;exact Nu.through f (h1.event ev).1 (Nu.event hp hl h)
open Go Go.Sx
def VN (P:PS):Prop:=∀ x∈P.out,x.kind=4→x.code ≠ 3→(∀ h∈P.held,h.Ah ≠ x.Ah)∧∀ p∈P.wait,p.Ah ≠ x.Ah
theorem VN.sub {P Q:PS} (h:VN P) (s:FM P Q) (ho:Q.out=P.out):VN Q:=by
 intro x hx h4 h3;rw [ho] at hx;obtain ⟨a,b⟩:=h x hx h4 h3;refine ⟨fun y hy=>?_,fun y hy=>?_⟩
 ·rcases s.held y hy with h1 | ⟨p,hp,rfl⟩
  ·exact a y h1
  ·exact b p hp
 ·obtain ⟨p,hp,e,_⟩:=s.wait y hy;rw [e];exact b p hp
theorem VN.send {P:PS} (h:VN P) (m:PM) (hm:m.kind=4→m.code ≠ 3→(∀ h∈P.held,h.Ah ≠ m.Ah)∧∀ p∈P.wait,p.Ah ≠ m.Ah):VN (P.send m):=by
 intro x hx h4 h3;rcases List.mem_append.1 hx with hx | hx
 ·exact h x hx h4 h3
 ·rw [List.mem_singleton] at hx;subst hx;exact hm h4 h3
theorem VN.eq {P Q:PS} (h:VN P) (ho:Q.out=P.out) (hh:Q.held=P.held) (hw:Q.wait=P.wait):VN Q:=by
 unfold VN;rw [ho,hh,hw];exact h
theorem VN.Cw:∀ (f:Nat) {P:PS} {t:Int},Bj P→VN P→VN (P.Cw f t)
 | 0,P,t,_,h=>h
 | f + 1,P,t,hp,h=>by
  unfold PS.Cw;split
  ·exact h
  ·rename_i hw;have hw:P.Pb t=true:=by simpa using hw
   obtain ⟨x,hx,e⟩:=D9 hp hw;rw [hx];dsimp only;subst e;have hxm:=List.mem_of_getElem? hx;split
   ·exact (h.sub (Wu hx) rfl).send _ (fun _ h3=>absurd rfl h3)
   ·split
    ·exact h
    ·rename_i lk hlk;obtain ⟨p1,_⟩:=hp.Cq hx hlk;have h1:VN (P.Cq (P.Ce x.Ah) x lk):=h.sub (PG hx lk) rfl;split
     ·exact h1
     ·split
      ·have hx1:(P.Cq (P.Ce x.Ah) x lk).wait[P.Ce x.Ah]?=some (Pw x):=List.getElem?_set_self (List.getElem?_eq_some_iff.1 hx).1;have h2:=h1.sub (Im (P.Cq (P.Ce x.Ah) x lk) (P.Ce x.Ah)) rfl;have h3:=h2.send { PM.zero with kind:=4,Ah:=x.Ah,code:=5,results:=[] } fun _ _=>⟨fun g hg=>Ne.symm (hp.dj x hxm g hg),fun q hq=>Fv p1 hx1 q hq⟩;exact VN.eq (P:=((P.Cq (P.Ce x.Ah) x lk).Ay (P.Ce x.Ah)).Df x.Ah 5 []) h3 rfl rfl rfl
      ·exact VN.Cw f p1 h1
theorem VN.event {P:PS} (hp:Bj P) (h:VN P) (ev:Ev):VN (P.event ev):=by
 unfold PS.event;split
 ·exact h.Cw 30 hp
 ·split
  ·rename_i hw;obtain ⟨x,hx,e⟩:=D9 hp hw;have hxm:=List.mem_of_getElem? hx;refine (h.sub (Im P (P.Ce ev.Ah)) rfl).send _ fun _ _=>⟨fun g hg=>?_,fun q hq=>?_⟩
   ·show g.Ah ≠ ev.Ah;rw [← e];exact Ne.symm (hp.dj x hxm g hg)
   ·show q.Ah ≠ ev.Ah;rw [← e];exact Fv hp hx q hq
  ·exact h
theorem VN.through:∀ (f:Nat) {P:PS},Bj P→VN P→VN (P.through f)
 | 0,P,_,h=>h
 | f + 1,P,hp,h=>by
  cases hl:P.line with
  | nil=>
   unfold PS.through;rw [hl];exact h
  | cons ev l=>
   rw [CQ hl];obtain ⟨h1,_⟩:=hp.pop hl;exact VN.through f (h1.event ev).1 (VN.event h1 (VN.eq (P:=P) h rfl rfl rfl) ev)
structure PF (P:PS):Prop where
 hf:∀ h∈P.held,0 < h.ops.length∧h.Ah ∉ P.fin
 wf:∀ p∈P.wait,0 < p.ops.length∧p.Ah ∉ P.fin
theorem PF.sub {P Q:PS} (h:PF P) (s:FM P Q):PF Q:=by
 refine ⟨fun y hy=>?_,fun y hy=>?_⟩
 ·rw [s.fin];rcases s.held y hy with h1 | ⟨p,hp,rfl⟩
  ·exact h.hf y h1
  ·exact h.wf p hp
 ·rw [s.fin];obtain ⟨p,hp,e1,e2,_⟩:=s.wait y hy;rw [e1,e2];exact h.wf p hp
theorem PF.eq {P Q:PS} (h:PF P) (e1:Q.held=P.held) (e2:Q.wait=P.wait) (e3:∀ n∈Q.fin,n∈P.fin):PF Q:=
 ⟨fun y hy=>⟨(h.hf y (by rw [← e1];exact hy)).1,fun hn=>(h.hf y (by rw [← e1];exact hy)).2 (e3 _ hn)⟩,fun y hy=>⟨(h.wf y (by rw [← e2];exact hy)).1,fun hn=>(h.wf y (by rw [← e2];exact hy)).2 (e3 _ hn)⟩⟩
structure P3 (P:PS):Prop where
 l:Nu P
 n:VN P
 f:PF P
theorem P3.Zu {P:PS} {t:Int} (hp:Bj P) (h:P3 P) (pre:Pre P t):P3 ((P.Cw 30 t).through DU):=by
 obtain ⟨h1,_⟩:=hp.Cw 30 (t:=t);have s:=GO 30 (t:=t) hp;exact ⟨Nu.through _ h1 (h.l.Cw 30 hp pre),VN.through _ h1 (h.n.Cw 30 hp),(h.f.sub s).sub (Cv DU h1)⟩
theorem P3.Du {P:PS} (hp:Bj P) (hl0:P.line=[]) (ho0:P.out=[]) (h:P3 P) (t Ao:Int) {ops:List Op} (ho:A9 ops=0) (hl:ops.length≤24) (h0:0 < ops.length) (hb:P.out.length + P.left + 60≤20000):P3 (P.Du t Ao ops):=by
 unfold PS.Du;cases hg:P.gone t with
 | true=>rw [if_pos rfl];exact h
 | false=>
  rw [if_neg (by simp)];cases hh:P.TJ t with
  | true=>
   rw [if_pos rfl];split
   ·exact h
   ·refine ⟨h.l.eq rfl rfl rfl rfl,h.n.send _ (fun _ h3=>absurd rfl h3),h.f.eq rfl rfl (fun _ h=>h)⟩
  | false=>
   rw [if_neg (by simp)];have hg':=hg;unfold PS.gone at hg';simp only [Bool.or_eq_false_iff] at hg';have hwis:P.Pb t=false:=hg'.2;have nw:=KY hp hwis;have nh:=Nd hp hh;cases hr:P.C7 Ao ops with
   | true=>
    rw [if_pos rfl];exact ⟨h.l.eq rfl rfl rfl rfl,h.n.send _ (fun _ _=>⟨nh,nw⟩),h.f.eq rfl rfl (fun _ h=>h)⟩
   | false=>
    rw [if_neg (by simp)];have hful:P.full=false:=by unfold PS.C7 at hr;simp only [Bool.or_eq_false_iff] at hr;exact hr.2.1
    have hc:P.held.length + P.wait.length < 6:=by unfold PS.full at hful;simp only [Bool.or_eq_false_iff,decide_eq_false_iff_not] at hful;omega
    obtain ⟨h1,b1⟩:=hp.await ho hl nw nh (by omega) hb;have hmem:∀ y,y∈(P.await t ops).wait ↔ y=⟨t,ops,ops.map AI,0⟩∨y∈P.wait:=fun y=>by
     show y∈P.wait.take (P.Ce t) ++ _ :: P.wait.drop (P.Ce t) ↔ _;rw [List.mem_append,List.mem_cons];constructor
     ·rintro (h | rfl | h)
      ·exact .inr (List.mem_of_mem_take h)
      ·exact .inl rfl
      ·exact .inr (List.mem_of_mem_drop h)
     ·rintro (rfl | h)
      ·exact .inr (.inl rfl)
      ·rw [← List.take_append_drop (P.Ce t) P.wait] at h;rcases List.mem_append.1 h with h | h
       ·exact .inl h
       ·exact .inr (.inr h)
    have hli:Nu (P.await t ops):=by
     have hL:F1 P.wait P.held P.BS (Dh P.line) (PO P.line):=h.l;refine ⟨hL.snd,hL.hc,fun y hy=>?_,fun q hq=>?_,hL.dg,hL.nd⟩
     ·obtain ⟨a,b,p,hp,c⟩:=hL.wt y hy;exact ⟨a,b,p,(hmem p).2 (.inr hp),c⟩
     ·rcases (hmem q).1 hq with rfl | hq
      ·exact .inr fun i lk hi _=>by have hi:(i:Int) < 0:=hi;omega
      ·exact hL.wc q hq
    have hfin:t ∉ P.fin:=by
     have:=hg'.1.2;simpa using this
    refine P3.Zu h1 ⟨hli,?_,?_⟩ fun _=>⟨?_,?_,fun y hy e=>?_⟩
    ·intro x hx h4 h3;have hx:x∈P.out:=hx;rw [ho0] at hx;cases hx
    ·exact ⟨h.f.hf,fun q hq=>by
      rcases (hmem q).1 hq with rfl | hq
      ·exact ⟨h0,hfin⟩
      ·exact h.f.wf q hq⟩
    ·show ¬ Dh P.line t;rw [hl0];simp [Dh]
    ·show t ∉ PO P.line;rw [hl0];simp [PO]
    ·obtain ⟨_,_,p,hp,e1,_⟩:=h.l.wt y hy;exact nw p hp (e1.trans e)
theorem Xa {P:PS} (h:Bj P) {i:Nat} {x:PH} (hx:P.held[i]?=some x):∀ q∈P.held.take i ++ P.held.drop (i + 1),q∈P.held∧q.Ah ≠ x.Ah:=by
 intro q hq;have hi:=(List.getElem?_eq_some_iff.1 hx).1;refine ⟨(Bp P.held i).subset hq,fun e=>?_⟩;rcases List.mem_append.1 hq with hq | hq
 ·obtain ⟨j,hj,rfl⟩:=List.mem_take_iff_getElem.1 hq;have:=List.pairwise_iff_getElem.1 h.hd j i (by omega) hi (by omega);rw [(List.getElem?_eq_some_iff.1 hx).2] at this;omega
 ·obtain ⟨j,hj⟩:=List.getElem?_of_mem hq;rw [List.getElem?_drop] at hj;obtain ⟨h1,h2⟩:=List.getElem?_eq_some_iff.1 hj;have:=List.pairwise_iff_getElem.1 h.hd i (i + 1 + j) hi h1 (by omega);rw [(List.getElem?_eq_some_iff.1 hx).2,h2] at this;omega
theorem Agy {l:List Int} {i:Nat} {n m:Int} (h:m∈l.take i ++ n :: l.drop i):m=n∨m∈l:=by
 rcases List.mem_append.1 h with h | h
 ·exact .inr (List.mem_of_mem_take h)
 ·rcases List.mem_cons.1 h with rfl | h
  ·exact .inl rfl
  ·exact .inr (List.mem_of_mem_drop h)
theorem P3.finish {P Q:PS} (hP:Nu P) (hq:Bj Q) (hf:Q.fin.length < 100000) {t:Int} (hW:∀ p∈Q.wait,p∈P.wait∧p.Ah ≠ t) (hW2:∀ p∈P.wait,p.Ah ≠ t→p∈Q.wait) (hH:∀ g∈Q.held,g∈P.held∧g.Ah ≠ t) (et:Q.BS=P.BS) (el:Q.line=P.line) (vn:VN Q) (pf:PF Q):P3 (Q.finish t):=by
 obtain ⟨h1,_⟩:=hq.BV t hf;obtain ⟨h2,_⟩:=h1.release t;have e1:(Q.BV t).wait=Q.wait∧(Q.BV t).held=Q.held∧(Q.BV t).BS=Q.BS∧(Q.BV t).line=Q.line∧(Q.BV t).out=Q.out:=by unfold PS.BV;split <;> exact ⟨rfl,rfl,rfl,rfl,rfl⟩
 have hr:=F1.rel hP hW hW2 hH (XZ hq);have l2:Nu ((Q.BV t).release t):=by
  refine Nu.told (P:=P) hr e1.1 e1.2.1 ?_ ?_
  ·show (ES t (Q.BV t).BS).2=_;rw [e1.2.2.1,et]
  ·show (Q.BV t).line ++ Gc true (ES t (Q.BV t).BS).1.2 ++ Gc false (ES t (Q.BV t).BS).1.1=_;rw [e1.2.2.2.1,e1.2.2.1,et,el]
 have v2:VN ((Q.BV t).release t):=vn.eq e1.2.2.2.2 e1.2.1 e1.1;have f2:PF (Q.BV t):=by
  have fm:∀ n∈(Q.BV t).fin,n=t∨n∈Q.fin:=by
   intro n hn;unfold PS.BV at hn;split at hn
   ·exact Agy hn
   ·exact .inr hn
  refine ⟨fun y hy=>?_,fun y hy=>?_⟩
  ·rw [e1.2.1] at hy;refine ⟨(pf.hf y hy).1,fun hn=>?_⟩;rcases fm _ hn with h | h
   ·exact (hH y hy).2 h
   ·exact (pf.hf y hy).2 h
  ·rw [e1.1] at hy;refine ⟨(pf.wf y hy).1,fun hn=>?_⟩;rcases fm _ hn with h | h
   ·exact (hW y hy).2 h
   ·exact (pf.wf y hy).2 h
 exact ⟨Nu.through _ h2 l2,VN.through _ h2 v2,(f2.sub (Pm _ t)).sub (Cv DU h2)⟩
theorem P3.decide {P:PS} (h:PJ P) (h3:P3 P) (ho:P.out=[]) (t:Int) (flag:Bool) (hb:P.out.length + 1 + P.left≤20000) (hw:P.writes.length≤900):P3 (P.decide t flag):=by
 have ha:Bj (P.Fh t):=h.ok.Fh t hb;have hf:=Vg h;have vk:∀ {Q:PS},Q.out=(P.Fh t).out→VN Q:=fun {Q} e x hx h4=>by
  rw [e] at hx;have hx:x∈P.out ++ [_]:=hx;rw [ho,List.nil_append,List.mem_singleton] at hx;subst hx;exact absurd h4 (by show (6:Int) ≠ 4;decide)
 unfold PS.decide;cases hh:P.TJ t with
 | true=>
  rw [if_pos rfl];obtain ⟨x,hx,hxt⟩:=MN h.ok hh;rw [hx];dsimp only;subst hxt;have hxm:=List.mem_of_getElem? hx;obtain ⟨v1,v2⟩:=h.ok.hv x hxm;have hwl:=OZ flag x.ops;have hu:Bj ((P.Fh x.Ah).AO (P.DY x.Ah)):=ha.AO _;have hwa:Bj (((P.Fh x.Ah).AO (P.DY x.Ah)).writeAll (PS.Mn flag x.ops)):=hu.writeAll (OC v1) (by show P.writes.length + _≤1000;omega);have e:=Bz (PS.Mn flag x.ops) ((P.Fh x.Ah).AO (P.DY x.Ah));have ew:(((P.Fh x.Ah).AO (P.DY x.Ah)).writeAll (PS.Mn flag x.ops)).wait=P.wait:=by rw [e];rfl
  have eh:(((P.Fh x.Ah).AO (P.DY x.Ah)).writeAll (PS.Mn flag x.ops)).held=P.held.take (P.DY x.Ah) ++ P.held.drop (P.DY x.Ah + 1):=by rw [e];rfl
  have ef:(((P.Fh x.Ah).AO (P.DY x.Ah)).writeAll (PS.Mn flag x.ops)).fin=P.fin:=by rw [e];rfl
  refine P3.finish h3.l hwa (by rw [ef];exact hf) (fun q hq=>?_) (fun q hq hn=>?_) (fun g hg=>?_) (by rw [e];rfl) (by rw [e];rfl) (vk (by rw [e];rfl)) ⟨fun g hg=>?_,fun q hq=>?_⟩
  ·rw [ew] at hq;exact ⟨hq,h.ok.dj q hq x hxm⟩
  ·rw [ew];exact hq
  ·rw [eh] at hg;exact Xa h.ok hx g hg
  ·rw [eh] at hg;rw [ef];exact h3.f.hf g (Xa h.ok hx g hg).1
  ·rw [ew] at hq;rw [ef];exact h3.f.wf q hq
 | false=>
  rw [if_neg (by simp)];cases hwi:P.Pb t with
  | true=>
   rw [if_pos rfl];obtain ⟨x,hx,hxt⟩:=D9 h.ok hwi;subst hxt;have hxm:=List.mem_of_getElem? hx;obtain ⟨hu,_⟩:=ha.Ay (i:=P.Ce x.Ah) hx;obtain ⟨l1,l2⟩:=Nc h.ok hx;exact P3.finish h3.l hu hf l1 l2 (fun g hg=>⟨hg,Ne.symm (h.ok.dj x hxm g hg)⟩) rfl rfl (vk rfl) ⟨h3.f.hf,fun q hq=>h3.f.wf q (l1 q hq).1⟩
  | false=>
   rw [if_neg (by simp)];exact ⟨h3.l.eq rfl rfl rfl rfl,vk rfl,h3.f.eq rfl rfl (fun _ h=>h)⟩
open Go Go.Sx
structure CX (c:Sc):Prop where
 id:1≤c.id∧c.id≤4
 r:ScR c
 e:c.e=0
 ir:Da c.Ph c.Qq=true
 cr:Da c.Qk c.MS=true
 iz:c.AJ ≠ 0∨inZ c=true
 cz:c.frozen ≠ 0∨TK c=true
def BX (P:PS):Prop:=∀ b,P.box=some b→Da b.lo b.hi=true∧b.move ≠ 0∧DR b.move
structure AA (P Q:PS) (n k:Nat):Prop where
 s:Nz P { Q with out:=P.out } n
 out:∃ l,Q.out=P.out ++ l∧l.length≤k∧∀ x∈l,x.kind ≠ 4
 c:BX P→CX P.c→CX Q.c
 ow:Be P.Ac=true→Be Q.Ac=true
 bx:BX P→CX P.c→BX Q
 wr:A9 P.writes=0→A9 Q.writes=0
theorem AA.trans {P Q R:PS} {n k n2 k2:Nat} (h:AA P Q n k) (g:AA Q R n2 k2):AA P R (n + n2) (k + k2):=by
 obtain ⟨l,e1,e2,e3⟩:=h.out;obtain ⟨l2,f1,f2,f3⟩:=g.out;refine ⟨⟨g.s.held.trans h.s.held,g.s.fin.trans h.s.fin,g.s.wait.trans h.s.wait,g.s.BS.trans h.s.BS,rfl,g.s.line.trans h.s.line,g.s.M.trans h.s.M,?_⟩,⟨l ++ l2,by rw [f1,e1,List.append_assoc],by rw [List.length_append];omega,fun x hx=>?_⟩,fun b c=>g.c (h.bx b c) (h.c b c),fun o=>g.ow (h.ow o),fun b c=>g.bx (h.bx b c) (h.c b c),fun w=>g.wr (h.wr w)⟩
 ·have h1:Q.writes.length≤P.writes.length + n:=h.s.wr;have h2:R.writes.length≤Q.writes.length + n2:=g.s.wr;show R.writes.length≤_;omega
 ·rcases List.mem_append.1 hx with hx | hx
  ·exact e3 x hx
  ·exact f3 x hx
theorem Aj2 {P Q:PS} {n:Nat} (h:Nz P Q n):Nz P { Q with out:=P.out } n:=⟨h.held,h.fin,h.wait,h.BS,rfl,h.line,h.M,h.wr⟩
theorem AA.of {P Q:PS} {n:Nat} (h:Nz P Q n) (c:BX P→CX P.c→CX Q.c) (ow:Be P.Ac=true→Be Q.Ac=true) (bx:BX P→CX P.c→BX Q) (wr:A9 P.writes=0→A9 Q.writes=0):AA P Q n 0:=
 ⟨Aj2 h,⟨[],by rw [h.out,List.append_nil],Nat.le_refl _,by simp⟩,c,ow,bx,wr⟩
theorem AA.refl (P:PS):AA P P 0 0:=AA.of ⟨rfl,rfl,rfl,rfl,rfl,rfl,rfl,Nat.le_refl _⟩ (fun _ h=>h) (fun h=>h) (fun h _=>h) (fun h=>h)
theorem AA.le {P Q:PS} {n k n2 k2:Nat} (h:AA P Q n k) (hn:n≤n2) (hk:k≤k2):AA P Q n2 k2:=by
 obtain ⟨l,e1,e2,e3⟩:=h.out;exact ⟨⟨h.s.held,h.s.fin,h.s.wait,h.s.BS,h.s.out,h.s.line,h.s.M,Nat.le_trans h.s.wr (by omega)⟩,⟨l,e1,by omega,e3⟩,h.c,h.ow,h.bx,h.wr⟩
theorem Ej (P:PS) (m:PM) (hm:m.kind ≠ 4):AA P (P.send m) 0 1:=
 ⟨⟨rfl,rfl,rfl,rfl,rfl,rfl,rfl,Nat.le_refl _⟩,⟨[_],rfl,Nat.le_refl _,by intro x hx;rw [List.mem_singleton] at hx;rw [hx];exact hm⟩,fun _ h=>h,fun h=>h,fun h _=>h,fun h=>h⟩
theorem AeP:DR 0:=⟨by decide,by decide⟩
theorem Tw:Da (BA []) (BA [])=true:=by unfold Da;rw [Ki];rfl
theorem AiN {a b c d:ByteArray} (h:Bw a b c d=true):ER (clO a b c d)=0:=by
 have hr:Da (HZ a c) (AV b d)=true:=by
  unfold Bw at h;rw [Bool.and_eq_true] at h;exact h.2
 have e1:mLo a b c d=HZ a c:=by unfold mLo;rw [if_pos h]
 have e2:mHi a b c d=AV b d:=by unfold mHi;rw [if_pos h]
 unfold ER clO;simp only [e1,e2,hr,Ki];rfl
theorem Abz (P:PS) (r q:Rn) (h:A9 P.writes=0):A9 (P.KG r q).writes=0:=by
 unfold PS.KG;split
 ·rename_i hm;exact Uo h (by simp [A9,AiN hm])
 ·exact h
theorem Vy (q:Rn):∀ (rs:List Rn) (P:PS),A9 P.writes=0→A9 (P.Cy rs q).writes=0
 | [],P,h=>h
 | r :: rs,P,h=>Vy q rs (P.KG r q) (Abz P r q h)
theorem Ub (r:Rn):∀ (hs:List Rn) (P:PS),A9 P.writes=0→A9 (P.Dn r hs).writes=0
 | [],P,h=>h
 | q :: hs,P,h=>Ub r hs (P.KG r q) (Abz P r q h)
theorem YS (hs:List Rn):∀ (rs:List Rn) (P:PS),A9 P.writes=0→A9 (P.FB rs hs).writes=0
 | [],P,h=>h
 | r :: rs,P,h=>YS hs rs (P.Dn r hs) (Ub r hs P h)
theorem VR (P:PS) (rs:List Rn) (q:Rn):AA P (P.Cy rs q) rs.length 0:=by
 have e:=(CS q rs P).1;refine AA.of (KO P rs q) (fun _ h=>?_) (fun h=>?_) (fun h _=>?_) (Vy q rs P)
 ·rw [e];exact h
 ·rw [e];exact h
 ·rw [e];exact h
theorem ZD (P:PS) (rs hs:List Rn):AA P (P.FB rs hs) (rs.length * hs.length) 0:=by
 have e:=(Ef hs rs P).1;refine AA.of (Un P rs hs) (fun _ h=>?_) (fun h=>?_) (fun h _=>?_) (YS hs rs P)
 ·rw [e];exact h
 ·rw [e];exact h
 ·rw [e];exact h
theorem Z7 (P:PS) {x:PM} (hv:DR x.CZ) (he:DR x.Ao) (hm:DR x.move) (ho:Be x.Ac=true):AA P (P.W4 x) 0 0:=
 AA.of ⟨rfl,rfl,rfl,rfl,rfl,rfl,rfl,Nat.le_refl _⟩ (fun _ c=>⟨c.id,⟨c.r.Au,hv,he,hm,c.r.low,c.r.frozen,c.r.AJ,c.r.CD,c.r.Bo⟩,c.e,c.ir,c.cr,c.iz,c.cz⟩) (fun _=>ho) (fun b _=>b) (fun h=>h)
theorem VZ (P:PS) (mv:Int):AA P (P.DE mv) 0 0:=by
 have h:=Qo P mv;unfold PS.DE at h ⊢;split at h
 ·exact AA.refl P
 ·split at h
  ·rename_i hc;rw [if_pos hc];exact AA.of h (fun _ c=>c) (fun o=>o) (fun _ _ b hb=>by cases hb) (fun w=>w)
  ·rename_i hc;rw [if_neg hc];exact AA.refl P
theorem AaZ (P:PS) (mv:Int):AA P (P.QD mv) 0 0:=by
 have h:=WM P mv;unfold PS.QD at h ⊢;split at h
 ·rename_i hc;rw [if_pos hc];refine AA.of h (fun _ c=>⟨c.id,⟨c.r.Au,c.r.CZ,c.r.Ao,c.r.move,c.r.low,AeP,c.r.AJ,c.r.CD,c.r.Bo⟩,c.e,c.ir,Tw,c.iz,.inr ?_⟩) (fun o=>o) (fun b _=>b) (fun w=>w);unfold TK;rw [Ki];rfl
 ·rename_i hc;rw [if_neg hc];exact AA.refl P
theorem Zq (P:PS) (mv:Int) (rs:List Rn):AA P (P.Kl mv rs) rs.length 0:=by
 unfold PS.Kl;split
 ·have h:=VR P rs ⟨P.c.Ph,P.c.Qq⟩;refine h.trans (n2:=0) (k2:=0) (AA.of ⟨rfl,rfl,rfl,rfl,rfl,rfl,rfl,Nat.le_refl _⟩ (fun _ c=>⟨c.id,⟨c.r.Au,c.r.CZ,c.r.Ao,c.r.move,c.r.low,c.r.frozen,AeP,AeP,AeP⟩,c.e,Tw,c.cr,.inr ?_,c.cz⟩) (fun o=>o) (fun b _=>b) (fun w=>w));unfold inZ;dsimp only [PS.Aic];rw [Ki];rfl
 ·exact (AA.refl P).le (Nat.zero_le _) (Nat.le_refl _)
theorem Yv (P:PS) {x:PM} (hv:DR x.CZ) (he:DR x.Ao) (hm:DR x.move) (ho:Be x.Ac=true):AA P (P.mapped x) (x.Ac.length + x.Ac.length * P.Ac.length) 0:=by
 unfold PS.mapped;split
 ·unfold PS.Ko;have h:=((((Z7 P hv he hm ho).trans (VZ _ x.move)).trans (AaZ _ x.move)).trans (Zq _ x.move (B0 P.c.id x.Ac false))).trans (ZD _ (B0 P.c.id x.Ac false) (B0 P.c.id P.Ac true));have l1:=Ft P.c.id x.Ac false;have l2:=Ft P.c.id P.Ac true;have l3:=Nat.mul_le_mul l1 l2;exact h.le (by omega) (by omega)
 ·exact (AA.refl P).le (by omega) (Nat.le_refl _)
theorem PK (P:PS) {x:PM} (hv:DR x.CZ) (he:DR x.Ao) (hm:DR x.move) (ho:Be x.Ac=true):AA P (P.No x) (x.Ac.length + x.Ac.length * P.Ac.length) 1:=
 ((Yv P hv he hm ho).trans (Ej _ _ (by show (9:Int) ≠ 4;decide))).le (by omega) (by omega)
theorem Rt (P:PS) {x:PM} (hm:DR x.move) (ha:DR x.attempt) (hr:Da x.FN x.G6=true) (ho:A9 x.ops=0):AA P (P.NW x) x.ops.length 1:=by
 unfold PS.NW;split
 ·rename_i hmay;have hmv:x.move ≠ 0:=by
   unfold PS.PA at hmay;rw [Bool.not_eq_true',Bool.or_eq_false_iff] at hmay;simpa using hmay.1
  have opn:AA P (P.opens x) 0 0:=by
   unfold PS.opens;split
   ·exact AA.of ⟨rfl,rfl,rfl,rfl,rfl,rfl,rfl,Nat.le_refl _⟩ (fun _ c=>⟨c.id,⟨c.r.Au,c.r.CZ,c.r.Ao,c.r.move,c.r.low,c.r.frozen,hm,ha,AeP⟩,c.e,hr,c.cr,.inl hmv,c.cz⟩) (fun o=>o) (fun b _=>b) (fun w=>w)
   ·exact AA.refl P
  have hi:(P.opens x).c.AJ ≠ 0:=by
   unfold PS.opens;split
   ·exact hmv
   ·rename_i hn;unfold PS.RJ at hn;simp only [Bool.or_eq_true,not_or,Bool.not_eq_true] at hn;have:=hn.1;have:x.move=P.c.AJ:=by simpa using this
    rw [← this];exact hmv
  split
  ·exact (AA.refl P).le (Nat.zero_le _) (by omega)
  ·split
   ·exact opn.le (Nat.zero_le _) (by omega)
   ·refine ((opn.trans (n2:=x.ops.length) (k2:=0) ?_).trans (Ej _ _ (by show (12:Int) ≠ 4;decide))).le (by omega) (by omega);unfold PS.enters;split
    ·refine AA.of ⟨rfl,rfl,rfl,rfl,rfl,rfl,rfl,by simp⟩ (fun _ c=>⟨c.id,⟨c.r.Au,c.r.CZ,c.r.Ao,c.r.move,c.r.low,c.r.frozen,c.r.AJ,c.r.CD,Agh _⟩,c.e,c.ir,c.cr,.inl hi,c.cz⟩) (fun o=>o) (fun b _=>b) (fun w=>Uo w ho)
    ·exact (AA.refl _).le (Nat.zero_le _) (Nat.le_refl _)
 ·exact (AA.refl P).le (Nat.zero_le _) (by omega)
theorem Nm (P:PS) (b:Option PB) (h:BX P→CX P.c→BX { P with box:=b }):AA P { P with box:=b } 0 0:=
 AA.of ⟨rfl,rfl,rfl,rfl,rfl,rfl,rfl,Nat.le_refl _⟩ (fun _ c=>c) (fun o=>o) h (fun w=>w)
theorem AeU (M:List Pa) (b:PB):(EV M b).lo=b.lo∧(EV M b).hi=b.hi∧(EV M b).move=b.move:=by unfold EV;split <;> exact ⟨rfl,rfl,rfl⟩
theorem Afb (M:List Pa) (b:PB):(Db M b).1.lo=b.lo∧(Db M b).1.hi=b.hi∧(Db M b).1.move=b.move:=by
 obtain ⟨h1,h2,h3⟩:=AeU M b;unfold Db;split
 ·exact ⟨h1,h2,h3⟩
 ·exact ⟨h1,h2,h3⟩
theorem BX.some {P:PS} {b:PB} (h:BX P) (hb:P.box=some b) {b':PB} (e:b'.lo=b.lo∧b'.hi=b.hi∧b'.move=b.move):BX { P with box:=Option.some b' }:=by
 intro c hc;have hc:Option.some b'=Option.some c:=hc;injection hc with hc;subst hc;rw [e.1,e.2.1,e.2.2];exact h b hb
theorem MY (P:PS):AA P P.Fa 0 1:=by
 unfold PS.Fa;split
 ·exact (AA.refl P).le (Nat.le_refl _) (by omega)
 ·rename_i b hb;split
  ·exact (AA.refl P).le (Nat.le_refl _) (by omega)
  ·split
   ·unfold PS.My PS.DV;dsimp only;refine ((Nm P _ fun h _=>?_).trans (Ej _ _ (by show (11:Int) ≠ 4;decide))).le (by omega) (by omega);exact h.some hb (Afb P.M b)
   ·split
    ·unfold PS.freeze;have h1:AA P { P with c:={ P.c with frozen:=b.move,Qk:=b.lo,MS:=b.hi },box:=Option.none } 0 0:=by
      refine AA.of ⟨rfl,rfl,rfl,rfl,rfl,rfl,rfl,Nat.le_refl _⟩ (fun hb2 c=>?_) (fun o=>o) (fun _ _ c hc=>by cases hc) (fun w=>w);obtain ⟨a1,a2,a3⟩:=hb2 b hb;exact ⟨c.id,⟨c.r.Au,c.r.CZ,c.r.Ao,c.r.move,c.r.low,a3,c.r.AJ,c.r.CD,c.r.Bo⟩,c.e,c.ir,a1,c.iz,.inl a2⟩
     exact (h1.trans (Ej _ { PM.zero with kind:=14,move:=b.move } (by show (14:Int) ≠ 4;decide))).le (by omega) (by omega)
    ·exact (AA.refl P).le (Nat.le_refl _) (by omega)
theorem Ps (P:PS) (x:PM):AA P (P.KB x) 0 1:=by
 unfold PS.KB;split
 ·exact (AA.refl P).le (Nat.le_refl _) (by omega)
 ·rename_i b hb;split
  ·refine ((Nm P _ fun h _=>?_).trans (MY _)).le (by omega) (by omega);exact h.some hb ⟨rfl,rfl,rfl⟩
  ·exact (AA.refl P).le (Nat.le_refl _) (by omega)
theorem Za (P:PS) {x:PM} (hm:DR x.move) (h0:x.move ≠ 0) (hr:Da x.FN x.G6=true):AA P (P.boxed x) 0 0:=by
 unfold PS.boxed;split
 ·refine Nm P _ fun h _ b hb=>?_;have hb:Option.some (PS.XF x)=Option.some b:=hb;injection hb with hb;subst hb;exact ⟨hr,h0,hm⟩
 ·exact AA.refl P
theorem Wh (P:PS) (f:Bool):AA P (P.closing f) 0 0:=by
 unfold PS.closing;split
 ·exact AA.refl P
 ·rename_i b hb;exact Nm P _ fun h _=>h.some hb ⟨rfl,rfl,rfl⟩
theorem PU (P:PS) {x:PM} (hm:DR x.move) (hr:Da x.FN x.G6=true):AA P (P.Lr x) 0 2:=by
 unfold PS.Lr;split
 ·rename_i hmay;have hmv:x.move ≠ 0:=by
   unfold PS.P9 at hmay;rw [Bool.not_eq_true',Bool.or_eq_false_iff,Bool.or_eq_false_iff] at hmay;simpa using hmay.2.1
  split
  ·exact (Ej P _ (by show (14:Int) ≠ 4;decide)).le (by omega) (by omega)
  ·unfold PS.QC;have h:=((Za P hm hmv hr).trans (Wh _ x.flag)).trans (MY _);split
   ·exact (h.trans (Ej _ _ (by show (13:Int) ≠ 4;decide))).le (by omega) (by omega)
   ·exact h.le (by omega) (by omega)
 ·exact (AA.refl P).le (by omega) (by omega)
open Go Go.Sx
namespace PS
def OU (P:PS) (x:PM):Bool:=!pmA x || (x.dst != P.c.id || !Fi x.kind)
def CA (P:PS) (x:PM):PS:=
 if x.kind=3 then P.clear.work x.Ah x.low x.Ao x.ops
 else if x.kind=5 then P.clear.decide x.Ah x.flag
 else if x.kind=8 then P.clear.No x
 else if x.kind=10 then P.clear.Lr x
 else if x.kind=11 then P.clear.NW x
 else P.clear.KB x
end PS
structure PX (P:PS):Prop where
 j:PJ P
 t:P3 P
 c:CX P.c
 ow:Be P.Ac=true
 bx:BX P
structure ZM (x:PM):Prop where
 Ah:DR x.Ah
 low:DR x.low
 CZ:DR x.CZ
 Ao:DR x.Ao
 move:DR x.move
 attempt:DR x.attempt
theorem JP {l:List Ow} (h:Be l=true):l.length≤6:=by
 cases l with
 | nil=>simp
 | cons x l=>
  unfold Be at h;simp only [Bool.and_eq_true,decide_eq_true_iff] at h;rw [List.length_cons];omega
theorem PX.clear {P:PS} (h:PX P):PX P.clear:=
 ⟨h.j.clear,⟨h.t.l.eq rfl rfl rfl rfl,(fun x hx=>by cases hx),h.t.f.eq rfl rfl (fun _ h=>h)⟩,⟨h.c.id,⟨h.c.r.Au,h.c.r.CZ,h.c.r.Ao,h.c.r.move,h.c.r.low,h.c.r.frozen,h.c.r.AJ,h.c.r.CD,h.c.r.Bo⟩,h.c.e,h.c.ir,h.c.cr,h.c.iz,h.c.cz⟩,h.ow,h.bx⟩
theorem PX.side {P Q:PS} {n k:Nat} (h:PX P) (s:AA P Q n k) (hw:P.writes.length + n≤1000) (ho:P.out.length + k≤1000):PX Q:=by
 obtain ⟨l,e1,e2,e3⟩:=s.out;have q:=s.s;have hl:=h.j.left;have e4:Q.left=P.left:=by
  have a1:Q.wait=P.wait:=q.wait;have a2:Q.BS=P.BS:=q.BS;have a3:Q.line=P.line:=q.line;unfold PS.left;rw [a1,a2,a3]
 have hd:Q.held=P.held:=q.held;have wt:Q.wait=P.wait:=q.wait;have fi:Q.fin=P.fin:=q.fin;have tb:Q.BS=P.BS:=q.BS;have ln:Q.line=P.line:=q.line;have mm:Q.M=P.M:=q.M;have wl:Q.writes.length≤P.writes.length + n:=q.wr;have c:=s.c h.bx h.c;have ow:=s.ow h.ow;have p:=h.j.ok;have ol:Q.out.length≤P.out.length + k:=by rw [e1,List.length_append];omega
 refine ⟨⟨⟨by rw [wt];exact p.wt,by rw [hd];exact p.hd,by rw [hd,wt];exact p.dj,by rw [fi];exact p.fn,by rw [tb];exact p.tb,by rw [wt];exact p.wv,by rw [hd];exact p.hv,by rw [mm];exact p.mp,by rw [mm];exact p.mn,s.wr p.wr,by omega,c.e,by rw [e4];omega,by rw [hd,wt];exact p.hn,by rw [fi];exact p.fl⟩,⟨c.r,by rw [hd];exact h.j.rg.held,by rw [wt];exact h.j.rg.wait,by rw [fi];exact h.j.rg.fin⟩,⟨by rw [hd,wt];exact h.j.ct.hw,by rw [hd,wt,fi];exact h.j.ct.all,JP ow⟩,by rw [ln];exact h.j.line⟩,⟨h.t.l.eq wt hd tb ln,fun x hx h4 h3=>?_,h.t.f.eq hd wt (by rw [fi];exact fun _ h=>h)⟩,c,ow,s.bx h.bx h.c⟩;rw [e1] at hx;rw [hd,wt];rcases List.mem_append.1 hx with hx | hx
 ·exact h.t.n x hx h4 h3
 ·exact absurd h4 (e3 x hx)
theorem U4 {P:PS} (h:Bj P) (t Ao:Int) {ops:List Op} (ho:A9 ops=0) (hl:ops.length≤24) (hb:P.out.length + P.left + 60≤20000):(P.Du t Ao ops).c=P.c∧(P.Du t Ao ops).Ac=P.Ac∧(P.Du t Ao ops).box=P.box:=by
 unfold PS.Du;cases hg:P.gone t with
 | true=>rw [if_pos rfl];exact ⟨rfl,rfl,rfl⟩
 | false=>
  rw [if_neg (by simp)];cases hh:P.TJ t with
  | true=>rw [if_pos rfl];split <;> exact ⟨rfl,rfl,rfl⟩
  | false=>
   rw [if_neg (by simp)];cases hr:P.C7 Ao ops with
   | true=>rw [if_pos rfl];exact ⟨rfl,rfl,rfl⟩
   | false=>
    rw [if_neg (by simp)];have hwis:P.Pb t=false:=by unfold PS.gone at hg;simp only [Bool.or_eq_false_iff] at hg;exact hg.2
    have hful:P.full=false:=by unfold PS.C7 at hr;simp only [Bool.or_eq_false_iff] at hr;exact hr.2.1
    have hc:P.held.length + P.wait.length < 6:=by unfold PS.full at hful;simp only [Bool.or_eq_false_iff,decide_eq_false_iff_not] at hful;omega
    obtain ⟨h1,b1⟩:=h.await ho hl (KY h hwis) (Nd h hh) (by omega) hb;obtain ⟨h2,b2⟩:=h1.Cw 30 (t:=t);have s:=(GO 30 (t:=t) h1).trans (Cv DU h2);exact ⟨s.c,s.Ac,s.box⟩
def BZ (P Q:PS):Prop:=∀ b',Q.box=some b'→∃ b,P.box=some b∧b'.lo=b.lo∧b'.hi=b.hi∧b'.move=b.move
theorem BZ.same {P Q:PS} (h:Q.box=P.box):BZ P Q:=fun b' hb=>⟨b',by rw [← h];exact hb,rfl,rfl,rfl⟩
theorem BZ.trans {P Q R:PS} (h:BZ P Q) (g:BZ Q R):BZ P R:=fun b' hb=>by
 obtain ⟨b,h1,h2,h3,h4⟩:=g b' hb;obtain ⟨c,g1,g2,g3,g4⟩:=h b h1;exact ⟨c,g1,h2.trans g2,h3.trans g3,h4.trans g4⟩
theorem Uk (P:PS) (o:Op):BZ P (P.behind o):=by
 unfold PS.behind;split
 ·exact BZ.same rfl
 ·rename_i b hb;split
  ·intro b' hb';have hb':some { b with row:=b.row ++ [clip b.lo b.hi o] }=some b':=hb';injection hb' with hb';subst hb';exact ⟨b,hb,rfl,rfl,rfl⟩
  ·exact BZ.same rfl
theorem Rq:∀ (ops:List Op) (P:PS),BZ P (P.writeAll ops)
 | [],P=>BZ.same rfl
 | o :: l,P=>(BZ.trans (Q:={ P with writes:=P.writes ++ [o] }) (BZ.same rfl) (Uk _ o)).trans (Rq l (P.FT o))
theorem Sh {P:PS} (h:PJ P) (u:Int) (flag:Bool) (hb:P.out.length + 1 + P.left≤20000) (hw:P.writes.length≤900):(P.decide u flag).c=P.c∧(P.decide u flag).Ac=P.Ac∧BZ P (P.decide u flag)∧∀ n,AM P n→AM (P.decide u flag) (n + 24):=by
 have ha:Bj (P.Fh u):=h.ok.Fh u hb;have hf:=Vg h;have fs:∀ {Q:PS},Bj Q→Q.fin.length < 100000→(Q.finish u).c=Q.c∧(Q.finish u).Ac=Q.Ac∧(Q.finish u).box=Q.box:=by
  intro Q hq hfq;have s:=Oy hq u hfq;have e1:(Q.BV u).c=Q.c∧(Q.BV u).Ac=Q.Ac∧(Q.BV u).box=Q.box:=by unfold PS.BV;split <;> exact ⟨rfl,rfl,rfl⟩
  exact ⟨s.c.trans e1.1,s.Ac.trans e1.2.1,s.box.trans e1.2.2⟩
 unfold PS.decide;cases hh:P.TJ u with
 | true=>
  rw [if_pos rfl];obtain ⟨x,hx,hxt⟩:=MN h.ok hh;rw [hx];dsimp only;obtain ⟨v1,v2⟩:=h.ok.hv x (List.mem_of_getElem? hx);have hwl:=OZ flag x.ops;have hu:Bj ((P.Fh u).AO (P.DY u)):=ha.AO _;have hwa:Bj (((P.Fh u).AO (P.DY u)).writeAll (PS.Mn flag x.ops)):=hu.writeAll (OC v1) (by show P.writes.length + _≤1000;omega);have e:=Bz (PS.Mn flag x.ops) ((P.Fh u).AO (P.DY u));obtain ⟨f1,f2,f3⟩:=fs hwa (by rw [e];exact hf);refine ⟨f1.trans (by rw [e];rfl),f2.trans (by rw [e];rfl),?_,fun n hn=>?_⟩
  ·exact (BZ.trans (Q:=(P.Fh u).AO (P.DY u)) (BZ.same rfl) (Rq _ _)).trans (BZ.same f3)
  ·have h1:AM ((P.Fh u).AO (P.DY u)) n:=hn;have h2:=Ye (PS.Mn flag x.ops) h1;intro b hb;rw [f3] at hb;have:=h2 b hb;omega
 | false=>
  rw [if_neg (by simp)];cases hwi:P.Pb u with
  | true=>
   rw [if_pos rfl];obtain ⟨x,hx,hxt⟩:=D9 h.ok hwi;obtain ⟨hu,_⟩:=ha.Ay (i:=P.Ce u) hx;obtain ⟨f1,f2,f3⟩:=fs hu hf;refine ⟨f1,f2,BZ.same f3,fun n hn b hb=>?_⟩;rw [f3] at hb;have:=hn b hb;omega
  | false=>
   rw [if_neg (by simp)];exact ⟨rfl,rfl,BZ.same rfl,fun n hn b hb=>by have:=hn b hb;omega⟩
theorem EM {P Q:PS} {n:Nat} (h:AM P n) (e:Q.box=P.box):AM Q n:=fun b hb=>h b (by rw [← e];exact hb)
theorem Vk {P:PS} {b:PB} {n:Nat} (h:AM P n) (hb:P.box=some b) {b':PB} (e:b'.row.length≤b.row.length):AM { P with box:=some b' } n:=by
 intro c hc;have hc:some b'=some c:=hc;injection hc with hc;subst hc;exact Nat.le_trans e (h b hb)
theorem AcP (M:List Pa) (b:PB):(Db M b).1.row.length≤b.row.length:=by
 have h:(EV M b).row=b.row:=by unfold EV;split <;> rfl
 unfold Db;split
 ·dsimp only;rw [List.length_drop,h];omega
 ·rw [h];exact Nat.le_refl _
theorem QS {P:PS} {n:Nat} (h:AM P n):AM P.Fa n:=by
 unfold PS.Fa;split
 ·exact h
 ·rename_i b hb;split
  ·exact h
  ·split
   ·exact EM (Q:=P.My b) (Vk h hb (AcP P.M b):AM { P with box:=some { (Db P.M b).1 with load:=(Db P.M b).2,under:=true } } n) rfl
   ·split
    ·intro c hc;cases hc
    ·exact h
theorem Aad {P:PS} {n:Nat} (h:AM P n) (x:PM):AM (P.KB x) n:=by
 unfold PS.KB;split
 ·exact h
 ·rename_i b hb;split
  ·exact QS (Vk h hb (Nat.le_refl _))
  ·exact h
theorem Ww {P:PS} {n:Nat} (h:AM P n) (x:PM) (f:Bool):AM ((P.boxed x).closing f) n:=by
 have h1:AM (P.boxed x) n:=by
  unfold PS.boxed;split
  ·intro c hc;have hc:some (PS.XF x)=some c:=hc;injection hc with hc;subst hc;exact Nat.zero_le _
  ·exact h
 unfold PS.closing;split
 ·exact h1
 ·rename_i b hb;exact Vk h1 hb (Nat.le_refl _)
theorem Abo {P:PS} {n:Nat} (h:AM P n) (x:PM):AM (P.Lr x) n:=by
 unfold PS.Lr;split
 ·split
  ·exact h
  ·unfold PS.QC;split
   ·exact EM (QS (Ww h x x.flag)) rfl
   ·exact QS (Ww h x x.flag)
 ·exact h
theorem Acz {P:PS} {n:Nat} (h:AM P n) (x:PM):AM (P.NW x) n:=by
 have h1:(P.opens x).box=P.box:=by unfold PS.opens;split <;> rfl
 have h2:((P.opens x).enters x).box=P.box:=by unfold PS.enters;split <;> exact h1
 unfold PS.NW;split
 ·split
  ·exact h
  ·split
   ·exact EM h h1
   ·exact EM h h2
 ·exact h
theorem Aa8 {P:PS} {n:Nat} (h:AM P n) (x:PM):AM (P.No x) n:=by
 have hd:∀ Q:PS,AM Q n→AM (Q.DE x.move) n:=by
  intro Q hq;unfold PS.DE;split
  ·exact hq
  ·split
   ·intro c hc;cases hc
   ·exact hq
 have ht:∀ Q:PS,(Q.QD x.move).box=Q.box:=fun Q=>by unfold PS.QD;split <;> rfl
 have hi:∀ (Q:PS) rs,(Q.Kl x.move rs).box=Q.box:=fun Q rs=>by
  unfold PS.Kl;split
  ·show (Q.Cy rs _).box=_;rw [(CS _ rs Q).1]
  ·rfl
 have hw:∀ (Q:PS) rs hs,(Q.FB rs hs).box=Q.box:=fun Q rs hs=>by rw [(Ef hs rs Q).1]
 refine EM (P:=P.mapped x) ?_ rfl;unfold PS.mapped;split
 ·unfold PS.Ko;exact EM (hd _ (EM h rfl:AM (P.W4 x) n)) (by rw [hw,hi,ht])
 ·exact h
open Go Go.Sx
theorem Agu (P:PS) {low:Int} (hl:DR low) (h:CX P.c):CX (P.Bk low).c:=by
 unfold PS.Bk;split
 ·exact ⟨h.id,⟨h.r.Au,h.r.CZ,h.r.Ao,h.r.move,hl,h.r.frozen,h.r.AJ,h.r.CD,h.r.Bo⟩,h.e,h.ir,h.cr,h.iz,h.cz⟩
 ·exact h
theorem US (P:PS) (low:Int):(P.Bk low).Ac=P.Ac∧(P.Bk low).box=P.box∧(P.Bk low).held=P.held∧(P.Bk low).wait=P.wait∧(P.Bk low).BS=P.BS∧(P.Bk low).line=P.line∧(P.Bk low).out=P.out∧(P.Bk low).M=P.M:=by
 unfold PS.Bk;split <;> exact ⟨rfl,rfl,rfl,rfl,rfl,rfl,rfl,rfl⟩
theorem Adk (P:PS) (low:Int):∀ n∈(P.Bk low).fin,n∈P.fin:=by
 unfold PS.Bk;split
 ·exact fun n hn=>(List.mem_filter.1 hn).1
 ·exact fun n hn=>hn
theorem P3.Bk {P:PS} (h:P3 P) (low:Int):P3 (P.Bk low):=by
 obtain ⟨_,_,e3,e4,e5,e6,e7,_⟩:=US P low;exact ⟨h.l.eq e4 e3 e5 e6,h.n.eq e7 e3 e4,h.f.eq e3 e4 (Adk P low)⟩
theorem PX.work {P:PS} (h:PX P) (ho0:P.out=[]) {t low Ao:Int} (ht:DR t) (hlo:DR low) {ops:List Op} (ho:A9 ops=0) (hl:ops.length≤24) (h0:0 < ops.length):PX (P.work t low Ao ops)∧(P.work t low Ao ops).M=P.M∧(P.work t low Ao ops).box=P.box:=by
 have hleft:=h.j.left;have ol:P.out.length=0:=by rw [ho0];rfl
 obtain ⟨e1,e2,e3,e4,e5,e6,e7,e8⟩:=US P low;have hb:(P.Bk low).out.length + (P.Bk low).left + 60≤20000:=by rw [GP,Hj];omega
 have hj:=h.j.Bk hlo;obtain ⟨s1,s2,s3⟩:=U4 hj.ok t Ao ho hl hb;have hw:=(h.t.Bk low).Du hj.ok hj.line (by rw [e7];exact ho0) t Ao ho hl h0 hb;have hm:=AgT hj.ok t Ao ho hl hb;refine ⟨⟨h.j.work ht hlo ho hl (by omega),hw,?_,?_,?_⟩,hm.trans e8,s3.trans e2⟩
 ·show CX ((P.Bk low).Du t Ao ops).c;rw [s1];exact Agu P hlo h.c
 ·show Be ((P.Bk low).Du t Ao ops).Ac=true;rw [s2,e1];exact h.ow
 ·intro b hb;exact h.bx b (by rw [← e2,← s3];exact hb)
theorem PX.decide {P:PS} (h:PX P) (ho0:P.out=[]) (hw0:P.writes=[]) {t:Int} (ht:DR t) (flag:Bool):PX (P.decide t flag)∧(P.decide t flag).M=P.M∧∀ n,AM P n→AM (P.decide t flag) (n + 24):=by
 have hleft:=h.j.left;have ol:P.out.length=0:=by rw [ho0];rfl
 have hb:P.out.length + 1 + P.left≤20000:=by omega
 have hw:P.writes.length≤900:=by rw [hw0];simp
 obtain ⟨s1,s2,s3,s4⟩:=Sh h.j t flag hb hw;refine ⟨⟨h.j.decide ht flag hb hw,h.t.decide h.j ho0 t flag hb hw,by rw [s1];exact h.c,by rw [s2];exact h.ow,fun b hb=>?_⟩,Afg h.j t flag hb hw,s4⟩;obtain ⟨c,h1,h2,h3,h4⟩:=s3 b hb;rw [h2,h3,h4];exact h.bx c h1
theorem PX.taken {P:PS} (h:PX P) {x:PM} (n:ZM x) (hb:P.OU x=false):PX (P.CA x)∧(P.CA x).M=P.M∧∀ k,AM P k→AM (P.CA x) (k + 24):=by
 have hc:=h.clear;unfold PS.OU at hb;simp only [Bool.or_eq_false_iff,Bool.not_eq_false'] at hb;obtain ⟨hp,_,hk⟩:=hb;have w0:P.clear.writes.length=0:=rfl;have o0:P.clear.out.length=0:=rfl;have ow6:=JP h.ow;unfold PS.CA;by_cases h3:x.kind=3
 ·rw [if_pos h3];rw [ZI (.inl h3)] at hp;unfold Q9 BW at hp;rw [if_pos h3] at hp;simp only [Bool.and_eq_true,decide_eq_true_iff] at hp;obtain ⟨a1,a2,a3⟩:=hc.work rfl n.Ah n.low (Ao:=x.Ao) hp.1.2.2.2.2.2 hp.1.2.2.2.2.1 hp.1.2.2.2.1;exact ⟨a1,a2,fun k hk b hb=>by have:=hk b (by rw [a3] at hb;exact hb);omega⟩
 ·rw [if_neg h3];by_cases h5:x.kind=5
  ·rw [if_pos h5];obtain ⟨a1,a2,a3⟩:=hc.decide rfl rfl n.Ah x.flag;exact ⟨a1,a2,a3⟩
  ·rw [if_neg h5];have more:∀ {Q:PS},(∀ k,AM P k→AM Q k)→∀ k,AM P k→AM Q (k + 24):=fun hr k hk b hb=>by have:=hr k hk b hb;omega
   by_cases h8:x.kind=8
   ·rw [if_pos h8];unfold pmA BW at hp;rw [if_neg (by omega),if_neg (by omega),if_neg (by omega),if_neg (by omega),if_neg (by omega),if_neg (by omega),if_neg (by omega),if_pos h8] at hp;simp only [Bool.and_eq_true] at hp;have hO:=hp.1.2.2.2;have s:=PK P.clear n.CZ n.Ao n.move hO;have l6:=JP hO;have l7:=Nat.mul_le_mul l6 (show P.clear.Ac.length≤6 from ow6);exact ⟨hc.side s (by omega) (by omega),s.s.M,more fun k hk=>Aa8 (P:=P.clear) hk x⟩
   ·rw [if_neg h8];by_cases h10:x.kind=10
    ·rw [if_pos h10];unfold pmA BW at hp;rw [if_neg (by omega),if_neg (by omega),if_neg (by omega),if_neg (by omega),if_neg (by omega),if_neg (by omega),if_neg (by omega),if_neg (by omega),if_neg (by omega),if_pos h10] at hp;simp only [Bool.and_eq_true] at hp;have hr:Da x.FN x.G6=true:=by
      have:=hp.1.2.2.2;unfold YG at this;rw [Bool.and_eq_true] at this;exact this.2
     have s:=PU P.clear n.move hr;exact ⟨hc.side s (by omega) (by omega),s.s.M,more fun k hk=>Abo (P:=P.clear) hk x⟩
    ·rw [if_neg h10];by_cases h11:x.kind=11
     ·rw [if_pos h11];unfold pmA BW at hp;rw [if_neg (by omega),if_neg (by omega),if_neg (by omega),if_neg (by omega),if_neg (by omega),if_neg (by omega),if_neg (by omega),if_neg (by omega),if_neg (by omega),if_neg (by omega),if_pos h11] at hp;simp only [Bool.and_eq_true] at hp;have hl:=hp.1.2.2.2;unfold WG at hl;simp only [Bool.and_eq_true,decide_eq_true_iff] at hl;obtain ⟨_,⟨l6,lo⟩,lr,_⟩:=hl;have s:=Rt P.clear n.move n.attempt lr lo;exact ⟨hc.side s (by omega) (by omega),s.s.M,more fun k hk=>Acz (P:=P.clear) hk x⟩
     ·rw [if_neg h11];have s:=Ps P.clear x;exact ⟨hc.side s (by omega) (by omega),s.s.M,more fun k hk=>Aad (P:=P.clear) hk x⟩
theorem AgY {P:PS} (h:PX P):OA P.c P.Ac P.held P.fin=true:=by
 have c:=h.c;have h1:=h.j.ct.hw;have h2:=h.j.ct.all;unfold OA Xe W0;have e1:P.held.any (Y1 P.fin)=false:=by
  rw [List.any_eq_false];intro x hx;obtain ⟨v1,v2⟩:=h.j.ok.hv x hx;obtain ⟨v3,v4⟩:=h.t.f.hf x hx;unfold Y1;simp only [Bool.or_eq_true,decide_eq_true_iff,List.contains_iff_mem,not_or];exact ⟨by omega,by omega,v4,fun h=>h v1⟩
 have e2:UR (P.held.map (·.Ah))=true:=decide_eq_true (List.pairwise_map.2 h.j.ok.hd);have e3:UR P.fin=true:=decide_eq_true h.j.ok.fn;have c1:=c.id;rw [e1,e2,e3,h.ow,c.ir,c.cr,decide_eq_false (by omega),decide_eq_false (by omega),decide_eq_false (by omega),decide_eq_false (by omega)];have i1:(P.c.AJ != 0 || inZ P.c)=true:=by
  rcases c.iz with h | h
  ·rw [show (P.c.AJ != 0)=true from by simpa using h,Bool.true_or]
  ·rw [h,Bool.or_true]
 have i2:(P.c.frozen != 0 || TK P.c)=true:=by
  rcases c.cz with h | h
  ·rw [show (P.c.frozen != 0)=true from by simpa using h,Bool.true_or]
  ·rw [h,Bool.or_true]
 rw [i1,i2];rfl
open Go Go.Sx
def NC (H:List PH):Prop:=∀ a∈H,∀ b∈H,a.Ah ≠ b.Ah→∀ o∈a.ops,∀ q∈b.ops,B8 (G4 a.Ah (AI o)) (G4 b.Ah (AI q))=false
theorem AhH {s:TS} {x:Ak} (hw:s.wait=[]) (hr:Da x.lo x.hi=true) (hn:∀ y∈s.held,B8 x y=false) (hl:s.held.length < 192) :
  (Bc x s).1.1=1∧(Bc x s).1.2.2.2=0∧(Bc x s).2.wait=[]∧(∀ y∈(Bc x s).2.held,y∈s.held∨y=x)∧(∀ y∈s.held,y∈(Bc x s).2.held)∧(∃ y∈(Bc x s).2.held,F7 x y=true)∧(Bc x s).2.held.length≤s.held.length + 1:=by
 unfold Bc;rw [if_neg (by rw [hr];simp),if_neg (by rw [hw];simp)];split
 ·rename_i hc;rw [List.any_eq_true] at hc;exact ⟨rfl,rfl,hw,fun y hy=>.inl hy,fun y hy=>hy,hc,Nat.le_succ _⟩
 ·rw [if_neg (by rw [hw];simp;omega),if_pos (by rw [List.any_eq_false];intro y hy;rw [hn y hy];simp)];have hg:AL x s=([],⟨s.held ++ [x],[]⟩):=by
   unfold AL;rw [hw];rfl
  rw [hg];refine ⟨rfl,rfl,rfl,fun y hy=>?_,fun y hy=>List.mem_append.2 (.inl hy),⟨x,List.mem_append.2 (.inr (List.mem_singleton.2 rfl)),Qs hr⟩,by show (s.held ++ [x]).length≤_;simp⟩;rcases List.mem_append.1 hy with h | h
  ·exact .inl h
  ·exact .inr (List.mem_singleton.1 h)
structure NT (H:List PH) (n:Nat) (s:TS):Prop where
 ok:IP s
 wait:s.wait=[]
 own:∀ y∈s.held,∃ h∈H,∃ o∈h.ops,y=G4 h.Ah (AI o)
 len:s.held.length≤n
theorem NT.ask {H:List PH} {n:Nat} {s:TS} (h:NT H n s) (hc:NC H) (hv:∀ g∈H,A9 g.ops=0) (hn:n < 192) {g:PH} (hg:g∈H) {o:Op} (ho:o∈g.ops) :
  (Bc (G4 g.Ah (AI o)) s).1.1=1∧(Bc (G4 g.Ah (AI o)) s).1.2.2.2=0∧NT H (n + 1) (Bc (G4 g.Ah (AI o)) s).2∧(∀ y∈s.held,y∈(Bc (G4 g.Ah (AI o)) s).2.held)∧∃ y∈(Bc (G4 g.Ah (AI o)) s).2.held,F7 (G4 g.Ah (AI o)) y=true:=by
 obtain ⟨a1,a2,a3,a4,a5,a6,a7⟩:=AhH (x:=G4 g.Ah (AI o)) h.wait (AbV (Bu.1 (hv g hg) o ho)) (fun y hy=>by
  obtain ⟨k,hk,q,hq,rfl⟩:=h.own y hy;by_cases e:g.Ah=k.Ah
  ·exact QB _ _ e
  ·exact hc g hg k hk e o ho q hq) (by have:=h.len;omega)
 refine ⟨a1,a2,⟨Ab9 h.ok,a3,fun y hy=>?_,by have:=h.len;omega⟩,a5,a6⟩;rcases a4 y hy with hy | rfl
 ·exact h.own y hy
 ·exact ⟨g,hg,o,ho,rfl⟩
theorem NT.lix {H:List PH} {n:Nat} {s:TS} (h:NT H n s) (hc:NC H) (hcov:∀ g∈H,∀ o∈g.ops,∃ y∈s.held,F7 (G4 g.Ah (AI o)) y=true) {D:Int→Prop}:F1 [] H s D []:=by
 refine ⟨fun x hx y hy=>?_,hcov,fun y hy=>?_,by simp,by simp,by simp⟩
 ·obtain ⟨a,ha,o,ho,rfl⟩:=h.own x hx;obtain ⟨b,hb,q,hq,rfl⟩:=h.own y hy;by_cases e:a.Ah=b.Ah
  ·exact QB _ _ e
  ·exact hc a ha b hb e o ho q hq
 ·rw [h.wait] at hy;cases hy
set_option maxHeartbeats 8000000 in
theorem Akh {w:World} {d:Sd} (h:YP d w) (hN:XU d) (hok:OA d.c d.Ac (d.held.map Hd.p) d.fin=true) (hv:∀ g∈d.held.map Hd.p,A9 g.ops=0∧g.ops.length≤24) (hc:NC (d.held.map Hd.p)) (hn6:d.held.length≤6) (hb:0≤d.c.Au∧d.c.Au + 1 < 18446744073709551616) {BD:Nat} {sM:Sl} {M:List Pa}
  (hs:w.heap[BD]?=some (.cells #[.slice sM.p sM.len sM.cap] 27 (0,0))) (hM:A1 C2 w sM M) (hn:BD ∉ rb sM) {K:TR [.sc .p,.sc (.i .i64)]→Pr}
  (k:∀ m T X w' s,A6 w' m T X→X.p=⟨{ d.c with Au:=d.c.Au + 1,HA:=false,e:=0 },d.Ac,d.held.map Hd.p,d.fin,[],s,[],[],[],none,M⟩→IP s∧s.wait=[]∧F1 [] (d.held.map Hd.p) s (Dh []) []→X.d.BD=BD→X.d.sM=sM→(∀ b,T b ≠ 0→b=BD∨w.heap.size≤b)→Aa [] w w'→K (some ⟨m,0,none⟩,0,()) w') :
  Cl Pg 9 [.agg (shA d),stV BD] true [.sc .p,.sc (.i .i64)] K w:=by
 refine Oa _ _ _ _ _ d.so d.sh d.sf _ _ _ _ _ _ _ _ _ _ ?_;unfold Uq;dsimp only [Al,SG,Ux,Az,Ll,Hr,UC,Lu,Acq,Ts,Tu,Vb,Vi,Vp,Vs,Vt,Vu,AcR];refine Ad fun a w1 h1 n1 k1=>?_;simp only [sb,h1];refine Lt (d:=d) (h.Ab k1) hN fun w2 k2=>?_;rw [hok];have h2:=k2.Aw h1;simp only [if_true,show ((0:Int) != 0)=false from rfl,Ae];refine ⟨false,rfl,?_⟩;simp only [sb,h2];have k02:=Aj k1 k2;refine MK (d:=d) (h.Ab k02) hN fun d' w3 hd k3=>?_;have k03:=Aj k02 k3;refine Cl.mono (Afp w3) ?_;rintro ⟨r,_⟩ w4 ⟨t,H,hr,hT,hH,k4⟩;dsimp only at hr;subst hr;have k04:=Aj k03 k4;refine ⟨rfl,?_⟩;refine Ad fun m w5 h5 n5 k5=>?_;have k05:=Aj k04 k5;have hw:IntKind.u64.wrap (d'.c.Au + 1)=d.c.Au + 1:=by
  rw [hd.c];have:=B1 (n:=(d.c.Au + 1).toNat) (by omega);rw [Int.toNat_of_nonneg (by omega)] at this;exact this
 simp only [sb,h5,A5,Nat.reduceAdd];refine Ax h5 1 _ rfl (by simp) fun w6 h6 k6=>?_;simp only [Ck] at h6;have nm:w.heap.size≤m:=by have:=k04.size;omega
 have k06:=BT k05 k6 nm;simp only [sb,h6];have s2:=k02.size;have s3:=k3.size;have s4:=k4.size;have s5:=k5.size;have s6:=k6.size;have hlt:=Av hs;have z2:∀ {α:Type} {ρ:Rec α} {s:Sl} {l:List α},Bh ρ w3 s l→∀ b∈Ai s,b < w3.heap.size:=fun hs b hb=>hs.lt b hb;have Hlt:∀ b,H b→b < w4.heap.size:=by obtain ⟨sh,sw,q⟩:=hT;exact q.bl
 have k36:Aa [m] w3 w6:=((Aj k4 k5).mono (by simp)).trans k6 (fun _ hx=>.inl hx);have ow6:=hd.ow.keeps k36 (fun b hb=>by have:=hd.ow.lt b hb;simp;omega);have he6:=hd.he.keeps k36 (fun b hb=>by have:=hd.he.lt b hb;simp;omega);have fi6:=hd.fi.keeps k36 (fun b hb=>by have:=hd.fi.lt b hb;simp;omega);have ta6:Ny w6 t H ⟨[],[]⟩:=hT.heap fun b hb=>by
  have:=Hlt b hb;exact ((k5.mono (m':=[m]) (by simp)).trans k6 (fun _ hx=>.inl hx)).get b this (by simp;omega)
 have tm:DI m BD d'.sh d'.sf H m=1:=if_pos rfl;have ts:DI m BD d'.sh d'.sf H BD=12:=by unfold DI;rw [if_neg (by omega),if_pos rfl]
 have th:∀ b∈Ai d'.sh,DI m BD d'.sh d'.sf H b=2:=fun b hb=>by
  have l1:=hd.fhe b hb;have l2:=hd.he.lt b hb;unfold DI;rw [if_neg (by omega),if_neg (by omega),if_pos hb]
 have tf:∀ b∈Ai d'.sf,DI m BD d'.sh d'.sf H b=3:=fun b hb=>by
  have l1:=hd.ffi b hb;have l2:=hd.fi.lt b hb;unfold DI;rw [if_neg (by omega),if_neg (by omega),if_neg (hd.d2 b hb),if_pos hb]
 have tH:∀ b,H b→DI m BD d'.sh d'.sf H b=5:=fun b hb=>by
  have l1:=hH b hb;have l2:=Hlt b hb;unfold DI;rw [if_neg (by omega),if_neg (by omega),if_neg (fun h=>by have:=hd.he.lt b h;omega),if_neg (fun h=>by have:=hd.fi.lt b h;omega),if_pos hb]
 have to:∀ b∈Ai d'.so,DI m BD d'.sh d'.sf H b=0:=fun b hb=>by
  have l1:=hd.fow b hb;have l2:=hd.ow.lt b hb;unfold DI;rw [if_neg (by omega),if_neg (by omega),if_neg (hd.d1 b hb).1,if_neg (hd.d1 b hb).2,if_neg (fun h=>by have:=hH b h;omega)]
 have old:∀ b,b < w.heap.size→b ≠ BD→DI m BD d'.sh d'.sf H b=0:=fun b hb hne=>by
  unfold DI;rw [if_neg (by omega),if_neg hne,if_neg (fun h=>by have:=hd.fhe b h;omega),if_neg (fun h=>by have:=hd.ffi b h;omega),if_neg (fun h=>by have:=hH b h;omega)]
 have tn:∀ b,DI m BD d'.sh d'.sf H b ≠ 0→(b=BD∨w.heap.size≤b)∧b < w6.heap.size:=fun b hb=>by
  unfold DI at hb;split at hb
  ·rename_i e;subst e;exact ⟨.inr nm,Av h6⟩
  ·split at hb
   ·rename_i e;subst e;exact ⟨.inl rfl,by omega⟩
   ·split at hb
    ·rename_i e;have:=hd.fhe b e;have:=hd.he.lt b e;exact ⟨.inr (by omega),by omega⟩
    ·split at hb
     ·rename_i e;have:=hd.ffi b e;have:=hd.fi.lt b e;exact ⟨.inr (by omega),by omega⟩
     ·split at hb
      ·rename_i e;have:=hH b e;have:=Hlt b e;exact ⟨.inr (by omega),by omega⟩
      ·exact absurd rfl hb
 have hs6:=k06.Aw hs;have hM6:=hM.Ab k06;have topx:∀ x∈d'.held,∀ b∈Ai x.so,DI m BD d'.sh d'.sf H b=0:=fun x hx b hb=>by
  have l1:=hd.fhd x hx b hb;have l2:=(hd.hd x hx).lt b hb;unfold DI;rw [if_neg (by omega),if_neg (by omega),if_neg (hd.d3 x hx b hb).1,if_neg (hd.d3 x hx b hb).2,if_neg (fun h=>by have:=hH b h;omega)]
 have hop6:∀ x∈d'.held,Bh BQ w6 x.so x.ops:=fun x hx=>(hd.hd x hx).keeps k36 (fun b hb=>by have:=(hd.hd x hx).lt b hb;simp;omega);generalize hTT:DI m BD d'.sh d'.sf H=T at *;obtain ⟨X0,hX0⟩:∃ X0:Mc,X0=⟨{ d.c with Au:=d.c.Au + 1,HA:=false,e:=0 },⟨d'.so,d'.sh,d'.sf,⟨none,0,0⟩,t,none,BD,⟨none,0,0⟩,⟨none,0,0⟩,⟨none,0,0⟩,d.Ac,d'.held,d.fin,[],⟨[],[]⟩,H,[],[],[],bx0,sM,M⟩⟩:=⟨_,rfl⟩;have g6:A6 w6 m T X0:=by
  rw [hX0];refine ⟨?_,tm,?_⟩
  ·rw [h6,hw,hd.c];rfl
  ·rw [hd.Ac] at ow6;rw [hd.fin] at fi6;refine ⟨Bq.of ow6.C6 fun b hb=>to b (ow6.rb b hb),.of he6 th,fun x hx=>Bq.of (hop6 x hx).C6 fun b hb=>topx x hx b ((hop6 x hx).rb b hb),.of fi6 tf,SI,by simp,⟨ta6,fun w2 _ hw=>ta6.heap fun b hb=>hw b (by have:=Hlt b hb;omega) (.inl (tH b hb)),fun b hb=>⟨by have:=Hlt b hb;omega,tH b hb⟩⟩,SI,by simp,SI,SI,⟨fun b hb=>(by cases hb),fun w2 _ _ b hb=>(by cases hb),fun b hb=>(by cases hb)⟩,SI,Bq.NI fun w=>A1.nil w,⟨⟨hs6,hM6⟩,fun w2 _ hw=>⟨(hw _ (Av hs6) (.inl ts)).trans hs6,hM6.heap fun b hb=>hw b (hM6.lt b hb) (.inr (old b (hM.lt b hb) (fun e=>hn (e ▸ hb))))⟩,fun b hb=>by subst hb;exact ⟨Av hs6,ts⟩⟩,fun b hb=>(tn b hb).2⟩
 obtain ⟨Hs,hHs⟩:∃ Hs,Hs=d'.held.map Hd.p:=⟨_,rfl⟩;have eH:d.held.map Hd.p=Hs:=by rw [hHs,hd.held]
 rw [eH] at hv hc k;have lH:d'.held.length=Hs.length:=by rw [hHs,List.length_map]
 have l6:Hs.length≤6:=by rw [← eH,List.length_map];exact hn6
 have hX0d:X0.d.held=d'.held∧X0.d.sh=d'.sh∧X0.d.BS=⟨[],[]⟩∧X0.d.tb=t:=by rw [hX0];exact ⟨rfl,rfl,rfl,rfl⟩
 have shl:d'.sh.len=d'.held.length:=hd.he.BY;refine ⟨fun n st w'=>∃ (i:Nat) (T1:Nat→Nat) (H1:Nat→Prop) (s:TS),st=(none,0,(i:Int),())∧n=d'.held.length - i∧i≤d'.held.length∧A6 w' m T1 { X0 with d:={ X0.d with tH:=H1,BS:=s } }∧NT Hs (24 * i) s∧(∀ g∈Hs.take i,∀ o∈g.ops,∃ y∈s.held,F7 (G4 g.Ah (AI o)) y=true)∧Aq T T1 w6 w',⟨_,0,T,X0.d.tH,⟨[],[]⟩,rfl,rfl,by omega,by rw [← hX0d.2.2.1];exact g6,⟨⟨List.Pairwise.nil,by simp⟩,rfl,by simp,by simp⟩,by simp,Aq.refl _ _⟩,?_⟩;rintro n _ w7 ⟨i,T7,H7,s7,rfl,rfl,hi,g7,nt7,cv7,e7⟩;dsimp only;by_cases hlt:i < d'.held.length
 ·rw [decide_eq_true (by omega)];simp only [Af];obtain ⟨x,hx⟩:∃ x,d'.held[i]?=some x:=⟨_,List.getElem?_eq_getElem hlt⟩;have hxm:=List.mem_of_getElem? hx;have hxp:x.p∈Hs:=by rw [hHs];exact List.mem_map.2 ⟨x,hxm,rfl⟩
  have hxi:Hs[i]?=some x.p:=by rw [hHs,List.getElem?_map,hx];rfl
  have he7:A1 Fo w7 d'.sh d'.held:=by
   have:=g7.r.he.ok.C6;rw [show ({ X0 with d:={ X0.d with tH:=H7,BS:=s7 } }:Mc).d.sh=d'.sh from hX0d.2.1,show ({ X0 with d:={ X0.d with tH:=H7,BS:=s7 } }:Mc).d.held=d'.held from hX0d.1] at this;exact this
  have io:Bq T7 (fun w=>A1 BQ w x.so x.ops) w7:=g7.r.Ro x (by show x∈X0.d.held;rw [hX0d.1];exact hxm);refine I0 he7 hx ?_;refine Lz x fun c w8 h8 n8 k8=>?_;have g8:=g7.Ab k8;have Tc:T7 c=0:=g7.new n8;simp only [sb,h8];obtain ⟨v1,v2⟩:=hv x.p hxp;have v1:A9 x.ops=0:=v1;have v2:x.ops.length≤24:=v2;refine Ab2 (io.Ab k8).ok (by omega) ?_ (fun h'=>absurd v1 h');intro _ r w9 h9 f9 k9;have k89:=Aj k8 k9;have g9:=g7.Ab k89;have il:Bq T7 (fun w=>A1 YT w r (x.ops.map AI)) w9:=.of h9.C6 fun b hb=>g8.new (f9 b (AE.rb h9 b hb));have hrl:=h9.BY;rw [List.length_map] at hrl;have c9:=k9.Aw h8;dsimp only;refine ⟨fun n st w'=>∃ (j:Nat) (T1:Nat→Nat) (H1:Nat→Prop) (s:TS),st=(none,0,(j:Int),())∧n=x.ops.length - j∧j≤x.ops.length∧A6 w' m T1 { X0 with d:={ X0.d with tH:=H1,BS:=s } }∧NT Hs (24 * i + j) s∧(∀ g∈Hs.take i,∀ o∈g.ops,∃ y∈s.held,F7 (G4 g.Ah (AI o)) y=true)∧(∀ o∈x.ops.take j,∃ y∈s.held,F7 (G4 x.Ah (AI o)) y=true)∧Aq T7 T1 w9 w',⟨_,0,T7,H7,s7,rfl,rfl,by omega,g9,nt7,cv7,by simp,Aq.refl _ _⟩,?_⟩;rintro n _ w10 ⟨j,T10,H10,s10,rfl,rfl,hj,g10,nt10,cv10,cw10,e10⟩;obtain ⟨c10,Tc10⟩:=e10.at c9 Tc;dsimp only;by_cases hjl:j < x.ops.length
  ·rw [decide_eq_true (by omega)];simp only [Af];obtain ⟨o,ho⟩:∃ o,x.ops[j]?=some o:=⟨_,List.getElem?_eq_getElem hjl⟩;have hom:=List.mem_of_getElem? ho;refine SZ (il.Bm e10).ok (x:=AI o) (by rw [List.getElem?_map,ho];rfl) ?_;refine Yp (AI o) fun q w11 h11 n11 k11=>?_;have g11:=g10.Ab k11;have g11d:=g11.Ab (Am w11);have c11:=k11.Aw c10;simp only [sb,g11.hd,Bs,c11,h11];obtain ⟨a1,a2,a3,a4,a5⟩:=nt10.ask hc (fun g hg=>(hv g hg).1) (by omega) hxp (o:=o) hom;refine Ahs g11d nt10.ok (G4 x.Ah (AI o)) ?_;intro sg sd T12 H12 w12 g12 e12 _ _;rw [show ({ X0 with d:={ X0.d with tH:=H10,BS:=s10 } }:Mc).d.BS=s10 from rfl];have a1:(Bc (G4 x.Ah (AI o)) s10).1.1=1:=a1;have a2:(Bc (G4 x.Ah (AI o)) s10).1.2.2.2=0:=a2;rw [a1,a2];refine BR false (fun J hJ=>?_) fun w13 k13=>?_
   ·simp only [show ((0:Int) != 0)=false from rfl,show ((1:Int) != 1)=false from rfl,Ae];exact hJ _ (Aa.refl _ _)
   ·simp only [Ae];have ev:Aq T7 T12 w9 w13:=((e10.trans (Aq.k0 (Aj k11 (Am w11)))).trans e12).trans (Aq.k0 k13);refine ⟨x.ops.length - (j + 1),by omega,j + 1,T12,H12,_,by rw [AK (by omega)],rfl,by omega,g12.Ab k13,a3,fun g hg p hp=>?_,fun p hp=>?_,ev⟩
    ·obtain ⟨y,hy,hc⟩:=cv10 g hg p hp;exact ⟨y,a4 y hy,hc⟩
    ·rw [List.take_add_one,ho] at hp;rcases List.mem_append.1 hp with hp | hp
     ·obtain ⟨y,hy,hc⟩:=cw10 p hp;exact ⟨y,a4 y hy,hc⟩
     ·rw [Option.toList_some,List.mem_singleton] at hp;subst hp;exact a5
  ·rw [decide_eq_false (by omega)];simp only [Ae];obtain rfl:j=x.ops.length:=by omega
   rw [List.take_of_length_le (Nat.le_refl _)] at cw10;refine ⟨d'.held.length - (i + 1),by omega,i + 1,T10,H10,s10,by rw [AK (by omega)],rfl,by omega,g10,⟨nt10.ok,nt10.wait,nt10.own,by have:=nt10.len;omega⟩,fun g hg=>?_,(e7.trans (Aq.k0 k89)).trans e10⟩;rw [List.take_add_one,hxi] at hg;rcases List.mem_append.1 hg with hg | hg
   ·exact cv10 g hg
   ·rw [Option.toList_some,List.mem_singleton] at hg;subst hg;exact cw10
 ·rw [decide_eq_false (by omega)];simp only [Ae];rw [List.take_of_length_le (by omega)] at cv7;have z6:=k06.size;have kk:Aa [] w w7:=by
   have h1:=(k06.Mh (F:=fun b=>T b ≠ 0∧T b < 11∧False)).trans e7.kp fun x hx=>?_
   ·exact (h1.mono fun b hb=>.inl hb.2.2).SU
   ·rcases (tn x hx.1).1 with rfl | h
    ·rw [ts] at hx;exact absurd hx.2 (by decide)
    ·exact .inr h
  refine k m T7 _ w7 s7 g7 ?_ ⟨nt7.ok,nt7.wait,nt7.lix hc cv7⟩ (by show X0.d.BD=BD;rw [hX0]) (by show X0.d.sM=sM;rw [hX0]) (fun b hb=>?_) kk
  ·rw [hX0,hHs];rfl
  ·rcases Nat.lt_or_ge b w6.heap.size with hlt6 | hge
   ·by_cases h0:T b=0
    ·exact absurd ((e7.tg b hlt6 (.inl h0)).trans h0) hb
    ·exact (tn b h0).1
   ·exact .inr (by omega)
open Go Go.Sx
def leB (a b:ByteArray):Prop:=slt a b=true∨a=b
theorem Ae0 {a b c:ByteArray} (h:leB a b) (k:slt b c=true):slt a c=true:=by
 rcases h with h | rfl
 ·exact CB h k
 ·exact k
theorem AfA {a b c:ByteArray} (h:slt a b=true) (k:leB b c):slt a c=true:=by
 rcases k with k | rfl
 ·exact CB h k
 ·exact h
theorem AaM {a b:ByteArray} (h:slt b a=false):leB a b:=by
 cases h2:slt a b with
 | true=>exact .inl h2
 | false=>exact .inr (Ek h2 h)
theorem Ahc {lo hi:ByteArray}:Da lo hi=true ↔ lo.size≤12∧hi.size≤12∧(hi=BA []∨slt lo hi=true):=by
 unfold Da;rw [seq_eq];simp only [Bool.not_eq_true',Bool.or_eq_false_iff,decide_eq_false_iff_not,Bool.and_eq_false_iff,Bool.not_eq_false',decide_eq_true_iff];constructor
 ·rintro ⟨⟨h1,h2⟩,h3⟩;exact ⟨by omega,by omega,h3⟩
 ·rintro ⟨h1,h2,h3⟩;exact ⟨⟨by omega,by omega⟩,h3⟩
theorem Q7 (a b:ByteArray):AV a b=if a=BA [] then b else if b ≠ BA []∧slt b a=true then b else a:=by
 unfold AV;rw [seq_eq,seq_eq];by_cases h1:a=BA []
 ·simp [h1]
 ·by_cases h2:b=BA []
  ·simp [h1,h2]
  ·simp [h1,h2]
theorem AfU {a b c:ByteArray} (h:leB c a):leB (HZ c b) (HZ a b):=by
 unfold HZ;cases h1:slt c b with
 | true=>
  cases h2:slt a b with
  | true=>simp;exact .inr rfl
  | false=>simp;exact AaM h2
 | false=>
  cases h2:slt a b with
  | true=>have:=Ae0 h h2;rw [h1] at this;cases this
  | false=>simpa using h
theorem least_le {MS ahi bhi:ByteArray} (h:AV MS ahi=ahi) (hu:AV MS bhi ≠ BA []):AV ahi bhi ≠ BA []∧leB (AV ahi bhi) (AV MS bhi):=by
 rw [Q7] at h;rw [Q7 MS bhi] at hu ⊢;rw [Q7 ahi bhi];by_cases hc:MS=BA []
 ·rw [if_pos hc] at hu ⊢;by_cases ha:ahi=BA []
  ·rw [if_pos ha];exact ⟨hu,.inr rfl⟩
  ·rw [if_neg ha];split
   ·exact ⟨hu,.inr rfl⟩
   ·rename_i h2;refine ⟨ha,AaM ?_⟩;cases h3:slt bhi ahi with
    | false=>rfl
    | true=>exact absurd ⟨hu,h3⟩ h2
 ·rw [if_neg hc] at h hu ⊢;have h1:ahi ≠ BA []∧leB ahi MS:=by
   split at h
   ·rename_i h2;exact ⟨h2.1,.inl h2.2⟩
   ·rw [← h];exact ⟨hc,.inr rfl⟩
  rw [if_neg h1.1];by_cases hb:bhi=BA []
  ·rw [if_neg (fun h=>h.1 hb),if_neg (fun h=>h.1 hb)];exact h1
  ·cases h2:slt bhi MS with
   | true=>
    rw [if_pos (show bhi ≠ BA []∧true=true from ⟨hb,rfl⟩)];split
    ·exact ⟨hb,.inr rfl⟩
    ·rename_i h3;refine ⟨h1.1,AaM ?_⟩;cases h4:slt bhi ahi with
     | false=>rfl
     | true=>exact absurd ⟨hb,h4⟩ h3
   | false=>
    rw [if_neg (show ¬ (bhi ≠ BA []∧false=true) from fun h=>by cases h.2)];split
    ·rename_i h3;have:=AfA h3.2 h1.2;rw [h2] at this;cases this
    ·exact h1
theorem RY {Qk MS alo ahi blo bhi:ByteArray} (hc:CW Qk MS alo ahi=true) (hm:Bw alo ahi blo bhi=true):Bw Qk MS blo bhi=true:=by
 unfold CW at hc;unfold Bw at hm ⊢;simp only [Bool.and_eq_true,Bool.or_eq_true] at hc hm ⊢;obtain ⟨⟨⟨c1,c2⟩,c3⟩,c4⟩:=hc;obtain ⟨⟨m1,m2⟩,m3⟩:=hm;rw [seq_eq,decide_eq_true_iff] at c3 c4;have hle:leB Qk alo:=c3;refine ⟨⟨c1,m2⟩,?_⟩;rw [Ahc] at m3 c1 m2 ⊢;refine ⟨?_,?_,?_⟩
 ·rcases AbX Qk blo with h | h <;> rw [h]
  ·exact c1.1
  ·exact m2.1
 ·rcases W2 MS bhi with h | h <;> rw [h]
  ·exact c1.2.1
  ·exact m2.2.1
 ·by_cases hu:AV MS bhi=BA []
  ·exact .inl hu
  ·obtain ⟨h1,h2⟩:=least_le c4 hu;rcases m3.2.2 with h3 | h3
   ·exact absurd h3 h1
   ·exact .inr (AfA (Ae0 (AfU hle) h3) h2)
theorem AcJ {x x' y y':Ak} (hx:F7 x x'=true) (hy:F7 y y'=true) (h:B8 x y=true):B8 x' y'=true:=by
 have nx:=QT hx;have ny:=QT hy;unfold F7 at hx hy;unfold B8 at h ⊢;simp only [Bool.and_eq_true,Bool.or_eq_true,Bool.not_eq_true'] at hx hy h ⊢;obtain ⟨_,cx,wx⟩:=hx;obtain ⟨_,cy,wy⟩:=hy;obtain ⟨hm,hn,hw⟩:=h;refine ⟨?_,by rw [nx,ny];exact hn,?_⟩
 ·have h1:=RY cx hm;rw [Mp] at h1;have h2:=RY cy h1;rw [Mp] at h2;exact h2
 ·rcases hw with h | h
  ·exact .inl (wx.resolve_right (by rw [h];simp))
  ·exact .inr (wy.resolve_right (by rw [h];simp))
theorem F1.nc {W:List PW} {H:List PH} {s:TS} {D:Int→Prop} {G:List Int} (h:F1 W H s D G):NC H:=by
 intro a ha b hb _ o ho q hq;cases hw:B8 (G4 a.Ah (AI o)) (G4 b.Ah (AI q)) with
 | false=>rfl
 | true=>
  obtain ⟨x,hx,cx⟩:=h.hc a ha o ho;obtain ⟨y,hy,cy⟩:=h.hc b hb q hq;have:=AcJ cx cy hw;rw [h.snd x hx y hy] at this;cases this
open Go Go.Sx
set_option maxHeartbeats 4000000 in
theorem AeF {w:World} {m:Nat} {T:Nat→Nat} {X:Mc} (h:A6 w m T X) (hN:XU X.sd) (hr:ShR X.p.c X.p.Ac X.p.held X.p.fin) {f:Value} {Q:PS}
  (hQ:Q.c.e=0) (hrQ:ShR Q.c Q.Ac Q.held Q.fin) (hNQ:PN Q)
  (hf:∀ (w1:World) (T1:Nat→Nat) (X1:Mc),A6 w1 m T1 X1→X1.p=X.p.clear→Dl X X1→Aq T T1 w w1→∀ K:TR []→Pr,(∀ X2 T2 w2,A6 w2 m T2 X2→X2.p=Q→Dl X1 X2→Aq T1 T2 w1 w2→K () w2)→AB Pg f [] true [] K w1)
  {K:TR [.ag [.sl,.sl,.b],.sc (.i .i64)]→Pr}
  (k:∀ so sw out writes X2 T2 w2,A6 w2 m T2 X2→X2.p=Q.clear→out.map Mg.p=Q.out→writes=Q.writes→Bq T2 (MI so sw out writes) w2→Dl X X2→Aq T T2 w w2→K ((so,sw,X.p.FR Q,()),0,()) w2) :
  Cl Pg 32 [.pointer (some ⟨m,0,none⟩),f] true [.ag [.sl,.sl,.b],.sc (.i .i64)] K w:=by
 refine F6 _ _ ?_;unfold FX;dsimp only [Al,Ux,Vv,Li,Az,Ll,SL,Bf,KV,Tb,Vb,Vi,AQ,LW];refine Ad fun a w1 h1 n1 k1=>?_;obtain ⟨g1,s1,e1⟩:=h.own k1 n1 (Av h1);generalize hT:Dz a T=T1 at *;have Ta:T1 a=11:=by rw [← hT];exact if_pos rfl
 simp only [sb,g1.hd,Bs];refine MK (d:=X.sd) g1.shd hN fun d w2 hd2 k2=>?_;have g2:=g1.Ab k2;have h2:=k2.Aw h1;refine Ad fun b w3 h3 n3 k3=>?_;have g3:=g2.Ab k3;have Tb:T1 b=0:=g2.new n3;refine Ul h3 rfl d fun w4 h4 k4=>?_;have k34:Aa [] w2 w4:=BT k3 k4 n3;have g4:=g2.Ab k34;have a4:=k34.Aw h2;have k04:=Aj (Aj k1 k2) k34;have z1:=k1.size;have imD:Bq T1 (YP d) w4:=by
  have q:=hd2;have fr:∀ y,w1.heap.size≤y→T1 y=0:=fun y hy=>g1.new hy;have ow:=(q.ow.keeps k34 (by simp)).C6;have he:=(q.he.keeps k34 (by simp)).C6;have hh:=fun x hx=>((q.hd x hx).keeps k34 (by simp)).C6;have fi:=(q.fi.keeps k34 (by simp)).C6;have rbk:∀ {α:Type} {ρ:Rec α} {s:Sl} {l:List α} (hs:Bh ρ w2 s l) (hf:∀ y∈Ai s,w1.heap.size≤y),∀ y∈rb s,T1 y=0:=fun hs hf y hy=>fr y (hf y (hs.rb y hy));exact ⟨⟨ow,he,hh,fi⟩,fun w' hs hw=>⟨(Bq.of ow (rbk q.ow q.fow)).st w' hs hw,(Bq.of he (rbk q.he q.fhe)).st w' hs hw,fun x hx=>(Bq.of (hh x hx) (rbk (q.hd x hx) (q.fhd x hx))).st w' hs hw,(Bq.of fi (rbk q.fi q.ffi)).st w' hs hw⟩⟩
 have dN:XU d:=by
  refine ⟨by rw [hd2.Ac];exact hN.1,?_,by rw [hd2.fin];exact hN.2.2.1,fun x hx=>?_⟩
  ·have:=congrArg List.length hd2.held;simp only [List.length_map] at this;rw [this];exact hN.2.1
  ·have hm:x.p∈X.sd.held.map Hd.p:=by rw [← hd2.held];exact List.mem_map.2 ⟨x,hx,rfl⟩
   obtain ⟨z,hz,hzx⟩:=List.mem_map.1 hm;have e:z.ops=x.ops:=congrArg PH.ops hzx;rw [← e];exact hN.2.2.2 z hz
 have dR:ShR d.c d.Ac (d.held.map Hd.p) d.fin:=by rw [hd2.c,hd2.Ac,hd2.held,hd2.fin];exact hr
 have eqS:∀ Q':PS,Pv d.c d.Ac (d.held.map Hd.p) d.fin Q'.c Q'.Ac Q'.held Q'.fin=Pv X.p.c X.p.Ac X.p.held X.p.fin Q'.c Q'.Ac Q'.held Q'.fin:=fun Q'=>by rw [hd2.c,hd2.Ac,hd2.held,hd2.fin];rfl
 simp only [sb];refine Td g4 fun w5 h5 i5 e5=>?_;obtain ⟨a5,Ta5⟩:=e5.Ql a4 Ta;obtain ⟨b5,Tb5⟩:=e5.at h4 Tb;have D5:=imD.Bm e5;have e05:Aq T _ w w5:=e1.trans ((Aq.k0 (Aj k2 k34)).trans e5);refine hf w5 _ _ h5 rfl ⟨rfl,rfl⟩ e05 _ ?_;intro X6 T6 w6 h6 q6 x6 e6;obtain ⟨a6,Ta6⟩:=e6.Ql a5 Ta5;obtain ⟨b6,Tb6⟩:=e6.at b5 Tb5;have D6:=D5.Bm e6;have e06:=e05.trans e6;have c6:X6.c=Q.c:=by rw [← q6];rfl
 have ee:X6.c.e=0:=by rw [c6];exact hQ
 simp only [sb,h6.hd,Bs,ee,show ((0:Int) != 0)=false from rfl,A5,Nat.reduceAdd];refine bx3 rfl rfl rfl rfl fun c w7 h7 n7 k7=>?_;obtain ⟨g7,s7,e7⟩:=h6.own k7 n7 (Av h7);have a7:=k7.Aw a6;have b7:=k7.Aw b6;generalize hT7:Dz c T6=T7 at *;have Tc:T7 c=11:=by rw [← hT7];exact if_pos rfl
 have Ta7:T7 a=11:=by rw [← hT7];unfold Dz;split;rfl;exact Ta6
 have Tb7:T7 b=0:=by rw [← hT7];unfold Dz;rw [if_neg (by have:=Av b6;omega)];exact Tb6
 simp only [sb];refine Td g7 fun w8 h8 i8 e8=>?_;obtain ⟨a8,Ta8⟩:=e8.Ql a7 Ta7;obtain ⟨b8,Tb8⟩:=e8.at b7 Tb7;obtain ⟨c8,Tc8⟩:=e8.Ql h7 Tc;have D8:=(D6.Bm e7).Bm e8;have e08:=(e06.trans e7).trans e8;have hwl:X6.d.writes=Q.writes:=by rw [← q6];rfl
 have hsl:X6.d.Nv.len=X6.d.writes.length:=i8.ok.2.2.len;have hx6:Dl X X6:=⟨x6.BD,x6.sM⟩;have nac:a ≠ c:=by have:=Av a6;omega
 have zc:w.heap.size≤c:=by have:=e06.kp.size;omega
 generalize hT8:CG 7 (CG 6 T7)=T8 at *;obtain ⟨X8,hX8⟩:∃ X8:Mc,X8={ X6 with c:={ X6.c with HA:=false },d:={ X6.d with Er:=⟨none,0,0⟩,out:=[],Nv:=⟨none,0,0⟩,writes:=[] } }:=⟨_,rfl⟩;rw [← hX8] at h8;have q8:X8.p=Q.clear:=by rw [hX8,← q6];rfl
 have x8:Dl X X8:=by rw [hX8];exact ⟨x6.BD,x6.sM⟩
 have hout:X6.d.out.map Mg.p=Q.out:=by rw [← q6];rfl
 clear hf h6 x6 e6 q6 g7 h5;refine AG (fun _ w9=>A6 w9 m T8 X8∧Bq T8 (MI X6.d.Er X6.d.Nv X6.d.out X6.d.writes) w9∧Aa [c] w8 w9∧w9.heap[c]?=some (.cells #[.slice X6.d.Er.p X6.d.Er.len X6.d.Er.cap,.slice X6.d.Nv.p X6.d.Nv.len X6.d.Nv.cap,.bool (X.p.FR Q)] 52 (0,0))) (fun J hJ=>?_) ?_
 ·simp only [sb,c8];have hbm:∀ (w9:World) (bv:Bool),Aa [] w8 w9→X.p.FR Q=bv→St ⟨c,2,none⟩ (.bool bv) (J ()) w9:=by
   intro w9 bv k9 hbv;refine Ax (k9.Aw c8) 2 _ rfl (by simp) fun w10 c10 k10=>?_;simp only [Ck] at c10;obtain ⟨h10,s10⟩:=(h8.Ab k9).LK Tc8 k10;refine hJ () w10 ⟨h10,(i8.Ab k9).kt (by decide) s10,(k9.mono (by simp)).trans k10 (fun _ hx=>.inl hx),?_⟩;rw [hbv];exact c10
  unfold PS.FR at hbm;by_cases hw0:0 < Q.writes.length
  ·rw [show decide (((X6.d.Nv.len:Nat):Int) > 0)=true from decide_eq_true (by rw [hsl,hwl];omega)];simp only [sb];refine hbm _ true (Am w8) ?_;rw [decide_eq_true hw0,Bool.true_or]
  ·rw [show decide (((X6.d.Nv.len:Nat):Int) > 0)=false from decide_eq_false (by rw [hsl,hwl];omega)];simp only [sb,b8,h8.hd,Bs];have g8:=h8.Ab (Am w8);refine AdT (d:=d) (e:=X8.sd) (D8.ok.Ab (Am w8)) dN dR g8.shd ?_ ?_ fun w9 k9=>?_
   ·refine PN.sd ?_;rw [q8];exact hNQ
   ·obtain ⟨p1,p2,p3,p4⟩:=Ajo X8;rw [p1,p2,p3,p4,q8];exact hrQ.HA false
   ·refine hbm w9 _ (Aj (Am w8) k9) ?_;rw [decide_eq_false hw0,Bool.false_or];show _=!(Pv d.c d.Ac (d.held.map Hd.p) d.fin X8.p.c X8.p.Ac X8.p.held X8.p.fin);rw [eqS X8.p,q8];rfl
 ·rintro _ w9 ⟨h9,i9,k9,c9⟩;have a9:=k9.Mw a8 nac;simp only [sb,c9];refine Mf a9 rfl rfl rfl fun w10 a10 k10=>?_;obtain ⟨h10,s10⟩:=h9.LK Ta8 k10;simp only [sb,a10];refine k _ _ X6.d.out X6.d.writes X8 T8 w10 h10 q8 hout hwl (i9.kt (by decide) s10) x8 ?_;exact G8 (G8 e08 k9 (by simp;exact zc)) k10 (by simp;exact n1)
theorem Aib {X:Mc} (h:PX X.p) (ho:X.p.out=[]) (hR:AM X.p 90000):Bds X:=by
 have p:=h.j.ok;have ol:X.d.out.length=0:=by have:=congrArg List.length ho;rw [show X.p.out=X.d.out.map Mg.p from rfl,List.length_map] at this;exact this
 have h1:X.p.held.length=X.d.held.length:=List.length_map _;have h2:X.p.wait.length=X.d.wait.length:=List.length_map _;have h3:=p.hn;have h4:X.d.M.length≤200000:=p.mn;exact ⟨by omega,fun b hb=>Nat.le_trans (hR b hb) (by decide),by omega,fun x hx=>Nat.le_trans (p.hv x.p (List.mem_map.2 ⟨x,hx,rfl⟩)).2 (by decide),fun x hx=>Nat.le_trans (p.wv x.p (List.mem_map.2 ⟨x,hx,rfl⟩)).2.1 (by decide),by omega,by omega⟩
theorem AeS {w:World} {m:Nat} {T:Nat→Nat} {X:Mc} (h:A6 w m T X) {P:PS} (q:X.p=P.clear) (hP:PX P) {y:PM} (hb:P.OU y=false) (hn:ZM y) (hR:AM P 90000) (x:Mg) (hy:x.p=y) (hx:Bq T (Su x) w)
  {c a b:Nat} (hc:w.heap[c]?=some (.cells #[dV x.kind] 102 (0,0))) (ha:w.heap[a]?=some (.cells #[.pointer (some ⟨m,0,none⟩)] 28 (0,0))) (hbx:w.heap[b]?=some (.cells (Sm x) 47 (0,0))) {K:TR []→Pr}
  (k:∀ X' T' w',A6 w' m T' X'→X'.p=P.CA y→Dl X X'→Aq T T' w w'→K () w') :
  AB Pg (.func (.func 33) #[] #[.pointer (some ⟨c,0,none⟩),.pointer (some ⟨a,0,none⟩),.pointer (some ⟨b,0,none⟩)]) [] true [] K w:=by
 refine Q4 (cs:=[.pointer (some ⟨c,0,none⟩),.pointer (some ⟨a,0,none⟩),.pointer (some ⟨b,0,none⟩)]) (by kernel_rfl) ?_;refine DW _ _ _ ?_;unfold DQ;dsimp only [Ag,Bn,Vp];simp only [sb,hc,ha,hbx];have hX:PX X.p:=by rw [q];exact hP.clear
 have hl:=hX.j.left;have o0:X.p.out=[]:=by rw [q];rfl
 have w0:X.p.writes=[]:=by rw [q];rfl
 have hR':AM X.p 90000:=by rw [q];exact hR
 have B:=Aib hX o0 hR';have ol:X.p.out.length=0:=by rw [o0];rfl
 have od:X.d.out.length=0:=by have:=congrArg List.length o0;rw [show X.p.out=X.d.out.map Mg.p from rfl,List.length_map] at this;exact this
 have wd:X.d.writes.length=0:=by show X.p.writes.length=0;rw [w0];rfl
 have ow6:=JP hX.ow;have owd:X.d.Ac.length≤6:=ow6;have hb2:=hb;unfold PS.OU at hb2;simp only [Bool.or_eq_false_iff,Bool.not_eq_false'] at hb2;obtain ⟨hp,_,hk0⟩:=hb2;have ek:y.kind=x.kind:=by rw [← hy];rfl
 have hk:x.kind=3∨x.kind=5∨x.kind=8∨x.kind=10∨x.kind=11∨x.kind=12:=by
  rw [ek] at hk0;unfold Fi at hk0;simpa only [Bool.or_eq_true,beq_iff_eq] using hk0
 subst hy;clear hk0;unfold PS.CA at k;rw [← q] at k;rw [ek] at k;rcases hk with hk | hk | hk | hk | hk | hk
 ·rw [if_pos hk] at k;rw [ZI (.inl (ek.trans hk))] at hp;unfold Q9 BW at hp;rw [if_pos (show x.p.kind=3 from hk)] at hp;simp only [Bool.and_eq_true,decide_eq_true_iff] at hp;rw [show dV x.kind=Ez 73 from by rw [hk];rfl];refine Ap (by kernel_rfl) ?_;exact Aen h hX.j.ok (by omega) (by omega) x hx hp.1.2.2.2.2.2 hp.1.2.2.2.2.1 fun X' T' w' g e f=>k X' T' w' g e f.s
 ·rw [if_neg (by omega),if_pos hk] at k;rw [show dV x.kind=Ez 74 from by rw [hk];rfl];refine Ap (by kernel_rfl) ?_;exact YD h hX.j.ok (by omega) (by have:=hX.j.ct.all;have e:X.p.fin.length=X.d.fin.length:=rfl;omega) (by omega) hR' x fun X' T' w' g e f=>k X' T' w' g e f.s
 ·rw [if_neg (by omega),if_neg (by omega),if_pos hk] at k;unfold pmA BW at hp;rw [ek] at hp;rw [if_neg (by omega),if_neg (by omega),if_neg (by omega),if_neg (by omega),if_neg (by omega),if_neg (by omega),if_neg (by omega),if_pos hk] at hp;simp only [Bool.and_eq_true] at hp;have lo:=JP hp.1.2.2.2;have lo:x.Ac.length≤6:=lo;rw [show dV x.kind=Ez 75 from by rw [hk];rfl];refine Ap (by kernel_rfl) ?_;exact Ad4 h x hx (by omega) (by omega) (by omega) (by omega) k
 ·rw [if_neg (by omega),if_neg (by omega),if_neg (by omega),if_pos hk] at k;rw [show dV x.kind=Ez 76 from by rw [hk];rfl];refine Ap (by kernel_rfl) ?_;refine Afl h x (by omega) B (fun Y hY=>?_) k;obtain ⟨l,e1,e2,_⟩:=(MY ((X.p.boxed x.p).closing x.flag)).out;have e3:((X.p.boxed x.p).closing x.flag).out=X.p.out:=by
   have h1:(X.p.boxed x.p).out=X.p.out:=by unfold PS.boxed;split <;> rfl
   unfold PS.closing;split <;> exact h1
  rw [SX hY,e1,e3,o0,List.nil_append];omega
 ·rw [if_neg (by omega),if_neg (by omega),if_neg (by omega),if_neg (by omega),if_pos hk] at k;unfold pmA BW at hp;rw [ek] at hp;rw [if_neg (by omega),if_neg (by omega),if_neg (by omega),if_neg (by omega),if_neg (by omega),if_neg (by omega),if_neg (by omega),if_neg (by omega),if_neg (by omega),if_neg (by omega),if_pos hk] at hp;simp only [Bool.and_eq_true] at hp;have hld:=hp.1.2.2.2;unfold WG at hld;simp only [Bool.and_eq_true,decide_eq_true_iff] at hld;have l6:x.ops.length≤6:=hld.2.1.1;rw [show dV x.kind=Ez 77 from by rw [hk];rfl];refine Ap (by kernel_rfl) ?_;exact AfW h x hx (by omega) (by omega) (by omega) (by omega) fun X' T' w' g e f=>k X' T' w' g e f.s
 ·rw [if_neg (by omega),if_neg (by omega),if_neg (by omega),if_neg (by omega),if_neg (by omega)] at k;rw [show dV x.kind=Ez 78 from by rw [hk];rfl];refine Ap (by kernel_rfl) ?_;exact Af2 h x B k
set_option maxHeartbeats 4000000 in
theorem Agc {w:World} {m:Nat} {T:Nat→Nat} {X:Mc} (h:A6 w m T X) (hJ:PX X.p) (hR:AM X.p 90000) (x:Mg) (hx:Bq T (Su x) w) (hn:ZM x.p) (hO:x.Ac.length≤140737488355328) {K:TR [.ag [.sl,.sl,.b],.sc (.i .i64)]→Pr}
  (k1:X.p.OU x.p=true→∀ T' w',A6 w' m T' X→Aq T T' w w'→K ((⟨none,0,0⟩,⟨none,0,0⟩,false,()),180,()) w')
  (k2:X.p.OU x.p=false→∀ so sw out writes X2 T2 w2,A6 w2 m T2 X2→X2.p=(X.p.CA x.p).clear→out.map Mg.p=(X.p.CA x.p).out→writes=(X.p.CA x.p).writes→Bq T2 (MI so sw out writes) w2→Dl X X2→Aq T T2 w w2→K ((so,sw,X.p.FR (X.p.CA x.p),()),0,()) w2) :
  Cl Pg 11 [.pointer (some ⟨m,0,none⟩),.agg (Sm x)] true [.ag [.sl,.sl,.b],.sc (.i .i64)] K w:=by
 refine EO _ _ _ _ _ _ _ _ _ _ _ _ _ _ _ _ _ _ _ x.so x.sr x.sw ?_;unfold EH;dsimp only [Ag,Vv,Li,Bn,SL,KV,Tb,Vb,Vi,Vp,LW];refine Ad fun a w1 h1 n1 q1=>?_;refine Ad fun b w2 h2 n2 q2=>?_;refine Ad fun e w3 h3 n3 q3=>?_;have q02:=Aj q1 q2;have g2:=h.Ab q02;have a2:=q2.Aw h1;have Ta2:T a=0:=h.new n1;have Tb2:T b=0:=(h.Ab q1).new n2;obtain ⟨g3,s3,e3⟩:=g2.own q3 n3 (Av h3);obtain ⟨a3,Ta3⟩:=e3.at a2 Ta2;obtain ⟨b3,Tb3⟩:=e3.at h2 Tb2;have ev3:Aq T (Dz e T) w w3:=(Aq.k0 q02).trans e3;have x3:=hx.Bm ev3;generalize hT3:Dz e T=T3 at *;have Te:T3 e=11:=by rw [← hT3];exact if_pos rfl
 refine AG (fun s w4=>∃ c,s=(some ⟨c,0,none⟩,Fi x.kind,())∧Aa [] w3 w4∧w4.heap[c]?=some (.cells #[dV x.kind] 102 (0,0))∧w3.heap.size≤c) (fun J hJ4=>?_) ?_
 ·simp only [sb,b3];have b3d:w3.drew.heap[b]?=_:=b3;have zd:w3.drew.heap.size=w3.heap.size:=rfl;refine ⟨?_,?_⟩
  ·refine Tf fun mm w4 h4 n4 q4=>?_;have b4:=q4.Aw b3d;simp only [sb,b4];refine ⟨by trivial,?_⟩;refine Fk h4 x.kind ?_;refine ⟨rfl,?_⟩;refine Ad fun c w5 h5 n5 q5=>?_;have b5:=q5.Aw b4;have h45:=h4.CM q5 (by simp);simp only [sb,b5];refine ⟨Fk h45 x.kind rfl,by trivial,?_⟩;refine Ax h5 0 _ (Yh _) (by simp) fun w6 h6 q6=>?_;simp only [Ck] at h6;exact hJ4 _ w6 ⟨c,rfl,BT (Aj (Aj (Am w3) q4) q5) q6 (by have:=q4.size;omega),h6,by have:=q4.size;omega⟩
  ·refine ⟨rfl,?_⟩;refine Ad fun c w4 h4 n4 q4=>?_;have b4:=q4.Aw b3d;simp only [sb,b4];refine ⟨by trivial,?_⟩;refine Tf fun mm w5 h5 n5 q5=>?_;have b5:=q5.Aw b4;simp only [sb,b5];refine ⟨by trivial,?_⟩;refine Fk h5 x.kind ?_;refine Ax (q5.Aw h4) 0 _ (Yh _) (by simp) fun w6 h6 q6=>?_;simp only [Ck] at h6;exact hJ4 _ w6 ⟨c,rfl,BT (Aj (Aj (Am w3) q4) q5) q6 (by omega),h6,by omega⟩
 ·rintro _ w4 ⟨c,rfl,q4,hc4,nc4⟩;have g4:=g3.Ab q4;have a4:=q4.Aw a3;have b4:=q4.Aw b3;have d4:=q4.Aw h3;have x4:=x3.Ab q4;have Tc:T3 c=0:=g3.new nc4;refine BR (X.p.OU x.p) (fun J hJ6=>?_) fun w5 q5=>?_
  ·unfold PS.OU at hJ6;simp only [sb,b4];refine AdX (x:=x) (x4.Ab (Am w4)).ok hO fun w5 q5=>?_;have g5:=(g4.Ab (Am w4)).Ab q5;have a5:=q5.Aw (show w4.drew.heap[a]?=_ from a4);have b5:=q5.Aw (show w4.drew.heap[b]?=_ from b4);have q45:=Aj (Am w4) q5;cases c1:pmA x.p with
   | false=>rw [c1] at hJ6;exact hJ6 w5 q45
   | true=>
    rw [c1,Bool.not_true,Bool.false_or] at hJ6;simp only [if_true,show ((0:Int) != 0)=false from rfl,sb,a5,b5,g5.hd,Bs];rw [show (x.p.dst != X.p.c.id)=(x.dst != X.c.id) from rfl,show Fi x.p.kind=Fi x.kind from rfl] at hJ6;cases c2:(x.dst != X.c.id) with
    | true=>rw [c2] at hJ6;exact hJ6 w5 q45
    | false=>
     rw [c2,Bool.false_or] at hJ6;exact hJ6 w5 q45
  ·have g5:=g4.Ab q5;have a5:=q5.Aw a4;have b5:=q5.Aw b4;have c5:=q5.Aw hc4;have d5:=q5.Aw d4;have x5:=x4.Ab q5;have ev5:Aq T T3 w w5:=ev3.trans (Aq.k0 (Aj q4 q5));have ze:w.heap.size≤e:=by have:=q02.size;omega
   cases hbad:X.p.OU x.p with
   | true=>
    simp only [Af];refine Mf d5 rfl rfl rfl fun w6 h6 q6=>?_;obtain ⟨g6,_⟩:=g5.LK Te q6;simp only [sb,h6];exact k1 hbad T3 w6 g6 (G8 ev5 q6 (by simp;exact ze))
   | false=>
    obtain ⟨hQ,hQM,hQR⟩:=hJ.taken hn hbad;simp only [sb,a5];refine AeF (Q:=X.p.CA x.p) g5 (Ru hJ.j.ok hJ.j.ct).sd hJ.j.rg.shr hQ.j.ok.er hQ.j.rg.shr (Ru hQ.j.ok hQ.j.ct) ?_ ?_
    ·intro w6 T6 X6 h6 q6 x6 e6 K1 hK1;obtain ⟨a6,Ta6⟩:=e6.at a5 Ta3;obtain ⟨b6,Tb6⟩:=e6.at b5 Tb3;obtain ⟨c6,Tc6⟩:=e6.at c5 Tc;exact AeS h6 q6 hJ hbad hn hR x rfl (x5.Bm e6) c6 a6 b6 hK1
    ·intro so sw out writes X7 T7 w7 h7 q7 ho hw i7 x7 e7;obtain ⟨d7,Td7⟩:=e7.Ql d5 Te;refine Mf d7 rfl rfl rfl fun w8 h8 q8=>?_;obtain ⟨g8,s8⟩:=h7.LK Td7 q8;simp only [sb,h8];exact k2 hbad so sw out writes X7 T7 w8 g8 q7 ho hw (i7.kt (by decide) s8) x7 (G8 (ev5.trans e7) q8 (by simp;exact ze))
open Go Go.Sx
theorem Loc.start {α:Type} {ρ:Rec α} {k:Nat} (hk:12 < k) {w0 w:World} {m:Nat} {T:Nat→Nat} {X:Mc} (h:A6 w0 m T X) (kp:Aa [] w0 w) {r:Sl} {l:List α} (hr:Bh ρ w r l) (fr:∀ b∈Ai r,w0.heap.size≤b) (hT:∀ b,T b ≠ k):A6 w m (AX k r T) X∧Loc ρ k w0.heap.size (AX k r T) r l w∧Aq T (AX k r T) w0 w:=by
 have old:∀ b,b < w0.heap.size→AX k r T b=T b:=fun b hb=>if_neg fun hm=>by have:=fr b hm;omega
 have s:CH k T (AX k r T) w0 w:=⟨kp.FY (by simp),fun b hb _=>old b hb⟩;refine ⟨h.kk hk s (GH hr kp.size h.r.bd),⟨.of hr ED,fun b hb=>?_⟩,⟨kp.FY (by simp),fun b hb _=>old b hb⟩⟩;unfold AX at hb;split at hb
 ·rename_i hm;exact fr b hm
 ·exact absurd hb (hT b)
theorem sort_k {k:Nat} (hk:12 < k) {w w0:World} {m:Nat} {T T0:Nat→Nat} {X:Mc} (h:A6 w m T X) {r:Sl} {l:List Int} (hr:Loc HL k w0.heap.size T r l w) (h0:Aq T0 T w0 w) (hN:l.length≤65000) (hd:l.Nodup) {K:TR []→Pr}
  (kk:∀ w',A6 w' m T X→Loc HL k w0.heap.size T r (Dk l) w'→Aq T0 T w0 w'→K () w'):Cl Pg 37 [.slice r.p r.len r.cap] true [] K w:=by
 have h1:AE w r 1 (cU l):=by
  have h:AE w r HL.n (l.flatMap HL.c):=hr.c.ok;rw [XH] at h;exact h
 refine Cl.mono (AbH h1 hN) ?_;rintro ⟨⟩ w' ⟨l',hp,hs,h2,k2⟩;have e:l'=Dk l:=by
  refine Xt ?_ fun x=>hp.mem_iff;have hn:l'.Nodup:=hp.nodup_iff.2 hd;exact (hs.and hn).imp fun ⟨a,b⟩=>by omega
 subst e;have s:CH k T T w w':=⟨k2.FY fun b hb=>.inl (hr.c.tag b hb).2,fun _ _ _=>rfl⟩;refine kk w' (h.kk hk s fun b hb=>Nat.lt_of_lt_of_le (h.r.bd b hb) k2.size) ⟨.of (by show AE w' r 1 _;rw [XH];exact h2) (fun b hb=>(hr.c.tag b hb).2),hr.new⟩ (Aq.loc hk h0 s hr.new)
namespace PS
def asks (P:PS) (l:List Int):PS:=l.foldl (fun Q n=>Q.send { PM.zero with kind:=7,Ah:=n }) P
def under (P:PS):Bool:=match P.box with
 | none=>false
 | some b=>b.under
def CF (P:PS):PS:=if P.under then (P.asks (Dk (P.wait.map (·.Ah) ++ P.held.map (·.Ah)))).DV else P.asks (Dk (P.wait.map (·.Ah) ++ P.held.map (·.Ah)))
end PS
theorem Fl:∀ (l:List Int) (P:PS),∃ o,P.asks l={ P with out:=P.out ++ o }∧o.length=l.length∧∀ x∈o,x.kind ≠ 4
 | [],P=>⟨[],by simp [PS.asks],rfl,by simp⟩
 | n :: l,P=>by
  obtain ⟨o,h1,h2,h3⟩:=Fl l (P.send { PM.zero with kind:=7,Ah:=n });refine ⟨{ PM.zero with kind:=7,Ah:=n,src:=P.c.id } :: o,?_,by rw [List.length_cons,List.length_cons,h2],fun x hx=>?_⟩
  ·show (P.send _).asks l=_;rw [h1];unfold PS.send;simp
  ·rcases List.mem_cons.1 hx with rfl | hx
   ·show (7:Int) ≠ 4;decide
   ·exact h3 x hx
theorem OD (P:PS) (l:List Int):AA P (P.asks l) 0 l.length:=by
 obtain ⟨o,h1,h2,h3⟩:=Fl l P;rw [h1];exact ⟨⟨rfl,rfl,rfl,rfl,rfl,rfl,rfl,Nat.le_refl _⟩,⟨o,rfl,by omega,h3⟩,fun _ h=>h,fun h=>h,fun h _=>h,fun h=>h⟩
theorem Mq (P:PS):AA P P.DV 0 1:=by
 unfold PS.DV;split
 ·exact (AA.refl P).le (Nat.le_refl _) (by omega)
 ·exact Ej _ _ (by show (11:Int) ≠ 4;decide)
theorem PX.nodup {P:PS} (h:Bj P):(P.wait.map (·.Ah) ++ P.held.map (·.Ah)).Nodup:=by
 rw [List.nodup_append];refine ⟨(List.pairwise_map.2 h.wt).imp fun h=>Int.ne_of_lt h,(List.pairwise_map.2 h.hd).imp fun h=>Int.ne_of_lt h,fun a ha b hb=>?_⟩;obtain ⟨x,hx,rfl⟩:=List.mem_map.1 ha;obtain ⟨y,hy,rfl⟩:=List.mem_map.1 hb;exact h.dj x hx y hy
theorem PX.CF {P:PS} (h:PX P):PX P.clear.CF∧P.clear.CF.M=P.M∧∀ k,AM P k→AM P.clear.CF k:=by
 have hc:=h.clear;have hn:=PX.nodup hc.j.ok;have hl:=JZ (l:=P.clear.wait.map (·.Ah) ++ P.clear.held.map (·.Ah));have h6:=h.j.ct.hw;rw [List.length_append,List.length_map,List.length_map] at hl;have e1:P.clear.wait=P.wait:=rfl;have e2:P.clear.held=P.held:=rfl;rw [e1,e2] at hl;have s1:=OD P.clear (Dk (P.clear.wait.map (·.Ah) ++ P.clear.held.map (·.Ah)));have s2:=s1.trans (Mq _);have w0:P.clear.writes.length=0:=rfl;have o0:P.clear.out.length=0:=rfl;have hb:∀ l,(P.clear.asks l).box=P.box:=fun l=>by obtain ⟨o,h1,_⟩:=Fl l P.clear;rw [h1];rfl
 unfold PS.CF;split
 ·refine ⟨hc.side s2 (by omega) (by rw [e1,e2];omega),s2.s.M,fun k hk=>?_⟩;refine EM (P:=P) hk ?_;unfold PS.DV;split
  ·exact hb _
  ·exact hb _
 ·exact ⟨hc.side s1 (by omega) (by rw [e1,e2];omega),s1.s.M,fun k hk=>EM (P:=P) hk (hb _)⟩
set_option maxHeartbeats 4000000 in
theorem AgQ {w:World} {m:Nat} {T:Nat→Nat} {X:Mc} (h:A6 w m T X) (hp:Bj X.p) (hc:X.p.held.length + X.p.wait.length≤6) (ho:X.d.out.length≤1000) (hL:∀ b,X.d.bx=some b→X.d.box.load.length≤1000000) {a:Nat} (ha:w.heap[a]?=some (.cells #[.pointer (some ⟨m,0,none⟩)] 28 (0,0))) (Ta:T a=0) {K:TR []→Pr}
  (k:∀ X' T' w',A6 w' m T' X'→X'.p=X.p.CF→Dl X X'→Aq T T' w w'→K () w'):AB Pg (.func (.func 36) #[] #[.pointer (some ⟨a,0,none⟩)]) [] true [] K w:=by
 refine Q4 (cs:=[.pointer (some ⟨a,0,none⟩)]) (by kernel_rfl) ?_;refine Jj _ ?_;unfold G1;dsimp only [Lb,Ll,Hr,Lu,Ts,Tu,Vb,Vi,Vp,Vs,Vt,Vu];simp only [sb,ha];have eh:X.p.held.length=X.d.held.length:=List.length_map _;have ew:X.p.wait.length=X.d.wait.length:=List.length_map _;obtain ⟨kt,hk,hT⟩:=Y8 h.r.bd;refine AbI h (by omega) ?_;intro r1 w1 hr1 fr1 k1;obtain ⟨g1,l1,e1⟩:=Loc.start hk h k1 hr1 fr1 hT;obtain ⟨a1,Ta1⟩:=e1.at ha Ta;generalize hT1:AX kt r1 T=T1 at *;simp only [sb,a1,g1.hd,Bs,A5,Nat.reduceAdd];have shl:X.d.sh.len=X.d.held.length:=g1.r.he.ok.BY;refine ⟨fun n st w'=>∃ (i:Nat) (r:Sl) (T2:Nat→Nat),st=(r,(i:Int),())∧n=X.d.held.length - i∧i≤X.d.held.length∧A6 w' m T2 X∧Loc HL kt w.heap.size T2 r (X.d.wait.map (·.Ah) ++ (X.d.held.take i).map (·.Ah)) w'∧Aq T T2 w w',⟨_,0,r1,T1,rfl,rfl,by omega,g1,by simpa using l1,e1⟩,?_⟩;rintro n _ w2 ⟨i,r2,T2,rfl,rfl,hi,g2,l2,e2⟩;dsimp only;by_cases hlt:i < X.d.held.length
 ·rw [decide_eq_true (by omega)];simp only [Af];obtain ⟨x,hx⟩:∃ x,X.d.held[i]?=some x:=⟨_,List.getElem?_eq_getElem hlt⟩;refine I0 g2.r.he.ok.C6 hx ?_;refine Lz x fun c w3 h3 n3 k3=>?_;simp only [sb,h3];refine Ad fun d w4 h4 n4 k4=>?_;have k24:=Aj k3 k4;have g4:=g2.Ab k24;have l4:=l2.Ab hk k24;have ll:=l4.c.ok.BY;rw [List.length_append,List.length_map,List.length_map,List.length_take] at ll;refine Tn hk g4 (ρ:=HL) (q:=1) (new:=[x.Ah]) l4 (e2.trans (Aq.k0 k24)) rfl (by rw [List.flatMap_singleton];exact BI (ρ:=HL) (x:=x.Ah) h4) rfl (by rw [GL];rfl) (by omega) (by omega) ?_;intro r5 T5 w5 g5 l5 s5 e5;refine ⟨X.d.held.length - (i + 1),by omega,i + 1,r5,T5,by rw [AK (by omega)],rfl,by omega,g5,?_,e5⟩;rw [List.take_add_one,hx,List.map_append,← List.append_assoc];exact l5
 ·rw [decide_eq_false (by omega)];simp only [Ae];rw [List.take_of_length_le (by omega)] at l2;have hn:(X.d.wait.map (·.Ah) ++ X.d.held.map (·.Ah)).Nodup:=by
   have:=PX.nodup hp;rw [show X.p.wait.map (·.Ah)=X.d.wait.map (·.Ah) from by show (X.d.wait.map Wt.p).map _=_;rw [List.map_map];rfl,show X.p.held.map (·.Ah)=X.d.held.map (·.Ah) from by show (X.d.held.map Hd.p).map _=_;rw [List.map_map];rfl] at this;exact this
  have hq:Dk (X.d.wait.map (·.Ah) ++ X.d.held.map (·.Ah))=Dk (X.p.wait.map (·.Ah) ++ X.p.held.map (·.Ah)):=by
   rw [show X.p.wait.map (·.Ah)=X.d.wait.map (·.Ah) from by show (X.d.wait.map Wt.p).map _=_;rw [List.map_map];rfl,show X.p.held.map (·.Ah)=X.d.held.map (·.Ah) from by show (X.d.held.map Hd.p).map _=_;rw [List.map_map];rfl]
  have hsl:=JZ (l:=X.d.wait.map (·.Ah) ++ X.d.held.map (·.Ah));rw [List.length_append,List.length_map,List.length_map] at hsl;refine sort_k hk g2 l2 e2 (by rw [List.length_append,List.length_map,List.length_map];omega) hn ?_;intro w3 g3 l3 e3;obtain ⟨g4,i4,e4⟩:=Loc.AcO hk g3 l3 e3;generalize hT4:CG kt T2=T4 at *;rw [hq] at i4 hsl;unfold PS.CF at k;generalize hS:Dk (X.p.wait.map (·.Ah) ++ X.p.held.map (·.Ah))=S at *;have rl:r2.len=S.length:=i4.ok.len;refine ⟨fun n st w'=>∃ (i:Nat) (X1:Mc) (T1:Nat→Nat),st=((i:Int),())∧n=S.length - i∧i≤S.length∧A6 w' m T1 X1∧X1.p=X.p.asks (S.take i)∧Fix X X1∧Aq T4 T1 w3 w',⟨_,0,X,T4,rfl,rfl,by omega,g4,rfl,Fix.refl _,Aq.refl _ _⟩,?_⟩;rintro n _ w5 ⟨i,X5,T5,rfl,rfl,hi,g5,q5,f5,e5⟩;obtain ⟨a3,Ta3⟩:=e4.at ha Ta;obtain ⟨a5,Ta5⟩:=e5.at a3 Ta3;have e05:=e4.trans e5;dsimp only;by_cases hlt:i < S.length
  ·rw [decide_eq_true (by omega)];simp only [Af];obtain ⟨n0,hn0⟩:∃ n,S[i]?=some n:=⟨_,List.getElem?_eq_getElem hlt⟩;refine ldn (i4.Bm e5).ok hn0 ?_;simp only [sb,a5];have ol:X5.d.out.length≤90000:=by
    obtain ⟨o,h1,h2,_⟩:=Fl (S.take i) X.p;rw [SX q5,h1];show (X.p.out ++ o).length≤_;rw [List.length_append,h2,List.length_take,show X.p.out.length=X.d.out.length from List.length_map _];omega
   refine KD g5 ⟨7,0,0,0,0,0,0,0,n0,0,0,0,0,0,0,false,BA [],BA [],⟨none,0,0⟩,⟨none,0,0⟩,⟨none,0,0⟩,[],[],[]⟩ (mgz rfl rfl rfl rfl rfl rfl) (by omega) ?_;intro so6 T6 w6 g6 e6;refine ⟨S.length - (i + 1),by omega,i + 1,_,T6,by rw [AK (by omega)],rfl,by omega,g6,?_,f5.trans ⟨rfl,rfl,rfl,rfl⟩,e5.trans e6⟩;unfold PS.asks;rw [GZ _ hn0];show _=(X.p.asks (S.take i)).send _;rw [← q5];unfold PS.send Mc.p;dsimp only;rw [List.map_append];rfl
  ·rw [decide_eq_false (by omega)];simp only [Ae];rw [List.take_of_length_le (by omega)] at q5;refine BR X.p.under (fun J hJ=>?_) fun w6 k6=>?_
   ·simp only [sb,a5,g5.hd,Bs];unfold PS.under at hJ;rw [f5.bx];cases hx:X.d.bx with
    | none=>
     rw [show X.p.box=none from by show X.d.bx.map _=_;rw [hx];rfl] at hJ;simp only [Option.map_none,Option.isNone_none,Bool.not_true,sb];exact hJ _ (Aa.refl _ _)
    | some b=>
     rw [show X.p.box=some X.d.box.p from by show X.d.bx.map _=_;rw [hx];rfl] at hJ;have hb5:=g5.r.bo.ok b (by rw [f5.bx];exact hx);rw [f5.box] at hb5;simp only [Option.map_some,Option.isNone_some,Bool.not_false,sb,a5,g5.hd,Bs,f5.bx,hx,hb5,Gb];exact hJ _ (Aa.refl _ _)
   ·have g6:=g5.Ab k6;have a6:=k6.Aw a5;cases hu:X.p.under with
    | false=>
     rw [hu,if_neg (by simp)] at k;simp only [sb];exact k X5 T5 w6 g6 q5 f5.s (e05.trans (Aq.k0 k6))
    | true=>
     rw [hu,if_pos rfl] at k;simp only [sb,a6];obtain ⟨b,hb⟩:∃ b,X.d.bx=some b:=by
      unfold PS.under at hu;cases hx:X.d.bx with
      | none=>rw [show X.p.box=none from by show X.d.bx.map _=_;rw [hx];rfl] at hu;cases hu
      | some b=>exact ⟨b,rfl⟩
     refine Afv g6 (b:=b) (by rw [f5.bx];exact hb) (by rw [f5.box];exact hL b hb) ?_ ?_
     ·obtain ⟨o,h1,h2,_⟩:=Fl S X.p;rw [SX q5,h1];show (X.p.out ++ o).length≤_;rw [List.length_append,h2,show X.p.out.length=X.d.out.length from List.length_map _];omega
     ·intro X7 T7 w7 g7 q7 f7 e7;exact k X7 T7 w7 g7 (by rw [q7,q5]) (f5.s.trans f7.s) ((e05.trans (Aq.k0 k6)).trans e7)
theorem AhO {w:World} {m:Nat} {T:Nat→Nat} {X:Mc} (h:A6 w m T X) (hJ:PX X.p) (hL:∀ b,X.d.bx=some b→X.d.box.load.length≤1000000) {K:TR [.ag [.sl,.sl,.b],.sc (.i .i64)]→Pr}
  (k2:∀ so sw out writes X2 T2 w2 lb,A6 w2 m T2 X2→X2.p=X.p.clear.CF.clear→out.map Mg.p=X.p.clear.CF.out→writes=X.p.clear.CF.writes→Bq T2 (MI so sw out writes) w2→Dl X X2→Aq T T2 w w2→K ((so,sw,lb,()),0,()) w2) :
  Cl Pg 18 [.pointer (some ⟨m,0,none⟩)] true [.ag [.sl,.sl,.b],.sc (.i .i64)] K w:=by
 refine KK _ ?_;unfold It;dsimp only [Vv,SL,KV,Vp,LW];refine Ad fun a w1 h1 n1 q1=>?_;refine Ad fun e w3 h3 n3 q3=>?_;have g1:=h.Ab q1;have Ta:T a=0:=h.new n1;obtain ⟨g3,s3,e3⟩:=g1.own q3 n3 (Av h3);obtain ⟨a3,Ta3⟩:=e3.at h1 Ta;have ev3:Aq T (Dz e T) w w3:=(Aq.k0 q1).trans e3;generalize hT3:Dz e T=T3 at *;have Te:T3 e=11:=by rw [← hT3];exact if_pos rfl
 obtain ⟨hQ,hQM,_⟩:=hJ.CF;have ze:w.heap.size≤e:=by have:=q1.size;omega
 simp only [sb,a3];refine AeF (Q:=X.p.clear.CF) g3 (Ru hJ.j.ok hJ.j.ct).sd hJ.j.rg.shr hQ.j.ok.er hQ.j.rg.shr (Ru hQ.j.ok hQ.j.ct) ?_ ?_
 ·intro w6 T6 X6 h6 q6 x6 e6 K1 hK1;obtain ⟨a6,Ta6⟩:=e6.at a3 Ta3;have hX6:PX X6.p:=by rw [q6];exact hJ.clear
  refine AgQ h6 hX6.j.ok hX6.j.ct.hw ?_ ?_ a6 Ta6 ?_
  ·have:X6.p.out=[]:=by rw [q6];rfl
   have:=congrArg List.length this;rw [show X6.p.out=X6.d.out.map Mg.p from rfl,List.length_map] at this;rw [this];simp
  ·intro b hb;have e1:X6.p.box=X.p.box:=by rw [q6];rfl
   have e2:X6.p.box=some X6.d.box.p:=by show X6.d.bx.map _=_;rw [hb];rfl
   cases hx:X.d.bx with
   | none=>rw [show X.p.box=none from by show X.d.bx.map _=_;rw [hx];rfl,e2] at e1;cases e1
   | some c=>
    rw [show X.p.box=some X.d.box.p from by show X.d.bx.map _=_;rw [hx];rfl,e2] at e1;injection e1 with e1;have:X6.d.box.load=X.d.box.load:=congrArg PB.load e1;rw [this];exact hL c hx
  ·intro X7 T7 w7 h7 q7 x7 e7;refine hK1 X7 T7 w7 h7 ?_ x7 e7;rw [q7,q6]
 ·intro so sw out writes X7 T7 w7 h7 q7 ho hw i7 x7 e7;obtain ⟨d7,Td7⟩:=e7.Ql h3 Te;refine Mf d7 rfl rfl rfl fun w8 h8 q8=>?_;obtain ⟨g8,s8⟩:=h7.LK Td7 q8;simp only [sb,h8];exact k2 so sw out writes X7 T7 w8 _ g8 q7 ho hw (i7.kt (by decide) s8) x7 (G8 (ev3.trans e7) q8 (by simp;exact ze))
open Go Go.Sx
theorem Adv (o:Op) {w:World} {K:TR [.sc .b]→Pr} (k:∀ w',Aa [] w w'→K (fWr o.kind,()) w'):Cl Pg 90 [.agg #[.int .i64 o.kind,.string o.key,.string o.value,.string o.lo,.string o.hi,.int .i64 o.AD]] false [.sc .b] K w:=by
 refine IX _ _ _ _ _ _ ?_;unfold G0;dsimp only [Ar,Li];refine Ad fun a w1 h1 n1 k1=>?_;unfold fWr at k;simp only [sb,h1];cases c1:((o.kind:Int) == 2) with
 | true=>rw [c1] at k;exact k w1 k1
 | false=>
  rw [c1,Bool.false_or] at k;simp only [sb,h1];cases c2:((o.kind:Int) == 3) with
  | true=>rw [c2] at k;exact k w1 k1
  | false=>
   rw [c2,Bool.false_or] at k;simp only [sb,h1];exact k w1 k1
theorem AgL (o:Op) (ho:ER o=0) {w:World} {K:TR [.ag [.s,.s],.sc (.i .i64)]→Pr} (k:∀ w',Aa [] w w'→K (((Dp o).1,(Dp o).2,()),0,()) w'):Cl Pg 89 [.agg #[.int .i64 o.kind,.string o.key,.string o.value,.string o.lo,.string o.hi,.int .i64 o.AD]] true [.ag [.s,.s],.sc (.i .i64)] K w:=by
 refine KX _ _ _ _ _ _ ?_;unfold I6;dsimp only [Ar,N6,AN,Ls,Tt,Vt];refine Ad fun a w1 h1 n1 k1=>?_;refine Ad fun b w2 h2 n2 k2=>?_;have h1:=k2.Aw h1;have k02:=Aj k1 k2;have nb:w.heap.size≤b:=by have:=k1.size;omega
 simp only [sb,h1];refine V4 o fun w3 k3=>?_;have k03:=Aj k02 k3;have a3:=k3.Aw h1;have b3:=k3.Aw h2;rw [ho];simp only [show ((0:Int) != 0)=false from rfl,sb,a3];unfold Dp at k;cases hk:seq o.key (BA []) with
 | true=>
  rw [hk] at k;simp only [Bool.not_true,sb,a3];refine KI b3 fun w4 k4=>?_;exact k w4 (BT k03 k4 nb)
 | false=>
  rw [hk] at k;simp only [Bool.not_false,sb,a3];refine ZW _ fun w4 k4=>?_;rw [XQ ho hk];simp only [if_true];refine KI (k4.Aw b3) fun w5 k5=>?_;exact k w5 (BT (Aj k03 k4) k5 nb)
theorem YC {w:World} {s:Sl} {l:List Op} (h:A1 BQ w s l) (hN:l.length≤100000) (ho:A9 l=0) {K:TR [.sc .sl,.sc (.i .i64)]→Pr}
  (k:∀ r w',Bh YT w' r (l.map AI)→(∀ x∈Ai r,w.heap.size≤x)→Aa [] w w'→K (r,0,()) w'):Cl Pg 40 [.slice s.p s.len s.cap] true [.sc .sl,.sc (.i .i64)] K w:=by
 have hl:=h.len;refine Kq _ ?_;unfold Hg;dsimp only [Ar,SG,N6,AN,Ls,Gh,Tt,Vs,Vt,Gx];refine AdL h (by omega) fun w0 k0=>?_;rw [ho];simp only [show ((0:Int) != 0)=false from rfl,Ae];refine ⟨fun n st w'=>∃ (r:Sl) (i:Nat),st=(r,(i:Int),())∧n=l.length - i∧i≤l.length∧Bh YT w' r ((l.take i).map AI)∧(∀ x∈Ai r,w.heap.size≤x)∧Aa [] w w',⟨_,⟨none,0,0⟩,0,rfl,rfl,by omega,AE.nil _ _,by simp [Ai],k0⟩,?_⟩;rintro n _ w1 ⟨r,i,rfl,rfl,hi,h1,f1,k1⟩;dsimp only;by_cases hlt:i < l.length
 ·rw [decide_eq_true (by omega)];simp only [Af];obtain ⟨o,hx⟩:∃ o,l[i]?=some o:=⟨_,List.getElem?_eq_getElem hlt⟩;have ho1:ER o=0:=Bu.1 ho o (List.mem_of_getElem? hx);refine Sn (h.Ab k1) hx ?_;refine Sq o fun b w2 h2 n2 k2=>?_;simp only [sb,h2];refine AgL o ho1 fun w3 k3=>?_;have h3:=k3.Aw h2;dsimp only;refine DS ⟨(Dp o).1,(Dp o).2⟩ fun c w4 h4 n4 k4=>?_;have h34:=k4.Aw h3;simp only [sb,h4,h34];refine Adv o fun w5 k5=>?_;have k15:Aa [] w1 w5:=Aj (Aj (Aj k2 k3) (Aj k4 (Am w4))) k5;have c5:=k5.Aw (show w4.drew.heap[c]?=_ from h4);simp only [sb,c5];refine ⟨by trivial,?_⟩;refine Ad fun d w6 h6 n6 k6=>?_;have k16:=Aj k15 k6;have h16:Bh YT w6 r _:=h1.Ab k16;have ll:=h16.BY;rw [List.length_map,List.length_take] at ll;refine AE.app (ρ:=YT) (new:=[AI o]) h16 (by rw [List.flatMap_singleton];exact BI (ρ:=YT) (x:=AI o) h6) rfl (by rw [Acf];rfl) (by omega) (by omega) ?_;intro r7 w7 h7 k7 f7;refine ⟨l.length - (i + 1),by omega,r7,i + 1,by rw [AK (by omega)],rfl,by omega,?_,fun x hx=>?_,Ky (Aj k1 k16) k7 f1⟩
  ·rw [List.take_add_one,hx,List.map_append];exact h7
  ·rcases f7 x hx with h' | h'
   ·exact f1 x h'
   ·have:=(Aj k1 k16).size;omega
 ·rw [decide_eq_false (by omega)];simp only [Ae];rw [List.take_of_length_le (by omega)] at h1;exact k r w1 h1 f1 k1
set_option maxHeartbeats 1000000 in
theorem Ag1 {w:World} {s t:Sl} {a b:List Op} (ha:A1 BQ w s a) (hb:A1 BQ w t b) (la:a.length≤1000) (lb:b.length≤1000) (oa:A9 a=0) (ob:A9 b=0) {m n:Int} (hmn:m ≠ n) (hc:∀ o∈a,∀ q∈b,B8 (G4 m (AI o)) (G4 n (AI q))=false) {K:TR [.sc .b]→Pr} (k:∀ w',Aa [] w w'→K (false,()) w'):Cl Pg 19 [.slice s.p s.len s.cap,.slice t.p t.len t.cap] false [.sc .b] K w:=by
 refine JJ _ _ ?_;unfold HJ;dsimp only [Lb,Ls,UC,Acq,Tt,Vs,Vt,AcR];refine YC ha (by omega) oa ?_;intro r1 w1 h1 f1 k1;refine YC (hb.Ab k1) (by omega) ob ?_;intro r2 w2 h2 f2 k2;have h12:Bh YT w2 r1 _:=h1.Ab k2;have l1:=h12.BY;have l2:=h2.BY;rw [List.length_map] at l1 l2;have k02:=Aj k1 k2;refine ⟨fun n st w'=>∃ (i:Nat),st=(false,(i:Int),())∧n=a.length - i∧i≤a.length∧Aa [] w2 w',⟨_,0,rfl,rfl,by omega,Aa.refl _ _⟩,?_⟩;rintro n0 _ w3 ⟨i,rfl,rfl,hi,k3⟩;dsimp only;by_cases hlt:i < a.length
 ·rw [decide_eq_true (by omega)];simp only [Af];obtain ⟨o,ho⟩:∃ o,a[i]?=some o:=⟨_,List.getElem?_eq_getElem hlt⟩;have hom:=List.mem_of_getElem? ho;refine SZ (h12.Ab k3).C6 (x:=AI o) (by rw [List.getElem?_map,ho];rfl) ?_;refine Yp (AI o) fun c w4 h4 n4 k4=>?_;have k24:=Aj k3 k4;refine ⟨fun n st w'=>∃ (j:Nat),st=(false,(j:Int),())∧n=b.length - j∧j≤b.length∧Aa [] w4 w',⟨_,0,rfl,rfl,by omega,Aa.refl _ _⟩,?_⟩;rintro n1 _ w5 ⟨j,rfl,rfl,hj,k5⟩;have k25:=Aj k24 k5;have h45:=k5.Aw h4;dsimp only;by_cases hjl:j < b.length
  ·rw [decide_eq_true (by omega)];simp only [Af];obtain ⟨q,hq⟩:∃ q,b[j]?=some q:=⟨_,List.getElem?_eq_getElem hjl⟩;have hqm:=List.mem_of_getElem? hq;refine SZ (h2.Ab k25).C6 (x:=AI q) (by rw [List.getElem?_map,hq];rfl) ?_;refine Yp (AI q) fun d w6 h6 n6 k6=>?_;have h46:=k6.Aw h45;simp only [sb,h6,h46,A5,Nat.reduceAdd];refine AfK _ _ _ _ fun z w7 k7=>?_;obtain ⟨z1,z2,⟨⟩⟩:=z;dsimp only;refine DS ⟨z1,z2⟩ fun y w8 h8 n8 k8=>?_;have k68:=Aj k7 k8;have hw:=hc o hom q hqm;unfold B8 G4 at hw;simp only [show (m != n)=true from by simpa using hmn,Bool.true_and] at hw;refine BR false (fun J hJ=>?_) fun w9 k9=>?_
   ·cases hm:Bw (AI o).lo (AI o).hi (AI q).lo (AI q).hi with
    | false=>simp only [sb];exact hJ _ (Aa.refl _ _)
    | true=>
     rw [hm,Bool.true_and,Bool.or_eq_false_iff] at hw;have h48:=k68.Aw h46;have h68:=k68.Aw h6;simp only [sb,h48,hw.1,h68,hw.2];exact hJ _ (Aa.refl _ _)
   ·simp only [sb];exact ⟨b.length - (j + 1),by omega,j + 1,by rw [AK (by omega)],rfl,by omega,Aj (Aj (Aj k5 k6) k68) k9⟩
  ·rw [decide_eq_false (by omega)];simp only [Ae];exact ⟨a.length - (i + 1),by omega,i + 1,by rw [AK (by omega)],rfl,by omega,k25⟩
 ·rw [decide_eq_false (by omega)];simp only [Ae];exact k w3 (Aj k02 k3)
def Cp (P:PS):Prop:=∀ b,P.box=some b→b.load.length≤100
theorem De {P Q:PS} (h:Cp P) (e:Q.box=P.box):Cp Q:=fun b hb=>h b (by rw [← e];exact hb)
theorem JC {P:PS} {b':PB} (e:b'.load.length≤100):Cp { P with box:=some b' }:=by
 intro c hc;have hc:some b'=some c:=hc;injection hc with hc;subst hc;exact e
theorem AcS (M:List Pa) (b:PB):(Db M b).2.length≤12:=by
 have h1:=OL M b;unfold Db;split
 ·have:Pz (EV M b) (CO M b)≤6:=Nat.le_trans (Nat.min_le_left _ _) (by omega);rw [List.length_append,List.length_take];omega
 ·show (CO M b).length≤12;omega
theorem OY {P:PS} (h:Cp P):Cp P.Fa:=by
 unfold PS.Fa;split
 ·exact h
 ·rename_i b hb;split
  ·exact h
  ·split
   ·have:=AcS P.M b;exact De (Q:=P.My b) (JC (P:=P) (b':={ (Db P.M b).1 with load:=(Db P.M b).2,under:=true }) (by show (Db P.M b).2.length≤100;omega)) rfl
   ·split
    ·intro c hc;cases hc
    ·exact h
theorem ZX {P:PS} (h:Cp P) (o:Op):Cp (P.behind o):=by
 unfold PS.behind;split
 ·exact h
 ·rename_i b hb;split
  ·exact JC (h b hb)
  ·exact h
theorem Zm:∀ (ops:List Op) {P:PS},Cp P→Cp (P.writeAll ops)
 | [],P,h=>h
 | o :: l,P,h=>Zm l (ZX (P:={ P with writes:=P.writes ++ [o] }) h o)
theorem AaG {P:PS} (hP:PX P) (h:Cp P) {x:PM} (n:ZM x) (hb:P.OU x=false):Cp (P.CA x):=by
 have hc:=hP.clear;have hl:=hc.j.left;have h0:Cp P.clear:=h;have o0:P.clear.out.length=0:=rfl;unfold PS.CA;split
 ·rename_i h3;unfold PS.OU at hb;simp only [Bool.or_eq_false_iff,Bool.not_eq_false'] at hb;have hp:=hb.1;rw [ZI (.inl h3)] at hp;unfold Q9 BW at hp;rw [if_pos h3] at hp;simp only [Bool.and_eq_true,decide_eq_true_iff] at hp;exact De h0 (hc.work rfl n.Ah n.low (Ao:=x.Ao) hp.1.2.2.2.2.2 hp.1.2.2.2.2.1 hp.1.2.2.2.1).2.2
 ·split
  ·have ha:Bj (P.clear.Fh x.Ah):=hc.j.ok.Fh x.Ah (by omega);have hf:=Vg hc.j;have fs:∀ {Q:PS},Bj Q→Q.fin.length < 100000→Cp Q→Cp (Q.finish x.Ah):=by
    intro Q hq hfq hQ;have s:=Oy hq x.Ah hfq;have e1:(Q.BV x.Ah).box=Q.box:=by unfold PS.BV;split <;> rfl
    exact De hQ (s.box.trans e1)
   unfold PS.decide;cases hh:P.clear.TJ x.Ah with
   | true=>
    rw [if_pos rfl];obtain ⟨y,hy,hyt⟩:=MN hc.j.ok hh;rw [hy];dsimp only;obtain ⟨v1,v2⟩:=hc.j.ok.hv y (List.mem_of_getElem? hy);have hwl:=OZ x.flag y.ops;have hu:Bj ((P.clear.Fh x.Ah).AO (P.clear.DY x.Ah)):=ha.AO _;have w0:P.clear.writes.length=0:=rfl;have hwa:Bj (((P.clear.Fh x.Ah).AO (P.clear.DY x.Ah)).writeAll (PS.Mn x.flag y.ops)):=hu.writeAll (OC v1) (by show P.clear.writes.length + _≤1000;omega);have e:=Bz (PS.Mn x.flag y.ops) ((P.clear.Fh x.Ah).AO (P.clear.DY x.Ah));exact fs hwa (by rw [e];exact hf) (Zm _ (P:=(P.clear.Fh x.Ah).AO (P.clear.DY x.Ah)) h0)
   | false=>
    rw [if_neg (by simp)];cases hwi:P.clear.Pb x.Ah with
    | true=>
     rw [if_pos rfl];obtain ⟨y,hy,hyt⟩:=D9 hc.j.ok hwi;obtain ⟨hu,_⟩:=ha.Ay (i:=P.clear.Ce x.Ah) hy;exact fs hu hf h0
    | false=>
     rw [if_neg (by simp)];exact h0
  ·split
   ·have hd:∀ Q:PS,Cp Q→Cp (Q.DE x.move):=by
     intro Q hq;unfold PS.DE;split
     ·exact hq
     ·split
      ·intro c hc;cases hc
      ·exact hq
    have ht:∀ Q:PS,(Q.QD x.move).box=Q.box:=fun Q=>by unfold PS.QD;split <;> rfl
    have hi:∀ (Q:PS) rs,(Q.Kl x.move rs).box=Q.box:=fun Q rs=>by
     unfold PS.Kl;split
     ·show (Q.Cy rs _).box=_;rw [(CS _ rs Q).1]
     ·rfl
    have hw:∀ (Q:PS) rs hs,(Q.FB rs hs).box=Q.box:=fun Q rs hs=>by rw [(Ef hs rs Q).1]
    refine De (P:=P.clear.mapped x) ?_ rfl;unfold PS.mapped;split
    ·unfold PS.Ko;exact De (hd _ (De h0 rfl:Cp (P.clear.W4 x))) (by rw [hw,hi,ht])
    ·exact h0
   ·split
    ·unfold PS.Lr;have h1:Cp ((P.clear.boxed x).closing x.flag):=by
      have h1:Cp (P.clear.boxed x):=by
       unfold PS.boxed;split
       ·exact JC (by simp [PS.XF])
       ·exact h0
      unfold PS.closing;split
      ·exact h1
      ·rename_i b hb;exact JC (h1 b hb)
     split
     ·split
      ·exact h0
      ·unfold PS.QC;split
       ·exact De (OY h1) rfl
       ·exact OY h1
     ·exact h0
    ·split
     ·have h1:(P.clear.opens x).box=P.clear.box:=by unfold PS.opens;split <;> rfl
      have h2:((P.clear.opens x).enters x).box=P.clear.box:=by unfold PS.enters;split <;> exact h1
      unfold PS.NW;split
      ·split
       ·exact h0
       ·split
        ·exact De h0 h1
        ·exact De h0 h2
      ·exact h0
     ·unfold PS.KB;split
      ·exact h0
      ·rename_i b hb;split
       ·exact OY (JC (h0 b hb))
       ·exact h0
open Go Go.Sx
structure AtA (w:World) (m BD:Nat) (T:Nat→Nat) (X:Mc):Prop where
 g:A6 w m T X
 J:PX X.p
 L:Cp X.p
 se:X.d.BD=BD
 hn:BD ∉ rb X.d.sM
theorem AtA.Ab {w w':World} {m BD:Nat} {T:Nat→Nat} {X:Mc} (h:AtA w m BD T X) (k:Aa [] w w'):AtA w' m BD T X:=⟨h.g.Ab k,h.J,h.L,h.se,h.hn⟩
theorem PX.store {P:PS} (h:PX P) {M:List Pa} (hM:AU M) (hN:M.length≤200000):PX { P with M:=M }:=
 ⟨h.j.store hM hN,⟨h.t.l,h.t.n,h.t.f.eq rfl rfl (fun _ h=>h)⟩,h.c,h.ow,h.bx⟩
theorem Afw {w:World} {m BD:Nat} {T:Nat→Nat} {X:Mc} (h:AtA w m BD T X) {sw:Sl} {writes:List Op} (hw:A1 BQ w sw writes) (ho:A9 writes=0) (hl:X.d.M.length + writes.length≤200000) {J:Pr}
  (k:∀ sM w',AtA w' m BD T { X with d:={ X.d with sM:=sM,M:=(Bd X.d.M writes).1 } }→Aa [BD] w w'→J w') :
  (Cl Pg 12 [(.slice X.d.sM.p X.d.sM.len X.d.sM.cap),(.slice sw.p sw.len sw.cap)] true [.sc .sl,.sc .sl,.sc (.i .i64)] fun r=>St ⟨BD,0,none⟩ (.slice r.1.p r.1.len r.1.cap) J) w:=by
 obtain ⟨h1,h2⟩:=h.g.r.RF.ok;have hM:AU X.d.M:=h.J.j.ok.mp;have hlen:=He X.d.M writes;refine Af5 h2 hw (by omega) (by omega) ?_ ?_
 ·intro _ _ r1 r2 rs w1 q1 q2 q3 q4 q5 k1;have s1:=k1.Aw h1;rw [h.se] at s1;refine Ax s1 0 _ rfl (by simp) fun w2 s2 k2=>?_;simp only [Ck] at s2;have hn:∀ b∈rb r1,T b=0:=fun b hb=>h.g.new (q5 b hb);have hs:∀ b∈rb r1,b ≠ BD:=fun b hb e=>by
   have:=(h.g.r.RF.tag X.d.BD rfl).2;rw [h.se] at this;rw [e] at hb;rw [hn BD hb] at this;cases this
  have g1:=h.g.Ab k1;have hst:X.d.BD=BD:=h.se;refine k r1 w2 ⟨?_,h.J.store (Nq hM ho) (Nat.le_trans hlen.1 hl),h.L,h.se,fun hb=>hs BD hb rfl⟩ ((k1.mono (by simp)).trans k2 (fun _ hx=>.inl hx));exact g1.st (by rw [hst];exact k2) (by rw [hst];exact s2) (q1.keeps k2 fun b hb=>by simpa using hs b hb) hn
 ·intro e w1 he _ _;rcases he with he | he
  ·exact absurd hM he
  ·exact absurd ho he
theorem PX0 {M:List Pa} (hM:AU M) (hN:M.length≤200000):PX (P0 M):=by
 have c:CX (P0 M).c:=⟨⟨by show (1:Int)≤1;decide,by show (1:Int)≤4;decide⟩,(PJ0 hM hN).rg.c,rfl,Tw,Tw,.inr (by kernel_rfl),.inr (by kernel_rfl)⟩;exact ⟨PJ0 hM hN,⟨⟨(fun x hx=>by cases hx),(fun x hx=>by cases hx),(fun x hx=>by cases hx),(fun x hx=>by cases hx),(fun x hx=>by cases hx),List.nodup_nil⟩,(fun x hx=>by cases hx),⟨(fun x hx=>by cases hx),(fun x hx=>by cases hx)⟩⟩,c,(by show Be Adn=true;kernel_rfl),(fun b hb=>by cases hb)⟩
def Z8 (P:PS) (s:TS):PS:=⟨{ P.c with Au:=P.c.Au + 1,HA:=false,e:=0 },P.Ac,P.held,P.fin,[],s,[],[],[],none,P.M⟩
theorem PX.AkS {P:PS} (h:PX P) {s:TS} (hs:IP s∧s.wait=[]∧F1 [] P.held s (Dh []) []) (hb:DR (P.c.Au + 1)):PX (Z8 P s):=by
 have p:=h.j.ok;have ct:=h.j.ct;have hl:(Z8 P s).left=0:=by unfold PS.left Z8;rw [hs.2.1];rfl
 have c:=h.c;refine ⟨⟨⟨List.Pairwise.nil,p.hd,(fun x hx=>by cases hx),p.fn,hs.1,(fun x hx=>by cases hx),p.hv,p.mp,p.mn,rfl,Nat.zero_le _,rfl,by rw [hl];exact Nat.zero_le _,by have h6:=ct.hw;show P.held.length + 0≤1000;omega,p.fl⟩,⟨⟨hb,c.r.CZ,c.r.Ao,c.r.move,c.r.low,c.r.frozen,c.r.AJ,c.r.CD,c.r.Bo⟩,h.j.rg.held,(fun x hx=>by cases hx),h.j.rg.fin⟩,⟨by have h6:=ct.hw;show P.held.length + 0≤6;omega,by have h6:=ct.all;show P.held.length + 0 + P.fin.length≤64;omega,ct.ow⟩,rfl⟩,⟨hs.2.2,(fun x hx=>by cases hx),⟨h.t.f.hf,(fun x hx=>by cases hx)⟩⟩,⟨c.id,⟨hb,c.r.CZ,c.r.Ao,c.r.move,c.r.low,c.r.frozen,c.r.AJ,c.r.CD,c.r.Bo⟩,rfl,c.ir,c.cr,c.iz,c.cz⟩,h.ow,(fun b hb=>by cases hb)⟩
def VOk (out:List PM) (H:List PH):Prop:=∀ z∈out,z.kind=4→(z.code=3 ↔ ∃ h∈H,h.Ah=z.Ah)
theorem VOk.nil (H:List PH):VOk [] H:=fun z hz=>by cases hz
theorem AiE {P:PS} (hv:∀ z∈P.out,z.kind=4→z.code=3→∃ h∈P.held,h.Ah=z.Ah) (hn:VN P):VOk P.out P.held:=fun z hz h4=>
 ⟨hv z hz h4,fun ⟨h,hh,e⟩=>Classical.byContradiction fun h3=>(hn z hz h4 h3).1 h hh e⟩
theorem AcF {P:PS} (h:PX P) {x:PM} (n:ZM x) (hb:P.OU x=false):VOk (P.CA x).out (P.CA x).held:=by
 obtain ⟨hQ,_,_⟩:=h.taken n hb;refine AiE (fun z hz h4 h3=>?_) hQ.t.n;have hc:=h.clear;have noV:∀ {Q:PS} {a b:Nat},AA P.clear Q a b→z∈Q.out→False:=fun {Q a b} s hz=>by
  obtain ⟨l,e1,_,e3⟩:=s.out;rw [e1] at hz;rcases List.mem_append.1 hz with hz | hz
  ·cases hz
  ·exact e3 z hz h4
 have hb2:=hb;unfold PS.OU at hb2;simp only [Bool.or_eq_false_iff,Bool.not_eq_false'] at hb2;obtain ⟨hp,h1d,hk⟩:=hb2;by_cases hk35:x.kind=3∨x.kind=5
 ·have hbad:P.bad x=false:=by
   unfold PS.bad;rw [← ZI (hk35.elim .inl (fun h=>.inr (.inl h))),hp,h1d,hk];rfl
  have e:P.CA x=P.taken x:=by
   unfold PS.CA PS.taken;rcases hk35 with h | h
   ·rw [if_pos h,if_pos h]
   ·rw [if_neg (by omega),if_pos h,if_neg (by omega)]
  rw [e] at hz ⊢;obtain ⟨g,hg,e1,_⟩:=VI.taken h.j hk35 hbad z hz h4 h3;exact ⟨g,hg,e1⟩
 ·exfalso;unfold PS.CA at hz;rw [if_neg (fun h=>hk35 (.inl h)),if_neg (fun h=>hk35 (.inr h))] at hz;by_cases h8:x.kind=8
  ·rw [if_pos h8] at hz;unfold pmA BW at hp;rw [if_neg (by omega),if_neg (by omega),if_neg (by omega),if_neg (by omega),if_neg (by omega),if_neg (by omega),if_neg (by omega),if_pos h8] at hp;simp only [Bool.and_eq_true] at hp;exact noV (PK P.clear n.CZ n.Ao n.move hp.1.2.2.2) hz
  ·rw [if_neg h8] at hz;by_cases h10:x.kind=10
   ·rw [if_pos h10] at hz;unfold pmA BW at hp;rw [if_neg (by omega),if_neg (by omega),if_neg (by omega),if_neg (by omega),if_neg (by omega),if_neg (by omega),if_neg (by omega),if_neg (by omega),if_neg (by omega),if_pos h10] at hp;simp only [Bool.and_eq_true] at hp;have hr:Da x.FN x.G6=true:=by
     have:=hp.1.2.2.2;unfold YG at this;rw [Bool.and_eq_true] at this;exact this.2
    exact noV (PU P.clear n.move hr) hz
   ·rw [if_neg h10] at hz;by_cases h11:x.kind=11
    ·rw [if_pos h11] at hz;unfold pmA BW at hp;rw [if_neg (by omega),if_neg (by omega),if_neg (by omega),if_neg (by omega),if_neg (by omega),if_neg (by omega),if_neg (by omega),if_neg (by omega),if_neg (by omega),if_neg (by omega),if_pos h11] at hp;simp only [Bool.and_eq_true] at hp;have hl:=hp.1.2.2.2;unfold WG at hl;simp only [Bool.and_eq_true,decide_eq_true_iff] at hl;obtain ⟨_,⟨l6,lo⟩,lr,_⟩:=hl;exact noV (Rt P.clear n.move n.attempt lr lo) hz
    ·rw [if_neg h11] at hz;exact noV (Ps P.clear x) hz
theorem Aae {P:PS} (h:PX P):VOk P.clear.CF.out P.clear.CF.held:=by
 have noV:∀ {Q:PS} {a b:Nat},AA P.clear Q a b→∀ z∈Q.out,z.kind ≠ 4:=fun {Q a b} s z hz=>by
  obtain ⟨l,e1,_,e3⟩:=s.out;rw [e1] at hz;rcases List.mem_append.1 hz with hz | hz
  ·cases hz
  ·exact e3 z hz
 intro z hz h4;exfalso;unfold PS.CF at hz;split at hz
 ·exact noV ((OD P.clear _).trans (Mq _)) z hz h4
 ·exact noV (OD P.clear _) z hz h4
theorem YH {P:PS} (h:Cp P):Cp P.clear.CF:=by
 have hb:∀ l,(P.clear.asks l).box=P.box:=fun l=>by obtain ⟨o,h1,_⟩:=Fl l P.clear;rw [h1];rfl
 refine De h ?_;unfold PS.CF;split
 ·unfold PS.DV;split
  ·exact hb _
  ·exact hb _
 ·exact hb _
theorem JK {P:PS}:(∀ x,(P.No x).c.Au=P.c.Au)∧(∀ x,(P.NW x).c.Au=P.c.Au)∧P.Fa.c.Au=P.c.Au:=by
 have hw:∀ (Q:PS) r q,(Q.Cy r q).c=Q.c:=fun Q r q=>by rw [(CS q r Q).1]
 refine ⟨fun x=>?_,fun x=>?_,?_⟩
 ·have h1:∀ Q:PS,(Q.DE x.move).c.Au=Q.c.Au:=fun Q=>by unfold PS.DE;split;rfl;split <;> rfl
  have h2:∀ Q:PS,(Q.QD x.move).c.Au=Q.c.Au:=fun Q=>by unfold PS.QD;split <;> rfl
  have h3:∀ (Q:PS) rs,(Q.Kl x.move rs).c.Au=Q.c.Au:=fun Q rs=>by
   unfold PS.Kl;split
   ·show ((Q.Cy rs _).c).Au=_;rw [hw]
   ·rfl
  have h4:∀ (Q:PS) rs hs,(Q.FB rs hs).c.Au=Q.c.Au:=fun Q rs hs=>by rw [(Ef hs rs Q).1]
  show (P.mapped x).c.Au=_;unfold PS.mapped;split
  ·unfold PS.Ko;rw [h4,h3,h2,h1];rfl
  ·rfl
 ·have h1:(P.opens x).c.Au=P.c.Au:=by unfold PS.opens;split <;> rfl
  have h2:((P.opens x).enters x).c.Au=P.c.Au:=by unfold PS.enters;split <;> exact h1
  unfold PS.NW;split
  ·split
   ·rfl
   ·split
    ·exact h1
    ·exact h2
  ·rfl
 ·unfold PS.Fa;split
  ·rfl
  ·split
   ·rfl
   ·split
    ·rfl
    ·split <;> rfl
theorem AaI {P:PS} (h:PX P) {x:PM} (n:ZM x) (hb:P.OU x=false):(P.CA x).c.Au=P.c.Au:=by
 have hc:=h.clear;have hl:=hc.j.left;have o0:P.clear.out.length=0:=rfl;have w0:P.clear.writes.length=0:=rfl;unfold PS.CA;split
 ·rename_i h3;unfold PS.OU at hb;simp only [Bool.or_eq_false_iff,Bool.not_eq_false'] at hb;have hp:=hb.1;rw [ZI (.inl h3)] at hp;unfold Q9 BW at hp;rw [if_pos h3] at hp;simp only [Bool.and_eq_true,decide_eq_true_iff] at hp;have hj:=hc.j.Bk n.low;have:=(U4 hj.ok x.Ah x.Ao hp.1.2.2.2.2.2 hp.1.2.2.2.2.1 (by rw [GP,Hj];omega)).1;show ((P.clear.Bk x.low).Du x.Ah x.Ao x.ops).c.Au=_;rw [this];unfold PS.Bk;split <;> rfl
 ·split
  ·rw [(Sh hc.j x.Ah x.flag (by omega) (by omega)).1];rfl
  ·split
   ·exact JK.1 x
   ·split
    ·unfold PS.Lr;have h1:((P.clear.boxed x).closing x.flag).c.Au=P.c.Au:=by
      have h1:(P.clear.boxed x).c.Au=P.c.Au:=by unfold PS.boxed;split <;> rfl
      unfold PS.closing;split <;> exact h1
     split
     ·split
      ·rfl
      ·unfold PS.QC;split
       ·exact JK.2.2.trans h1
       ·exact JK.2.2.trans h1
     ·rfl
    ·split
     ·exact JK.2.1 x
     ·unfold PS.KB;split
      ·rfl
      ·split
       ·exact JK.2.2
       ·rfl
theorem YI (P:PS):P.clear.CF.c.Au=P.c.Au:=by
 have hb:∀ l,(P.clear.asks l).c.Au=P.c.Au:=fun l=>by obtain ⟨o,h1,_⟩:=Fl l P.clear;rw [h1];rfl
 unfold PS.CF;split
 ·unfold PS.DV;split
  ·exact hb _
  ·exact hb _
 ·exact hb _
open Go Go.Sx
structure IV (w:World) (m st i:Nat) (w':World) (X:Mc) (T:Nat→Nat):Prop where
 A:AtA w' m st T X
 M:X.d.M.length≤(i + 1) * 1000
 row:AM X.p (24 * i)
 Au:0≤X.c.Au∧X.c.Au≤(i:Int) + 1
 hT:∀ b,T b ≠ 0→w.heap.size≤b
 kp:Aa [] w w'
theorem IV.Ab {w w1 w2:World} {m st i:Nat} {X:Mc} {T:Nat→Nat} (h:IV w m st i w1 X T) (k:Aa [] w1 w2):IV w m st i w2 X T:=⟨h.A.Ab k,h.M,h.row,h.Au,h.hT,Aj h.kp k⟩
theorem AaB {w w1 w2:World} {T T2:Nat→Nat} (h:∀ b,T b ≠ 0→w.heap.size≤b) (k:Aa [] w w1) (e:Aq T T2 w1 w2):(∀ b,T2 b ≠ 0→w.heap.size≤b)∧Aa [] w w2:=by
 refine ⟨fun b hb=>Nat.le_of_not_lt fun hlt=>?_,?_⟩
 ·have h0:T b=0:=Classical.byContradiction fun hn=>by have:=h b hn;omega
  exact hb ((e.tg b (by have:=k.size;omega) (.inl h0)).trans h0)
 ·exact ((k.FY (F:=fun _=>False) (by simp)).trans e.kp fun x hx=>.inr (h x hx.1)).SU
structure JV (w:World) (m st i d:Nat) (w':World) (X:Mc) (T:Nat→Nat) (so sw:Sl) (lb:Bool) (out:List Mg) (wr:List Op):Prop where
 A:AtA w' m st T X
 M:X.d.M.length≤(i + 1) * 1000
 row:AM X.p (24 * (i + 1))
 Au:0≤X.c.Au∧X.c.Au≤(i:Int) + 2
 hT:∀ b,T b ≠ 0→w.heap.size≤b
 kp:Aa [] w w'
 D:w'.heap[d]?=some (.cells #[.slice so.p so.len so.cap,.slice sw.p sw.len sw.cap,.bool lb] 52 (0,0))
 im:Bq T (MI so sw out wr) w'
 ow:A9 wr=0
 wl:wr.length≤1000
 ol:out.length≤20000
 vo:VOk (out.map Mg.p) X.p.held
theorem Ajy {T:Nat→Nat} {w:World}:Bq T (MI ⟨none,0,0⟩ ⟨none,0,0⟩ [] []) w:=
 Bq.NI fun w=>⟨A1.nil w,(fun x hx=>by cases hx),A1.nil w⟩
theorem ShN.sdn {d d':Sd} {n:Nat} {w:World} (h:ShN d d' n w) (hN:XU d):XU d':=by
 obtain ⟨n1,n2,n3,n4⟩:=hN;have e:=congrArg List.length h.held;rw [List.length_map,List.length_map] at e;refine ⟨by rw [h.Ac];exact n1,by omega,by rw [h.fin];exact n3,fun x hx=>?_⟩;have:x.p∈d.held.map Hd.p:=by rw [← h.held];exact List.mem_map.2 ⟨x,hx,rfl⟩
 obtain ⟨y,hy,e⟩:=List.mem_map.1 this;have:=n4 y hy;have e:y.ops=x.ops:=congrArg PH.ops e;rw [← e];exact this
theorem PX.sdN {X:Mc} (h:PX X.p):XU X.sd:=(Ru h.j.ok h.j.ct).sd
set_option maxHeartbeats 8000000 in
theorem AgU {w:World} {a:Nat} {d:Sd} (ha:w.heap[a]?=some (.cells (shA d) 41 (0,0))) (hS:Bh Fo w d.sh d.held) (hd:∀ x∈d.held,A1 BQ w x.so x.ops) (hv:∀ x∈d.held,A9 x.ops=0∧x.ops.length≤24) (hc:NC (d.held.map Hd.p)) (hp:(d.held.map Hd.p).Pairwise (fun a b=>a.Ah < b.Ah)) (hl:d.held.length≤1000) (q:Bool) {R:TR [.sc .b]→Pr} {J:Bool × Int × Unit→Pr} (k:∀ q' n w',Aa [] w w'→J (q',n,()) w') :
  (Lp (σ:=Bool × Int × Unit) (fun L45 s46=>
 Br (decide ((s46.2.1:Int) < ((d.sh.len:Nat):Int))) (
 Ix d.sh s46.2.1 2 fun a47=>
 A2 .u64 (a47.add 0) fun x48=>
 DN (a47.add 1) fun x49=>
 At #[(.int .u64 0),(.slice none 0 0)] 60 fun a50=>
 St (a50.add 0) (.int .u64 x48) <|
 St (a50.add 1) (.slice x49.p x49.len x49.cap) <|
 DN (Addr.add ⟨a,0,none⟩ 6) fun x51=>
 AY ((0:Int)≤s46.2.1∧s46.2.1≤((x51.cap:Nat):Int)) <|
 Lp (σ:=Bool × Int × Unit) (fun L52 s53=>
 Br (decide ((s53.2.1:Int) < ((((Int.toNat s46.2.1) - 0):Nat):Int))) (
 Ix ⟨(A7 x51.p x51.cap 0 2),((Int.toNat s46.2.1) - 0),(x51.cap - 0)⟩ s53.2.1 2 fun a54=>
 A2 .u64 (a54.add 0) fun x55=>
 DN (a54.add 1) fun x56=>
 At #[(.int .u64 0),(.slice none 0 0)] 60 fun a57=>
 St (a57.add 0) (.int .u64 x55) <|
 St (a57.add 1) (.slice x56.p x56.len x56.cap) <|
 DN (a50.add 1) fun x58=>
 DN (a57.add 1) fun x59=>
 Cl Pg 19 [(.slice x58.p x58.len x58.cap),(.slice x59.p x59.len x59.cap)] false [.sc .b] fun r60=>
 Br r60.1 (
 R (false,())) (
 L52 (s53.1,(An (s53.2.1 + 1)),()))) (
 L45 (s53.1,(An (s46.2.1 + 1)),()))) (s46.1,0,())) (
 J s46)) (q,0,())) w:=by
 have hsl:d.sh.len=d.held.length:=hS.BY;refine ⟨fun n stt w'=>∃ (g:Nat) (q:Bool),stt=(q,(g:Int),())∧n=d.held.length - g∧g≤d.held.length∧Aa [] w w',⟨_,0,q,rfl,rfl,by omega,Aa.refl _ _⟩,?_⟩;rintro n _ w1 ⟨g,q1,rfl,rfl,hg,k1⟩;dsimp only;by_cases hgl:g < d.held.length
 ·rw [decide_eq_true (by omega)];simp only [Af];obtain ⟨x,hx⟩:∃ x,d.held[g]?=some x:=⟨_,List.getElem?_eq_getElem hgl⟩;have hxm:=List.mem_of_getElem? hx;refine I0 (hS.C6.Ab k1) hx ?_;refine Lz x fun b w2 h2 n2 k2=>?_;have k02:=Aj k1 k2;simp only [sb,k02.Aw ha];have hcap:d.sh.len≤d.sh.cap:=hS.C6.cap;refine ⟨⟨by omega,by show (g:Int)≤((d.sh.cap:Nat):Int);omega⟩,?_⟩;have ht:=(hS.C6.Ab k02).drop (lo:=0) (hi:=g) (Nat.zero_le _) (by omega);rw [Int.toNat_natCast];have htl:((d.held.drop 0).take (g - 0)).length=g:=by simp;omega
  refine ⟨fun n stt w'=>∃ (j:Nat) (q:Bool),stt=(q,(j:Int),())∧n=g - j∧j≤g∧Aa [] w2 w',⟨_,0,q1,rfl,rfl,by omega,Aa.refl _ _⟩,?_⟩;rintro n _ w3 ⟨j,q3,rfl,rfl,hj,k3⟩;have k03:=Aj k02 k3;dsimp only;by_cases hjl:j < g
  ·rw [decide_eq_true (by omega)];simp only [Af];obtain ⟨y,hy⟩:∃ y,((d.held.drop 0).take (g - 0))[j]?=some y:=⟨_,List.getElem?_eq_getElem (by omega)⟩;have hy0:d.held[j]?=some y:=by
    rw [List.getElem?_take,if_pos (by omega),List.drop_zero] at hy;exact hy
   have hym:=List.mem_of_getElem? hy0;refine I0 (ht.Ab k3) hy ?_;refine Lz y fun c w4 h4 n4 k4=>?_;have k24:=Aj k3 k4;simp only [sb,h4,k24.Aw h2];have hne:x.Ah ≠ y.Ah:=by
    have h1:=List.pairwise_iff_getElem.1 hp j g (by rw [List.length_map];omega) (by rw [List.length_map];omega) hjl;rw [List.getElem_map,List.getElem_map] at h1;rw [List.getElem?_eq_getElem (by omega)] at hx hy0;injection hx with hx;injection hy0 with hy0;rw [hx,hy0] at h1;have h1:y.Ah < x.Ah:=h1;omega
   obtain ⟨v1,v2⟩:=hv x hxm;obtain ⟨u1,u2⟩:=hv y hym;have k04:=Aj k02 k24;refine Ag1 ((hd x hxm).Ab k04) ((hd y hym).Ab k04) (by omega) (by omega) v1 u1 hne (hc x.p (List.mem_map.2 ⟨x,hxm,rfl⟩) y.p (List.mem_map.2 ⟨y,hym,rfl⟩) hne) fun w5 k5=>?_;simp only [Ae];exact ⟨g - (j + 1),by omega,j + 1,q3,by rw [AK (by omega)],rfl,by omega,Aj k24 k5⟩
  ·rw [decide_eq_false (by omega)];simp only [Ae];exact ⟨d.held.length - (g + 1),by omega,g + 1,q3,by rw [AK (by omega)],rfl,by omega,k03⟩
 ·rw [decide_eq_false (by omega)];simp only [Ae];exact k q1 _ w1 k1
set_option maxHeartbeats 8000000 in
theorem Agm {w:World} {a e:Nat} {d:Sd} (ha:w.heap[a]?=some (.cells (shA d) 41 (0,0))) (hS:Bh Fo w d.sh d.held) {so sw:Sl} {lb:Bool} {out:List Mg} (hD:w.heap[e]?=some (.cells #[.slice so.p so.len so.cap,.slice sw.p sw.len sw.cap,.bool lb] 52 (0,0))) (hO:A1 Yz w so out) (hv:VOk (out.map Mg.p) (d.held.map Hd.p)) (hl:d.held.length≤1000) (ho:out.length≤20000) {R:TR [.sc .b]→Pr} {J:Bool × Int × Unit→Pr} {s1:Bool} (k:∀ n w',Aa [] w w'→J (s1,n,()) w') :
  (DN (Addr.add ⟨e,0,none⟩ 0) fun x61=>
 Lp (σ:=Bool × Int × Unit) (fun L62 s63=>
 Br (decide ((s63.2.1:Int) < ((x61.len:Nat):Int))) (
 Ix x61 s63.2.1 21 fun a64=>
 A2 .i64 (a64.add 0) fun x65=>
 A2 .i64 (a64.add 1) fun x66=>
 A2 .i64 (a64.add 2) fun x67=>
 A2 .i64 (a64.add 3) fun x68=>
 A2 .i64 (a64.add 4) fun x69=>
 A2 .i64 (a64.add 5) fun x70=>
 A2 .u64 (a64.add 6) fun x71=>
 A2 .u64 (a64.add 7) fun x72=>
 A2 .u64 (a64.add 8) fun x73=>
 A2 .u64 (a64.add 9) fun x74=>
 A2 .u64 (a64.add 10) fun x75=>
 A2 .u64 (a64.add 11) fun x76=>
 A2 .u64 (a64.add 12) fun x77=>
 A2 .u64 (a64.add 13) fun x78=>
 A2 .u64 (a64.add 14) fun x79=>
 E7 (a64.add 15) fun x80=>
 BU (a64.add 16) fun x81=>
 BU (a64.add 17) fun x82=>
 DN (a64.add 18) fun x83=>
 DN (a64.add 19) fun x84=>
 DN (a64.add 20) fun x85=>
 At #[(.int .i64 0),(.int .i64 0),(.int .i64 0),(.int .i64 0),(.int .i64 0),(.int .i64 0),(.int .u64 0),(.int .u64 0),(.int .u64 0),(.int .u64 0),(.int .u64 0),(.int .u64 0),(.int .u64 0),(.int .u64 0),(.int .u64 0),(.bool false),(.string (BA [])),(.string (BA [])),(.slice none 0 0),(.slice none 0 0),(.slice none 0 0)] 47 fun a86=>
 St (a86.add 0) (.int .i64 x65) <|
 St (a86.add 1) (.int .i64 x66) <|
 St (a86.add 2) (.int .i64 x67) <|
 St (a86.add 3) (.int .i64 x68) <|
 St (a86.add 4) (.int .i64 x69) <|
 St (a86.add 5) (.int .i64 x70) <|
 St (a86.add 6) (.int .u64 x71) <|
 St (a86.add 7) (.int .u64 x72) <|
 St (a86.add 8) (.int .u64 x73) <|
 St (a86.add 9) (.int .u64 x74) <|
 St (a86.add 10) (.int .u64 x75) <|
 St (a86.add 11) (.int .u64 x76) <|
 St (a86.add 12) (.int .u64 x77) <|
 St (a86.add 13) (.int .u64 x78) <|
 St (a86.add 14) (.int .u64 x79) <|
 St (a86.add 15) (.bool x80) <|
 St (a86.add 16) (.string x81) <|
 St (a86.add 17) (.string x82) <|
 St (a86.add 18) (.slice x83.p x83.len x83.cap) <|
 St (a86.add 19) (.slice x84.p x84.len x84.cap) <|
 St (a86.add 20) (.slice x85.p x85.len x85.cap) <|
 DN (Addr.add ⟨a,0,none⟩ 6) fun x87=>
 Lp (σ:=Bool × Int × Unit) (fun L88 s89=>
 Br (decide ((s89.2.1:Int) < ((x87.len:Nat):Int))) (
 Jp (σ:=Bool × Unit) (fun s91=>
 L88 (s91.1,(An (s89.2.1 + 1)),())) fun J90=>
 Ix x87 s89.2.1 2 fun a92=>
 A2 .u64 (a92.add 0) fun x93=>
 DN (a92.add 1) fun x94=>
 At #[(.int .u64 0),(.slice none 0 0)] 60 fun a95=>
 St (a95.add 0) (.int .u64 x93) <|
 St (a95.add 1) (.slice x94.p x94.len x94.cap) <|
 Br s89.1 (
 J90 (true,())) (
 A2 .u64 (a95.add 0) fun x96=>
 A2 .u64 (a86.add 8) fun x97=>
 J90 (((x96:Int) == x97),()))) (
 Jp (σ:=Bool × Unit) (fun s99=>
 Br s99.1 (
 R (false,())) (
 L62 (s63.1,(An (s63.2.1 + 1)),()))) fun J98=>
 A2 .i64 (a86.add 0) fun x100=>
 Br ((x100:Int) == 4) (
 A2 .i64 (a86.add 4) fun x101=>
 J98 ((!(((x101:Int) == 3) == s89.1)),())) (
 J98 (false,())))) (false,0,())) (
 J s63)) (s1,0,())) w:=by
 have hsl:d.sh.len=d.held.length:=hS.BY;have hol:so.len=out.length:=hO.len;simp only [sb,hD];refine ⟨fun n stt w'=>∃ (j:Nat),stt=(s1,(j:Int),())∧n=out.length - j∧j≤out.length∧Aa [] w w',⟨_,0,rfl,rfl,by omega,Aa.refl _ _⟩,?_⟩;rintro n _ w1 ⟨j,rfl,rfl,hj,k1⟩;dsimp only;by_cases hjl:j < out.length
 ·rw [decide_eq_true (by omega)];simp only [Af];obtain ⟨z,hz⟩:∃ z,out[j]?=some z:=⟨_,List.getElem?_eq_getElem hjl⟩;have hzm:=List.mem_of_getElem? hz;refine AiJ (hO.Ab k1) hz ?_;refine Aik z fun b w2 h2 n2 k2=>?_;have k02:=Aj k1 k2;simp only [sb,k02.Aw ha];refine ⟨fun n stt w'=>∃ (g:Nat),stt=((d.held.take g).any (fun h=>h.Ah == z.Ah),(g:Int),())∧n=d.held.length - g∧g≤d.held.length∧Aa [] w2 w',⟨_,0,rfl,rfl,by omega,Aa.refl _ _⟩,?_⟩;rintro n _ w3 ⟨g,rfl,rfl,hg,k3⟩;have k03:=Aj k02 k3;have h23:=k3.Aw h2;dsimp only;by_cases hgl:g < d.held.length
  ·rw [decide_eq_true (by omega)];simp only [Af];obtain ⟨x,hx⟩:∃ x,d.held[g]?=some x:=⟨_,List.getElem?_eq_getElem hgl⟩;have ea:(d.held.take (g + 1)).any (fun h=>h.Ah == z.Ah)=((d.held.take g).any (fun h=>h.Ah == z.Ah) || (x.Ah == z.Ah)):=by
    rw [List.take_add_one,hx,List.any_append];simp
   refine BR ((d.held.take (g + 1)).any (fun h=>h.Ah == z.Ah)) (fun J2 hJ2=>?_) fun w5 k5=>?_
   ·refine I0 (hS.C6.Ab k03) hx ?_;refine Lz x fun c w4 h4 n4 k4=>?_;rw [ea] at hJ2;cases c1:(d.held.take g).any (fun h=>h.Ah == z.Ah) with
    | true=>
     rw [c1,Bool.true_or] at hJ2;simp only [Af];exact hJ2 _ k4
    | false=>
     rw [c1,Bool.false_or] at hJ2;simp only [Ae,sb,h4,k4.Aw h23];exact hJ2 _ k4
   ·exact ⟨d.held.length - (g + 1),by omega,g + 1,by rw [AK (by omega)],rfl,by omega,Aj k3 k5⟩
  ·rw [decide_eq_false (by omega)];simp only [Ae];have hg:g=d.held.length:=by omega
   subst hg;rw [List.take_length];refine BR false (fun J2 hJ2=>?_) fun w4 k4=>?_
   ·simp only [sb,h23];cases c4:(z.kind == 4) with
    | false=>
     simp only [Ae];exact hJ2 _ (Aa.refl _ _)
    | true=>
     have hz4:z.kind=4:=by simpa using c4
     simp only [Af,sb,h23];have hh:=hv z.p (List.mem_map.2 ⟨z,hzm,rfl⟩) hz4;have e1:(z.code == 3)=d.held.any (fun h=>h.Ah == z.Ah):=by
      rw [Bool.eq_iff_iff,beq_iff_eq,List.any_eq_true];constructor
      ·intro h3;obtain ⟨h,hm,e⟩:=hh.1 h3;obtain ⟨x,hx,rfl⟩:=List.mem_map.1 hm;exact ⟨x,hx,by have e:x.Ah=z.Ah:=e;rw [e];simp⟩
      ·rintro ⟨x,hx,e⟩;exact hh.2 ⟨x.p,List.mem_map.2 ⟨x,hx,rfl⟩,(by simpa using e:x.Ah=z.Ah)⟩
     rw [e1];rw [show (!(d.held.any (fun h=>h.Ah == z.Ah) == d.held.any (fun h=>h.Ah == z.Ah)))=false from by simp];exact hJ2 _ (Aa.refl _ _)
   ·simp only [Ae];exact ⟨out.length - (j + 1),by omega,j + 1,by rw [AK (by omega)],rfl,by omega,Aj k03 k4⟩
 ·rw [decide_eq_false (by omega)];simp only [Ae];exact k _ w1 k1
set_option maxHeartbeats 4000000 in
theorem YO {w:World} {pm pl:Sl} {ml:List Pa} {l:List Sp} (hM:A1 C2 w pm ml) (h:A1 spR w pl l) (hD:∀ y∈l,Su y.x w) (hO:∀ y∈l,ZM y.x.p∧y.x.Ac.length≤140737488355328) (hml:ml.length≤8796093022208) {K:TR [.sc .b]→Pr} (k:∀ w',Aa [] w w'→K (true,()) w'):Cl Pg 6 [.slice pm.p pm.len pm.cap,.slice pl.p pl.len pl.cap] false [.sc .b] K w:=by
 refine GC _ _ ?_;unfold EA;dsimp only [Ag,Al,Ux,Vv,Lb,Li,Bn,Rx,Ll,Lu,UO,RP,Bf,KV,Tb,Ts,Tu,Vp,Vs,Vu,KW,RM,AQ,LW];have hl:=h.len;have hlm:=hM.len;refine Ai0 fun w1 k1=>?_;refine AG (fun s w'=>(s.1=false→AU ml∧ml.length≤60∧l.length≤80)∧Aa [] w1 w') (fun J hJ=>?_) ?_
 ·refine RE (hM.Ab k1) hml fun e w2 he k2=>?_;by_cases h0:e=0
  ·rw [h0];simp only [show ((0:Int) != 0)=false from rfl,Ae];by_cases h60:ml.length≤60
   ·rw [show decide (((pm.len:Nat):Int) > 60)=false from decide_eq_false (by omega)];simp only [Ae];exact hJ _ _ ⟨fun hd=>⟨he.1 h0,h60,by rw [decide_eq_false_iff_not] at hd;omega⟩,k2⟩
   ·rw [show decide (((pm.len:Nat):Int) > 60)=true from decide_eq_true (by omega)];simp only [Af];exact hJ _ _ ⟨(fun hd=>by cases hd),k2⟩
  ·rw [show (e != 0)=true from by simpa using h0];simp only [Af];exact hJ _ _ ⟨(fun hd=>by cases hd),k2⟩
 rintro ⟨b0,_⟩ w2 ⟨hb0,k2⟩;have k02:=Aj k1 k2;cases b0 with
 | true=>
  simp only [sb];exact k w2 k02
 | false=>
  obtain ⟨hMk,hm60,hl80⟩:=hb0 rfl;simp only [sb];refine AE.app (ρ:=C2) (l:=[]) (AE.nil _ _) (hM.Ab k02).rd hlm (by rw [Fm];rfl) (by rw [hlm];show (0 + ml.length) * 32≤_;omega) (by rw [hlm];show 0 + ml.length≤_;omega) ?_;intro sM w3 hsM k3 fM;have k3:Aa [] w2 w3:=k3.mono (by simp [Ai]);have fM:∀ x∈Ai sM,w2.heap.size≤x:=fun x hx=>by rcases fM x hx with h' | h';simp [Ai] at h';exact h'
  rw [List.nil_append] at hsM;have k03:=Aj k02 k3;refine Ad fun st w4 h4 n4 k4=>?_;have k04:=Aj k03 k4;have nst:w.heap.size≤st:=by have:=k03.size;omega
  refine AbQ fun a w5 h5 n5 k5=>?_;have h45:=k5.Aw h4;have k05:=Aj k04 k5;have sM5:=hsM.Ab (Aj k4 k5);have hst0:st ∉ rb sM:=fun hx=>by have:=hsM.lt _ (AE.rb hsM _ hx);omega
  refine Aeu (d:=d0 a) (BD:=st) (sM:=sM) (M:=ml) h5 (show XU (d0 a) from ⟨show (2:Nat)≤100000 by decide,show (0:Nat)≤100000 by decide,show (0:Nat)≤200000 by decide,by simp [d0]⟩) t0 rfl ⟨show (0:Int)≤0 by decide,show (0:Int) + 1 < 18446744073709551616 by decide⟩ h45 sM5.C6 hst0 ?_;intro m T X w6a h6a q6 st6 sm6 hT k6a;have q6:X.p=P0 ml:=q6;refine BR false (fun J hJ=>?_) fun w6 kx=>?_
  ·simp only [Option.isNone_some,sb,show ((0:Int) != 0)=false from rfl];exact hJ _ (Aa.refl _ _)
  have h6:=h6a.Ab kx;have k06:=Aj (Aj k05 k6a) kx;simp only [sb];have hT:∀ b,T b ≠ 0→w.heap.size≤b:=fun b hb=>by rcases hT b hb with rfl | h';exact nst;have:=k05.size;omega
  have hM6:X.d.M=ml:=by
   have:X.p.M=ml:=by rw [q6];rfl
   exact this
  have st6lt:st < w6.heap.size:=by have:=Av h45;have:=(Aj k6a kx).size;omega
  have b6:X.p.box=none:=by rw [q6];rfl
  have c6:X.c=(P0 ml).c:=congrArg PS.c q6;have R6:IV w m st 0 w6 X T:=⟨⟨h6,by rw [q6];exact PX0 hMk (by omega),fun b hb=>(by rw [b6] at hb;cases hb),st6,by rw [sm6];exact hst0⟩,by rw [hM6];omega,fun b hb=>(by rw [b6] at hb;cases hb),by rw [c6];exact ⟨show (0:Int)≤1 by decide,show (1:Int)≤0 + 1 by decide⟩,hT,k06⟩;refine ⟨fun n stt w'=>∃ (i:Nat) (q:Bool) (m1:Nat) (X1:Mc) (T1:Nat→Nat),stt=(q,some ⟨m1,0,none⟩,(i:Int),())∧n=l.length - i∧i≤l.length∧IV w m1 st i w' X1 T1∧st < w'.heap.size,⟨_,0,false,m,X,T,rfl,rfl,by omega,R6,st6lt⟩,?_⟩;rintro n _ w7 ⟨i,q,m1,X1,T1,rfl,rfl,hi,R7,st7⟩;dsimp only;by_cases hlt:i < l.length
  ·rw [decide_eq_true (by omega)];simp only [Af];obtain ⟨y,hy⟩:∃ y,l[i]?=some y:=⟨_,List.getElem?_eq_getElem hlt⟩;have hym:=List.mem_of_getElem? hy;obtain ⟨hN,hOl⟩:=hO y hym;refine Aj7 (h.Ab R7.kp) hy ?_;refine AjF y fun b w8 h8 n8 k8=>?_;have R8:=R7.Ab k8;refine Ad fun d w9 h9 n9 k9=>?_;refine Mf h9 rfl rfl rfl fun w10 h10 k10=>?_;have k810:Aa [] w8 w10:=BT k9 k10 n9;have hb10:=k810.Aw h8;obtain ⟨g10,s10,e10⟩:=R8.A.g.own k810 n9 (Av h10);have dst:d ≠ st:=by have:=k8.size;omega
   have wd:w.heap.size≤d:=Nat.le_trans R8.kp.size n9;have Td10:Dz d T1 d=11:=if_pos rfl;generalize hT10:Dz d T1=T10 at *;have A10:AtA w10 m1 st T10 X1:=⟨g10,R8.A.J,R8.A.L,R8.A.se,R8.A.hn⟩;have kp10:Aa [] w w10:=Aj R8.kp k810;have hT10:∀ b,T10 b ≠ 0→w.heap.size≤b:=fun c hc=>by
    rw [← hT10] at hc;unfold Dz at hc;split at hc
    ·omega
    ·exact R8.hT c hc
   have z10:∀ b,b < w.heap.size→T10 b=0:=fun c hc=>Classical.byContradiction fun hne=>by have:=hT10 c hne;omega
   have hx10:Bq T10 (Su y.x) w10:=Ag8 (hD y hym) kp10 z10;have hJ1:=R8.A.J;have AhC:AM X1.p 90000:=fun b hb=>by have:=R8.row b hb;omega
   refine AG (fun s w'=>∃ (m2:Nat) (X2:Mc) (T2:Nat→Nat) (so sw:Sl) (lb:Bool) (out:List Mg) (wr:List Op),s=(q,some ⟨m2,0,none⟩,())∧JV w m2 st i d w' X2 T2 so sw lb out wr∧st < w'.heap.size) (fun J hJ=>?_) ?_
   ·simp only [sb,hb10];cases ck:(y.x.kind != 0) with
    | true=>
     simp only [Af,sb,hb10];refine Agc g10 hJ1 AhC y.x hx10 hN hOl ?_ ?_
     ·intro hbad T2 w11 g11 e11;obtain ⟨d11,Td11⟩:=e11.Ql h10 Td10;refine Mf d11 rfl rfl rfl fun w12 h12 k12=>?_;obtain ⟨g12,s12⟩:=g11.LK Td11 k12;obtain ⟨hT2,kp11⟩:=AaB hT10 kp10 e11;have kp12:=BT kp11 k12 wd;refine hJ _ w12 ⟨m1,X1,T2,⟨none,0,0⟩,⟨none,0,0⟩,false,[],[],rfl,⟨⟨g12,hJ1,R8.A.L,R8.A.se,R8.A.hn⟩,R8.M,fun b hb=>?_,⟨R8.Au.1,by have:=R8.Au.2;omega⟩,hT2,kp12,h12,Ajy,rfl,by simp,by simp,VOk.nil _⟩,?_⟩
      ·have:=R8.row b hb;omega
      ·have:=k8.size;have:=k810.size;have:=e11.kp.size;have:=k12.size;omega
     ·intro hbad so sw out wr X2 T2 w11 g11 q11 ho hw i11 x11 e11;obtain ⟨d11,Td11⟩:=e11.Ql h10 Td10;refine Mf d11 rfl rfl rfl fun w12 h12 k12=>?_;obtain ⟨g12,s12⟩:=g11.LK Td11 k12;obtain ⟨hT2,kp11⟩:=AaB hT10 kp10 e11;have kp12:=BT kp11 k12 wd;obtain ⟨hQ,hQM,hQR⟩:=hJ1.taken hN hbad;have hM2:X2.d.M=X1.d.M:=by
       have h1:X2.p.M=X1.p.M:=by rw [q11];exact hQM
       exact h1
      have hb2:X2.c.Au=X1.c.Au:=by
       have h1:X2.p.c.Au=X1.p.c.Au:=by rw [q11];exact AaI hJ1 hN hbad
       exact h1
      refine hJ _ w12 ⟨m1,X2,T2,so,sw,_,out,wr,rfl,⟨⟨g12,by rw [q11];exact hQ.clear,by rw [q11];exact AaG hJ1 R8.A.L hN hbad,x11.BD.trans R8.A.se,by rw [x11.sM];exact R8.A.hn⟩,by rw [hM2];exact R8.M,?_,by rw [hb2];exact ⟨R8.Au.1,by have:=R8.Au.2;omega⟩,hT2,kp12,h12,i11.kt (by decide) s12,by rw [hw];exact hQ.j.ok.wr,by rw [hw];exact hQ.j.ok.wn,?_,?_⟩,?_⟩
      ·rw [q11];have:=hQR (24 * i) R8.row;intro b hb;have:=this b hb;omega
      ·have h1:=congrArg List.length ho;rw [List.length_map] at h1;have:=hQ.j.ok.bd;omega
      ·rw [ho,q11];exact AcF hJ1 hN hbad
      ·have:=k8.size;have:=k810.size;have:=e11.kp.size;have:=k12.size;omega
    | false=>
     simp only [Ae,sb,hb10];cases ca:y.again with
     | true=>
      simp only [Af];refine Yr g10 hJ1.sdN fun dS w11 hS k11=>?_;have g11:=g10.Ab k11;obtain ⟨hs11,hs12⟩:=g11.r.RF.ok;rw [R8.A.se] at hs11;have hH:dS.held.map Hd.p=X1.p.held:=hS.held;have hC:dS.c=X1.p.c:=hS.c;have hOw:dS.Ac=X1.p.Ac:=hS.Ac;have hF:dS.fin=X1.p.fin:=hS.fin;have n6:dS.held.length≤6:=by
       have h1:=congrArg List.length hH;rw [List.length_map] at h1;have:=hJ1.j.ct.hw;omega
      have hbt:0≤dS.c.Au∧dS.c.Au + 1 < 18446744073709551616:=by
       rw [hC];have h1:=R8.Au.1;have h2:=R8.Au.2;exact ⟨h1,by show X1.c.Au + 1 < _;omega⟩
      refine Akh (d:=dS) (BD:=st) (sM:=X1.d.sM) (M:=X1.d.M) hS.shd (hS.sdn hJ1.sdN) (by rw [hC,hOw,hH,hF];exact AgY hJ1) (by rw [hH];exact hJ1.j.ok.hv) (by rw [hH];exact hJ1.t.l.nc) n6 hbt hs11 hs12 R8.A.hn ?_;intro m2 T2 X2 w12 s2 g12 q12 hs2 st12 sm12 hT12 k12;have kp12:=Aj (Aj kp10 k11) k12;refine BR false (fun J3 hJ3=>?_) fun w13 k13=>?_
      ·simp only [Option.isNone_some,sb,show ((0:Int) != 0)=false from rfl];exact hJ3 _ (Aa.refl _ _)
      ·simp only [Ae];have q12:X2.p=Z8 X1.p s2:=by rw [q12];unfold Z8;rw [hC,hOw,hH,hF];rfl
       have hb2:X2.p.box=none:=by rw [q12];rfl
       have hM2:X2.d.M=X1.d.M:=by
        have h1:X2.p.M=X1.p.M:=by rw [q12];rfl
        exact h1
       have hc2:X2.c.Au=X1.c.Au + 1:=by
        have h1:X2.p.c.Au=X1.p.c.Au + 1:=by rw [q12];rfl
        exact h1
       rw [hH] at hs2;have d13:=(Aj (Aj k11 k12) k13).Aw h10;refine hJ _ w13 ⟨m2,X2,T2,⟨none,0,0⟩,⟨none,0,0⟩,false,[],[],rfl,⟨⟨g12.Ab k13,?_,fun b hb=>(by rw [hb2] at hb;cases hb),st12,by rw [sm12];exact R8.A.hn⟩,by rw [hM2];exact R8.M,fun b hb=>(by rw [hb2] at hb;cases hb),?_,?_,Aj kp12 k13,d13,Ajy,rfl,by simp,by simp,VOk.nil _⟩,?_⟩
       ·rw [q12];refine hJ1.AkS hs2 ⟨?_,?_⟩
        ·have:=R8.Au.1;show 0≤X1.c.Au + 1;omega
        ·have:=R8.Au.2;show X1.c.Au + 1 < _;omega
       ·rw [hc2];have:=R8.Au.1;have:=R8.Au.2;exact ⟨by omega,by omega⟩
       ·intro c hc;rcases hT12 c hc with rfl | h'
        ·exact nst
        ·have:=(Aj kp10 k11).size;omega
       ·have:=k8.size;have:=k810.size;have:=(Aj (Aj k11 k12) k13).size;omega
     | false=>
      simp only [Ae];refine AhO g10 hJ1 ?_ ?_
      ·intro c hc;have h1:X1.p.box=some X1.d.box.p:=by show X1.d.bx.map _=_;rw [hc];rfl
       have:=R8.A.L _ h1;have h2:X1.d.box.p.load=X1.d.box.load:=rfl;rw [h2] at this;omega
      ·intro so sw out wr X2 T2 w11 lb g11 q11 ho hw i11 x11 e11;obtain ⟨d11,Td11⟩:=e11.Ql h10 Td10;refine Mf d11 rfl rfl rfl fun w12 h12 k12=>?_;obtain ⟨g12,s12⟩:=g11.LK Td11 k12;obtain ⟨hT2,kp11⟩:=AaB hT10 kp10 e11;have kp12:=BT kp11 k12 wd;obtain ⟨hQ,hQM,hQR⟩:=hJ1.CF;have hM2:X2.d.M=X1.d.M:=by
        have h1:X2.p.M=X1.p.M:=by rw [q11];exact hQM
        exact h1
       have hb2:X2.c.Au=X1.c.Au:=by
        have h1:X2.p.c.Au=X1.p.c.Au:=by rw [q11];exact YI X1.p
        exact h1
       refine hJ _ w12 ⟨m1,X2,T2,so,sw,_,out,wr,rfl,⟨⟨g12,by rw [q11];exact hQ.clear,by rw [q11];exact YH R8.A.L,x11.BD.trans R8.A.se,by rw [x11.sM];exact R8.A.hn⟩,by rw [hM2];exact R8.M,?_,by rw [hb2];exact ⟨R8.Au.1,by have:=R8.Au.2;omega⟩,hT2,kp12,h12,i11.kt (by decide) s12,by rw [hw];exact hQ.j.ok.wr,by rw [hw];exact hQ.j.ok.wn,?_,?_⟩,?_⟩
       ·rw [q11];have:=hQR (24 * i) R8.row;intro b hb;have:=this b hb;omega
       ·have h1:=congrArg List.length ho;rw [List.length_map] at h1;have:=hQ.j.ok.bd;omega
       ·rw [ho,q11];exact Aae hJ1
       ·have:=k8.size;have:=k810.size;have:=e11.kp.size;have:=k12.size;omega
   ·rintro _ w11 ⟨m2,X2,T2,so,sw,lb,out,wr,rfl,V,st11⟩;have kd:Aa [] w11 w11.drew:=(Aa.refl _ _).drew;have hst:=V.A.g.r.RF.ok.1;rw [V.A.se] at hst;have hM11:X2.d.M.length≤(i + 1) * 1000:=V.M;have im11:=V.im.Ab kd;simp only [sb,hst,V.D];refine Afw (V.A.Ab kd) im11.ok.2.2 V.ow (by have:=V.wl;omega) fun sM2 w12 A12 k12=>?_;have hMl:=He X2.d.M wr;have tst:T2 st=12:=by
     have:=(V.A.g.r.RF.tag X2.d.BD rfl).2;rw [V.A.se] at this;exact this
    have s12:CH 12 T2 T2 w11.drew w12:=⟨k12.FY fun c hc=>.inl (by simp at hc;rw [hc];exact tst),fun _ _ _=>rfl⟩;have i12:=im11.kt (by decide) s12;have D12:=k12.Mw (show w11.drew.heap[d]?=_ from V.D) dst;have kp12:Aa [] w w12:=BT (Aj V.kp kd) k12 nst;have hJ2:=V.A.J;have R12:IV w m2 st (i + 1) w12 _ T2:=⟨A12,by show (Bd X2.d.M wr).1.length≤(i + 1 + 1) * 1000;have h1:=hMl.1;have h2:=V.wl;omega,V.row,⟨V.Au.1,by have h2:X2.c.Au≤(i:Int) + 2:=V.Au.2;show X2.c.Au≤((i + 1:Nat):Int) + 1;omega⟩,V.hT,kp12⟩;refine Yr A12.g A12.J.sdN fun dS w13 hS k13=>?_;refine Ad fun s w14 h14 n14 k14=>?_;refine Ul h14 rfl dS fun w15 h15 k15=>?_;have k1315:Aa [] w13 w15:=BT k14 k15 n14;have k1215:=Aj k13 k1315;have sh15:=hS.he.keeps k1315 (by simp);have sd15:YP dS w15:=hS.shd.Ab k1315;have D15:=k1215.Aw D12;have i15:=i12.Ab k1215;have R15:=R12.Ab k1215;have hH:dS.held.map Hd.p=X2.p.held:=hS.held;have hn6:dS.held.length≤6:=by
     have h1:=congrArg List.length hH;rw [List.length_map] at h1;have:=hJ2.j.ct.hw;omega
    simp only [sb,h15];have hv3:∀ x∈dS.held,A9 x.ops=0∧x.ops.length≤24:=fun x hx=>hJ2.j.ok.hv x.p (by rw [← hH];exact List.mem_map.2 ⟨x,hx,rfl⟩);refine AgU h15 sh15 sd15.hd hv3 (by rw [hH];exact hJ2.t.l.nc) (by rw [hH];exact hJ2.j.ok.hd) (by omega) q fun q2 n2 w16 k16=>?_;dsimp only;have vk:=fun (R:TR [.sc .b]→Pr) (J:Bool × Int × Unit→Pr) hk=>Agm (R:=R) (J:=J) (s1:=q2) (k16.Aw h15) (sh15.Ab k16) (k16.Aw D15) (i15.Ab k16).ok.1 (by rw [hH];exact V.vo) (by omega) V.ol hk;specialize vk K;refine vk _ fun n3 w17 k17=>?_;have k1517:=Aj k16 k17;have st17:st < w17.heap.size:=by have:=kd.size;have:=k12.size;have:=(Aj k1215 k1517).size;omega
    have R17:=R15.Ab k1517;clear vk;refine ⟨l.length - (i + 1),by omega,i + 1,q2,m2,_,T2,?_,rfl,hlt,R17,st17⟩;rw [AK (by omega)]
  ·rw [decide_eq_false (by omega)];simp only [Ae];exact k w7 R7.kp
open Go Go.Sx Go.ChangeShapes Go.WideShapes Go.ChangeAt Go.RowKit
section
variable {H:Type} {enc:TypeId × Value→H} {W:World}
theorem Adt {v:Value} (h:Tz enc Pg W 22 v):∃ (s:Sl) (l:List Sp),v=.slice s.p s.len s.cap∧A1 spR W s l∧s.len * Pg.bytesOf 49≤140737488355328∧∀ y∈l,Su y.x W∧ZM y.x.p∧y.x.Ac.length≤140737488355328:=by
 refine h.list (k:=6) (e:=49) (L:=[3,3,3,3,3,3,32,32,32,32,32,32,32,32,32,4,9,9,44,45,33,4]) (ρ:=spR) (by kernel_rfl) (by kernel_rfl) (by kernel_rfl) (by kernel_rfl) ?_;rintro ⟨x0,x1,x2,x3,x4,x5,x6,x7,x8,x9,x10,x11,x12,x13,x14,x15,x16,x17,x18,x19,x20,x21,⟨⟩⟩ ⟨_,_,_,_,_,_,_,_,h8,h9,h10,h11,h12,h13,_,_,_,_,h18,h19,h20,_⟩;obtain ⟨s1,l1,e1,r1,_,_⟩:=AhM h18;obtain ⟨s2,l2,e2,r2,_,q2⟩:=Aa0 h19;obtain ⟨s3,l3,e3,r3,b3,_⟩:=Adr h20;obtain ⟨n8,f8,g8⟩:=h8.u64 (by kernel_rfl);obtain ⟨n9,f9,g9⟩:=h9.u64 (by kernel_rfl);obtain ⟨n10,f10,g10⟩:=h10.u64 (by kernel_rfl);obtain ⟨n11,f11,g11⟩:=h11.u64 (by kernel_rfl);obtain ⟨n12,f12,g12⟩:=h12.u64 (by kernel_rfl);obtain ⟨n13,f13,g13⟩:=h13.u64 (by kernel_rfl);simp only [Kd.enc,Value.int.injEq,true_and] at f8 f9 f10 f11 f12 f13;have e1:=Xs e1;have e2:=Xs e2;have e3:=Xs e3;subst e1 e2 e3 f8 f9 f10 f11 f12 f13;have h3:=r3.len;rw [show Pg.bytesOf 70=24 from by kernel_rfl] at b3;exact ⟨⟨⟨x0,x1,x2,x3,x4,x5,x6,x7,x8,x9,x10,x11,x12,x13,x14,x15,x16,x17,x18,x19,x20,l1,l2,l3⟩,x21⟩,rfl,⟨r1,⟨r2,q2⟩,r3⟩,⟨g8,g9,g10,g11,g12,g13⟩,by show l3.length≤_;omega⟩
end
end Go.Proofs.YthkdehgfdllpoaaGreat
