/- The parts of the proof, 8: words of the program, and what they do. Conditions: none. -/
import Derived.Test.YthkdehgfdllpoaaGreatPk7
set_option maxRecDepth 100000
set_option maxHeartbeats 1000000
set_option linter.unusedVariables false
set_option linter.unusedSimpArgs false
set_option linter.unusedSectionVars false
namespace Go.Proofs.YthkdehgfdllpoaaGreat
open Go Go.Sx
structure Ao0 (w:World)(m1 a4 a5 a7 a9 a10 a11:Nat)(r8:Sl)(M1 M2:List Pa)(T:Nat->Nat)(X:Mc)(w':World):Prop where
 A:AtA w' m1 a7 T X
 p:X.p=Aox 1 M1
 hT:∀b,T b≠0->w.heap.size<=b
 t9:T a9=20
 t11:T a11=20
 z:T a4=0/\T a5=0/\T a10=0
 z8:∀b∈rb r8,T b=0
 h4:w'.heap[a4]?=some (.cells #[.string (BA []),.int .i64 1,.string (BA [99]),.int .i64 1,.string (BA [109]),.int .i64 2] 70 (0,0))
 h5:w'.heap[a5]?=some (.cells #[.string cK,.string mK] 37 (0,0))
 h9:w'.heap[a9]?=some (.cells #[.slice r8.p r8.len r8.cap] 27 (0,0))
 Q8:w'.heap[a10]?=some (.cells #[.pointer none,.pointer (some ⟨a7,0,none⟩),.pointer (some ⟨a9,0,none⟩)] 72 (0,0))
 h11:w'.heap[a11]?=some (.cells #[.pointer none,.pointer (some ⟨m1,0,none⟩),.pointer none] 73 (0,0))
 r8:A1 C2 w' r8 M2
 kp:Aa [] w w'
set_option maxHeartbeats 16000000 in
theorem AgI {w:World}{pm pl pf:Sl}{ml:List Pa}{l:List OpL}{fl:List Bool}(hM:A1 C2 w pm ml)(h:A1 osR w pl l)(hD:∀y∈l,A1 BQ w y.s y.ops)(hF:A1 flR w pf fl)(hml:ml.length<=8796093022208){K:TR [.sc .b]->Pr}(k:∀w',Aa [] w w'->K (true,()) w'):Cl Pg 7 [.slice pm.p pm.len pm.cap,.slice pl.p pl.len pl.cap,.slice pf.p pf.len pf.cap] false [.sc .b] K w:=by
 refine JY pm pl pf ?_;unfold IV;dsimp only[Ag,Ap3,Vv,Bn,Ll,Hr,Lp3,Ls,AjQ,KV,Tp,Vb,Vi,Vp,Vs,Vt,Vu,KW,LW,Zp3];have hl:=h.len;have hlm:=hM.len;refine Ai0 λw1 k1=>?_;refine AG (λs w'=>(s.1=false->AU ml/\ml.length<=40/\l.length<=20)/\Aa [] w1 w') (λJ hJ=>?_) ?_
 ·refine RE (hM.Ab k1) hml λe w2 he k2=>?_;by_cases h0:e=0
  ·rw[h0];simp only[show((0:Int) !=0)=false from rfl,Ae];by_cases h60:ml.length<=40
   ·rw[show decide (((pm.len:Nat):Int)>40)=false from decide_eq_false (by omega)];simp only[Ae];exact hJ _ _ ⟨λhd=>⟨he.1 h0,h60,by rw[decide_eq_false_iff_not]at hd;omega⟩,k2⟩
   ·rw[show decide (((pm.len:Nat):Int)>40)=true from decide_eq_true (by omega)];simp only[Af];exact hJ _ _ ⟨(λhd=>by cases hd),k2⟩
  ·rw[show(e !=0)=true from by simpa using h0];simp only[Af];exact hJ _ _ ⟨(λhd=>by cases hd),k2⟩
 rintro⟨b0,_⟩ w2 ⟨hb0,k2⟩;have k02:=Aj k1 k2;cases b0 with
 |true=>
  simp only[sb];exact k w2 k02
 |false=>
  obtain⟨hMk,hm40,hl20⟩:=hb0 rfl;simp only[sb];refine Ad λa4 w3 h4 n4 k3=>?_;refine DS ⟨cK,mK⟩ λa5 w4 h5 n5 k4=>?_;have k04:=Aj k02 (Aj k3 k4);refine Zj (hM.Ab k04) (by omega) (BA []) mK (-1) λr6 w5 hr6 f6 k5=>?_;refine Ad λa7 w6 h7 n7 k6=>?_;have k46:=Aj k5 k6;have k06:=Aj k04 k46;refine Zj (hM.Ab k06) (by omega) mK (BA []) (-1) λr8 w7 hr8 f8 k7=>?_;refine Ad λa9 w8 h9 n9 k8=>?_;refine Ad λa10 w9 Q8 n10 k9=>?_;refine Mf Q8 rfl rfl rfl λw10 Q8 k10=>?_;refine Ad λa11 w11 h11 n11 k11=>?_;have k810:=BT k9 k10 n10;have k811:=Aj k810 k11;have k711:=Aj k8 k811;have k611:=Aj k7 k711;have k011:=Aj k06 k611;have z0:=k02.size;have z2:=k3.size;have z3:=k4.size;have z4:=k5.size;have z5:=k6.size;have z6:=k7.size;have z7:=k8.size;have z8:=k9.size;have z9:=k10.size;have z10:=k11.size;have l4:=Av h4;have l5:=Av h5;have l7:=Av h7;have l9:=Av h9;have l10:=Av Q8;have l11:=Av h11;have h4:=(Aj k4 (Aj k46 k611)).Aw h4;have h5:=(Aj k46 k611).Aw h5;have h7:=k611.Aw h7;have h9:=k811.Aw h9;have Q8:=k11.Aw Q8;have m6:∀b∈rb r6,w4.heap.size<=b/\b<w5.heap.size:=λb hb=>⟨f6 b (AE.rb hr6 b hb),hr6.lt b (AE.rb hr6 b hb)⟩;have m8:∀b∈rb r8,w6.heap.size<=b/\b<w7.heap.size:=λb hb=>⟨f8 b (AE.rb hr8 b hb),hr8.lt b (AE.rb hr8 b hb)⟩;have hr6:=hr6.C6.Ab (Aj k6 k611);have hr8:=hr8.C6.Ab k711;obtain⟨o1,o2⟩:=R7 hMk (BA []) mK;obtain⟨o3,o4⟩:=R7 hMk mK (BA []);have rnd0:=Ajv hMk hm40;generalize BM ml (BA []) mK (-1)=M1 at *;generalize BM ml mK (BA []) (-1)=M2 at *;obtain⟨Iv,hIv⟩:∃Iv:Nat->Bool×Int×Unit->World->Prop,Iv=λn stt w'=>(stt=(false,1,())/\n=2/\w11=w')\/(stt=(false,2,())/\n=1/\∃m1 T X,Ao0 w m1 a4 a5 a7 a9 a10 a11 r8 M1 M2 T X w')\/(stt=(false,3,())/\n=0/\∃m1 m2 T1 T2 X1 X2,Aow w w' m1 m2 a7 a9 T1 T2 X1 X2 ⟨none,0,0⟩ [] [(a11,20,.cells #[.pointer none,.pointer (some ⟨m1,0,none⟩),.pointer (some ⟨m2,0,none⟩)] 73 (0,0)),(a5,0,.cells #[.string cK,.string mK] 37 (0,0)),(a10,0,.cells #[.pointer none,.pointer (some ⟨a7,0,none⟩),.pointer (some ⟨a9,0,none⟩)] 72 (0,0))]/\Rnd 0 X1.p X2.p):=⟨_,rfl⟩;refine⟨Iv,⟨2,by rw[hIv];exact .inl ⟨rfl,rfl,rfl⟩⟩,?_⟩;intro n stt w12 hv;rw[hIv]at hv;rcases hv with⟨rfl,rfl,rfl⟩|⟨rfl,rfl,m1,T,X,S⟩|⟨rfl,rfl,m1,m2,T1,T2,X1,X2,L3,R3⟩
  ·dsimp only;rw[decide_eq_true (show(1:Int)<=2 by decide)];simp only[Af];refine ixk (by decide) (by decide) ?_;simp only[sb,Q8,show(Int.toNat 1*1:Nat)=0+1 from rfl];refine Aga (d:=dz 1 a4) (BD:=a7) (sM:=r6) (M:=M1) (dzD (Adt h4)) (dzN 1 a4) Anl rfl ⟨show(0:Int)<=0 by decide,show(0:Int)+1<18446744073709551616 by decide⟩ h7 hr6 (λhb=>by have:=m6 _ hb;omega) (F:=λb=>b=a9\/b=a11) (λb hb=>?_) ?_
   ·refine⟨by omega,by omega,λhm=>?_⟩;have:=m6 _ hm;omega
   intro m1 T X w13 g13 p13 st13 sm13 hT13 hF13 k13;have p13:X.p=Aoy 1 M1:=p13;refine BR false (λJ hJ=>?_) λw14 k14=>?_
   ·simp only[Option.isNone_some,sb,show((0:Int) !=0)=false from rfl];exact hJ _ (Aa.refl _ _)
   simp only[Ae];have k1114:=Aj k13 k14;have zT:∀b,b<w11.heap.size->b≠a7->b≠a9->b≠a11->T b=0:=λb hb h1 h2 h3=>Classical.byContradiction λhn=>by
    rcases hT13 b hn with h|h|h<;>omega
   have t11:=hF13 a11 (.inr rfl);have t9:=hF13 a9 (.inl rfl);refine ixk (by decide) (by decide) ?_;show St ⟨a11,1,none⟩ _ _ w14;refine Ax (k1114.Aw h11) 1 _ rfl (by simp) λw15 h15 k15=>?_;simp only[Ck]at h15;have s15:CH 20 T T w14 w15:=⟨k15.FY λx hx=>.inl (by rw[List.mem_singleton.1 hx];exact t11),λ_ _ _=>rfl⟩;have g14:=g13.Ab k14;have g15:=g14.kk (by omega) s15 λx hx=>Nat.lt_of_lt_of_le (g14.r.bd x hx) k15.size;have at15:∀{b:Nat} {o:Obj},w11.heap[b]?=some o->b≠a11->w15.heap[b]?=some o:=λhb hne=>k15.Mw (k1114.Aw hb) hne;have hJ15:PX X.p:=by rw[p13];exact PXz (by omega) o1 (by omega)
   have hL15:Cp X.p:=λb hb=>(by rw[p13]at hb;cases hb);refine Agc g15 hJ15 (λb hb=>(by rw[p13]at hb;cases hb)) (maM 1 ⟨some ⟨a4,0,none⟩,3,3⟩) (maD (Adt (at15 h4 (by omega))).C6 λb hb=>(by rw[AjF b hb];exact zT a4 (by omega) (by omega) (by omega) (by omega))) (AkQ 1) (show(3:Nat)<=140737488355328 by decide) (λhbad=>?_) ?_
   ·rw[p13]at hbad;exact absurd (hbad.symm.trans (Ajy M1)) (by decide)
   intro _ so sw out wr X2 T2 w16 g16 p16 o16 w16' i16 f16 e16;have p16:X2.p=Aox 1 M1:=by
    rw[p16,p13];exact Alx M1
   have keep:∀{b:Nat} {o:Obj},w11.heap[b]?=some o->b≠a11->(T b=0\/T b=20)->w16.heap[b]?=some o/\T2 b=T b:=λhb hne ht=>by
    have hb:=at15 hb hne;exact⟨(e16.kp.get _ (Av hb) (by omega)).trans hb,e16.tg _ (Av hb) (by omega)⟩
   have q4:=keep h4 (by omega) (.inl (zT a4 (by omega) (by omega) (by omega) (by omega)));have q5:=keep h5 (by omega) (.inl (zT a5 (by omega) (by omega) (by omega) (by omega)));have q9:=keep h9 (by omega) (.inr t9);have q10:=keep Q8 (by omega) (.inl (zT a10 (by omega) (by omega) (by omega) (by omega)));have T0:∀b,T b≠0->w.heap.size<=b:=λb hb=>by
    rcases hT13 b hb with h|h|h<;>omega
   have kp15:Aa [] w w15:=BT (Aj k011 k1114) k15 (by omega);obtain⟨T20,kp16⟩:=AaB T0 kp15 e16;have zr8:∀b∈rb r8,T b=0/\b<w11.heap.size/\b≠a11:=λb hb=>by
    have:=m8 b hb;exact⟨zT b (by omega) (by omega) (by omega) (by omega),by omega,by omega⟩
   refine⟨1,by decide,?_⟩;rw[hIv];refine .inr (.inl ⟨rfl,rfl,m1,T2,X2,⟨g16,by rw[p16];exact Ams o1 (by omega),λb hb=>(by rw[p16]at hb;cases hb),f16.BD.trans st13,by rw[f16.sM,sm13];exact λhb=>by have:=m6 _ hb;omega⟩,p16,T20,q9.2.trans t9,(e16.tg a11 (by have:=k15.size;have:=k1114.size;omega) (by omega)).trans t11,⟨?_,?_,?_⟩,λb hb=>?_,q4.1,q5.1,q9.1,q10.1,?_,?_,kp16⟩)
   ·exact q4.2.trans (zT a4 (by omega) (by omega) (by omega) (by omega))
   ·exact q5.2.trans (zT a5 (by omega) (by omega) (by omega) (by omega))
   ·exact q10.2.trans (zT a10 (by omega) (by omega) (by omega) (by omega))
   ·obtain⟨h1,h2,h3⟩:=zr8 b hb;exact(e16.tg b (by have:=k15.size;have:=k1114.size;omega) (.inl h1)).trans h1
   ·exact(e16.kp.get a11 (Av h15) (by omega)).trans h15
   ·exact((hr8.Ab k1114).keeps k15 λb hb=>by simp;exact(zr8 b hb).2.2).Ue e16.kp λb hb=>by rw[(zr8 b hb).1];simp
  ·dsimp only;rw[decide_eq_true (show(2:Int)<=2 by decide)];simp only[Af];refine ixk (by decide) (by decide) ?_;simp only[sb,S.Q8,show(Int.toNat 2*1:Nat)=0+1+1 from rfl];have e4:=Av S.h4;have e5:=Av S.h5;have e9:=Av S.h9;have e10:=Av S.Q8;have e11:=Av S.h11;have ew:=S.kp.size;have n98:a9∉rb r8:=λhb=>by have:=m8 _ hb;omega
   refine Aga (d:=dz 2 a4) (BD:=a9) (sM:=r8) (M:=M2) (dzD (Adt S.h4)) (dzN 2 a4) Anp rfl ⟨show(0:Int)<=0 by decide,show(0:Int)+1<18446744073709551616 by decide⟩ S.h9 S.r8 n98 (F:=λb=>(T b≠0/\T b≠20)\/b=a11) (λb hb=>?_) ?_
   ·rcases hb with⟨hb1,hb2⟩|rfl
    ·exact⟨S.A.g.r.bd b hb1,λe=>hb2 (by rw[e];exact S.t9),λhm=>hb1 (S.z8 b hm)⟩
    ·exact⟨e11,by omega,λhm=>by have:=m8 _ hm;omega⟩
   intro m2 T2 X2 w13 g13 p13 st13 sm13 hT13 hF13 k13;have p13:X2.p=Aoy 2 M2:=p13;refine BR false (λJ hJ=>?_) λw14 k14=>?_
   ·simp only[Option.isNone_some,sb,show((0:Int) !=0)=false from rfl];exact hJ _ (Aa.refl _ _)
   simp only[Ae];obtain⟨T1,hT1⟩:∃T1:Nat->Nat,T1=λb=>if T2 b≠0/\T2 b≠20 then 20 else T b:=⟨_,rfl⟩;have eT:∀b,b<w12.heap.size->T b≠20->T1 b=T b/\(T2 b=0\/T2 b=20):=λb hb hn=>by
    have h2:T2 b=0\/T2 b=20:=Classical.byContradiction λhc=>by
     rw[not_or]at hc;rcases hT13 b hc.1 with h|h|h
     ·rw[h]at hn;exact hn S.t9
     ·exact hc.2 (hF13 b h)
     ·omega
    rw[hT1];exact⟨if_neg λhc=>by omega,h2⟩
   have s13:CH 20 T T1 w12 w13:=⟨k13.FY (by simp),λb hb hn=>(eT b hb hn).1⟩;have g1:=S.A.g.kk (by omega) s13 λb hb=>by
    rw[hT1]at hb;dsimp only at hb;split at hb
    ·rename_i hc;exact g13.r.bd b hc.1
    ·exact Nat.lt_of_lt_of_le (S.A.g.r.bd b hb) k13.size
   have t2z:∀b,b<w12.heap.size->b≠a9->b≠a11->T b=0->T2 b=0/\T1 b=0:=λb hb h1 h2 h0=>by
    have e2:T2 b=0:=Classical.byContradiction λhn=>by
     rcases hT13 b hn with h|h|h
     ·exact h1 h
     ·rcases h with h|h
      ·exact h.1 h0
      ·exact h2 h
     ·omega
    exact⟨e2,((eT b hb (by omega)).1).trans h0⟩
   have z4:=t2z a4 (by omega) (by omega) (by omega) S.z.1;have z5:=t2z a5 (by omega) (by omega) (by omega) S.z.2.1;have z10:=t2z a10 (by omega) (by omega) (by omega) S.z.2.2;have t11:=hF13 a11 (.inr rfl);have t11':T1 a11=20:=by rw[hT1];exact(if_neg λhc=>hc.2 t11).trans S.t11
   have L13:Aow w w13 m1 m2 a7 a9 T1 T2 X X2 ⟨none,0,0⟩ [] [(a11,20,.cells #[.pointer none,.pointer (some ⟨m1,0,none⟩),.pointer none] 73 (0,0)),(a5,0,.cells #[.string cK,.string mK] 37 (0,0)),(a10,0,.cells #[.pointer none,.pointer (some ⟨a7,0,none⟩),.pointer (some ⟨a9,0,none⟩)] 72 (0,0))]:=by
    refine⟨⟨g1,g13,λx h0 h2=>?_,λx h0 h2=>?_⟩,S.A.L,λb hb=>(by rw[p13]at hb;cases hb),⟨S.A.se,S.A.hn⟩,⟨st13,by rw[sm13];exact n98⟩,AE.nil _ _,by simp[Ai],by simp,λp hp=>?_,λb hb=>?_,Aj S.kp k13⟩
    ·rw[hT1]at h0 h2;dsimp only at h0 h2;split at h0
     ·rename_i hc;rw[if_pos hc]at h2;exact absurd rfl h2
     ·rename_i hc;rw[if_neg hc]at h2;exact hF13 x (.inl ⟨h0,h2⟩)
    ·rw[hT1];exact if_pos ⟨h0,h2⟩
    ·rcases List.mem_cons.1 hp with rfl|hp
     ·exact⟨k13.Aw S.h11,by simp[Ai],⟨t11',t11⟩,.inr rfl⟩
     ·rcases List.mem_cons.1 hp with rfl|hp
      ·exact⟨k13.Aw S.h5,by simp[Ai],⟨z5.2,z5.1⟩,.inl rfl⟩
      ·rw[List.mem_singleton.1 hp];exact⟨k13.Aw S.Q8,by simp[Ai],⟨z10.2,z10.1⟩,.inl rfl⟩
    ·have h2:T2 b≠0->w.heap.size<=b:=λhn=>by
      rcases hT13 b hn with h|h|h
      ·rw[h];exact S.hT a9 (by rw[S.t9];decide)
      ·rcases h with h|h
       ·exact S.hT b h.1
       ·rw[h];exact S.hT a11 (by rw[S.t11];decide)
      ·omega
     by_cases hn:T2 b=0
     ·have hb:=hb.resolve_right (λh=>h hn);rw[hT1]at hb;dsimp only at hb;rw[if_neg (λhc=>hc.1 hn)]at hb;exact S.hT b hb
     ·exact h2 hn
   refine ixk (by decide) (by decide) ?_;show St ⟨a11,2,none⟩ _ _ w14;refine Ax (k14.Aw (k13.Aw S.h11)) 2 _ rfl (by simp) λw15 h15 k15=>?_;simp only[Ck]at h15;have L15:=(L13.Ab k14).set k15 h15 (by
    intro p hp;rcases List.mem_cons.1 hp with rfl|hp
    ·show a5≠a11;omega
    ·rw[List.mem_singleton.1 hp];show a10≠a11;omega)
   have hJ15:PX X2.p:=by rw[p13];exact PXz (by omega) o3 (by omega)
   refine Agc L15.two.b hJ15 (λb hb=>(by rw[p13]at hb;cases hb)) (maM 2 ⟨some ⟨a4,0,none⟩,3,3⟩) (maD (Adt (k15.Mw (k14.Aw (k13.Aw S.h4)) (by omega))).C6 λb hb=>(by rw[AjF b hb];exact z4.1)) (AkQ 2) (show(3:Nat)<=140737488355328 by decide) (λhbad=>?_) ?_
   ·rw[p13]at hbad;exact absurd (hbad.symm.trans (Aji M2)) (by decide)
   intro _ so sw out wr X3 T3 w16 g16 p16 o16 w16' i16 f16 e16;have p16:X3.p=Aox 2 M2:=by
    rw[p16,p13];exact Aly M2
   obtain⟨L16,_⟩:=L15.symm.step g16 (evM e16) (λb hb=>(by rw[p16]at hb;cases hb)) ⟨f16.BD.trans st13,by rw[f16.sM,sm13];exact n98⟩;refine⟨0,by decide,?_⟩;rw[hIv];exact .inr (.inr ⟨rfl,rfl,m1,m2,_,T3,X,X3,L16.symm,by rw[S.p,p16];exact rnd0⟩)
  ·dsimp only;rw[decide_eq_false (show ¬(3:Int)<=2 by decide)];simp only[Ae];obtain⟨Bs,hBs⟩:∃Bs:List (Nat×Nat×Obj),Bs=[(a11,20,.cells #[.pointer none,.pointer (some ⟨m1,0,none⟩),.pointer (some ⟨m2,0,none⟩)] 73 (0,0)),(a5,0,.cells #[.string cK,.string mK] 37 (0,0)),(a10,0,.cells #[.pointer none,.pointer (some ⟨a7,0,none⟩),.pointer (some ⟨a9,0,none⟩)] 72 (0,0))]:=⟨_,rfl⟩;rw[<-hBs]at L3;have b11:(a11,20,Obj.cells #[.pointer none,.pointer (some ⟨m1,0,none⟩),.pointer (some ⟨m2,0,none⟩)] 73 (0,0))∈Bs:=by rw[hBs];exact List.mem_cons_self ..
   have b5:(a5,0,Obj.cells #[.string cK,.string mK] 37 (0,0))∈Bs:=by rw[hBs];exact List.mem_cons_of_mem _ (List.mem_cons_self ..)
   have b10:(a10,0,Obj.cells #[.pointer none,.pointer (some ⟨a7,0,none⟩),.pointer (some ⟨a9,0,none⟩)] 72 (0,0))∈Bs:=by rw[hBs];exact List.mem_cons_of_mem _ (List.mem_cons_of_mem _ (List.mem_cons_self ..))
   clear hBs;have nBs:∀p∈Bs,p.1<w12.heap.size:=λp hp=>Av (L3.bs p hp).1;have c5:=(L3.bs _ b5).1;dsimp only at c5;simp only[sb,c5];refine Aik (cpM false) λa23 w13 h23 n23 k13=>?_;obtain⟨T1c,T2c,L13⟩:=L3.AkX k13 h23 n23;have ne23:∀p∈Bs,p.1≠a23:=λp hp e=>by have:=nBs p hp;omega
   clear c5;refine AG (λs w'=>s.2.1=true/\∃(T1 T2:Nat->Nat) (X1 X2:Mc) (q:Sl) (Cs:List (Nat×Nat×Obj)),Aow w w' m1 m2 a7 a9 T1 T2 X1 X2 q [] Cs/\(∀p∈Bs,p∈Cs)/\AU X1.d.M/\AU X2.d.M/\X1.d.M.length<=100000/\X2.d.M.length<=100000/\∀k,Kx k=true->YI cK mK k=true->Eqk k X2.d.M X1.d.M) (λJ hJ=>?_) ?_
   ·obtain⟨I2,hI2⟩:∃I2:Nat->Bool×Bool×Int×Unit->World->Prop,I2=λn stt w'=>∃(i:Nat) (fo fc:Bool) (T1 T2:Nat->Nat) (X1 X2:Mc),stt=(false,fo,(i:Int),())/\n=l.length+1-i/\i<=l.length/\Aow w w' m1 m2 a7 a9 T1 T2 X1 X2 ⟨none,0,0⟩ [] ((a23,20,.cells (Yz.c (cpM fc)).toArray 47 (0,0))::Bs)/\Rnd i X1.p X2.p:=⟨_,rfl⟩;refine⟨I2,⟨l.length+1,by rw[hI2];exact⟨0,false,false,T1c,T2c,X1,X2,rfl,rfl,Nat.zero_le _,L13,R3⟩⟩,?_⟩;intro n stt w14 hv;rw[hI2]at hv;clear L3 L13 R3;obtain⟨i,fo,fc,T1,T2,X1,X2,rfl,rfl,hi,L14,R14⟩:=hv;dsimp only;have hw60:An (((pl.len:Nat):Int)+60)=((l.length+60:Nat):Int):=by rw[hl,By (by omega) (by omega)];omega
    rw[hw60,show decide ((i:Int)<((l.length+60:Nat):Int))=true from decide_eq_true (by omega)];simp only[Af];refine Ad λa47 w15 h47 n47 k15=>?_;have L15:=(L14.Ab k15).nil (r:=⟨some ⟨a47,0,none⟩,0,0⟩) ⟨rfl,Nat.le_refl _,.inl rfl⟩ rfl;clear L14;have e1:IntKind.u64.wrap (An ((i:Int)+1))=(i:Int)+1:=by
     rw[By (by omega) (by omega)];have:=B1 (n:=i+1) (by omega)
     rwa [Int.natCast_succ]at this
    refine AG (λs w'=>∃(T1 T2:Nat->Nat) (Q:List Mg),Aow w w' m1 m2 a7 a9 T1 T2 X1 X2 s.1 Q ((a23,20,.cells (Yz.c (cpM fc)).toArray 47 (0,0))::Bs)/\(Q=[]\/(i<l.length/\∃ops,A9 ops=0/\ops.length<=4/\0<ops.length/\Q.map Mg.p=[K0 (i+1) ops,YH (i+1)]))) (λJ3 hJ3=>?_) ?_
    ·refine AG (λs w'=>(s.1=true->∃y,l[i]?=some y/\A9 y.ops=0/\y.ops.length<=4/\0<y.ops.length)/\Aa [] w15 w') (λJ2 hJ2=>?_) ?_
     ·by_cases hlt:i<l.length
      ·rw[show decide ((i:Int)<((pl.len:Nat):Int))=true from decide_eq_true (by omega)];simp only[Af];obtain⟨y,hy⟩:∃y,l[i]?=some y:=⟨_,List.getElem?_eq_getElem hlt⟩;have hym:=List.mem_of_getElem? hy;have hp15:=h.Ab L15.kp;have hyl:=(hD y hym).len;refine lds hp15 hy ?_;by_cases h0:0<y.ops.length
       ·rw[show decide (((y.s.len:Nat):Int)>0)=true from decide_eq_true (by omega)];simp only[Af];refine lds hp15 hy ?_;by_cases h4':y.ops.length<=4
        ·rw[show decide (((y.s.len:Nat):Int)<=4)=true from decide_eq_true (by omega)];simp only[Af];refine lds hp15 hy ?_;refine AdL ((hD y hym).Ab L15.kp) (by omega) λw16 k16=>?_;exact hJ2 _ w16 ⟨λhv=>⟨y,hy,by simpa using hv,h4',h0⟩,k16⟩
        ·rw[show decide (((y.s.len:Nat):Int)<=4)=false from decide_eq_false (by omega)];simp only[Ae];exact hJ2 _ w15 ⟨(λhv=>by cases hv),Aa.refl _ _⟩
       ·rw[show decide (((y.s.len:Nat):Int)>0)=false from decide_eq_false (by omega)];simp only[Ae];exact hJ2 _ w15 ⟨(λhv=>by cases hv),Aa.refl _ _⟩
      ·rw[show decide ((i:Int)<((pl.len:Nat):Int))=false from decide_eq_false (by omega)];simp only[Ae];exact hJ2 _ w15 ⟨(λhv=>by cases hv),Aa.refl _ _⟩
     ·rintro⟨v,⟨⟩⟩ w16 ⟨hv,k16⟩;have L16:=L15.Ab k16;cases v with
      |false=>
       simp only[Ae];exact hJ3 _ w16 ⟨T1,T2,[],L16,.inl rfl⟩
      |true=>
       simp only[Af];obtain⟨y,hy,ho,hy4,h0⟩:=hv rfl;have hym:=List.mem_of_getElem? hy;refine lds (h.Ab L16.kp) hy ?_;simp only[e1];refine Ad λa116 w17 h116 n116 k17=>?_;have L17:=L16.Ab k17;have hy17:=(hD y hym).Ab L17.kp;have zy:∀b∈rb y.s,T1 b=0/\T2 b=0:=λb hb=>by
        have:=(hD y hym).lt b hb;have h9:=L17.hT b;omega
       refine AE.app (ρ:=Yz) (l:=[]) (new:=[woM ((i:Int)+1) y.s y.ops,deM ((i:Int)+1)]) L17.sq (AkO h116) rfl (by rw[AhR];rfl) (by show(0+2)*232<=_;omega) (by show 0+2<=_;omega) ?_;intro r w18 hr k18 fr;obtain⟨L18,_,_⟩:=L17.app hr k18 fr (λx hx=>by
        rcases List.mem_cons.1 hx with rfl|hx
        ·exact⟨woD hy17 λb hb=>(zy b hb).1,woD hy17 λb hb=>(zy b hb).2⟩
        ·rw[List.mem_singleton.1 hx];exact⟨deD _,deD _⟩)
       exact hJ3 _ w18 ⟨_,_,_,L18,.inr ⟨(List.getElem?_eq_some_iff.1 hy).1,y.ops,ho,hy4,h0,rfl⟩⟩
    ·rintro⟨q,⟨⟩⟩ w16 ⟨T1,T2,Q,L16,hQ⟩;have c23:=(L16.bs _ (List.mem_cons_self ..)).1;dsimp only at c23;obtain⟨fin,hfin⟩:∃fin,fin=decide ((i:Int)>=((pl.len:Nat):Int)):=⟨_,rfl⟩;rw[<-hfin];have hfi:fin=decide (l.length<=i):=by rw[hfin,hl];exact decide_eq_decide.2 (by omega)
     clear hfin;simp only[sb];refine Ax c23 15 _ rfl (by show 15<21;decide) λw17 h17 k17=>?_;have L17:=L16.set (o:=.cells (Yz.c (cpM fin)).toArray 47 (0,0)) k17 (by rw[h17];rfl) ne23;refine AG (λs w'=>∃ll,A1 flR w s.1 ll/\(fin=true->ll=[])/\Aa [] w17 w') (λJ5 hJ5=>?_) ?_
     ·cases fin with
      |true=>
       simp only[Af];exact hJ5 _ w17 ⟨[],A1.nil _,λ_=>rfl,Aa.refl _ _⟩
      |false=>
       simp only[Ae];exact hJ5 _ w17 ⟨fl,hF,(λh'=>by cases h'),Aa.refl _ _⟩
     rintro⟨lost,⟨⟩⟩ w18 ⟨lll,hlo,hlf,k18⟩;have L18:=L17.Ab k18;have c11:=(L18.bs _ (List.mem_cons_of_mem _ b11)).1;dsimp only at c11;refine ixk (by decide) (by decide) ?_;simp only[sb,c11,show(Int.toNat 1*1:Nat)=0+1 from rfl];have R14':=R14;obtain⟨nx,G1x,G2x,Idx,_⟩:=R14';obtain⟨tk1,tk2,R14c,tk3⟩:=Aka R14;refine AhO L18.two.a G1x.x (λc hc=>?_) ?_
     ·have h1:X1.p.box=some X1.d.box.p:=by show X1.d.bx.map _=_;rw[hc];rfl
      have h1:=L18.l1 _ h1;have h2:X1.d.box.p.load=X1.d.box.load:=rfl;rw[h2]at h1;omega
     intro so sw out wr X3 T3 w19 lb g19 p19 o19 wr19 i19 f19 e19;rw[tk2]at p19;rw[tk1]at o19;obtain⟨L19,im19⟩:=L18.step g19 (evM e19) (by rw[p19];exact L18.l1) ⟨f19.BD.trans L18.s1.1,by rw[f19.sM];exact L18.s1.2⟩;have d19:Bq T3 (λw=>A1 Yz w so out/\∀x∈out,Su x w) w19:=i19.map λw hw=>⟨hw.1,hw.2.1⟩;have d19':=im19 _ d19;refine Ad λa55 w20 h55 n55 k20=>?_;refine Mf h55 rfl rfl rfl λw21 h55 k21=>?_;have k1921:=BT k20 k21 n55;have L21:=L19.box k1921 h55 n55;have mem:∀{p},p∈Bs->p∈((a55,0,Obj.cells #[.slice so.p so.len so.cap,.slice sw.p sw.len sw.cap,.bool lb] 52 (0,0))::(a23,20,Obj.cells (Yz.c (cpM fin)).toArray 47 (0,0))::Bs):=λhp=>List.mem_cons_of_mem _ (List.mem_cons_of_mem _ hp);generalize hCs:((a55,0,Obj.cells #[.slice so.p so.len so.cap,.slice sw.p sw.len sw.cap,.bool lb] 52 (0,0))::(a23,20,Obj.cells (Yz.c (cpM fin)).toArray 47 (0,0))::Bs:List (Nat×Nat×Obj))=Cs at L21 mem;have b55:(a55,0,Obj.cells #[.slice so.p so.len so.cap,.slice sw.p sw.len sw.cap,.bool lb] 52 (0,0))∈Cs:=by rw[<-hCs];exact List.mem_cons_self ..
     have b23:(a23,20,Obj.cells (Yz.c (cpM fin)).toArray 47 (0,0))∈Cs:=by rw[<-hCs];exact List.mem_cons_of_mem _ (List.mem_cons_self ..)
     have mem2:∀{p},p∈((a23,20,Obj.cells (Yz.c (cpM fin)).toArray 47 (0,0))::Bs)->p∈Cs:=λhp=>by rw[<-hCs];exact List.mem_cons_of_mem _ hp
     clear hCs L19 L18 L17;have c11:=(L21.bs _ (mem b11)).1;have c10:=(L21.bs _ (mem b10)).1;have c23:=(L21.bs _ b23).1;have c55:=(L21.bs _ b55).1;dsimp only at c11 c10 c23 c55;rw[show(Yz.c (cpM fin)).toArray=Sm (cpM fin)from rfl]at c23;simp only[show((0:Int) !=0)=false from rfl,sb,c11,c10,c55,c23,Sm];refine Ad λa84 w22 h84 n84 k22=>?_;have k2122:=Aj (Am w21) k22;have L22:=L21.Ab k2122;have c11:=k2122.Aw c11;have c10:=k2122.Aw c10;have c55:=k2122.Aw c55;simp only[sb,c11,c10,c55];refine⟨by trivial,by trivial,by trivial,?_⟩;have ql:q.len=Q.length:=L22.sq.BY;have Ql:Q.length<=2:=by
      rcases hQ with e|⟨_,ops,_,_,_,e⟩
      ·rw[e];simp
      ·have:=congrArg List.length e;rw[List.length_map]at this;rw[this];simp
     refine AE.app (ρ:=Yz) (new:=[cpM fin]) L22.sq (by rw[List.flatMap_singleton];exact BI (ρ:=Yz) (x:=cpM fin) h84) rfl (by rw[AhR];rfl) (by rw[ql];omega) (by rw[ql];omega) ?_;intro r w23 hr k23 fr;obtain⟨L23,t1,t2⟩:=L22.app hr k23 fr (λx hx=>by rw[List.mem_singleton.1 hx];exact⟨cpD _,cpD _⟩);have k1922:=Aj k1921 k2122;have d23:=(d19.Ab k1922).kt (by decide) t1;have d23':=(d19'.Ab k1922).kt (by decide) t2;have c11:=(L23.bs _ (mem b11)).1;have c10:=(L23.bs _ (mem b10)).1;have c55:=(L23.bs _ b55).1;dsimp only at c11 c10 c55;simp only[sb,c11,c10,c55];refine⟨by trivial,by trivial,by trivial,?_⟩;have ol:out.length<=1:=by
      have:=congrArg List.length o19;rw[List.length_map]at this;rw[this];exact Aey.2
     have sl:=d23.ok.1.len;have rl:r.len=(Q++[cpM fin]).length:=L23.sq.BY;rw[List.length_append,List.length_singleton]at rl;refine AE.app (ρ:=Yz) (new:=out) L23.sq d23.ok.1.rd sl (by rw[AhR];rfl) (by rw[rl,sl];omega) (by rw[rl,sl];omega) ?_;intro r2 w24 hr2 k24 fr2;obtain⟨L24,_,_⟩:=L23.app hr2 k24 fr2 (λx hx=>⟨d23.map (ψ:=Su x) λw h=>h.2 x hx,d23'.map (ψ:=Su x) λw h=>h.2 x hx⟩);have c11:=(L24.bs _ (mem b11)).1;have c10:=(L24.bs _ (mem b10)).1;dsimp only at c11 c10;simp only[sb,c11,c10];refine⟨by trivial,by trivial,?_⟩;have hInv:Inv fin i X3.p X2.p ((Q++[cpM fin]++out).map Mg.p) 0 false:=by
      rw[List.map_append,List.map_append,o19,p19,<-tk3];rcases hQ with e|⟨hlt,ops,ho,h4,h0,e⟩
      ·rw[e];exact AjU R14c (by omega)
      ·have hff:fin=false:=by rw[hfi];exact decide_eq_false (by omega)
       rw[e,hff];exact AjN R14c (by omega) ho h4 h0
     refine AlI L24 hInv hlo hlf ?_;intro fz n T1' T2' X1' X2' q' w25 L25 I25;simp only[Bool.not_true,sb];refine BR (fo||fz) (λJ7 hJ7=>?_) λw26 k26=>?_
     ·cases fo with
      |true=>
       simp only[Af];exact hJ7 _ (Aa.refl _ _)
      |false=>
       simp only[Ae];exact hJ7 _ (Aa.refl _ _)
     have L26:=L25.Ab k26;refine BR ((fo||fz)&&fin) (λJ7 hJ7=>?_) λw27 k27=>?_
     ·cases hfo:(fo||fz)with
      |true=>
       rw[hfo]at hJ7;simp only[Af];exact hJ7 _ (Aa.refl _ _)
      |false=>
       rw[hfo]at hJ7;simp only[Ae];exact hJ7 _ (Aa.refl _ _)
     have L27:=L26.Ab k27;have I25':=I25;obtain⟨nx',G1',G2',_⟩:=I25';cases fin with
     |true=>
      obtain⟨hz,heq⟩:=AkD I25;rw[hz];simp only[Bool.or_true,Bool.and_true,Af];have e2:((X2'.d.M.length:Nat):Int)<=40+6*nx':=G2'.ml;have e3:=G2'.nn;exact hJ _ w27 ⟨rfl,T1',T2',X1',X2',q',Cs,L27,λp hp=>mem hp,G1'.x.j.ok.mp,G2'.x.j.ok.mp,Nat.le_trans (show X1'.d.M.length<=1000 from G1'.ml) (by decide),by omega,heq⟩
     |false=>
      have hlt:¬l.length<=i:=of_decide_eq_false hfi.symm;simp only[Bool.and_false,Ae];refine⟨l.length+1-(i+1),by omega,?_⟩;rw[hI2];exact⟨i+1,fo||fz,false,T1',T2',X1',X2',by rw[By (by omega) (by omega)];rfl,rfl,by omega,(L27.less λp hp=>mem2 hp).nil (AE.nil _ _) (by simp[Ai]),Ak2 I25⟩
   ·rintro⟨b,fz,⟨⟩⟩ w14 ⟨hfz,T1,T2,X1,X2,q,Cs,L,hCs,ok1,ok2,n1,n2,eq⟩;have hfz:fz=true:=hfz;subst hfz;have c5:=(L.bs _ (hCs _ b5)).1;have c10:=(L.bs _ (hCs _ b10)).1;dsimp only at c5 c10;have s1:=L.two.a.r.RF.ok.1;have s2:=L.two.b.r.RF.ok.1;have r1:=L.two.a.r.RF.ok.2;have r2:=L.two.b.r.RF.ok.2;rw[L.s1.1]at s1;rw[L.s2.1]at s2;simp only[sb];refine ixk (by decide) (by decide) ?_;simp only[sb,c10,s1,c5,show(Int.toNat 1*1:Nat)=0+1 from rfl];refine ixk (by decide) (by decide) ?_;simp only[sb,c10,s2,c5,show(Int.toNat 2*1:Nat)=0+1+1 from rfl];refine Zj (r1.Ab (Am w14)) (by omega) cK mK (-1) λr3 w15 hr3 f3 k15=>?_;have k1415:=Aj (Am w14) k15;have c5:=k1415.Aw c5;have c10:=k1415.Aw c10;have s2:=k1415.Aw s2;simp only[sb,c10,s2,c5];refine⟨by trivial,by trivial,by trivial,?_⟩;refine Zj (r2.Ab k1415) (by omega) cK mK (-1) λr4 w16 hr4 f4 k16=>?_;have e:=AgH kr0.r ok2 ok1 eq;refine Ajc (hr3.C6.Ab k16) (by rw[<-e];exact hr4.C6) (by have:=(R7 ok1 cK mK).2;omega) λw17 k17=>?_;exact k w17 (Aj L.kp (Aj (Aj k1415 k16) k17))
open Go Go.Sx Go.ChangeShapes Go.WideShapes Go.ChangeAt Go.RowKit
section
variable {H:Type}{enc:TypeId×Value->H}{W:World}
theorem AkB {v:Value}(h:Tz enc Pg W 68 v):∃(s:Sl) (l:List OpL),v=.slice s.p s.len s.cap/\A1 osR W s l/\s.len*Pg.bytesOf 44<=140737488355328/\∀y∈l,A1 BQ W y.s y.ops:=
 h.list (k:=6) (e:=44) (L:=[44]) (ρ:=osR) (by kernel_rfl) (by kernel_rfl) (by kernel_rfl) (by kernel_rfl) λy hy=>by
  obtain⟨s,l,e,hl,_,_⟩:=AhM hy.1;have e:=Xs e;exact⟨⟨y.1,l⟩,rfl,by rw[e];exact hl⟩
end
end Go.Proofs.YthkdehgfdllpoaaGreat
