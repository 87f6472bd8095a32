/- The parts of the proof, 7: words of the program, and what they do. Conditions: none. -/
import Derived.Test.YthkdehgfdllpoaaGreatPk6
set_option maxRecDepth 100000
set_option maxHeartbeats 1000000
set_option linter.unusedVariables false
set_option linter.unusedSimpArgs false
set_option linter.unusedSectionVars false
namespace Go.Proofs.YthkdehgfdllpoaaGreat
open Go Go.Sx
theorem QB (x y:Ak)(h:x.n=y.n):B8 x y=false:=by
 unfold B8;rw[show(x.n !=y.n)=false from by simp[h]];simp
theorem Mv {Q:TS->List Int->List Int->Prop}(hstep:∀s g d x,Q s g d->x∈s.wait->P1 s x=true->Q (Dd x s).2 (g++[x.n]) (d++(Dd x s).1)) :
  ∀{k:Nat} {s:TS} {g d:List Int},Q s g d->Q (AT k s g d).1 (AT k s g d).2.1 (AT k s g d).2.2
 |0,s,g,d,h=>h
 |k+1,s,g,d,h=>by
  unfold AT;split
  ·exact h
  ·rename_i x hx;exact Mv hstep (hstep s g d x h (List.mem_of_find?_eq_some hx) (List.find?_some hx))
theorem Ep (d:List Int):∀(s:TS) (y:Ak),(y∈(Ca d s).held↔y∈s.held/\y.n∉d)/\(y∈(Ca d s).wait↔y∈s.wait/\y.n∉d):=by
 unfold Ca;induction d with
 |nil=>intro s y;simp
 |cons n d ih=>
  intro s y;rw[List.foldl_cons];obtain⟨h1,h2⟩:=ih (CJ n s) y;rw[h1,h2];unfold CJ;simp only[List.mem_filter,List.mem_cons,not_or,Bool.not_eq_true',beq_eq_false_iff_ne];exact⟨⟨λh=>⟨h.1.1,h.1.2,h.2⟩,λh=>⟨⟨h.1,h.2.1⟩,h.2.2⟩⟩,⟨λh=>⟨h.1.1,h.1.2,h.2⟩,λh=>⟨⟨h.1,h.2.1⟩,h.2.2⟩⟩⟩
theorem Iw {x:Ak}{l:List Ak}{n:Int}(h:n∈Ed x l):∃y∈l,y.n=n/\x.n<n:=by
 unfold Ed at h;simp only[List.mem_map,List.mem_filter,Bool.and_eq_true,decide_eq_true_iff]at h;obtain⟨y,⟨h1,h2,h3⟩,rfl⟩:=h;exact⟨y,h1,rfl,h2⟩
def G4 (t:Int)(l:Lk):Ak:=⟨t,l.lo,l.hi,l.wr⟩
theorem Yq {a b:ByteArray}(h:Da a b=true):CW a b a b=true:=by
 unfold CW;rw[h];have e:AV b b=b:=by unfold AV;split<;>rfl
 rw[e,Ki,Ki];simp
theorem Qs {x:Ak}(h:Da x.lo x.hi=true):F7 x x=true:=by
 unfold F7;rw[Yq h];cases x.wr<;>simp
theorem QT {x y:Ak}(h:F7 x y=true):y.n=x.n:=by
 unfold F7 at h;rw[Bool.and_eq_true]at h;simpa using h.1
structure F1 (W:List PW)(H:List PH)(s:TS)(D:Int->Prop)(G:List Int):Prop where
 snd:∀x∈s.held,∀y∈s.held,B8 x y=false
 hc:∀h∈H,∀o∈h.ops,∃y∈s.held,F7 (G4 h.Ah (AI o)) y=true
 wt:∀y∈s.wait,¬D y.n/\y.n∉G/\∃p∈W,p.Ah=y.n/\∃(i:Nat) (lk:Lk),(i:Int)+1=p.next/\p.BB[i]?=some lk/\y=G4 p.Ah lk
 wc:∀p∈W,D p.Ah\/∀(i:Nat) (lk:Lk),(i:Int)<p.next->p.BB[i]?=some lk->(∃y∈s.held,F7 (G4 p.Ah lk) y=true)\/((i:Int)+1=p.next/\G4 p.Ah lk∈s.wait)
 dg:∀t∈G,¬D t
 nd:G.Nodup
structure LIE (W:List PW)(H:List PH):Prop where
 un:∀p∈W,∀q∈W,p.Ah=q.Ah->p=q
 dj:∀p∈W,∀h∈H,p.Ah≠h.Ah
 ok:∀p∈W,∀lk∈p.BB,Da lk.lo lk.hi=true
section
variable {W:List PW}{H:List PH}{s:TS}{D:Int->Prop}{G:List Int}
theorem F1.drop (h:F1 W H s D G)(e:LIE W H){d:List Int}(hd:∀n∈d,(∃p∈W,p.Ah=n)/\n∉G):F1 W H (Ca d s) (λt=>D t\/t∈d) G:=by
 refine⟨λx hx y hy=>h.snd x ((Ep d s x).1.1 hx).1 y ((Ep d s y).1.1 hy).1,λg hg o ho=>?_,λy hy=>?_,λp hp=>?_,λt ht h'=>?_,h.nd⟩
 ·obtain⟨y,h1,h2⟩:=h.hc g hg o ho;refine⟨y,(Ep d s y).1.2 ⟨h1,λhn=>?_⟩,h2⟩;obtain⟨p,hp,e1⟩:=(hd _ hn).1;exact e.dj p hp g hg (e1.trans (QT h2))
 ·obtain⟨h1,h2⟩:=(Ep d s y).2.1 hy;obtain⟨a,b,c⟩:=h.wt y h1;exact⟨λhD=>hD.elim a h2,b,c⟩
 ·by_cases hn:p.Ah∈d
  ·exact .inl (.inr hn)
  ·rcases h.wc p hp with h1|h1
   ·exact .inl (.inl h1)
   ·refine .inr λi lk hi hl=>?_;rcases h1 i lk hi hl with⟨y,h2,h3⟩|⟨h2,h3⟩
    ·exact .inl ⟨y,(Ep d s y).1.2 ⟨h2,by rw[QT h3];exact hn⟩,h3⟩
    ·exact .inr ⟨h2,(Ep d s _).2.2 ⟨h3,hn⟩⟩
 ·rcases h' with h'|h'
  ·exact h.dg t ht h'
  ·exact(hd t h').2 ht
theorem F1.add (h:F1 W H s D G){x:Ak}(hx:∀y∈s.held,B8 x y=false):F1 W H ⟨s.held++[x],s.wait⟩ D G:=by
 refine⟨λa ha b hb=>?_,λg hg o ho=>?_,h.wt,λp hp=>?_,h.dg,h.nd⟩
 ·simp only[List.mem_append,List.mem_singleton]at ha hb;rcases ha with ha|rfl<;>rcases hb with hb|rfl
  ·exact h.snd a ha b hb
  ·rw[AcZ];exact hx a ha
  ·exact hx b hb
  ·exact QB _ _ rfl
 ·obtain⟨y,h1,h2⟩:=h.hc g hg o ho;exact⟨y,List.mem_append.2 (.inl h1),h2⟩
 ·rcases h.wc p hp with h1|h1
  ·exact .inl h1
  ·refine .inr λi lk hi hl=>?_;rcases h1 i lk hi hl with⟨y,h2,h3⟩|h2
   ·exact .inl ⟨y,List.mem_append.2 (.inl h2),h3⟩
   ·exact .inr h2
theorem Ad8 {x:Ak}(h:P1 s x=true):∀y∈s.held,B8 x y=false:=by
 unfold P1 at h;rw[Bool.not_eq_true',List.any_eq_false]at h;intro y hy;have:=h y hy;simpa using this
theorem F1.pick (h:F1 W H s D G)(e:LIE W H){x:Ak}(hx:x∈s.wait)(hf:P1 s x=true):F1 W H (Dd x s).2 (λt=>D t\/t∈(Dd x s).1) (G++[x.n]):=by
 obtain⟨d1,g1,p,hp,e1,i,lk,hi,hl,ex⟩:=h.wt x hx;have h1:=h.add (Ad8 hf);have hok:Da x.lo x.hi=true:=by rw[ex];exact e.ok p hp lk (List.mem_of_getElem? hl)
 have hm:F1 W H ⟨s.held++[x],s.wait.filter (λy=>!(y.n==x.n))⟩ D (G++[x.n]):=by
  refine⟨h1.snd,h1.hc,λy hy=>?_,λq hq=>?_,λt ht=>?_,?_⟩
  ·rw[List.mem_filter]at hy;obtain⟨a,b,c⟩:=h.wt y hy.1;refine⟨a,λhg=>?_,c⟩;rcases List.mem_append.1 hg with hg|hg
   ·exact b hg
   ·have:=hy.2;simp at this hg;exact this hg
  ·rcases h1.wc q hq with h2|h2
   ·exact .inl h2
   ·refine .inr λj l2 hj hl2=>?_;rcases h2 j l2 hj hl2 with h3|⟨h3,h4⟩
    ·exact .inl h3
    ·by_cases hn:q.Ah=x.n
     ·have:=e.un q hq p hp (hn.trans e1.symm);subst this;have:j=i:=by omega
      subst this;rw[hl]at hl2;injection hl2 with hl2;subst hl2;rw[<-ex];exact .inl ⟨x,List.mem_append.2 (.inr (List.mem_singleton.2 rfl)),Qs hok⟩
     ·refine .inr ⟨h3,List.mem_filter.2 ⟨h4,?_⟩⟩;simpa[G4]using hn
  ·rcases List.mem_append.1 ht with ht|ht
   ·exact h.dg t ht
   ·rw[List.mem_singleton.1 ht];exact d1
  ·rw[List.nodup_append];refine⟨h.nd,by simp,λa ha b hb=>?_⟩;rw[List.mem_singleton.1 hb];exact λe=>g1 (e▸ha)
 unfold Dd AL;refine hm.drop e λn hn=>?_;obtain⟨y,hy,e2,_⟩:=Iw hn;obtain⟨_,b,q,hq,e3,_⟩:=hm.wt y hy;exact⟨⟨q,hq,e3.trans e2⟩,by rw[<-e2];exact b⟩
theorem F1.settle (e:LIE W H){k:Nat}{g d:List Int}(h:F1 W H s (λt=>D t\/t∈d) (G++g)):F1 W H (AT k s g d).1 (λt=>D t\/t∈(AT k s g d).2.2) (G++(AT k s g d).2.1):=by
 refine Mv (Q:=λs g d=>F1 W H s (λt=>D t\/t∈d) (G++g)) ?_ h;intro s g d x h hx hf;have:=h.pick e hx hf;rw[List.append_assoc]at this;refine⟨this.snd,this.hc,λy hy=>?_,λp hp=>?_,λt ht h'=>?_,this.nd⟩
 ·obtain⟨a,b⟩:=this.wt y hy;exact⟨λh'=>a (by rcases h' with h'|h';exact .inl (.inl h');exact(List.mem_append.1 h').elim (λh=>.inl (.inr h)) .inr),b⟩
 ·rcases this.wc p hp with h1|h1
  ·refine .inl ?_;rcases h1 with(h1|h1)|h1
   ·exact .inl h1
   ·exact .inr (List.mem_append.2 (.inl h1))
   ·exact .inr (List.mem_append.2 (.inr h1))
  ·exact .inr h1
 ·refine this.dg t ht ?_;rcases h' with h'|h'
  ·exact .inl (.inl h')
  ·exact(List.mem_append.1 h').elim (λh=>.inl (.inr h)) .inr
theorem F1.Akz {g d:List Int}(h:F1 W H s (λt=>D t\/t∈d) (G++g)):F1 W H s (λt=>D t\/t∈Dk d) (G++Dk g):=by
 refine⟨h.snd,h.hc,λy hy=>?_,λp hp=>?_,λt ht h'=>?_,?_⟩
 ·obtain⟨a,b,c⟩:=h.wt y hy;refine⟨λh'=>a (by rw[EP]at h';exact h'),λhg=>b ?_,c⟩;rw[List.mem_append,EP]at hg;exact List.mem_append.2 hg
 ·rcases h.wc p hp with h1|h1
  ·exact .inl (by rw[EP];exact h1)
  ·exact .inr h1
 ·rw[List.mem_append,EP]at ht;rw[EP]at h';exact h.dg t (List.mem_append.2 ht) h'
 ·have hn:=h.nd;rw[List.nodup_append]at hn ⊢;refine⟨hn.1,(Sg g).imp (λh=>Int.ne_of_lt h),λa ha b hb=>?_⟩;rw[EP]at hb;exact hn.2.2 a ha b hb
structure Upd (W W':List PW)(p p':PW):Prop where
 a:∀q∈W',q=p'\/(q∈W/\q.Ah≠p.Ah)
 b:p'∈W'
 c:∀q∈W,q.Ah≠p.Ah->q∈W'
def Pw (p:PW):PW:={p with next:=p.next+1}
theorem Upd.lie {W':List PW}{p:PW}(u:Upd W W' p (Pw p))(e:LIE W H)(hp:p∈W):LIE W' H:=by
 refine⟨λa ha b hb hab=>?_,λa ha h hh=>?_,λa ha lk hl=>?_⟩
 ·rcases u.a a ha with rfl|⟨ha,na⟩<;>rcases u.a b hb with rfl|⟨hb,nb⟩
  ·rfl
  ·exact absurd hab.symm nb
  ·exact absurd hab na
  ·exact e.un a ha b hb hab
 ·rcases u.a a ha with rfl|⟨ha,_⟩
  ·exact e.dj p hp h hh
  ·exact e.dj a ha h hh
 ·rcases u.a a ha with rfl|⟨ha,_⟩
  ·exact e.ok p hp lk hl
  ·exact e.ok a ha lk hl
theorem F1.S0 (h:F1 W H s D G)(e:LIE W H){W':List PW}{p:PW}(hp:p∈W)(u:Upd W W' p (Pw p))(ht:∀y∈s.wait,y.n≠p.Ah)(hD:¬D p.Ah){j:Nat}{lk:Lk}(hj:(j:Int)=p.next)(hl:p.BB[j]?=some lk)(hc:∃y∈s.held,F7 (G4 p.Ah lk) y=true):F1 W' H s D G:=by
 refine⟨h.snd,h.hc,λy hy=>?_,λq hq=>?_,h.dg,h.nd⟩
 ·obtain⟨a,b,q,hq,e1,c⟩:=h.wt y hy;exact⟨a,b,q,u.c q hq (by rw[e1];exact ht y hy),e1,c⟩
 ·rcases u.a q hq with rfl|⟨hq,_⟩
  ·refine .inr λi l2 hi hl2=>?_;have hi:(i:Int)<p.next+1:=hi;have hl2:p.BB[i]?=some l2:=hl2;by_cases hij:i=j
   ·subst hij;rw[hl]at hl2;injection hl2 with hl2;subst hl2;exact .inl hc
   ·rcases h.wc p hp with h1|h1
    ·exact absurd h1 hD
    ·rcases h1 i l2 (by omega) hl2 with h2|⟨h2,h3⟩
     ·exact .inl h2
     ·exact absurd rfl (ht _ h3)
  ·exact h.wc q hq
theorem TZ {x y:Ak}{l:List Ak}:y∈QN x l↔y=x\/y∈l:=by
 unfold QN;simp only[List.mem_append,List.mem_cons,List.mem_filter,Bool.not_eq_true',decide_eq_true_iff,decide_eq_false_iff_not];constructor
 ·rintro(⟨h,_⟩|rfl|⟨h,_⟩)
  ·exact .inr h
  ·exact .inl rfl
  ·exact .inr h
 ·rintro(rfl|h)
  ·exact .inr (.inl rfl)
  ·by_cases hlt:y.n<x.n
   ·exact .inl ⟨h,hlt⟩
   ·exact .inr (.inr ⟨h,hlt⟩)
theorem AdS {x:Ak}{s:TS}:∀y∈(Dd x s).2.wait,y∈s.wait:=by
 intro y hy;unfold Dd AL at hy;have:=((Ep _ _ y).2.1 hy).1;exact(List.mem_filter.1 this).1
theorem Acv {x:Ak}{s:TS}:∀n∈(Dd x s).1,∃y∈s.wait,y.n=n:=by
 intro n hn;unfold Dd AL at hn;obtain⟨y,hy,e,_⟩:=Iw hn;exact⟨y,(List.mem_filter.1 hy).1,e⟩
theorem AaH {N:Int->Prop}{k:Nat}{g d:List Int}(h:(∀y∈s.wait,N y.n)/\(∀n∈g,N n)/\(∀n∈d,N n)):(∀y∈(AT k s g d).1.wait,N y.n)/\(∀n∈(AT k s g d).2.1,N n)/\(∀n∈(AT k s g d).2.2,N n):=by
 refine Mv (Q:=λs g d=>(∀y∈s.wait,N y.n)/\(∀n∈g,N n)/\(∀n∈d,N n)) ?_ h;rintro s g d x ⟨h1,h2,h3⟩ hx hf;refine⟨λy hy=>h1 y (AdS y hy),λn hn=>?_,λn hn=>?_⟩
 ·rcases List.mem_append.1 hn with hn|hn
  ·exact h2 n hn
  ·rw[List.mem_singleton.1 hn];exact h1 x hx
 ·rcases List.mem_append.1 hn with hn|hn
  ·exact h3 n hn
  ·obtain⟨y,hy,e⟩:=Acv n hn;rw[<-e];exact h1 y hy
theorem F1.ask (h:F1 W H s D G)(e:LIE W H){W':List PW}{p:PW}(hp:p∈W)(u:Upd W W' p (Pw p))(ht:∀y∈s.wait,y.n≠p.Ah)(hD:¬D p.Ah)(hG:p.Ah∉G){j:Nat}{lk:Lk}(hj:(j:Int)=p.next)(hl:p.BB[j]?=some lk):
  ((Bc (G4 p.Ah lk) s).1.1=1/\F1 W' H (Bc (G4 p.Ah lk) s).2 (λt=>D t\/t∈(Bc (G4 p.Ah lk) s).1.2.2.1) (G++(Bc (G4 p.Ah lk) s).1.2.1)/\(∀y∈(Bc (G4 p.Ah lk) s).2.wait,y.n≠p.Ah)/\p.Ah∉(Bc (G4 p.Ah lk) s).1.2.2.1/\p.Ah∉(Bc (G4 p.Ah lk) s).1.2.1) \/
  ((Bc (G4 p.Ah lk) s).1.1=2/\(Bc (G4 p.Ah lk) s).1.2.1=[]/\(Bc (G4 p.Ah lk) s).1.2.2.1=[]/\F1 W' H (Bc (G4 p.Ah lk) s).2 D G) \/
  ((Bc (G4 p.Ah lk) s).1.1=3/\(Bc (G4 p.Ah lk) s).1.2.1=[]/\(Bc (G4 p.Ah lk) s).1.2.2.1=[]/\(Bc (G4 p.Ah lk) s).2=s):=by
 have hok:=e.ok p hp lk (List.mem_of_getElem? hl);obtain⟨x,hx⟩:∃x,x=G4 p.Ah lk:=⟨_,rfl⟩;rw[<-hx];have xn:x.n=p.Ah:=by rw[hx];rfl
 have xok:Da x.lo x.hi=true:=by rw[hx];exact hok
 have dD:∀{s':TS},F1 W' H s' D G->F1 W' H s' (λt=>D t\/t∈([]:List Int)) (G++[]):=λh=>by
  rw[List.append_nil];exact⟨h.snd,h.hc,λy hy=>⟨λh'=>(h.wt y hy).1 (by simpa using h'),(h.wt y hy).2⟩,λp hp=>(h.wc p hp).elim (λh'=>.inl (.inl h')) .inr,λt ht h'=>h.dg t ht (by simpa using h'),h.nd⟩
 unfold Bc;rw[if_neg (by rw[xok];simp),if_neg (by
  rw[Bool.not_eq_true,List.any_eq_false];intro y hy;have:=ht y hy;rw[<-xn]at this;simpa using this)]
 split
 ·rename_i hc;refine .inl ⟨rfl,?_,ht,by simp,by simp⟩;rw[List.any_eq_true]at hc;refine dD (h.S0 e hp u ht hD hj hl ?_);rw[<-hx];exact hc
 ·split
  ·exact .inr (.inr ⟨rfl,rfl,rfl,rfl⟩)
  ·split
   ·rename_i hw;rw[List.any_eq_false]at hw;have hfree:∀y∈s.held,B8 x y=false:=λy hy=>by simpa using hw y hy
    have h1:F1 W' H ⟨s.held++[x],s.wait⟩ D G:=(h.add hfree).S0 e hp u ht hD hj hl ⟨x,List.mem_append.2 (.inr (List.mem_singleton.2 rfl)),by rw[<-hx];exact Qs xok⟩;have e':=u.lie e hp;have h2:F1 W' H (AL x s).2 (λt=>D t\/t∈(AL x s).1) (G++[]):=by
     rw[List.append_nil];unfold AL;refine h1.drop e' λn hn=>?_;obtain⟨y,hy,e2,_⟩:=Iw hn;obtain⟨_,b,q,hq,e3,_⟩:=h1.wt y hy;exact⟨⟨q,hq,e3.trans e2⟩,by rw[<-e2];exact b⟩
    have h3:=(h2.settle e' (k:=(AL x s).2.wait.length)).Akz;obtain⟨s1,s2,s3⟩:=AaH (N:=λn=>n≠p.Ah) (s:=(AL x s).2) (k:=(AL x s).2.wait.length) (g:=[]) (d:=(AL x s).1) ⟨λy hy=>ht y (by unfold AL at hy;exact((Ep _ _ y).2.1 hy).1),by simp,λn hn=>by
     unfold AL at hn;obtain⟨y,hy,e2,_⟩:=Iw hn;rw[<-e2];exact ht y hy⟩
    refine .inl ⟨rfl,h3,s1,?_,?_⟩
    ·show p.Ah∉Dk _;rw[EP];exact λhn=>s3 _ hn rfl
    ·show p.Ah∉Dk _;rw[EP];exact λhn=>s2 _ hn rfl
   ·split
    ·refine .inr (.inl ⟨rfl,rfl,rfl,h.snd,h.hc,λy hy=>?_,λq hq=>?_,h.dg,h.nd⟩)
     ·rcases TZ.1 hy with rfl|hy
      ·rw[xn];exact⟨hD,hG,Pw p,u.b,rfl,j,lk,by show(j:Int)+1=p.next+1;omega,hl,hx⟩
      ·obtain⟨a,b,q,hq,e1,c⟩:=h.wt y hy;exact⟨a,b,q,u.c q hq (by rw[e1];exact ht y hy),e1,c⟩
     ·rcases u.a q hq with rfl|⟨hq,_⟩
      ·refine .inr λi l2 hi hl2=>?_;have hi:(i:Int)<p.next+1:=hi;have hl2:p.BB[i]?=some l2:=hl2;by_cases hij:i=j
       ·subst hij;rw[hl]at hl2;injection hl2 with hl2;subst hl2;refine .inr ⟨by show(i:Int)+1=p.next+1;omega,TZ.2 (.inl hx.symm)⟩
       ·rcases h.wc p hp with h1|h1
        ·exact absurd h1 hD
        ·rcases h1 i l2 (by omega) hl2 with h2|⟨h2,h3⟩
         ·exact .inl h2
         ·exact absurd rfl (ht _ h3)
      ·rcases h.wc q hq with h1|h1
       ·exact .inl h1
       ·refine .inr λi l2 hi hl2=>?_;rcases h1 i l2 hi hl2 with h2|⟨h2,h3⟩
        ·exact .inl h2
        ·exact .inr ⟨h2,TZ.2 (.inr h3)⟩
    ·exact .inr (.inr ⟨rfl,rfl,rfl,rfl⟩)
theorem F1.rel (h:F1 W H s D G){W':List PW}{H':List PH}{t:Int}(hW:∀p∈W',p∈W/\p.Ah≠t)(hW2:∀p∈W,p.Ah≠t->p∈W')(hH:∀g∈H',g∈H/\g.Ah≠t)(e':LIE W' H'):F1 W' H' (ES t s).2 (λu=>D u\/u∈(ES t s).1.2) (G++(ES t s).1.1):=by
 have h1:F1 W' H' (CJ t s) (λu=>D u\/u∈([]:List Int)) (G++[]):=by
  have m1:∀y,y∈(CJ t s).held↔y∈s.held/\y.n≠t:=λy=>by unfold CJ;simp
  have m2:∀y,y∈(CJ t s).wait↔y∈s.wait/\y.n≠t:=λy=>by unfold CJ;simp
  rw[List.append_nil];refine⟨λx hx y hy=>h.snd x ((m1 x).1 hx).1 y ((m1 y).1 hy).1,λg hg o ho=>?_,λy hy=>?_,λp hp=>?_,λu hu h'=>h.dg u hu (by simpa using h'),h.nd⟩
  ·obtain⟨y,h1,h2⟩:=h.hc g (hH g hg).1 o ho;exact⟨y,(m1 y).2 ⟨h1,by rw[QT h2];exact(hH g hg).2⟩,h2⟩
  ·obtain⟨h1,h2⟩:=(m2 y).1 hy;obtain⟨a,b,p,hp,e1,c⟩:=h.wt y h1;exact⟨λh'=>a (by simpa using h'),b,p,hW2 p hp (by rw[e1];exact h2),e1,c⟩
  ·rcases h.wc p (hW p hp).1 with h1|h1
   ·exact .inl (.inl h1)
   ·refine .inr λi lk hi hl=>?_;rcases h1 i lk hi hl with⟨y,h2,h3⟩|⟨h2,h3⟩
    ·exact .inl ⟨y,(m1 y).2 ⟨h2,by rw[QT h3];exact(hW p hp).2⟩,h3⟩
    ·exact .inr ⟨h2,(m2 _).2 ⟨h3,(hW p hp).2⟩⟩
 unfold ES;exact(h1.settle e' (k:=(CJ t s).wait.length)).Akz
end
open Go Go.Sx
variable {o:Op}
theorem AbV (h:ER o=0):Da (AI o).lo (AI o).hi=true:=by
 unfold AI Dp;unfold ER at h;dsimp only;cases hk:seq o.key (BA [])with
 |false=>
  rw[if_neg (by simp)];exact(AeD (XQ (by unfold ER;exact h) hk)).1
 |true=>
  rw[if_pos rfl];have e:o.key=BA []:=by rw[seq_eq,decide_eq_true_iff]at hk;exact hk
  have k0:Kx o.key=false:=by unfold Kx;rw[hk];rfl
  split at h
  ·cases h
  ·rename_i h1;simp only[Bool.or_eq_true,not_or,Bool.not_eq_true,Bool.not_eq_false']at h1;split at h
   ·cases h
   ·rename_i h2;rw[k0,Bool.not_false,Bool.and_true]at h2;split at h
    ·cases h
    ·split at h
     ·cases h
     ·rename_i h4;have hkd:=h1.1;have hr:FH o.kind=true:=by
       unfold Na at hkd;unfold Fx at h2;unfold FH;simp only[Bool.or_eq_true,beq_iff_eq,not_or,Bool.and_eq_true,decide_eq_true_iff]at hkd h2 ⊢;omega
      rw[hr,Bool.true_and]at h4;simpa using h4
def Dh (l:List Ev)(t:Int):Prop:=(⟨t,true⟩:Ev)∈l
def PO (l:List Ev):List Int:=(l.filter (λe=>!e.dead)).map (·.Ah)
def Nu (P:PS):Prop:=F1 P.wait P.held P.BS (Dh P.line) (PO P.line)
variable {W:List PW}{H:List PH}{D:Int->Prop}{G:List Int}
theorem F1.congr {s:TS}{D':Int->Prop}(h:F1 W H s D G)(e:∀t,D t↔D' t):F1 W H s D' G:=by
 have:D=D':=funext λt=>propext (e t);rw[<-this];exact h
variable {P Q:PS}
theorem Nu.eq (h:Nu P)(e1:Q.wait=P.wait)(e2:Q.held=P.held)(e3:Q.BS=P.BS)(e4:Q.line=P.line):Nu Q:=by
 unfold Nu;rw[e1,e2,e3,e4];exact h
theorem Wj {l:List Ev}{g d:List Int}(t:Int):Dh (l++Gc true d++Gc false g) t↔Dh l t\/t∈d:=by
 unfold Dh Gc;simp only[List.mem_append,List.mem_map,Ev.mk.injEq];constructor
 ·rintro((h|⟨a,h,rfl,_⟩)|⟨a,_,_,h⟩)
  ·exact .inl h
  ·exact .inr h
  ·cases h
 ·rintro(h|h)
  ·exact .inl (.inl h)
  ·exact .inl (.inr ⟨t,h,by simp⟩)
theorem Ab8 {l:List Ev}{g d:List Int}:PO (l++Gc true d++Gc false g)=PO l++g:=by
 unfold PO Gc;rw[List.filter_append,List.filter_append,List.map_append,List.map_append];have h1:(d.map λx=>(⟨x,true⟩:Ev)).filter (λe=>!e.dead)=[]:=by
  rw[List.filter_eq_nil_iff];intro e he;obtain⟨a,_,rfl⟩:=List.mem_map.1 he;simp
 have h2:(g.map λx=>(⟨x,false⟩:Ev)).filter (λe=>!e.dead)=g.map λx=>(⟨x,false⟩:Ev):=by
  rw[List.filter_eq_self];intro e he;obtain⟨a,_,rfl⟩:=List.mem_map.1 he;rfl
 rw[h1,h2,List.map_map,show((λx:Ev=>x.Ah)∘λx:Int=>(⟨x,false⟩:Ev))=id from rfl,List.map_id];simp
theorem Nu.told {s:TS}{g d:List Int}(h:F1 W H s (λt=>Dh P.line t\/t∈d) (PO P.line++g)){Q:PS}(e1:Q.wait=W)(e2:Q.held=H)(e3:Q.BS=s)(e4:Q.line=P.line++Gc true d++Gc false g):Nu Q:=by
 unfold Nu;rw[e1,e2,e3,e4,Ab8];exact h.congr λt=>(Wj t).symm
theorem XZ (h:Bj P):LIE P.wait P.held:=by
 refine⟨λp hp q hq e=>?_,h.dj,λp hp lk hl=>?_⟩
 ·obtain⟨i,hi,rfl⟩:=List.mem_iff_getElem.1 hp;obtain⟨j,hj,rfl⟩:=List.mem_iff_getElem.1 hq;rcases Nat.lt_trichotomy i j with h1|h1|h1
  ·have:=List.pairwise_iff_getElem.1 h.wt i j hi hj h1;omega
  ·subst h1;rfl
  ·have:=List.pairwise_iff_getElem.1 h.wt j i hj hi h1;omega
 ·obtain⟨v1,_,v3,_⟩:=h.wv p hp;rw[v3]at hl;obtain⟨o,ho,rfl⟩:=List.mem_map.1 hl;exact AbV (Bu.1 v1 o ho)
variable {α:Type}{i:Nat}
theorem mem_erase {l:List α}{x y:α}(hx:l[i]?=some x)(hy:y∈l)(hn:y≠x):y∈l.take i++l.drop (i+1):=by
 obtain⟨j,hj⟩:=List.getElem?_of_mem hy;rcases Nat.lt_trichotomy j i with h|h|h
 ·exact List.mem_append.2 (.inl (List.mem_of_getElem? (i:=j) (by rw[List.getElem?_take,if_pos h];exact hj)))
 ·subst h;rw[hx]at hj;injection hj with hj;exact absurd hj.symm hn
 ·exact List.mem_append.2 (.inr (List.mem_of_getElem? (i:=j-(i+1)) (by rw[List.getElem?_drop,show i+1+(j-(i+1))=j by omega];exact hj)))
theorem Nc (h:Bj P){i:Nat}{x:PW}(hx:P.wait[i]?=some x):(∀q∈P.wait.take i++P.wait.drop (i+1),q∈P.wait/\q.Ah≠x.Ah)/\(∀q∈P.wait,q.Ah≠x.Ah->q∈P.wait.take i++P.wait.drop (i+1)):=
 ⟨λq hq=>⟨(Bp P.wait i).subset hq,Fv h hx q hq⟩,λq hq hn=>mem_erase hx hq λe=>hn (by rw[e])⟩
theorem Ag5 (h:Bj P){i:Nat}{x:PW}(hx:P.wait[i]?=some x):Upd P.wait (P.wait.set i (Pw x)) x (Pw x):=by
 have hi:=(List.getElem?_eq_some_iff.1 hx).1;refine⟨λq hq=>?_,List.mem_of_getElem? (i:=i) (List.getElem?_set_self hi),λq hq hn=>?_⟩
 ·obtain⟨j,hj⟩:=List.getElem?_of_mem hq;by_cases hij:i=j
  ·subst hij;rw[List.getElem?_set_self hi]at hj;injection hj with hj;exact .inl hj.symm
  ·rw[List.getElem?_set_ne hij]at hj;refine .inr ⟨List.mem_of_getElem? hj,λe=>?_⟩;have:=(XZ h).un q (List.mem_of_getElem? hj) x (List.mem_of_getElem? hx) e;subst this;obtain⟨h1,h2⟩:=List.getElem?_eq_some_iff.1 hj;obtain⟨h3,h4⟩:=List.getElem?_eq_some_iff.1 hx;rcases Nat.lt_or_gt_of_ne hij with h5|h5
   ·have:=List.pairwise_iff_getElem.1 h.wt i j h3 h1 h5;rw[h2,h4]at this;omega
   ·have:=List.pairwise_iff_getElem.1 h.wt j i h1 h3 h5;rw[h2,h4]at this;omega
 ·obtain⟨j,hj⟩:=List.getElem?_of_mem hq;by_cases hij:i=j
  ·subst hij;rw[hx]at hj;injection hj with hj;exact absurd (by rw[hj]) hn
  ·exact List.mem_of_getElem? (i:=j) (by rw[List.getElem?_set_ne hij];exact hj)
theorem F1.hold {W':List PW}{H':List PH}{s:TS}(h:F1 W H s D G){p:PW}(hp:p∈W)(h1:∀q∈W',q∈W)(h2:∀q∈W,q.Ah≠p.Ah->q∈W')(h3:∀g∈H',g=⟨p.Ah,p.ops⟩\/g∈H)(hl:p.BB=p.ops.map AI)(hn:p.next=p.BB.length)(ht:∀y∈s.wait,y.n≠p.Ah)(hD:¬D p.Ah):F1 W' H' s D G:=by
 refine⟨h.snd,λg hg o ho=>?_,λy hy=>?_,λq hq=>h.wc q (h1 q hq),h.dg,h.nd⟩
 ·rcases h3 g hg with rfl|hg
  ·have ho:o∈p.ops:=ho;obtain⟨i,hi⟩:=List.getElem?_of_mem ho;have hlk:p.BB[i]?=some (AI o):=by rw[hl,List.getElem?_map,hi];rfl
   have hil:=(List.getElem?_eq_some_iff.1 hlk).1;rcases h.wc p hp with h4|h4
   ·exact absurd h4 hD
   ·rcases h4 i _ (by omega) hlk with h5|⟨_,h5⟩
    ·exact h5
    ·exact absurd rfl (ht _ h5)
  ·exact h.hc g hg o ho
 ·obtain⟨a,b,q,hq,e1,c⟩:=h.wt y hy;exact⟨a,b,q,h2 q hq (by rw[e1];exact ht y hy),e1,c⟩
def Pre (P:PS)(t:Int):Prop:=P.Pb t=true->¬Dh P.line t/\t∉PO P.line/\∀y∈P.BS.wait,y.n≠t
theorem Nu.Cw:∀(f:Nat) {P:PS} {t:Int},Bj P->Nu P->Pre P t->Nu (P.Cw f t)
 |0,P,t,_,h,_=>h
 |f+1,P,t,hp,h,pre=>by
  unfold PS.Cw;split
  ·exact h
  ·rename_i hw;have hw:P.Pb t=true:=by simpa using hw
   obtain⟨hD,hG,ht⟩:=pre hw;obtain⟨x,hx,e⟩:=D9 hp hw;rw[hx];dsimp only;subst e;have hxm:=List.mem_of_getElem? hx;obtain⟨v1,v2,v3,v4,v5⟩:=hp.wv x hxm;obtain⟨l1,l2⟩:=Nc hp hx;split
   ·rename_i hn;refine Nu.eq (P:=(P.Ay (P.Ce x.Ah)).hold x.Ah x.ops) ?_ rfl rfl rfl rfl;refine F1.hold h hxm (λq hq=>(l1 q hq).1) l2 (λg hg=>?_) v3 hn ht hD;rcases List.mem_append.1 hg with hg|hg
    ·exact .inr (List.mem_of_mem_take hg)
    ·rcases List.mem_cons.1 hg with rfl|hg
     ·exact .inl rfl
     ·exact .inr (List.mem_of_mem_drop hg)
   ·split
    ·exact h
    ·rename_i lk hlk;have hj:((x.next.toNat:Nat):Int)=x.next:=Int.toNat_of_nonneg v4;obtain⟨p1,_⟩:=hp.Cq hx hlk;have u:=Ag5 hp hx;have ask:=F1.ask h (XZ hp) hxm u ht hD hG hj hlk;rw[show(⟨x.Ah,lk.lo,lk.hi,lk.wr⟩:Ak)=G4 x.Ah lk from rfl];rcases ask with⟨a1,a2,a3,a4,a5⟩|⟨a1,a2,a3,a4⟩|⟨a1,a2,a3,a4⟩
     ·rw[if_neg (by rw[a1];decide),if_neg (by rw[a1];decide)];refine Nu.Cw f p1 (Nu.told a2 rfl rfl rfl rfl) λ_=>⟨?_,?_,a3⟩
      ·show ¬Dh (P.line++Gc true _++Gc false _) x.Ah;rw[Wj];exact λh=>h.elim hD a4
      ·show x.Ah∉PO (P.line++Gc true _++Gc false _);rw[Ab8,List.mem_append];exact λh=>h.elim hG a5
     ·rw[if_pos a1];refine Nu.told (P:=P) (g:=[]) (d:=[]) (W:=P.wait.set (P.Ce x.Ah) (Pw x)) (H:=P.held) (s:=(Bc (G4 x.Ah lk) P.BS).2) ?_ rfl rfl rfl ?_
      ·rw[List.append_nil];exact a4.congr λt=>by simp
      ·show P.line++Gc true (Bc (G4 x.Ah lk) P.BS).1.2.2.1++Gc false (Bc (G4 x.Ah lk) P.BS).1.2.1=_;rw[a2,a3]
     ·rw[if_neg (by rw[a1];decide),if_pos a1];have hx1:(P.Cq (P.Ce x.Ah) x lk).wait[P.Ce x.Ah]?=some (Pw x):=List.getElem?_set_self (List.getElem?_eq_some_iff.1 hx).1;obtain⟨p2,_⟩:=p1.Ay hx1;obtain⟨m1,m2⟩:=Nc p1 hx1;have ln:(P.Cq (P.Ce x.Ah) x lk).line=P.line:=by
       show P.line++Gc true (Bc (G4 x.Ah lk) P.BS).1.2.2.1++Gc false (Bc (G4 x.Ah lk) P.BS).1.2.1=_;rw[a2,a3];simp[Gc]
      have tb:(P.Cq (P.Ce x.Ah) x lk).BS=P.BS:=a4;have hr:=F1.rel h (W':=((P.Cq (P.Ce x.Ah) x lk).Ay (P.Ce x.Ah)).wait) (H':=P.held) (t:=x.Ah) (λq hq=>?_) (λq hq hn=>m2 q (u.c q hq hn) hn) (λg hg=>⟨hg,Ne.symm (hp.dj x hxm g hg)⟩) (XZ p2)
      ·refine Nu.told (P:=P) hr rfl rfl ?_ ?_
       ·show(ES x.Ah (P.Cq (P.Ce x.Ah) x lk).BS).2=_;rw[tb]
       ·show(P.Cq (P.Ce x.Ah) x lk).line++Gc true (ES x.Ah (P.Cq (P.Ce x.Ah) x lk).BS).1.2++Gc false (ES x.Ah (P.Cq (P.Ce x.Ah) x lk).BS).1.1=_;rw[tb,ln]
      ·obtain⟨h1,h2⟩:=m1 q hq;have h2:q.Ah≠x.Ah:=h2;rcases u.a q h1 with rfl|h3
       ·exact absurd rfl h2
       ·exact h3
theorem F1.less {s:TS}{D':Int->Prop}{G':List Int}(h:F1 W H s D G)(hD:∀t,D' t->D t)(hW:∀p∈W,D p.Ah->D' p.Ah)(hG:G'.Sublist G):F1 W H s D' G':=
 ⟨h.snd,h.hc,λy hy=>⟨λh'=>(h.wt y hy).1 (hD _ h'),λh'=>(h.wt y hy).2.1 (hG.subset h'),(h.wt y hy).2.2⟩,λp hp=>(h.wc p hp).elim (λh'=>.inl (hW p hp h')) .inr,λt ht h'=>h.dg t (hG.subset ht) (hD _ h'),h.nd.sublist hG⟩
theorem Nu.event {P:PS}(hp:Bj P){ev:Ev}{l:List Ev}(hl:P.line=ev::l)(h:Nu P):Nu (({P with line:=l}:PS).event ev):=by
 obtain⟨p1,_⟩:=hp.pop hl;unfold Nu at h;rw[hl]at h;obtain⟨t,dead⟩:=ev;unfold PS.event;cases dead with
 |false=>
  simp only[Bool.not_false,if_true];have g1:PO ((⟨t,false⟩:Ev)::l)=t::PO l:=rfl;have d1:∀u,Dh ((⟨t,false⟩:Ev)::l) u↔Dh l u:=λu=>by unfold Dh;simp
  rw[g1]at h;have h:=h.congr d1;have h0:Nu {P with line:=l}:=h.less (λ_ h=>h) (λ_ _ h=>h) (List.sublist_cons_self _ _);refine h0.Cw 30 p1 λ_=>⟨h.dg t List.mem_cons_self,(List.nodup_cons.1 h.nd).1,λy hy e=>?_⟩;have:=(h.wt y hy).2.1;rw[e]at this;exact this List.mem_cons_self
 |true=>
  have g1:PO ((⟨t,true⟩:Ev)::l)=PO l:=rfl;have d1:∀u,Dh ((⟨t,true⟩:Ev)::l) u↔u=t\/Dh l u:=λu=>by unfold Dh;simp
  rw[g1]at h;have h:=h.congr d1;simp only[Bool.not_true,Bool.false_eq_true,if_false];split
  ·rename_i hw;obtain⟨x,hx,e⟩:=D9 p1 hw;obtain⟨l1,l2⟩:=Nc p1 hx;subst e;refine Nu.eq (P:=({P with line:=l}:PS).Ay (({P with line:=l}:PS).Ce x.Ah)) ?_ rfl rfl rfl rfl;refine⟨h.snd,h.hc,λy hy=>?_,λq hq=>?_,λu hu h'=>h.dg u hu (.inr h'),h.nd⟩
   ·obtain⟨a,b,q,hq,e1,c⟩:=h.wt y hy;refine⟨λh'=>a (.inr h'),b,q,l2 q hq λe2=>a (.inl (by rw[<-e1];exact e2)),e1,c⟩
   ·obtain⟨q1,q2⟩:=l1 q hq;rcases h.wc q q1 with h1|h1
    ·exact .inl (h1.resolve_left q2)
    ·exact .inr h1
  ·rename_i hw;have hw:({P with line:=l}:PS).Pb t=false:=by simpa using hw
   have hn:=KY p1 hw;exact h.less (λ_ h=>.inr h) (λp hp h'=>h'.resolve_left (hn p hp)) (List.Sublist.refl _)
theorem Nu.through:∀(f:Nat) {P:PS},Bj P->Nu P->Nu (P.through f)
 |0,P,_,h=>h
 |f+1,P,hp,h=>by
  cases hl:P.line with
  |nil=>
   unfold PS.through;rw[hl];exact h
  |cons ev l=>
   rw[CQ hl];obtain⟨h1,_⟩:=hp.pop hl;exact Nu.through f (h1.event ev).1 (Nu.event hp hl h)
open Go Go.Sx
def VN (P:PS):Prop:=∀x∈P.out,x.kind=4->x.code≠3->(∀h∈P.held,h.Ah≠x.Ah)/\∀p∈P.wait,p.Ah≠x.Ah
theorem VN.sub (h:VN P)(s:FM P Q)(ho:Q.out=P.out):VN Q:=by
 intro x hx h4 h3;rw[ho]at hx;obtain⟨a,b⟩:=h x hx h4 h3;refine⟨λy hy=>?_,λy hy=>?_⟩
 ·rcases s.held y hy with h1|⟨p,hp,rfl⟩
  ·exact a y h1
  ·exact b p hp
 ·obtain⟨p,hp,e,_⟩:=s.wait y hy;rw[e];exact b p hp
theorem VN.send (h:VN P)(m:PM)(hm:m.kind=4->m.code≠3->(∀h∈P.held,h.Ah≠m.Ah)/\∀p∈P.wait,p.Ah≠m.Ah):VN (P.send m):=by
 intro x hx h4 h3;rcases List.mem_append.1 hx with hx|hx
 ·exact h x hx h4 h3
 ·rw[List.mem_singleton]at hx;subst hx;exact hm h4 h3
theorem VN.eq (h:VN P)(ho:Q.out=P.out)(hh:Q.held=P.held)(hw:Q.wait=P.wait):VN Q:=by
 unfold VN;rw[ho,hh,hw];exact h
theorem VN.Cw:∀(f:Nat) {P:PS} {t:Int},Bj P->VN P->VN (P.Cw f t)
 |0,P,t,_,h=>h
 |f+1,P,t,hp,h=>by
  unfold PS.Cw;split
  ·exact h
  ·rename_i hw;have hw:P.Pb t=true:=by simpa using hw
   obtain⟨x,hx,e⟩:=D9 hp hw;rw[hx];dsimp only;subst e;have hxm:=List.mem_of_getElem? hx;split
   ·exact(h.sub (Wu hx) rfl).send _ (λ_ h3=>absurd rfl h3)
   ·split
    ·exact h
    ·rename_i lk hlk;obtain⟨p1,_⟩:=hp.Cq hx hlk;have h1:VN (P.Cq (P.Ce x.Ah) x lk):=h.sub (PG hx lk) rfl;split
     ·exact h1
     ·split
      ·have hx1:(P.Cq (P.Ce x.Ah) x lk).wait[P.Ce x.Ah]?=some (Pw x):=List.getElem?_set_self (List.getElem?_eq_some_iff.1 hx).1;have h2:=h1.sub (Im (P.Cq (P.Ce x.Ah) x lk) (P.Ce x.Ah)) rfl;have h3:=h2.send {PM.zero with kind:=4,Ah:=x.Ah,code:=5,results:=[]} λ_ _=>⟨λg hg=>Ne.symm (hp.dj x hxm g hg),λq hq=>Fv p1 hx1 q hq⟩;exact VN.eq (P:=((P.Cq (P.Ce x.Ah) x lk).Ay (P.Ce x.Ah)).Df x.Ah 5 []) h3 rfl rfl rfl
      ·exact VN.Cw f p1 h1
theorem VN.event {P:PS}(hp:Bj P)(h:VN P)(ev:Ev):VN (P.event ev):=by
 unfold PS.event;split
 ·exact h.Cw 30 hp
 ·split
  ·rename_i hw;obtain⟨x,hx,e⟩:=D9 hp hw;have hxm:=List.mem_of_getElem? hx;refine(h.sub (Im P (P.Ce ev.Ah)) rfl).send _ λ_ _=>⟨λg hg=>?_,λq hq=>?_⟩
   ·show g.Ah≠ev.Ah;rw[<-e];exact Ne.symm (hp.dj x hxm g hg)
   ·show q.Ah≠ev.Ah;rw[<-e];exact Fv hp hx q hq
  ·exact h
theorem VN.through:∀(f:Nat) {P:PS},Bj P->VN P->VN (P.through f)
 |0,P,_,h=>h
 |f+1,P,hp,h=>by
  cases hl:P.line with
  |nil=>
   unfold PS.through;rw[hl];exact h
  |cons ev l=>
   rw[CQ hl];obtain⟨h1,_⟩:=hp.pop hl;exact VN.through f (h1.event ev).1 (VN.event h1 (VN.eq (P:=P) h rfl rfl rfl) ev)
structure PF (P:PS):Prop where
 hf:∀h∈P.held,0<h.ops.length/\h.Ah∉P.fin
 wf:∀p∈P.wait,0<p.ops.length/\p.Ah∉P.fin
theorem PF.sub (h:PF P)(s:FM P Q):PF Q:=by
 refine⟨λy hy=>?_,λy hy=>?_⟩
 ·rw[s.fin];rcases s.held y hy with h1|⟨p,hp,rfl⟩
  ·exact h.hf y h1
  ·exact h.wf p hp
 ·rw[s.fin];obtain⟨p,hp,e1,e2,_⟩:=s.wait y hy;rw[e1,e2];exact h.wf p hp
theorem PF.eq (h:PF P)(e1:Q.held=P.held)(e2:Q.wait=P.wait)(e3:∀n∈Q.fin,n∈P.fin):PF Q:=
 ⟨λy hy=>⟨(h.hf y (by rw[<-e1];exact hy)).1,λhn=>(h.hf y (by rw[<-e1];exact hy)).2 (e3 _ hn)⟩,λy hy=>⟨(h.wf y (by rw[<-e2];exact hy)).1,λhn=>(h.wf y (by rw[<-e2];exact hy)).2 (e3 _ hn)⟩⟩
structure P3 (P:PS):Prop where
 l:Nu P
 n:VN P
 f:PF P
theorem P3.Zu {t:Int}(hp:Bj P)(h:P3 P)(pre:Pre P t):P3 ((P.Cw 30 t).through DU):=by
 obtain⟨h1,_⟩:=hp.Cw 30 (t:=t);have s:=GO 30 (t:=t) hp;exact⟨Nu.through _ h1 (h.l.Cw 30 hp pre),VN.through _ h1 (h.n.Cw 30 hp),(h.f.sub s).sub (Cv DU h1)⟩
theorem P3.Du {P:PS}(hp:Bj P)(hl0:P.line=[])(ho0:P.out=[])(h:P3 P)(t Ao:Int){ops:List Op}(ho:A9 ops=0)(hl:ops.length<=24)(h0:0<ops.length)(hb:P.out.length+P.left+60<=20000):P3 (P.Du t Ao ops):=by
 unfold PS.Du;cases hg:P.gone t with
 |true=>rw[if_pos rfl];exact h
 |false=>
  rw[if_neg (by simp)];cases hh:P.TJ t with
  |true=>
   rw[if_pos rfl];split
   ·exact h
   ·refine⟨h.l.eq rfl rfl rfl rfl,h.n.send _ (λ_ h3=>absurd rfl h3),h.f.eq rfl rfl (λ_ h=>h)⟩
  |false=>
   rw[if_neg (by simp)];have hg':=hg;unfold PS.gone at hg';simp only[Bool.or_eq_false_iff]at hg';have hwis:P.Pb t=false:=hg'.2;have nw:=KY hp hwis;have nh:=Nd hp hh;cases hr:P.C7 Ao ops with
   |true=>
    rw[if_pos rfl];exact⟨h.l.eq rfl rfl rfl rfl,h.n.send _ (λ_ _=>⟨nh,nw⟩),h.f.eq rfl rfl (λ_ h=>h)⟩
   |false=>
    rw[if_neg (by simp)];have hful:P.full=false:=by unfold PS.C7 at hr;simp only[Bool.or_eq_false_iff]at hr;exact hr.2.1
    have hc:P.held.length+P.wait.length<6:=by unfold PS.full at hful;simp only[Bool.or_eq_false_iff,decide_eq_false_iff_not]at hful;omega
    obtain⟨h1,b1⟩:=hp.await ho hl nw nh (by omega) hb;have hmem:∀y,y∈(P.await t ops).wait↔y=⟨t,ops,ops.map AI,0⟩\/y∈P.wait:=λy=>by
     show y∈P.wait.take (P.Ce t)++_::P.wait.drop (P.Ce t)↔_;rw[List.mem_append,List.mem_cons];constructor
     ·rintro(h|rfl|h)
      ·exact .inr (List.mem_of_mem_take h)
      ·exact .inl rfl
      ·exact .inr (List.mem_of_mem_drop h)
     ·rintro(rfl|h)
      ·exact .inr (.inl rfl)
      ·rw[<-List.take_append_drop (P.Ce t) P.wait]at h;rcases List.mem_append.1 h with h|h
       ·exact .inl h
       ·exact .inr (.inr h)
    have hli:Nu (P.await t ops):=by
     have hL:F1 P.wait P.held P.BS (Dh P.line) (PO P.line):=h.l;refine⟨hL.snd,hL.hc,λy hy=>?_,λq hq=>?_,hL.dg,hL.nd⟩
     ·obtain⟨a,b,p,hp,c⟩:=hL.wt y hy;exact⟨a,b,p,(hmem p).2 (.inr hp),c⟩
     ·rcases(hmem q).1 hq with rfl|hq
      ·exact .inr λi lk hi _=>by have hi:(i:Int)<0:=hi;omega
      ·exact hL.wc q hq
    have hfin:t∉P.fin:=by
     have:=hg'.1.2;simpa using this
    refine P3.Zu h1 ⟨hli,?_,?_⟩ λ_=>⟨?_,?_,λy hy e=>?_⟩
    ·intro x hx h4 h3;have hx:x∈P.out:=hx;rw[ho0]at hx;cases hx
    ·exact⟨h.f.hf,λq hq=>by
      rcases(hmem q).1 hq with rfl|hq
      ·exact⟨h0,hfin⟩
      ·exact h.f.wf q hq⟩
    ·show ¬Dh P.line t;rw[hl0];simp[Dh]
    ·show t∉PO P.line;rw[hl0];simp[PO]
    ·obtain⟨_,_,p,hp,e1,_⟩:=h.l.wt y hy;exact nw p hp (e1.trans e)
theorem Xa (h:Bj P){i:Nat}{x:PH}(hx:P.held[i]?=some x):∀q∈P.held.take i++P.held.drop (i+1),q∈P.held/\q.Ah≠x.Ah:=by
 intro q hq;have hi:=(List.getElem?_eq_some_iff.1 hx).1;refine⟨(Bp P.held i).subset hq,λe=>?_⟩;rcases List.mem_append.1 hq with hq|hq
 ·obtain⟨j,hj,rfl⟩:=List.mem_take_iff_getElem.1 hq;have:=List.pairwise_iff_getElem.1 h.hd j i (by omega) hi (by omega);rw[(List.getElem?_eq_some_iff.1 hx).2]at this;omega
 ·obtain⟨j,hj⟩:=List.getElem?_of_mem hq;rw[List.getElem?_drop]at hj;obtain⟨h1,h2⟩:=List.getElem?_eq_some_iff.1 hj;have:=List.pairwise_iff_getElem.1 h.hd i (i+1+j) hi h1 (by omega);rw[(List.getElem?_eq_some_iff.1 hx).2,h2]at this;omega
theorem Agy {l:List Int}{n m:Int}(h:m∈l.take i++n::l.drop i):m=n\/m∈l:=by
 rcases List.mem_append.1 h with h|h
 ·exact .inr (List.mem_of_mem_take h)
 ·rcases List.mem_cons.1 h with rfl|h
  ·exact .inl rfl
  ·exact .inr (List.mem_of_mem_drop h)
theorem P3.finish (hP:Nu P)(hq:Bj Q)(hf:Q.fin.length<100000){t:Int}(hW:∀p∈Q.wait,p∈P.wait/\p.Ah≠t)(hW2:∀p∈P.wait,p.Ah≠t->p∈Q.wait)(hH:∀g∈Q.held,g∈P.held/\g.Ah≠t)(et:Q.BS=P.BS)(el:Q.line=P.line)(vn:VN Q)(pf:PF Q):P3 (Q.finish t):=by
 obtain⟨h1,_⟩:=hq.BV t hf;obtain⟨h2,_⟩:=h1.release t;have e1:(Q.BV t).wait=Q.wait/\(Q.BV t).held=Q.held/\(Q.BV t).BS=Q.BS/\(Q.BV t).line=Q.line/\(Q.BV t).out=Q.out:=by unfold PS.BV;split<;>exact⟨rfl,rfl,rfl,rfl,rfl⟩
 have hr:=F1.rel hP hW hW2 hH (XZ hq);have l2:Nu ((Q.BV t).release t):=by
  refine Nu.told (P:=P) hr e1.1 e1.2.1 ?_ ?_
  ·show(ES t (Q.BV t).BS).2=_;rw[e1.2.2.1,et]
  ·show(Q.BV t).line++Gc true (ES t (Q.BV t).BS).1.2++Gc false (ES t (Q.BV t).BS).1.1=_;rw[e1.2.2.2.1,e1.2.2.1,et,el]
 have v2:VN ((Q.BV t).release t):=vn.eq e1.2.2.2.2 e1.2.1 e1.1;have f2:PF (Q.BV t):=by
  have fm:∀n∈(Q.BV t).fin,n=t\/n∈Q.fin:=by
   intro n hn;unfold PS.BV at hn;split at hn
   ·exact Agy hn
   ·exact .inr hn
  refine⟨λy hy=>?_,λy hy=>?_⟩
  ·rw[e1.2.1]at hy;refine⟨(pf.hf y hy).1,λhn=>?_⟩;rcases fm _ hn with h|h
   ·exact(hH y hy).2 h
   ·exact(pf.hf y hy).2 h
  ·rw[e1.1]at hy;refine⟨(pf.wf y hy).1,λhn=>?_⟩;rcases fm _ hn with h|h
   ·exact(hW y hy).2 h
   ·exact(pf.wf y hy).2 h
 exact⟨Nu.through _ h2 l2,VN.through _ h2 v2,(f2.sub (Pm _ t)).sub (Cv DU h2)⟩
theorem P3.decide {P:PS}(h:PJ P)(h3:P3 P)(ho:P.out=[])(t:Int)(flag:Bool)(hb:P.out.length+1+P.left<=20000)(hw:P.writes.length<=900):P3 (P.decide t flag):=by
 have ha:Bj (P.Fh t):=h.ok.Fh t hb;have hf:=Vg h;have vk:∀{Q:PS},Q.out=(P.Fh t).out->VN Q:=λ{Q} e x hx h4=>by
  rw[e]at hx;have hx:x∈P.out++[_]:=hx;rw[ho,List.nil_append,List.mem_singleton]at hx;subst hx;exact absurd h4 (by show(6:Int)≠4;decide)
 unfold PS.decide;cases hh:P.TJ t with
 |true=>
  rw[if_pos rfl];obtain⟨x,hx,hxt⟩:=MN h.ok hh;rw[hx];dsimp only;subst hxt;have hxm:=List.mem_of_getElem? hx;obtain⟨v1,v2⟩:=h.ok.hv x hxm;have hwl:=OZ flag x.ops;have hu:Bj ((P.Fh x.Ah).AO (P.DY x.Ah)):=ha.AO _;have hwa:Bj (((P.Fh x.Ah).AO (P.DY x.Ah)).writeAll (PS.Mn flag x.ops)):=hu.writeAll (OC v1) (by show P.writes.length+_<=1000;omega);have e:=Bz (PS.Mn flag x.ops) ((P.Fh x.Ah).AO (P.DY x.Ah));have ew:(((P.Fh x.Ah).AO (P.DY x.Ah)).writeAll (PS.Mn flag x.ops)).wait=P.wait:=by rw[e];rfl
  have eh:(((P.Fh x.Ah).AO (P.DY x.Ah)).writeAll (PS.Mn flag x.ops)).held=P.held.take (P.DY x.Ah)++P.held.drop (P.DY x.Ah+1):=by rw[e];rfl
  have ef:(((P.Fh x.Ah).AO (P.DY x.Ah)).writeAll (PS.Mn flag x.ops)).fin=P.fin:=by rw[e];rfl
  refine P3.finish h3.l hwa (by rw[ef];exact hf) (λq hq=>?_) (λq hq hn=>?_) (λg hg=>?_) (by rw[e];rfl) (by rw[e];rfl) (vk (by rw[e];rfl)) ⟨λg hg=>?_,λq hq=>?_⟩
  ·rw[ew]at hq;exact⟨hq,h.ok.dj q hq x hxm⟩
  ·rw[ew];exact hq
  ·rw[eh]at hg;exact Xa h.ok hx g hg
  ·rw[eh]at hg;rw[ef];exact h3.f.hf g (Xa h.ok hx g hg).1
  ·rw[ew]at hq;rw[ef];exact h3.f.wf q hq
 |false=>
  rw[if_neg (by simp)];cases hwi:P.Pb t with
  |true=>
   rw[if_pos rfl];obtain⟨x,hx,hxt⟩:=D9 h.ok hwi;subst hxt;have hxm:=List.mem_of_getElem? hx;obtain⟨hu,_⟩:=ha.Ay (i:=P.Ce x.Ah) hx;obtain⟨l1,l2⟩:=Nc h.ok hx;exact P3.finish h3.l hu hf l1 l2 (λg hg=>⟨hg,Ne.symm (h.ok.dj x hxm g hg)⟩) rfl rfl (vk rfl) ⟨h3.f.hf,λq hq=>h3.f.wf q (l1 q hq).1⟩
  |false=>
   rw[if_neg (by simp)];exact⟨h3.l.eq rfl rfl rfl rfl,vk rfl,h3.f.eq rfl rfl (λ_ h=>h)⟩
open Go Go.Sx
structure CX (c:Sc):Prop where
 id:1<=c.id/\c.id<=4
 r:ScR c
 e:c.e=0
 ir:Da c.Ph c.Qq=true
 cr:Da c.Qk c.MS=true
 iz:c.AJ≠0\/inZ c=true
 cz:c.frozen≠0\/TK c=true
def BX (P:PS):Prop:=∀b,P.box=some b->Da b.lo b.hi=true/\b.move≠0/\DR b.move
structure AA (P Q:PS)(n k:Nat):Prop where
 s:Nz P {Q with out:=P.out} n
 out:∃l,Q.out=P.out++l/\l.length<=k/\∀x∈l,x.kind≠4
 c:BX P->CX P.c->CX Q.c
 ow:Be P.Ac=true->Be Q.Ac=true
 bx:BX P->CX P.c->BX Q
 wr:A9 P.writes=0->A9 Q.writes=0
theorem AA.trans {P Q R:PS}{n k n2 k2:Nat}(h:AA P Q n k)(g:AA Q R n2 k2):AA P R (n+n2) (k+k2):=by
 obtain⟨l,e1,e2,e3⟩:=h.out;obtain⟨l2,f1,f2,f3⟩:=g.out;refine⟨⟨g.s.held.trans h.s.held,g.s.fin.trans h.s.fin,g.s.wait.trans h.s.wait,g.s.BS.trans h.s.BS,rfl,g.s.line.trans h.s.line,g.s.M.trans h.s.M,?_⟩,⟨l++l2,by rw[f1,e1,List.append_assoc],by rw[List.length_append];omega,λx hx=>?_⟩,λb c=>g.c (h.bx b c) (h.c b c),λo=>g.ow (h.ow o),λb c=>g.bx (h.bx b c) (h.c b c),λw=>g.wr (h.wr w)⟩
 ·have h1:Q.writes.length<=P.writes.length+n:=h.s.wr;have h2:R.writes.length<=Q.writes.length+n2:=g.s.wr;show R.writes.length<=_;omega
 ·rcases List.mem_append.1 hx with hx|hx
  ·exact e3 x hx
  ·exact f3 x hx
theorem Aj2 {n:Nat}(h:Nz P Q n):Nz P {Q with out:=P.out} n:=⟨h.held,h.fin,h.wait,h.BS,rfl,h.line,h.M,h.wr⟩
theorem AA.of {n:Nat}(h:Nz P Q n)(c:BX P->CX P.c->CX Q.c)(ow:Be P.Ac=true->Be Q.Ac=true)(bx:BX P->CX P.c->BX Q)(wr:A9 P.writes=0->A9 Q.writes=0):AA P Q n 0:=
 ⟨Aj2 h,⟨[],by rw[h.out,List.append_nil],Nat.le_refl _,by simp⟩,c,ow,bx,wr⟩
theorem AA.refl (P:PS):AA P P 0 0:=AA.of ⟨rfl,rfl,rfl,rfl,rfl,rfl,rfl,Nat.le_refl _⟩ (λ_ h=>h) (λh=>h) (λh _=>h) (λh=>h)
theorem AA.le {n k n2 k2:Nat}(h:AA P Q n k)(hn:n<=n2)(hk:k<=k2):AA P Q n2 k2:=by
 obtain⟨l,e1,e2,e3⟩:=h.out;exact⟨⟨h.s.held,h.s.fin,h.s.wait,h.s.BS,h.s.out,h.s.line,h.s.M,Nat.le_trans h.s.wr (by omega)⟩,⟨l,e1,by omega,e3⟩,h.c,h.ow,h.bx,h.wr⟩
theorem Ej (P:PS)(m:PM)(hm:m.kind≠4):AA P (P.send m) 0 1:=
 ⟨⟨rfl,rfl,rfl,rfl,rfl,rfl,rfl,Nat.le_refl _⟩,⟨[_],rfl,Nat.le_refl _,by intro x hx;rw[List.mem_singleton]at hx;rw[hx];exact hm⟩,λ_ h=>h,λh=>h,λh _=>h,λh=>h⟩
theorem AeP:DR 0:=⟨by decide,by decide⟩
theorem Tw:Da (BA []) (BA [])=true:=by unfold Da;rw[Ki];rfl
theorem AiN {a b c d:ByteArray}(h:Bw a b c d=true):ER (clO a b c d)=0:=by
 have hr:Da (HZ a c) (AV b d)=true:=by
  unfold Bw at h;rw[Bool.and_eq_true]at h;exact h.2
 have e1:mLo a b c d=HZ a c:=by unfold mLo;rw[if_pos h]
 have e2:mHi a b c d=AV b d:=by unfold mHi;rw[if_pos h]
 unfold ER clO;simp only[e1,e2,hr,Ki];rfl
theorem Abz (P:PS)(r q:Rn)(h:A9 P.writes=0):A9 (P.KG r q).writes=0:=by
 unfold PS.KG;split
 ·rename_i hm;exact Uo h (by simp[A9,AiN hm])
 ·exact h
theorem Vy (q:Rn):∀(rs:List Rn) (P:PS),A9 P.writes=0->A9 (P.Cy rs q).writes=0
 |[],P,h=>h
 |r::rs,P,h=>Vy q rs (P.KG r q) (Abz P r q h)
theorem Ub (r:Rn):∀(hs:List Rn) (P:PS),A9 P.writes=0->A9 (P.Dn r hs).writes=0
 |[],P,h=>h
 |q::hs,P,h=>Ub r hs (P.KG r q) (Abz P r q h)
theorem YS (hs:List Rn):∀(rs:List Rn) (P:PS),A9 P.writes=0->A9 (P.FB rs hs).writes=0
 |[],P,h=>h
 |r::rs,P,h=>YS hs rs (P.Dn r hs) (Ub r hs P h)
theorem VR (P:PS)(rs:List Rn)(q:Rn):AA P (P.Cy rs q) rs.length 0:=by
 have e:=(CS q rs P).1;refine AA.of (KO P rs q) (λ_ h=>?_) (λh=>?_) (λh _=>?_) (Vy q rs P)
 ·rw[e];exact h
 ·rw[e];exact h
 ·rw[e];exact h
theorem ZD (P:PS)(rs hs:List Rn):AA P (P.FB rs hs) (rs.length*hs.length) 0:=by
 have e:=(Ef hs rs P).1;refine AA.of (Un P rs hs) (λ_ h=>?_) (λh=>?_) (λh _=>?_) (YS hs rs P)
 ·rw[e];exact h
 ·rw[e];exact h
 ·rw[e];exact h
theorem Z7 (P:PS){x:PM}(hv:DR x.CZ)(he:DR x.Ao)(hm:DR x.move)(ho:Be x.Ac=true):AA P (P.W4 x) 0 0:=
 AA.of ⟨rfl,rfl,rfl,rfl,rfl,rfl,rfl,Nat.le_refl _⟩ (λ_ c=>⟨c.id,⟨c.r.Au,hv,he,hm,c.r.low,c.r.frozen,c.r.AJ,c.r.CD,c.r.Bo⟩,c.e,c.ir,c.cr,c.iz,c.cz⟩) (λ_=>ho) (λb _=>b) (λh=>h)
theorem VZ (P:PS)(mv:Int):AA P (P.DE mv) 0 0:=by
 have h:=Qo P mv;unfold PS.DE at h ⊢;split at h
 ·exact AA.refl P
 ·split at h
  ·rename_i hc;rw[if_pos hc];exact AA.of h (λ_ c=>c) (λo=>o) (λ_ _ b hb=>by cases hb) (λw=>w)
  ·rename_i hc;rw[if_neg hc];exact AA.refl P
theorem AaZ (P:PS)(mv:Int):AA P (P.QD mv) 0 0:=by
 have h:=WM P mv;unfold PS.QD at h ⊢;split at h
 ·rename_i hc;rw[if_pos hc];refine AA.of h (λ_ c=>⟨c.id,⟨c.r.Au,c.r.CZ,c.r.Ao,c.r.move,c.r.low,AeP,c.r.AJ,c.r.CD,c.r.Bo⟩,c.e,c.ir,Tw,c.iz,.inr ?_⟩) (λo=>o) (λb _=>b) (λw=>w);unfold TK;rw[Ki];rfl
 ·rename_i hc;rw[if_neg hc];exact AA.refl P
theorem Zq (P:PS)(mv:Int)(rs:List Rn):AA P (P.Kl mv rs) rs.length 0:=by
 unfold PS.Kl;split
 ·have h:=VR P rs ⟨P.c.Ph,P.c.Qq⟩;refine h.trans (n2:=0) (k2:=0) (AA.of ⟨rfl,rfl,rfl,rfl,rfl,rfl,rfl,Nat.le_refl _⟩ (λ_ c=>⟨c.id,⟨c.r.Au,c.r.CZ,c.r.Ao,c.r.move,c.r.low,c.r.frozen,AeP,AeP,AeP⟩,c.e,Tw,c.cr,.inr ?_,c.cz⟩) (λo=>o) (λb _=>b) (λw=>w));unfold inZ;dsimp only[PS.Aic];rw[Ki];rfl
 ·exact(AA.refl P).le (Nat.zero_le _) (Nat.le_refl _)
theorem Yv (P:PS){x:PM}(hv:DR x.CZ)(he:DR x.Ao)(hm:DR x.move)(ho:Be x.Ac=true):AA P (P.mapped x) (x.Ac.length+x.Ac.length*P.Ac.length) 0:=by
 unfold PS.mapped;split
 ·unfold PS.Ko;have h:=((((Z7 P hv he hm ho).trans (VZ _ x.move)).trans (AaZ _ x.move)).trans (Zq _ x.move (B0 P.c.id x.Ac false))).trans (ZD _ (B0 P.c.id x.Ac false) (B0 P.c.id P.Ac true));have l1:=Ft P.c.id x.Ac false;have l2:=Ft P.c.id P.Ac true;have l3:=Nat.mul_le_mul l1 l2;exact h.le (by omega) (by omega)
 ·exact(AA.refl P).le (by omega) (Nat.le_refl _)
theorem PK (P:PS){x:PM}(hv:DR x.CZ)(he:DR x.Ao)(hm:DR x.move)(ho:Be x.Ac=true):AA P (P.No x) (x.Ac.length+x.Ac.length*P.Ac.length) 1:=
 ((Yv P hv he hm ho).trans (Ej _ _ (by show(9:Int)≠4;decide))).le (by omega) (by omega)
theorem Rt (P:PS){x:PM}(hm:DR x.move)(ha:DR x.attempt)(hr:Da x.FN x.G6=true)(ho:A9 x.ops=0):AA P (P.NW x) x.ops.length 1:=by
 unfold PS.NW;split
 ·rename_i hmay;have hmv:x.move≠0:=by
   unfold PS.PA at hmay;rw[Bool.not_eq_true',Bool.or_eq_false_iff]at hmay;simpa using hmay.1
  have opn:AA P (P.opens x) 0 0:=by
   unfold PS.opens;split
   ·exact AA.of ⟨rfl,rfl,rfl,rfl,rfl,rfl,rfl,Nat.le_refl _⟩ (λ_ c=>⟨c.id,⟨c.r.Au,c.r.CZ,c.r.Ao,c.r.move,c.r.low,c.r.frozen,hm,ha,AeP⟩,c.e,hr,c.cr,.inl hmv,c.cz⟩) (λo=>o) (λb _=>b) (λw=>w)
   ·exact AA.refl P
  have hi:(P.opens x).c.AJ≠0:=by
   unfold PS.opens;split
   ·exact hmv
   ·rename_i hn;unfold PS.RJ at hn;simp only[Bool.or_eq_true,not_or,Bool.not_eq_true]at hn;have:=hn.1;have:x.move=P.c.AJ:=by simpa using this
    rw[<-this];exact hmv
  split
  ·exact(AA.refl P).le (Nat.zero_le _) (by omega)
  ·split
   ·exact opn.le (Nat.zero_le _) (by omega)
   ·refine((opn.trans (n2:=x.ops.length) (k2:=0) ?_).trans (Ej _ _ (by show(12:Int)≠4;decide))).le (by omega) (by omega);unfold PS.enters;split
    ·refine AA.of ⟨rfl,rfl,rfl,rfl,rfl,rfl,rfl,by simp⟩ (λ_ c=>⟨c.id,⟨c.r.Au,c.r.CZ,c.r.Ao,c.r.move,c.r.low,c.r.frozen,c.r.AJ,c.r.CD,Agh _⟩,c.e,c.ir,c.cr,.inl hi,c.cz⟩) (λo=>o) (λb _=>b) (λw=>Uo w ho)
    ·exact(AA.refl _).le (Nat.zero_le _) (Nat.le_refl _)
 ·exact(AA.refl P).le (Nat.zero_le _) (by omega)
theorem Nm (P:PS)(b:Option PB)(h:BX P->CX P.c->BX {P with box:=b}):AA P {P with box:=b} 0 0:=
 AA.of ⟨rfl,rfl,rfl,rfl,rfl,rfl,rfl,Nat.le_refl _⟩ (λ_ c=>c) (λo=>o) h (λw=>w)
theorem AeU (M:List Pa)(b:PB):(EV M b).lo=b.lo/\(EV M b).hi=b.hi/\(EV M b).move=b.move:=by unfold EV;split<;>exact⟨rfl,rfl,rfl⟩
theorem Afb (M:List Pa)(b:PB):(Db M b).1.lo=b.lo/\(Db M b).1.hi=b.hi/\(Db M b).1.move=b.move:=by
 obtain⟨h1,h2,h3⟩:=AeU M b;unfold Db;split
 ·exact⟨h1,h2,h3⟩
 ·exact⟨h1,h2,h3⟩
theorem BX.some {P:PS}{b:PB}(h:BX P)(hb:P.box=some b){b':PB}(e:b'.lo=b.lo/\b'.hi=b.hi/\b'.move=b.move):BX {P with box:=Option.some b'}:=by
 intro c hc;have hc:Option.some b'=Option.some c:=hc;injection hc with hc;subst hc;rw[e.1,e.2.1,e.2.2];exact h b hb
theorem MY (P:PS):AA P P.Fa 0 1:=by
 unfold PS.Fa;split
 ·exact(AA.refl P).le (Nat.le_refl _) (by omega)
 ·rename_i b hb;split
  ·exact(AA.refl P).le (Nat.le_refl _) (by omega)
  ·split
   ·unfold PS.My PS.DV;dsimp only;refine((Nm P _ λh _=>?_).trans (Ej _ _ (by show(11:Int)≠4;decide))).le (by omega) (by omega);exact h.some hb (Afb P.M b)
   ·split
    ·unfold PS.freeze;have h1:AA P {P with c:={P.c with frozen:=b.move,Qk:=b.lo,MS:=b.hi},box:=Option.none} 0 0:=by
      refine AA.of ⟨rfl,rfl,rfl,rfl,rfl,rfl,rfl,Nat.le_refl _⟩ (λhb2 c=>?_) (λo=>o) (λ_ _ c hc=>by cases hc) (λw=>w);obtain⟨a1,a2,a3⟩:=hb2 b hb;exact⟨c.id,⟨c.r.Au,c.r.CZ,c.r.Ao,c.r.move,c.r.low,a3,c.r.AJ,c.r.CD,c.r.Bo⟩,c.e,c.ir,a1,c.iz,.inl a2⟩
     exact(h1.trans (Ej _ {PM.zero with kind:=14,move:=b.move} (by show(14:Int)≠4;decide))).le (by omega) (by omega)
    ·exact(AA.refl P).le (Nat.le_refl _) (by omega)
theorem Ps (P:PS)(x:PM):AA P (P.KB x) 0 1:=by
 unfold PS.KB;split
 ·exact(AA.refl P).le (Nat.le_refl _) (by omega)
 ·rename_i b hb;split
  ·refine((Nm P _ λh _=>?_).trans (MY _)).le (by omega) (by omega);exact h.some hb ⟨rfl,rfl,rfl⟩
  ·exact(AA.refl P).le (Nat.le_refl _) (by omega)
theorem Za (P:PS){x:PM}(hm:DR x.move)(h0:x.move≠0)(hr:Da x.FN x.G6=true):AA P (P.boxed x) 0 0:=by
 unfold PS.boxed;split
 ·refine Nm P _ λh _ b hb=>?_;have hb:Option.some (PS.XF x)=Option.some b:=hb;injection hb with hb;subst hb;exact⟨hr,h0,hm⟩
 ·exact AA.refl P
theorem Wh (P:PS)(f:Bool):AA P (P.closing f) 0 0:=by
 unfold PS.closing;split
 ·exact AA.refl P
 ·rename_i b hb;exact Nm P _ λh _=>h.some hb ⟨rfl,rfl,rfl⟩
theorem PU (P:PS){x:PM}(hm:DR x.move)(hr:Da x.FN x.G6=true):AA P (P.Lr x) 0 2:=by
 unfold PS.Lr;split
 ·rename_i hmay;have hmv:x.move≠0:=by
   unfold PS.P9 at hmay;rw[Bool.not_eq_true',Bool.or_eq_false_iff,Bool.or_eq_false_iff]at hmay;simpa using hmay.2.1
  split
  ·exact(Ej P _ (by show(14:Int)≠4;decide)).le (by omega) (by omega)
  ·unfold PS.QC;have h:=((Za P hm hmv hr).trans (Wh _ x.flag)).trans (MY _);split
   ·exact(h.trans (Ej _ _ (by show(13:Int)≠4;decide))).le (by omega) (by omega)
   ·exact h.le (by omega) (by omega)
 ·exact(AA.refl P).le (by omega) (by omega)
open Go Go.Sx
namespace PS
def OU (P:PS)(x:PM):Bool:=!pmA x||(x.dst !=P.c.id||!Fi x.kind)
def CA (P:PS)(x:PM):PS:=
 if x.kind=3 then P.clear.work x.Ah x.low x.Ao x.ops
 else if x.kind=5 then P.clear.decide x.Ah x.flag
 else if x.kind=8 then P.clear.No x
 else if x.kind=10 then P.clear.Lr x
 else if x.kind=11 then P.clear.NW x
 else P.clear.KB x
end PS
structure PX (P:PS):Prop where
 j:PJ P
 t:P3 P
 c:CX P.c
 ow:Be P.Ac=true
 bx:BX P
structure ZM (x:PM):Prop where
 Ah:DR x.Ah
 low:DR x.low
 CZ:DR x.CZ
 Ao:DR x.Ao
 move:DR x.move
 attempt:DR x.attempt
theorem JP {l:List Ow}(h:Be l=true):l.length<=6:=by
 cases l with
 |nil=>simp
 |cons x l=>
  unfold Be at h;simp only[Bool.and_eq_true,decide_eq_true_iff]at h;rw[List.length_cons];omega
theorem PX.clear {P:PS}(h:PX P):PX P.clear:=
 ⟨h.j.clear,⟨h.t.l.eq rfl rfl rfl rfl,(λx hx=>by cases hx),h.t.f.eq rfl rfl (λ_ h=>h)⟩,⟨h.c.id,⟨h.c.r.Au,h.c.r.CZ,h.c.r.Ao,h.c.r.move,h.c.r.low,h.c.r.frozen,h.c.r.AJ,h.c.r.CD,h.c.r.Bo⟩,h.c.e,h.c.ir,h.c.cr,h.c.iz,h.c.cz⟩,h.ow,h.bx⟩
theorem PX.side {n k:Nat}(h:PX P)(s:AA P Q n k)(hw:P.writes.length+n<=1000)(ho:P.out.length+k<=1000):PX Q:=by
 obtain⟨l,e1,e2,e3⟩:=s.out;have q:=s.s;have hl:=h.j.left;have e4:Q.left=P.left:=by
  have a1:Q.wait=P.wait:=q.wait;have a2:Q.BS=P.BS:=q.BS;have a3:Q.line=P.line:=q.line;unfold PS.left;rw[a1,a2,a3]
 have hd:Q.held=P.held:=q.held;have wt:Q.wait=P.wait:=q.wait;have fi:Q.fin=P.fin:=q.fin;have tb:Q.BS=P.BS:=q.BS;have ln:Q.line=P.line:=q.line;have mm:Q.M=P.M:=q.M;have wl:Q.writes.length<=P.writes.length+n:=q.wr;have c:=s.c h.bx h.c;have ow:=s.ow h.ow;have p:=h.j.ok;have ol:Q.out.length<=P.out.length+k:=by rw[e1,List.length_append];omega
 refine⟨⟨⟨by rw[wt];exact p.wt,by rw[hd];exact p.hd,by rw[hd,wt];exact p.dj,by rw[fi];exact p.fn,by rw[tb];exact p.tb,by rw[wt];exact p.wv,by rw[hd];exact p.hv,by rw[mm];exact p.mp,by rw[mm];exact p.mn,s.wr p.wr,by omega,c.e,by rw[e4];omega,by rw[hd,wt];exact p.hn,by rw[fi];exact p.fl⟩,⟨c.r,by rw[hd];exact h.j.rg.held,by rw[wt];exact h.j.rg.wait,by rw[fi];exact h.j.rg.fin⟩,⟨by rw[hd,wt];exact h.j.ct.hw,by rw[hd,wt,fi];exact h.j.ct.all,JP ow⟩,by rw[ln];exact h.j.line⟩,⟨h.t.l.eq wt hd tb ln,λx hx h4 h3=>?_,h.t.f.eq hd wt (by rw[fi];exact λ_ h=>h)⟩,c,ow,s.bx h.bx h.c⟩;rw[e1]at hx;rw[hd,wt];rcases List.mem_append.1 hx with hx|hx
 ·exact h.t.n x hx h4 h3
 ·exact absurd h4 (e3 x hx)
theorem U4 (h:Bj P)(t Ao:Int){ops:List Op}(ho:A9 ops=0)(hl:ops.length<=24)(hb:P.out.length+P.left+60<=20000):(P.Du t Ao ops).c=P.c/\(P.Du t Ao ops).Ac=P.Ac/\(P.Du t Ao ops).box=P.box:=by
 unfold PS.Du;cases hg:P.gone t with
 |true=>rw[if_pos rfl];exact⟨rfl,rfl,rfl⟩
 |false=>
  rw[if_neg (by simp)];cases hh:P.TJ t with
  |true=>rw[if_pos rfl];split<;>exact⟨rfl,rfl,rfl⟩
  |false=>
   rw[if_neg (by simp)];cases hr:P.C7 Ao ops with
   |true=>rw[if_pos rfl];exact⟨rfl,rfl,rfl⟩
   |false=>
    rw[if_neg (by simp)];have hwis:P.Pb t=false:=by unfold PS.gone at hg;simp only[Bool.or_eq_false_iff]at hg;exact hg.2
    have hful:P.full=false:=by unfold PS.C7 at hr;simp only[Bool.or_eq_false_iff]at hr;exact hr.2.1
    have hc:P.held.length+P.wait.length<6:=by unfold PS.full at hful;simp only[Bool.or_eq_false_iff,decide_eq_false_iff_not]at hful;omega
    obtain⟨h1,b1⟩:=h.await ho hl (KY h hwis) (Nd h hh) (by omega) hb;obtain⟨h2,b2⟩:=h1.Cw 30 (t:=t);have s:=(GO 30 (t:=t) h1).trans (Cv DU h2);exact⟨s.c,s.Ac,s.box⟩
def BZ (P Q:PS):Prop:=∀b',Q.box=some b'->∃b,P.box=some b/\b'.lo=b.lo/\b'.hi=b.hi/\b'.move=b.move
theorem BZ.same (h:Q.box=P.box):BZ P Q:=λb' hb=>⟨b',by rw[<-h];exact hb,rfl,rfl,rfl⟩
theorem BZ.trans {P Q R:PS}(h:BZ P Q)(g:BZ Q R):BZ P R:=λb' hb=>by
 obtain⟨b,h1,h2,h3,h4⟩:=g b' hb;obtain⟨c,g1,g2,g3,g4⟩:=h b h1;exact⟨c,g1,h2.trans g2,h3.trans g3,h4.trans g4⟩
theorem Uk (P:PS)(o:Op):BZ P (P.behind o):=by
 unfold PS.behind;split
 ·exact BZ.same rfl
 ·rename_i b hb;split
  ·intro b' hb';have hb':some {b with row:=b.row++[clip b.lo b.hi o]}=some b':=hb';injection hb' with hb';subst hb';exact⟨b,hb,rfl,rfl,rfl⟩
  ·exact BZ.same rfl
theorem Rq:∀(ops:List Op) (P:PS),BZ P (P.writeAll ops)
 |[],P=>BZ.same rfl
 |o::l,P=>(BZ.trans (Q:={P with writes:=P.writes++[o]}) (BZ.same rfl) (Uk _ o)).trans (Rq l (P.FT o))
theorem Sh (h:PJ P)(u:Int)(flag:Bool)(hb:P.out.length+1+P.left<=20000)(hw:P.writes.length<=900):(P.decide u flag).c=P.c/\(P.decide u flag).Ac=P.Ac/\BZ P (P.decide u flag)/\∀n,AM P n->AM (P.decide u flag) (n+24):=by
 have ha:Bj (P.Fh u):=h.ok.Fh u hb;have hf:=Vg h;have fs:∀{Q:PS},Bj Q->Q.fin.length<100000->(Q.finish u).c=Q.c/\(Q.finish u).Ac=Q.Ac/\(Q.finish u).box=Q.box:=by
  intro Q hq hfq;have s:=Oy hq u hfq;have e1:(Q.BV u).c=Q.c/\(Q.BV u).Ac=Q.Ac/\(Q.BV u).box=Q.box:=by unfold PS.BV;split<;>exact⟨rfl,rfl,rfl⟩
  exact⟨s.c.trans e1.1,s.Ac.trans e1.2.1,s.box.trans e1.2.2⟩
 unfold PS.decide;cases hh:P.TJ u with
 |true=>
  rw[if_pos rfl];obtain⟨x,hx,hxt⟩:=MN h.ok hh;rw[hx];dsimp only;obtain⟨v1,v2⟩:=h.ok.hv x (List.mem_of_getElem? hx);have hwl:=OZ flag x.ops;have hu:Bj ((P.Fh u).AO (P.DY u)):=ha.AO _;have hwa:Bj (((P.Fh u).AO (P.DY u)).writeAll (PS.Mn flag x.ops)):=hu.writeAll (OC v1) (by show P.writes.length+_<=1000;omega);have e:=Bz (PS.Mn flag x.ops) ((P.Fh u).AO (P.DY u));obtain⟨f1,f2,f3⟩:=fs hwa (by rw[e];exact hf);refine⟨f1.trans (by rw[e];rfl),f2.trans (by rw[e];rfl),?_,λn hn=>?_⟩
  ·exact(BZ.trans (Q:=(P.Fh u).AO (P.DY u)) (BZ.same rfl) (Rq _ _)).trans (BZ.same f3)
  ·have h1:AM ((P.Fh u).AO (P.DY u)) n:=hn;have h2:=Ye (PS.Mn flag x.ops) h1;intro b hb;rw[f3]at hb;have:=h2 b hb;omega
 |false=>
  rw[if_neg (by simp)];cases hwi:P.Pb u with
  |true=>
   rw[if_pos rfl];obtain⟨x,hx,hxt⟩:=D9 h.ok hwi;obtain⟨hu,_⟩:=ha.Ay (i:=P.Ce u) hx;obtain⟨f1,f2,f3⟩:=fs hu hf;refine⟨f1,f2,BZ.same f3,λn hn b hb=>?_⟩;rw[f3]at hb;have:=hn b hb;omega
  |false=>
   rw[if_neg (by simp)];exact⟨rfl,rfl,BZ.same rfl,λn hn b hb=>by have:=hn b hb;omega⟩
theorem EM {n:Nat}(h:AM P n)(e:Q.box=P.box):AM Q n:=λb hb=>h b (by rw[<-e];exact hb)
theorem Vk {b:PB}{n:Nat}(h:AM P n)(hb:P.box=some b){b':PB}(e:b'.row.length<=b.row.length):AM {P with box:=some b'} n:=by
 intro c hc;have hc:some b'=some c:=hc;injection hc with hc;subst hc;exact Nat.le_trans e (h b hb)
theorem AcP (M:List Pa)(b:PB):(Db M b).1.row.length<=b.row.length:=by
 have h:(EV M b).row=b.row:=by unfold EV;split<;>rfl
 unfold Db;split
 ·dsimp only;rw[List.length_drop,h];omega
 ·rw[h];exact Nat.le_refl _
theorem QS {n:Nat}(h:AM P n):AM P.Fa n:=by
 unfold PS.Fa;split
 ·exact h
 ·rename_i b hb;split
  ·exact h
  ·split
   ·exact EM (Q:=P.My b) (Vk h hb (AcP P.M b):AM {P with box:=some {(Db P.M b).1 with load:=(Db P.M b).2,under:=true}} n) rfl
   ·split
    ·intro c hc;cases hc
    ·exact h
theorem Aad {n:Nat}(h:AM P n)(x:PM):AM (P.KB x) n:=by
 unfold PS.KB;split
 ·exact h
 ·rename_i b hb;split
  ·exact QS (Vk h hb (Nat.le_refl _))
  ·exact h
theorem Ww {n:Nat}(h:AM P n)(x:PM)(f:Bool):AM ((P.boxed x).closing f) n:=by
 have h1:AM (P.boxed x) n:=by
  unfold PS.boxed;split
  ·intro c hc;have hc:some (PS.XF x)=some c:=hc;injection hc with hc;subst hc;exact Nat.zero_le _
  ·exact h
 unfold PS.closing;split
 ·exact h1
 ·rename_i b hb;exact Vk h1 hb (Nat.le_refl _)
theorem Abo {n:Nat}(h:AM P n)(x:PM):AM (P.Lr x) n:=by
 unfold PS.Lr;split
 ·split
  ·exact h
  ·unfold PS.QC;split
   ·exact EM (QS (Ww h x x.flag)) rfl
   ·exact QS (Ww h x x.flag)
 ·exact h
theorem Acz {n:Nat}(h:AM P n)(x:PM):AM (P.NW x) n:=by
 have h1:(P.opens x).box=P.box:=by unfold PS.opens;split<;>rfl
 have h2:((P.opens x).enters x).box=P.box:=by unfold PS.enters;split<;>exact h1
 unfold PS.NW;split
 ·split
  ·exact h
  ·split
   ·exact EM h h1
   ·exact EM h h2
 ·exact h
theorem Aa8 {n:Nat}(h:AM P n)(x:PM):AM (P.No x) n:=by
 have hd:∀Q:PS,AM Q n->AM (Q.DE x.move) n:=by
  intro Q hq;unfold PS.DE;split
  ·exact hq
  ·split
   ·intro c hc;cases hc
   ·exact hq
 have ht:∀Q:PS,(Q.QD x.move).box=Q.box:=λQ=>by unfold PS.QD;split<;>rfl
 have hi:∀(Q:PS) rs,(Q.Kl x.move rs).box=Q.box:=λQ rs=>by
  unfold PS.Kl;split
  ·show(Q.Cy rs _).box=_;rw[(CS _ rs Q).1]
  ·rfl
 have hw:∀(Q:PS) rs hs,(Q.FB rs hs).box=Q.box:=λQ rs hs=>by rw[(Ef hs rs Q).1]
 refine EM (P:=P.mapped x) ?_ rfl;unfold PS.mapped;split
 ·unfold PS.Ko;exact EM (hd _ (EM h rfl:AM (P.W4 x) n)) (by rw[hw,hi,ht])
 ·exact h
open Go Go.Sx
theorem Agu (P:PS){low:Int}(hl:DR low)(h:CX P.c):CX (P.Bk low).c:=by
 unfold PS.Bk;split
 ·exact⟨h.id,⟨h.r.Au,h.r.CZ,h.r.Ao,h.r.move,hl,h.r.frozen,h.r.AJ,h.r.CD,h.r.Bo⟩,h.e,h.ir,h.cr,h.iz,h.cz⟩
 ·exact h
theorem US (P:PS)(low:Int):(P.Bk low).Ac=P.Ac/\(P.Bk low).box=P.box/\(P.Bk low).held=P.held/\(P.Bk low).wait=P.wait/\(P.Bk low).BS=P.BS/\(P.Bk low).line=P.line/\(P.Bk low).out=P.out/\(P.Bk low).M=P.M:=by
 unfold PS.Bk;split<;>exact⟨rfl,rfl,rfl,rfl,rfl,rfl,rfl,rfl⟩
theorem Adk (P:PS)(low:Int):∀n∈(P.Bk low).fin,n∈P.fin:=by
 unfold PS.Bk;split
 ·exact λn hn=>(List.mem_filter.1 hn).1
 ·exact λn hn=>hn
theorem P3.Bk (h:P3 P)(low:Int):P3 (P.Bk low):=by
 obtain⟨_,_,e3,e4,e5,e6,e7,_⟩:=US P low;exact⟨h.l.eq e4 e3 e5 e6,h.n.eq e7 e3 e4,h.f.eq e3 e4 (Adk P low)⟩
theorem PX.work {P:PS}(h:PX P)(ho0:P.out=[]){t low Ao:Int}(ht:DR t)(hlo:DR low){ops:List Op}(ho:A9 ops=0)(hl:ops.length<=24)(h0:0<ops.length):PX (P.work t low Ao ops)/\(P.work t low Ao ops).M=P.M/\(P.work t low Ao ops).box=P.box:=by
 have hleft:=h.j.left;have ol:P.out.length=0:=by rw[ho0];rfl
 obtain⟨e1,e2,e3,e4,e5,e6,e7,e8⟩:=US P low;have hb:(P.Bk low).out.length+(P.Bk low).left+60<=20000:=by rw[GP,Hj];omega
 have hj:=h.j.Bk hlo;obtain⟨s1,s2,s3⟩:=U4 hj.ok t Ao ho hl hb;have hw:=(h.t.Bk low).Du hj.ok hj.line (by rw[e7];exact ho0) t Ao ho hl h0 hb;have hm:=AgT hj.ok t Ao ho hl hb;refine⟨⟨h.j.work ht hlo ho hl (by omega),hw,?_,?_,?_⟩,hm.trans e8,s3.trans e2⟩
 ·show CX ((P.Bk low).Du t Ao ops).c;rw[s1];exact Agu P hlo h.c
 ·show Be ((P.Bk low).Du t Ao ops).Ac=true;rw[s2,e1];exact h.ow
 ·intro b hb;exact h.bx b (by rw[<-e2,<-s3];exact hb)
theorem PX.decide {P:PS}(h:PX P)(ho0:P.out=[])(hw0:P.writes=[]){t:Int}(ht:DR t)(flag:Bool):PX (P.decide t flag)/\(P.decide t flag).M=P.M/\∀n,AM P n->AM (P.decide t flag) (n+24):=by
 have hleft:=h.j.left;have ol:P.out.length=0:=by rw[ho0];rfl
 have hb:P.out.length+1+P.left<=20000:=by omega
 have hw:P.writes.length<=900:=by rw[hw0];simp
 obtain⟨s1,s2,s3,s4⟩:=Sh h.j t flag hb hw;refine⟨⟨h.j.decide ht flag hb hw,h.t.decide h.j ho0 t flag hb hw,by rw[s1];exact h.c,by rw[s2];exact h.ow,λb hb=>?_⟩,Afg h.j t flag hb hw,s4⟩;obtain⟨c,h1,h2,h3,h4⟩:=s3 b hb;rw[h2,h3,h4];exact h.bx c h1
theorem PX.taken (h:PX P){x:PM}(n:ZM x)(hb:P.OU x=false):PX (P.CA x)/\(P.CA x).M=P.M/\∀k,AM P k->AM (P.CA x) (k+24):=by
 have hc:=h.clear;unfold PS.OU at hb;simp only[Bool.or_eq_false_iff,Bool.not_eq_false']at hb;obtain⟨hp,_,hk⟩:=hb;have w0:P.clear.writes.length=0:=rfl;have o0:P.clear.out.length=0:=rfl;have ow6:=JP h.ow;unfold PS.CA;by_cases h3:x.kind=3
 ·rw[if_pos h3];rw[ZI (.inl h3)]at hp;unfold Q9 BW at hp;rw[if_pos h3]at hp;simp only[Bool.and_eq_true,decide_eq_true_iff]at hp;obtain⟨a1,a2,a3⟩:=hc.work rfl n.Ah n.low (Ao:=x.Ao) hp.1.2.2.2.2.2 hp.1.2.2.2.2.1 hp.1.2.2.2.1;exact⟨a1,a2,λk hk b hb=>by have:=hk b (by rw[a3]at hb;exact hb);omega⟩
 ·rw[if_neg h3];by_cases h5:x.kind=5
  ·rw[if_pos h5];obtain⟨a1,a2,a3⟩:=hc.decide rfl rfl n.Ah x.flag;exact⟨a1,a2,a3⟩
  ·rw[if_neg h5];have more:∀{Q:PS},(∀k,AM P k->AM Q k)->∀k,AM P k->AM Q (k+24):=λhr k hk b hb=>by have:=hr k hk b hb;omega
   by_cases h8:x.kind=8
   ·rw[if_pos h8];unfold pmA BW at hp;rw[if_neg (by omega),if_neg (by omega),if_neg (by omega),if_neg (by omega),if_neg (by omega),if_neg (by omega),if_neg (by omega),if_pos h8]at hp;simp only[Bool.and_eq_true]at hp;have hO:=hp.1.2.2.2;have s:=PK P.clear n.CZ n.Ao n.move hO;have l6:=JP hO;have l7:=Nat.mul_le_mul l6 (show P.clear.Ac.length<=6 from ow6);exact⟨hc.side s (by omega) (by omega),s.s.M,more λk hk=>Aa8 (P:=P.clear) hk x⟩
   ·rw[if_neg h8];by_cases Q8:x.kind=10
    ·rw[if_pos Q8];unfold pmA BW at hp;rw[if_neg (by omega),if_neg (by omega),if_neg (by omega),if_neg (by omega),if_neg (by omega),if_neg (by omega),if_neg (by omega),if_neg (by omega),if_neg (by omega),if_pos Q8]at hp;simp only[Bool.and_eq_true]at hp;have hr:Da x.FN x.G6=true:=by
      have:=hp.1.2.2.2;unfold YG at this;rw[Bool.and_eq_true]at this;exact this.2
     have s:=PU P.clear n.move hr;exact⟨hc.side s (by omega) (by omega),s.s.M,more λk hk=>Abo (P:=P.clear) hk x⟩
    ·rw[if_neg Q8];by_cases h11:x.kind=11
     ·rw[if_pos h11];unfold pmA BW at hp;rw[if_neg (by omega),if_neg (by omega),if_neg (by omega),if_neg (by omega),if_neg (by omega),if_neg (by omega),if_neg (by omega),if_neg (by omega),if_neg (by omega),if_neg (by omega),if_pos h11]at hp;simp only[Bool.and_eq_true]at hp;have hl:=hp.1.2.2.2;unfold WG at hl;simp only[Bool.and_eq_true,decide_eq_true_iff]at hl;obtain⟨_,⟨l6,lo⟩,lr,_⟩:=hl;have s:=Rt P.clear n.move n.attempt lr lo;exact⟨hc.side s (by omega) (by omega),s.s.M,more λk hk=>Acz (P:=P.clear) hk x⟩
     ·rw[if_neg h11];have s:=Ps P.clear x;exact⟨hc.side s (by omega) (by omega),s.s.M,more λk hk=>Aad (P:=P.clear) hk x⟩
open Go Go.Sx
variable {lo hi:ByteArray}
theorem Ahc :Da lo hi=true↔lo.size<=12/\hi.size<=12/\(hi=BA []\/slt lo hi=true):=by
 unfold Da;rw[seq_eq];simp only[Bool.not_eq_true',Bool.or_eq_false_iff,decide_eq_false_iff_not,Bool.and_eq_false_iff,Bool.not_eq_false',decide_eq_true_iff];constructor
 ·rintro⟨⟨h1,h2⟩,h3⟩;exact⟨by omega,by omega,h3⟩
 ·rintro⟨h1,h2,h3⟩;exact⟨⟨by omega,by omega⟩,h3⟩
theorem Q7 (a b:ByteArray):AV a b=if a=BA []then b else if b≠BA []/\slt b a=true then b else a:=by
 unfold AV;rw[seq_eq,seq_eq];by_cases h1:a=BA []
 ·simp[h1]
 ·by_cases h2:b=BA []
  ·simp[h1,h2]
  ·simp[h1,h2]
open Go Go.Sx
variable {T:Nat->Nat}{X:Mc}
set_option maxHeartbeats 4000000 in
theorem AeF {w:World}{m:Nat}(h:A6 w m T X)(hN:XU X.sd)(hr:ShR X.p.c X.p.Ac X.p.held X.p.fin){f:Value}{Q:PS}(hQ:Q.c.e=0)(hrQ:ShR Q.c Q.Ac Q.held Q.fin)(hNQ:PN Q)(hf:∀(w1:World) (T1:Nat->Nat) (X1:Mc),A6 w1 m T1 X1->X1.p=X.p.clear->Dl X X1->Aq T T1 w w1->∀K:TR []->Pr,(∀X2 T2 w2,A6 w2 m T2 X2->X2.p=Q->Dl X1 X2->Aq T1 T2 w1 w2->K () w2)->AB Pg f [] true [] K w1){K:TR [.ag [.sl,.sl,.b],.sc (.i .i64)]->Pr}(k:∀so sw out writes X2 T2 w2,A6 w2 m T2 X2->X2.p=Q.clear->out.map Mg.p=Q.out->writes=Q.writes->Bq T2 (MI so sw out writes) w2->Dl X X2->Aq T T2 w w2->K ((so,sw,X.p.FR Q,()),0,()) w2):
  Cl Pg 32 [.pointer (some ⟨m,0,none⟩),f] true [.ag [.sl,.sl,.b],.sc (.i .i64)] K w:=by
 refine F6 _ _ ?_;unfold FX;dsimp only[Al,Ux,Vv,Li,Az,Ll,SL,Bf,KV,Tb,Vb,Vi,AQ,LW];refine Ad λa w1 h1 n1 k1=>?_;obtain⟨g1,s1,e1⟩:=h.own k1 n1 (Av h1);generalize hT:Dz a T=T1 at *;have Ta:T1 a=11:=by rw[<-hT];exact if_pos rfl
 simp only[sb,g1.hd,Bs];refine MK (d:=X.sd) g1.shd hN λd w2 hd2 k2=>?_;have g2:=g1.Ab k2;have h2:=k2.Aw h1;refine Ad λb w3 h3 n3 k3=>?_;have g3:=g2.Ab k3;have Tb:T1 b=0:=g2.new n3;refine Ul h3 rfl d λw4 h4 k4=>?_;have k34:Aa [] w2 w4:=BT k3 k4 n3;have g4:=g2.Ab k34;have a4:=k34.Aw h2;have k04:=Aj (Aj k1 k2) k34;have z1:=k1.size;have imD:Bq T1 (YP d) w4:=by
  have q:=hd2;have fr:∀y,w1.heap.size<=y->T1 y=0:=λy hy=>g1.new hy;have ow:=(q.ow.keeps k34 (by simp)).C6;have he:=(q.he.keeps k34 (by simp)).C6;have hh:=λx hx=>((q.hd x hx).keeps k34 (by simp)).C6;have fi:=(q.fi.keeps k34 (by simp)).C6;have rbk:∀{α:Type} {ρ:Rec α} {s:Sl} {l:List α} (hs:Bh ρ w2 s l) (hf:∀y∈Ai s,w1.heap.size<=y),∀y∈rb s,T1 y=0:=λhs hf y hy=>fr y (hf y (hs.rb y hy));exact⟨⟨ow,he,hh,fi⟩,λw' hs hw=>⟨(Bq.of ow (rbk q.ow q.fow)).st w' hs hw,(Bq.of he (rbk q.he q.fhe)).st w' hs hw,λx hx=>(Bq.of (hh x hx) (rbk (q.hd x hx) (q.fhd x hx))).st w' hs hw,(Bq.of fi (rbk q.fi q.ffi)).st w' hs hw⟩⟩
 have dN:XU d:=by
  refine⟨by rw[hd2.Ac];exact hN.1,?_,by rw[hd2.fin];exact hN.2.2.1,λx hx=>?_⟩
  ·have:=congrArg List.length hd2.held;simp only[List.length_map]at this;rw[this];exact hN.2.1
  ·have hm:x.p∈X.sd.held.map Hd.p:=by rw[<-hd2.held];exact List.mem_map.2 ⟨x,hx,rfl⟩
   obtain⟨z,hz,hzx⟩:=List.mem_map.1 hm;have e:z.ops=x.ops:=congrArg PH.ops hzx;rw[<-e];exact hN.2.2.2 z hz
 have dR:ShR d.c d.Ac (d.held.map Hd.p) d.fin:=by rw[hd2.c,hd2.Ac,hd2.held,hd2.fin];exact hr
 have eqS:∀Q':PS,Pv d.c d.Ac (d.held.map Hd.p) d.fin Q'.c Q'.Ac Q'.held Q'.fin=Pv X.p.c X.p.Ac X.p.held X.p.fin Q'.c Q'.Ac Q'.held Q'.fin:=λQ'=>by rw[hd2.c,hd2.Ac,hd2.held,hd2.fin];rfl
 simp only[sb];refine Td g4 λw5 h5 i5 e5=>?_;obtain⟨a5,Ta5⟩:=e5.Ql a4 Ta;obtain⟨b5,Tb5⟩:=e5.at h4 Tb;have D5:=imD.Bm e5;have e05:Aq T _ w w5:=e1.trans ((Aq.k0 (Aj k2 k34)).trans e5);refine hf w5 _ _ h5 rfl ⟨rfl,rfl⟩ e05 _ ?_;intro X6 T6 w6 h6 q6 x6 e6;obtain⟨a6,Ta6⟩:=e6.Ql a5 Ta5;obtain⟨b6,Tb6⟩:=e6.at b5 Tb5;have D6:=D5.Bm e6;have e06:=e05.trans e6;have c6:X6.c=Q.c:=by rw[<-q6];rfl
 have ee:X6.c.e=0:=by rw[c6];exact hQ
 simp only[sb,h6.hd,Bs,ee,show((0:Int) !=0)=false from rfl,A5,Nat.reduceAdd];refine bx3 rfl rfl rfl rfl λc w7 h7 n7 k7=>?_;obtain⟨g7,s7,e7⟩:=h6.own k7 n7 (Av h7);have a7:=k7.Aw a6;have b7:=k7.Aw b6;generalize hT7:Dz c T6=T7 at *;have Tc:T7 c=11:=by rw[<-hT7];exact if_pos rfl
 have Ta7:T7 a=11:=by rw[<-hT7];unfold Dz;split;rfl;exact Ta6
 have Tb7:T7 b=0:=by rw[<-hT7];unfold Dz;rw[if_neg (by have:=Av b6;omega)];exact Tb6
 simp only[sb];refine Td g7 λw8 h8 i8 e8=>?_;obtain⟨a8,Ta8⟩:=e8.Ql a7 Ta7;obtain⟨b8,Tb8⟩:=e8.at b7 Tb7;obtain⟨c8,Tc8⟩:=e8.Ql h7 Tc;have D8:=(D6.Bm e7).Bm e8;have e08:=(e06.trans e7).trans e8;have hwl:X6.d.writes=Q.writes:=by rw[<-q6];rfl
 have hsl:X6.d.Nv.len=X6.d.writes.length:=i8.ok.2.2.len;have hx6:Dl X X6:=⟨x6.BD,x6.sM⟩;have nac:a≠c:=by have:=Av a6;omega
 have zc:w.heap.size<=c:=by have:=e06.kp.size;omega
 generalize hT8:CG 7 (CG 6 T7)=T8 at *;obtain⟨X8,hX8⟩:∃X8:Mc,X8={X6 with c:={X6.c with HA:=false},d:={X6.d with Er:=⟨none,0,0⟩,out:=[],Nv:=⟨none,0,0⟩,writes:=[]}}:=⟨_,rfl⟩;rw[<-hX8]at h8;have q8:X8.p=Q.clear:=by rw[hX8,<-q6];rfl
 have x8:Dl X X8:=by rw[hX8];exact⟨x6.BD,x6.sM⟩
 have hout:X6.d.out.map Mg.p=Q.out:=by rw[<-q6];rfl
 clear hf h6 x6 e6 q6 g7 h5;refine AG (λ_ w9=>A6 w9 m T8 X8/\Bq T8 (MI X6.d.Er X6.d.Nv X6.d.out X6.d.writes) w9/\Aa [c] w8 w9/\w9.heap[c]?=some (.cells #[.slice X6.d.Er.p X6.d.Er.len X6.d.Er.cap,.slice X6.d.Nv.p X6.d.Nv.len X6.d.Nv.cap,.bool (X.p.FR Q)] 52 (0,0))) (λJ hJ=>?_) ?_
 ·simp only[sb,c8];have hbm:∀(w9:World) (bv:Bool),Aa [] w8 w9->X.p.FR Q=bv->St ⟨c,2,none⟩ (.bool bv) (J ()) w9:=by
   intro w9 bv k9 hbv;refine Ax (k9.Aw c8) 2 _ rfl (by simp) λw10 c10 k10=>?_;simp only[Ck]at c10;obtain⟨Q8,s10⟩:=(h8.Ab k9).LK Tc8 k10;refine hJ () w10 ⟨Q8,(i8.Ab k9).kt (by decide) s10,(k9.mono (by simp)).trans k10 (λ_ hx=>.inl hx),?_⟩;rw[hbv];exact c10
  unfold PS.FR at hbm;by_cases hw0:0<Q.writes.length
  ·rw[show decide (((X6.d.Nv.len:Nat):Int)>0)=true from decide_eq_true (by rw[hsl,hwl];omega)];simp only[sb];refine hbm _ true (Am w8) ?_;rw[decide_eq_true hw0,Bool.true_or]
  ·rw[show decide (((X6.d.Nv.len:Nat):Int)>0)=false from decide_eq_false (by rw[hsl,hwl];omega)];simp only[sb,b8,h8.hd,Bs];have g8:=h8.Ab (Am w8);refine AdT (d:=d) (e:=X8.sd) (D8.ok.Ab (Am w8)) dN dR g8.shd ?_ ?_ λw9 k9=>?_
   ·refine PN.sd ?_;rw[q8];exact hNQ
   ·obtain⟨p1,p2,p3,p4⟩:=Ajo X8;rw[p1,p2,p3,p4,q8];exact hrQ.HA false
   ·refine hbm w9 _ (Aj (Am w8) k9) ?_;rw[decide_eq_false hw0,Bool.false_or];show _=!(Pv d.c d.Ac (d.held.map Hd.p) d.fin X8.p.c X8.p.Ac X8.p.held X8.p.fin);rw[eqS X8.p,q8];rfl
 ·rintro _ w9 ⟨h9,i9,k9,c9⟩;have a9:=k9.Mw a8 nac;simp only[sb,c9];refine Mf a9 rfl rfl rfl λw10 a10 k10=>?_;obtain⟨Q8,s10⟩:=h9.LK Ta8 k10;simp only[sb,a10];refine k _ _ X6.d.out X6.d.writes X8 T8 w10 Q8 q8 hout hwl (i9.kt (by decide) s10) x8 ?_;exact G8 (G8 e08 k9 (by simp;exact zc)) k10 (by simp;exact n1)
theorem Aib (h:PX X.p)(ho:X.p.out=[])(hR:AM X.p 90000):Bds X:=by
 have p:=h.j.ok;have ol:X.d.out.length=0:=by have:=congrArg List.length ho;rw[show X.p.out=X.d.out.map Mg.p from rfl,List.length_map]at this;exact this
 have h1:X.p.held.length=X.d.held.length:=List.length_map _;have h2:X.p.wait.length=X.d.wait.length:=List.length_map _;have h3:=p.hn;have h4:X.d.M.length<=200000:=p.mn;exact⟨by omega,λb hb=>Nat.le_trans (hR b hb) (by decide),by omega,λx hx=>Nat.le_trans (p.hv x.p (List.mem_map.2 ⟨x,hx,rfl⟩)).2 (by decide),λx hx=>Nat.le_trans (p.wv x.p (List.mem_map.2 ⟨x,hx,rfl⟩)).2.1 (by decide),by omega,by omega⟩
theorem AeS {w:World}{m:Nat}(h:A6 w m T X){P:PS}(q:X.p=P.clear)(hP:PX P){y:PM}(hb:P.OU y=false)(hn:ZM y)(hR:AM P 90000)(x:Mg)(hy:x.p=y)(hx:Bq T (Su x) w){c a b:Nat}(hc:w.heap[c]?=some (.cells #[dV x.kind] 102 (0,0)))(ha:w.heap[a]?=some (.cells #[.pointer (some ⟨m,0,none⟩)] 28 (0,0)))(hbx:w.heap[b]?=some (.cells (Sm x) 47 (0,0))){K:TR []->Pr}(k:∀X' T' w',A6 w' m T' X'->X'.p=P.CA y->Dl X X'->Aq T T' w w'->K () w'):
  AB Pg (.func (.func 33) #[] #[.pointer (some ⟨c,0,none⟩),.pointer (some ⟨a,0,none⟩),.pointer (some ⟨b,0,none⟩)]) [] true [] K w:=by
 refine Q4 (cs:=[.pointer (some ⟨c,0,none⟩),.pointer (some ⟨a,0,none⟩),.pointer (some ⟨b,0,none⟩)]) (by kernel_rfl) ?_;refine DW _ _ _ ?_;unfold DQ;dsimp only[Ag,Bn,Vp];simp only[sb,hc,ha,hbx];have hX:PX X.p:=by rw[q];exact hP.clear
 have hl:=hX.j.left;have o0:X.p.out=[]:=by rw[q];rfl
 have w0:X.p.writes=[]:=by rw[q];rfl
 have hR':AM X.p 90000:=by rw[q];exact hR
 have B:=Aib hX o0 hR';have ol:X.p.out.length=0:=by rw[o0];rfl
 have od:X.d.out.length=0:=by have:=congrArg List.length o0;rw[show X.p.out=X.d.out.map Mg.p from rfl,List.length_map]at this;exact this
 have wd:X.d.writes.length=0:=by show X.p.writes.length=0;rw[w0];rfl
 have ow6:=JP hX.ow;have owd:X.d.Ac.length<=6:=ow6;have hb2:=hb;unfold PS.OU at hb2;simp only[Bool.or_eq_false_iff,Bool.not_eq_false']at hb2;obtain⟨hp,_,hk0⟩:=hb2;have ek:y.kind=x.kind:=by rw[<-hy];rfl
 have hk:x.kind=3\/x.kind=5\/x.kind=8\/x.kind=10\/x.kind=11\/x.kind=12:=by
  rw[ek]at hk0;unfold Fi at hk0;simpa only[Bool.or_eq_true,beq_iff_eq]using hk0
 subst hy;clear hk0;unfold PS.CA at k;rw[<-q]at k;rw[ek]at k;rcases hk with hk|hk|hk|hk|hk|hk
 ·rw[if_pos hk]at k;rw[ZI (.inl (ek.trans hk))]at hp;unfold Q9 BW at hp;rw[if_pos (show x.p.kind=3 from hk)]at hp;simp only[Bool.and_eq_true,decide_eq_true_iff]at hp;rw[show dV x.kind=Ez 73 from by rw[hk];rfl];refine Ap (by kernel_rfl) ?_;exact Aen h hX.j.ok (by omega) (by omega) x hx hp.1.2.2.2.2.2 hp.1.2.2.2.2.1 λX' T' w' g e f=>k X' T' w' g e f.s
 ·rw[if_neg (by omega),if_pos hk]at k;rw[show dV x.kind=Ez 74 from by rw[hk];rfl];refine Ap (by kernel_rfl) ?_;exact YD h hX.j.ok (by omega) (by have:=hX.j.ct.all;have e:X.p.fin.length=X.d.fin.length:=rfl;omega) (by omega) hR' x λX' T' w' g e f=>k X' T' w' g e f.s
 ·rw[if_neg (by omega),if_neg (by omega),if_pos hk]at k;unfold pmA BW at hp;rw[ek]at hp;rw[if_neg (by omega),if_neg (by omega),if_neg (by omega),if_neg (by omega),if_neg (by omega),if_neg (by omega),if_neg (by omega),if_pos hk]at hp;simp only[Bool.and_eq_true]at hp;have lo:=JP hp.1.2.2.2;have lo:x.Ac.length<=6:=lo;rw[show dV x.kind=Ez 75 from by rw[hk];rfl];refine Ap (by kernel_rfl) ?_;exact Ad4 h x hx (by omega) (by omega) (by omega) (by omega) k
 ·rw[if_neg (by omega),if_neg (by omega),if_neg (by omega),if_pos hk]at k;rw[show dV x.kind=Ez 76 from by rw[hk];rfl];refine Ap (by kernel_rfl) ?_;refine Afl h x (by omega) B (λY hY=>?_) k;obtain⟨l,e1,e2,_⟩:=(MY ((X.p.boxed x.p).closing x.flag)).out;have e3:((X.p.boxed x.p).closing x.flag).out=X.p.out:=by
   have h1:(X.p.boxed x.p).out=X.p.out:=by unfold PS.boxed;split<;>rfl
   unfold PS.closing;split<;>exact h1
  rw[SX hY,e1,e3,o0,List.nil_append];omega
 ·rw[if_neg (by omega),if_neg (by omega),if_neg (by omega),if_neg (by omega),if_pos hk]at k;unfold pmA BW at hp;rw[ek]at hp;rw[if_neg (by omega),if_neg (by omega),if_neg (by omega),if_neg (by omega),if_neg (by omega),if_neg (by omega),if_neg (by omega),if_neg (by omega),if_neg (by omega),if_neg (by omega),if_pos hk]at hp;simp only[Bool.and_eq_true]at hp;have hld:=hp.1.2.2.2;unfold WG at hld;simp only[Bool.and_eq_true,decide_eq_true_iff]at hld;have l6:x.ops.length<=6:=hld.2.1.1;rw[show dV x.kind=Ez 77 from by rw[hk];rfl];refine Ap (by kernel_rfl) ?_;exact AfW h x hx (by omega) (by omega) (by omega) (by omega) λX' T' w' g e f=>k X' T' w' g e f.s
 ·rw[if_neg (by omega),if_neg (by omega),if_neg (by omega),if_neg (by omega),if_neg (by omega)]at k;rw[show dV x.kind=Ez 78 from by rw[hk];rfl];refine Ap (by kernel_rfl) ?_;exact Af2 h x B k
set_option maxHeartbeats 4000000 in
theorem Agc {w:World}{m:Nat}(h:A6 w m T X)(hJ:PX X.p)(hR:AM X.p 90000)(x:Mg)(hx:Bq T (Su x) w)(hn:ZM x.p)(hO:x.Ac.length<=140737488355328){K:TR [.ag [.sl,.sl,.b],.sc (.i .i64)]->Pr}(k1:X.p.OU x.p=true->∀T' w',A6 w' m T' X->Aq T T' w w'->K ((⟨none,0,0⟩,⟨none,0,0⟩,false,()),180,()) w')(k2:X.p.OU x.p=false->∀so sw out writes X2 T2 w2,A6 w2 m T2 X2->X2.p=(X.p.CA x.p).clear->out.map Mg.p=(X.p.CA x.p).out->writes=(X.p.CA x.p).writes->Bq T2 (MI so sw out writes) w2->Dl X X2->Aq T T2 w w2->K ((so,sw,X.p.FR (X.p.CA x.p),()),0,()) w2):
  Cl Pg 11 [.pointer (some ⟨m,0,none⟩),.agg (Sm x)] true [.ag [.sl,.sl,.b],.sc (.i .i64)] K w:=by
 refine EO _ _ _ _ _ _ _ _ _ _ _ _ _ _ _ _ _ _ _ x.so x.sr x.sw ?_;unfold EH;dsimp only[Ag,Vv,Li,Bn,SL,KV,Tb,Vb,Vi,Vp,LW];refine Ad λa w1 h1 n1 q1=>?_;refine Ad λb w2 h2 n2 q2=>?_;refine Ad λe w3 h3 n3 q3=>?_;have q02:=Aj q1 q2;have g2:=h.Ab q02;have a2:=q2.Aw h1;have Ta2:T a=0:=h.new n1;have Tb2:T b=0:=(h.Ab q1).new n2;obtain⟨g3,s3,e3⟩:=g2.own q3 n3 (Av h3);obtain⟨a3,Ta3⟩:=e3.at a2 Ta2;obtain⟨b3,Tb3⟩:=e3.at h2 Tb2;have ev3:Aq T (Dz e T) w w3:=(Aq.k0 q02).trans e3;have x3:=hx.Bm ev3;generalize hT3:Dz e T=T3 at *;have Te:T3 e=11:=by rw[<-hT3];exact if_pos rfl
 refine AG (λs w4=>∃c,s=(some ⟨c,0,none⟩,Fi x.kind,())/\Aa [] w3 w4/\w4.heap[c]?=some (.cells #[dV x.kind] 102 (0,0))/\w3.heap.size<=c) (λJ hJ4=>?_) ?_
 ·simp only[sb,b3];have b3d:w3.drew.heap[b]?=_:=b3;have zd:w3.drew.heap.size=w3.heap.size:=rfl;refine⟨?_,?_⟩
  ·refine Tf λmm w4 h4 n4 q4=>?_;have b4:=q4.Aw b3d;simp only[sb,b4];refine⟨by trivial,?_⟩;refine Fk h4 x.kind ?_;refine⟨rfl,?_⟩;refine Ad λc w5 h5 n5 q5=>?_;have b5:=q5.Aw b4;have h45:=h4.CM q5 (by simp);simp only[sb,b5];refine⟨Fk h45 x.kind rfl,by trivial,?_⟩;refine Ax h5 0 _ (Yh _) (by simp) λw6 h6 q6=>?_;simp only[Ck]at h6;exact hJ4 _ w6 ⟨c,rfl,BT (Aj (Aj (Am w3) q4) q5) q6 (by have:=q4.size;omega),h6,by have:=q4.size;omega⟩
  ·refine⟨rfl,?_⟩;refine Ad λc w4 h4 n4 q4=>?_;have b4:=q4.Aw b3d;simp only[sb,b4];refine⟨by trivial,?_⟩;refine Tf λmm w5 h5 n5 q5=>?_;have b5:=q5.Aw b4;simp only[sb,b5];refine⟨by trivial,?_⟩;refine Fk h5 x.kind ?_;refine Ax (q5.Aw h4) 0 _ (Yh _) (by simp) λw6 h6 q6=>?_;simp only[Ck]at h6;exact hJ4 _ w6 ⟨c,rfl,BT (Aj (Aj (Am w3) q4) q5) q6 (by omega),h6,by omega⟩
 ·rintro _ w4 ⟨c,rfl,q4,hc4,nc4⟩;have g4:=g3.Ab q4;have a4:=q4.Aw a3;have b4:=q4.Aw b3;have d4:=q4.Aw h3;have x4:=x3.Ab q4;have Tc:T3 c=0:=g3.new nc4;refine BR (X.p.OU x.p) (λJ hJ6=>?_) λw5 q5=>?_
  ·unfold PS.OU at hJ6;simp only[sb,b4];refine AdX (x:=x) (x4.Ab (Am w4)).ok hO λw5 q5=>?_;have g5:=(g4.Ab (Am w4)).Ab q5;have a5:=q5.Aw (show w4.drew.heap[a]?=_ from a4);have b5:=q5.Aw (show w4.drew.heap[b]?=_ from b4);have q45:=Aj (Am w4) q5;cases c1:pmA x.p with
   |false=>rw[c1]at hJ6;exact hJ6 w5 q45
   |true=>
    rw[c1,Bool.not_true,Bool.false_or]at hJ6;simp only[if_true,show((0:Int) !=0)=false from rfl,sb,a5,b5,g5.hd,Bs];rw[show(x.p.dst !=X.p.c.id)=(x.dst !=X.c.id)from rfl,show Fi x.p.kind=Fi x.kind from rfl]at hJ6;cases c2:(x.dst !=X.c.id)with
    |true=>rw[c2]at hJ6;exact hJ6 w5 q45
    |false=>
     rw[c2,Bool.false_or]at hJ6;exact hJ6 w5 q45
  ·have g5:=g4.Ab q5;have a5:=q5.Aw a4;have b5:=q5.Aw b4;have c5:=q5.Aw hc4;have d5:=q5.Aw d4;have x5:=x4.Ab q5;have ev5:Aq T T3 w w5:=ev3.trans (Aq.k0 (Aj q4 q5));have ze:w.heap.size<=e:=by have:=q02.size;omega
   cases hbad:X.p.OU x.p with
   |true=>
    simp only[Af];refine Mf d5 rfl rfl rfl λw6 h6 q6=>?_;obtain⟨g6,_⟩:=g5.LK Te q6;simp only[sb,h6];exact k1 hbad T3 w6 g6 (G8 ev5 q6 (by simp;exact ze))
   |false=>
    obtain⟨hQ,hQM,hQR⟩:=hJ.taken hn hbad;simp only[sb,a5];refine AeF (Q:=X.p.CA x.p) g5 (Ru hJ.j.ok hJ.j.ct).sd hJ.j.rg.shr hQ.j.ok.er hQ.j.rg.shr (Ru hQ.j.ok hQ.j.ct) ?_ ?_
    ·intro w6 T6 X6 h6 q6 x6 e6 K1 hK1;obtain⟨a6,Ta6⟩:=e6.at a5 Ta3;obtain⟨b6,Tb6⟩:=e6.at b5 Tb3;obtain⟨c6,Tc6⟩:=e6.at c5 Tc;exact AeS h6 q6 hJ hbad hn hR x rfl (x5.Bm e6) c6 a6 b6 hK1
    ·intro so sw out writes X7 T7 w7 h7 q7 ho hw i7 x7 e7;obtain⟨d7,Td7⟩:=e7.Ql d5 Te;refine Mf d7 rfl rfl rfl λw8 h8 q8=>?_;obtain⟨g8,s8⟩:=h7.LK Td7 q8;simp only[sb,h8];exact k2 hbad so sw out writes X7 T7 w8 g8 q7 ho hw (i7.kt (by decide) s8) x7 (G8 (ev5.trans e7) q8 (by simp;exact ze))
open Go Go.Sx
theorem Loc.start {ρ:Rec α}{k:Nat}(hk:12<k){w0 w:World}{m:Nat}{T:Nat->Nat}{X:Mc}(h:A6 w0 m T X)(kp:Aa [] w0 w){r:Sl}{l:List α}(hr:Bh ρ w r l)(fr:∀b∈Ai r,w0.heap.size<=b)(hT:∀b,T b≠k):A6 w m (AX k r T) X/\Loc ρ k w0.heap.size (AX k r T) r l w/\Aq T (AX k r T) w0 w:=by
 have old:∀b,b<w0.heap.size->AX k r T b=T b:=λb hb=>if_neg λhm=>by have:=fr b hm;omega
 have s:CH k T (AX k r T) w0 w:=⟨kp.FY (by simp),λb hb _=>old b hb⟩;refine⟨h.kk hk s (GH hr kp.size h.r.bd),⟨.of hr ED,λb hb=>?_⟩,⟨kp.FY (by simp),λb hb _=>old b hb⟩⟩;unfold AX at hb;split at hb
 ·rename_i hm;exact fr b hm
 ·exact absurd hb (hT b)
theorem sort_k {k:Nat}(hk:12<k){w w0:World}{m:Nat}{T T0:Nat->Nat}{X:Mc}(h:A6 w m T X){r:Sl}{l:List Int}(hr:Loc HL k w0.heap.size T r l w)(h0:Aq T0 T w0 w)(hN:l.length<=65000)(hd:l.Nodup){K:TR []->Pr}(kk:∀w',A6 w' m T X->Loc HL k w0.heap.size T r (Dk l) w'->Aq T0 T w0 w'->K () w'):Cl Pg 37 [.slice r.p r.len r.cap] true [] K w:=by
 have h1:AE w r 1 (cU l):=by
  have h:AE w r HL.n (l.flatMap HL.c):=hr.c.ok;rw[XH]at h;exact h
 refine Cl.mono (AbH h1 hN) ?_;rintro⟨⟩ w' ⟨l',hp,hs,h2,k2⟩;have e:l'=Dk l:=by
  refine Xt ?_ λx=>hp.mem_iff;have hn:l'.Nodup:=hp.nodup_iff.2 hd;exact(hs.and hn).imp λ⟨a,b⟩=>by omega
 subst e;have s:CH k T T w w':=⟨k2.FY λb hb=>.inl (hr.c.tag b hb).2,λ_ _ _=>rfl⟩;refine kk w' (h.kk hk s λb hb=>Nat.lt_of_lt_of_le (h.r.bd b hb) k2.size) ⟨.of (by show AE w' r 1 _;rw[XH];exact h2) (λb hb=>(hr.c.tag b hb).2),hr.new⟩ (Aq.loc hk h0 s hr.new)
namespace PS
def asks (P:PS)(l:List Int):PS:=l.foldl (λQ n=>Q.send {PM.zero with kind:=7,Ah:=n}) P
def under (P:PS):Bool:=match P.box with
 |none=>false
 |some b=>b.under
def CF (P:PS):PS:=if P.under then(P.asks (Dk (P.wait.map (·.Ah)++P.held.map (·.Ah)))).DV else P.asks (Dk (P.wait.map (·.Ah)++P.held.map (·.Ah)))
end PS
theorem Fl:∀(l:List Int) (P:PS),∃o,P.asks l={P with out:=P.out++o}/\o.length=l.length/\∀x∈o,x.kind≠4
 |[],P=>⟨[],by simp[PS.asks],rfl,by simp⟩
 |n::l,P=>by
  obtain⟨o,h1,h2,h3⟩:=Fl l (P.send {PM.zero with kind:=7,Ah:=n});refine⟨{PM.zero with kind:=7,Ah:=n,src:=P.c.id}::o,?_,by rw[List.length_cons,List.length_cons,h2],λx hx=>?_⟩
  ·show(P.send _).asks l=_;rw[h1];unfold PS.send;simp
  ·rcases List.mem_cons.1 hx with rfl|hx
   ·show(7:Int)≠4;decide
   ·exact h3 x hx
theorem OD (P:PS)(l:List Int):AA P (P.asks l) 0 l.length:=by
 obtain⟨o,h1,h2,h3⟩:=Fl l P;rw[h1];exact⟨⟨rfl,rfl,rfl,rfl,rfl,rfl,rfl,Nat.le_refl _⟩,⟨o,rfl,by omega,h3⟩,λ_ h=>h,λh=>h,λh _=>h,λh=>h⟩
theorem Mq (P:PS):AA P P.DV 0 1:=by
 unfold PS.DV;split
 ·exact(AA.refl P).le (Nat.le_refl _) (by omega)
 ·exact Ej _ _ (by show(11:Int)≠4;decide)
theorem PX.nodup (h:Bj P):(P.wait.map (·.Ah)++P.held.map (·.Ah)).Nodup:=by
 rw[List.nodup_append];refine⟨(List.pairwise_map.2 h.wt).imp λh=>Int.ne_of_lt h,(List.pairwise_map.2 h.hd).imp λh=>Int.ne_of_lt h,λa ha b hb=>?_⟩;obtain⟨x,hx,rfl⟩:=List.mem_map.1 ha;obtain⟨y,hy,rfl⟩:=List.mem_map.1 hb;exact h.dj x hx y hy
theorem PX.CF {P:PS}(h:PX P):PX P.clear.CF/\P.clear.CF.M=P.M/\∀k,AM P k->AM P.clear.CF k:=by
 have hc:=h.clear;have hn:=PX.nodup hc.j.ok;have hl:=JZ (l:=P.clear.wait.map (·.Ah)++P.clear.held.map (·.Ah));have h6:=h.j.ct.hw;rw[List.length_append,List.length_map,List.length_map]at hl;have e1:P.clear.wait=P.wait:=rfl;have e2:P.clear.held=P.held:=rfl;rw[e1,e2]at hl;have s1:=OD P.clear (Dk (P.clear.wait.map (·.Ah)++P.clear.held.map (·.Ah)));have s2:=s1.trans (Mq _);have w0:P.clear.writes.length=0:=rfl;have o0:P.clear.out.length=0:=rfl;have hb:∀l,(P.clear.asks l).box=P.box:=λl=>by obtain⟨o,h1,_⟩:=Fl l P.clear;rw[h1];rfl
 unfold PS.CF;split
 ·refine⟨hc.side s2 (by omega) (by rw[e1,e2];omega),s2.s.M,λk hk=>?_⟩;refine EM (P:=P) hk ?_;unfold PS.DV;split
  ·exact hb _
  ·exact hb _
 ·exact⟨hc.side s1 (by omega) (by rw[e1,e2];omega),s1.s.M,λk hk=>EM (P:=P) hk (hb _)⟩
set_option maxHeartbeats 4000000 in
theorem AgQ {w:World}{m:Nat}(h:A6 w m T X)(hp:Bj X.p)(hc:X.p.held.length+X.p.wait.length<=6)(ho:X.d.out.length<=1000)(hL:∀b,X.d.bx=some b->X.d.box.load.length<=1000000){a:Nat}(ha:w.heap[a]?=some (.cells #[.pointer (some ⟨m,0,none⟩)] 28 (0,0)))(Ta:T a=0){K:TR []->Pr}(k:∀X' T' w',A6 w' m T' X'->X'.p=X.p.CF->Dl X X'->Aq T T' w w'->K () w'):AB Pg (.func (.func 36) #[] #[.pointer (some ⟨a,0,none⟩)]) [] true [] K w:=by
 refine Q4 (cs:=[.pointer (some ⟨a,0,none⟩)]) (by kernel_rfl) ?_;refine Jj _ ?_;unfold G1;dsimp only[Lb,Ll,Hr,Lu,Ts,Tu,Vb,Vi,Vp,Vs,Vt,Vu];simp only[sb,ha];have eh:X.p.held.length=X.d.held.length:=List.length_map _;have ew:X.p.wait.length=X.d.wait.length:=List.length_map _;obtain⟨kt,hk,hT⟩:=Y8 h.r.bd;refine AbI h (by omega) ?_;intro r1 w1 hr1 fr1 k1;obtain⟨g1,l1,e1⟩:=Loc.start hk h k1 hr1 fr1 hT;obtain⟨a1,Ta1⟩:=e1.at ha Ta;generalize hT1:AX kt r1 T=T1 at *;simp only[sb,a1,g1.hd,Bs,A5,Nat.reduceAdd];have shl:X.d.sh.len=X.d.held.length:=g1.r.he.ok.BY;refine⟨λn st w'=>∃(i:Nat) (r:Sl) (T2:Nat->Nat),st=(r,(i:Int),())/\n=X.d.held.length-i/\i<=X.d.held.length/\A6 w' m T2 X/\Loc HL kt w.heap.size T2 r (X.d.wait.map (·.Ah)++(X.d.held.take i).map (·.Ah)) w'/\Aq T T2 w w',⟨_,0,r1,T1,rfl,rfl,by omega,g1,by simpa using l1,e1⟩,?_⟩;rintro n _ w2 ⟨i,r2,T2,rfl,rfl,hi,g2,l2,e2⟩;dsimp only;by_cases hlt:i<X.d.held.length
 ·rw[decide_eq_true (by omega)];simp only[Af];obtain⟨x,hx⟩:∃x,X.d.held[i]?=some x:=⟨_,List.getElem?_eq_getElem hlt⟩;refine I0 g2.r.he.ok.C6 hx ?_;refine Lz x λc w3 h3 n3 k3=>?_;simp only[sb,h3];refine Ad λd w4 h4 n4 k4=>?_;have k24:=Aj k3 k4;have g4:=g2.Ab k24;have l4:=l2.Ab hk k24;have ll:=l4.c.ok.BY;rw[List.length_append,List.length_map,List.length_map,List.length_take]at ll;refine Tn hk g4 (ρ:=HL) (q:=1) (new:=[x.Ah]) l4 (e2.trans (Aq.k0 k24)) rfl (by rw[List.flatMap_singleton];exact BI (ρ:=HL) (x:=x.Ah) h4) rfl (by rw[GL];rfl) (by omega) (by omega) ?_;intro r5 T5 w5 g5 l5 s5 e5;refine⟨X.d.held.length-(i+1),by omega,i+1,r5,T5,by rw[AK (by omega)],rfl,by omega,g5,?_,e5⟩;rw[List.take_add_one,hx,List.map_append,<-List.append_assoc];exact l5
 ·rw[decide_eq_false (by omega)];simp only[Ae];rw[List.take_of_length_le (by omega)]at l2;have hn:(X.d.wait.map (·.Ah)++X.d.held.map (·.Ah)).Nodup:=by
   have:=PX.nodup hp;rw[show X.p.wait.map (·.Ah)=X.d.wait.map (·.Ah)from by show(X.d.wait.map Wt.p).map _=_;rw[List.map_map];rfl,show X.p.held.map (·.Ah)=X.d.held.map (·.Ah)from by show(X.d.held.map Hd.p).map _=_;rw[List.map_map];rfl]at this;exact this
  have hq:Dk (X.d.wait.map (·.Ah)++X.d.held.map (·.Ah))=Dk (X.p.wait.map (·.Ah)++X.p.held.map (·.Ah)):=by
   rw[show X.p.wait.map (·.Ah)=X.d.wait.map (·.Ah)from by show(X.d.wait.map Wt.p).map _=_;rw[List.map_map];rfl,show X.p.held.map (·.Ah)=X.d.held.map (·.Ah)from by show(X.d.held.map Hd.p).map _=_;rw[List.map_map];rfl]
  have hsl:=JZ (l:=X.d.wait.map (·.Ah)++X.d.held.map (·.Ah));rw[List.length_append,List.length_map,List.length_map]at hsl;refine sort_k hk g2 l2 e2 (by rw[List.length_append,List.length_map,List.length_map];omega) hn ?_;intro w3 g3 l3 e3;obtain⟨g4,i4,e4⟩:=Loc.AcO hk g3 l3 e3;generalize hT4:CG kt T2=T4 at *;rw[hq]at i4 hsl;unfold PS.CF at k;generalize hS:Dk (X.p.wait.map (·.Ah)++X.p.held.map (·.Ah))=S at *;have rl:r2.len=S.length:=i4.ok.len;refine⟨λn st w'=>∃(i:Nat) (X1:Mc) (T1:Nat->Nat),st=((i:Int),())/\n=S.length-i/\i<=S.length/\A6 w' m T1 X1/\X1.p=X.p.asks (S.take i)/\Fix X X1/\Aq T4 T1 w3 w',⟨_,0,X,T4,rfl,rfl,by omega,g4,rfl,Fix.refl _,Aq.refl _ _⟩,?_⟩;rintro n _ w5 ⟨i,X5,T5,rfl,rfl,hi,g5,q5,f5,e5⟩;obtain⟨a3,Ta3⟩:=e4.at ha Ta;obtain⟨a5,Ta5⟩:=e5.at a3 Ta3;have e05:=e4.trans e5;dsimp only;by_cases hlt:i<S.length
  ·rw[decide_eq_true (by omega)];simp only[Af];obtain⟨n0,hn0⟩:∃n,S[i]?=some n:=⟨_,List.getElem?_eq_getElem hlt⟩;refine ldn (i4.Bm e5).ok hn0 ?_;simp only[sb,a5];have ol:X5.d.out.length<=90000:=by
    obtain⟨o,h1,h2,_⟩:=Fl (S.take i) X.p;rw[SX q5,h1];show(X.p.out++o).length<=_;rw[List.length_append,h2,List.length_take,show X.p.out.length=X.d.out.length from List.length_map _];omega
   refine KD g5 ⟨7,0,0,0,0,0,0,0,n0,0,0,0,0,0,0,false,BA [],BA [],⟨none,0,0⟩,⟨none,0,0⟩,⟨none,0,0⟩,[],[],[]⟩ (mgz rfl rfl rfl rfl rfl rfl) (by omega) ?_;intro so6 T6 w6 g6 e6;refine⟨S.length-(i+1),by omega,i+1,_,T6,by rw[AK (by omega)],rfl,by omega,g6,?_,f5.trans ⟨rfl,rfl,rfl,rfl⟩,e5.trans e6⟩;unfold PS.asks;rw[GZ _ hn0];show _=(X.p.asks (S.take i)).send _;rw[<-q5];unfold PS.send Mc.p;dsimp only;rw[List.map_append];rfl
  ·rw[decide_eq_false (by omega)];simp only[Ae];rw[List.take_of_length_le (by omega)]at q5;refine BR X.p.under (λJ hJ=>?_) λw6 k6=>?_
   ·simp only[sb,a5,g5.hd,Bs];unfold PS.under at hJ;rw[f5.bx];cases hx:X.d.bx with
    |none=>
     rw[show X.p.box=none from by show X.d.bx.map _=_;rw[hx];rfl]at hJ;simp only[Option.map_none,Option.isNone_none,Bool.not_true,sb];exact hJ _ (Aa.refl _ _)
    |some b=>
     rw[show X.p.box=some X.d.box.p from by show X.d.bx.map _=_;rw[hx];rfl]at hJ;have hb5:=g5.r.bo.ok b (by rw[f5.bx];exact hx);rw[f5.box]at hb5;simp only[Option.map_some,Option.isNone_some,Bool.not_false,sb,a5,g5.hd,Bs,f5.bx,hx,hb5,Gb];exact hJ _ (Aa.refl _ _)
   ·have g6:=g5.Ab k6;have a6:=k6.Aw a5;cases hu:X.p.under with
    |false=>
     rw[hu,if_neg (by simp)]at k;simp only[sb];exact k X5 T5 w6 g6 q5 f5.s (e05.trans (Aq.k0 k6))
    |true=>
     rw[hu,if_pos rfl]at k;simp only[sb,a6];obtain⟨b,hb⟩:∃b,X.d.bx=some b:=by
      unfold PS.under at hu;cases hx:X.d.bx with
      |none=>rw[show X.p.box=none from by show X.d.bx.map _=_;rw[hx];rfl]at hu;cases hu
      |some b=>exact⟨b,rfl⟩
     refine Afv g6 (b:=b) (by rw[f5.bx];exact hb) (by rw[f5.box];exact hL b hb) ?_ ?_
     ·obtain⟨o,h1,h2,_⟩:=Fl S X.p;rw[SX q5,h1];show(X.p.out++o).length<=_;rw[List.length_append,h2,show X.p.out.length=X.d.out.length from List.length_map _];omega
     ·intro X7 T7 w7 g7 q7 f7 e7;exact k X7 T7 w7 g7 (by rw[q7,q5]) (f5.s.trans f7.s) ((e05.trans (Aq.k0 k6)).trans e7)
theorem AhO {w:World}{m:Nat}(h:A6 w m T X)(hJ:PX X.p)(hL:∀b,X.d.bx=some b->X.d.box.load.length<=1000000){K:TR [.ag [.sl,.sl,.b],.sc (.i .i64)]->Pr}(k2:∀so sw out writes X2 T2 w2 lb,A6 w2 m T2 X2->X2.p=X.p.clear.CF.clear->out.map Mg.p=X.p.clear.CF.out->writes=X.p.clear.CF.writes->Bq T2 (MI so sw out writes) w2->Dl X X2->Aq T T2 w w2->K ((so,sw,lb,()),0,()) w2):
  Cl Pg 18 [.pointer (some ⟨m,0,none⟩)] true [.ag [.sl,.sl,.b],.sc (.i .i64)] K w:=by
 refine KK _ ?_;unfold It;dsimp only[Vv,SL,KV,Vp,LW];refine Ad λa w1 h1 n1 q1=>?_;refine Ad λe w3 h3 n3 q3=>?_;have g1:=h.Ab q1;have Ta:T a=0:=h.new n1;obtain⟨g3,s3,e3⟩:=g1.own q3 n3 (Av h3);obtain⟨a3,Ta3⟩:=e3.at h1 Ta;have ev3:Aq T (Dz e T) w w3:=(Aq.k0 q1).trans e3;generalize hT3:Dz e T=T3 at *;have Te:T3 e=11:=by rw[<-hT3];exact if_pos rfl
 obtain⟨hQ,hQM,_⟩:=hJ.CF;have ze:w.heap.size<=e:=by have:=q1.size;omega
 simp only[sb,a3];refine AeF (Q:=X.p.clear.CF) g3 (Ru hJ.j.ok hJ.j.ct).sd hJ.j.rg.shr hQ.j.ok.er hQ.j.rg.shr (Ru hQ.j.ok hQ.j.ct) ?_ ?_
 ·intro w6 T6 X6 h6 q6 x6 e6 K1 hK1;obtain⟨a6,Ta6⟩:=e6.at a3 Ta3;have hX6:PX X6.p:=by rw[q6];exact hJ.clear
  refine AgQ h6 hX6.j.ok hX6.j.ct.hw ?_ ?_ a6 Ta6 ?_
  ·have:X6.p.out=[]:=by rw[q6];rfl
   have:=congrArg List.length this;rw[show X6.p.out=X6.d.out.map Mg.p from rfl,List.length_map]at this;rw[this];simp
  ·intro b hb;have e1:X6.p.box=X.p.box:=by rw[q6];rfl
   have e2:X6.p.box=some X6.d.box.p:=by show X6.d.bx.map _=_;rw[hb];rfl
   cases hx:X.d.bx with
   |none=>rw[show X.p.box=none from by show X.d.bx.map _=_;rw[hx];rfl,e2]at e1;cases e1
   |some c=>
    rw[show X.p.box=some X.d.box.p from by show X.d.bx.map _=_;rw[hx];rfl,e2]at e1;injection e1 with e1;have:X6.d.box.load=X.d.box.load:=congrArg PB.load e1;rw[this];exact hL c hx
  ·intro X7 T7 w7 h7 q7 x7 e7;refine hK1 X7 T7 w7 h7 ?_ x7 e7;rw[q7,q6]
 ·intro so sw out writes X7 T7 w7 h7 q7 ho hw i7 x7 e7;obtain⟨d7,Td7⟩:=e7.Ql h3 Te;refine Mf d7 rfl rfl rfl λw8 h8 q8=>?_;obtain⟨g8,s8⟩:=h7.LK Td7 q8;simp only[sb,h8];exact k2 so sw out writes X7 T7 w8 _ g8 q7 ho hw (i7.kt (by decide) s8) x7 (G8 (ev3.trans e7) q8 (by simp;exact ze))
open Go Go.Sx
def Cp (P:PS):Prop:=∀b,P.box=some b->b.load.length<=100
theorem De (h:Cp P)(e:Q.box=P.box):Cp Q:=λb hb=>h b (by rw[<-e];exact hb)
theorem JC {b':PB}(e:b'.load.length<=100):Cp {P with box:=some b'}:=by
 intro c hc;have hc:some b'=some c:=hc;injection hc with hc;subst hc;exact e
theorem AcS (M:List Pa)(b:PB):(Db M b).2.length<=12:=by
 have h1:=OL M b;unfold Db;split
 ·have:Pz (EV M b) (CO M b)<=6:=Nat.le_trans (Nat.min_le_left _ _) (by omega);rw[List.length_append,List.length_take];omega
 ·show(CO M b).length<=12;omega
theorem OY (h:Cp P):Cp P.Fa:=by
 unfold PS.Fa;split
 ·exact h
 ·rename_i b hb;split
  ·exact h
  ·split
   ·have:=AcS P.M b;exact De (Q:=P.My b) (JC (P:=P) (b':={(Db P.M b).1 with load:=(Db P.M b).2,under:=true}) (by show(Db P.M b).2.length<=100;omega)) rfl
   ·split
    ·intro c hc;cases hc
    ·exact h
theorem ZX (h:Cp P)(o:Op):Cp (P.behind o):=by
 unfold PS.behind;split
 ·exact h
 ·rename_i b hb;split
  ·exact JC (h b hb)
  ·exact h
theorem Zm:∀(ops:List Op) {P:PS},Cp P->Cp (P.writeAll ops)
 |[],P,h=>h
 |o::l,P,h=>Zm l (ZX (P:={P with writes:=P.writes++[o]}) h o)
theorem AaG (hP:PX P)(h:Cp P){x:PM}(n:ZM x)(hb:P.OU x=false):Cp (P.CA x):=by
 have hc:=hP.clear;have hl:=hc.j.left;have h0:Cp P.clear:=h;have o0:P.clear.out.length=0:=rfl;unfold PS.CA;split
 ·rename_i h3;unfold PS.OU at hb;simp only[Bool.or_eq_false_iff,Bool.not_eq_false']at hb;have hp:=hb.1;rw[ZI (.inl h3)]at hp;unfold Q9 BW at hp;rw[if_pos h3]at hp;simp only[Bool.and_eq_true,decide_eq_true_iff]at hp;exact De h0 (hc.work rfl n.Ah n.low (Ao:=x.Ao) hp.1.2.2.2.2.2 hp.1.2.2.2.2.1 hp.1.2.2.2.1).2.2
 ·split
  ·have ha:Bj (P.clear.Fh x.Ah):=hc.j.ok.Fh x.Ah (by omega);have hf:=Vg hc.j;have fs:∀{Q:PS},Bj Q->Q.fin.length<100000->Cp Q->Cp (Q.finish x.Ah):=by
    intro Q hq hfq hQ;have s:=Oy hq x.Ah hfq;have e1:(Q.BV x.Ah).box=Q.box:=by unfold PS.BV;split<;>rfl
    exact De hQ (s.box.trans e1)
   unfold PS.decide;cases hh:P.clear.TJ x.Ah with
   |true=>
    rw[if_pos rfl];obtain⟨y,hy,hyt⟩:=MN hc.j.ok hh;rw[hy];dsimp only;obtain⟨v1,v2⟩:=hc.j.ok.hv y (List.mem_of_getElem? hy);have hwl:=OZ x.flag y.ops;have hu:Bj ((P.clear.Fh x.Ah).AO (P.clear.DY x.Ah)):=ha.AO _;have w0:P.clear.writes.length=0:=rfl;have hwa:Bj (((P.clear.Fh x.Ah).AO (P.clear.DY x.Ah)).writeAll (PS.Mn x.flag y.ops)):=hu.writeAll (OC v1) (by show P.clear.writes.length+_<=1000;omega);have e:=Bz (PS.Mn x.flag y.ops) ((P.clear.Fh x.Ah).AO (P.clear.DY x.Ah));exact fs hwa (by rw[e];exact hf) (Zm _ (P:=(P.clear.Fh x.Ah).AO (P.clear.DY x.Ah)) h0)
   |false=>
    rw[if_neg (by simp)];cases hwi:P.clear.Pb x.Ah with
    |true=>
     rw[if_pos rfl];obtain⟨y,hy,hyt⟩:=D9 hc.j.ok hwi;obtain⟨hu,_⟩:=ha.Ay (i:=P.clear.Ce x.Ah) hy;exact fs hu hf h0
    |false=>
     rw[if_neg (by simp)];exact h0
  ·split
   ·have hd:∀Q:PS,Cp Q->Cp (Q.DE x.move):=by
     intro Q hq;unfold PS.DE;split
     ·exact hq
     ·split
      ·intro c hc;cases hc
      ·exact hq
    have ht:∀Q:PS,(Q.QD x.move).box=Q.box:=λQ=>by unfold PS.QD;split<;>rfl
    have hi:∀(Q:PS) rs,(Q.Kl x.move rs).box=Q.box:=λQ rs=>by
     unfold PS.Kl;split
     ·show(Q.Cy rs _).box=_;rw[(CS _ rs Q).1]
     ·rfl
    have hw:∀(Q:PS) rs hs,(Q.FB rs hs).box=Q.box:=λQ rs hs=>by rw[(Ef hs rs Q).1]
    refine De (P:=P.clear.mapped x) ?_ rfl;unfold PS.mapped;split
    ·unfold PS.Ko;exact De (hd _ (De h0 rfl:Cp (P.clear.W4 x))) (by rw[hw,hi,ht])
    ·exact h0
   ·split
    ·unfold PS.Lr;have h1:Cp ((P.clear.boxed x).closing x.flag):=by
      have h1:Cp (P.clear.boxed x):=by
       unfold PS.boxed;split
       ·exact JC (by simp[PS.XF])
       ·exact h0
      unfold PS.closing;split
      ·exact h1
      ·rename_i b hb;exact JC (h1 b hb)
     split
     ·split
      ·exact h0
      ·unfold PS.QC;split
       ·exact De (OY h1) rfl
       ·exact OY h1
     ·exact h0
    ·split
     ·have h1:(P.clear.opens x).box=P.clear.box:=by unfold PS.opens;split<;>rfl
      have h2:((P.clear.opens x).enters x).box=P.clear.box:=by unfold PS.enters;split<;>exact h1
      unfold PS.NW;split
      ·split
       ·exact h0
       ·split
        ·exact De h0 h1
        ·exact De h0 h2
      ·exact h0
     ·unfold PS.KB;split
      ·exact h0
      ·rename_i b hb;split
       ·exact OY (JC (h0 b hb))
       ·exact h0
open Go Go.Sx
structure AtA (w:World)(m BD:Nat)(T:Nat->Nat)(X:Mc):Prop where
 g:A6 w m T X
 J:PX X.p
 L:Cp X.p
 se:X.d.BD=BD
 hn:BD∉rb X.d.sM
theorem AtA.Ab {w w':World}{m BD:Nat}{T:Nat->Nat}{X:Mc}(h:AtA w m BD T X)(k:Aa [] w w'):AtA w' m BD T X:=⟨h.g.Ab k,h.J,h.L,h.se,h.hn⟩
theorem PX.store {P:PS}(h:PX P){M:List Pa}(hM:AU M)(hN:M.length<=200000):PX {P with M:=M}:=
 ⟨h.j.store hM hN,⟨h.t.l,h.t.n,h.t.f.eq rfl rfl (λ_ h=>h)⟩,h.c,h.ow,h.bx⟩
open Go Go.Sx
variable {T2:Nat->Nat}
theorem AaB {w w1 w2:World}(h:∀b,T b≠0->w.heap.size<=b)(k:Aa [] w w1)(e:Aq T T2 w1 w2):(∀b,T2 b≠0->w.heap.size<=b)/\Aa [] w w2:=by
 refine⟨λb hb=>Nat.le_of_not_lt λhlt=>?_,?_⟩
 ·have h0:T b=0:=Classical.byContradiction λhn=>by have:=h b hn;omega
  exact hb ((e.tg b (by have:=k.size;omega) (.inl h0)).trans h0)
 ·exact((k.FY (F:=λ_=>False) (by simp)).trans e.kp λx hx=>.inr (h x hx.1)).SU
open Go Go.Sx
def YI (lo hi k:ByteArray):Bool:=!slt k lo&&(seq hi (BA [])||slt k hi)
def R6 (o:Op)(k:ByteArray):Bool:=
 if o.kind=1 then false else if o.kind=2 then seq o.key k else if o.kind=3 then seq o.key k else if o.kind=4 then false else YI o.lo o.hi k
def YC (l:List Op)(k:ByteArray):Bool:=l.any (λo=>R6 o k)
theorem Aae (m:List Pa)(o:Op)(k v:ByteArray):(⟨k,v⟩:Pa)∈(RU m o).1↔if R6 o k=true then o.kind=2/\v=o.value else(⟨k,v⟩:Pa)∈m:=by
 unfold RU R6;by_cases h1:o.kind=1
 ·simp[h1]
 rw[if_neg h1,if_neg h1];by_cases h2:o.kind=2
 ·rw[if_pos h2,if_pos h2];unfold S7;rw[List.mem_append,List.mem_cons,List.mem_filter,List.mem_filter];by_cases e:o.key=k
  ·subst e;rw[Ki,if_pos rfl];simp[h2,KF]
  ·rw[show seq o.key k=false from by rw[seq_eq];exact decide_eq_false e,if_neg (by simp)];constructor
   ·rintro(⟨h,_⟩|h|⟨h,_⟩)
    ·exact h
    ·injection h with h _;exact absurd h.symm e
    ·exact h
   ·intro h;cases c1:slt k o.key with
    |true=>exact .inl ⟨h,rfl⟩
    |false=>
     cases c2:slt o.key k with
     |true=>exact .inr (.inr ⟨h,rfl⟩)
     |false=>exact absurd (Ek c2 c1) e
 rw[if_neg h2,if_neg h2];by_cases h3:o.kind=3
 ·rw[if_pos h3,if_pos h3,List.mem_filter];by_cases e:o.key=k
  ·subst e;rw[Ki,if_pos rfl];simp[h2,Ki]
  ·have e2:¬k=o.key:=λh=>e h.symm;rw[show seq o.key k=false from by rw[seq_eq];exact decide_eq_false e,if_neg (by simp)];simp[seq_eq,e2]
 rw[if_neg h3,if_neg h3];by_cases h4:o.kind=4
 ·simp[h4]
 rw[if_neg h4,if_neg h4,List.mem_filter];have e:inM o.lo o.hi ⟨k,v⟩=YI o.lo o.hi k:=rfl;rw[e];cases YI o.lo o.hi k with
 |true=>simp[h2]
 |false=>simp
def Eqk (k:ByteArray)(A B:List Pa):Prop:=∀v,(⟨k,v⟩:Pa)∈A↔(⟨k,v⟩:Pa)∈B
theorem Eqk.refl (k:ByteArray)(A:List Pa):Eqk k A A:=λ_=>Iff.rfl
theorem Eqk.trans {k:ByteArray}{A B C:List Pa}(h:Eqk k A B)(g:Eqk k B C):Eqk k A C:=λv=>(h v).trans (g v)
theorem Eqk.symm {k:ByteArray}{A B:List Pa}(h:Eqk k A B):Eqk k B A:=λv=>(h v).symm
variable {k:ByteArray}
theorem Ajn {A B:List Pa}(h:R6 o k=true\/Eqk k A B):Eqk k (RU A o).1 (RU B o).1:=λv=>by
 rw[Aae,Aae];cases c:R6 o k with
 |true=>simp
 |false=>
  simp only[Bool.false_eq_true,if_false];rcases h with h|h
  ·rw[c]at h;cases h
  ·exact h v
theorem AaI {A:List Pa}(h:R6 o k=false):Eqk k (RU A o).1 A:=λv=>by rw[Aae,h];simp
theorem Abi {k:ByteArray}:∀(l:List Op) {A:List Pa},YC l k=false->Eqk k (Bd A l).1 A
 |[],A,_=>Eqk.refl _ _
 |o::l,A,h=>by
  have e:(R6 o k||YC l k)=false:=h;rw[Bool.or_eq_false_iff]at e;exact(Abi l e.2).trans (AaI e.1)
theorem Kq (m:List Pa):∀(a b:List Op),(Bd m (a++b)).1=(Bd (Bd m a).1 b).1:=by
 intro a;induction a generalizing m with
 |nil=>intro b;rfl
 |cons o a ih=>intro b;exact ih (RU m o).1 b
theorem Ahw (a b:List Op)(k:ByteArray):YC (a++b) k=(YC a k||YC b k):=List.any_append
theorem AkK {a b:ByteArray}:slt k (HZ a b)=false↔slt k a=false/\slt k b=false:=by
 unfold HZ;cases c:slt a b with
 |true=>
  simp only[Bool.not_true,Bool.false_eq_true,if_false];refine⟨λh=>⟨?_,h⟩,λh=>h.2⟩;cases c2:slt k a with
  |false=>rfl
  |true=>rw[CB c2 c]at h;cases h
 |false=>
  simp only[Bool.not_false,if_true];refine⟨λh=>⟨h,?_⟩,λh=>h.1⟩;cases c2:slt k b with
  |false=>rfl
  |true=>rw[HJ c2 c]at h;cases h
def ahd (k e:ByteArray):Prop:=e=BA []\/slt k e=true
theorem AbN {a b:ByteArray}:ahd k (AV a b)↔ahd k a/\ahd k b:=by
 rw[Q7];unfold ahd;by_cases ha:a=BA []
 ·rw[if_pos ha];exact⟨λh=>⟨.inl ha,h⟩,λh=>h.2⟩
 rw[if_neg ha];by_cases hb:b≠BA []/\slt b a=true
 ·rw[if_pos hb];refine⟨λh=>⟨.inr ?_,h⟩,λh=>h.2⟩;rcases h with h|h
  ·exact absurd h hb.1
  ·exact CB h hb.2
 ·rw[if_neg hb];refine⟨λh=>⟨h,?_⟩,λh=>h.1⟩;by_cases hb0:b=BA []
  ·exact .inl hb0
  ·right;have hba:slt b a=false:=by
    cases c:slt b a with
    |false=>rfl
    |true=>exact absurd ⟨hb0,c⟩ hb
   rcases h with h|h
   ·exact absurd h ha
   ·exact HJ h hba
theorem Ir :YI lo hi k=true↔slt k lo=false/\ahd k hi:=by
 unfold YI ahd;rw[Bool.and_eq_true,Bool.or_eq_true,seq_eq,decide_eq_true_iff,Bool.not_eq_true']
theorem Ahg {a b c d:ByteArray}:YI (HZ a c) (AV b d) k=(YI a b k&&YI c d k):=by
 rw[Bool.eq_iff_iff,Bool.and_eq_true,Ir,Ir,Ir,AkK,AbN];constructor
 ·rintro⟨⟨h1,h2⟩,h3,h4⟩;exact⟨⟨h1,h3⟩,h2,h4⟩
 ·rintro⟨⟨h1,h3⟩,h2,h4⟩;exact⟨⟨h1,h2⟩,h3,h4⟩
theorem Ahl {a b c d:ByteArray}(h1:Da a b=true)(h2:Da c d=true)(k1:YI a b k=true)(k2:YI c d k=true):Bw a b c d=true:=by
 have hk:YI (HZ a c) (AV b d) k=true:=by rw[Ahg,k1,k2];rfl
 obtain⟨e1,e2⟩:=Ir.1 hk;unfold Bw;rw[h1,h2,Bool.true_and,Bool.true_and,Ahc];obtain⟨s1,s2,_⟩:=Ahc.1 h1;obtain⟨s3,s4,_⟩:=Ahc.1 h2;refine⟨?_,?_,?_⟩
 ·rcases AbX a c with e|e<;>rw[e]<;>assumption
 ·rcases W2 b d with e|e<;>rw[e]<;>assumption
 ·rcases e2 with e2|e2
  ·exact .inl e2
  ·exact .inr (Yl e1 e2)
theorem AcU (h:Kx k=true):k≠BA []:=λe=>by
 have:=(Pc h).1;rw[e]at this;exact absurd this (by decide)
theorem AjZ {x:ByteArray}(hk:Kx k=true)(hx:Kx x=true):YI k (M9 k) x=true↔x=k:=by
 have h:=(AeD hk).2 x hx;rw[show YI k (M9 k) x=seq x k from h,seq_eq,decide_eq_true_iff]
theorem AfH (hk:Kx k=true):ahd k (M9 k):=(Ir.1 ((AjZ hk hk).2 rfl)).2
theorem AfK {x:ByteArray}(hk:Kx k=true)(hx:Kx x=true)(h:slt k x=true):¬ahd x (M9 k):=λh2=>by
 have:=(AjZ hk hx).1 (Ir.2 ⟨Ct h,h2⟩);rw[this,KF]at h;cases h
structure AfR (lo hi:ByteArray)(o:Op):Prop where
 ok:ER o=0
 wr:fWr o.kind=true
 inn:AfS lo hi o=false
theorem AcF (h:ER o=0)(hk:o.kind=5):o.key=BA []/\Da o.lo o.hi=true:=by
 obtain⟨_,_,_,h4,_⟩:=Ri h;refine⟨?_,h4 (by unfold FH;rw[hk];rfl)⟩;unfold ER at h;split at h
 ·cases h
 ·rename_i h1;simp only[Bool.or_eq_true,not_or,Bool.not_eq_true]at h1;have h2:=h1.2.1;rw[show Fx o.kind=false from by unfold Fx;rw[hk];rfl,Bool.not_false,Bool.true_and]at h2;rw[seq_eq]at h2;simpa using h2
theorem AeO (h:ER o=0)(hk:o.kind=2\/o.kind=3):Kx o.key=true/\Dp o=(o.key,M9 o.key):=by
 have h1:Kx o.key=true:=(Ri h).2.1 (by unfold Fx;rcases hk with hk|hk<;>rw[hk]<;>rfl);refine⟨h1,?_⟩;unfold Dp;rw[if_neg];unfold Kx at h1;rw[Bool.not_eq_true',Bool.or_eq_false_iff]at h1;rw[h1.1];simp
theorem YO (h:ER o=0)(hk:o.kind=5):Dp o=(o.lo,o.hi):=by
 unfold Dp;rw[(AcF h hk).1,if_pos (Ki _)]
theorem Ahr {n:Int}(h:fWr n=true):(n=2\/n=3)\/n=5:=by
 unfold fWr at h;simp only[Bool.or_eq_true,beq_iff_eq]at h;omega
theorem Aht (h:ER o=0)(hw:fWr o.kind=true)(hR:Da lo hi=true)(hk:Kx k=true)(hik:YI lo hi k=true)(ht:CE lo hi o=false):R6 o k=false:=by
 rw[<-Bool.not_eq_true];intro hh;unfold CE at ht;rw[h,decide_eq_true rfl,Bool.true_and]at ht;unfold R6 at hh;rcases Ahr hw with h2|h5
 ·obtain⟨h1,e⟩:=AeO h h2;have ek:o.key=k:=by
   rw[if_neg (by omega)]at hh;rcases h2 with h2|h2
   ·rw[if_pos h2,seq_eq,decide_eq_true_iff]at hh;exact hh
   ·rw[if_neg (by omega),if_pos h2,seq_eq,decide_eq_true_iff]at hh;exact hh
  rw[e,ek]at ht;rw[Ahl (AeD hk).1 hR ((AjZ hk hk).2 rfl) hik]at ht;cases ht
 ·rw[if_neg (by omega),if_neg (by omega),if_neg (by omega),if_neg (by omega)]at hh;rw[YO h h5,Ahl (AcF h h5).2 hR hh hik]at ht;cases ht
theorem Ahm (h:ER o=0)(hw:fWr o.kind=true)(hk:YI lo hi k=true)(ht:CE lo hi o=true):R6 (clip lo hi o) k=R6 o k/\(clip lo hi o).kind=o.kind/\(clip lo hi o).value=o.value:=by
 unfold clip;by_cases h5:o.kind=5
 ·rw[if_pos h5];refine⟨?_,rfl,rfl⟩;unfold CE at ht;rw[h,decide_eq_true rfl,Bool.true_and,YO h h5,Mp]at ht;unfold R6 mLo mHi;dsimp only;rw[if_neg (by omega),if_neg (by omega),if_neg (by omega),if_neg (by omega),if_pos ht,if_pos ht,Ahg,hk,Bool.true_and];rw[if_neg (by omega),if_neg (by omega),if_neg (by omega),if_neg (by omega)]
 ·rw[if_neg h5];exact⟨rfl,rfl,rfl⟩
theorem AgX (h:ER o=0)(hw:fWr o.kind=true)(hk:YI lo hi k=true)(ht:CE lo hi o=true)(A:List Pa):Eqk k (RU A (clip lo hi o)).1 (RU A o).1:=λv=>by
 obtain⟨e1,e2,e3⟩:=Ahm h hw hk ht;rw[Aae,Aae,e1,e2,e3]
theorem AfC (hR:Da lo hi=true)(hl:Kx lo=true)(hh:Kx hi=true)(hk:Kx k=true)(hm:YI lo hi k=true):CW lo hi k (M9 k)=true:=by
 obtain⟨h1,h2⟩:=Ir.1 hm;have hne:hi≠BA []:=AcU hh;have hlt:slt k hi=true:=h2.resolve_left hne;have hn:=AfK hk hh hlt;unfold ahd at hn;rw[not_or,Bool.not_eq_true]at hn;unfold CW;rw[hR,(AeD hk).1,Bool.true_and,Bool.true_and,Q7,if_neg hne];have e1:(slt lo k||seq lo k)=true:=by
  cases c:slt lo k with
  |true=>rfl
  |false=>rw[Ek c h1,Ki];rfl
 rw[e1,Bool.true_and];by_cases hs:slt (M9 k) hi=true
 ·rw[if_pos ⟨hn.1,hs⟩,Ki]
 ·rw[if_neg (λh=>hs h.2)];rw[Bool.not_eq_true]at hs;rw[Ek hn.2 hs,Ki]
theorem Akv (hl:Kx lo=true)(hk:Kx k=true)(h:Bw k (M9 k) lo hi=true):YI lo hi k=true:=by
 unfold Bw at h;simp only[Bool.and_eq_true]at h;obtain⟨⟨_,_⟩,h3⟩:=h;obtain⟨_,_,h4⟩:=Ahc.1 h3;have hlo:slt k lo=false:=by
  rw[<-Bool.not_eq_true];intro hs;refine AfK hk hl hs ?_;have e:HZ k lo=lo:=by unfold HZ;rw[hs];rfl
  rw[e]at h4;exact(AbN.1 h4).1
 refine Ir.2 ⟨hlo,?_⟩;have e:HZ k lo=k:=by
  unfold HZ;cases c:slt k lo with
  |true=>rw[hlo]at c;cases c
  |false=>rfl
 rw[e]at h4;exact(AbN.1 h4).2
theorem Aju (hR:Da lo hi=true)(hl:Kx lo=true)(hh:Kx hi=true)(h:ER o=0)(hw:fWr o.kind=true)(ht:CE lo hi o=true):AfR lo hi (clip lo hi o):=by
 unfold CE at ht;rw[h,decide_eq_true rfl,Bool.true_and]at ht;unfold clip;rcases Ahr hw with h2|h5
 ·rw[if_neg (by omega)];obtain⟨h1,e⟩:=AeO h h2;refine⟨h,hw,?_⟩;unfold AfS;rw[e]at ht;rw[if_pos h,e,AfC hR hl hh h1 (Akv hl h1 ht)];rfl
 ·rw[if_pos h5];rw[YO h h5,Mp]at ht;have e0:clip lo hi o=clO lo hi o.lo o.hi:=by
   unfold clip clO;obtain⟨hk,_⟩:=AcF h h5;rw[if_pos h5];unfold ER at h;split at h
   ·cases h
   ·rename_i h1;simp only[Bool.or_eq_true,not_or,Bool.not_eq_true]at h1;have h2:=h1.2.2.1;have h3:=h1.2.2.2.2;rw[show SO o.kind=false from by unfold SO;rw[h5];rfl,Bool.not_false,Bool.true_and,seq_eq]at h2;rw[show FD o.kind=false from by unfold FD;rw[h5];rfl,Bool.not_false,Bool.true_and]at h3;have h2:o.value=BA []:=by simpa using h2
    have h3:o.AD=0:=by simpa using h3
    rw[h5,hk,h2,h3]
  have h0:=AiN ht;unfold clip at e0;rw[if_pos h5]at e0;rw[e0];refine⟨h0,rfl,?_⟩;unfold AfS;rw[if_pos h0,YO h0 rfl];show(!CW lo hi (mLo lo hi o.lo o.hi) (mHi lo hi o.lo o.hi))=false;unfold mLo mHi CW;have hm:=ht;unfold Bw at hm;simp only[Bool.and_eq_true]at hm;rw[if_pos ht,if_pos ht,hR,hm.2,Bool.true_and,Bool.true_and];have e1:(slt lo (HZ lo o.lo)||seq lo (HZ lo o.lo))=true:=by
   unfold HZ;cases c:slt lo o.lo with
   |true=>simp[c]
   |false=>simp[Ki]
  rw[e1,Bool.true_and];have e2:AV hi (AV hi o.hi)=AV hi o.hi:=by
   have hne:hi≠BA []:=AcU hh;rw[Q7 hi o.hi,if_neg hne];by_cases c:o.hi≠BA []/\slt o.hi hi=true
   ·rw[if_pos c,Q7,if_neg hne,if_pos c]
   ·rw[if_neg c,Q7,if_neg hne,if_neg (λh=>by rw[KF]at h;cases h.2)]
  rw[e2,Ki];rfl
open Go Go.Sx
def Hg (M:List Pa)(b:PB):List Pa:=M.filter (λp=>DP b.H5 b.hi p.k)
def IX (M:List Pa)(b:PB):Nat:=(if b.all then 0 else 1+(Hg M b).length)+b.row.length
def Adb (M2:List Pa)(b:PB)(dv:Bool):List Pa:=if dv then M2 else(Bd M2 b.load).1
structure Aov (lo hi:ByteArray):Prop where
 r:Da lo hi=true
 l:Kx lo=true
 h:Kx hi=true
structure Hs (lo hi:ByteArray)(M1 M2:List Pa)(b:PB)(dv:Bool):Prop where
 l0:b.lo=lo
 h0:b.hi=hi
 row:∀o∈b.row,AfR lo hi o
 load:∀o∈b.load,AfR lo hi o
 l6:b.load.length<=6
 un:b.under=false->dv=true
 zero:b.n=0->b.under=true\/(b.all=false/\b.H5=lo)
 H5:b.all=false->Da b.H5 hi=true/\slt b.H5 lo=false
 seen:b.all=false->∀k,Kx k=true->YI lo hi k=true->(YC b.row k=true->∀A,Eqk k (Bd A b.row).1 M1)/\(YC b.row k=false->(slt k b.H5=true->Eqk k (Adb M2 b dv) M1)/\(slt k b.H5=false->∀v,(⟨k,v⟩:Pa)∉Adb M2 b dv))
 done:b.all=true->∀k,Kx k=true->YI lo hi k=true->Eqk k (Bd (Adb M2 b dv) b.row).1 M1
theorem AgN {α:Type}(a c q:α->Bool)(hd:∀x,a x=true->c x=false):∀m:List α,((m.filter a).filter q).length+((m.filter c).filter q).length<=(m.filter q).length
 |[]=>Nat.le_refl _
 |x::m=>by
  have ih:=AgN a c q hd m;have h:=hd x;simp only[List.filter_cons];cases ca:a x<;>cases cc:c x<;>cases cq:q x<;>simp_all[List.filter_cons]<;>omega
theorem AkG (m:List Pa)(o:Op)(q:Pa->Bool):((RU m o).1.filter q).length<=(m.filter q).length+1:=by
 have hs:∀f:Pa->Bool,((m.filter f).filter q).length<=(m.filter q).length+1:=λf=>by
  have:=((List.filter_sublist (p:=f) (l:=m)).filter q).length_le;omega
 unfold RU;split
 ·exact Nat.le_succ _
 ·split
  ·unfold S7;dsimp only;rw[List.filter_append,List.length_append,List.filter_cons];have:=AgN (λp:Pa=>slt p.k o.key) (λp:Pa=>slt o.key p.k) q (λx hx=>Ct hx) m;split
   ·rw[List.length_cons];omega
   ·omega
  ·split
   ·exact hs _
   ·split
    ·exact Nat.le_succ _
    ·exact hs _
def DI (b:PB)(o:Op):PB:=if CE b.lo b.hi o then {b with row:=b.row++[clip b.lo b.hi o]}else b
theorem Hs.write (kr:Aov lo hi){M1 M2:List Pa}{b:PB}{dv:Bool}(h:Hs lo hi M1 M2 b dv){o:Op}(ho:ER o=0)(hw:fWr o.kind=true):Hs lo hi (RU M1 o).1 M2 (DI b o) dv:=by
 obtain rfl:=h.l0;obtain rfl:=h.h0;unfold DI;cases ht:CE b.lo b.hi o with
 |false=>
  rw[if_neg (by simp)];refine⟨rfl,rfl,h.row,h.load,h.l6,h.un,h.zero,h.H5,λha k hk hi=>?_,λha k hk hi=>?_⟩
  ·have e:=AaI (A:=M1) (Aht ho hw kr.r hk hi ht);obtain⟨s1,s2⟩:=h.seen ha k hk hi;exact⟨λhh A=>(s1 hh A).trans e.symm,λhh=>⟨λhl=>((s2 hh).1 hl).trans e.symm,(s2 hh).2⟩⟩
  ·exact(h.done ha k hk hi).trans (AaI (A:=M1) (Aht ho hw kr.r hk hi ht)).symm
 |true=>
  rw[if_pos rfl];refine⟨rfl,rfl,λx hx=>?_,h.load,h.l6,h.un,h.zero,h.H5,λha k hk hi=>?_,λha k hk hi=>?_⟩
  ·rcases List.mem_append.1 hx with hx|hx
   ·exact h.row x hx
   ·rw[List.mem_singleton.1 hx];exact Aju kr.r kr.l kr.h ho hw ht
  ·obtain⟨s1,s2⟩:=h.seen ha k hk hi;have ec:=(Ahm ho hw hi ht).1;refine⟨λhh A=>?_,λhh=>?_⟩
   ·rw[Ahw]at hh;show Eqk k (Bd A (b.row++[clip _ _ o])).1 _;rw[Kq];refine(AgX ho hw hi ht _).trans (Ajn ?_);cases c:R6 o k with
    |true=>exact .inl rfl
    |false=>
     right;refine s1 ?_ A;have e:YC [clip b.lo b.hi o] k=false:=by unfold YC;rw[List.any_cons,List.any_nil,ec,c];rfl
     rw[e,Bool.or_false]at hh;exact hh
   ·rw[Ahw,Bool.or_eq_false_iff]at hh;have e0:R6 o k=false:=by
     have e:=hh.2;unfold YC at e;rw[List.any_cons,List.any_nil,Bool.or_false,ec]at e;exact e
    have e:=AaI (A:=M1) e0;exact⟨λhl=>((s2 hh.1).1 hl).trans e.symm,(s2 hh.1).2⟩
  ·show Eqk k (Bd (Adb M2 b dv) (b.row++[clip _ _ o])).1 _;rw[Kq];exact(AgX ho hw hi ht _).trans (Ajn (.inr (h.done ha k hk hi)))
theorem AhQ {b:PB}(M:List Pa)(o:Op):IX (RU M o).1 (DI b o)<=IX M b+2:=by
 have h:=AkG M o (λp=>DP b.H5 b.hi p.k);unfold DI;cases CE b.lo b.hi o with
 |false=>
  rw[if_neg (by simp)];unfold IX Hg;split<;>omega
 |true=>
  rw[if_pos rfl];unfold IX Hg;dsimp only;rw[List.length_append,List.length_singleton];split<;>omega
theorem Abu {l:List Pa}(h:∀p∈l,p.k≠k)(B:List Pa):Eqk k (Bd B (l.map Agw)).1 B:=by
 refine Abi _ ?_;unfold YC;rw[List.any_map,List.any_eq_false];intro p hp;show ¬R6 (Agw p) k=true;unfold R6 Agw;simp only[show ¬((2:Int)=1)from by decide,if_false,if_true,seq_eq,decide_eq_true_iff];exact h p hp
theorem Aha {k v0:ByteArray}:∀{l:List Pa},l.Pairwise (λa b=>slt a.k b.k=true)->(⟨k,v0⟩:Pa)∈l->∀(B:List Pa) v,(⟨k,v⟩:Pa)∈(Bd B (l.map Agw)).1↔v=v0
 |p::l,hp,hm,B,v=>by
  obtain⟨h1,h2⟩:=List.pairwise_cons.1 hp;show(⟨k,v⟩:Pa)∈(Bd (RU B (Agw p)).1 (l.map Agw)).1↔_;rcases List.mem_cons.1 hm with e|hm
  ·subst e;rw[Abu (λq hq e=>by have:=h1 q hq;rw[e]at this;dsimp only at this;rw[KF]at this;cases this) _ v,Aae];have e:R6 (Agw ⟨k,v0⟩) k=true:=by unfold R6 Agw;simp[Ki]
   rw[e,if_pos rfl];exact⟨λh=>h.2,λh=>⟨rfl,h⟩⟩
  ·exact Aha h2 hm _ v
theorem AjL (l:List Pa)(q:Pa)(a:ByteArray):Zc (l++[q]) a=Ae5 q:=by unfold Zc;rw[List.foldl_append];rfl
theorem AiU (b:PB):∃r:Nat,An (6-((D0 b).length:Int))=(r:Int)/\r+(D0 b).length=6:=by
 have h:=Pd b;exact⟨6-(D0 b).length,Go.Sx.N0 (m:=6) (by omega) (by omega),by omega⟩
theorem Ah8 (M:List Pa)(b:PB){r:Nat}(e:An (6-((D0 b).length:Int))=(r:Int)):GJ M b=(Hg M b).take r:=by
 unfold GJ BM Hg;rw[e,if_neg (by omega),Int.toNat_natCast]
variable {M:List Pa}
theorem Z8 (hM:AU M){b:PB}{p:Pa}(hp:p∈Hg M b):p∈M/\Kx p.k=true/\slt p.k b.H5=false/\ahd p.k b.hi:=by
 unfold Hg at hp;obtain⟨h1,h2⟩:=List.mem_filter.1 hp;unfold DP at h2;simp only[Bool.and_eq_true,Bool.not_eq_true']at h2;obtain⟨_,h3,h4,h5⟩:=h2;refine⟨h1,h3,h4,?_⟩;unfold ahd;rw[Bool.or_eq_true,seq_eq,decide_eq_true_iff]at h5;exact h5
theorem Aj5 (hM:AU M)(b:PB):(Hg M b).Pairwise (λa b=>slt a.k b.k=true):=hM.up.sublist List.filter_sublist
theorem Ags {b:PB}(hr:Da b.H5 b.hi=true){p:Pa}(h1:p∈M)(h2:Kx p.k=true)(h3:slt p.k b.H5=false)(h4:ahd p.k b.hi):p∈Hg M b:=by
 unfold Hg;refine List.mem_filter.2 ⟨h1,?_⟩;unfold DP;unfold ahd at h4;rw[hr,h2,h3,Bool.true_and,Bool.true_and,Bool.not_false,Bool.true_and,Bool.or_eq_true,seq_eq,decide_eq_true_iff];exact h4
structure Cut (M:List Pa)(b:PB)(l:List Pa)(d:List Pa)(r:Nat):Prop where
 cut:Hg M b=l++d
 up:∀p∈l,∀q∈d,slt p.k q.k=true
 inn:∀p∈l,p∈M/\Kx p.k=true/\slt p.k b.H5=false/\ahd p.k b.hi
 sort:l.Pairwise (λa b=>slt a.k b.k=true)
 len:l.length<=r
 full:l.length<r->d=[]
theorem Aks (hM:AU M)(b:PB){r:Nat}(e:An (6-((D0 b).length:Int))=(r:Int)):Cut M b (GJ M b) ((Hg M b).drop r) r:=by
 rw[Ah8 M b e];have hs:=Aj5 hM b;have hc:Hg M b=(Hg M b).take r++(Hg M b).drop r:=(List.take_append_drop r _).symm;refine⟨hc,λp hp q hq=>?_,λp hp=>Z8 hM (List.mem_of_mem_take hp),hs.sublist (List.take_sublist _ _),by rw[List.length_take];omega,λh=>List.drop_of_length_le ?_⟩
 ·rw[hc,List.pairwise_append]at hs;exact hs.2.2 p hp q hq
 ·rw[List.length_take]at h;omega
theorem AaV {b:PB}{l d:List Pa}{r:Nat}(c:Cut M b l d r):(l=[]/\Zc l b.H5=b.H5)\/∃q,q∈l/\Zc l b.H5=M9 q.k/\Kx q.k=true/\∀p∈l,p=q\/slt p.k q.k=true:=by
 rcases List.eq_nil_or_concat l with e|⟨l0,q,e⟩
 ·left;rw[e];exact⟨rfl,rfl⟩
 ·right;rw[List.concat_eq_append]at e;have hq:q∈l:=by rw[e];simp
  have hk:=(c.inn q hq).2.1;refine⟨q,hq,?_,hk,λp hp=>?_⟩
  ·rw[e,AjL];unfold Ae5;rw[if_pos hk]
  ·have hs:=c.sort;rw[e]at hs hp;rcases List.mem_append.1 hp with hp|hp
   ·exact .inr ((List.pairwise_append.1 hs).2.2 p hp q (by simp))
   ·exact .inl (List.mem_singleton.1 hp)
theorem Adr {b:PB}{l d:List Pa}{r:Nat}(c:Cut M b l d r){p:Pa}(hp:p∈l):ahd p.k (Zc l b.H5):=by
 rcases AaV c with⟨e,_⟩|⟨q,hq,e,hk,hu⟩
 ·rw[e]at hp;cases hp
 ·rw[e];rcases hu p hp with h|h
  ·rw[h];exact AfH hk
  ·rcases AfH hk with h2|h2
   ·exact .inl h2
   ·exact .inr (CB h h2)
theorem Ag1 {b:PB}{l d:List Pa}{r:Nat}(c:Cut M b l d r)(hd:∀p∈d,Kx p.k=true/\slt p.k b.H5=false){p:Pa}(hp:p∈d)(hl:l≠[]):¬ahd p.k (Zc l b.H5):=by
 rcases AaV c with⟨e,_⟩|⟨q,hq,e,hk,hu⟩
 ·exact absurd e hl
 ·rw[e];exact AfK hk (hd p hp).1 (c.up q hq p hp)
structure Scd (lo hi:ByteArray)(M1 B:List Pa)(b:PB)(row:List Op):Prop where
 H5:b.all=false->Da b.H5 hi=true/\slt b.H5 lo=false
 more:b.all=false->∀k,Kx k=true->YI lo hi k=true->YC row k=false->(slt k b.H5=true->Eqk k B M1)/\(slt k b.H5=false->∀v,(⟨k,v⟩:Pa)∉B)
 done:b.all=true->∀k,Kx k=true->YI lo hi k=true->Eqk k (Bd B row).1 M1
theorem AlA (kr:Aov lo hi):AfR lo hi ⟨5,BA [],BA [],lo,hi,0⟩:=by
 have h0:ER (⟨5,BA [],BA [],lo,hi,0⟩:Op)=0:=by
  unfold ER;dsimp only;rw[kr.r];simp[Na,Fx,SO,FH,FD,Ki]
  decide
 refine⟨h0,rfl,?_⟩;unfold AfS;rw[if_pos h0,YO h0 rfl];show(!CW lo hi lo hi)=false;unfold CW;rw[kr.r,Ki];have hne:hi≠BA []:=AcU kr.h;rw[Q7,if_neg hne,if_neg (λh=>by rw[KF]at h;cases h.2),Ki];simp
theorem AlH (kr:Aov lo hi){p:Pa}(h1:Kx p.k=true)(h2:p.v.size<=16)(h3:YI lo hi p.k=true):AfR lo hi (Agw p):=by
 have h0:ER (Agw p)=0:=by
  unfold ER Agw;dsimp only;rw[h1];simp[Na,Fx,SO,FH,FD,Ki];omega
 refine⟨h0,rfl,?_⟩;unfold AfS;rw[if_pos h0,(AeO h0 (.inl rfl)).2];show(!CW lo hi p.k (M9 p.k))=false;rw[AfC kr.r kr.l kr.h h1 h3];rfl
theorem Hs.Ank (kr:Aov lo hi){M1 M2:List Pa}{b:PB}{dv:Bool}(h:Hs lo hi M1 M2 b dv)(hM:AU M1)(hu:b.under=false):Scd lo hi M1 (Bd M2 (CO M1 b)).1 (EV M1 b) b.row/\(∀o∈CO M1 b,AfR lo hi o):=by
 have hdv:=h.un hu;subst hdv;have hbase:Adb M2 b true=M2:=if_pos rfl;cases ha:b.all with
 |true=>
  have hn:b.n≠0:=λe=>by
   rcases h.zero e with h1|h1
   ·rw[hu]at h1;cases h1
   ·rw[ha]at h1;cases h1.1
  have e1:CO M1 b=[]:=by
   unfold CO D0;rw[ha,if_pos rfl,show(b.n==0)=false from by simpa using hn];rfl
  have e2:EV M1 b=b:=by unfold EV;rw[ha];rfl
  rw[e1,e2];refine⟨⟨(λh'=>by rw[ha]at h';cases h'),(λh'=>by rw[ha]at h';cases h'),λ_ k hk hi=>?_⟩,by simp⟩;have:=h.done ha k hk hi;rw[hbase]at this;exact this
 |false=>
  obtain⟨r,er,hr6⟩:=AiU b;have hf:=Pd b;have c:=Aks hM b er;obtain⟨hw1,hw2⟩:=h.H5 ha;have e1:CO M1 b=D0 b++(GJ M1 b).map Agw:=by unfold CO;rw[ha];rfl
  have e2:EV M1 b={b with H5:=Zc (GJ M1 b) b.H5,all:=AeN M1 b (Zc (GJ M1 b) b.H5)}:=by unfold EV;rw[ha];rfl
  have e3:AeN M1 b (Zc (GJ M1 b) b.H5)=(decide ((GJ M1 b).length<r)||(seq (Zc (GJ M1 b) b.H5) (BA [])||(!seq b.hi (BA [])&&!slt (Zc (GJ M1 b) b.H5) b.hi))):=by
   unfold AeN;rw[er]
   congr 1
   exact decide_eq_decide.2 (by omega)
  generalize GJ M1 b=l at *;generalize (Hg M1 b).drop r=d at *;have hd:∀p∈d,p∈M1/\Kx p.k=true/\slt p.k b.H5=false/\ahd p.k b.hi:=λp hp=>Z8 hM (by rw[c.cut];exact List.mem_append.2 (.inr hp));have hd2:∀p∈d,Kx p.k=true/\slt p.k b.H5=false:=λp hp=>⟨(hd p hp).2.1,(hd p hp).2.2.1⟩;have hhi:b.hi=hi:=h.h0;have hB:(Bd M2 (CO M1 b)).1=(Bd (Bd M2 (D0 b)).1 (l.map Agw)).1:=by rw[e1,Kq]
  have hB0:∀k,Kx k=true->YI lo hi k=true->YC b.row k=false->(slt k b.H5=true->Eqk k (Bd M2 (D0 b)).1 M1)/\(slt k b.H5=false->∀v,(⟨k,v⟩:Pa)∉(Bd M2 (D0 b)).1):=by
   intro k hk hi' hh;unfold D0;cases hn:(b.n==0)with
   |false=>
    have:=(h.seen ha k hk hi').2 hh;rw[hbase]at this;exact this
   |true=>
    have hz:=h.zero (by simpa using hn);rw[hu]at hz;have hz:=(hz.resolve_left (by simp)).2;rw[if_pos rfl,hz];refine⟨λhs=>?_,λ_ v=>?_⟩
    ·rw[(Ir.1 hi').1]at hs;cases hs
    ·show ¬(⟨k,v⟩:Pa)∈(RU M2 ⟨5,BA [],BA [],b.lo,b.hi,0⟩).1;have e:R6 ⟨5,BA [],BA [],b.lo,b.hi,0⟩ k=true:=by
      unfold R6;dsimp only;rw[h.l0,h.h0];exact hi'
     rw[Aae,e,if_pos rfl];intro hc;have:=hc.1;have:(5:Int)=2:=this;omega
  rw[hB];have hrow:∀o∈CO M1 b,AfR lo hi o:=by
   intro o ho;rw[e1]at ho;rcases List.mem_append.1 ho with ho|ho
   ·unfold D0 at ho;split at ho
    ·rw[List.mem_singleton.1 ho,h.l0,h.h0];exact AlA kr
    ·cases ho
   ·obtain⟨p,hp,rfl⟩:=List.mem_map.1 ho;obtain⟨i1,i2,i3,i4⟩:=c.inn p hp;refine AlH kr i2 (hM.ok p i1).2 (Ir.2 ⟨?_,by rw[<-hhi];exact i4⟩);rw[<-Bool.not_eq_true];intro hs;rw[HJ hs hw2]at i3;cases i3
  generalize (Bd M2 (D0 b)).1=B0 at *;have s1:∀k,Kx k=true->YI lo hi k=true->YC b.row k=false->slt k b.H5=true->Eqk k (Bd B0 (l.map Agw)).1 M1:=λk hk hi' hh hs=>
   (Abu (λp hp e=>by have:=(c.inn p hp).2.2.1;rw[e,hs]at this;cases this) B0).trans ((hB0 k hk hi' hh).1 hs)
  have s2:∀k v0,(⟨k,v0⟩:Pa)∈l->Eqk k (Bd B0 (l.map Agw)).1 M1:=λk v0 hp v=>by
   rw[Aha c.sort hp];refine⟨λe=>by rw[e];exact(c.inn _ hp).1,λhm=>?_⟩;have:=hM.uniq hm (c.inn _ hp).1 rfl;injection this
  have s3:∀k,Kx k=true->YI lo hi k=true->YC b.row k=false->slt k b.H5=false->(∀p∈l,p.k≠k)->∀v,(⟨k,v⟩:Pa)∉(Bd B0 (l.map Agw)).1:=λk hk hi' hh hs hn v hm=>
   (hB0 k hk hi' hh).2 hs v ((Abu hn B0 v).1 hm)
  have s4:∀k v,Kx k=true->YI lo hi k=true->slt k b.H5=false->(⟨k,v⟩:Pa)∈M1->(∀p∈l,p.k≠k)->(⟨k,v⟩:Pa)∈d:=λk v hk hi' hs hm hn=>by
   have:=Ags (b:=b) (by rw[hhi];exact hw1) hm hk hs (by rw[hhi];exact(Ir.1 hi').2);rw[c.cut]at this;rcases List.mem_append.1 this with h'|h'
   ·exact absurd rfl (hn _ h')
   ·exact h'
  generalize Bd B0 (l.map Agw)=R at *;refine⟨?_,hrow⟩;rw[e2];refine⟨λh'=>?_,λh' k hk hi' hh=>?_,λh' k hk hi'=>?_⟩
  ·have h':AeN M1 b (Zc l b.H5)=false:=h';rw[e3]at h';simp only[Bool.or_eq_false_iff,decide_eq_false_iff_not]at h';obtain⟨g1,g2,g3⟩:=h';have hl:l≠[]:=λe=>by rw[e]at g1;exact g1 (by simp;omega)
   rcases AaV c with⟨e,_⟩|⟨q,hq,e,hk,hu2⟩
   ·exact absurd e hl
   ·show Da (Zc l b.H5) hi=true/\slt (Zc l b.H5) lo=false;rw[e]at g2 g3 ⊢;have hs:=AfH hk;obtain⟨i1,i2,i3,i4⟩:=c.inn q hq;have hlt:slt q.k (M9 q.k)=true:=hs.resolve_left (λe0=>by rw[e0,Ki]at g2;cases g2);have hne:hi≠BA []:=AcU kr.h;rw[hhi]at g3;have g3:slt (M9 q.k) hi=true:=by
     have:seq hi (BA [])=false:=by rw[seq_eq,decide_eq_false_iff_not];exact hne
     rw[this]at g3;simpa using g3
    refine⟨Ahc.2 ⟨(Ahc.1 (AeD hk).1).2.1,(Ahc.1 kr.r).2.1,.inr g3⟩,?_⟩;rw[<-Bool.not_eq_true];intro hc;have:=CB hlt hc;rw[HJ this hw2]at i3;cases i3
  ·have h':AeN M1 b (Zc l b.H5)=false:=h';rw[e3]at h';simp only[Bool.or_eq_false_iff,decide_eq_false_iff_not]at h';obtain⟨g1,g2,g3⟩:=h';have hl:l≠[]:=λe=>by rw[e]at g1;exact g1 (by simp;omega)
   have hah:∀x,ahd x (Zc l b.H5)->slt x (Zc l b.H5)=true:=λx hx=>hx.resolve_left (λe0=>by rw[e0,Ki]at g2;cases g2);show(slt k (Zc l b.H5)=true->_)/\(slt k (Zc l b.H5)=false->_);by_cases hex:∃p∈l,p.k=k
   ·obtain⟨p,hp,rfl⟩:=hex;have e:=s2 p.k p.v hp;refine⟨λ_=>e,λhs=>?_⟩;rw[hah _ (Adr c hp)]at hs;cases hs
   ·have hn:∀p∈l,p.k≠k:=λp hp e=>hex ⟨p,hp,e⟩;cases hs:slt k b.H5 with
    |true=>
     refine⟨λ_=>s1 k hk hi' hh hs,λhs2=>?_⟩;exfalso;rcases AaV c with⟨e,_⟩|⟨q,hq,e,hkq,_⟩
     ·exact hl e
     ·have h1:slt k q.k=true:=HJ hs (c.inn q hq).2.2.1;have h2:=hah _ (Adr c hq);rw[CB h1 h2]at hs2;cases hs2
    |false=>
     refine⟨λhs2 v=>?_,λ_=>s3 k hk hi' hh hs hn⟩;constructor
     ·intro hm;exact absurd hm (s3 k hk hi' hh hs hn v)
     ·intro hm;exact absurd (.inr hs2) (Ag1 c hd2 (s4 k v hk hi' hs hm hn) hl)
  ·have h':AeN M1 b (Zc l b.H5)=true:=h';rw[e3]at h';cases hh:YC b.row k with
   |true=>exact(h.seen ha k hk hi').1 hh _
   |false=>
    refine(Abi _ hh).trans ?_;by_cases hex:∃p∈l,p.k=k
    ·obtain⟨p,hp,rfl⟩:=hex;exact s2 p.k p.v hp
    ·have hn:∀p∈l,p.k≠k:=λp hp e=>hex ⟨p,hp,e⟩;cases hs:slt k b.H5 with
     |true=>exact s1 k hk hi' hh hs
     |false=>
      intro v;constructor
      ·intro hm;exact absurd hm (s3 k hk hi' hh hs hn v)
      ·intro hm;exfalso;have hdm:=s4 k v hk hi' hs hm hn;simp only[Bool.or_eq_true,Bool.and_eq_true,decide_eq_true_iff,Bool.not_eq_true']at h';rcases h' with g|g
       ·rw[c.full g]at hdm;cases hdm
       ·have hl:l≠[]:=λe=>by
         have:=c.full (by rw[e];show 0<r;omega);rw[this]at hdm;cases hdm
        refine Ag1 c hd2 hdm hl ?_;rcases g with g|⟨_,g⟩
        ·left;rw[seq_eq,decide_eq_true_iff]at g;exact g
        ·right;have h1:=(Ir.1 hi').2;have hne:hi≠BA []:=AcU kr.h;rw[hhi]at g;exact HJ (h1.resolve_left hne) g
open Go Go.Sx
theorem Aaq (M:List Pa)(b:PB):(EV M b).lo=b.lo/\(EV M b).hi=b.hi/\(EV M b).row=b.row/\(EV M b).n=b.n/\(EV M b).move=b.move/\(EV M b).peer=b.peer/\(EV M b).B9=b.B9:=by
 unfold EV;split<;>exact⟨rfl,rfl,rfl,rfl,rfl,rfl,rfl⟩
theorem AeQ (M:List Pa)(b:PB):(Db M b).1.lo=b.lo/\(Db M b).1.hi=b.hi/\(Db M b).1.n=b.n/\(Db M b).1.move=b.move/\(Db M b).1.peer=b.peer/\(Db M b).1.B9=b.B9:=by
 obtain⟨e1,e2,e3,e4,e5,e6,e7⟩:=Aaq M b;unfold Db;split<;>exact⟨e1,e2,e4,e5,e6,e7⟩
def I6 (M:List Pa)(b:PB):PB:={(Db M b).1 with load:=(Db M b).2,under:=true}
theorem Ah3 (M:List Pa)(b:PB):(Db M b).2.length<=6:=by
 have h:=OL M b;unfold Db;split
 ·dsimp only;rw[List.length_append,List.length_take];unfold Pz;omega
 ·exact h
theorem Hs.next (kr:Aov lo hi){M1 M2:List Pa}{b:PB}{dv:Bool}(h:Hs lo hi M1 M2 b dv)(hM:AU M1)(hu:b.under=false):Hs lo hi M1 M2 (I6 M1 b) false:=by
 obtain⟨⟨s1,s2,s3⟩,hr⟩:=h.Ank kr hM hu;obtain⟨e1,e2,e3,e4,_⟩:=Aaq M1 b;obtain⟨f1,f2,f3,_⟩:=AeQ M1 b;have hl:=Ah3 M1 b;have hrow:=h.row;have hseen:(EV M1 b).all=false->b.all=false:=λha=>by
  cases c:b.all with
  |false=>rfl
  |true=>unfold EV at ha;rw[if_pos c,c]at ha;cases ha
 refine⟨f1.trans h.l0,f2.trans h.h0,?_,?_,hl,(λh'=>by cases h'),λ_=>.inl rfl,?_,?_,?_⟩
 all_goals unfold I6 Db
 ·cases ha:(EV M1 b).all with
  |true=>
   rw[if_pos rfl];intro o ho;have ho:=List.mem_of_mem_drop ho;rw[e3]at ho;exact hrow o ho
  |false=>
   rw[if_neg (by simp)];intro o ho;have ho:o∈(EV M1 b).row:=ho;rw[e3]at ho;exact hrow o ho
 ·cases ha:(EV M1 b).all with
  |true=>
   rw[if_pos rfl];intro o ho;rcases List.mem_append.1 ho with ho|ho
   ·exact hr o ho
   ·have ho:=List.mem_of_mem_take ho;rw[e3]at ho;exact hrow o ho
  |false=>
   rw[if_neg (by simp)];exact hr
 ·cases ha:(EV M1 b).all with
  |true=>
   rw[if_pos rfl];intro h';have h':(EV M1 b).all=false:=h';rw[ha]at h';cases h'
  |false=>
   rw[if_neg (by simp)];intro _;exact s1 ha
 ·cases ha:(EV M1 b).all with
  |true=>
   rw[if_pos rfl];intro h';have h':(EV M1 b).all=false:=h';rw[ha]at h';cases h'
  |false=>
   rw[if_neg (by simp)];intro _ k hk hi';have s2:=s2 ha k hk hi';have t1:=(h.seen (hseen ha) k hk hi').1;show(YC (EV M1 b).row k=true->_)/\(YC (EV M1 b).row k=false->_);unfold Adb;dsimp only;rw[e3];exact⟨t1,s2⟩
 ·cases ha:(EV M1 b).all with
  |true=>
   rw[if_pos rfl];intro _ k hk hi';have s3:=s3 ha k hk hi';show Eqk k (Bd (Adb M2 _ false) ((EV M1 b).row.drop _)).1 M1;unfold Adb;dsimp only;rw[if_neg (by simp),e3,<-Kq,List.append_assoc,List.take_append_drop,Kq];exact s3
  |false=>
   rw[if_neg (by simp)];intro h';have h':(EV M1 b).all=true:=h';rw[ha]at h';cases h'
theorem Ajd (kr:Aov lo hi){M1 M2:List Pa}{b:PB}{dv:Bool}(h:Hs lo hi M1 M2 b dv)(hM:AU M1)(hu:b.under=false)(hm:PS.AbL b=true):IX M1 (I6 M1 b)+1<=IX M1 b:=by
 obtain⟨e1,e2,e3,e4,_⟩:=Aaq M1 b;cases ha:b.all with
 |true=>
  have es:EV M1 b=b:=by unfold EV;rw[ha];rfl
  have hn:b.n≠0:=λe=>by
   rcases h.zero e with h1|h1
   ·rw[hu]at h1;cases h1
   ·rw[ha]at h1;cases h1.1
  have hn0:(b.n==0)=false:=by simpa using hn
  have h1:CO M1 b=[]:=by
   unfold CO D0;rw[ha,if_pos rfl,hn0];rfl
  have hr:0<b.row.length:=by
   unfold PS.AbL at hm;rw[hn0,ha]at hm;simpa using hm
  unfold I6 Db;rw[es,if_pos ha,h1];unfold IX;dsimp only;rw[ha,if_pos rfl,if_pos rfl,List.length_drop];unfold Pz;rw[List.length_nil];omega
 |false=>
  obtain⟨r,er,hr6⟩:=AiU b;have hf:=Pd b;have c:=Aks hM b er;generalize (Hg M1 b).drop r=d at *;cases hb:(EV M1 b).all with
  |true=>
   unfold I6 Db;rw[if_pos hb];unfold IX;dsimp only;rw[hb,ha,if_pos rfl,if_neg (by simp),List.length_drop,e3];omega
  |false=>
   have e2':EV M1 b={b with H5:=Zc (GJ M1 b) b.H5,all:=AeN M1 b (Zc (GJ M1 b) b.H5)}:=by unfold EV;rw[ha];rfl
   unfold I6 Db;rw[if_neg (by rw[hb];simp)];have m1:IX M1 {EV M1 b with load:=CO M1 b,under:=true}=(if(EV M1 b).all then 0 else 1+(Hg M1 (EV M1 b)).length)+(EV M1 b).row.length:=rfl;have m2:IX M1 b=(if b.all then 0 else 1+(Hg M1 b).length)+b.row.length:=rfl;dsimp only at m1 ⊢;rw[m1,m2,hb,ha,e3];simp only[Bool.false_eq_true,if_false];have hlt:(Hg M1 (EV M1 b)).length<(Hg M1 b).length:=by
    have hd:AeN M1 b (Zc (GJ M1 b) b.H5)=false:=by rw[e2']at hb;exact hb
    unfold AeN at hd;rw[er]at hd;simp only[Bool.or_eq_false_iff,decide_eq_false_iff_not]at hd;have hl:GJ M1 b≠[]:=λe=>by
     have:=hd.1;rw[e]at this;exact this (by simp;omega)
    have hw:(EV M1 b).H5=Zc (GJ M1 b) b.H5:=by rw[e2']
    have hsub:Hg M1 (EV M1 b)=(Hg M1 (EV M1 b)).filter (λp=>!((GJ M1 b).contains p)):=by
     rw[List.filter_eq_self.2];intro p hp;obtain⟨_,_,h3,_⟩:=Z8 hM hp;rw[hw]at h3;simp only[Bool.not_eq_true',List.contains_eq_mem,decide_eq_false_iff_not];intro hm;rcases Adr c hm with h4|h4
     ·have:=hd.2.1;rw[h4,Ki]at this;cases this
     ·rw[h3]at h4;cases h4
    have hle:(Hg M1 (EV M1 b)).length<=d.length:=by
     have hs:((Hg M1 (EV M1 b)).filter (λp=>!((GJ M1 b).contains p))).Sublist ((Hg M1 b).filter (λp=>!((GJ M1 b).contains p))):=by
      refine List.Sublist.filter _ ?_;unfold Hg;rw[e2,show M1.filter (λp=>DP (EV M1 b).H5 b.hi p.k)=(M1.filter (λp=>DP b.H5 b.hi p.k)).filter (λp=>DP (EV M1 b).H5 b.hi p.k)from ?_]
      ·exact List.filter_sublist
      ·rw[List.filter_filter];refine List.filter_congr λp hp=>?_;cases hh:DP (EV M1 b).H5 b.hi p.k with
       |false=>rfl
       |true=>
        have hp2:p∈Hg M1 (EV M1 b):=by unfold Hg;rw[e2];exact List.mem_filter.2 ⟨hp,hh⟩
        obtain⟨_,q2,q3,q4⟩:=Z8 hM hp2;rw[hw]at q3;rw[e2]at q4;obtain⟨w1,w2⟩:=h.H5 ha;have w1:Da b.H5 b.hi=true:=by rw[h.h0];exact w1
        have h5:slt p.k b.H5=false:=by
         rcases AaV c with⟨e,_⟩|⟨q,hq,e,hk,_⟩
         ·exact absurd e hl
         ·rw[<-Bool.not_eq_true];intro hs;have h6:=HJ hs (c.inn q hq).2.2.1;rcases Adr c hq with h7|h7
          ·rw[h7]at e;have:=hd.2.1;rw[h7,Ki]at this;cases this
          ·rw[CB h6 h7]at q3;cases q3
        have:=Ags w1 hp q2 h5 q4;unfold Hg at this;simp[(List.mem_filter.1 this).2]
     rw[<-hsub]at hs;refine Nat.le_trans hs.length_le ?_;rw[c.cut,List.filter_append,List.length_append];have h0:(GJ M1 b).filter (λp=>!((GJ M1 b).contains p))=[]:=by
      rw[List.filter_eq_nil_iff];intro p hp;simpa using hp
     rw[h0,List.length_nil,Nat.zero_add];exact List.length_filter_le _ _
    have hc:=congrArg List.length c.cut;rw[List.length_append]at hc;have:0<(GJ M1 b).length:=List.length_pos_iff.2 hl;omega
   omega
variable {M1 M2:List Pa}
theorem Hs.AmV {b:PB}(h:Hs lo hi M1 M2 b false):Hs lo hi M1 (Bd M2 b.load).1 b true:=
 ⟨h.l0,h.h0,h.row,h.load,h.l6,λ_=>rfl,h.zero,h.H5,h.seen,h.done⟩
theorem Hs.told {b:PB}(h:Hs lo hi M1 M2 b true){n:Int}(hn:n≠0):Hs lo hi M1 M2 {b with under:=false,n:=n} true:=
 ⟨h.l0,h.h0,h.row,h.load,h.l6,λ_=>rfl,λe=>absurd e hn,h.H5,h.seen,h.done⟩
variable {dv:Bool}
theorem Hs.close {b:PB}(h:Hs lo hi M1 M2 b dv)(c:Bool):Hs lo hi M1 M2 {b with B9:=c} dv:=
 ⟨h.l0,h.h0,h.row,h.load,h.l6,h.un,h.zero,h.H5,h.seen,h.done⟩
theorem Hs.opened (kr:Aov lo hi){M1 M2:List Pa}(h:∀k,YI lo hi k=true->∀v,(⟨k,v⟩:Pa)∉M2)(mv:Int)(peer:Int)(c:Bool):Hs lo hi M1 M2 ⟨mv,0,lo,hi,peer,c,false,false,lo,[],[]⟩ true:=
 ⟨rfl,rfl,by simp,by simp,by simp,λ_=>rfl,λ_=>.inr ⟨rfl,rfl⟩,λ_=>⟨kr.r,KF _⟩,λ_ k hk hi'=>⟨(λhh=>by cases hh),λ_=>⟨λhs=>(by
  have hs:slt k lo=true:=hs;rw[(Ir.1 hi').1]at hs;cases hs),λ_ v=>h k hi' v⟩⟩,(λhh=>by cases hh)⟩
theorem Hs.end {b:PB}(h:Hs lo hi M1 M2 b dv)(hu:b.under=false)(hm:PS.AbL b=false):∀k,Kx k=true->YI lo hi k=true->Eqk k M2 M1:=λk hk hi'=>by
 unfold PS.AbL at hm;simp only[Bool.or_eq_false_iff,Bool.not_eq_false',decide_eq_false_iff_not]at hm;have h1:=h.done hm.2.1 k hk hi';have hr:b.row=[]:=List.eq_nil_of_length_eq_zero (by omega);rw[hr,h.un hu]at h1;exact h1
open Go Go.Sx
def JV (P Q:PS):Prop:=∃l,Q.out=P.out++l/\(∀x∈l,x.dst=0)/\l.length+Q.wait.length<=P.wait.length
theorem JV.same (ho:Q.out=P.out)(hw:Q.wait.length<=P.wait.length):JV P Q:=⟨[],by rw[ho,List.append_nil],by simp,by simpa using hw⟩
theorem JV.trans {R:PS}(h:JV P Q)(g:JV Q R):JV P R:=by
 obtain⟨l,e,z,n⟩:=h;obtain⟨l2,e2,z2,n2⟩:=g;refine⟨l++l2,by rw[e2,e,List.append_assoc],λx hx=>?_,by rw[List.length_append];omega⟩;rcases List.mem_append.1 hx with hx|hx
 ·exact z x hx
 ·exact z2 x hx
theorem JV.one {x:PM}(ho:Q.out=P.out++[x])(hx:x.dst=0)(hw:Q.wait.length+1<=P.wait.length):JV P Q:=
 ⟨[x],ho,λy hy=>by rw[List.mem_singleton.1 hy];exact hx,by rw[List.length_singleton];omega⟩
theorem AbB:∀(f:Nat) {P:PS} {t:Int},Bj P->JV P (P.Cw f t)
 |0,P,t,_=>JV.same rfl (Nat.le_refl _)
 |f+1,P,t,h=>by
  unfold PS.Cw;split
  ·exact JV.same rfl (Nat.le_refl _)
  ·rename_i hw;have hw:P.Pb t=true:=by simpa using hw
   obtain⟨x,hx,ht⟩:=D9 h hw;have hlt:=(List.getElem?_eq_some_iff.1 hx).1;rw[hx];dsimp only;split
   ·have:=Jw P.wait _ hlt;exact JV.one rfl rfl (by show(P.wait.take _++P.wait.drop _).length+1<=_;omega)
   ·split
    ·exact JV.same rfl (Nat.le_refl _)
    ·rename_i lk hlk;obtain⟨h1,_⟩:=h.Cq hx hlk;have hs:JV P (P.Cq (P.Ce t) x lk):=JV.same rfl (by show(P.wait.set _ _).length<=_;rw[List.length_set];exact Nat.le_refl _);split
     ·exact hs
     ·split
      ·have hl:(P.Cq (P.Ce t) x lk).wait.length=P.wait.length:=List.length_set ..;have:=Jw (P.Cq (P.Ce t) x lk).wait (P.Ce t) (by omega);exact hs.trans (JV.one rfl rfl (by show((P.Cq (P.Ce t) x lk).wait.take _++(P.Cq (P.Ce t) x lk).wait.drop _).length+1<=_;omega))
      ·exact hs.trans (AbB f h1)
theorem AhB (h:Bj P)(ev:Ev):JV P (P.event ev):=by
 unfold PS.event;split
 ·exact AbB 30 h
 ·split
  ·rename_i hw;obtain⟨x,hx,_⟩:=D9 h hw;have:=Jw P.wait _ (List.getElem?_eq_some_iff.1 hx).1;exact JV.one rfl rfl (by show(P.wait.take _++P.wait.drop _).length+1<=_;omega)
  ·exact JV.same rfl (Nat.le_refl _)
theorem Sp:∀(f:Nat) {P:PS},Bj P->JV P (P.through f)
 |0,P,_=>JV.same rfl (Nat.le_refl _)
 |f+1,P,h=>by
  cases hl:P.line with
  |nil=>
   unfold PS.through;rw[hl];exact JV.same rfl (Nat.le_refl _)
  |cons ev l=>
   rw[CQ hl];obtain⟨h1,_⟩:=h.pop hl;exact(JV.trans (Q:={P with line:=l}) (JV.same rfl (Nat.le_refl _)) (AhB h1 ev)).trans (Sp f (h1.event ev).1)
structure Ag8 (P:PS)(t:Int)(n:Nat):Prop where
 held:∀x∈P.held,x.Ah=t/\x.ops.length<=n
 wait:∀x∈P.wait,x.Ah=t
 wl:P.wait.length<=1
theorem Ag8.nil (t:Int)(h:P.held=[])(g:P.wait=[]):Ag8 P t 0:=⟨λx hx=>(by rw[h]at hx;cases hx),λx hx=>(by rw[g]at hx;cases hx),by rw[g];exact Nat.zero_le _⟩
theorem Aj7 (h:PX P)(hw:P.wait=[])(hh:P.held=[])(ho0:P.out=[])(t low Ao:Int){ops:List Op}(ho:A9 ops=0)(hl:ops.length<=4):
  Ag8 (P.work t low Ao ops) t 4/\(P.work t low Ao ops).writes=P.writes/\(P.work t low Ao ops).c=(P.Bk low).c/\(P.work t low Ao ops).Ac=P.Ac/\(P.work t low Ao ops).out.length<=1/\∀x∈(P.work t low Ao ops).out,x.dst=0:=by
 have hleft:=h.j.left;obtain⟨e1,e2,e3,e4,e5,e6,e7,e8⟩:=US P low;have ol:P.out.length=0:=by rw[ho0];rfl
 have hb:(P.Bk low).out.length+(P.Bk low).left+60<=20000:=by rw[GP,Hj];omega
 have hp:Bj (P.Bk low):=h.j.ok.Bk low;have s:=U4 hp t Ao ho (by omega) hb;have Nv:=(AfF hp t Ao ho (by omega) hb).trans (AfU P low);have hh':=e3.trans hh;have hw':=e4.trans hw;have ho':=e7.trans ho0;refine⟨?_,Nv,s.1,s.2.1.trans e1,?_⟩
 all_goals show _
 ·unfold PS.work PS.Du;have one:∀{Q:PS},Q.held=(P.Bk low).held->Q.wait=(P.Bk low).wait->Ag8 Q t 4:=λa b=>by
   have:=Ag8.nil (P:=_) t (a.trans hh') (b.trans hw');exact⟨λx hx=>⟨(this.held x hx).1,Nat.le_trans (this.held x hx).2 (by omega)⟩,this.wait,this.wl⟩
  split
  ·exact one rfl rfl
  ·rename_i hg;split
   ·split
    ·exact one rfl rfl
    ·exact one rfl rfl
   ·rename_i hhis;split
    ·exact one rfl rfl
    ·have hwis:(P.Bk low).Pb t=false:=by
      rw[Bool.not_eq_true]at hg;unfold PS.gone at hg;simp only[Bool.or_eq_false_iff]at hg;exact hg.2
     obtain⟨h1,b1⟩:=hp.await ho (by omega) (KY hp hwis) (Nd hp (by simpa using hhis)) (by rw[hh',hw'];simp) hb;have sg:=(GO 30 (t:=t) h1).trans (Cv DU (h1.Cw 30 (t:=t)).1);have aw:((P.Bk low).await t ops).wait=[⟨t,ops,ops.map AI,0⟩]:=by
      unfold PS.await;dsimp only;rw[hw'];simp
     have ah:((P.Bk low).await t ops).held=[]:=hh';have ln:=sg.len;rw[aw,ah]at ln;refine⟨λx hx=>?_,λx hx=>?_,by have:([]:List PH).length=0:=rfl;simp only[List.length_nil,List.length_singleton]at ln;omega⟩
     ·rcases sg.held x hx with hx|⟨y,hy,e⟩
      ·rw[ah]at hx;cases hx
      ·rw[aw]at hy;rw[e,List.mem_singleton.1 hy];exact⟨rfl,hl⟩
     ·obtain⟨y,hy,e,_⟩:=sg.wait x hx;rw[aw]at hy;rw[e,List.mem_singleton.1 hy]
 ·unfold PS.work PS.Du;have z0:∀{Q:PS},Q.out=[]->Q.out.length<=1/\∀x∈Q.out,x.dst=0:=λe=>by rw[e];simp
  have z1:∀{Q:PS} {x:PM},Q.out=[x]->x.dst=0->Q.out.length<=1/\∀x∈Q.out,x.dst=0:=λe hx=>by rw[e];simpa using hx
  have vt:∀(c:Int) (rs:List Rp),((P.Bk low).Df t c rs).out=[{PM.zero with kind:=4,Ah:=t,code:=c,results:=rs,src:=(P.Bk low).c.id}]:=λc rs=>by
   show(P.Bk low).out++_=_;rw[ho'];rfl
  split
  ·exact z0 ho'
  ·rename_i hg;split
   ·split
    ·exact z0 ho'
    ·exact z1 (vt _ _) rfl
   ·rename_i hhis;split
    ·exact z1 (vt _ _) rfl
    ·have hwis:(P.Bk low).Pb t=false:=by
      rw[Bool.not_eq_true]at hg;unfold PS.gone at hg;simp only[Bool.or_eq_false_iff]at hg;exact hg.2
     obtain⟨h1,b1⟩:=hp.await ho (by omega) (KY hp hwis) (Nd hp (by simpa using hhis)) (by rw[hh',hw'];simp) hb;obtain⟨l,e,z,n⟩:=(AbB 30 (t:=t) h1).trans (Sp DU (h1.Cw 30 (t:=t)).1);have aw:((P.Bk low).await t ops).wait=[⟨t,ops,ops.map AI,0⟩]:=by
      unfold PS.await;dsimp only;rw[hw'];simp
     have ao:((P.Bk low).await t ops).out=[]:=ho';rw[ao,List.nil_append]at e;rw[aw,List.length_singleton]at n;rw[e];exact⟨by omega,z⟩
theorem Aa0:∀(ws:List Op) (P:PS),(P.writeAll ws).box=P.box.map λb=>ws.foldl DI b
 |[],P=>by cases h:P.box<;>simp[PS.writeAll,h]
 |o::l,P=>by
  show((P.FT o).writeAll l).box=_;rw[Aa0 l];unfold PS.FT PS.behind;cases h:P.box with
  |none=>simp[h]
  |some b=>
   dsimp only;unfold DI;split<;>simp[*,h,List.foldl_cons,DI]
structure Dcd (P Q:PS)(n:Nat)(ws:List Op):Prop where
 held:Q.held=[]
 wait:Q.wait=[]
 c:Q.c=P.c
 Ac:Q.Ac=P.Ac
 writes:Q.writes=ws
 wl:ws.length<=n
 ok:A9 ws=0
 wr:∀o∈ws,fWr o.kind=true
 box:Q.box=P.box.map λb=>ws.foldl DI b
 out:Q.out.length<=2/\∀x∈Q.out,x.dst=0
theorem AcJ {l:List α}(h:∀x∈l,False):l=[]:=by
 cases l with
 |nil=>rfl
 |cons x l=>exact(h x (by simp)).elim
theorem Adx (hp:Bj Q)(hf:Q.fin.length<100000)(hw:Q.wait=[])(hh:Q.held=[])(t:Int):(Q.finish t).held=[]/\(Q.finish t).wait=[]/\(Q.finish t).c=Q.c/\(Q.finish t).Ac=Q.Ac/\(Q.finish t).writes=Q.writes/\(Q.finish t).box=Q.box/\(Q.finish t).out=Q.out:=by
 have s:=Oy hp t hf;have e1:(Q.BV t).c=Q.c/\(Q.BV t).Ac=Q.Ac/\(Q.BV t).box=Q.box/\(Q.BV t).held=Q.held/\(Q.BV t).wait=Q.wait/\(Q.BV t).out=Q.out:=by unfold PS.BV;split<;>exact⟨rfl,rfl,rfl,rfl,rfl,rfl⟩
 obtain⟨e1,e2,e3,e4,e5,e6⟩:=e1;obtain⟨h1,b1,l1⟩:=hp.BV t hf;obtain⟨h2,b2⟩:=h1.release t;refine⟨AcJ λx hx=>?_,AcJ λx hx=>?_,s.c.trans e1,s.Ac.trans e2,s.writes.trans (Ahq Q t),s.box.trans e3,?_⟩
 ·rcases s.held x hx with hx|⟨y,hy,_⟩
  ·rw[e4,hh]at hx;cases hx
  ·rw[e5,hw]at hy;cases hy
 ·obtain⟨y,hy,_⟩:=s.wait x hx;rw[e5,hw]at hy;cases hy
 ·have hr:JV (Q.BV t) ((Q.BV t).release t):=JV.same rfl (Nat.le_refl _);obtain⟨l,e,_,n⟩:=hr.trans (Sp DU h2);rw[e5,hw,List.length_nil]at n;have hl:l=[]:=List.eq_nil_of_length_eq_zero (by omega);rw[hl,List.append_nil,e6]at e;exact e
theorem Ah9 (h:PX P){t:Int}{n:Nat}(o1:Ag8 P t n)(ho0:P.out=[])(hw0:P.writes=[]):∃ws,Dcd P (P.decide t true) n ws:=by
 have hleft:=h.j.left;have ol:P.out.length=0:=by rw[ho0];rfl
 have hb:P.out.length+1+P.left<=20000:=by omega
 have ha:Bj (P.Fh t):=h.j.ok.Fh t hb;have hf:=Vg h.j;have ao:(P.Fh t).out=[{PM.zero with kind:=6,Ah:=t,src:=P.c.id}]:=by
  show P.out++_=_;rw[ho0];rfl
 have z:∀{Q:PS},Q.out=(P.Fh t).out->Q.out.length<=2/\∀x∈Q.out,x.dst=0:=λe=>by rw[e,ao];simp[PM.zero]
 unfold PS.decide;cases hh:P.TJ t with
 |true=>
  rw[if_pos rfl];obtain⟨x,hx,hxt⟩:=MN h.j.ok hh;rw[hx];dsimp only;have hxm:=List.mem_of_getElem? hx;obtain⟨v1,v2⟩:=h.j.ok.hv x hxm;have hwl:=OZ true x.ops;have hu:Bj ((P.Fh t).AO (P.DY t)):=ha.AO _;have hwa:Bj (((P.Fh t).AO (P.DY t)).writeAll (PS.Mn true x.ops)):=hu.writeAll (OC v1) (by show P.writes.length+_<=1000;rw[hw0];simp;omega);have hsub:=Bp P.held (P.DY t);have hg:=AgY h.j.ok hx;have e:=Bz (PS.Mn true x.ops) ((P.Fh t).AO (P.DY t));have ebox:=Aa0 (PS.Mn true x.ops) ((P.Fh t).AO (P.DY t));have eh:(((P.Fh t).AO (P.DY t)).writeAll (PS.Mn true x.ops)).held=[]:=by
   rw[e];refine AcJ λy hy=>?_;have hy:y∈P.held.take (P.DY t)++P.held.drop (P.DY t+1):=hy;exact hg y hy (((o1.held y (hsub.subset hy)).1).trans hxt.symm)
  have ew:(((P.Fh t).AO (P.DY t)).writeAll (PS.Mn true x.ops)).wait=[]:=by
   rw[e];refine AcJ λy hy=>?_;have hy:y∈P.wait:=hy;exact h.j.ok.dj y hy x hxm ((o1.wait y hy).trans hxt.symm)
  have ef:(((P.Fh t).AO (P.DY t)).writeAll (PS.Mn true x.ops)).fin=P.fin:=by rw[e];rfl
  obtain⟨f1,f2,f3,f4,f5,f6,f7⟩:=Adx hwa (by rw[ef];exact hf) ew eh t;refine⟨PS.Mn true x.ops,f1,f2,f3.trans (by rw[e];rfl),f4.trans (by rw[e];rfl),f5.trans ?_,Nat.le_trans hwl (o1.held x hxm).2,OC v1,λo ho=>?_,f6.trans ebox,z (f7.trans (by rw[e];rfl))⟩
  ·rw[e];show P.writes++_=_;rw[hw0];rfl
  ·unfold PS.Mn at ho;have:=(List.mem_filter.1 ho).2;simpa using this
 |false=>
  rw[if_neg (by simp)];have hh0:P.held=[]:=AcJ λy hy=>Nd h.j.ok hh y hy (o1.held y hy).1;have hbox:P.box=P.box.map λb=>([]:List Op).foldl DI b:=by cases P.box<;>rfl
  cases hwi:P.Pb t with
  |true=>
   rw[if_pos rfl];obtain⟨x,hx,hxt⟩:=D9 h.j.ok hwi;obtain⟨hu,_⟩:=ha.Ay (i:=P.Ce t) hx;have hlt:=(List.getElem?_eq_some_iff.1 hx).1;have hle:=Jw P.wait _ hlt;have ew:((P.Fh t).Ay (P.Ce t)).wait=[]:=List.eq_nil_of_length_eq_zero (by show(P.wait.take _++P.wait.drop _).length=0;have:=o1.wl;omega);obtain⟨f1,f2,f3,f4,f5,f6,f7⟩:=Adx hu hf ew hh0 t;exact⟨[],f1,f2,f3,f4,f5.trans hw0,Nat.zero_le _,rfl,by simp,f6.trans hbox,z f7⟩
  |false=>
   rw[if_neg (by simp)];have hw1:P.wait=[]:=AcJ λy hy=>KY h.j.ok hwi y hy (o1.wait y hy);exact⟨[],hh0,hw1,rfl,rfl,hw0,Nat.zero_le _,rfl,by simp,hbox,z rfl⟩
theorem Hs.writes {lo hi:ByteArray}(kr:Aov lo hi){M2:List Pa}{dv:Bool}:∀(ws:List Op) {M1:List Pa} {b:PB},Hs lo hi M1 M2 b dv->A9 ws=0->(∀o∈ws,fWr o.kind=true)->Hs lo hi (Bd M1 ws).1 M2 (ws.foldl DI b) dv/\IX (Bd M1 ws).1 (ws.foldl DI b)<=IX M1 b+2*ws.length
 |[],M1,b,h,_,_=>⟨h,by show IX M1 b<=_;omega⟩
 |o::l,M1,b,h,ho,hw=>by
  rw[Bu]at ho;obtain⟨h1,h2⟩:=Hs.writes kr l (h.write kr (ho o (by simp)) (hw o (by simp))) (Bu.2 λx hx=>ho x (by simp[hx])) (λx hx=>hw x (by simp[hx]));have h3:=AhQ (b:=b) M1 o;refine⟨h1,?_⟩;show IX (Bd (RU M1 o).1 l).1 (l.foldl DI (DI b o))<=_;rw[List.length_cons];omega
theorem Agb (b:PB)(o:Op):(DI b o).n=b.n/\(DI b o).under=b.under/\(DI b o).move=b.move/\(DI b o).peer=b.peer/\(DI b o).B9=b.B9/\(DI b o).load=b.load:=by
 unfold DI;split<;>exact⟨rfl,rfl,rfl,rfl,rfl,rfl⟩
theorem VI:∀(l:List Op) (b:PB),(l.foldl DI b).n=b.n/\(l.foldl DI b).under=b.under/\(l.foldl DI b).move=b.move/\(l.foldl DI b).peer=b.peer/\(l.foldl DI b).B9=b.B9/\(l.foldl DI b).load=b.load
 |[],b=>⟨rfl,rfl,rfl,rfl,rfl,rfl⟩
 |o::l,b=>by
  obtain⟨a1,a2,a3,a4,a5,a6⟩:=VI l (DI b o);obtain⟨b1,b2,b3,b4,b5,b6⟩:=Agb b o;exact⟨a1.trans b1,a2.trans b2,a3.trans b3,a4.trans b4,a5.trans b5,a6.trans b6⟩
open Go Go.Sx
def cK:ByteArray:=BA [99]
def mK:ByteArray:=BA [109]
def Aaa:List Ow:=[⟨BA [],1⟩,⟨cK,1⟩,⟨mK,2⟩]
theorem kr0:Aov cK mK:=⟨by kernel_rfl,by kernel_rfl,by kernel_rfl⟩
def Aac (x:PM):Bool:=x.dst==1||x.dst==2
def act (Q:List PM):List PM:=Q.filter Aac
def K0 (n:Int)(ops:List Op):PM:={PM.zero with kind:=3,dst:=1,Ah:=n,low:=n,Ao:=1,ops:=ops}
def YH (n:Int):PM:={PM.zero with kind:=5,dst:=1,Ah:=n,flag:=true}
def GC (f:Bool):PM:={PM.zero with kind:=10,dst:=1,CZ:=7,move:=7,peer:=2,flag:=f,FN:=cK,G6:=mK}
def G0 (n:Int)(ops:List Op):PM:={PM.zero with kind:=11,src:=1,dst:=2,move:=7,attempt:=1,n:=n,FN:=cK,G6:=mK,ops:=ops}
def JJ (n:Int):PM:={PM.zero with kind:=12,src:=2,dst:=1,move:=7,attempt:=1,n:=n}
def EA (P:PS)(x:PM):PS:={(P.CA x).clear with M:=(Bd P.M (P.CA x).writes).1}
theorem Amm {n:Int}{ops:List Op}(h0:0<ops.length)(h4:ops.length<=4)(ho:A9 ops=0):pmA (K0 n ops)=true:=by
 have e:pmA (K0 n ops)=(BW CY BE (decide (0<ops.length)&&(decide (ops.length<=24)&&decide (A9 ops=0))) (K0 n ops)&&Em [116,108,101,111] (K0 n ops)):=rfl;rw[e,decide_eq_true h0,decide_eq_true (show ops.length<=24 by omega),decide_eq_true ho];have e2:(BW CY BE (true&&(true&&true)) (K0 n ops)&&Em [116,108,101,111] (K0 n ops))=true:=by kernel_rfl
 exact e2
theorem Amw (n:Int):pmA (YH n)=true:=by kernel_rfl
theorem Am3 (f:Bool):pmA (GC f)=true:=by cases f<;>kernel_rfl
theorem Amf {n:Int}{ops:List Op}(h6:ops.length<=6)(ho:∀o∈ops,AfR cK mK o):pmA (G0 n ops)=true:=by
 have e:pmA (G0 n ops)=(BW BE BE (!((1:Int)==2)&&((decide (ops.length<=6)&&decide (A9 ops=0))&&(Da cK mK&&!(ops.any λo=>!fWr o.kind)))) (G0 n ops)&&Em [109,97,110,114,111] (G0 n ops)):=rfl;have h1:(ops.any λo=>!fWr o.kind)=false:=by
  rw[List.any_eq_false];intro o hx;rw[(ho o hx).wr];simp
 rw[e,decide_eq_true h6,decide_eq_true (Bu.2 λo hx=>(ho o hx).ok),kr0.r,h1];have e2:(BW BE BE (!((1:Int)==2)&&((true&&true)&&(true&&!false))) (G0 n ops)&&Em [109,97,110,114,111] (G0 n ops))=true:=by kernel_rfl
 exact e2
theorem Amb (n:Int):pmA (JJ n)=true:=by kernel_rfl
theorem Afc {x:PM}(h1:pmA x=true)(h2:x.dst=P.c.id)(h3:Fi x.kind=true):P.OU x=false:=by
 unfold PS.OU;rw[h1,h2,h3];simp
structure Aot (P:PS):Prop where
 x:PX P
 id:P.c.id=1
 CZ:P.c.CZ=7
 move:P.c.move=7
 Ao:P.c.Ao=1
 Au:P.c.Au=1
 ow:P.Ac=Aaa
 ml:P.M.length<=1000
structure Aou (P:PS)(nx:Int):Prop where
 x:PX P
 id:P.c.id=2
 move:P.c.move=7
 ow:P.Ac=Aaa
 inb:(P.c.AJ=0/\nx=0)\/(P.c.AJ=7/\P.c.CD=1/\P.c.Bo=nx/\P.c.Ph=cK/\P.c.Qq=mK)
 ml:(P.M.length:Int)<=40+6*nx
 nn:0<=nx/\nx<=1000
 bx:P.box=none
structure ShB (M1 M2:List Pa)(nx:Int)(b:PB)(dv f:Bool)(B:Nat):Prop where
 s:Hs cK mK M1 M2 b dv
 mv:b.move=7
 pr:b.peer=2
 cl:b.B9=f
 n0:0<=b.n
 nx:nx=b.n+(if b.under&&dv then 1 else 0)
 bd:b.n+(IX M1 b:Int)+(if b.under then 1 else 0)<=(B:Int)
structure ShO (M1 M2:List Pa)(nx:Int)(B:Nat):Prop where
 nx:nx=0
 no:∀k,YI cK mK k=true->∀v,(⟨k,v⟩:Pa)∉M2
 bd:M1.length+1<=B
def Ao1 (P1 P2:PS)(nx:Int)(B:Nat):Prop:=match P1.box with
 |none=>ShO P1.M P2.M nx B
 |some b=>∃dv,ShB P1.M P2.M nx b dv false B
def RY (P:PS):List PM:=match P.box with
 |none=>[]
 |some b=>if b.under then [G0 b.n b.load]else []
structure Idl (P:PS):Prop where
 held:P.held=[]
 wait:P.wait=[]
 fz:P.c.frozen=0
inductive Aoz (f:Bool)(i:Nat)(P1 P2:PS)(nx:Int)(a:List PM)(s:Nat)(dn:Prop):Prop
 |w (ops:List Op) (hf:f=false) (ho:A9 ops=0) (h4:ops.length<=4) (h0:0<ops.length) (hi:i<20) (id:Idl P1) (sh:Ao1 P1 P2 nx (41+8*i)) (ml:P1.M.length<=40+4*i) (ha:a=K0 (i+1) ops::YH (i+1)::GC f::RY P1) (hs:s<=4)
 |d (hf:f=false) (hi:i<20) (one:Ag8 P1 (i+1) 4) (fz:P1.c.frozen=0) (sh:Ao1 P1 P2 nx (41+8*i)) (ml:P1.M.length<=40+4*i) (ha:a=YH (i+1)::GC f::RY P1) (hs:s<=5)
 |c (hi:i<=20) (id:Idl P1) (sh:Ao1 P1 P2 nx (49+8*i)) (ml:P1.M.length<=44+4*i) (ha:a=GC f::RY P1) (hs:s<=7)
 |t (hi:i<=20) (id:Idl P1) (ml:P1.M.length<=44+4*i) (b:PB) (hb:P1.box=some b) (dv:Bool) (sh:ShB P1.M P2.M nx b dv f (49+8*i)) (ha:(a=[]/\s<=499/\f=false)\/(b.under=true/\a=[G0 b.n b.load]/\s+2*IX P1.M b+2<=499)\/(b.under=true/\dv=true/\a=[JJ b.n]/\s+2*IX P1.M b+1<=499))
 |z (hf:f=true) (hb:P1.box=none) (ha:a=[]) (hs:s<=499) (eq:∀k,Kx k=true->YI cK mK k=true->Eqk k P2.M P1.M) (hd:dn)
def Inv (f:Bool)(i:Nat)(P1 P2:PS)(Q:List PM)(n:Nat)(fz:Bool):Prop:=
 ∃nx,Aot P1/\Aou P2 nx/\Aoz f i P1 P2 nx (act Q) (n+Q.length) (fz=true\/∃x∈Q,x.kind=14)
theorem Aaz (x:PM)(Q:List PM):act (x::Q)=if Aac x then x::act Q else act Q:=by unfold act;rw[List.filter_cons]
theorem NC (Q R:List PM):act (Q++R)=act Q++act R:=List.filter_append ..
theorem Agg {Q:List PM}(h:∀x∈Q,x.dst=0):act Q=[]:=by
 unfold act;rw[List.filter_eq_nil_iff];intro x hx;unfold Aac;rw[h x hx]
 decide
variable {P1 P2:PS}
theorem Aoz.dn {f:Bool}{nx:Int}{a:List PM}{s:Nat}{p q:Prop}(h:Aoz f i P1 P2 nx a s p)(hq:p->q):Aoz f i P1 P2 nx a s q:=by
 cases h with
 |w ops hf ho h4 h0 hi id sh ml ha hs=>exact .w ops hf ho h4 h0 hi id sh ml ha hs
 |d hf hi one fz sh ml ha hs=>exact .d hf hi one fz sh ml ha hs
 |c hi id sh ml ha hs=>exact .c hi id sh ml ha hs
 |t hi id ml b hb dv sh ha=>exact .t hi id ml b hb dv sh ha
 |z hf hb ha hs eq hd=>exact .z hf hb ha hs eq (hq hd)
theorem Inv.lt {f:Bool}{Q:List PM}{n:Nat}{fz:Bool}(h:Inv f i P1 P2 Q n fz):n+Q.length<=499:=by
 obtain⟨nx,_,_,p⟩:=h;cases p with
 |w ops hf ho h4 h0 hi id sh ml ha hs=>omega
 |d hf hi one fz sh ml ha hs=>omega
 |c hi id sh ml ha hs=>omega
 |t hi id ml b hb dv sh ha=>rcases ha with ha|ha|ha<;>omega
 |z hf hb ha hs eq hd=>exact hs
variable {m:PM}
theorem AkI {fz:Bool}{Q R:List PM}(hR:∀x∈Q,x∈R)(h:fz=true\/∃x∈m::Q,x.kind=14):(fz||m.kind==14)=true\/∃x∈R,x.kind=14:=by
 rcases h with h|⟨x,hx,hk⟩
 ·exact .inl (by rw[h];rfl)
 ·rcases List.mem_cons.1 hx with rfl|hx
  ·exact .inl (by rw[hk];simp)
  ·exact .inr ⟨x,hR x hx,hk⟩
theorem AgL {f:Bool}{Q:List PM}{n:Nat}{fz:Bool}(h:Inv f i P1 P2 (m::Q) n fz)(hm:Aac m=false):Inv f i P1 P2 Q (n+1) (fz||m.kind==14):=by
 obtain⟨nx,g1,g2,p⟩:=h;refine⟨nx,g1,g2,?_⟩;rw[Aaz,hm,if_neg (by simp),List.length_cons,show n+(Q.length+1)=n+1+Q.length from by omega]at p;exact p.dn (AkI λx hx=>hx)
theorem Ajw {Q:List PM}{n:Nat}{fz:Bool}(h:Inv false i P1 P2 (m::Q) n fz)(hk:m.kind=11\/m.kind=12):Inv false i P1 P2 Q (n+1) (fz||m.kind==14):=by
 cases hm:Aac m with
 |false=>exact AgL h hm
 |true=>
  obtain⟨nx,g1,g2,p⟩:=h;refine⟨nx,g1,g2,?_⟩;rw[Aaz,hm,if_pos rfl,List.length_cons,show n+(Q.length+1)=n+1+Q.length from by omega]at p;have no:∀{x:PM} {l:List PM},m::act Q=x::l->x.kind≠11->x.kind≠12->False:=λe h1 h2=>by
   injection e with e _;rw[e]at hk;omega
  cases p with
  |w ops hf ho h4 h0 hi id sh ml ha hs=>exact(no ha (by show(3:Int)≠11;decide) (by show(3:Int)≠12;decide)).elim
  |d hf hi one fz sh ml ha hs=>exact(no ha (by show(5:Int)≠11;decide) (by show(5:Int)≠12;decide)).elim
  |c hi id sh ml ha hs=>exact(no ha (by show(10:Int)≠11;decide) (by show(10:Int)≠12;decide)).elim
  |t hi id ml b hb dv sh ha=>
   refine .t hi id ml b hb dv sh (.inl ⟨?_,?_,rfl⟩)
   ·rcases ha with⟨ha,_⟩|⟨_,ha,_⟩|⟨_,_,ha,_⟩
    ·cases ha
    ·injection ha
    ·injection ha
   ·rcases ha with ha|ha|ha<;>omega
  |z hf hb ha hs eq hd=>cases hf
open Go Go.Sx
theorem Aim (M:List Pa)(b:PB):(I6 M b).lo=b.lo/\(I6 M b).hi=b.hi/\(I6 M b).n=b.n/\(I6 M b).move=b.move/\(I6 M b).peer=b.peer/\(I6 M b).B9=b.B9:=AeQ M b
theorem AcW (hM:AU P.M)(ho:P.out=[])(hid:P.c.id=1)(hbt:P.c.Au=1)(hh:P.held=[])(hw:P.wait=[]){b:PB}(hb:P.box=some b)(hu:b.under=false){M2:List Pa}{nx:Int}{f:Bool}{B:Nat}(s:ShB P.M M2 nx b true f B):
  (∃b2,P.Fa={P with box:=some b2,out:=[G0 b2.n b2.load]}/\b2.under=true/\b2.n=b.n/\ShB P.M M2 nx b2 false f B/\IX P.M b2+1<=IX P.M b) \/
  (f=true/\(∃c x,P.Fa={P with c:=c,box:=none,out:=[x]}/\c.id=P.c.id/\c.CZ=P.c.CZ/\c.move=P.c.move/\c.Ao=P.c.Ao/\c.Au=P.c.Au/\x.kind=14/\x.dst=0)/\∀k,Kx k=true->YI cK mK k=true->Eqk k M2 P.M) \/
  (f=false/\P.Fa=P):=by
 have hnx:=s.nx;have hbd:=s.bd;rw[hu]at hnx hbd;unfold PS.Fa;rw[hb];dsimp only;rw[hu,if_neg (by simp)];cases hm:PS.AbL b with
 |true=>
  rw[if_pos rfl];left;obtain⟨e1,e2,e3,e4,e5,e6⟩:=Aim P.M b;have hs:=s.s.next kr0 hM hu;have hme:=Ajd kr0 s.s hM hu hm;have e:P.My b={P with box:=some (I6 P.M b),out:=P.out++[{PM.zero with kind:=11,src:=P.c.id,dst:=(I6 P.M b).peer,move:=(I6 P.M b).move,attempt:=P.c.Au,n:=(I6 P.M b).n,FN:=(I6 P.M b).lo,G6:=(I6 P.M b).hi,ops:=(I6 P.M b).load}]}:=rfl;refine⟨I6 P.M b,?_,rfl,e3,⟨hs,e4.trans s.mv,e5.trans s.pr,e6.trans s.cl,by rw[e3];exact s.n0,?_,?_⟩,hme⟩
  ·rw[e,ho,List.nil_append,hid,hbt,hs.l0,hs.h0,e5,s.pr,e4,s.mv];rfl
  ·rw[e3,hnx];simp
  ·rw[e3];have:(I6 P.M b).under=true:=rfl;rw[this,if_pos rfl];simp only[Bool.false_eq_true,if_false]at hbd;omega
 |false=>
  rw[if_neg (by simp),s.cl];have hbusy:P.busy b.lo b.hi=false:=by unfold PS.busy;rw[hh,hw];rfl
  rw[hbusy];cases f with
  |true=>
   rw[show(true&&!false)=true from rfl,if_pos rfl];right;left;refine⟨rfl,⟨{P.c with frozen:=b.move,Qk:=b.lo,MS:=b.hi},{PM.zero with kind:=14,move:=b.move,src:=P.c.id},?_,rfl,rfl,rfl,rfl,rfl,rfl,rfl⟩,s.s.end hu hm⟩;have e:P.freeze b={P with c:={P.c with frozen:=b.move,Qk:=b.lo,MS:=b.hi},box:=none,out:=P.out++[{PM.zero with kind:=14,move:=b.move,src:=P.c.id}]}:=rfl;rw[e,ho,List.nil_append]
  |false=>
   rw[if_neg (by simp)];exact .inr (.inr ⟨rfl,rfl⟩)
theorem Anq (h:m.dst=1):Aac m=true:=by unfold Aac;rw[h];rfl
theorem Ans (h:m.dst=2):Aac m=true:=by unfold Aac;rw[h];rfl
theorem PX.step (h:PX P){x:PM}(hQ:PX (P.CA x))(hl:P.M.length+(P.CA x).writes.length<=200000):PX (EA P x):=
 hQ.clear.store (Nq h.j.ok.mp hQ.j.ok.wr) (Nat.le_trans (He P.M (P.CA x).writes).1 hl)
theorem AfA {x:PM}(h1:DR x.Ah)(h2:DR x.low)(h3:DR x.CZ)(h4:DR x.Ao)(h5:DR x.move)(h6:DR x.attempt):ZM x:=⟨h1,h2,h3,h4,h5,h6⟩
theorem Amr {n:Nat}(h:n<=1000):DR (n:Int):=⟨by omega,by omega⟩
theorem AiY:DR 1:=⟨by decide,by decide⟩
theorem Ajb:DR 7:=⟨by decide,by decide⟩
structure AfG (P:PS)(m:PM):Prop where
 bad:P.OU m=false
 n:ZM m
 ow:m.Ac=[]
theorem Adv (g:Aot P){x:PM}(hQ:PX (P.CA x))(hl:P.M.length+(P.CA x).writes.length<=1000)(h1:(P.CA x).c.id=P.c.id)(h2:(P.CA x).c.CZ=P.c.CZ)(h3:(P.CA x).c.move=P.c.move)(h4:(P.CA x).c.Ao=P.c.Ao)(h5:(P.CA x).c.Au=P.c.Au)(h6:(P.CA x).Ac=P.Ac):Aot (EA P x):=
 ⟨g.x.step hQ (by omega),h1.trans g.id,h2.trans g.CZ,h3.trans g.move,h4.trans g.Ao,h5.trans g.Au,h6.trans g.ow,Nat.le_trans (He _ _).1 hl⟩
theorem AfE {x:PM}(h:(P.CA x).writes=[]):(EA P x).M=P.M:=by show(Bd P.M (P.CA x).writes).1=_;rw[h];rfl
variable {dn2:Prop}
theorem Amq {f:Bool}{nx:Int}{ops:List Op}{Q:List PM}{n:Nat}{dn:Prop}(g1:Aot P1)(hf:f=false)(ho:A9 ops=0)(h4:ops.length<=4)(h0:0<ops.length)(hi:i<20)(id:Idl P1)(sh:Ao1 P1 P2 nx (41+8*i))(ml:P1.M.length<=40+4*i)(ha:act Q=YH (i+1)::GC f::RY P1)(hs:n+(Q.length+1)<=4):
  AfG P1 (K0 (i+1) ops)/\Aot (EA P1 (K0 (i+1) ops))/\Aoz f i (EA P1 (K0 (i+1) ops)) P2 nx (act (Q++(P1.CA (K0 (i+1) ops)).out)) (n+1+(Q++(P1.CA (K0 (i+1) ops)).out).length) dn2:=by
 have hN:DR ((i:Int)+1):=by have:=Amr (n:=i+1) (by omega);rwa [Int.natCast_succ]at this
 have hb:P1.OU (K0 (i+1) ops)=false:=Afc (Amm h0 h4 ho) g1.id.symm rfl;have hm:ZM (K0 (i+1) ops):=AfA hN hN AeP AiY AeP AeP;have e:P1.CA (K0 (i+1) ops)=P1.clear.work (i+1) (i+1) 1 ops:=rfl;obtain⟨q1,q2,q3⟩:=g1.x.clear.work rfl hN hN (Ao:=1) ho (by omega) h0;obtain⟨w1,w2,w3,w4,w5,w6⟩:=Aj7 g1.x.clear id.wait id.held rfl (i+1) (i+1) 1 ho h4;rw[<-e]at q1 q2 q3 w1 w2 w3 w4 w5 w6;have cl:(P1.clear.Bk (i+1)).c.id=P1.c.id/\(P1.clear.Bk (i+1)).c.CZ=P1.c.CZ/\(P1.clear.Bk (i+1)).c.move=P1.c.move/\(P1.clear.Bk (i+1)).c.Ao=P1.c.Ao/\(P1.clear.Bk (i+1)).c.Au=P1.c.Au/\(P1.clear.Bk (i+1)).c.frozen=P1.c.frozen:=by
  unfold PS.Bk;split<;>exact⟨rfl,rfl,rfl,rfl,rfl,rfl⟩
 obtain⟨c1,c2,c3,c4,c5,c6⟩:=cl;have wn:(P1.CA (K0 (i+1) ops)).writes=[]:=w2;have eM:=AfE wn;have eb:(EA P1 (K0 (i+1) ops)).box=P1.box:=q3;refine⟨⟨hb,hm,rfl⟩,Adv g1 q1 (by rw[wn];have:=g1.ml;simpa using this) (by rw[w3];exact c1) (by rw[w3];exact c2) (by rw[w3];exact c3) (by rw[w3];exact c4) (by rw[w3];exact c5) w4,?_⟩;refine .d hf hi ⟨w1.held,w1.wait,w1.wl⟩ ?_ ?_ (by rw[eM];exact ml) ?_ ?_
 ·show(P1.CA (K0 (i+1) ops)).c.frozen=0;rw[w3,c6];exact id.fz
 ·unfold Ao1;rw[eb,eM];exact sh
 ·rw[NC,Agg w6,List.append_nil,ha];unfold RY;rw[eb]
 ·rw[List.length_append];omega
theorem Amg {f:Bool}{nx:Int}{Q:List PM}{n:Nat}{dn:Prop}(g1:Aot P1)(hf:f=false)(hi:i<20)(one:Ag8 P1 (i+1) 4)(fz:P1.c.frozen=0)(sh:Ao1 P1 P2 nx (41+8*i))(ml:P1.M.length<=40+4*i)(ha:act Q=GC f::RY P1)(hs:n+(Q.length+1)<=5):
  AfG P1 (YH (i+1))/\Aot (EA P1 (YH (i+1)))/\Aoz f i (EA P1 (YH (i+1))) P2 nx (act (Q++(P1.CA (YH (i+1))).out)) (n+1+(Q++(P1.CA (YH (i+1))).out).length) dn2:=by
 have hN:DR ((i:Int)+1):=by have:=Amr (n:=i+1) (by omega);rwa [Int.natCast_succ]at this
 have hb:P1.OU (YH (i+1))=false:=Afc (Amw _) g1.id.symm rfl;have hm:ZM (YH (i+1)):=AfA hN AeP AeP AeP AeP AeP;have e:P1.CA (YH (i+1))=P1.clear.decide (i+1) true:=rfl;obtain⟨q1,q2,_⟩:=g1.x.clear.decide rfl rfl hN true;obtain⟨ws,D⟩:=Ah9 g1.x.clear (t:=(i:Int)+1) (n:=4) ⟨one.held,one.wait,one.wl⟩ rfl rfl;rw[<-e]at q1 q2 D;have eM:(EA P1 (YH (i+1))).M=(Bd P1.M ws).1:=by show(Bd P1.M (P1.CA _).writes).1=_;rw[D.writes]
 have eb:(EA P1 (YH (i+1))).box=P1.box.map λb=>ws.foldl DI b:=D.box;have wl:=D.wl;have hM4:(Bd P1.M ws).1.length<=P1.M.length+ws.length:=(He _ _).1;refine⟨⟨hb,hm,rfl⟩,Adv g1 q1 (by rw[D.writes];omega) (by rw[D.c];rfl) (by rw[D.c];rfl) (by rw[D.c];rfl) (by rw[D.c];rfl) (by rw[D.c];rfl) D.Ac,?_⟩;refine .c (by omega) ⟨D.held,D.wait,by show(P1.CA _).c.frozen=0;rw[D.c];exact fz⟩ ?_ (by rw[eM];omega) ?_ ?_
 ·unfold Ao1 at sh ⊢;rw[eb,eM];cases hx:P1.box with
  |none=>
   rw[hx]at sh;exact⟨sh.nx,sh.no,by have:=sh.bd;omega⟩
  |some b=>
   rw[hx]at sh;obtain⟨dv,s⟩:=sh;obtain⟨s1,s2⟩:=s.s.writes kr0 ws D.ok D.wr;obtain⟨b1,b2,b3,b4,b5,b6⟩:=VI ws b;refine⟨dv,s1,b3.trans s.mv,b4.trans s.pr,b5.trans s.cl,by rw[b1];exact s.n0,by rw[b1,b2];exact s.nx,?_⟩;dsimp only;rw[b1,b2];have:=s.bd;omega
 ·rw[NC,Agg D.out.2,List.append_nil,ha];unfold RY;rw[eb];cases hx:P1.box with
  |none=>rfl
  |some b=>
   obtain⟨b1,b2,b3,b4,b5,b6⟩:=VI ws b;show _=GC f::(if(ws.foldl DI b).under then [G0 (ws.foldl DI b).n (ws.foldl DI b).load]else []);rw[b1,b2,b6]
 ·have:=D.out.1;rw[List.length_append];omega
theorem Ae0 (P:PS):(P.Fa.c.id=P.c.id/\P.Fa.c.CZ=P.c.CZ/\P.Fa.c.move=P.c.move/\P.Fa.c.Ao=P.c.Ao/\P.Fa.c.Au=P.c.Au)/\P.Fa.Ac=P.Ac/\P.Fa.writes=P.writes/\P.Fa.held=P.held/\P.Fa.wait=P.wait/\P.Fa.M=P.M:=by
 unfold PS.Fa;split
 ·exact⟨⟨rfl,rfl,rfl,rfl,rfl⟩,rfl,rfl,rfl,rfl,rfl⟩
 ·split
  ·exact⟨⟨rfl,rfl,rfl,rfl,rfl⟩,rfl,rfl,rfl,rfl,rfl⟩
  ·split
   ·exact⟨⟨rfl,rfl,rfl,rfl,rfl⟩,rfl,rfl,rfl,rfl,rfl⟩
   ·split<;>exact⟨⟨rfl,rfl,rfl,rfl,rfl⟩,rfl,rfl,rfl,rfl,rfl⟩
theorem AdF {f:Bool}{R:PS}{nx:Int}{Q:List PM}{s:Nat}(hM:AU P.M)(hid:P.c.id=1)(hbt:P.c.Au=1)(hi:i<=20)(id:Idl P)(ml:P.M.length<=44+4*i)(ho:P.out=[]){b:PB}(hb:P.box=some b)(hu:b.under=false)(S:ShB P.M P2.M nx b true f (49+8*i))(hQ:act Q=[])(hs:s+2*IX P.M b+1<=499)(hRb:R.box=P.Fa.box)(hRM:R.M=P.M)(hRc:R.c.frozen=P.Fa.c.frozen)(hRh:R.held=[])(hRw:R.wait=[]){o:List PM}(hoo:o=P.Fa.out\/(f=false/\P.Fa=P/\o.length<=1/\∀x∈o,x.dst=0))(hdn:∀x∈o,x.kind=14->dn2):Aoz f i R P2 nx (act (Q++o)) (s+o.length) dn2:=by
 rcases AcW hM ho hid hbt id.held id.wait hb hu S with⟨b2,e,u2,n2,Ao0,m2⟩|⟨hf,⟨c,x,e,c1,c2,c3,c4,c5,hx,hd⟩,he⟩|⟨hf,e⟩
 ·rw[e]at hRb hRc hoo;have hoo:o=[G0 b2.n b2.load]:=by
   rcases hoo with h|⟨_,h,_⟩
   ·exact h
   ·exfalso;have h:=congrArg PS.out h;rw[ho]at h;cases h
  rw[hoo];have hl1:act [G0 b2.n b2.load]=[G0 b2.n b2.load]:=rfl;rw[NC,hQ,hl1];refine .t hi ⟨hRh,hRw,hRc.trans id.fz⟩ (by rw[hRM];exact ml) b2 hRb false (by rw[hRM];exact Ao0) (.inr (.inl ⟨u2,rfl,?_⟩));rw[List.length_singleton,hRM];omega
 ·rw[e]at hRb hoo;have hoo:o=[x]:=by
   rcases hoo with h|⟨h,_⟩
   ·exact h
   ·rw[hf]at h;cases h
  rw[hoo]at hdn ⊢;have hl1:act [x]=[]:=Agg (by simpa using hd);rw[NC,hQ,hl1];refine .z hf hRb rfl ?_ (by rw[hRM];exact he) (hdn x (by simp) hx);rw[List.length_singleton];omega
 ·rw[e]at hRb hRc;have hoo:o.length<=1/\∀x∈o,x.dst=0:=by
   rcases hoo with h|h
   ·rw[h,e,ho];simp
   ·exact h.2.2
  rw[NC,hQ,Agg hoo.2];exact .t hi ⟨hRh,hRw,hRc.trans id.fz⟩ (by rw[hRM];exact ml) b (hRb.trans hb) true (by rw[hRM];exact S) (.inl ⟨rfl,by omega,hf⟩)
open Go Go.Sx
theorem AgU {n:Int}(h0:0<=n)(h1:n<=1000):Zg n=n+1:=by
 have:=B1 (n:=(n+1).toNat) (by omega);rw[Int.toNat_of_nonneg (by omega)]at this;exact this
theorem Aje (g1:Aot P1)(fz:P1.c.frozen=0)(f:Bool):P1.clear.Lr (GC f)=P1.clear.QC (GC f):=by
 have h1:P1.clear.P9 (GC f)=true:=by
  show(!(((7:Int) !=P1.c.CZ)||(((7:Int)==0)||(((7:Int) !=P1.c.move)||(((2:Int)==P1.c.id)||!Afm P1.Ac P1.c.id cK mK)))))=true;rw[g1.CZ,g1.move,g1.id,g1.ow]
  kernel_rfl
 unfold PS.Lr;rw[h1,if_pos rfl];have h2:(P1.clear.c.frozen==(GC f).move)=false:=by
  show(P1.c.frozen==7)=false;rw[fz];rfl
 rw[h2,if_neg (by simp)]
variable {B:Nat}
theorem Aj6 {nx:Int}(sh:Ao1 P1 P2 nx B)(f:Bool):∃b dv,(P1.clear.boxed (GC f)).closing f={P1.clear with box:=some b}/\ShB P1.M P2.M nx b dv f B/\RY P1=(if b.under then [G0 b.n b.load]else []):=by
 unfold Ao1 at sh;unfold RY;cases hx:P1.box with
 |none=>
  rw[hx]at sh;refine⟨⟨7,0,cK,mK,2,f,false,false,cK,[],[]⟩,true,?_,⟨Hs.opened kr0 sh.no 7 2 f,rfl,rfl,rfl,Int.le_refl _,sh.nx,?_⟩,rfl⟩
  ·unfold PS.boxed PS.closing;rw[show P1.clear.box=none from hx];cases f<;>rfl
  ·have h1:(Hg P1.M ⟨7,0,cK,mK,2,f,false,false,cK,[],[]⟩).length<=P1.M.length:=by unfold Hg;exact List.length_filter_le _ _
   have h2:=sh.bd;unfold IX;simp only[Bool.false_eq_true,if_false,List.length_nil];omega
 |some b=>
  rw[hx]at sh;obtain⟨dv,s⟩:=sh;refine⟨{b with B9:=f},dv,?_,⟨s.s.close f,s.mv,s.pr,rfl,s.n0,s.nx,s.bd⟩,rfl⟩;unfold PS.boxed PS.closing;rw[show P1.clear.box=some b from hx];dsimp only;rw[show P1.clear.box=some b from hx];dsimp only;rw[s.cl,Bool.false_or]
theorem AaM {nx:Int}{b:PB}{f:Bool}(s:ShB M1 M2 nx b dv f (49+8*i))(hi:i<=20):IX M1 b<=209/\b.n<=209:=by
 have h1:=s.bd;have h2:=s.n0;split at h1<;>omega
theorem Aml {f:Bool}{nx:Int}{Q:List PM}{n:Nat}(g1:Aot P1)(hi:i<=20)(id:Idl P1)(sh:Ao1 P1 P2 nx (49+8*i))(ml:P1.M.length<=44+4*i)(ha:act Q=RY P1)(hs:n+(Q.length+1)<=7)(hdn:∀x∈(P1.CA (GC f)).out,x.kind=14->dn2):
  AfG P1 (GC f)/\Aot (EA P1 (GC f))/\Aoz f i (EA P1 (GC f)) P2 nx (act (Q++(P1.CA (GC f)).out)) (n+1+(Q++(P1.CA (GC f)).out).length) dn2:=by
 have hb:P1.OU (GC f)=false:=Afc (Am3 f) g1.id.symm rfl;have hm:ZM (GC f):=AfA AeP AeP Ajb AeP Ajb AeP;obtain⟨q1,q2,q3⟩:=g1.x.taken hm hb;have e:P1.CA (GC f)=P1.clear.QC (GC f):=Aje g1 id.fz f;obtain⟨b,dv,eb,S,ec⟩:=Aj6 sh f;obtain⟨me,mn⟩:=AaM S hi;have e2:P1.CA (GC f)=if(({P1.clear with box:=some b}:PS).Fa).SY then(({P1.clear with box:=some b}:PS).Fa).send {PM.zero with kind:=13,move:=7}else({P1.clear with box:=some b}:PS).Fa:=by
  rw[e,<-eb];rfl
 obtain⟨⟨s1,s2,s3,s4,s5⟩,s6,s7,s8,s9,s10⟩:=Ae0 ({P1.clear with box:=some b}:PS);rw[List.length_append];have facts:∀{R:PS},P1.CA (GC f)=R->R.c.id=P1.c.id->R.c.CZ=P1.c.CZ->R.c.move=P1.c.move->R.c.Ao=P1.c.Ao->R.c.Au=P1.c.Au->R.Ac=P1.Ac->R.writes=[]->AfG P1 (GC f)/\Aot (EA P1 (GC f))/\(EA P1 (GC f)).M=P1.M:=λ{R} h h1 h2 h3 h4 h5 h6 h7=>by
  subst h;exact⟨⟨hb,hm,rfl⟩,Adv g1 q1 (by rw[h7];have:=g1.ml;simpa using this) h1 h2 h3 h4 h5 h6,AfE h7⟩
 cases hu:b.under with
 |true=>
  have es:({P1.clear with box:=some b}:PS).Fa={P1.clear with box:=some b}:=by
   unfold PS.Fa;dsimp only;rw[hu,if_pos rfl]
  have ecp:({P1.clear with box:=some b}:PS).SY=false:=by
   unfold PS.SY;dsimp only;rw[hu,Bool.not_true,Bool.and_false]
  rw[es,ecp,if_neg (by simp)]at e2;obtain⟨f1,f2,f3⟩:=facts e2 rfl rfl rfl rfl rfl rfl rfl;refine⟨f1,f2,?_⟩;have eo:(P1.CA (GC f)).out=[]:=by rw[e2];rfl
  rw[eo,List.append_nil,ha,ec,hu,if_pos rfl,List.length_nil];refine .t hi ⟨?_,?_,?_⟩ (by rw[f3];exact ml) b (by show(P1.CA (GC f)).box=_;rw[e2]) dv (by rw[f3];exact S) (.inr (.inl ⟨hu,rfl,by rw[f3];omega⟩))
  ·show(P1.CA (GC f)).held=[];rw[e2];exact id.held
  ·show(P1.CA (GC f)).wait=[];rw[e2];exact id.wait
  ·show(P1.CA (GC f)).c.frozen=0;rw[e2];exact id.fz
 |false=>
  have hdv:=S.s.un hu;subst hdv;rw[hu,if_neg (by simp)]at ec;have hQ:act Q=[]:=ha.trans ec;have id2:Idl ({P1.clear with box:=some b}:PS):=⟨id.held,id.wait,id.fz⟩;have hbx:({P1.clear with box:=some b}:PS).box=some b:=rfl;have hout:({P1.clear with box:=some b}:PS).out=[]:=rfl;have hMM:({P1.clear with box:=some b}:PS).M=P1.M:=rfl;have cs:=AcW (P:={P1.clear with box:=some b}) g1.x.j.ok.mp rfl g1.id g1.Au id.held id.wait rfl hu S;generalize hP:({P1.clear with box:=some b}:PS)=P at *;have hid:P.c.id=1:=by rw[<-hP];exact g1.id
  have hbt:P.c.Au=1:=by rw[<-hP];exact g1.Au
  have cs2:(f=false/\P.Fa=P/\P1.CA (GC f)=P.send {PM.zero with kind:=13,move:=7})\/P1.CA (GC f)=P.Fa:=by
   rcases cs with⟨b2,e3,u2,_⟩|⟨hf,⟨c,x,e3,_⟩,_⟩|⟨hf,e3⟩
   ·right;rw[e2];have:P.Fa.SY=false:=by
     rw[e3];unfold PS.SY;dsimp only;rw[u2,Bool.not_true,Bool.and_false]
    rw[this,if_neg (by simp)]
   ·right;rw[e2];have:P.Fa.SY=false:=by
     rw[e3];rfl
    rw[this,if_neg (by simp)]
   ·left;refine⟨hf,e3,?_⟩;rw[e2,e3];have:P.SY=true:=by
     unfold PS.SY;rw[hbx];dsimp only;rw[hu,S.cl,hf];rfl
    rw[this,if_pos rfl]
  have c1:P.c.CZ=P1.c.CZ/\P.c.move=P1.c.move/\P.c.Ao=P1.c.Ao/\P.Ac=P1.Ac/\P.writes=[]:=by rw[<-hP];exact⟨rfl,rfl,rfl,rfl,rfl⟩
  obtain⟨c1,c2,c3,c4,c5⟩:=c1;rcases cs2 with⟨hf,es,et⟩|et
  ·obtain⟨f1,f2,f3⟩:=facts et (hid.trans g1.id.symm) c1 c2 c3 (hbt.trans g1.Au.symm) c4 c5;refine⟨f1,f2,?_⟩
   have:=AdF (P:=P) (R:=EA P1 (GC f)) (P2:=P2) (nx:=nx) (Q:=Q) (s:=n+1+Q.length) (dn2:=dn2) (o:=(P1.CA (GC f)).out) (by rw[hMM];exact g1.x.j.ok.mp) hid hbt hi id2 (by rw[hMM];exact ml) hout hbx hu (by rw[hMM];exact S) hQ (by rw[hMM];omega)
    (by show(P1.CA (GC f)).box=_;rw[et,es];rfl) (f3.trans hMM.symm) (by show(P1.CA (GC f)).c.frozen=_;rw[et,es];rfl) (by show(P1.CA (GC f)).held=_;rw[et];exact id2.held) (by show(P1.CA (GC f)).wait=_;rw[et];exact id2.wait) (.inr ⟨hf,es,by rw[et];show(P.out++[_]).length<=1;rw[hout];simp,λx hx=>by
     rw[et]at hx;have hx:x∈P.out++[_]:=hx;rw[hout,List.nil_append,List.mem_singleton]at hx;rw[hx];rfl⟩) hdn
   rwa [show n+1+(Q.length+(P1.CA (GC f)).out.length)=n+1+Q.length+(P1.CA (GC f)).out.length from by omega]
  ·obtain⟨f1,f2,f3⟩:=facts et (s1.trans (hid.trans g1.id.symm)) (s2.trans c1) (s3.trans c2) (s4.trans c3) (s5.trans (hbt.trans g1.Au.symm)) (s6.trans c4) (s7.trans c5);refine⟨f1,f2,?_⟩
   have:=AdF (P:=P) (R:=EA P1 (GC f)) (P2:=P2) (nx:=nx) (Q:=Q) (s:=n+1+Q.length) (dn2:=dn2) (o:=(P1.CA (GC f)).out) (by rw[hMM];exact g1.x.j.ok.mp) hid hbt hi id2 (by rw[hMM];exact ml) hout hbx hu (by rw[hMM];exact S) hQ (by rw[hMM];omega)
    (by show(P1.CA (GC f)).box=_;rw[et]) (f3.trans hMM.symm) (by show(P1.CA (GC f)).c.frozen=_;rw[et]) (by show(P1.CA (GC f)).held=_;rw[et];exact s8.trans id2.held) (by show(P1.CA (GC f)).wait=_;rw[et];exact s9.trans id2.wait) (.inl (by rw[et])) hdn
   rwa [show n+1+(Q.length+(P1.CA (GC f)).out.length)=n+1+Q.length+(P1.CA (GC f)).out.length from by omega]
theorem Am0 {f:Bool}{nx:Int}{Q:List PM}{n:Nat}(g1:Aot P1)(hi:i<=20)(id:Idl P1)(ml:P1.M.length<=44+4*i){b:PB}(hb:P1.box=some b)(S:ShB P1.M P2.M nx b true f (49+8*i))(hu:b.under=true)(hQ:act Q=[])(hs:n+(Q.length+1)+2*IX P1.M b+1<=499)(hdn:∀x∈(P1.CA (JJ b.n)).out,x.kind=14->dn2):
  AfG P1 (JJ b.n)/\Aot (EA P1 (JJ b.n))/\Aoz f i (EA P1 (JJ b.n)) P2 nx (act (Q++(P1.CA (JJ b.n)).out)) (n+1+(Q++(P1.CA (JJ b.n)).out).length) dn2:=by
 have hbd:P1.OU (JJ b.n)=false:=Afc (Amb _) g1.id.symm rfl;have hm:ZM (JJ b.n):=AfA AeP AeP AeP AeP Ajb AiY;obtain⟨q1,q2,q3⟩:=g1.x.taken hm hbd;obtain⟨me,mn⟩:=AaM S hi;have hn0:=S.n0;have hnx:=S.nx;have hbnd:=S.bd;rw[hu]at hnx hbnd;have e:P1.CA (JJ b.n)=({P1.clear with box:=some {b with under:=false,n:=b.n+1}}:PS).Fa:=by
  show P1.clear.KB (JJ b.n)=_;unfold PS.KB;rw[show P1.clear.box=some b from hb];dsimp only;have h1:P1.clear.Qf b (JJ b.n)=true:=by
   show(!((b.move !=7)||((b.peer !=2)||(((1:Int) !=P1.c.Au)||(!b.under||(b.n !=b.n))))))=true;rw[S.mv,S.pr,g1.Au,hu];simp
  rw[h1,if_pos rfl,AgU hn0 (by omega)]
 have Ao0:ShB P1.M P2.M nx {b with under:=false,n:=b.n+1} true f (49+8*i):=by
  refine⟨S.s.told (by omega),S.mv,S.pr,S.cl,by show 0<=b.n+1;omega,?_,?_⟩
  ·show nx=b.n+1+_;rw[hnx];simp
  ·show b.n+1+(IX P1.M b:Int)+_<=_;simp only[if_true,Bool.false_eq_true,if_false]at hbnd ⊢;omega
 obtain⟨⟨s1,s2,s3,s4,s5⟩,s6,s7,s8,s9,s10⟩:=Ae0 ({P1.clear with box:=some {b with under:=false,n:=b.n+1}}:PS);have wn:(P1.CA (JJ b.n)).writes=[]:=by rw[e];exact s7
 have eM:=AfE wn;refine⟨⟨hbd,hm,rfl⟩,Adv g1 q1 (by rw[wn];have:=g1.ml;simpa using this) (by rw[e];exact s1) (by rw[e];exact s2) (by rw[e];exact s3) (by rw[e];exact s4) (by rw[e];exact s5) (by rw[e];exact s6),?_⟩
 have:=AdF (P:={P1.clear with box:=some {b with under:=false,n:=b.n+1}}) (R:=EA P1 (JJ b.n)) (P2:=P2) (nx:=nx) (Q:=Q) (s:=n+1+Q.length) (dn2:=dn2) (o:=(P1.CA (JJ b.n)).out) g1.x.j.ok.mp g1.id g1.Au hi ⟨id.held,id.wait,id.fz⟩ ml rfl rfl rfl Ao0 hQ (by show n+1+Q.length+2*IX P1.M b+1<=499;omega)
  (by show(P1.CA (JJ b.n)).box=_;rw[e]) eM (by show(P1.CA (JJ b.n)).c.frozen=_;rw[e]) (by show(P1.CA (JJ b.n)).held=_;rw[e];exact s8.trans id.held) (by show(P1.CA (JJ b.n)).wait=_;rw[e];exact s9.trans id.wait) (.inl (by rw[e])) hdn
 rwa [List.length_append,show n+1+(Q.length+(P1.CA (JJ b.n)).out.length)=n+1+Q.length+(P1.CA (JJ b.n)).out.length from by omega]
open Go Go.Sx
theorem AjR {nx:Int}(g2:Aou P2 nx){n:Int}{ops:List Op}(ho:∀o∈ops,AfR cK mK o)(h0:0<=n)(h1:n<=nx):
  ∃c,P2.clear.NW (G0 n ops)={P2.clear with c:=c,writes:=if n=nx then ops else [],out:=[JJ n]}/\c.id=2/\c.move=7/\c.AJ=7/\c.CD=1/\c.Bo=(if n=nx then nx+1 else nx)/\c.Ph=cK/\c.Qq=mK:=by
 have hm:P2.clear.PA (G0 n ops)=true:=by
  have hx:ops.any (AfS cK mK)=false:=by
   rw[List.any_eq_false];intro o hx;rw[(ho o hx).inn];simp
  show(!(((7:Int)==0)||(((7:Int) !=P2.c.move)||((B0 P2.c.id P2.Ac true).any (λr=>Bw r.lo r.hi cK mK)||ops.any (AfS cK mK)))))=true;rw[g2.move,g2.id,g2.ow,hx]
  kernel_rfl
 have nn:=g2.nn;have e:P2.clear.NW (G0 n ops)=if P2.clear.PA (G0 n ops)then(if P2.clear.RJ (G0 n ops)&&(n !=0)then P2.clear else if(P2.clear.opens (G0 n ops)).odd (G0 n ops)then P2.clear.opens (G0 n ops)else((P2.clear.opens (G0 n ops)).enters (G0 n ops)).send (PS.Xh (G0 n ops)))else P2.clear:=rfl;rw[e,hm,if_pos rfl];have en:P2.clear.RJ (G0 n ops)=(((7:Int) !=P2.c.AJ)||decide ((1:Int)>P2.c.CD)):=rfl;obtain⟨c,hc,c1,c2,c3,c4,c5,c6,c7,hz⟩:∃c,P2.clear.opens (G0 n ops)={P2.clear with c:=c}/\c.id=2/\c.move=7/\c.AJ=7/\c.CD=1/\c.Bo=nx/\c.Ph=cK/\c.Qq=mK/\(P2.clear.RJ (G0 n ops)&&(n !=0))=false:=by
  rcases g2.inb with⟨i1,i2⟩|⟨i1,i2,i3,i4,i5⟩
  ·have hn:P2.clear.RJ (G0 n ops)=true:=by rw[en,i1];rfl
   have hn0:n=0:=by omega
   refine⟨{P2.clear.c with AJ:=7,CD:=1,Bo:=0,Ph:=cK,Qq:=mK},?_,g2.id,g2.move,rfl,rfl,i2.symm,rfl,rfl,?_⟩
   ·unfold PS.opens;rw[hn,if_pos rfl];rfl
   ·rw[hn0];rw[hn0]at hn;rw[hn];rfl
  ·have hn:P2.clear.RJ (G0 n ops)=false:=by rw[en,i1,i2];rfl
   refine⟨P2.clear.c,?_,g2.id,g2.move,i1,i2,i3,i4,i5,by rw[hn];rfl⟩;unfold PS.opens;rw[hn,if_neg (by simp)]
 rw[hz,if_neg (by simp),hc];have ho2:({P2.clear with c:=c}:PS).odd (G0 n ops)=false:=by
  show(decide ((1:Int)<c.CD)||(decide (n>c.Bo)||!(seq cK c.Ph&&(seq mK c.Qq&&true))))=false;rw[c4,c5,c6,c7,decide_eq_false (show ¬n>nx by omega),Ki,Ki];rfl
 rw[ho2,if_neg (by simp)];have ee:({P2.clear with c:=c}:PS).enters (G0 n ops)=if n==c.Bo then {P2.clear with c:={c with Bo:=Zg c.Bo},writes:=[]++ops}else {P2.clear with c:=c}:=rfl;rw[ee,c5];by_cases hx:n=nx
 ·rw[if_pos (by simpa using hx),if_pos hx,if_pos hx];refine⟨{c with Bo:=Zg nx},?_,c1,c2,c3,c4,AgU nn.1 nn.2,c6,c7⟩;show {P2.clear with c:={c with Bo:=Zg nx},writes:=[]++ops,out:=[]++[{PM.zero with kind:=12,dst:=1,move:=7,attempt:=1,n:=n,src:=c.id}]}=_;rw[c1];rfl
 ·rw[if_neg (by simpa using hx),if_neg hx,if_neg hx];refine⟨c,?_,c1,c2,c3,c4,c5,c6,c7⟩;show {P2.clear with c:=c,out:=[]++[{PM.zero with kind:=12,dst:=1,move:=7,attempt:=1,n:=n,src:=c.id}]}=_;rw[c1];rfl
theorem Amp {nx:Int}{b:PB}{f:Bool}(g2:Aou P2 nx)(hi:i<=20)(S:ShB M1 P2.M nx b dv f (49+8*i))(hu:b.under=true):
  AfG P2 (G0 b.n b.load)/\(P2.CA (G0 b.n b.load)).out=[JJ b.n]/\∃nx2,Aou (EA P2 (G0 b.n b.load)) nx2/\ShB M1 (EA P2 (G0 b.n b.load)).M nx2 b true f (49+8*i):=by
 obtain⟨me,mn⟩:=AaM S hi;have n0:=S.n0;have hnx:=S.nx;rw[hu,Bool.true_and]at hnx;have hle:b.n<=nx:=by split at hnx<;>omega
 have hbd:P2.OU (G0 b.n b.load)=false:=Afc (Amf S.s.l6 S.s.load) g2.id.symm rfl;have hm:ZM (G0 b.n b.load):=AfA AeP AeP AeP AeP Ajb AiY;obtain⟨q1,q2,q3⟩:=g2.x.taken hm hbd;obtain⟨c,e,c1,c2,c3,c4,c5,c6,c7⟩:=AjR g2 S.s.load n0 hle;have e:P2.CA (G0 b.n b.load)={P2.clear with c:=c,writes:=if b.n=nx then b.load else [],out:=[JJ b.n]}:=e;have g2n:=g2.nn;have g2m:=g2.ml;have l6:=S.s.l6;have hl:=He P2.M (P2.CA (G0 b.n b.load)).writes;refine⟨⟨hbd,hm,rfl⟩,by rw[e],?_⟩;have gid:(EA P2 (G0 b.n b.load)).c.id=2:=by show(P2.CA _).c.id=2;rw[e];exact c1
 have gmv:(EA P2 (G0 b.n b.load)).c.move=7:=by show(P2.CA _).c.move=7;rw[e];exact c2
 have gow:(EA P2 (G0 b.n b.load)).Ac=Aaa:=by show(P2.CA _).Ac=Aaa;rw[e];exact g2.ow
 have gin:(EA P2 (G0 b.n b.load)).c.AJ=7/\(EA P2 (G0 b.n b.load)).c.CD=1/\(EA P2 (G0 b.n b.load)).c.Bo=(if b.n=nx then nx+1 else nx)/\(EA P2 (G0 b.n b.load)).c.Ph=cK/\(EA P2 (G0 b.n b.load)).c.Qq=mK:=by
  show(P2.CA _).c.AJ=7/\(P2.CA _).c.CD=1/\(P2.CA _).c.Bo=_/\(P2.CA _).c.Ph=cK/\(P2.CA _).c.Qq=mK;rw[e];exact⟨c3,c4,c5,c6,c7⟩
 have gbx:(EA P2 (G0 b.n b.load)).box=none:=by show(P2.CA _).box=none;rw[e];exact g2.bx
 have gx:PX (EA P2 (G0 b.n b.load)):=g2.x.step q1 (by
  have hx:(P2.CA (G0 b.n b.load)).writes.length<=6:=by
   rw[e];dsimp only;split
   ·exact l6
   ·exact Nat.zero_le _
  omega)
 have eM:(EA P2 (G0 b.n b.load)).M=(Bd P2.M (if b.n=nx then b.load else [])).1:=by show(Bd P2.M (P2.CA _).writes).1=_;rw[e]
 cases dv with
 |false=>
  simp only[Bool.false_eq_true,if_false]at hnx;have hx:b.n=nx:=by omega
  rw[if_pos hx]at eM gin;have hl2:(Bd P2.M b.load).1.length<=P2.M.length+b.load.length:=(He _ _).1;refine⟨nx+1,⟨gx,gid,gmv,gow,.inr gin,by rw[eM];omega,by omega,gbx⟩,?_⟩;rw[eM];exact⟨S.s.AmV,S.mv,S.pr,S.cl,n0,by rw[hu,<-hx];rfl,S.bd⟩
 |true=>
  rw[if_pos rfl]at hnx;have hx:¬b.n=nx:=by omega
  rw[if_neg hx]at eM gin;have eM:(EA P2 (G0 b.n b.load)).M=P2.M:=eM;refine⟨nx,⟨gx,gid,gmv,gow,.inr gin,by rw[eM];exact g2m,g2n,gbx⟩,?_⟩;rw[eM];exact S
theorem AhH {nx:Int}(sh:Ao1 P1 P2 nx B):AM P1 B:=λb hb=>by
 unfold Ao1 at sh;rw[hb]at sh;obtain⟨dv,s⟩:=sh;have h1:=s.bd;have h2:=s.n0;have h3:b.row.length<=IX P1.M b:=by unfold IX;omega
 split at h1<;>omega
theorem AkH {f:Bool}{Q:List PM}{n:Nat}{fz:Bool}(h:Inv f i P1 P2 Q n fz):AM P1 90000:=by
 obtain⟨nx,_,_,p⟩:=h;intro b hb;cases p with
 |w ops hf ho h4 h0 hi id sh ml ha hs=>have:=AhH sh b hb;omega
 |d hf hi one fz sh ml ha hs=>have:=AhH sh b hb;omega
 |c hi id sh ml ha hs=>have:=AhH sh b hb;omega
 |t hi id ml b2 hb2 dv sh ha=>
  rw[hb2]at hb;injection hb with hb;subst hb;have h1:=(AaM sh hi).1;have h3:b2.row.length<=IX P1.M b2:=by unfold IX;omega
  omega
 |z hf hb2 ha hs eq hd=>rw[hb2]at hb;cases hb
theorem inv_one {f:Bool}{Q:List PM}{n:Nat}{fz:Bool}(h:Inv f i P1 P2 (m::Q) n fz)(hm:m.dst=1):AfG P1 m/\Inv f i (EA P1 m) P2 (Q++(P1.CA m).out) (n+1) (fz||m.kind==14):=by
 obtain⟨nx,g1,g2,p⟩:=h;rw[Aaz,Anq hm,if_pos rfl,List.length_cons]at p;have dn:∀x∈(P1.CA m).out,x.kind=14->((fz||m.kind==14)=true\/∃x∈Q++(P1.CA m).out,x.kind=14):=λx hx hk=>.inr ⟨x,List.mem_append.2 (.inr hx),hk⟩;cases p with
 |w ops hf ho h4 h0 hi id sh ml ha hs=>
  injection ha with ha1 ha;subst ha1;obtain⟨s,g,p⟩:=Amq (dn:=True) (dn2:=(fz||(K0 (i+1) ops).kind==14)=true\/∃x∈Q++(P1.CA (K0 (i+1) ops)).out,x.kind=14) g1 hf ho h4 h0 hi id sh ml ha hs;exact⟨s,nx,g,g2,p⟩
 |d hf hi one fz0 sh ml ha hs=>
  injection ha with ha1 ha;subst ha1;obtain⟨s,g,p⟩:=Amg (dn:=True) (dn2:=(fz||(YH (i+1)).kind==14)=true\/∃x∈Q++(P1.CA (YH (i+1))).out,x.kind=14) g1 hf hi one fz0 sh ml ha hs;exact⟨s,nx,g,g2,p⟩
 |c hi id sh ml ha hs=>
  injection ha with ha1 ha;subst ha1;obtain⟨s,g,p⟩:=Aml g1 hi id sh ml ha hs dn;exact⟨s,nx,g,g2,p⟩
 |t hi id ml b hb dv sh ha=>
  rcases ha with⟨ha,_⟩|⟨_,ha,_⟩|⟨hu,hdv,ha,hs⟩
  ·cases ha
  ·injection ha with ha1 _;subst ha1;cases hm
  ·injection ha with ha1 ha;subst ha1;subst hdv;obtain⟨s,g,p⟩:=Am0 g1 hi id ml hb sh hu ha hs dn;exact⟨s,nx,g,g2,p⟩
 |z hf hb ha hs eq hd=>cases ha
theorem Ald {f:Bool}{Q:List PM}{n:Nat}{fz:Bool}(h:Inv f i P1 P2 (m::Q) n fz)(hm:m.dst=2):AfG P2 m/\Inv f i P1 (EA P2 m) (Q++(P2.CA m).out) (n+1) (fz||m.kind==14):=by
 obtain⟨nx,g1,g2,p⟩:=h;rw[Aaz,Ans hm,if_pos rfl,List.length_cons]at p;have no:∀{x:PM} {l:List PM},m::act Q=x::l->x.dst≠2->False:=λe h1=>by
  injection e with e _;rw[e]at hm;exact h1 hm
 cases p with
 |w ops hf ho h4 h0 hi id sh ml ha hs=>exact(no ha (by show(1:Int)≠2;decide)).elim
 |d hf hi one fz sh ml ha hs=>exact(no ha (by show(1:Int)≠2;decide)).elim
 |c hi id sh ml ha hs=>exact(no ha (by show(1:Int)≠2;decide)).elim
 |t hi id ml b hb dv sh ha=>
  rcases ha with⟨ha,_⟩|⟨hu,ha,hs⟩|⟨hu,hdv,ha,hs⟩
  ·cases ha
  ·injection ha with ha1 ha;subst ha1;obtain⟨s,eo,nx2,g,S⟩:=Amp g2 hi sh hu;refine⟨s,nx2,g1,g,?_⟩;have ea:act [JJ b.n]=[JJ b.n]:=rfl;rw[eo,NC,ha,ea,List.length_append,List.length_singleton];exact .t hi id ml b hb true S (.inr (.inr ⟨hu,rfl,rfl,by omega⟩))
  ·exact(no ha (by show(1:Int)≠2;decide)).elim
 |z hf hb ha hs eq hd=>cases ha
def Rnd (i:Nat)(P1 P2:PS):Prop:=∃nx,Aot P1/\Aou P2 nx/\Idl P1/\Ao1 P1 P2 nx (41+8*i)/\P1.M.length<=40+4*i
theorem Ak2 {n:Nat}{fz:Bool}(h:Inv false i P1 P2 [] n fz):Rnd (i+1) P1 P2:=by
 obtain⟨nx,g1,g2,p⟩:=h;cases p with
 |w ops hf ho h4 h0 hi id sh ml ha hs=>cases ha
 |d hf hi one fz sh ml ha hs=>cases ha
 |c hi id sh ml ha hs=>cases ha
 |t hi id ml b hb dv sh ha=>
  refine⟨nx,g1,g2,id,?_,by omega⟩;unfold Ao1;rw[hb];exact⟨dv,by rw[show 41+8*(i+1)=49+8*i from by omega];exact sh⟩
 |z hf hb ha hs eq hd=>cases hf
theorem AkD {n:Nat}{fz:Bool}(h:Inv true i P1 P2 [] n fz):fz=true/\∀k,Kx k=true->YI cK mK k=true->Eqk k P2.M P1.M:=by
 obtain⟨nx,g1,g2,p⟩:=h;cases p with
 |w ops hf ho h4 h0 hi id sh ml ha hs=>cases ha
 |d hf hi one fz sh ml ha hs=>cases ha
 |c hi id sh ml ha hs=>cases ha
 |t hi id ml b hb dv sh ha=>
  rcases ha with⟨_,_,ha⟩|⟨_,ha,_⟩|⟨_,_,ha,_⟩<;>cases ha
 |z hf hb ha hs eq hd=>
  refine⟨?_,eq⟩;rcases hd with hd|⟨x,hx,_⟩
  ·exact hd
  ·cases hx
theorem Amu {nx:Int}{C:Nat}(sh:Ao1 P1 P2 nx B)(h:B<=C):Ao1 P1 P2 nx C:=by
 unfold Ao1 at sh ⊢;split at sh
 ·exact⟨sh.nx,sh.no,Nat.le_trans sh.bd h⟩
 ·obtain⟨dv,s⟩:=sh;exact⟨dv,s.s,s.mv,s.pr,s.cl,s.n0,s.nx,by have:=s.bd;omega⟩
theorem Aka (h:Rnd i P1 P2):P1.clear.CF.out=RY P1/\P1.clear.CF.clear=P1.clear/\Rnd i P1.clear P2/\RY P1.clear=RY P1:=by
 obtain⟨nx,g1,g2,id,sh,ml⟩:=h;have hs:P1.clear.asks (Dk (P1.clear.wait.map (·.Ah)++P1.clear.held.map (·.Ah)))=P1.clear:=by
  rw[show P1.clear.wait=[]from id.wait,show P1.clear.held=[]from id.held];rfl
 have hc:P1.clear.clear=P1.clear:=rfl;refine⟨?_,?_,⟨nx,⟨g1.x.clear,g1.id,g1.CZ,g1.move,g1.Ao,g1.Au,g1.ow,g1.ml⟩,g2,⟨id.held,id.wait,id.fz⟩,sh,ml⟩,rfl⟩
 ·unfold PS.CF;rw[hs];unfold PS.under RY PS.DV;rw[show P1.clear.box=P1.box from rfl];unfold Ao1 at sh;cases hx:P1.box with
  |none=>rfl
  |some b=>
   rw[hx]at sh;obtain⟨dv,s⟩:=sh;dsimp only;by_cases hu:b.under=true
   rotate_left
   ·rw[if_neg hu,if_neg hu];rfl
   ·rw[if_pos hu,if_pos hu];show [{PM.zero with kind:=11,dst:=b.peer,move:=b.move,attempt:=P1.c.Au,n:=b.n,FN:=b.lo,G6:=b.hi,ops:=b.load,src:=P1.c.id}]=_;rw[s.pr,s.mv,g1.Au,s.s.l0,s.s.h0,g1.id];rfl
 ·unfold PS.CF;rw[hs];split
  ·unfold PS.DV;split<;>rfl
  ·rfl
theorem Aey :act (RY P)=RY P/\(RY P).length<=1:=by
 unfold RY;split
 ·exact⟨rfl,Nat.zero_le _⟩
 ·split
  ·exact⟨rfl,by simp⟩
  ·exact⟨rfl,Nat.zero_le _⟩
theorem AjN (h:Rnd i P1 P2)(hi:i<20){ops:List Op}(ho:A9 ops=0)(h4:ops.length<=4)(h0:0<ops.length):Inv false i P1 P2 ([K0 (i+1) ops,YH (i+1)]++[GC false]++RY P1) 0 false:=by
 obtain⟨nx,g1,g2,id,sh,ml⟩:=h;obtain⟨c1,c2⟩:=Aey (P:=P1);refine⟨nx,g1,g2,.w ops rfl ho h4 h0 hi id sh ml ?_ (by simp;omega)⟩;rw[NC,c1];rfl
theorem AjU {f:Bool}(h:Rnd i P1 P2)(hi:i<=20):Inv f i P1 P2 ([]++[GC f]++RY P1) 0 false:=by
 obtain⟨nx,g1,g2,id,sh,ml⟩:=h;obtain⟨c1,c2⟩:=Aey (P:=P1);refine⟨nx,g1,g2,.c hi id (Amu sh (by omega)) (by omega) ?_ (by simp;omega)⟩;rw[NC,c1];rfl
theorem AgH (hr:Da lo hi=true){A B:List Pa}(hA:AU A)(hB:AU B)(h:∀k,Kx k=true->YI lo hi k=true->Eqk k A B):BM A lo hi (-1)=BM B lo hi (-1):=by
 have mem:∀(M:List Pa) (p:Pa),p∈BM M lo hi (-1)↔p∈M/\Kx p.k=true/\YI lo hi p.k=true:=by
  intro M p;unfold BM;rw[if_pos (by omega),List.mem_filter];unfold DP;rw[hr,Bool.true_and,Bool.and_eq_true];exact Iff.rfl
 have up:∀(M:List Pa),AU M->(BM M lo hi (-1)).Pairwise (λa b=>slt a.k b.k=true):=by
  intro M hM;unfold BM;rw[if_pos (by omega)];exact hM.up.sublist List.filter_sublist
 refine List.Perm.eq_of_pairwise (le:=λa b:Pa=>slt a.k b.k=true) ?_ (up A hA) (up B hB) ?_
 ·intro a b _ _ h1 h2;rw[Ct h1]at h2;cases h2
 ·have nd:∀{l:List Pa},l.Pairwise (λa b=>slt a.k b.k=true)->l.Nodup:=λh=>h.imp λhab e=>by rw[e,KF]at hab;cases hab
  refine(List.perm_ext_iff_of_nodup (nd (up A hA)) (nd (up B hB))).2 λp=>?_;rw[mem,mem];constructor
  ·rintro⟨h1,h2,h3⟩;exact⟨(h p.k h2 h3 p.v).1 h1,h2,h3⟩
  ·rintro⟨h1,h2,h3⟩;exact⟨(h p.k h2 h3 p.v).2 h1,h2,h3⟩
open Go Go.Sx
structure EvM (T T':Nat->Nat)(w w':World):Prop where
 kp:A4 (λb=>T b≠0/\T b≠20) w w'
 tg:∀b,b<w.heap.size->(T b=0\/T b=20)->T' b=T b
variable {w':World}
theorem evM {T':Nat->Nat}{w:World}(e:Aq T T' w w'):EvM T T' w w':=
 ⟨e.kp.mono λb hb=>.inl ⟨hb.1,by have:=hb.2;omega⟩,λb hb h=>e.tg b hb (by omega)⟩
theorem EvM.trans {T T' T'':Nat->Nat}{a b c:World}(h:EvM T T' a b)(k:EvM T' T'' b c):EvM T T'' a c:=
 ⟨h.kp.trans k.kp λx hx=>by
  rcases Nat.lt_or_ge x a.heap.size with h'|h'
  ·refine .inl ⟨λh0=>?_,λh0=>?_⟩
   ·have:=h.tg x h' (.inl h0);omega
   ·have:=h.tg x h' (.inr h0);omega
  ·exact .inr h',λx hx h0=>by
  have e:=h.tg x hx h0;rw[<-e];exact k.tg x (Nat.lt_of_lt_of_le hx h.kp.size) (by rw[e];exact h0)⟩
theorem EvM.k0 {T:Nat->Nat}{w w':World}(h:Aa [] w w'):EvM T T w w':=evM (Aq.k0 h)
theorem EvM.one {w:World}{b:Nat}(h:Aa [b] w w')(ht:T b≠0/\T b≠20):EvM T T w w':=
 ⟨h.FY λx hx=>.inl (by rw[List.mem_singleton.1 hx];exact ht),λ_ _ _=>rfl⟩
theorem Amz {T':Nat->Nat}{φ:World->Prop}{w:World}(h:Bq T φ w)(s:EvM T T' w w'):Bq T' φ w':=by
 have hs:=s.kp.size;refine⟨h.st w' hs λb hb ht=>s.kp.get b hb (by rw[ht];simp),λw'' hs'' hw=>h.st w'' (Nat.le_trans hs hs'') λb hb ht=>?_⟩;rw[hw b (Nat.lt_of_lt_of_le hb hs) ((s.tg b hb (.inl ht)).trans ht)];exact s.kp.get b hb (by rw[ht];simp)
structure Two (w:World)(m1 m2:Nat)(T1 T2:Nat->Nat)(X1 X2:Mc):Prop where
 a:A6 w m1 T1 X1
 b:A6 w m2 T2 X2
 f:∀x,T1 x≠0->T1 x≠20->T2 x=20
 g:∀x,T2 x≠0->T2 x≠20->T1 x=20
variable {m1 m2:Nat}{T1:Nat->Nat}{X1 X2:Mc}
theorem Two.symm {w:World}(h:Two w m1 m2 T1 T2 X1 X2):Two w m2 m1 T2 T1 X2 X1:=⟨h.b,h.a,h.g,h.f⟩
def swT (T1 T2:Nat->Nat):Nat->Nat:=λb=>if T1 b≠0/\T1 b≠20 then 20 else if T2 b=20/\T1 b=0 then 0 else T2 b
theorem Two.step {w:World}{T1':Nat->Nat}{X1':Mc}(h:Two w m1 m2 T1 T2 X1 X2)(g:A6 w' m1 T1' X1')(e:EvM T1 T1' w w'):Two w' m1 m2 T1' (swT T1' T2) X1' X2/\CH 20 T2 (swT T1' T2) w w'/\∀φ,Bq T1' φ w'->Bq (swT T1' T2) φ w':=by
 have old:∀b,b<w.heap.size->T2 b≠20->T1' b=T1 b/\(T1 b=0\/T1 b=20):=λb hb hn=>by
  have h1:T1 b=0\/T1 b=20:=by
   by_cases h0:T1 b=0
   ·exact .inl h0
   ·by_cases h2:T1 b=20
    ·exact .inr h2
    ·exact absurd (h.f b h0 h2) hn
  exact⟨e.tg b hb h1,h1⟩
 have s:CH 20 T2 (swT T1' T2) w w':=by
  refine⟨e.kp.mono λb hb=>.inl (h.f b hb.1 hb.2),λb hb hn=>?_⟩;obtain⟨h1,h2⟩:=old b hb hn;unfold swT;rw[if_neg (λh=>by omega),if_neg (λh=>hn h.1)]
 have AkX:∀b,T2 b≠0->T2 b≠20->T1' b=20:=λb h0 h2=>by
  have h1:=h.g b h0 h2;exact(e.tg b (h.a.r.bd b (by omega)) (.inr h1)).trans h1
 refine⟨⟨g,h.b.kk (by omega) s λb hb=>?_,λx h0 h2=>if_pos ⟨h0,h2⟩,λx h0 h2=>?_⟩,s,λφ hφ=>hφ.drop λb hb=>?_⟩
 ·unfold swT at hb;split at hb
  ·rename_i hc;exact g.r.bd b hc.1
  ·split at hb
   ·exact absurd rfl hb
   ·exact Nat.lt_of_lt_of_le (h.b.r.bd b hb) e.kp.size
 ·unfold swT at h0 h2;split at h0
  ·rename_i hc;rw[if_pos hc]at h2;exact absurd rfl h2
  ·rename_i hc;rw[if_neg hc]at h2;split at h0
   ·exact absurd rfl h0
   ·rename_i hc2;rw[if_neg hc2]at h2;exact AkX x h0 h2
 ·unfold swT;rw[if_neg (λh=>h.1 hb)];split
  ·rfl
  ·rename_i hc;by_cases h0:T2 b=0
   ·exact h0
   ·have:=AkX b h0 (λh2=>hc ⟨h2,hb⟩);omega
structure Aow (w0 w:World)(m1 m2 st1 st2:Nat)(T1 T2:Nat->Nat)(X1 X2:Mc)(q:Sl)(Q:List Mg)(Bs:List (Nat×Nat×Obj)):Prop where
 two:Two w m1 m2 T1 T2 X1 X2
 l1:Cp X1.p
 l2:Cp X2.p
 s1:X1.d.BD=st1/\st1∉rb X1.d.sM
 s2:X2.d.BD=st2/\st2∉rb X2.d.sM
 sq:Bh Yz w q Q
 qt:∀b∈Ai q,T1 b=20/\T2 b=20
 qD:∀x∈Q,Bq T1 (Su x) w/\Bq T2 (Su x) w
 bs:∀p∈Bs,w.heap[p.1]?=some p.2.2/\p.1∉Ai q/\(T1 p.1=p.2.1/\T2 p.1=p.2.1)/\(p.2.1=0\/p.2.1=20)
 hT:∀b,T1 b≠0\/T2 b≠0->w0.heap.size<=b
 kp:Aa [] w0 w
theorem Aow.symm {w0 w:World}{m1 m2 st1 st2:Nat}{T1 T2:Nat->Nat}{X1 X2:Mc}{q:Sl}{Q:List Mg}{Bs:List (Nat×Nat×Obj)}(h:Aow w0 w m1 m2 st1 st2 T1 T2 X1 X2 q Q Bs):Aow w0 w m2 m1 st2 st1 T2 T1 X2 X1 q Q Bs:=
 ⟨h.two.symm,h.l2,h.l1,h.s2,h.s1,h.sq,λb hb=>(h.qt b hb).symm,λx hx=>(h.qD x hx).symm,λp hp=>⟨(h.bs p hp).1,(h.bs p hp).2.1,(h.bs p hp).2.2.1.symm,(h.bs p hp).2.2.2⟩,λb hb=>h.hT b hb.symm,h.kp⟩
theorem Aow.Ab {w0 w w':World}{m1 m2 st1 st2:Nat}{T1 T2:Nat->Nat}{X1 X2:Mc}{q:Sl}{Q:List Mg}{Bs:List (Nat×Nat×Obj)}(h:Aow w0 w m1 m2 st1 st2 T1 T2 X1 X2 q Q Bs)(k:Aa [] w w'):Aow w0 w' m1 m2 st1 st2 T1 T2 X1 X2 q Q Bs:=
 ⟨⟨h.two.a.Ab k,h.two.b.Ab k,h.two.f,h.two.g⟩,h.l1,h.l2,h.s1,h.s2,h.sq.Ab k,h.qt,λx hx=>⟨(h.qD x hx).1.Ab k,(h.qD x hx).2.Ab k⟩,λp hp=>⟨k.Aw (h.bs p hp).1,(h.bs p hp).2⟩,h.hT,Aj h.kp k⟩
variable {w0:World}{st1 st2:Nat}{q:Sl}
theorem Aow.box {w:World}{Q:List Mg}{Bs:List (Nat×Nat×Obj)}(h:Aow w0 w m1 m2 st1 st2 T1 T2 X1 X2 q Q Bs)(k:Aa [] w w'){b:Nat}{o:Obj}(hb:w'.heap[b]?=some o)(hn:w.heap.size<=b):Aow w0 w' m1 m2 st1 st2 T1 T2 X1 X2 q Q ((b,0,o)::Bs):=by
 have g:=h.Ab k;refine⟨g.two,g.l1,g.l2,g.s1,g.s2,g.sq,g.qt,g.qD,λp hp=>?_,g.hT,g.kp⟩;rcases List.mem_cons.1 hp with rfl|hp
 ·exact⟨hb,λhm=>by have:=h.sq.lt b hm;omega,⟨h.two.a.new hn,h.two.b.new hn⟩,.inl rfl⟩
 ·exact g.bs p hp
theorem Aow.less {w:World}{Q:List Mg}{Bs Cs:List (Nat×Nat×Obj)}(h:Aow w0 w m1 m2 st1 st2 T1 T2 X1 X2 q Q Bs)(hc:∀p∈Cs,p∈Bs):Aow w0 w m1 m2 st1 st2 T1 T2 X1 X2 q Q Cs:=
 ⟨h.two,h.l1,h.l2,h.s1,h.s2,h.sq,h.qt,h.qD,λp hp=>h.bs p (hc p hp),h.hT,h.kp⟩
theorem Aow.step {w0 w w':World}{m1 m2 st1 st2:Nat}{T1 T2 T1':Nat->Nat}{X1 X2 X1':Mc}{q:Sl}{Q:List Mg}{Bs:List (Nat×Nat×Obj)}(h:Aow w0 w m1 m2 st1 st2 T1 T2 X1 X2 q Q Bs)(g:A6 w' m1 T1' X1')(e:EvM T1 T1' w w')(l1:Cp X1'.p)(s1:X1'.d.BD=st1/\st1∉rb X1'.d.sM) :
  Aow w0 w' m1 m2 st1 st2 T1' (swT T1' T2) X1' X2 q Q Bs/\∀φ,Bq T1' φ w'->Bq (swT T1' T2) φ w':=by
 obtain⟨t,s,im⟩:=h.two.step g e;have sw20:∀b,T1' b=20->swT T1' T2 b=T2 b:=λb hb=>by unfold swT;rw[if_neg (λh=>h.2 hb),if_neg (λh=>by omega)]
 have sw0:∀b,T1' b=0->T2 b=0->swT T1' T2 b=0:=λb hb h2=>by unfold swT;rw[if_neg (λh=>h.1 hb),if_neg (λh=>by omega)];exact h2
 refine⟨⟨t,l1,h.l2,s1,h.s2,h.sq.Ue e.kp λb hb hc=>hc.2 (h.qt b hb).1,λb hb=>?_,λx hx=>?_,λp hp=>?_,λb hb=>?_,?_⟩,im⟩
 ·have e1:=(e.tg b (h.sq.lt b hb) (.inr (h.qt b hb).1)).trans (h.qt b hb).1;exact⟨e1,(sw20 b e1).trans (h.qt b hb).2⟩
 ·have:=Amz (h.qD x hx).1 e;exact⟨this,im _ this⟩
 ·obtain⟨h1,h2,⟨h3,h4⟩,h5⟩:=h.bs p hp;have lt:=Av h1;refine⟨(e.kp.get p.1 lt (by rcases h5 with h5|h5<;>omega)).trans h1,h2,?_,h5⟩;have e1:=(e.tg p.1 lt (by omega)).trans h3;refine⟨e1,?_⟩;rcases h5 with h5|h5
  ·rw[h5]at e1 h4 ⊢;exact sw0 _ e1 h4
  ·rw[h5]at e1;exact(sw20 _ e1).trans h4
 ·have hs:=h.kp.size;rcases Nat.lt_or_ge b w.heap.size with hlt|hge
  ·by_cases h0:T1 b=0/\T2 b=0
   ·have e1:=(e.tg b hlt (.inl h0.1)).trans h0.1;have:=sw0 b e1 h0.2;omega
   ·exact h.hT b (by omega)
  ·omega
 ·exact((h.kp.FY (F:=λ_=>False) (by simp)).trans e.kp λx hx=>.inr (h.hT x (.inl hx.1))).SU
theorem Aow.nil {w:World}{r:Sl}{Bs:List (Nat×Nat×Obj)}(h:Aow w0 w m1 m2 st1 st2 T1 T2 X1 X2 q [] Bs)(hr:Bh Yz w r [])(hb:Ai r=[]):Aow w0 w m1 m2 st1 st2 T1 T2 X1 X2 r [] Bs:=
 ⟨h.two,h.l1,h.l2,h.s1,h.s2,hr,λb hm=>(by rw[hb]at hm;cases hm),h.qD,λp hp=>⟨(h.bs p hp).1,by rw[hb];simp,(h.bs p hp).2.2⟩,h.hT,h.kp⟩
theorem Bh.tail {ρ:Rec α}{w:World}{s:Sl}{x:α}{l:List α}(h:Bh ρ w s (x::l)):Bh ρ w ⟨A7 s.p s.cap 1 ρ.n,s.len-1,s.cap-1⟩ l:=by
 have hl:=h.BY;have hsub:=AE.sub h (lo:=1) (hi:=s.len) (by simp at hl;omega) (Nat.le_refl _);rw[Qy ρ.len,JO ρ.len]at hsub;have e:((x::l).drop 1).take (s.len-1)=l:=by
  rw[List.drop_one,List.tail_cons];exact List.take_of_length_le (by simp at hl;omega)
 rw[e]at hsub;exact hsub
theorem Aow.pop {w:World}{x:Mg}{Q:List Mg}{Bs:List (Nat×Nat×Obj)}(h:Aow w0 w m1 m2 st1 st2 T1 T2 X1 X2 q (x::Q) Bs):Aow w0 w m1 m2 st1 st2 T1 T2 X1 X2 ⟨A7 q.p q.cap 1 21,q.len-1,q.cap-1⟩ Q Bs:=by
 have hb:=AcV q 1 21 (q.len-1) (q.cap-1) (Nat.sub_le _ _);exact⟨h.two,h.l1,h.l2,h.s1,h.s2,Bh.tail h.sq,λb hm=>h.qt b (hb b hm),λy hy=>h.qD y (by simp[hy]),λp hp=>⟨(h.bs p hp).1,λhm=>(h.bs p hp).2.1 (hb _ hm),(h.bs p hp).2.2⟩,h.hT,h.kp⟩
theorem Afw {k:Nat}{r:Sl}{b:Nat}(h:T b=k):AX k r T b=k:=by unfold AX;split;rfl;exact h
theorem Aow.app {w:World}{Q:List Mg}{Bs:List (Nat×Nat×Obj)}(h:Aow w0 w m1 m2 st1 st2 T1 T2 X1 X2 q Q Bs){r:Sl}{new:List Mg}(hr:Bh Yz w' r (Q++new))(k:Aa (Ai q) w w')(fr:∀b∈Ai r,b∈Ai q\/w.heap.size<=b)(hD:∀x∈new,Bq T1 (Su x) w/\Bq T2 (Su x) w):
  Aow w0 w' m1 m2 st1 st2 (AX 20 r T1) (AX 20 r T2) X1 X2 r (Q++new) Bs/\CH 20 T1 (AX 20 r T1) w w'/\CH 20 T2 (AX 20 r T2) w w':=by
 have s1:CH 20 T1 (AX 20 r T1) w w':=CH.row k (λb hb=>(h.qt b hb).1) fr;have s2:CH 20 T2 (AX 20 r T2) w w':=CH.row k (λb hb=>(h.qt b hb).2) fr;have nw:∀b,b∈Ai r->b∈Ai q\/w.heap.size<=b:=fr;have cs:∀(T:Nat->Nat) x,AX 20 r T x≠20->AX 20 r T x=T x:=λT x hx=>by
  unfold AX at hx ⊢;split
  ·rename_i hc;rw[if_pos hc]at hx;exact absurd rfl hx
  ·rfl
 refine⟨⟨⟨h.two.a.kk (by omega) s1 (GH hr k.size h.two.a.r.bd),h.two.b.kk (by omega) s2 (GH hr k.size h.two.b.r.bd),λx h0 h2=>?_,λx h0 h2=>?_⟩,h.l1,h.l2,h.s1,h.s2,hr,λb hb=>⟨ED b hb,ED b hb⟩,λx hx=>?_,λp hp=>?_,λb hb=>?_,?_⟩,s1,s2⟩
 ·rw[cs T1 x h2]at h0 h2;exact Afw (h.two.f x h0 h2)
 ·rw[cs T2 x h2]at h0 h2;exact Afw (h.two.g x h0 h2)
 ·rcases List.mem_append.1 hx with hx|hx
  ·exact⟨(h.qD x hx).1.kt (by decide) s1,(h.qD x hx).2.kt (by decide) s2⟩
  ·exact⟨(hD x hx).1.kt (by decide) s1,(hD x hx).2.kt (by decide) s2⟩
 ·obtain⟨h1,h2,h3⟩:=h.bs p hp;have hn:p.1∉Ai r:=λhm=>by
   rcases fr _ hm with h'|h'
   ·exact h2 h'
   ·have:=Av h1;omega
  refine⟨k.at h1 h2,hn,?_⟩;unfold AX;rw[if_neg hn,if_neg hn];exact h3
 ·have hs:=h.kp.size;by_cases hm:b∈Ai r
  ·rcases fr b hm with h'|h'
   ·exact h.hT b (.inl (by rw[(h.qt b h').1];decide))
   ·omega
  ·unfold AX at hb;rw[if_neg hm,if_neg hm]at hb;exact h.hT b hb
 ·exact((h.kp.FY (F:=λ_=>False) (by simp)).trans k.All λx hx=>.inr (h.hT x (.inl (by rw[(h.qt x hx).1];decide)))).SU
theorem Aow.set {w:World}{Q:List Mg}{Bs:List (Nat×Nat×Obj)}{b:Nat}{o1 o:Obj}(h:Aow w0 w m1 m2 st1 st2 T1 T2 X1 X2 q Q ((b,20,o1)::Bs))(k:Aa [b] w w')(hb:w'.heap[b]?=some o)(hn:∀p∈Bs,p.1≠b):Aow w0 w' m1 m2 st1 st2 T1 T2 X1 X2 q Q ((b,20,o)::Bs):=by
 obtain⟨_,hq,⟨t1,t2⟩,_⟩:=h.bs _ (List.mem_cons_self ..);dsimp only at hq t1 t2;have s1:CH 20 T1 T1 w w':=⟨k.FY λx hx=>.inl (by rw[List.mem_singleton.1 hx];exact t1),λ_ _ _=>rfl⟩;have s2:CH 20 T2 T2 w w':=⟨k.FY λx hx=>.inl (by rw[List.mem_singleton.1 hx];exact t2),λ_ _ _=>rfl⟩;have hs:=k.size;refine⟨⟨h.two.a.kk (by omega) s1 λx hx=>Nat.lt_of_lt_of_le (h.two.a.r.bd x hx) hs,h.two.b.kk (by omega) s2 λx hx=>Nat.lt_of_lt_of_le (h.two.b.r.bd x hx) hs,h.two.f,h.two.g⟩,h.l1,h.l2,h.s1,h.s2,h.sq.keeps k (λx hx=>by simp;exact λe=>hq (e▸hx)),h.qt,λx hx=>⟨(h.qD x hx).1.kt (by decide) s1,(h.qD x hx).2.kt (by decide) s2⟩,λp hp=>?_,h.hT,BT h.kp k (h.hT b (.inl (by rw[t1];decide)))⟩;rcases List.mem_cons.1 hp with rfl|hp
 ·exact⟨hb,hq,⟨t1,t2⟩,.inr rfl⟩
 ·exact⟨k.at (h.bs p (List.mem_cons_of_mem _ hp)).1 (by simpa using hn p hp),(h.bs p (List.mem_cons_of_mem _ hp)).2⟩
theorem Aow.AkX {w:World}{Q:List Mg}{Bs:List (Nat×Nat×Obj)}(h:Aow w0 w m1 m2 st1 st2 T1 T2 X1 X2 q Q Bs)(k:Aa [] w w'){b:Nat}{o:Obj}(hb:w'.heap[b]?=some o)(hn:w.heap.size<=b):∃T1' T2',Aow w0 w' m1 m2 st1 st2 T1' T2' X1 X2 q Q ((b,20,o)::Bs):=by
 obtain⟨F,hF⟩:∃F:(Nat->Nat)->Nat->Nat,F=λT x=>if x=b then 20 else T x:=⟨_,rfl⟩;have ne:∀T x,x≠b->F T x=T x:=λT x hx=>by rw[hF];exact if_neg hx
 have eq:∀T,F T b=20:=λT=>by rw[hF];exact if_pos rfl
 have st:∀T,CH 20 T (F T) w w':=λT=>⟨k.FY (by simp),λx hx _=>ne T x (by omega)⟩;have lb:=Av hb;have bd:∀{T:Nat->Nat},(∀x,T x≠0->x<w.heap.size)->∀x,F T x≠0->x<w'.heap.size:=λhT x hx=>by
  by_cases e:x=b
  ·rw[e];exact lb
  ·rw[ne _ x e]at hx;exact Nat.lt_of_lt_of_le (hT x hx) k.size
 have hq:b∉Ai q:=λhm=>by have:=h.sq.lt b hm;omega
 refine⟨F T1,F T2,⟨h.two.a.kk (by omega) (st T1) (bd h.two.a.r.bd),h.two.b.kk (by omega) (st T2) (bd h.two.b.r.bd),λx h0 h2=>?_,λx h0 h2=>?_⟩,h.l1,h.l2,h.s1,h.s2,h.sq.Ab k,λx hx=>?_,λx hx=>⟨(h.qD x hx).1.kt (by decide) (st T1),(h.qD x hx).2.kt (by decide) (st T2)⟩,λp hp=>?_,λx hx=>?_,Aj h.kp k⟩
 ·by_cases e:x=b
  ·rw[e];exact eq T2
  ·rw[ne _ x e]at h0 h2 ⊢;exact h.two.f x h0 h2
 ·by_cases e:x=b
  ·rw[e];exact eq T1
  ·rw[ne _ x e]at h0 h2 ⊢;exact h.two.g x h0 h2
 ·have e:x≠b:=λe=>hq (e▸hx);rw[ne _ x e,ne _ x e];exact h.qt x hx
 ·rcases List.mem_cons.1 hp with rfl|hp
  ·exact⟨hb,hq,⟨eq T1,eq T2⟩,.inr rfl⟩
  ·obtain⟨h1,h2,h3,h4⟩:=h.bs p hp;have e:p.1≠b:=λe=>by have:=Av h1;omega
   rw[ne _ _ e,ne _ _ e];exact⟨k.Aw h1,h2,h3,h4⟩
 ·by_cases e:x=b
  ·have:=h.kp.size;omega
  ·rw[ne _ x e,ne _ x e]at hx;exact h.hT x hx
theorem Aj4 {w:World}{m BD:Nat}(h:AtA w m BD T X){sw:Sl}{writes:List Op}(hw:A1 BQ w sw writes)(ho:A9 writes=0)(hl:X.d.M.length+writes.length<=200000){K:TR [.sc .sl,.sc .sl,.sc (.i .i64)]->Pr}(k:∀r1 r2 w1,Aa [] w w1->(∀J:Pr,(∀sM w',AtA w' m BD T {X with d:={X.d with sM:=sM,M:=(Bd X.d.M writes).1}}->Aa [BD] w1 w'->J w')->St ⟨BD,0,none⟩ (.slice r1.p r1.len r1.cap) J w1)->K (r1,r2,0,()) w1):
  Cl Pg 12 [(.slice X.d.sM.p X.d.sM.len X.d.sM.cap),(.slice sw.p sw.len sw.cap)] true [.sc .sl,.sc .sl,.sc (.i .i64)] K w:=by
 obtain⟨h1,h2⟩:=h.g.r.RF.ok;have hM:AU X.d.M:=h.J.j.ok.mp;have hlen:=He X.d.M writes;refine Af5 h2 hw (by omega) (by omega) ?_ ?_
 ·intro _ _ r1 r2 rs w1 q1 q2 q3 q4 q5 k1;refine k r1 r2 w1 k1 λJ hJ=>?_;have s1:=k1.Aw h1;rw[h.se]at s1;refine Ax s1 0 _ rfl (by simp) λw2 s2 k2=>?_;simp only[Ck]at s2;have hn:∀b∈rb r1,T b=0:=λb hb=>h.g.new (q5 b hb);have hs:∀b∈rb r1,b≠BD:=λb hb e=>by
   have:=(h.g.r.RF.tag X.d.BD rfl).2;rw[h.se]at this;rw[e]at hb;rw[hn BD hb]at this;cases this
  have g1:=h.g.Ab k1;have hst:X.d.BD=BD:=h.se;refine hJ r1 w2 ⟨?_,h.J.store (Nq hM ho) (Nat.le_trans hlen.1 hl),h.L,h.se,λhb=>hs BD hb rfl⟩ k2;exact g1.st (by rw[hst];exact k2) (by rw[hst];exact s2) (q1.keeps k2 λb hb=>by simpa using hs b hb) hn
 ·intro e w1 he _ _;rcases he with he|he
  ·exact absurd hM he
  ·exact absurd ho he
open Go Go.Sx
theorem ixk {a:Nat}{n:Nat}{i:Int}{K:Addr->Pr}{w:World}(h0:0<=i)(h1:i<n)(k:K ⟨a,i.toNat*1,none⟩ w):IxR ⟨a,0,none⟩ n i 1 K w:=by
 refine⟨h0,h1,?_⟩;rw[Aif];exact k
set_option maxHeartbeats 16000000 in
theorem AlI {w:World}{Q:List Mg}{Bs:List (Nat×Nat×Obj)}(h:Aow w0 w m1 m2 st1 st2 T1 T2 X1 X2 q Q Bs){f:Bool}{i:Nat}(hI:Inv f i X1.p X2.p (Q.map Mg.p) 0 false){lost:Sl}{ll:List Bool}(hl:A1 flR w0 lost ll)(hf:f=true->ll=[]){K:TR [.sc .b,.sc .b]->Pr}(k:∀fz n T1' T2' X1' X2' q' w',Aow w0 w' m1 m2 st1 st2 T1' T2' X1' X2' q' [] Bs->Inv f i X1'.p X2'.p [] n fz->K (fz,true,()) w'):
  Cl Pg 22 [.agg #[.pointer none,.pointer (some ⟨m1,0,none⟩),.pointer (some ⟨m2,0,none⟩)],.agg #[.pointer none,.pointer (some ⟨st1,0,none⟩),.pointer (some ⟨st2,0,none⟩)],.slice q.p q.len q.cap,.slice lost.p lost.len lost.cap] true [.sc .b,.sc .b] K w:=by
 refine XO _ _ _ _ _ _ q lost ?_;unfold NT;dsimp only[Ag,Ap3,Vv,Lb,Li,Bn,Ll,Ls,Lu,UO,KV,Ts,Vi,Vp,Vs,KW,LW];refine Ad λa1 w1 h1 n1 k1=>?_;have g1:=h.box k1 h1 n1;refine Ad λa2 w2 h2 n2 k2=>?_;have g2:=g1.box k2 h2 n2;have hll:=hl.len;generalize hBs:((a2,0,_)::(a1,0,_)::Bs:List (Nat×Nat×Obj))=Bs' at g2;have b1:(a1,0,Obj.cells #[.pointer none,.pointer (some ⟨m1,0,none⟩),.pointer (some ⟨m2,0,none⟩)] 73 (0,0))∈Bs':=by rw[<-hBs];exact List.mem_cons_of_mem _ (List.mem_cons_self ..)
 have b2:(a2,0,Obj.cells #[.pointer none,.pointer (some ⟨st1,0,none⟩),.pointer (some ⟨st2,0,none⟩)] 72 (0,0))∈Bs':=by rw[<-hBs];exact List.mem_cons_self ..
 have bB:∀p∈Bs,p∈Bs':=λp hp=>by rw[<-hBs];exact List.mem_cons_of_mem _ (List.mem_cons_of_mem _ hp)
 have T10:T1 a1=0/\T2 a1=0:=⟨h.two.a.new n1,h.two.b.new n1⟩;clear hBs;obtain⟨Iv,hIv⟩:∃Iv:Nat->Sl×Bool×Bool×Int×Unit->World->Prop,Iv=λv stt w'=>∃(n:Nat) (fz:Bool) (q':Sl) (T1' T2':Nat->Nat) (X1' X2':Mc) (Q':List Mg),stt=(q',fz,false,(n:Int),())/\v=500-n/\Aow w0 w' m1 m2 st1 st2 T1' T2' X1' X2' q' Q' Bs'/\Inv f i X1'.p X2'.p (Q'.map Mg.p) n fz:=⟨_,rfl⟩;refine⟨Iv,⟨500,by rw[hIv];exact⟨0,false,q,T1,T2,X1,X2,Q,rfl,rfl,g2,hI⟩⟩,?_⟩;intro v stt w3 hv;rw[hIv]at hv;clear g2 hI h h1 h2 T10;obtain⟨n,fz,q3,T1,T2,X1,X2,Q,rfl,rfl,g3,I3⟩:=hv;dsimp only;have lt:=I3.lt;rw[List.length_map]at lt;have ql:q3.len=Q.length:=g3.sq.BY;refine BR (decide (0<Q.length)) (λJ hJ=>?_) λw4 k4=>?_
 ·by_cases hq:0<Q.length
  ·rw[decide_eq_true hq]at hJ;rw[show decide (((q3.len:Nat):Int)>0)=true from decide_eq_true (by omega),show decide (((n:Nat):Int)<500)=true from decide_eq_true (by omega)];simp only[Af];exact hJ _ (Aa.refl _ _)
  ·rw[decide_eq_false hq]at hJ;rw[show decide (((q3.len:Nat):Int)>0)=false from decide_eq_false (by omega)];simp only[Ae];exact hJ _ (Aa.refl _ _)
 have g4:=g3.Ab k4;clear g3;cases Q with
 |nil=>
  rw[show decide (0<([]:List Mg).length)=false from rfl,show decide (((n:Nat):Int)<500)=true from decide_eq_true (by omega)];simp only[Ae];exact k fz n T1 T2 X1 X2 q3 w4 (g4.less bB) I3
 |cons z Q=>
  rw[show decide (0<(z::Q).length)=true from decide_eq_true (by simp)];simp only[Af];rw[List.length_cons]at lt ql;refine AiJ g4.sq.C6 (i:=0) (x:=z) rfl ?_;refine Aik z λa w5 h5 n5 k5=>?_;have g5:=g4.box k5 h5 n5;refine⟨⟨by decide,by omega⟩,?_⟩;refine BR (fz||z.kind==14) (λJ hJ=>?_) λw6 k6=>?_
  ·cases fz with
   |true=>
    simp only[Af];exact hJ _ (Aa.refl _ _)
   |false=>
    simp only[Ae,sb,h5];exact hJ _ (Aa.refl _ _)
  have g6:=g5.Ab k6;have h6:=k6.Aw h5;refine BR (z.kind==11||z.kind==12) (λJ hJ=>?_) λw7 k7=>?_
  ·simp only[sb,h6];cases c1:((z.kind:Int)==11)with
   |true=>
    rw[c1]at hJ;simp only[sb];exact hJ _ (Aa.refl _ _)
   |false=>
    rw[c1]at hJ;simp only[sb,h6];exact hJ _ (Aa.refl _ _)
  have g7:=g6.Ab k7;have h7:=k7.Aw h6;have hl7:=hl.Ab g7.kp;refine AG (λs w'=>(s.1=true->Aac z.p=false\/(f=false/\(z.kind=11\/z.kind=12)))/\(s.1=false->z.dst=1\/z.dst=2)/\Aa [] w7 w') (λJ hJ=>?_) ?_
  ·have lk:(z.dst=1\/z.dst=2)->(Br (z.kind==11||z.kind==12) (
     Br (decide ((((lost.len:Nat):Int):Int)>0)) (
     AY (((lost.len:Nat):Int)≠(0:Int)) <|
     Ix lost ((An ((n:Int)+1)).tmod ((lost.len:Nat):Int)) 1 λa131=>
     E7 a131 λx132=>
     J (x132,())) (
     J (false,()))) (
     J (false,()))) w7:=by
    intro hd;cases c2:(z.kind==11||z.kind==12)with
    |false=>
     simp only[Ae];exact hJ _ _ ⟨(λh'=>by cases h'),λ_=>hd,Aa.refl _ _⟩
    |true=>
     simp only[Af];by_cases h0:0<ll.length
     ·rw[show decide (((lost.len:Nat):Int)>0)=true from decide_eq_true (by omega)];simp only[Af];refine⟨by omega,?_⟩;have em:(An ((n:Int)+1)).tmod ((lost.len:Nat):Int)=(((n+1) % ll.length:Nat):Int):=by
       rw[AK (by omega),hll];exact AjH _ _
      show Ix lost ((An ((n:Int)+1)).tmod ((lost.len:Nat):Int)) 1 _ w7;rw[em];obtain⟨fb,hfb⟩:∃fb,ll[(n+1) % ll.length]?=some fb:=⟨_,List.getElem?_eq_getElem (Nat.mod_lt _ h0)⟩;refine ldb hl7 hfb ?_;refine hJ _ _ ⟨λ_=>.inr ⟨?_,?_⟩,λ_=>hd,Aa.refl _ _⟩
      ·cases f with
       |false=>rfl
       |true=>rw[hf rfl]at h0;exact absurd h0 (by simp)
      ·simpa using c2
     ·rw[show decide (((lost.len:Nat):Int)>0)=false from decide_eq_false (by omega)];simp only[Ae];exact hJ _ _ ⟨(λh'=>by cases h'),λ_=>hd,Aa.refl _ _⟩
   simp only[sb,h7];cases c1:((z.dst:Int) !=1)with
   |false=>
    simp only[sb];exact lk (.inl (by simpa using c1))
   |true=>
    simp only[sb,h7];cases c2:((z.dst:Int) !=2)with
    |false=>
     simp only[sb];exact lk (.inr (by simpa using c2))
    |true=>
     simp only[sb];refine hJ _ _ ⟨λ_=>.inl ?_,(λh'=>by cases h'),Aa.refl _ _⟩;show((z.dst==1)||(z.dst==2))=false;rw[bne,Bool.not_eq_true']at c1 c2;rw[c1,c2];rfl
  rintro⟨lb,⟨⟩⟩ w8 ⟨hl1,hl2,k8⟩;have g8:=g7.Ab k8;have I8:Inv f i X1.p X2.p (z.p::Q.map Mg.p) n fz:=I3;have hw1:An ((n:Int)+1)=((n+1:Nat):Int):=AK (by omega);have gp:=g8.pop;cases lb with
  |true=>
   simp only[Af];refine⟨500-(n+1),by omega,?_⟩;rw[hIv];refine⟨n+1,(fz||z.kind==14),_,T1,T2,X1,X2,Q,by rw[hw1];rfl,rfl,gp.less λp hp=>List.mem_cons_of_mem _ hp,?_⟩;rcases hl1 rfl with hl1|⟨hff,hk⟩
   ·exact AgL I8 hl1
   ·subst hff;exact Ajw I8 hk
  |false=>
   simp only[Ae];have hd:=hl2 rfl
   have fin:∀(w':World) (T1' T2':Nat->Nat) (X1' X2':Mc),Aow w0 w' m1 m2 st1 st2 T1' T2' X1' X2' ⟨A7 q3.p q3.cap 1 21,q3.len-1,q3.cap-1⟩ Q Bs'->∀(so:Sl) (out:List Mg),A1 Yz w' so out->(∀x∈out,Bq T1' (Su x) w'/\Bq T2' (Su x) w')->Inv f i X1'.p X2'.p ((Q++out).map Mg.p) (n+1) (fz||z.kind==14) ->
     App 47 21 232 (zc Pg 47) ⟨A7 q3.p q3.cap 1 21,q3.len-1,q3.cap-1⟩ so.len (BH so.p so.len 21) (λr w''=>∃m',m'<500-n/\Iv m' (r,(fz||z.kind==14),false,An ((n:Int)+1),()) w'') w':=by
    intro w' T1' T2' X1' X2' G so out hso hD hInv;have lt2:=hInv.lt;rw[List.length_map,List.length_append]at lt2;have sl:=hso.len;refine AE.app (ρ:=Yz) G.sq hso.rd sl (by rw[AhR];rfl) (by dsimp only;omega) (by dsimp only;omega) ?_;intro r' w'' hr' k' fr';obtain⟨G',_,_⟩:=G.app hr' k' fr' hD;refine⟨500-(n+1),by omega,?_⟩;rw[hIv];exact⟨n+1,_,r',_,_,X1',X2',Q++out,by rw[hw1],rfl,G',hInv⟩
   obtain⟨mA,stA,TA,XA,A8,S8,R8,M8,hj1,hj2,zi,hT0,hK⟩:∃(mA stA:Nat) (TA:Nat->Nat) (XA:Mc),AtA w8 mA stA TA XA/\AfG XA.p z.p/\AM XA.p 90000/\XA.d.M.length<=100000/\(#[Value.pointer none,.pointer (some ⟨m1,0,none⟩),.pointer (some ⟨m2,0,none⟩)])[z.dst.toNat*1]?=some (.pointer (some ⟨mA,0,none⟩))/\(#[Value.pointer none,.pointer (some ⟨st1,0,none⟩),.pointer (some ⟨st2,0,none⟩)])[z.dst.toNat*1]?=some (.pointer (some ⟨stA,0,none⟩))/\Bq TA (Su z) w8/\(TA=T1\/TA=T2) /\
     ∀(w':World) (TA':Nat->Nat) (XA':Mc),EvM TA TA' w8 w'->AtA w' mA stA TA' XA'->XA'.p=EA XA.p z.p->∀(so:Sl) (out:List Mg),Bq TA' (λw=>A1 Yz w so out/\∀x∈out,Su x w) w'->out.map Mg.p=(XA.p.CA z.p).out ->
      App 47 21 232 (zc Pg 47) ⟨A7 q3.p q3.cap 1 21,q3.len-1,q3.cap-1⟩ so.len (BH so.p so.len 21) (λr w''=>∃m',m'<500-n/\Iv m' (r,(fz||z.kind==14),false,An ((n:Int)+1),()) w'') w':=by
    have gl:=gp.less (Cs:=Bs') λp hp=>List.mem_cons_of_mem _ hp;have hrow:=AkH I8;have hI8:=I8;obtain⟨nx,G1x,G2x,_⟩:=hI8;rcases hd with hd|hd
    ·obtain⟨S,I9⟩:=inv_one I8 hd;refine⟨m1,st1,T1,X1,⟨gl.two.a,G1x.x,gl.l1,gl.s1.1,gl.s1.2⟩,S,hrow,Nat.le_trans G1x.ml (by decide),by rw[hd];rfl,by rw[hd];rfl,(g8.qD z (by simp)).1,.inl rfl,?_⟩;intro w' TA' XA' ev A' hp so out hD ho;obtain⟨g',im⟩:=gl.step A'.g ev A'.L ⟨A'.se,A'.hn⟩;refine fin w' TA' _ XA' X2 g' so out hD.ok.1 (λx hx=>?_) ?_
     ·have:Bq TA' (Su x) w':=hD.map (ψ:=Su x) λw h=>h.2 x hx;exact⟨this,im _ this⟩
     ·rw[hp,List.map_append,ho];exact I9
    ·obtain⟨S,I9⟩:=Ald I8 hd;have hrow2:AM X2.p 90000:=λb hb=>by
      rw[G2x.bx]at hb;cases hb
     refine⟨m2,st2,T2,X2,⟨gl.two.b,G2x.x,gl.l2,gl.s2.1,gl.s2.2⟩,S,hrow2,?_,by rw[hd];rfl,by rw[hd];rfl,(g8.qD z (by simp)).2,.inr rfl,?_⟩
     ·have h1:=G2x.ml;have h2:=G2x.nn;have e:X2.p.M=X2.d.M:=rfl;rw[e]at h1;omega
     intro w' TA' XA' ev A' hp so out hD ho;obtain⟨g',im⟩:=gl.symm.step A'.g ev A'.L ⟨A'.se,A'.hn⟩;refine fin w' _ TA' X1 XA' g'.symm so out hD.ok.1 (λx hx=>?_) ?_
     ·have:Bq TA' (Su x) w':=hD.map (ψ:=Su x) λw h=>h.2 x hx;exact⟨im _ this,this⟩
     ·rw[hp,List.map_append,ho];exact I9
   have hdj:0<=z.dst/\z.dst<(3:Nat):=by omega
   have zow:z.Ac.length<=140737488355328:=by
    have:z.Ac=[]:=S8.ow;rw[this];simp
   have c1:=g8.bs _ (List.mem_cons_of_mem _ b1);have c2:=g8.bs _ (List.mem_cons_of_mem _ b2);have c3:=g8.bs _ (List.mem_cons_self ..);have h1:=c1.1;have h2:=c2.1;have h8:=c3.1;have zt:∀b,T1 b=0/\T2 b=0->TA b=0\/TA b=20:=λb hb=>by rcases hT0 with e|e<;>rw[e]<;>simp[hb]
   have t1:=zt _ c1.2.2.1;have t2:=zt _ c2.2.2.1;have t3:=zt _ c3.2.2.1;have keep:∀{TB:Nat->Nat} {w':World} {b:Nat} {o:Obj},EvM TA TB w8 w'->(TA b=0\/TA b=20)->w8.heap[b]?=some o->w'.heap[b]?=some o:=λe ht hb=>(e.kp.get _ (Av hb) (by rcases ht with ht|ht<;>rw[ht]<;>simp)).trans hb;dsimp only at h1 h2 h8 t1 t2 t3;obtain⟨hQ,hQM,_⟩:=A8.J.taken S8.n S8.bad;refine AG (λs w'=>∃(d:Nat) (so sw:Sl) (lb:Bool) (out:List Mg) (wr:List Op) (XB:Mc) (TB:Nat->Nat),s=(some ⟨d,0,none⟩,0,())/\A6 w' mA TB XB/\XB.p=(XA.p.CA z.p).clear/\out.map Mg.p=(XA.p.CA z.p).out/\wr=(XA.p.CA z.p).writes/\Bq TB (MI so sw out wr) w'/\Dl XA XB/\EvM TA TB w8 w'/\w'.heap[d]?=some (.cells #[.slice so.p so.len so.cap,.slice sw.p sw.len sw.cap,.bool lb] 52 (0,0))/\TB d≠12) (λJ hJ=>?_) ?_
   ·simp only[sb,h8];refine ixk hdj.1 hdj.2 ?_;simp only[sb,h1,hj1,h8];refine⟨?_,?_⟩
    ·refine Agc (A8.g.Ab (Am w8)) A8.J R8 z (zi.Ab (Am w8)) S8.n zow (λhbad=>by rw[S8.bad]at hbad;cases hbad) ?_;intro _ so sw out wr XB TB w9 gB pB oB wB iB fB eB;have e9:EvM TA TB w8 w9:=(EvM.k0 (Am w8)).trans (evM eB);refine Ad λd w10 Q8 n10 k10=>?_;have e10:=e9.trans (EvM.k0 k10);have a10:=keep e10 t3 h8;have b10:=keep e10 t1 h1;simp only[sb,a10,b10,hj1];refine⟨by trivial,by trivial,by trivial,?_⟩;refine Mf Q8 rfl rfl rfl λw11 h11 k11=>?_;have k911:=BT k10 k11 n10;exact hJ _ w11 ⟨d,so,sw,_,out,wr,XB,TB,rfl,gB.Ab k911,pB,oB,wB,iB.Ab k911,fB,e9.trans (EvM.k0 k911),h11,by rw[gB.new n10];decide⟩
    ·refine Ad λd w9 h9 n9 k9=>?_;have k89:=Aj (Am w8) k9;obtain⟨g9,s9,e9⟩:=A8.g.own k89 n9 (Av h9);have a9:=keep (evM e9) t3 h8;have b9:=keep (evM e9) t1 h1;simp only[sb,a9,b9,hj1];refine⟨by trivial,by trivial,by trivial,?_⟩;refine Agc g9 A8.J R8 z (zi.Bm e9) S8.n zow (λhbad=>by rw[S8.bad]at hbad;cases hbad) ?_;intro _ so sw out wr XB TB w10 gB pB oB wB iB fB eB;obtain⟨d10,Td10⟩:=eB.Ql h9 (if_pos rfl);refine Mf d10 rfl rfl rfl λw11 h11 k11=>?_;obtain⟨g11,s11⟩:=gB.LK Td10 k11;exact hJ _ w11 ⟨d,so,sw,_,out,wr,XB,TB,rfl,g11,pB,oB,wB,iB.kt (by decide) s11,fB,((evM e9).trans (evM eB)).trans (EvM.one k11 (by rw[Td10];decide)),h11,by rw[Td10];decide⟩
   ·rintro _ w9 ⟨d,so,sw,lb,out,wr,XB,TB,rfl,gB,pB,oB,wB,iB,fB,eB,d9,Td⟩;have AB:AtA w9 mA stA TB XB:=⟨gB,by rw[pB];exact hQ.clear,by rw[pB];exact AaG A8.J A8.L S8.n S8.bad,fB.BD.trans A8.se,by rw[fB.sM];exact A8.hn⟩;have a9:=keep eB t3 h8;have b9:=keep eB t2 h2;have s9:=AB.g.r.RF.ok.1;rw[AB.se]at s9;have Tst:TB stA=12:=by rw[<-AB.se];exact(AB.g.r.RF.tag XB.d.BD rfl).2
    have hMB:XB.d.M=XA.d.M:=by
     have:XB.p.M=XA.p.M:=by rw[pB];exact hQM
     exact this
    simp only[show((0:Int) !=0)=false from rfl,sb,a9];refine ixk hdj.1 hdj.2 ?_;simp only[sb,b9,hj2,a9];refine ixk hdj.1 hdj.2 ?_;simp only[sb,b9,hj2,s9,d9];refine Aj4 (AB.Ab (Am w9)) (iB.Ab (Am w9)).ok.2.2 (by rw[wB];exact hQ.j.ok.wr) (by rw[wB,hMB];have:=hQ.j.ok.wn;omega) ?_;intro r1 r2 w10 k10 hst;have k910:=Aj (Am w9) k10;have a10:=k910.Aw a9;have b10:=k910.Aw b9;simp only[sb,a10,b10,hj2];refine⟨by trivial,by trivial,?_⟩;refine hst _ λsM w11 A11 k11=>?_;have d11:=k11.Mw (k910.Aw d9) (λe=>Td (by rw[e];exact Tst));simp only[sb,d11];have e11:EvM TB TB w9 w11:=(EvM.k0 k910).trans (EvM.one k11 (by rw[Tst];decide));refine hK w11 TB _ (eB.trans e11) A11 ?_ so out ?_ oB
    ·unfold EA;rw[<-pB,<-wB,show XA.p.M=XB.d.M from hMB.symm];rfl
    ·exact(Amz iB e11).map λw hw=>⟨hw.1,hw.2.1⟩
open Go Go.Sx
structure OpL where
 s:Sl
 ops:List Op
def osR:Rec OpL:=⟨[.sl],λx=>(x.s,()),rfl,by simp⟩
theorem lds {w:World}{s:Sl}{l:List OpL}(h:A1 osR w s l){i:Nat}{x:OpL}(hx:l[i]?=some x){K:Sl->Pr}(k:K x.s w):Ix s (i:Int) 1 (λa=>DN a K) w:=by
 obtain⟨a,ha,hc⟩:=h.at hx;have hi:=(List.getElem?_eq_some_iff.1 hx).1;have hl:s.len=l.length:=h.len;unfold Ix;rw[ha];refine⟨by omega,by omega,?_⟩;rw[Int.toNat_natCast];have h0:=hc 0 (.slice x.s.p x.s.len x.s.cap) rfl;rw[add_add,Nat.add_zero]at h0;exact DO (k:=.sl) (x:=x.s) h0 k
def Aoy (j:Int)(M:List Pa):PS:=⟨{c0 with id:=j,Au:=1},Aaa,[],[],[],⟨[],[]⟩,[],[],[],none,M⟩
def Aox (j:Int)(M:List Pa):PS:=⟨{c0 with id:=j,Au:=1,CZ:=7,move:=7},Aaa,[],[],[],⟨[],[]⟩,[],[],[],none,M⟩
def mapM (j:Int):PM:={PM.zero with kind:=8,dst:=j,CZ:=7,Ao:=1,move:=7,Ac:=Aaa}
theorem Alx (M:List Pa):((Aoy 1 M).CA (mapM 1)).clear=Aox 1 M:=by kernel_rfl
theorem Aly (M:List Pa):((Aoy 2 M).CA (mapM 2)).clear=Aox 2 M:=by kernel_rfl
theorem Ajy (M:List Pa):(Aoy 1 M).OU (mapM 1)=false:=by kernel_rfl
theorem Aji (M:List Pa):(Aoy 2 M).OU (mapM 2)=false:=by kernel_rfl
theorem Anl:OA {c0 with id:=1} Aaa [] []=true:=by kernel_rfl
theorem Anp:OA {c0 with id:=2} Aaa [] []=true:=by kernel_rfl
theorem AkQ (j:Int):ZM (mapM j):=AfA AeP AeP Ajb AiY Ajb AeP
theorem PXz {j:Int}(hj:1<=j/\j<=4){M:List Pa}(hM:AU M)(hN:M.length<=200000):PX (Aoy j M):=by
 have c:CX (Aoy j M).c:=⟨hj,⟨AiY,AeP,AiY,AeP,AeP,AeP,AeP,AeP,AeP⟩,rfl,Tw,Tw,.inr (by kernel_rfl),.inr (by kernel_rfl)⟩;exact⟨⟨⟨List.Pairwise.nil,List.Pairwise.nil,by simp[Aoy],List.Pairwise.nil,⟨List.Pairwise.nil,by simp[Aoy]⟩,by simp[Aoy],by simp[Aoy],hM,hN,rfl,by simp[Aoy],rfl,by simp[Aoy,PS.left],by simp[Aoy],by simp[Aoy]⟩,⟨c.r,by simp[Aoy],by simp[Aoy],by simp[Aoy]⟩,⟨by simp[Aoy],by simp[Aoy],by simp[Aoy,Aaa]⟩,rfl⟩,⟨⟨(λx hx=>by cases hx),(λx hx=>by cases hx),(λx hx=>by cases hx),(λx hx=>by cases hx),(λx hx=>by cases hx),List.nodup_nil⟩,(λx hx=>by cases hx),⟨(λx hx=>by cases hx),(λx hx=>by cases hx)⟩⟩,c,(by show Be Aaa=true;kernel_rfl),(λb hb=>by cases hb)⟩
theorem Ams (hM:AU M)(hN:M.length<=200000):PX (Aox 1 M):=by
 rw[<-Alx];exact((PXz (by omega) hM hN).taken (AkQ 1) (Ajy M)).1.clear
theorem Ana (hM:AU M)(hN:M.length<=200000):PX (Aox 2 M):=by
 rw[<-Aly];exact((PXz (by omega) hM hN).taken (AkQ 2) (Aji M)).1.clear
theorem Ady (M:List Pa)(lo hi:ByteArray):(BM M lo hi (-1)).Sublist M:=by
 unfold BM;rw[if_pos (by omega)];exact List.filter_sublist
theorem R7 (hM:AU M)(lo hi:ByteArray):AU (BM M lo hi (-1))/\(BM M lo hi (-1)).length<=M.length:=⟨hM.sub (Ady M lo hi),(Ady M lo hi).length_le⟩
theorem Ajv (hM:AU M)(h40:M.length<=40):Rnd 0 (Aox 1 (BM M (BA []) mK (-1))) (Aox 2 (BM M mK (BA []) (-1))):=by
 obtain⟨a1,a2⟩:=R7 hM (BA []) mK;obtain⟨b1,b2⟩:=R7 hM mK (BA []);refine⟨0,⟨Ams a1 (by omega),rfl,rfl,rfl,rfl,rfl,rfl,by show(BM M (BA []) mK (-1)).length<=1000;omega⟩,⟨Ana b1 (by omega),rfl,rfl,rfl,.inl ⟨rfl,rfl⟩,by show((BM M mK (BA []) (-1)).length:Int)<=_;omega,by omega,rfl⟩,⟨rfl,rfl,rfl⟩,?_,by show(BM M (BA []) mK (-1)).length<=_;omega⟩;show ShO (BM M (BA []) mK (-1)) (BM M mK (BA []) (-1)) 0 (41+8*0);refine⟨rfl,λk hk v hv=>?_,by omega⟩;unfold BM at hv;rw[if_pos (by omega)]at hv;have h1:=(List.mem_filter.1 hv).2;unfold DP at h1;simp only[Bool.and_eq_true,Bool.not_eq_true']at h1;have h2:=h1.2.2.1;rcases(Ir.1 hk).2 with h3|h3
 ·exact AcU kr0.h h3
 ·rw[h3]at h2;cases h2
def cpM (f:Bool):Mg:=⟨10,0,1,0,0,2,0,0,0,0,7,0,7,0,0,f,cK,mK,⟨none,0,0⟩,⟨none,0,0⟩,⟨none,0,0⟩,[],[],[]⟩
def woM (t:Int)(s:Sl)(ops:List Op):Mg:=⟨3,0,1,0,0,0,0,0,t,t,0,1,0,0,0,false,BA [],BA [],s,⟨none,0,0⟩,⟨none,0,0⟩,ops,[],[]⟩
def deM (t:Int):Mg:=⟨5,0,1,0,0,0,0,0,t,0,0,0,0,0,0,true,BA [],BA [],⟨none,0,0⟩,⟨none,0,0⟩,⟨none,0,0⟩,[],[],[]⟩
def maM (j:Int)(s:Sl):Mg:=⟨8,0,j,0,0,0,0,0,0,0,7,1,7,0,0,false,BA [],BA [],⟨none,0,0⟩,⟨none,0,0⟩,s,[],[],Aaa⟩
theorem cpD {w:World}(f:Bool):Bq T (Su (cpM f)) w:=mgz rfl rfl rfl rfl rfl rfl
theorem deD {w:World}(t:Int):Bq T (Su (deM t)) w:=mgz rfl rfl rfl rfl rfl rfl
theorem woD {w:World}{t:Int}{s:Sl}{ops:List Op}(h:A1 BQ w s ops)(hT:∀b∈rb s,T b=0):Bq T (Su (woM t s ops)) w:=
 (Bq.of h hT).map λw hw=>⟨hw,⟨A1.nil w,by simp[woM]⟩,A1.nil w⟩
theorem maD {w:World}{j:Int}{s:Sl}(h:A1 Mj w s Aaa)(hT:∀b∈rb s,T b=0):Bq T (Su (maM j s)) w:=
 (Bq.of h hT).map λw hw=>⟨A1.nil w,⟨A1.nil w,by simp[maM]⟩,hw⟩
theorem AkO {w:World}{b:Nat}{t:TypeId}{x y:Mg}(h:w.heap[b]?=some (.cells (Yz.c x++Yz.c y).toArray t (0,0))):BH (some ⟨b,0,none⟩) 2 21 ([x,y].flatMap Yz.c) w:=by
 have e:[x,y].flatMap Yz.c=Yz.c x++Yz.c y:=by simp
 rw[e];exact⟨by rw[List.length_append,Yz.len,Yz.len];rfl,λj v hj=>⟨_,rfl,by rw[Cr,cell_of h,Nat.zero_add];simpa using hj⟩⟩
def dz (j:Int)(a:Nat):Sd:=⟨{c0 with id:=j},⟨some ⟨a,0,none⟩,3,3⟩,⟨none,0,0⟩,⟨none,0,0⟩,Aaa,[],[]⟩
theorem Adt {w:World}{a:Nat}{t:TypeId}(h:w.heap[a]?=some (.cells #[.string (BA []),.int .i64 1,.string (BA [99]),.int .i64 1,.string (BA [109]),.int .i64 2] t (0,0))):Bh Mj w ⟨some ⟨a,0,none⟩,3,3⟩ Aaa:=by
 refine⟨rfl,Nat.le_refl _,.inr ⟨a,0,_,_,_,rfl,h,(show(6:Nat)<=6 from Nat.le_refl _),λj _=>?_,λj _=>?_⟩⟩
 ·rw[Nat.zero_add];show(#[Value.string (BA []),.int .i64 1,.string (BA [99]),.int .i64 1,.string (BA [109]),.int .i64 2]:Array Value)[j]?=([Value.string (BA []),.int .i64 1,.string (BA [99]),.int .i64 1,.string (BA [109]),.int .i64 2]:List Value)[j]?;simp
 ·simp
theorem dzD {w:World}{a:Nat}{j:Int}(h:Bh Mj w ⟨some ⟨a,0,none⟩,3,3⟩ Aaa):YP (dz j a) w:=⟨h.C6,A1.nil _,by simp[dz],A1.nil _⟩
theorem dzN (j:Int)(a:Nat):XU (dz j a):=⟨show(3:Nat)<=100000 by decide,show(0:Nat)<=100000 by decide,show(0:Nat)<=200000 by decide,by simp[dz]⟩
theorem AjF {a:Nat}:∀b∈rb (⟨some ⟨a,0,none⟩,3,3⟩:Sl),b=a:=by
 intro b hb;rw[Uf (by simp)]at hb;simpa[OT]using hb
end Go.Proofs.YthkdehgfdllpoaaGreat
