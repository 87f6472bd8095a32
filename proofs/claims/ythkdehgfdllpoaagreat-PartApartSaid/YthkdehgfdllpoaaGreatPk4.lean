/- The parts of the proof, 4: words of the program, and what they do. Conditions: none. -/
import Derived.Test.YthkdehgfdllpoaaGreatPk3
import Derived.Lib.Bytealg
set_option maxRecDepth 100000
set_option linter.unusedVariables false
set_option linter.unusedSimpArgs false
set_option linter.unusedSectionVars false
namespace Go.Proofs.YthkdehgfdllpoaaGreat
open Go Go.Sx
def O5:List Int→Int→List Int
 | [],n=>[n]
 | x :: t,n=>if x < n then x :: O5 t n else if x=n then x :: t else n :: x :: t
def Dk (l:List Int):List Int:=l.foldl O5 []
theorem TY {x n:Int}:∀ {l:List Int},x∈O5 l n ↔ x=n∨x∈l
 | []=>by simp [O5]
 | y :: t=>by
  unfold O5;split
  ·simp only [List.mem_cons,TY (l:=t)];constructor <;> (rintro (h | h | h) <;> simp [h])
  ·split
   ·rename_i h;subst h;simp
   ·simp
theorem Rr {n:Int}:∀ {l:List Int},l.Pairwise (· < ·)→(O5 l n).Pairwise (· < ·)
 | [],_=>by simp [O5]
 | y :: t,h=>by
  have h1:=List.pairwise_cons.1 h;unfold O5;split
  ·rename_i hy;refine List.pairwise_cons.2 ⟨fun z hz=>?_,Rr h1.2⟩;rcases TY.1 hz with rfl | hz
   ·exact hy
   ·exact h1.1 z hz
  ·split
   ·exact h
   ·rename_i hy1 hy2;refine List.pairwise_cons.2 ⟨fun z hz=>?_,h⟩;rcases List.mem_cons.1 hz with rfl | hz
    ·omega
    ·have:=h1.1 z hz;omega
theorem Qh:∀ {l acc:List Int},acc.Pairwise (· < ·)→(l.foldl O5 acc).Pairwise (· < ·)
 | [],_,h=>h
 | x :: l,_,h=>Qh (l:=l) (Rr h)
theorem Xb {x:Int}:∀ {l acc:List Int},x∈l.foldl O5 acc ↔ x∈acc∨x∈l
 | [],_=>by simp
 | y :: l,acc=>by
  rw [List.foldl_cons,Xb (l:=l),TY,List.mem_cons];constructor
  ·rintro ((h | h) | h) <;> simp [h]
  ·rintro (h | h | h) <;> simp [h]
theorem Sg (l:List Int):(Dk l).Pairwise (· < ·):=Qh (by simp)
theorem EP {x:Int} {l:List Int}:x∈Dk l ↔ x∈l:=by unfold Dk;rw [Xb];simp
theorem Xt {l r:List Int} (h:r.Pairwise (· < ·)) (hm:∀ x,x∈r ↔ x∈l):r=Dk l:=VO h (Sg l) (fun x=>(hm x).trans EP.symm)
def P1 (s:TS) (y:Ak):Bool:=!(s.held.any (fun h=>B8 y h))
def Dd (x:Ak) (s:TS):List Int × TS:=AL x ⟨s.held,s.wait.filter (fun y=>!(y.n == x.n))⟩
def AT:Nat→TS→List Int→List Int→TS × List Int × List Int
 | 0,s,g,d=>(s,g,d)
 | k + 1,s,g,d=>match s.wait.find? (P1 s) with
  | none=>(s,g,d)
  | some x=>AT k (Dd x s).2 (g ++ [x.n]) (d ++ (Dd x s).1)
theorem GF {l:List Ak} {x:Ak} (h:x∈l):(l.filter (fun y=>!(y.n == x.n))).length < l.length:=by
 have h1:=List.length_filter_le (fun y:Ak=>!(y.n == x.n)) l;rcases Nat.lt_or_eq_of_le h1 with h2 | h2
 ·exact h2
 ·have:=List.length_filter_eq_length_iff.1 h2 x h;simp at this
theorem Ab7 {s:TS} (ho:IP s) {x:Ak} (hx:x∈s.wait):IP ⟨s.held ++ [x],s.wait.filter (fun y=>!(y.n == x.n))⟩:=by
 refine ⟨ho.wt.filter _,?_⟩;have h1:=GF hx;have:=ho.few;simp only [List.length_append,List.length_singleton];omega
theorem LQ (d:List Int):∀ (s:TS),(Ca d s).wait.length≤s.wait.length:=by
 unfold Ca;induction d with
 | nil=>intro s;exact Nat.le_refl _
 | cons n d ih=>
  intro s;refine Nat.le_trans (ih _) ?_;exact List.length_filter_le _ _
theorem Acw {s:TS} {x:Ak} (hx:x∈s.wait):(Dd x s).2.wait.length < s.wait.length:=
 Nat.lt_of_le_of_lt (LQ _ _) (GF hx)
theorem IP.pick {s:TS} (ho:IP s) {x:Ak} (hx:x∈s.wait):IP (Dd x s).2:=IP.Ca (Ab7 ho hx)
theorem IP.settle:∀ {k:Nat} {s:TS} {g d:List Int},IP s→IP (AT k s g d).1
 | 0,s,g,d,h=>h
 | k + 1,s,g,d,h=>by
  unfold AT;split
  ·exact h
  ·rename_i x hx;exact IP.settle (h.pick (List.mem_of_find?_eq_some hx))
theorem erase_filter {l:List Ak} (hs:l.Pairwise (fun a b=>a.n < b.n)) {i:Nat} {x:Ak} (hx:l[i]?=some x):l.eraseIdx i=l.filter (fun y=>!(y.n == x.n)):=by
 induction l generalizing i with
 | nil=>simp at hx
 | cons y t ih=>
  have h1:=List.pairwise_cons.1 hs;cases i with
  | zero=>
   simp only [List.getElem?_cons_zero,Option.some.injEq] at hx;subst hx;rw [List.eraseIdx_cons_zero,List.filter_cons_of_neg (by simp),List.filter_eq_self.2];intro z hz;have:=h1.1 z hz;have:¬ z.n=y.n:=by omega
   simp [this]
  | succ i=>
   rw [List.getElem?_cons_succ] at hx;have hm:=h1.1 x (List.mem_of_getElem? hx);have hne:¬ y.n=x.n:=by omega
   rw [List.eraseIdx_cons_succ,List.filter_cons_of_pos (by simp [hne]),ih h1.2 hx]
theorem Aak {w:World} {e t:Nat} {H:Nat→Prop} {s:TS} {sh sw:Sl} (he:w.heap[e]?=some (.cells #[.pointer (some ⟨t,0,none⟩)] 88 (0,0))) (h:NH w t H s sh sw) (ho:IP s) :
  QX (.func (.func 106) #[] #[.pointer (some ⟨e,0,none⟩)]) (P1 s) [] w:=by
 intro w1 k1 y;have he:=k1.at he (by simp);have g1:=h.Ab k1;have hfew:=ho.few;refine BJ (by kernel_rfl) ?_;refine AR fun R hR=>?_;apply HQ;unfold F9;dsimp only [Cg,Ll,Gs,Vp,Vs];refine Ad fun a w2 ha na k2=>?_;have he:=k2.at he (by simp);have g2:=g1.Ab k2;simp only [CP,he,g2.hd,ha,Ck,Nat.reduceAdd];refine Cl.mono (O4 y _) ?_;rintro ⟨f,_⟩ w3 ⟨c,nc,hf,k3⟩;dsimp only at hf ⊢;have he:=k3.at (w:=w2.drew) he (by simp);have g3:=(g1.Ab k2.drew).Ab k3;simp only [CP,he,g3.hd,Ck,Nat.reduceAdd];refine ⟨by trivial,by trivial,?_⟩;refine Cl.mono (L8 g3.h (hf [] (by simp)) (by omega)) ?_;rintro ⟨q,_⟩ w4 ⟨e4,k4⟩;dsimp only at e4;subst e4;exact hR _ _ ⟨rfl,Aj (Aj k2.drew k3) k4⟩
theorem AgJ {l:List Ak} {p:Ak→Bool} {i:Nat} {x:Ak} (hx:l[i]?=some x) (hp:p x=true) (hn:∀ y∈l.take i,p y=false):l.find? p=some x:=by
 induction l generalizing i with
 | nil=>simp at hx
 | cons y t ih=>
  cases i with
  | zero=>
   simp only [List.getElem?_cons_zero,Option.some.injEq] at hx;subst hx;exact List.find?_cons_of_pos hp
  | succ i=>
   rw [List.find?_cons_of_neg (by rw [hn y (by simp)];simp)];exact ih hx (fun z hz=>hn z (by simp [hz]))
theorem WN {w:World} {t:Nat} {H:Nat→Prop} {s:TS} (h:Ny w t H s) (ho:IP s) {pd:Sl} {d0:List Int} (hd:AE w pd 1 (cU d0)) (hdn:∀ y∈Ai pd,¬ H y) (hd0:d0.length + s.wait.length * 200≤40000) :
  Cl Pg 67 [.pointer (some ⟨t,0,none⟩),.slice pd.p pd.len pd.cap] true [.sc .sl,.sc .sl] (fun r w'=>∃ H',Ny w' t H' (AT s.wait.length s [] d0).1∧Fr H H' w∧A4 (fun x=>H x∨x∈Ai pd) w w' ∧
   AE w' r.1 1 (cU (Dk (AT s.wait.length s [] d0).2.1))∧AE w' r.2.1 1 (cU (Dk (AT s.wait.length s [] d0).2.2))∧(∀ y∈Ai r.1,w.heap.size≤y∧¬ H' y)∧(∀ y∈Ai r.2.1,(y∈Ai pd∨w.heap.size≤y)∧¬ H' y)∧(∀ y∈Ai r.1,y ∉ Ai r.2.1)) w:=by
 refine AR fun R hR=>?_;apply Km;unfold H0;dsimp only [Cg,Ll,Lu,Gs,UY,Ts,Vi,Vp,Vs,Vu,Vm];have hfew0:=ho.few;refine Ad fun e w1 he ne k1=>?_;have heH:¬ H e:=fun hx=>by have:=h.bl e hx;omega
 have hepd:e ∉ Ai pd:=fun hx=>by have:=hd.lt e hx;omega
 have le:=Av he;obtain ⟨D,hD⟩:∃ D,D=AT s.wait.length s [] d0:=⟨_,rfl⟩;rw [← hD] at hR
 refine ⟨fun n st w'=>∃ (s':TS) (H':Nat→Prop) (ds gs q1 q2:Sl) (g d:List Int),st=(ds,q1,q2,gs,())∧s'.wait.length≤n∧AT n s' g d=D∧Ny w' t H' s'∧IP s'∧Fr H H' w1∧A4 (fun x=>H x∨x∈Ai pd) w1 w' ∧
   AE w' ds 1 (cU d)∧AE w' gs 1 (cU g)∧(∀ y∈Ai ds,(y∈Ai pd∨w1.heap.size≤y)∧¬ H' y)∧(∀ y∈Ai gs,w1.heap.size≤y∧¬ H' y)∧(∀ y∈Ai gs,y ∉ Ai ds)∧d.length + s'.wait.length * 200≤40000∧g.length + s'.wait.length≤200,
  ⟨_,s,H,pd,⟨none,0,0⟩,⟨none,0,0⟩,⟨none,0,0⟩,[],d0,rfl,Nat.le_refl _,hD.symm,h.Ab k1,ho,Fr.refl _ _,A4.refl _ _,hd.keeps k1 (by simp),AE.nil _ 1,fun y hy=>⟨.inl hy,hdn y hy⟩,by simp [Ai],by simp [Ai],hd0,by simp;omega⟩,?_⟩
 rintro n _ w2 ⟨s',H',ds,gs,q1,q2,g,d,rfl,hn,hset,h2,ho2,f2,kp2,hds,hgs,hnd,hng,hdg,hb1,hb2⟩;dsimp only;have he2:w2.heap[e]?=_:=kp2.at he (fun hx=>hx.elim heH hepd);have heH':¬ H' e:=fun hx=>by rcases f2 e hx with h' | h';exact heH h';omega
 have hed:e ∉ Ai ds:=fun hx=>by rcases (hnd e hx).1 with h' | h';exact hepd h';omega
 have heg:e ∉ Ai gs:=fun hx=>by have:=(hng e hx).1;omega
 obtain ⟨sh,sw,h2⟩:=h2;have hfew:=ho2.few;have hlw:=UH h2.w;simp only [CP,he2,h2.hd,Ck,Nat.reduceAdd];refine Cl.mono (Xi h2.w (Aak he2 h2 ho2) (by omega)) ?_;rintro ⟨r,_⟩ w3 ⟨hr,k3⟩;dsimp only at hr ⊢;have g3:=h2.Ab k3;have he3:=k3.at he2 (by simp);have hds3:=hds.keeps k3 (by simp);have hgs3:=hgs.keeps k3 (by simp);have s12:=kp2.size;have s23:=k3.size;have s01:=k1.size;rcases hr with ⟨i,x,rfl,hx,hfx,hpre⟩ | ⟨rfl,hnone⟩
 ·
  have hfind:s'.wait.find? (P1 s')=some x:=AgJ hx hfx hpre;have hxm:x∈s'.wait:=List.mem_of_getElem? hx;have hwl:=Acw hxm;obtain ⟨k,rfl⟩:∃ k,n=k + 1:=⟨n - 1,by omega⟩;rw [AT,hfind] at hset;dsimp only at hset;have hi:=(List.getElem?_eq_some_iff.1 hx).1;rw [show decide ((i:Int) < 0)=false from decide_eq_false (by omega)];simp only [CP,he3,g3.hd,Ck,Nat.reduceAdd];refine AdA g3.w hx ?_;refine bx4 fun b w4 hb n4 k4=>?_;have g4:=g3.Ab k4;have he4:=k4.at he3 (by simp);simp only [CP,he4,g4.hd,Ck,Nat.reduceAdd];have kd:Aa [] w4 w4.drew:=(Aa.refl _ _).drew;have g4':=g4.Ab kd;rw [AK (by omega)];refine Cl.mono (Acy g4'.w hi (by omega) rfl rfl) ?_;rintro ⟨r5,_⟩ w5 ⟨h5,hb5,k5⟩;dsimp only at h5 hb5 ⊢;rw [erase_filter ho2.wt hx] at h5;have hesw:e ∉ Ai sw:=fun hx=>heH' ((h2.own e).2 (.inr (.inr hx)));have he5:=k5.at (show w4.drew.heap[e]?=_ from he4) hesw;simp only [CP,he5,Ck,Nat.reduceAdd];refine ⟨by trivial,?_⟩;have hd5:=k5.at g4'.hd g4'.tw;refine Ax hd5 1 _ rfl (by simp) fun w6 hd6 k6=>?_;obtain ⟨H6,g6,f6,kp6⟩:=g4'.AhA k5 h5 (fun z hz=>.inl (hb5 z hz)) k6 hd6;have het:e ∉ [t]:=by simp;rintro rfl;exact heH' ((h2.own e).2 (.inl rfl))
  have he6:=k6.at he5 het;have hbsw:b ∉ Ai sw:=fun hx=>by have:=g3.w.lt b hx;omega
  have hbt:b ∉ [t]:=by simp;rintro rfl;have:=Av g3.hd;omega
  have hb6:=k6.at (k5.at (show w4.drew.heap[b]?=_ from hb) hbsw) hbt;have notH:∀ z,¬ H' z→z ∉ Ai sw∧z ∉ [t]:=fun z hz=>⟨fun hx=>hz ((h2.own z).2 (.inr (.inr hx))),by simp;rintro rfl;exact hz ((h2.own z).2 (.inl rfl))⟩;have hds6:AE w6 ds 1 (cU d):=(((hds3.keeps k4 (by simp)).keeps kd (by simp)).keeps k5 (fun z hz=>(notH z (hnd z hz).2).1)).keeps k6 (fun z hz=>(notH z (hnd z hz).2).2);have hgs6:AE w6 gs 1 (cU g):=(((hgs3.keeps k4 (by simp)).keeps kd (by simp)).keeps k5 (fun z hz=>(notH z (hng z hz).2).1)).keeps k6 (fun z hz=>(notH z (hng z hz).2).2);have s34:=k4.size;have s45:w4.heap.size≤w5.heap.size:=k5.size;have s56:=k6.size;have Hsub:∀ z,H6 z→z < w4.heap.size→H' z:=fun z hz hlt=>(f6 z hz).elim id (fun h=>by have h:w4.heap.size≤z:=h;omega);have nH6:∀ z,z < w2.heap.size→¬ H' z→¬ H6 z:=fun z hl hz hx=>hz (Hsub z hx (by omega));simp only [CP,hb6,Ck,Nat.reduceAdd];have hgl:=DJ hgs6;refine W9 (bytes:=8) (new:=[.int .u64 x.n]) hgs6 (by simp) (by simp [Value.oneCell']) (by kernel_rfl) (by omega) (by omega) ?_;intro r7 w7 h7 _ k7 hb7;have hgnH:∀ z∈Ai gs,¬ H6 z:=fun z hz=>nH6 z (hgs.lt z hz) (hng z hz).2;have g7:Ny w7 t H6 ⟨s'.held,s'.wait.filter (fun y=>!(y.n == x.n))⟩:=Ny.keeps ⟨_,_,g6⟩ (k7.FY (F:=fun z=>z∈Ai gs) (fun z hz=>.inl hz)) (fun z hz hz'=>hgnH z hz' hz);have he7:=k7.at he6 heg;have hbgs:b ∉ Ai gs:=fun hx=>by have:=hgs3.lt b hx;omega
  have hb7':=k7.at hb6 hbgs;have hds7:=hds6.keeps k7 (fun z hz hz'=>hdg z hz' hz);simp only [CP,he7,hb7',Ck,Nat.reduceAdd];refine Cl.mono (Zw g7 (Ab7 ho2 hxm)) ?_;rintro ⟨r8,_⟩ w8 ⟨H8,h8,f8,k8,hr8,hn8⟩;dsimp only at hr8 hn8 ⊢;have s67:=k7.size;have s78:=k8.size;have hds8:=hds7.Ue k8 (fun z hz=>nH6 z (hds.lt z hz) (hnd z hz).2);have hr7n:∀ z∈Ai r7,¬ H6 z:=fun z hz=>by
   rcases hb7 z hz with h' | h'
   ·exact hgnH z h'
   ·intro hx;have:=g6.bl z hx;omega
  have h7':AE w7 r7 1 (cU (g ++ [x.n])):=by rw [cU,List.map_append];exact h7
  have hr7:=h7'.Ue k8 hr7n;have hl8:=DJ hr8;have hdl:=DJ hds8;have hkl:(Dd x s').1.length≤192:=by
   have:(Dd x s').1.length≤(s'.wait.filter (fun y=>!(y.n == x.n))).length:=Ln x (s'.wait.filter (fun y=>!(y.n == x.n)));have h1:=GF hxm;omega
  have hrl:r8.len=(Dd x s').1.length:=hl8;refine MZ hds8 hr8.rdc (by rw [Rf,Nat.mul_one];exact hl8.symm) (AhS _) (by kernel_rfl) (by omega) (by omega) ?_;intro r9 w9 h9 _ k9 hb9;have F8:∀ z,z < w2.heap.size→¬ H' z→¬ H8 z:=fun z hl hz hx=>by
   rcases f8 z hx with h' | h'
   ·exact nH6 z hl hz h'
   ·omega
  have hdn8:∀ z∈Ai ds,¬ H8 z:=fun z hz=>F8 z (hds.lt z hz) (hnd z hz).2;have s89:=k9.size;refine ⟨k,by omega,(Dd x s').2,H8,r9,r7,q1,q2,g ++ [x.n],d ++ (Dd x s').1,rfl,by omega,hset,h8.keeps (k9.FY (F:=fun z=>z∈Ai ds) (fun z hz=>.inl hz)) (fun z hz hz'=>hdn8 z hz' hz),ho2.pick hxm,?_,?_,?_,?_,?_,?_,?_,?_,?_⟩
  ·intro z hz;rcases f8 z hz with h' | h'
   ·rcases f6 z h' with h'' | h''
    ·rcases f2 z h'' with h3 | h3
     ·exact .inl h3
     ·exact .inr (by omega)
    ·have h'':w4.heap.size≤z:=h'';exact .inr (by omega)
   ·exact .inr (by omega)
  ·have a1:A4 (fun x=>H x∨x∈Ai pd) w1 w4.drew:=kp2.step (Aj (Aj k3 k4) kd) (by simp);have a2:A4 (fun x=>H x∨x∈Ai pd) w1 w6:=a1.trans kp6 (fun z hz=>(f2 z hz).elim (fun h=>.inl (.inl h)) .inr);have a3:A4 (fun x=>H x∨x∈Ai pd) w1 w7:=a2.step k7 (fun z hz=>.inr (hng z hz).1);have a4:A4 (fun x=>H x∨x∈Ai pd) w1 w8:=a3.trans k8 (fun z hz=>by
    rcases f6 z hz with h' | h'
    ·exact (f2 z h').elim (fun h=>.inl (.inl h)) .inr
    ·have h':w4.heap.size≤z:=h';exact .inr (by omega))
   exact a4.step k9 (fun z hz=>(hnd z hz).1.elim (fun h=>.inl (.inr h)) .inr)
  ·have e1:cU (d ++ (Dd x s').1)=cU d ++ cU (Dd x s').1:=by rw [cU,List.map_append];rfl
   rw [e1];exact h9
  ·exact hr7.keeps k9 (fun z hz hz'=>by
    rcases hb7 z hz with h' | h'
    ·exact hdg z h' hz'
    ·have:=hds6.lt z hz';omega)
  ·intro z hz;rcases hb9 z hz with h' | h'
   ·exact ⟨(hnd z h').1,hdn8 z h'⟩
   ·exact ⟨.inr (by omega),fun hx=>by have:=h8.bl z hx;omega⟩
  ·intro z hz;have hz6:=hr7n z hz;refine ⟨?_,fun hx=>?_⟩
   ·rcases hb7 z hz with h' | h'
    ·exact (hng z h').1
    ·omega
   ·rcases f8 z hx with h' | h'
    ·exact hz6 h'
    ·have:=h7.lt z hz;omega
  ·intro z hz hz9;rcases hb9 z hz9 with h' | h'
   ·rcases hb7 z hz with h3 | h3
    ·exact hdg z h3 h'
    ·have:=hds6.lt z h';omega
   ·have:=hr7.lt z hz;omega
  ·rw [List.length_append];omega
  ·rw [List.length_append,List.length_singleton];omega
 ·
  have hfind:s'.wait.find? (P1 s')=none:=List.find?_eq_none.2 (fun y hy=>by rw [hnone y hy];simp);have hDe:D=(s',g,d):=by
   rw [← hset];cases n with
   | zero=>rfl
   | succ n=>rw [AT,hfind]
  rw [show decide ((-1:Int) < 0)=true from rfl];simp only [Af];refine Cl.mono (AdK hgs3 (by omega)) ?_;rintro ⟨r4,_⟩ w4 ⟨l4,h4,hp4,hm4,hb4,k4⟩;dsimp only at h4 hb4 ⊢;refine Cl.mono (AdK (hds3.keeps k4 (fun z hz hz'=>hdg z hz' hz)) (by omega)) ?_;rintro ⟨r5,_⟩ w5 ⟨l5,h5,hp5,hm5,hb5,k5⟩;dsimp only at h5 hb5 ⊢;refine hR (r4,r5,()) _ ?_;rw [hDe];dsimp only;rw [← Xt hp4 hm4,← Xt hp5 hm5];have s45:=k4.size;refine ⟨H',?_,fun z hz=>(f2 z hz).elim .inl (fun h=>.inr (by omega)),?_,h4.keeps k5 (fun z hz hz'=>hdg z (hb4 z hz) hz'),h5,fun z hz=>?_,fun z hz=>?_,fun z hz hz'=>hdg z (hb4 z hz) (hb5 z hz')⟩
  ·have a1:Ny w4 t H' s':=Ny.keeps ⟨_,_,g3⟩ (k4.FY (F:=fun z=>z∈Ai gs) (fun z hz=>.inl hz)) (fun z hz hz'=>(hng z hz').2 hz);exact a1.keeps (k5.FY (F:=fun z=>z∈Ai ds) (fun z hz=>.inl hz)) (fun z hz hz'=>(hnd z hz').2 hz)
  ·have a0:A4 (fun x=>H x∨x∈Ai pd) w w2:=(k1.FY (F:=fun x=>H x∨x∈Ai pd) (by simp)).same kp2;have a1:=a0.step k3 (by simp);have a2:=a1.step k4 (fun z hz=>.inr (by have:=(hng z hz).1;omega));exact a2.step k5 (fun z hz=>(hnd z hz).1.elim (fun h=>.inl (.inr h)) (fun h=>.inr (by omega)))
  ·obtain ⟨h',h''⟩:=hng z (hb4 z hz);exact ⟨by omega,h''⟩
  ·obtain ⟨h',h''⟩:=hnd z (hb5 z hz);exact ⟨h'.elim .inl (fun h=>.inr (by omega)),h''⟩
open Go Go.Sx
def F7 (x y:Ak):Bool:=y.n == x.n && (CW y.lo y.hi x.lo x.hi && (y.wr || !x.wr))
def QN (x:Ak) (l:List Ak):List Ak:=l.filter (fun y=>decide (y.n < x.n)) ++ x :: l.filter (fun y=>!decide (y.n < x.n))
def MM (x:Ak) (l:List Ak):Bool:=l.all (fun y=>!B8 x y || decide (x.n < y.n))
def Bc (x:Ak) (s:TS):(Int × List Int × List Int × Int) × TS:=
 if Da x.lo x.hi=false then ((0,[],[],21),s)
 else if s.wait.any (fun y=>y.n == x.n) then ((0,[],[],4),s)
 else if s.held.any (F7 x) then ((1,[],[],0),s)
 else if 192≤s.held.length + s.wait.length then ((3,[],[],0),s)
 else if s.held.any (B8 x)=false then
  let q:=AT (AL x s).2.wait.length (AL x s).2 [] (AL x s).1
  ((1,Dk q.2.1,Dk q.2.2,0),q.1)
 else if MM x s.held then ((2,[],[],0),⟨s.held,QN x s.wait⟩)
 else ((3,[],[],0),s)
def ES (n:Int) (s:TS):(List Int × List Int) × TS:=
 let q:=AT (CJ n s).wait.length (CJ n s) [] []
 ((Dk q.2.1,Dk q.2.2),q.1)
theorem AfN {x:Ak} {l:List Ak} {i:Nat} (h1:∀ y∈l.take i,y.n < x.n) (h2:∀ y∈l.drop i,x.n≤y.n):QN x l=l.take i ++ x :: l.drop i:=by
 unfold QN;have e:l.filter (fun y=>decide (y.n < x.n))=l.take i:=by
  conv=>lhs;rw [← List.take_append_drop i l]
  rw [List.filter_append,List.filter_eq_self.2 (fun y hy=>by simpa using h1 y hy),List.filter_eq_nil_iff.2 (fun y hy=>by simpa using h2 y hy),List.append_nil]
 have e2:l.filter (fun y=>!decide (y.n < x.n))=l.drop i:=by
  conv=>lhs;rw [← List.take_append_drop i l]
  rw [List.filter_append,List.filter_eq_nil_iff.2 (fun y hy=>by simpa using h1 y hy),List.filter_eq_self.2 (fun y hy=>by simpa using h2 y hy),List.nil_append]
 rw [e,e2]
theorem Zz (p:Ak→Bool) (l:List Ak):(l.filter p).length + (l.filter (fun y=>!p y)).length=l.length:=by
 induction l with
 | nil=>rfl
 | cons y t ih=>
  cases h:p y <;> simp [h] <;> omega
theorem Aew (x:Ak) (l:List Ak):(QN x l).length=l.length + 1:=by
 unfold QN;rw [List.length_append,List.length_cons];have:=Zz (fun y:Ak=>decide (y.n < x.n)) l;omega
theorem AfL {x:Ak} {s:TS} (ho:IP s) (hn:s.wait.any (fun y=>y.n == x.n)=false) (hf:s.held.length + s.wait.length < 192):IP ⟨s.held,QN x s.wait⟩:=by
 refine ⟨?_,by show s.held.length + (QN x s.wait).length≤192;rw [Aew];omega⟩;show (QN x s.wait).Pairwise _;unfold QN;rw [List.pairwise_append,List.pairwise_cons];refine ⟨ho.wt.filter _,⟨fun y hy=>?_,ho.wt.filter _⟩,fun a ha b hb=>?_⟩
 ·rw [List.mem_filter] at hy;have h1:¬ y.n=x.n:=by simpa using List.any_eq_false.1 hn y hy.1
  have h2:¬ y.n < x.n:=by simpa using hy.2
  omega
 ·have h1:a.n < x.n:=by simpa using (List.mem_filter.1 ha).2
  rcases List.mem_cons.1 hb with rfl | hb
  ·exact h1
  ·have h2:¬ b.n < x.n:=by simpa using (List.mem_filter.1 hb).2
   omega
theorem Ab9 {x:Ak} {s:TS} (ho:IP s):IP (Bc x s).2:=by
 unfold Bc;split
 ·exact ho
 split
 ·exact ho
 rename_i hw;split
 ·exact ho
 split
 ·exact ho
 rename_i hf;split
 ·refine IP.settle (IP.Ca ⟨ho.wt,?_⟩);show (s.held ++ [x]).length + s.wait.length≤192;rw [List.length_append,List.length_singleton];omega
 split
 ·exact AfL ho (by simpa using hw) (by omega)
 ·exact ho
theorem AfO {n:Int} {s:TS} (ho:IP s):IP (ES n s).2:=IP.settle (ho.drop n)
def Left (w w':World) (t:Nat) (H:Nat→Prop) (s':TS) (a b:Sl) (g d:List Int):Prop:=∃ H',Ny w' t H' s'∧Fr H H' w∧A4 H w w'∧AE w' a 1 (cU g)∧AE w' b 1 (cU d) ∧
 (∀ y∈Ai a,w.heap.size≤y∧¬ H' y)∧(∀ y∈Ai b,w.heap.size≤y∧¬ H' y)∧(∀ y∈Ai a,y ∉ Ai b)
theorem Left.none {w w':World} {t:Nat} {H:Nat→Prop} {s:TS} (h:Ny w t H s) (k:Aa [] w w'):Left w w' t H s ⟨none,0,0⟩ ⟨none,0,0⟩ [] []:=
 ⟨H,h.Ab k,Fr.refl _ _,k.FY (by simp),AE.nil _ 1,AE.nil _ 1,by simp [Ai],by simp [Ai],by simp [Ai]⟩
theorem Left.pre {w0 w w':World} {t:Nat} {H:Nat→Prop} {s:TS} {a b:Sl} {g d:List Int} (k:Aa [] w0 w) (h:Left w w' t H s a b g d):Left w0 w' t H s a b g d:=by
 obtain ⟨H',h1,h2,h3,h4,h5,h6,h7,h8⟩:=h;have:=k.size;exact ⟨H',h1,fun x hx=>(h2 x hx).elim .inl (fun h=>.inr (by omega)),(k.FY (F:=H) (by simp)).same h3,h4,h5,fun y hy=>⟨by have:=(h6 y hy).1;omega,(h6 y hy).2⟩,fun y hy=>⟨by have:=(h7 y hy).1;omega,(h7 y hy).2⟩,h8⟩
theorem Afp (w:World):Cl Pg 27 [] false [.sc .p] (fun r w'=>∃ (t:Nat) (H:Nat→Prop),r.1=some ⟨t,0,none⟩∧Ny w' t H ⟨[],[]⟩∧(∀ x,H x→w.heap.size≤x)∧Aa [] w w') w:=by
 refine AR fun R hR=>?_;apply V3;unfold Wr;refine Ad fun t w1 h1 n1 k1=>?_;refine hR _ _ ⟨t,fun x=>x=t,rfl,⟨⟨none,0,0⟩,⟨none,0,0⟩,h1,AE.nil _ 4,AE.nil _ 4,by simp [Ai],by simp [Ai],by simp [Ai],fun x=>by simp [Ai]⟩,fun x hx=>by rw [hx];exact n1,k1⟩
theorem Abq {w:World} {t:Nat} {H:Nat→Prop} {s:TS} (h:Ny w t H s) (ho:IP s) (n:Int) :
  Cl Pg 277 [.pointer (some ⟨t,0,none⟩),.int .u64 n] true [.sc .sl,.sc .sl] (fun r w'=>Left w w' t H (ES n s).2 r.1 r.2.1 (ES n s).1.1 (ES n s).1.2) w:=by
 unfold ES;dsimp only;obtain ⟨Q,hQ⟩:∃ Q,Q=AT (CJ n s).wait.length (CJ n s) [] []:=⟨_,rfl⟩;rw [← hQ];refine AR fun R hR=>?_;apply Je;unfold Gm;dsimp only [Vp,Vu];refine Cl.mono (Ach h ho n) ?_;rintro _ w1 ⟨H1,h1,f1,k1⟩;have hfew:=(ho.drop n).few;have hb0:([]:List Int).length + (CJ n s).wait.length * 200≤40000:=by rw [List.length_nil];omega
 have hnil:AE w1 ⟨none,0,0⟩ 1 (cU []):=AE.nil _ 1;have hset:=WN h1 (ho.drop n) hnil (fun y hy=>by cases hy) hb0;rw [← hQ] at hset;have hnb:∀ y∈Ai ⟨none,0,0⟩,¬ H1 y:=fun y hy=>by cases hy
 refine Cl.mono hset ?_;rintro ⟨a,b,_⟩ w2 ⟨H2,h2,f2,k2,ha,hb,na,nb,hab⟩;dsimp only at ha hb na nb hab ⊢;have s1:=k1.size;have k2':A4 H1 w1 w2:=k2.mono (fun x hx=>hx.elim .inl (fun h=>by simp [Ai] at h));refine hR (a,b,()) _ ⟨H2,h2,f1.trans f2 s1,k1.trans k2' (fun x hx=>f1 x hx),ha,hb,fun y hy=>⟨by have:=(na y hy).1;omega,(na y hy).2⟩,fun y hy=>⟨?_,(nb y hy).2⟩,hab⟩;rcases (nb y hy).1 with h' | h'
 ·simp [Ai] at h'
 ·omega
open Go Go.Sx
theorem VB {p:Ak→Bool} {l:List Ak} (h:∀ y∈l,p y=false):l.any p=false:=List.any_eq_false.2 (fun y hy=>by rw [h y hy];simp)
theorem Aix {w:World} {t:Nat} {H:Nat→Prop} {s:TS} (h:Ny w t H s) (ho:IP s) (x:Ak) :
  Cl Pg 29 [.pointer (some ⟨t,0,none⟩),.int .u64 x.n,.agg #[.string x.lo,.string x.hi,.bool x.wr]] true [.sc (.i .i64),.sc .sl,.sc .sl,.sc (.i .i64)]
   (fun r w'=>r.1=(Bc x s).1.1∧r.2.2.2.1=(Bc x s).1.2.2.2∧Left w w' t H (Bc x s).2 r.2.1 r.2.2.1 (Bc x s).1.2.1 (Bc x s).1.2.2.1) w:=by
 obtain ⟨A,hA⟩:∃ A,A=Bc x s:=⟨_,rfl⟩;rw [← hA];unfold Bc at hA;have h0:=h;obtain ⟨sh,sw,h⟩:=h;have hfew:=ho.few;have hlh:=UH h.h;have hlw:=UH h.w;refine AR fun R hR=>?_;apply MX;unfold L9;dsimp only [SG,Cg,Lb,Ll,Ls,UC,Lu,Gs,UY,Ts,Vi,Vp,Vs,Vt,Vu,Vm];refine Ad fun a w1 ha na k1=>?_;simp only [CP,ha,Ck,Nat.reduceAdd];refine Cl.mono (Hv _ _ _) ?_;rintro ⟨r,_⟩ w2 ⟨e,k2⟩;dsimp only at e;subst e;simp only [ok1];have k02:=Aj k1 k2;have ha2:=k2.at ha (by simp);cases hok:Da x.lo x.hi with
 | false=>
  rw [if_pos hok] at hA;rw [hA] at hR;exact hR (0,⟨none,0,0⟩,⟨none,0,0⟩,21,()) _ ⟨rfl,rfl,Left.none h0 k02⟩
 | true=>
 rw [if_neg (by rw [hok];simp)] at hA;have g2:=h.Ab k02;simp only [CP,g2.hd,Ck,Nat.reduceAdd,Bool.not_true];refine Cl.mono (AeI x.n _) ?_;rintro ⟨f,_⟩ w3 ⟨e,ne,hf,k3⟩;dsimp only at hf ⊢;have k03:=Aj k02.drew k3;have g3:=h.Ab k03;have ha3:=k3.at (show w2.drew.heap[a]?=_ from ha2) (by simp);simp only [CP,g3.hd,Ck,Nat.reduceAdd];refine ⟨by trivial,?_⟩;refine Cl.mono (L8 g3.w (hf [] (by simp)) (by omega)) ?_;rintro ⟨r,_⟩ w4 ⟨e4,k4⟩;dsimp only at e4;subst e4;have k04:=Aj k03 k4;cases hany:s.wait.any (fun y=>y.n == x.n) with
 | true=>
  rw [if_pos hany] at hA;rw [hA] at hR;exact hR (0,⟨none,0,0⟩,⟨none,0,0⟩,4,()) _ ⟨rfl,rfl,Left.none h0 k04⟩
 | false=>
 rw [if_neg (by rw [hany];simp)] at hA;have ha4:=k4.at ha3 (by simp);simp only [CP,ha4,Ck,Nat.reduceAdd];refine bx4 fun c w5 hc nc k5=>?_;have k05:=Aj k04 k5;have ha5:=k5.at ha4 (by simp);have g5:=h.Ab k05;simp only [CP,g5.hd,Ck,Nat.reduceAdd];refine ⟨fun n st w'=>∃ (q1:Int) (q2 q3:Sl) (q4:Int) (i:Nat),st=(q1,q2,q3,q4,(((s.held.take i).filter (B8 x)).length:Int),MM x (s.held.take i),(i:Int),())∧n=s.held.length - i∧i≤s.held.length∧(∀ y∈s.held.take i,F7 x y=false)∧Aa [] w5 w',⟨_,0,⟨none,0,0⟩,⟨none,0,0⟩,0,0,rfl,rfl,by omega,by simp,Aa.refl _ _⟩,?_⟩;rintro n _ w6 ⟨q1,q2,q3,q4,i,rfl,rfl,hi,hcov,k6⟩;dsimp only;have g6:=g5.Ab k6;have ha6:=k6.at ha5 (by simp);have hc6:=k6.at hc (by simp);have k06:=Aj k05 k6;by_cases hlt:i < s.held.length
 ·rw [decide_eq_true (by omega)];simp only [Af];obtain ⟨y,hy⟩:∃ y,s.held[i]?=some y:=⟨_,List.getElem?_eq_getElem hlt⟩;have hfl:((s.held.take (i + 1)).filter (B8 x)).length=((s.held.take i).filter (B8 x)).length + (if B8 x y then 1 else 0):=by
   rw [List.take_add_one,hy,List.filter_append,List.length_append]
   congr 1
   cases hw:B8 x y <;> simp [hw]
  have hfi:MM x (s.held.take (i + 1))=(MM x (s.held.take i) && (!B8 x y || decide (x.n < y.n))):=by
   unfold MM;rw [List.take_add_one,hy,List.all_append];simp
  refine AG (fun st w'=>st=(q1,q2,q3,q4,(((s.held.take (i + 1)).filter (B8 x)).length:Int),MM x (s.held.take (i + 1)),())∧F7 x y=false∧Aa [] w5 w') (fun J hJ=>?_) ?_
  rotate_left
  ·rintro _ w7 ⟨rfl,hcy,k7⟩;refine ⟨s.held.length - (i + 1),by omega,q1,q2,q3,q4,i + 1,by rw [AK (by omega)],rfl,by omega,?_,k7⟩;intro z hz;rw [List.take_add_one,hy] at hz;simp at hz;rcases hz with hz | rfl
   ·exact hcov z hz
   ·exact hcy
  refine AdA g6.h hy ?_;refine bx4 fun b w7 hb nb k7=>?_;have ha7:=k7.at ha6 (by simp);have hc7:=k7.at hc6 (by simp);refine AG (fun st w'=>st=(F7 x y,())∧Aa [] w7 w') (fun J2 hJ2=>?_) ?_
  ·simp only [CP,hb,Ck,Nat.reduceAdd];cases hn:y.n == x.n with
   | false=>exact hJ2 _ _ ⟨by unfold F7;rw [hn];rfl,Aa.refl _ _⟩
   | true=>
   simp only [CP,hb,ha7,Ck,Nat.reduceAdd];refine Cl.mono (Wz _ _ _ _ _) ?_;rintro ⟨q,_⟩ w8 ⟨e8,k8⟩;dsimp only at e8;subst e8;cases hcv:CW y.lo y.hi x.lo x.hi with
   | false=>exact hJ2 _ _ ⟨by unfold F7;rw [hn,hcv];rfl,k8⟩
   | true=>
   have hb8:=k8.at hb (by simp);have ha8:=k8.at ha7 (by simp);simp only [CP,hb8,ha8,Ck,Nat.reduceAdd];cases hwr:y.wr with
   | true=>exact hJ2 _ _ ⟨by unfold F7;rw [hn,hcv,hwr];rfl,k8⟩
   | false=>
   simp only [CP,ha8,Ck,Nat.reduceAdd];exact hJ2 _ _ ⟨by unfold F7;rw [hn,hcv,hwr];rfl,k8⟩
  ·rintro _ w8 ⟨rfl,k8⟩;dsimp only;have k78:=Aj k7 k8;have k08:=Aj k06 k78;cases hcy:F7 x y with
   | true=>
    have hany2:s.held.any (F7 x)=true:=List.any_eq_true.2 ⟨y,List.mem_of_getElem? hy,hcy⟩;rw [if_pos hany2] at hA;rw [hA] at hR;exact hR (1,⟨none,0,0⟩,⟨none,0,0⟩,0,()) _ ⟨rfl,rfl,Left.none h0 k08⟩
   | false=>
    have hb8:=k8.at hb (by simp);have hc8:=k8.at hc7 (by simp);simp only [CP,hb8,hc8,Ck,Nat.reduceAdd];refine Cl.mono (O4 x _) ?_;rintro ⟨f2,_⟩ w9 ⟨e9,n9,hf9,k9⟩;dsimp only at hf9 ⊢;have hb9:=k9.at (show w8.drew.heap[b]?=_ from hb8) (by simp);simp only [CP,hb9,Ck,Nat.reduceAdd];refine ⟨by trivial,?_⟩;refine AB.mono (hf9 [] (by simp) w9 (Aa.refl _ _) y) ?_;rintro ⟨q,_⟩ w10 ⟨e10,k10⟩;dsimp only at e10;subst e10;have hb10:=k10.at hb9 (by simp);have k510:Aa [] w5 w10:=Aj (Aj (Aj k6 k78).drew k9) k10;cases hw:B8 x y with
    | false=>
     refine hJ _ _ ⟨?_,hcy,k510⟩;rw [hfl,hfi,hw];simp
    | true=>
     have hwl:(((s.held.take i).filter (B8 x)).length)≤i:=Nat.le_trans (List.length_filter_le _ _) (by rw [List.length_take];omega);simp only [Af];rw [AK (by omega)];cases hfs:MM x (s.held.take i) with
     | false=>
      refine hJ _ _ ⟨?_,hcy,k510⟩;rw [hfl,hfi,hw,hfs];simp
     | true=>
      simp only [CP,hb10,Ck,Nat.reduceAdd];refine hJ _ _ ⟨?_,hcy,k510⟩;rw [hfl,hfi,hw,hfs];simp
 ·have hil:i=s.held.length:=by omega
  have htk:s.held.take i=s.held:=List.take_of_length_le (by omega);rw [decide_eq_false (by omega)];rw [htk] at hcov ⊢;rw [if_neg (by rw [VB hcov];simp)] at hA;simp only [Ae];have kd:Aa [] w6 w6.drew:=(Aa.refl _ _).drew;simp only [CP,g6.hd,Ck,Nat.reduceAdd];rw [hlh,hlw,Oq rfl rfl (by omega)];have k06d:=Aj k06 kd;by_cases hmax:192≤s.held.length + s.wait.length
  ·rw [if_pos hmax] at hA;rw [hA] at hR;rw [decide_eq_true (by omega)];exact hR (3,⟨none,0,0⟩,⟨none,0,0⟩,0,()) _ ⟨rfl,rfl,Left.none h0 k06d⟩
  ·rw [if_neg hmax] at hA;rw [decide_eq_false (by omega)];simp only [Ae];have hnone:((((s.held.filter (B8 x)).length:Nat):Int) == 0)=!(s.held.any (B8 x)):=by
    cases hv:s.held.any (B8 x) with
    | false=>
     have:s.held.filter (B8 x)=[]:=List.filter_eq_nil_iff.2 (fun y hy=>by have:=List.any_eq_false.1 hv y hy;exact this);rw [this];rfl
    | true=>
     obtain ⟨y,hy,hwy⟩:=List.any_eq_true.1 hv;have:0 < (s.held.filter (B8 x)).length:=List.length_pos_of_mem (List.mem_filter.2 ⟨hy,hwy⟩);simp;exact ⟨y,hy,hwy⟩
   rw [hnone];have g6':=g6.Ab kd;have hc6':w6.drew.heap[c]?=_:=hc6;cases hv:s.held.any (B8 x) with
   | false=>
    rw [if_pos hv] at hA;simp only [CP,hc6,Ck,Nat.reduceAdd,Bool.not_false];have hog:IP ⟨s.held ++ [x],s.wait⟩:=⟨ho.wt,by show (s.held ++ [x]).length + s.wait.length≤192;rw [List.length_append,List.length_singleton];omega⟩;refine Cl.mono (Zw ⟨_,_,g6'⟩ hog) ?_;rintro ⟨r7,_⟩ w7 ⟨H7,h7,f7,k7,hr7,hn7⟩;dsimp only at hr7 hn7 ⊢;have hog2:IP (AL x s).2:=IP.Ca hog;have hkl:(AL x s).1.length≤s.wait.length:=Ln x s.wait;have hwl:(AL x s).2.wait.length≤s.wait.length:=LQ _ _;have hb0:(AL x s).1.length + (AL x s).2.wait.length * 200≤40000:=by omega
    have hset:=WN h7 hog2 hr7 (fun y hy=>(hn7 y hy).2) hb0;obtain ⟨Q,hQ⟩:∃ Q,Q=AT (AL x s).2.wait.length (AL x s).2 [] (AL x s).1:=⟨_,rfl⟩;rw [← hQ] at hset;refine Cl.mono hset ?_;rintro ⟨a8,b8,_⟩ w8 ⟨H8,h8,f8,k8,ha8,hb8,na8,nb8,hab⟩;dsimp only at ha8 hb8 na8 nb8 hab ⊢;have hA':A=((1,Dk Q.2.1,Dk Q.2.2,0),Q.1):=by rw [hA,hQ]
    rw [hA'] at hR;have s07:=k06d.size;have s7:=k7.size;refine hR (1,a8,b8,0,()) _ ⟨rfl,rfl,Left.pre k06d ⟨H8,h8,?_,?_,ha8,hb8,?_,?_,hab⟩⟩
    ·exact f7.trans f8 s7
    ·refine k7.trans k8 (fun z hz=>?_);rcases hz with hz | hz
     ·exact f7 z hz
     ·exact .inr (hn7 z hz).1
    ·exact fun y hy=>⟨by have:=(na8 y hy).1;omega,(na8 y hy).2⟩
    ·intro y hy;refine ⟨?_,(nb8 y hy).2⟩;rcases (nb8 y hy).1 with h' | h'
     ·exact (hn7 y h').1
     ·omega
   | true=>
    rw [if_neg (by rw [hv];simp)] at hA;simp only [Bool.not_true,Ae];cases hfs:MM x s.held with
    | false=>
     rw [if_neg (by rw [hfs];simp)] at hA;rw [hA] at hR;exact hR (3,⟨none,0,0⟩,⟨none,0,0⟩,0,()) _ ⟨rfl,rfl,Left.none h0 k06d⟩
    | true=>
     rw [if_pos hfs] at hA;rw [hA] at hR;simp only [CP,g6.hd,Ck,Nat.reduceAdd];refine Cl.mono (Ac6 g6'.w ho.wt x.n (by omega)) ?_;rintro ⟨r7,r7b,_⟩ w7 ⟨j,hj,hjl,hj1,hj2,k7⟩;dsimp only at hj ⊢;have g7:=g6'.Ab k7;have hc7:=k7.at hc6' (by simp);simp only [CP,g7.hd,hc7,Ck,Nat.reduceAdd];have kd7:Aa [] w7 w7.drew:=(Aa.refl _ _).drew;have g7':=g7.Ab kd7;refine Ad fun d w8 hd nd k8=>?_;have g8:=g7'.Ab k8;simp only [CP,g8.hd,Ck,Nat.reduceAdd];refine ⟨by trivial,?_⟩;have hdsw:d ∉ Ai sw:=fun hx=>by have:=g7'.w.lt d hx;omega
     subst hj;refine Cl.mono (Adq g8.w hd hdsw hjl (by omega)) ?_;rintro ⟨r9,_⟩ w9 ⟨h9,hb9,k9⟩;dsimp only at h9 hb9 ⊢;rw [← AfN hj1 hj2] at h9;have hd9:=k9.at g8.hd g8.tw;refine Ax hd9 1 _ rfl (by simp) fun w10 hd10 k10=>?_;obtain ⟨H10,g10,f10,kp10⟩:=g8.AhA k9 h9 hb9 k10 hd10;have k08:Aa [] w w8:=Aj (Aj (Aj k06d k7) kd7) k8;refine hR (2,⟨none,0,0⟩,⟨none,0,0⟩,0,()) _ ⟨rfl,rfl,Left.pre k08 ⟨H10,⟨_,_,g10⟩,f10,kp10,AE.nil _ 1,AE.nil _ 1,by simp [Ai],by simp [Ai],by simp [Ai]⟩⟩
open Go Go.Sx
def Fx (k:Int):Bool:=k == 1 || (k == 2 || k == 3)
def SO (k:Int):Bool:=k == 2
def FH (k:Int):Bool:=k == 4 || k == 5
def FD (k:Int):Bool:=k == 4
def fWr (k:Int):Bool:=k == 2 || (k == 3 || k == 5)
def Zk (k:Int):Value:=if k=1 then .func (.func 265) #[] #[] else if k=2 then .func (.func 266) #[] #[] else if k=3 then .func (.func 267) #[] #[] else if k=4 then .func (.func 268) #[] #[] else if k=5 then .func (.func 269) #[] #[] else .nilFunc
theorem Tk (k:Int):(Zk k).oneCell'=true:=by unfold Zk;(repeat' split) <;> rfl
abbrev fK:List Kd:=[.b,.b,.b,.b,.b,.v]
abbrev fK6:List Kd:=[.b,.b,.b,.b,.b,.v,.b,.b,.b,.b,.b,.v,.b,.b,.b,.b,.b,.v,.b,.b,.b,.b,.b,.v,.b,.b,.b,.b,.b,.v,.b,.b,.b,.b,.b,.v]
def Zd (k:Int):Kw fK:=(Fx k,SO k,FH k,FD k,fWr k,Zk k,())
def QJ:Kw fK6:=(false,false,false,false,false,Value.nilFunc,true,false,false,false,false,Zk 1,true,true,false,false,true,Zk 2,true,false,false,false,true,Zk 3,false,false,true,true,false,Zk 4,false,false,true,false,true,Zk 5,())
theorem Adh:∀ v∈Cs fK6 QJ,v.oneCell'=true:=by
 intro v hv;simp only [QJ,Cs,Kd.enc,List.mem_cons,List.not_mem_nil,or_false] at hv;rcases hv with rfl | rfl | rfl | rfl | rfl | rfl | rfl | rfl | rfl | rfl | rfl | rfl | rfl | rfl | rfl | rfl | rfl | rfl | rfl | rfl | rfl | rfl | rfl | rfl | rfl | rfl | rfl | rfl | rfl | rfl | rfl | rfl | rfl | rfl | rfl | rfl <;> first | rfl | exact Tk _
theorem Abw {w:World} {K:TR [.ag fK6]→Pr} (k:∀ w',Aa [] w w'→K (QJ,()) w'):Cl Pg 199 [] false [.ag fK6] K w:=by
 refine VS ?_;unfold Zl;dsimp only [K6',Gq,Sb5,Tb,Vb];refine Ad fun a w1 h1 n1 k1=>?_;refine ⟨rfl,rfl,rfl,rfl,rfl,?_⟩;refine L0 (vs:=Cs fK6 QJ) h1 rfl Adh fun w2 h2 k2=>?_;show LdT fK6 ⟨a,0,none⟩ 0 (fun y=>K (y,())) w2;refine Yo (y:=QJ) (fun j u hj=>?_) (k w2 (BT k1 k2 n1));rw [Cr,cell_of h2,Nat.zero_add,Nat.zero_add,List.getElem?_toArray];exact hj
def Na (k:Int):Bool:=decide (1≤k) && decide (k≤5)
theorem PZ {k:Int} (h:Na k=true):k=1∨k=2∨k=3∨k=4∨k=5:=by
 unfold Na at h;simp at h;omega
theorem AgO {k:Int} (h:Na k=false):Zd k=(false,false,false,false,false,Value.nilFunc,()):=by
 unfold Na at h;simp at h;have e:∀ n:Int,1≤n→n≤5→¬ k=n:=by omega
 simp [Zd,Fx,SO,FH,FD,fWr,Zk,e 1 (by decide) (by decide),e 2 (by decide) (by decide),e 3 (by decide) (by decide),e 4 (by decide) (by decide),e 5 (by decide) (by decide)]
theorem ZO {k:Int} (h:Na k=true) {K:Kw fK→Pr} {w:World} (hk:K (Zd k) w):IxA (Cs fK6 QJ) 6 k 6 (fun g=>TyA fK g K) w:=by
 rcases PZ h with rfl | rfl | rfl | rfl | rfl <;> exact ⟨by decide,by decide,AfB _ rfl hk⟩
theorem YE (kind:Int) {w:World} {K:TR [.ag fK,.sc .b]→Pr} (k:∀ w',Aa [] w w'→K (Zd kind,Na kind,()) w'):Cl Pg 97 [.int .i64 kind] true [.ag fK,.sc .b] K w:=by
 refine UK _ ?_;unfold WY;dsimp only [K5',K6',Ait,Sb5,Vb];refine Ad fun a w1 h1 n1 k1=>?_;refine BR (!Na kind) (fun J hJ=>?_) fun w2 k2=>?_
 ·unfold Na at hJ;by_cases hc:kind < 1
  ·rw [decide_eq_true hc];rw [decide_eq_false (by omega)] at hJ;exact hJ _ (Aa.refl _ _)
  ·rw [decide_eq_false hc];rw [decide_eq_true (by omega),show decide (kind≤5)=!decide (kind > 5) from by rw [← decide_not];exact decide_eq_decide.2 (by omega)] at hJ;simp only [Bool.true_and,Bool.not_not] at hJ;exact hJ _ (Aa.refl _ _)
 ·have h1:=k2.Aw h1;have k02:=Aj k1 k2;cases ho:Na kind with
  | false=>
   simp only [Bool.not_false,Af];refine Aj0 h1 rfl rfl rfl rfl rfl rfl fun w3 h3 k3=>?_;simp only [sb,h3];have:=k w3 (BT k02 k3 n1);rw [AgO ho,ho] at this;exact this
  | true=>
   simp only [Bool.not_true,Ae];refine Abw fun w3 k3=>?_;have h1:=k3.Aw h1;have k03:=Aj k02 k3;refine ZO ho ?_;refine Aj0 h1 rfl rfl rfl rfl rfl (Tk kind) fun w4 h4 k4=>?_;simp only [sb,h4];have:=k w4 (BT k03 k4 n1);rw [ho] at this;exact this
theorem AdN (o:Op) {w:World} {K:TR [.ag [.s,.s]]→Pr} (k:∀ w',Aa [] w w'→K ((o.lo,o.hi,()),()) w'):Cl Pg 98 [.agg #[.int .i64 o.kind,.string o.key,.string o.value,.string o.lo,.string o.hi,.int .i64 o.AD]] false [.ag [.s,.s]] K w:=by
 refine Aag _ _ _ _ _ _ ?_;unfold Ahh;dsimp only [Ar,Ls,Tt,Vt];refine Ad fun a w1 h1 n1 k1=>?_;refine Ad fun b w2 h2 n2 k2=>?_;have h1:=k2.Aw h1;simp only [sb,h1];refine AaD h2 rfl rfl fun w3 h3 k3=>?_;simp only [sb,h3];exact k w3 (BT (Aj k1 k2) k3 (by have:=k1.size;omega))
def ER (o:Op):Int:=
 if (!Na o.kind) || ((!Fx o.kind && !(seq o.key (BA []))) || ((!SO o.kind && !(seq o.value (BA []))) || ((!FH o.kind && !(seq o.lo (BA []) && (seq o.hi (BA []) && true))) || (!FD o.kind && o.AD != 0)))) then 40
 else if Fx o.kind && !Kx o.key then 20
 else if decide (o.value.size > 16) then 2
 else if FH o.kind && !Da o.lo o.hi then 21
 else if FD o.kind && (decide (o.AD < 1) || decide (o.AD > 4)) then 1 else 0
theorem AcG (c:Bool):((if c then (0:Int) else 20) != 0)=!c:=by cases c <;> rfl
theorem Ni (o:Op) {w:World} {K:TR [.sc (.i .i64)]→Pr} (k:∀ w',Aa [] w w'→K (ER o,()) w'):Cl Pg 50 [.agg #[.int .i64 o.kind,.string o.key,.string o.value,.string o.lo,.string o.hi,.int .i64 o.AD]] false [.sc (.i .i64)] K w:=by
 obtain ⟨E,hE⟩:∃ E,E=ER o:=⟨_,rfl⟩;rw [← hE] at k;unfold ER at hE;refine S6 _ _ _ _ _ _ ?_;unfold U1;dsimp only [Ar,K5',Lb,Li,AN,Ls,Sb5,Vb,Vi,Vt];refine Ad fun a w1 h1 n1 k1=>?_;simp only [sb,h1];refine YE o.kind fun w2 k2=>?_;have h1:=k2.Aw h1;refine bx6 rfl rfl rfl rfl rfl rfl (Tk o.kind) fun b w3 h3 n3 k3=>?_;have h1:=k3.Aw h1;have k03:=Aj (Aj k1 k2) k3
 change w3.heap[b]?=some (.cells #[.bool (Fx o.kind),.bool (SO o.kind),.bool (FH o.kind),.bool (FD o.kind),.bool (fWr o.kind),Zk o.kind] _ (0,0)) at h3
 dsimp only;refine BR ((!Na o.kind) || ((!Fx o.kind && !(seq o.key (BA []))) || ((!SO o.kind && !(seq o.value (BA []))) || ((!FH o.kind && !(seq o.lo (BA []) && (seq o.hi (BA []) && true))) || (!FD o.kind && o.AD != 0))))) (fun J hJ=>?_) fun w4 k4=>?_
 ·cases h0:Na o.kind with
  | false=>
   rw [h0] at hJ;exact hJ _ (Aa.refl _ _)
  | true=>
  rw [h0] at hJ;simp only [Bool.not_true,Ae,Bool.false_or] at hJ ⊢;refine BR (!Fx o.kind && !(seq o.key (BA []))) (fun J1 hJ1=>?_) fun w5 k5=>?_
  ·simp only [sb,h1,h3];cases hq:Fx o.kind <;> rw [hq] at hJ1 <;> simp only [Bool.not_true,Bool.not_false,Bool.false_and,Bool.true_and,sb,h1] at hJ1 ⊢ <;> exact hJ1 _ (Aa.refl _ _)
  have h1:=k5.Aw h1;have h3:=k5.Aw h3;cases hb1:(!Fx o.kind && !(seq o.key (BA []))) with
  | true=>
   rw [hb1] at hJ;simp only [Af];exact hJ _ k5
  | false=>
  rw [hb1] at hJ;simp only [Ae,Bool.false_or] at hJ ⊢;refine BR (!SO o.kind && !(seq o.value (BA []))) (fun J1 hJ1=>?_) fun w6 k6=>?_
  ·simp only [sb,h1,h3];cases hq:SO o.kind <;> rw [hq] at hJ1 <;> simp only [Bool.not_true,Bool.not_false,Bool.false_and,Bool.true_and,sb,h1] at hJ1 ⊢ <;> exact hJ1 _ (Aa.refl _ _)
  have h1:=k6.Aw h1;have h3:=k6.Aw h3;have k36:=Aj k5 k6;cases hb2:(!SO o.kind && !(seq o.value (BA []))) with
  | true=>
   rw [hb2] at hJ;simp only [Af];exact hJ _ k36
  | false=>
  rw [hb2] at hJ;simp only [Ae,Bool.false_or] at hJ ⊢;refine BR (!FH o.kind && !(seq o.lo (BA []) && (seq o.hi (BA []) && true))) (fun J1 hJ1=>?_) fun w7 k7=>?_
  ·simp only [sb,h1,h3];cases hq:FH o.kind <;> rw [hq] at hJ1 <;> simp only [Bool.not_true,Bool.not_false,Bool.false_and,Bool.true_and,sb,h1] at hJ1 ⊢
   ·exact AdN o fun w8 k8=>hJ1 _ k8
   ·exact hJ1 _ (Aa.refl _ _)
  have h1:=k7.Aw h1;have h3:=k7.Aw h3;have k37:=Aj k36 k7;cases hb3:(!FH o.kind && !(seq o.lo (BA []) && (seq o.hi (BA []) && true))) with
  | true=>
   rw [hb3] at hJ;simp only [Af];exact hJ _ k37
  | false=>
  rw [hb3] at hJ;simp only [Ae,Bool.false_or,sb,h3] at hJ ⊢;cases hq:FD o.kind <;> rw [hq] at hJ <;> simp only [Bool.not_true,Bool.not_false,Bool.false_and,Bool.true_and,sb,h1] at hJ ⊢ <;> exact hJ _ k37
 ·have h1:=k4.Aw h1;have h3:=k4.Aw h3;have k04:=Aj k03 k4;split at hE
  ·rename_i hc;rw [hc];subst hE;exact k _ k04
  rename_i hc;rw [Bool.not_eq_true] at hc;rw [hc];simp only [Ae];refine BR (Fx o.kind && !Kx o.key) (fun J hJ=>?_) fun w5 k5=>?_
  ·simp only [sb,h3];cases hq:Fx o.kind <;> rw [hq] at hJ <;> simp only [Bool.false_and,Bool.true_and,sb,h1] at hJ ⊢
   ·exact hJ _ (Aa.refl _ _)
   ·refine Hb _ ?_;rw [AcG];exact hJ _ (Aa.refl _ _)
  have h1:=k5.Aw h1;have h3:=k5.Aw h3;have k05:=Aj k04 k5;split at hE
  ·rename_i hc;rw [hc];subst hE;exact k _ k05
  rename_i hc;rw [Bool.not_eq_true] at hc;rw [hc];simp only [sb,h1];rw [show decide (((o.value.size:Nat):Int) > 16)=decide (o.value.size > 16) from decide_eq_decide.2 (by omega)];split at hE
  ·rename_i hc;rw [hc];subst hE;exact k _ k05
  rename_i hc;rw [Bool.not_eq_true] at hc;rw [hc];simp only [Ae];refine BR (FH o.kind && !Da o.lo o.hi) (fun J hJ=>?_) fun w6 k6=>?_
  ·simp only [sb,h3];cases hq:FH o.kind <;> rw [hq] at hJ <;> simp only [Bool.false_and,Bool.true_and,sb,h1] at hJ ⊢
   ·exact hJ _ (Aa.refl _ _)
   ·refine AdN o fun w7 k7=>?_;refine M1 _ _ fun w8 k8=>?_;rw [ok1];exact hJ _ (Aj k7 k8)
  have h1:=k6.Aw h1;have h3:=k6.Aw h3;have k06:=Aj k05 k6;split at hE
  ·rename_i hc;rw [hc];subst hE;exact k _ k06
  rename_i hc;rw [Bool.not_eq_true] at hc;rw [hc];simp only [Ae];refine BR (FD o.kind && (decide (o.AD < 1) || decide (o.AD > 4))) (fun J hJ=>?_) fun w7 k7=>?_
  ·simp only [sb,h3];cases hq:FD o.kind <;> rw [hq] at hJ <;> simp only [Bool.false_and,Bool.true_and,sb,h1] at hJ ⊢
   ·exact hJ _ (Aa.refl _ _)
   ·cases hd:decide (o.AD < 1) <;> rw [hd] at hJ <;> simp only [sb,h1,Bool.true_or,Bool.false_or] at hJ ⊢ <;> exact hJ _ (Aa.refl _ _)
  have k07:=Aj k06 k7;split at hE
  ·rename_i hc;rw [hc];subst hE;exact k _ k07
  rename_i hc;rw [Bool.not_eq_true] at hc;rw [hc];subst hE;exact k _ k07
open Go Go.Sx
def C1 (a b:ByteArray):Int:=Lib.compareBytes a.data.toList b.data.toList
theorem LM:∀ a b:List UInt8,Lib.compareBytes a b < 0 ↔ a < b
 | [],[]=>by simp [Lib.compareBytes]
 | [],_ :: _=>by simp [Lib.compareBytes]
 | _ :: _,[]=>by simp [Lib.compareBytes]
 | a :: xs,b :: bs=>by
  simp only [Lib.compareBytes,List.cons_lt_cons_iff];by_cases h1:a < b
  ·simp [h1]
  ·rw [if_neg h1];by_cases h2:b < a
   ·rw [if_pos h2];simp only [h1,false_or];constructor
    ·intro h;omega
    ·rintro ⟨rfl,_⟩;exact absurd h2 h1
   ·rw [if_neg h2];have e:a=b:=UInt8.le_antisymm (UInt8.not_lt.1 h2) (UInt8.not_lt.1 h1);subst e;rw [LM xs bs];simp [h1]
theorem LI:∀ a b:List UInt8,Lib.compareBytes a b=0 ↔ a=b
 | [],[]=>by simp [Lib.compareBytes]
 | [],_ :: _=>by simp [Lib.compareBytes]
 | _ :: _,[]=>by simp [Lib.compareBytes]
 | a :: xs,b :: bs=>by
  simp only [Lib.compareBytes];by_cases h1:a < b
  ·rw [if_pos h1];constructor
   ·intro h;omega
   ·intro h;cases h;exact absurd h1 (UInt8.lt_irrefl _)
  ·rw [if_neg h1];by_cases h2:b < a
   ·rw [if_pos h2];constructor
    ·intro h;omega
    ·intro h;cases h;exact absurd h2 (UInt8.lt_irrefl _)
   ·rw [if_neg h2];have e:a=b:=UInt8.le_antisymm (UInt8.not_lt.1 h2) (UInt8.not_lt.1 h1);subst e;rw [LI xs bs];simp
theorem GI {a b:ByteArray}:C1 a b < 0 ↔ slt a b=true:=by
 rw [Mz,decide_eq_true_iff,ByteArray.toList_eq,ByteArray.toList_eq];exact LM _ _
theorem AbO {a b:ByteArray}:(C1 a b == 0)=decide (a=b):=by
 rw [Bool.eq_iff_iff,beq_iff_eq,decide_eq_true_iff];refine (LI _ _).trans ⟨fun h=>ByteArray.ext (Array.toList_inj.1 h),fun h=>by rw [h]⟩
theorem CB {a b c:ByteArray} (h:slt a b=true) (k:slt b c=true):slt a c=true:=by
 rw [Mz,decide_eq_true_iff] at *;exact List.lt_trans h k
theorem Yl {a b c:ByteArray} (h:slt b a=false) (k:slt b c=true):slt a c=true:=by
 cases h2:slt a b with
 | true=>exact CB h2 k
 | false=>rw [Ek h2 h];exact k
theorem Oz {a b:ByteArray} (h:slt a b=true):a ≠ b:=fun e=>by rw [e,KF] at h;cases h
theorem Ws (b:ByteArray):slt (BA []) b=!(seq b (BA [])):=by
 rw [Mz,seq_eq];by_cases h:b=BA []
 ·rw [decide_eq_true h,h];simp [List.lt_irrefl]
 ·rw [decide_eq_false h,Bool.not_false,decide_eq_true_iff,ByteArray.toList_eq,ByteArray.toList_eq];cases hb:b.data.toList with
  | nil=>exact absurd (ByteArray.ext (Array.toList_inj.1 (by rw [hb];rfl))) h
  | cons x r=>show [] < x :: r;exact List.nil_lt_cons _ _
theorem We (a b:ByteArray) {w:World} {K:TR [.sc (.i .i64)]→Pr} (k:K (C1 a b,()) w):Cl Pg 303 [.string a,.string b] false [.sc (.i .i64)] K w:=by
 refine MD _ _ ?_;unfold LP;dsimp only [Vt];refine DX _ _ ?_;unfold C9;dsimp only [Vt];refine ⟨(C1 a b,()),w,?_,k⟩
 rw [show ([Value.string a,.string b]:List Value).toArray=#[.string a,.string b] from rfl,
  run_callFunc_extern Tryz.func310 (by kernel_rfl) (by kernel_rfl) (by kernel_rfl) (e:=Extern.BytealgCompare.compare) (by kernel_rfl),Lib.run_compareString]
 rfl
def strip (l:List UInt8):List UInt8:=(l.reverse.dropWhile (· == 255)).reverse
def S0 (l:List UInt8):List UInt8:=match l.reverse with | []=>[] | c :: r=>((c + 1) :: r).reverse
def M9 (k:ByteArray):ByteArray:=if k.size < 12 then k ++ BA [0] else ⟨(S0 (strip k.data.toList)).toArray⟩
theorem Vc {l:List UInt8} {n:Nat} (hn:n≤l.length) (h:∀ j,n≤j→j < l.length→l[j]?=some 255) (h2:n=0∨l[n - 1]? ≠ some 255):strip l=l.take n:=by
 unfold strip;have e:l.reverse=(l.drop n).reverse ++ (l.take n).reverse:=by rw [← List.reverse_append,List.take_append_drop]
 have h3:∀ x∈(l.drop n).reverse,(x == 255)=true:=by
  intro x hx;rw [List.mem_reverse] at hx;obtain ⟨j,hj⟩:=List.getElem?_of_mem hx;rw [List.getElem?_drop] at hj;have hlt:=(List.getElem?_eq_some_iff.1 hj).1;rw [h _ (Nat.le_add_right _ _) hlt] at hj;cases hj;rfl
 rw [e,List.dropWhile_append_of_pos h3];rcases h2 with rfl | h2
 ·simp
 ·have hn0:0 < n∨n=0:=by omega
  rcases hn0 with hn0 | rfl
  ·obtain ⟨c,hc⟩:∃ c,l[n - 1]?=some c:=⟨_,List.getElem?_eq_getElem (by omega)⟩;have e2:l.take n=l.take (n - 1) ++ [c]:=by
    rw [show n=n - 1 + 1 from by omega,List.take_add_one,hc];simp
   rw [e2,List.reverse_append];have hc2:(c == 255)=false:=by
    rw [hc] at h2;simp at h2;simpa using h2
   simp [List.dropWhile_cons,hc2]
  ·simp
theorem YW {l:List UInt8} {n:Nat} {c:UInt8} (hn:l.length=n + 1) (hc:l[n]?=some c):S0 l=l.set n (c + 1):=by
 unfold S0;have e:l=l.take n ++ [c]:=by
  conv=>lhs;rw [← List.take_of_length_le (i:=n + 1) (l:=l) (by omega),List.take_add_one,hc]
  simp
 have hl:(l.take n).length=n:=by rw [List.length_take];omega
 rw [e,List.reverse_append];simp only [List.reverse_cons,List.reverse_nil,List.nil_append,List.cons_append,List.reverse_reverse];rw [List.set_append_right _ _ (by omega),hl,Nat.sub_self,List.set_cons_zero]
theorem Ab3 (key:ByteArray) {w:World} {K:TR [.ag [.s,.s],.sc (.i .i64)]→Pr} (k:∀ w',Aa [] w w'→K (if Kx key then ((key,M9 key,()),0,()) else ((BA [],BA [],()),20,())) w'):Cl Pg 100 [.string key] true [.ag [.s,.s],.sc (.i .i64)] K w:=by
 refine SK _ ?_;unfold TH;dsimp only [N6,Ls,Tt,Vt];refine Ad fun a w1 h1 n1 k1=>?_;refine Hb _ ?_;dsimp only;rw [AcG];cases hk:Kx key with
 | false=>
  rw [hk] at k;simp only [Bool.not_false,Af];refine KI h1 fun w2 k2=>?_;exact k w2 (BT k1 k2 n1)
 | true=>
 rw [hk] at k;obtain ⟨z1,z2⟩:=Pc hk;simp only [Bool.not_true,Ae];by_cases h12:key.size < 12
 ·rw [decide_eq_true (by omega)];simp only [Af];refine ⟨by have:(BA [0]).size=1:=rfl;omega,?_⟩;refine KI h1 fun w2 k2=>?_;have:=k w2 (BT k1 k2 n1);unfold M9 at this;rw [if_pos h12] at this;exact this
 ·rw [decide_eq_false (by omega)];simp only [Ae];have hlen:key.data.toList.length=key.size:=by rw [Array.length_toList];rfl
  refine Ad9 ?_;intro r w2 s2 k2 f2 l2;have h2:=k2.Aw h1;have k02:=Aj k1 k2;have n02:=k1.size;have na:a ∉ Ai r:=fun hx=>by have:=f2 a hx;have:=Av h1;omega
  refine ⟨fun n st w'=>∃ m:Nat,st=(⟨r.p,m,r.cap⟩,())∧n=m∧m≤key.size∧(∀ j,m≤j→j < key.size→key.data.toList[j]?=some 255)∧w2=w',⟨_,key.size,by rw [← l2],rfl,Nat.le_refl _,fun j h1 h2=>by omega,rfl⟩,?_⟩;rintro n _ _ ⟨m,rfl,rfl,hm,h255,rfl⟩;dsimp only;have sf:AE w2 ⟨r.p,n,r.cap⟩ 1 (cB (key.data.toList.take n)):=by
   have:=QZ s2 (i:=n) (by omega)
   rwa [Nat.mul_one,cB,← List.map_take] at this
  have hcap:=s2.cap;refine AG (fun st w'=>st=(decide (n ≠ 0) && (key.data.toList[n - 1]? == some 255),())∧w2=w') (fun J hJ=>?_) ?_
  ·by_cases h0:n=0
   ·rw [decide_eq_false (by omega)];exact hJ _ _ ⟨by rw [h0];rfl,rfl⟩
   ·rw [decide_eq_true (by omega)];simp only [Af];rw [Ew (by omega) (by omega)];obtain ⟨c,hc⟩:∃ c,key.data.toList[n - 1]?=some c:=⟨_,List.getElem?_eq_getElem (by omega)⟩;refine Ahk sf (j:=n - 1) (x:=c) (by rw [List.getElem?_take,if_pos (by omega),hc]) ?_;refine hJ _ _ ⟨?_,rfl⟩;rw [hc,decide_eq_true h0,Bool.true_and]
    congr 1
    rw [Bool.eq_iff_iff];simp only [beq_iff_eq,Option.some.injEq];constructor
    ·intro h;have:c.toNat=255:=by omega
     exact UInt8.toNat_inj.1 this
    ·intro h;rw [h];rfl
  ·rintro _ _ ⟨rfl,rfl⟩;dsimp only;cases hq:(decide (n ≠ 0) && (key.data.toList[n - 1]? == some 255)) with
   | true=>
    simp only [Bool.and_eq_true,decide_eq_true_iff,beq_iff_eq] at hq;simp only [Af];rw [Ew (by omega) (by omega)];refine ⟨⟨by omega,by omega⟩,?_⟩;simp only [Int.toNat_natCast,Eh,Nat.sub_zero];refine ⟨n - 1,by omega,n - 1,rfl,rfl,by omega,fun j h3 h4=>?_,by trivial⟩;by_cases h5:j=n - 1
    ·rw [h5];exact hq.2
    ·exact h255 j (by omega) h4
   | false=>
    have hst:strip key.data.toList=key.data.toList.take n:=by
     refine Vc (by omega) (fun j h3 h4=>h255 j h3 (by omega)) ?_;by_cases h0:n=0
     ·exact .inl h0
     ·rw [decide_eq_true h0,Bool.true_and,beq_eq_false_iff_ne] at hq;exact .inr hq
    simp only [Ae];refine AG (fun st w'=>AE w' ⟨r.p,n,r.cap⟩ 1 (cB (S0 (strip key.data.toList)))∧w'.heap[a]?=some (.cells #[.string (BA []),.string (BA [])] 37 (0,0))∧Aa (Ai r) w2 w') (fun J hJ=>?_) ?_
    ·by_cases h0:n=0
     ·subst h0;rw [decide_eq_false (by omega)];refine hJ _ _ ⟨?_,h2,Aa.refl _ _⟩;rw [hst,List.take_zero];exact sf
     ·rw [decide_eq_true (by omega)];simp only [Af];rw [Ew (by omega) (by omega)];obtain ⟨c,hc⟩:∃ c,key.data.toList[n - 1]?=some c:=⟨_,List.getElem?_eq_getElem (by omega)⟩;have hct:(key.data.toList.take n)[n - 1]?=some c:=by rw [List.getElem?_take,if_pos (by omega),hc]
      refine Ahk sf (j:=n - 1) (x:=c) hct ?_;rw [show ((c.toNat:Int) + 1)=((c.toNat + 1:Nat):Int) from by omega,MR,show (c.toNat + 1) % 256=(c + 1).toNat from by rw [UInt8.toNat_add];rfl];refine Aku sf (j:=n - 1) (by rw [List.length_take];omega) (c + 1) ?_;intro w3 s3 k3;refine hJ _ _ ⟨?_,k3.at h2 na,k3⟩;rw [hst,YW (n:=n - 1) (c:=c) (by rw [List.length_take];omega) hct];exact s3
    ·rintro _ w3 ⟨s3,h3,k3⟩;refine TC s3.rdb ?_;refine KI h3 fun w4 k4=>?_;have:=k w4 (BT (Ky k02 k3 (fun x hx=>Nat.le_trans n02 (f2 x hx))) k4 n1);unfold M9 at this;rw [if_neg h12] at this;exact this
open Go Go.Sx
def A9:List Op→Int
 | []=>0
 | o :: l=>if ER o != 0 then ER o else A9 l
theorem Bu {l:List Op}:A9 l=0 ↔ ∀ o∈l,ER o=0:=by
 induction l with
 | nil=>simp [A9]
 | cons o l ih=>
  simp only [A9,List.mem_cons,forall_eq_or_imp];by_cases h:ER o=0
  ·simp [h,ih]
  ·simp [h]
theorem Ah1 {w:World} {s:Sl} {l:List Op} (h:A1 BQ w s l) (hN:l.length≤100000000) {K:TR [.sc (.i .i64)]→Pr} (k:∀ w',Aa [] w w'→K (A9 l,()) w'):Cl Pg 224 [.slice s.p s.len s.cap] false [.sc (.i .i64)] K w:=by
 have hl:=h.len;refine YX _ ?_;unfold AeE;dsimp only [Ar,AN,Gh,Gx];refine ⟨fun n st w'=>∃ (q:Int) (i:Nat),st=(q,(i:Int),())∧n=l.length - i∧i≤l.length∧A9 (l.drop i)=A9 l∧Aa [] w w',⟨_,0,0,rfl,rfl,by omega,rfl,Aa.refl _ _⟩,?_⟩;rintro n _ w1 ⟨q,i,rfl,rfl,hi,he,k1⟩;dsimp only;by_cases hlt:i < l.length
 ·rw [decide_eq_true (by omega)];simp only [Af];obtain ⟨x,hx⟩:∃ x,l[i]?=some x:=⟨_,List.getElem?_eq_getElem hlt⟩;have hd:l.drop i=x :: l.drop (i + 1):=by rw [List.drop_eq_getElem_cons hlt,(List.getElem?_eq_some_iff.1 hx).2]
  rw [hd,A9] at he;refine Sn (h.Ab k1) hx ?_;refine Sq x fun b w2 h2 n2 k2=>?_;simp only [sb,h2];refine Ni x fun w3 k3=>?_;have k13:=Aj (Aj k1 k2) k3;dsimp only;cases hc:(ER x != 0) with
  | true=>rw [if_pos hc] at he;rw [he];exact k _ k13
  | false=>
   rw [if_neg (by rw [hc];simp)] at he;exact ⟨l.length - (i + 1),by omega,q,i + 1,by rw [AK (by omega)],rfl,by omega,he,k13⟩
 ·rw [decide_eq_false (by omega)];rw [List.drop_of_length_le (by omega),A9] at he;rw [← he] at k;exact k _ k1
theorem Vn (o:Op) {w:World} {K:TR [.sc .b]→Pr} (k:∀ w',Aa [] w w'→K (fWr o.kind,()) w'):Cl Pg 62 [.agg #[.int .i64 o.kind,.string o.key,.string o.value,.string o.lo,.string o.hi,.int .i64 o.AD]] false [.sc .b] K w:=by
 refine Uz _ _ _ _ _ _ ?_;unfold WL;dsimp only [Ar,K5',Lb,Li,Sb5,Vb,Vi];refine Ad fun a w1 h1 n1 k1=>?_;simp only [sb,h1];refine YE o.kind fun w2 k2=>?_;refine bx6 rfl rfl rfl rfl rfl rfl (Tk o.kind) fun b w3 h3 n3 k3=>?_
 change w3.heap[b]?=some (.cells #[.bool (Fx o.kind),.bool (SO o.kind),.bool (FH o.kind),.bool (FD o.kind),.bool (fWr o.kind),Zk o.kind] _ (0,0)) at h3
 simp only [sb,h3];exact k w3 (Aj (Aj k1 k2) k3)
def Dp (o:Op):ByteArray × ByteArray:=if seq o.key (BA []) then (o.lo,o.hi) else (o.key,M9 o.key)
theorem XQ {o:Op} (h:ER o=0) (hk:seq o.key (BA [])=false):Kx o.key=true:=by
 unfold ER at h;split at h
 ·cases h
 ·rename_i h1;split at h
  ·cases h
  ·rename_i h2;cases hf:Fx o.kind with
   | true=>rw [hf] at h2;simpa using h2
   | false=>rw [hf,hk] at h1;simp at h1
theorem Ya (o:Op) {w:World} {K:TR [.ag [.s,.s],.sc (.i .i64)]→Pr} (k:∀ w',Aa [] w w'→K (if ER o=0 then (((Dp o).1,(Dp o).2,()),0,()) else ((BA [],BA [],()),ER o,())) w'):Cl Pg 61 [.agg #[.int .i64 o.kind,.string o.key,.string o.value,.string o.lo,.string o.hi,.int .i64 o.AD]] true [.ag [.s,.s],.sc (.i .i64)] K w:=by
 refine Xu _ _ _ _ _ _ ?_;unfold Aci;dsimp only [Ar,N6,AN,Ls,Tt,Vt];refine Ad fun a w1 h1 n1 k1=>?_;refine Ad fun b w2 h2 n2 k2=>?_;have h1:=k2.Aw h1;have n02:w.heap.size≤b:=by have:=k1.size;omega
 simp only [sb,h1];refine Ni o fun w3 k3=>?_;have h1:=k3.Aw h1;have h2:=k3.Aw h2;have k03:=Aj (Aj k1 k2) k3;dsimp only;by_cases he:ER o=0
 ·rw [if_pos he] at k;rw [show (ER o != 0)=false from by rw [he];rfl];simp only [sb,h1];cases hs:seq o.key (BA []) with
  | true=>
   simp only [sb,h1];refine AdN o fun w4 k4=>?_;have h2:=k4.Aw h2;refine KI h2 fun w5 k5=>?_;have:=k w5 (BT (Aj k03 k4) k5 n02);rw [show Dp o=(o.lo,o.hi) from by unfold Dp;rw [hs];rfl] at this;exact this
  | false=>
   simp only [sb,h1];refine Ab3 _ fun w4 k4=>?_;have h2:=k4.Aw h2;rw [if_pos (XQ he hs)];refine KI h2 fun w5 k5=>?_;have:=k w5 (BT (Aj k03 k4) k5 n02);rw [show Dp o=(o.key,M9 o.key) from by unfold Dp;rw [hs];rfl] at this;exact this
 ·rw [if_neg he] at k;rw [show (ER o != 0)=true from by simpa using he];simp only [Af];refine KI h2 fun w4 k4=>?_;exact k w4 (BT k03 k4 n02)
def AI (o:Op):Lk:=⟨(Dp o).1,(Dp o).2,fWr o.kind⟩
theorem Ab2 {w:World} {s:Sl} {l:List Op} (h:A1 BQ w s l) (hN:l.length≤100000000) {K:TR [.sc .sl,.sc (.i .i64)]→Pr}
  (k:A9 l=0→∀ r w',Bh YT w' r (l.map AI)→(∀ x∈Ai r,w.heap.size≤x)→Aa [] w w'→K (r,0,()) w') (k':A9 l ≠ 0→∀ w',Aa [] w w'→K (⟨none,0,0⟩,A9 l,()) w'):Cl Pg 28 [.slice s.p s.len s.cap] true [.sc .sl,.sc (.i .i64)] K w:=by
 have hl:=h.len;refine VC _ ?_;unfold ZK;dsimp only [Ar,SG,N6,AN,Ls,Gh,Tt,Vt,Gx]
 refine ⟨fun n st w'=>∃ (q1:Sl) (q2:Int) (r:Sl) (i:Nat),st=(q1,q2,r,(i:Int),())∧n=l.length - i∧i≤l.length∧A9 (l.drop i)=A9 l∧Bh YT w' r ((l.take i).map AI)∧(∀ x∈Ai r,w.heap.size≤x)∧Aa [] w w',
  ⟨_,⟨none,0,0⟩,0,⟨none,0,0⟩,0,rfl,rfl,by omega,rfl,AE.nil _ _,by simp [Ai],Aa.refl _ _⟩,?_⟩
 rintro n _ w1 ⟨q1,q2,r,i,rfl,rfl,hi,he,hr,fr,k1⟩;dsimp only;by_cases hlt:i < l.length
 ·rw [decide_eq_true (by omega)];simp only [Af];obtain ⟨x,hx⟩:∃ x,l[i]?=some x:=⟨_,List.getElem?_eq_getElem hlt⟩;have hd:l.drop i=x :: l.drop (i + 1):=by rw [List.drop_eq_getElem_cons hlt,(List.getElem?_eq_some_iff.1 hx).2]
  rw [hd,A9] at he;refine Sn (h.Ab k1) hx ?_;refine Sq x fun b w2 h2 n2 k2=>?_;simp only [sb,h2];refine Ya x fun w3 k3=>?_;have h2:=k3.Aw h2;have k03:=Aj (Aj k1 k2) k3;by_cases hc:ER x=0
  ·rw [if_pos hc];rw [if_neg (by rw [hc];simp)] at he;refine bx2 rfl rfl rfl fun c w4 h4 n4 k4=>?_;have h2:=k4.Aw h2;simp only [show ((0:Int) != 0)=false from rfl,sb,h2,h4];have h2d:w4.drew.heap[b]?=_:=h2;have h4d:w4.drew.heap[c]?=_:=h4;refine Vn x fun w5 k5=>?_;have h4:=k5.Aw h4d;have k05:=Aj (Aj k03 k4).drew k5;simp only [sb,h4];refine ⟨by trivial,?_⟩;refine Ad fun d w6 h6 n6 k6=>?_;have k06:=Aj k05 k6;have k16:Aa [] w1 w6:=Aj (Aj (Aj (Aj k2 k3) k4).drew k5) k6;have hr6:=hr.Ab k16;have hrl:=hr6.BY;rw [List.length_map,List.length_take] at hrl;refine AE.app (ρ:=YT) (new:=[AI x]) hr6 (by rw [List.flatMap_singleton];exact BI (ρ:=YT) (x:=AI x) h6) rfl (by rw [Acf];rfl) (by omega) (by omega) ?_;intro r' w7 h7 k7 hb7;refine ⟨l.length - (i + 1),by omega,q1,q2,r',i + 1,by rw [AK (by omega)],rfl,by omega,he,?_,fun y hy=>?_,Ky k06 k7 fr⟩
   ·rw [List.take_add_one,hx,List.map_append];exact h7
   ·rcases hb7 y hy with h' | h'
    ·exact fr y h'
    ·have:=k06.size;omega
  ·rw [if_neg hc];rw [if_pos (by simpa using hc)] at he;refine bx2 rfl rfl rfl fun c w4 h4 n4 k4=>?_;dsimp only;rw [show (ER x != 0)=true from by simpa using hc,he];exact k' (by rw [← he];exact hc) _ (Aj k03 k4)
 ·rw [decide_eq_false (by omega)];rw [List.drop_of_length_le (by omega),A9] at he;rw [List.take_of_length_le (by omega)] at hr;exact k he.symm _ _ hr fr k1
def SJ:ByteArray→List Pa→Int
 | _,[]=>0
 | last,p :: m=>if !Kx p.k then 20 else if decide (p.v.size > 16) then 2 else if slt p.k last || seq p.k last then 1 else SJ p.k m
theorem Aax {w:World} {s:Sl} {l:List Pa} (h:A1 C2 w s l) (hN:l.length≤100000000) {K:TR [.sc (.i .i64)]→Pr} (k:∀ w',Aa [] w w'→K (SJ (BA []) l,()) w'):Cl Pg 271 [.slice s.p s.len s.cap] false [.sc (.i .i64)] K w:=by
 have hl:=h.len;refine Q6 _ ?_;unfold Sk;dsimp only [Ls,Tt,Vt];refine ⟨fun n st w'=>∃ (q:Int) (z:ByteArray) (i:Nat),st=(q,z,(i:Int),())∧n=l.length - i∧i≤l.length∧SJ z (l.drop i)=SJ (BA []) l∧Aa [] w w',⟨_,0,BA [],0,rfl,rfl,by omega,rfl,Aa.refl _ _⟩,?_⟩;rintro n _ w1 ⟨q,z,i,rfl,rfl,hi,he,k1⟩;dsimp only;by_cases hlt:i < l.length
 ·rw [decide_eq_true (by omega)];simp only [Af];obtain ⟨x,hx⟩:∃ x,l[i]?=some x:=⟨_,List.getElem?_eq_getElem hlt⟩;have hd:l.drop i=x :: l.drop (i + 1):=by rw [List.drop_eq_getElem_cons hlt,(List.getElem?_eq_some_iff.1 hx).2]
  rw [hd,SJ] at he;refine KH (h.Ab k1) hx ?_;refine KC x fun b w2 h2 n2 k2=>?_;simp only [sb,h2];refine Hb _ ?_;have k02:=Aj k1 k2;dsimp only;rw [AcG];cases hc:Kx x.k with
  | false=>rw [hc] at he;rw [← he] at k;exact k _ k02
  | true=>
  rw [hc] at he;simp only [Bool.not_true,Bool.false_eq_true,if_false] at he;simp only [sb,h2,Bool.not_true];rw [show decide (((x.v.size:Nat):Int) > 16)=decide (x.v.size > 16) from decide_eq_decide.2 (by omega)];cases hv:decide (x.v.size > 16) with
  | true=>rw [hv] at he;rw [← he] at k;exact k _ k02
  | false=>
  rw [hv] at he;simp only [Bool.false_eq_true,if_false] at he;simp only [sb,h2];cases hs:(slt x.k z || seq x.k z) with
  | true=>rw [hs] at he;rw [← he] at k;exact k _ k02
  | false=>
  rw [hs] at he;simp only [Bool.false_eq_true,if_false] at he;simp only [sb,h2];exact ⟨l.length - (i + 1),by omega,q,x.k,i + 1,by rw [AK (by omega)],rfl,by omega,he,k02⟩
 ·rw [decide_eq_false (by omega)];rw [List.drop_of_length_le (by omega),SJ] at he;rw [← he] at k;exact k _ k1
structure AU (m:List Pa):Prop where
 ok:∀ p∈m,Kx p.k=true∧p.v.size≤16
 up:m.Pairwise (fun a b=>slt a.k b.k=true)
theorem Ago {m:List Pa} {z:ByteArray}:SJ z m=0 ↔ AU m∧∀ p∈m,slt z p.k=true:=by
 induction m generalizing z with
 | nil=>exact ⟨fun _=>⟨⟨by simp,by simp⟩,by simp⟩,fun _=>rfl⟩
 | cons p m ih=>
  rw [SJ];constructor
  ·intro h;split at h
   ·cases h
   rename_i h1;split at h
   ·cases h
   rename_i h2;split at h
   ·cases h
   rename_i h3;obtain ⟨g1,g2⟩:=ih.1 h;have h1':Kx p.k=true:=by simpa using h1
   have h2':p.v.size≤16:=by simpa using h2
   have h4:slt z p.k=true:=by
    simp only [Bool.or_eq_true,not_or,Bool.not_eq_true] at h3;cases hz:slt z p.k with
    | true=>rfl
    | false=>
     have:=Ek h3.1 hz;rw [this,seq_eq] at h3;simp at h3
   refine ⟨⟨fun x hx=>?_,List.pairwise_cons.2 ⟨g2,g1.up⟩⟩,fun x hx=>?_⟩
   ·rcases List.mem_cons.1 hx with rfl | hx
    ·exact ⟨h1',h2'⟩
    ·exact g1.ok x hx
   ·rcases List.mem_cons.1 hx with rfl | hx
    ·exact h4
    ·exact CB h4 (g2 x hx)
  ·rintro ⟨⟨g1,g2⟩,g3⟩;rw [List.pairwise_cons] at g2;have h1:=g1 p List.mem_cons_self;have h3:=g3 p List.mem_cons_self;rw [if_neg (by rw [h1.1];simp),if_neg (by simpa using h1.2),if_neg (by rw [Ct h3,seq_eq,decide_eq_false (Oz h3).symm];simp)];exact ih.2 ⟨⟨fun x hx=>g1 x (List.mem_cons_of_mem _ hx),g2.2⟩,g2.1⟩
theorem ZF {m:List Pa}:SJ (BA []) m=0 ↔ AU m:=by
 rw [Ago];refine ⟨fun h=>h.1,fun h=>⟨h,fun p hp=>?_⟩⟩;rw [Ws];have:=(h.ok p hp).1;unfold Kx at this;simp at this;simpa using this.1
theorem Qj {w:World} {s:Sl} {m:List Pa} (h:A1 C2 w s m) (hm:AU m) (hN:m.length≤100000000) (key:ByteArray) {K:TR [.sc (.i .i64),.sc .b]→Pr} (k:∀ w',Aa [] w w'→K ((Ba (fun p:Pa=>C1 p.k key) m:Int),Ee (fun p:Pa=>C1 p.k key) m,()) w') :
  Cl Pg 293 [.slice s.p s.len s.cap,.string key] true [.sc (.i .i64),.sc .b] K w:=by
 refine Aaj _ _ ?_;unfold Ahi;dsimp only [Vs,Vt];refine VH (c:=fun p:Pa=>C1 p.k key) h ?_ ?_ hN fun w' k'=>k w' k'
 ·intro w1 k1 x _ K1 hK;refine Ap (by kernel_rfl) ?_;refine XG _ _ _ ?_;unfold Acb;dsimp only [Ls,Vt];refine Ad fun b w2 h2 n2 k2=>?_;simp only [sb,h2];exact We _ _ (hK _ k2)
 ·exact hm.up.imp fun h=>by rw [GI,GI];exact CB h
theorem Abe {α:Type} {c:α→Int} {l:List α} (hp:l.Pairwise (fun a b=>c b < 0→c a < 0)):l.take (Ba c l)=l.filter (fun x=>decide (c x < 0))∧l.drop (Ba c l)=l.filter (fun x=>!decide (c x < 0)):=by
 have h1:∀ y∈l.take (Ba c l),c y < 0:=by
  intro y hy;obtain ⟨j,hj,rfl⟩:=List.mem_take_iff_getElem.1 hy;exact Qg (List.getElem?_eq_getElem (by omega)) (by omega)
 have h2:∀ y∈l.drop (Ba c l),¬ c y < 0:=by
  intro y hy;obtain ⟨j,hj⟩:=List.getElem?_of_mem hy;rw [List.getElem?_drop] at hj;have:=PD hp hj (Nat.le_add_right _ _);omega
 constructor
 ·conv=>rhs;rw [← List.take_append_drop (Ba c l) l]
  rw [List.filter_append,List.filter_eq_self.2 (fun y hy=>by simpa using h1 y hy),List.filter_eq_nil_iff.2 (fun y hy=>by simpa using h2 y hy),List.append_nil]
 ·conv=>rhs;rw [← List.take_append_drop (Ba c l) l]
  rw [List.filter_append,List.filter_eq_nil_iff.2 (fun y hy=>by simpa using h1 y hy),List.filter_eq_self.2 (fun y hy=>by simpa using h2 y hy),List.nil_append]
theorem AU.bs {m:List Pa} (h:AU m) (key:ByteArray):m.take (Ba (fun p:Pa=>C1 p.k key) m)=m.filter (fun p=>slt p.k key)∧m.drop (Ba (fun p:Pa=>C1 p.k key) m)=m.filter (fun p=>!slt p.k key):=by
 have:=Abe (c:=fun p:Pa=>C1 p.k key) (l:=m) (h.up.imp fun h=>by rw [GI,GI];exact CB h);have e:(fun p:Pa=>decide (C1 p.k key < 0))=fun p=>slt p.k key:=by
  funext p
  rw [Bool.eq_iff_iff,decide_eq_true_iff,GI]
 have e2:(fun p:Pa=>!decide (C1 p.k key < 0))=fun p=>!slt p.k key:=by
  funext p
  exact congrArg not (congrFun e p)
 rw [e,e2] at this;exact this
theorem AU.sub {m m':List Pa} (h:AU m) (hs:List.Sublist m' m):AU m':=⟨fun p hp=>h.ok p (hs.subset hp),h.up.sublist hs⟩
open Go Go.Sx
structure Rp where
 found:Bool
 value:ByteArray
 LL:List Pa
deriving DecidableEq
def Rs.p (x:Rs):Rp:=⟨x.found,x.value,x.LL⟩
def Y6:Rp:=⟨false,BA [],[]⟩
def Hm (m:List Pa) (key:ByteArray):Option ByteArray:=(m.find? (fun p=>seq p.k key)).map (·.v)
def S7 (m:List Pa) (key value:ByteArray):List Pa:=m.filter (fun p=>slt p.k key) ++ ⟨key,value⟩ :: m.filter (fun p=>slt key p.k)
def inM (lo hi:ByteArray) (p:Pa):Bool:=!slt p.k lo && (seq hi (BA []) || slt p.k hi)
def RU (m:List Pa) (o:Op):List Pa × Rp:=
 if o.kind=1 then (m,match Hm m o.key with | some v=>⟨true,v,[]⟩ | none=>Y6)
 else if o.kind=2 then (S7 m o.key o.value,Y6)
 else if o.kind=3 then (m.filter (fun p=>!seq p.k o.key),Y6)
 else if o.kind=4 then (m,⟨false,BA [],(m.filter (inM o.lo o.hi)).take o.AD.toNat⟩)
 else (m.filter (fun p=>!inM o.lo o.hi p),Y6)
def Bd (m:List Pa):List Op→List Pa × List Rp
 | []=>(m,[])
 | o :: l=>((Bd (RU m o).1 l).1,(RU m o).2 :: (Bd (RU m o).1 l).2)
theorem AU.is {m:List Pa} (h:AU m) (key:ByteArray):Ee (fun p:Pa=>C1 p.k key) m=true→∃ p,m[Ba (fun p:Pa=>C1 p.k key) m]?=some p∧p.k=key:=by
 intro hi;unfold Ee at hi;split at hi
 ·rename_i p hp;rw [AbO,decide_eq_true_iff] at hi;exact ⟨p,hp,hi⟩
 ·cases hi
theorem AU.AhU {m:List Pa} (h:AU m) {key:ByteArray} (hi:Ee (fun p:Pa=>C1 p.k key) m=false):∀ p∈m,p.k ≠ key:=by
 intro p hp e;obtain ⟨j,hj⟩:=List.getElem?_of_mem hp;have hpw:m.Pairwise (fun a b=>C1 b.k key < 0→C1 a.k key < 0):=h.up.imp fun h=>by rw [GI,GI];exact CB h
 have h0:¬ C1 p.k key < 0:=by rw [GI,e,KF];simp
 have h1:Ba (fun p:Pa=>C1 p.k key) m≤j:=by
  rcases Nat.lt_or_ge j (Ba (fun p:Pa=>C1 p.k key) m) with h' | h'
  ·exact absurd (Qg hj h') h0
  ·exact h'
 have hjl:=(List.getElem?_eq_some_iff.1 hj).1;obtain ⟨x,hx⟩:∃ x,m[Ba (fun p:Pa=>C1 p.k key) m]?=some x:=⟨_,List.getElem?_eq_getElem (by omega)⟩;unfold Ee at hi;rw [hx] at hi;dsimp only at hi;rw [AbO,decide_eq_false_iff_not] at hi;have h2:=PD hpw hx (Nat.le_refl _);rcases Nat.lt_or_ge (Ba (fun p:Pa=>C1 p.k key) m) j with h' | h'
 ·have h3:=List.pairwise_iff_getElem.1 h.up _ _ (by omega) hjl h';rw [(List.getElem?_eq_some_iff.1 hx).2,(List.getElem?_eq_some_iff.1 hj).2,e] at h3;rw [← GI] at h3;omega
 ·have:j=Ba (fun p:Pa=>C1 p.k key) m:=by omega
  rw [← this,hj] at hx;injection hx with hx;rw [hx] at e;exact hi e
theorem AU.uniq {m:List Pa} (h:AU m) {p q:Pa} (hp:p∈m) (hq:q∈m) (e:p.k=q.k):p=q:=by
 induction m with
 | nil=>cases hp
 | cons x m ih=>
  have hu:=List.pairwise_cons.1 h.up;have ht:AU m:=h.sub (List.sublist_cons_self _ _);rcases List.mem_cons.1 hp with hp1 | hp1 <;> rcases List.mem_cons.1 hq with hq1 | hq1
  ·rw [hp1,hq1]
  ·rw [hp1] at e;exact absurd e (Oz (hu.1 q hq1))
  ·rw [hq1] at e;exact absurd e.symm (Oz (hu.1 p hp1))
  ·exact ih ht hp1 hq1
theorem AU.Agn {m:List Pa} (h:AU m) {p:Pa} (hp:p∈m):Hm m p.k=some p.v:=by
 unfold Hm;cases hf:m.find? (fun q=>seq q.k p.k) with
 | none=>
  have:=List.find?_eq_none.1 hf p hp;rw [seq_eq] at this;simp at this
 | some q=>
  have h1:=List.find?_some hf;rw [seq_eq,decide_eq_true_iff] at h1;rw [h.uniq (List.mem_of_find?_eq_some hf) hp h1];rfl
theorem AcA {m:List Pa} {key:ByteArray} (h:∀ p∈m,p.k ≠ key):Hm m key=none:=by
 unfold Hm;rw [List.find?_eq_none.2 (fun p hp=>by rw [seq_eq];simpa using h p hp)];rfl
theorem AU.Ahj {m:List Pa} (h:AU m) {key:ByteArray} {p:Pa} (hp:m[Ba (fun p:Pa=>C1 p.k key) m]?=some p) (hk:p.k=key):m.drop (Ba (fun p:Pa=>C1 p.k key) m + 1)=m.filter (fun p=>slt key p.k):=by
 have hlt:=(List.getElem?_eq_some_iff.1 hp).1;have h2:=(h.bs key).2;rw [List.drop_eq_getElem_cons hlt,(List.getElem?_eq_some_iff.1 hp).2] at h2;have h3:(m.filter (fun p=>!slt p.k key)).filter (fun p=>slt key p.k)=m.filter (fun p=>slt key p.k):=by
  rw [List.filter_filter];refine List.filter_congr fun x _=>?_;cases hx:slt key x.k with
  | false=>simp
  | true=>rw [Ct hx];rfl
 rw [← h2,List.filter_cons,hk,KF] at h3;rw [← h3];simp only [Bool.false_eq_true,if_false];refine (List.filter_eq_self.2 fun x hx=>?_).symm;have h4:(p :: m.drop (Ba (fun p:Pa=>C1 p.k key) m + 1)).Pairwise (fun a b=>slt a.k b.k=true):=by
  have:=h.up.sublist (List.drop_sublist (Ba (fun p:Pa=>C1 p.k key) m) m)
  rwa [List.drop_eq_getElem_cons hlt,(List.getElem?_eq_some_iff.1 hp).2] at this
 rw [← hk];exact (List.pairwise_cons.1 h4).1 x hx
theorem AU.Ako {m:List Pa} {key:ByteArray} (h:∀ p∈m,p.k ≠ key):m.filter (fun p=>!slt p.k key)=m.filter (fun p=>slt key p.k):=by
 refine List.filter_congr fun x hx=>?_;cases h1:slt key x.k with
 | true=>rw [Ct h1];rfl
 | false=>
  cases h2:slt x.k key with
  | true=>rfl
  | false=>exact absurd (Ek h2 h1) (h x hx)
theorem Ahb {m:List Pa} (h:AU m) (key:ByteArray):m.filter (fun p=>!seq p.k key)=m.filter (fun p=>slt p.k key) ++ m.filter (fun p=>slt key p.k):=by
 have h1:=(h.bs key).1;have h2:=(h.bs key).2
 conv=>lhs;rw [← List.take_append_drop (Ba (fun p:Pa=>C1 p.k key) m) m,List.filter_append,h1,h2,List.filter_filter,List.filter_filter]
 congr 1
 ·refine List.filter_congr fun x _=>?_;rw [seq_eq];cases h3:slt x.k key with
  | true=>rw [decide_eq_false (Oz h3)];rfl
  | false=>simp
 ·refine List.filter_congr fun x _=>?_;rw [seq_eq];cases h3:slt key x.k with
  | true=>rw [Ct h3,decide_eq_false (Oz h3).symm];rfl
  | false=>
   cases h4:slt x.k key with
   | true=>simp
   | false=>rw [Ek h4 h3];simp
theorem AU.put {m:List Pa} (h:AU m) {key value:ByteArray} (h1:Kx key=true) (h2:value.size≤16):AU (S7 m key value):=by
 constructor
 ·intro p hp;unfold S7 at hp;rcases List.mem_append.1 hp with hp | hp
  ·exact h.ok p (List.mem_filter.1 hp).1
  ·rcases List.mem_cons.1 hp with rfl | hp
   ·exact ⟨h1,h2⟩
   ·exact h.ok p (List.mem_filter.1 hp).1
 ·unfold S7;rw [List.pairwise_append];refine ⟨h.up.sublist List.filter_sublist,List.pairwise_cons.2 ⟨fun x hx=>(List.mem_filter.1 hx).2,h.up.sublist List.filter_sublist⟩,fun x hx y hy=>?_⟩;have hx:=(List.mem_filter.1 hx).2;rcases List.mem_cons.1 hy with rfl | hy
  ·exact hx
  ·exact CB hx (List.mem_filter.1 hy).2
theorem Ri {o:Op} (h:ER o=0):Na o.kind=true∧(Fx o.kind=true→Kx o.key=true)∧o.value.size≤16∧(FH o.kind=true→Da o.lo o.hi=true)∧(FD o.kind=true→1≤o.AD∧o.AD≤4):=by
 unfold ER at h
 repeat' split at h
 all_goals first | (cases h;done) | skip
 rename_i h1 h2 h3 h4 h5;refine ⟨?_,?_,?_,?_,?_⟩
 ·simp only [Bool.or_eq_true,not_or,Bool.not_eq_true,Bool.not_eq_false'] at h1;exact h1.1
 ·intro e;rw [e] at h2;simpa using h2
 ·simpa using h3
 ·intro e;rw [e] at h4;simpa using h4
 ·intro e;rw [e] at h5;simp at h5;omega
theorem AiO {m:List Pa} (h:AU m) {o:Op} (ho:ER o=0):AU (RU m o).1:=by
 obtain ⟨h1,h2,h3,_⟩:=Ri ho;unfold RU;split
 ·exact h
 split
 ·rename_i e;exact h.put (h2 (by rw [e];rfl)) h3
 split
 ·exact h.sub List.filter_sublist
 split
 ·exact h
 ·exact h.sub List.filter_sublist
theorem Nq {l:List Op}:∀ {m:List Pa},AU m→A9 l=0→AU (Bd m l).1:=by
 induction l with
 | nil=>intro m h _;exact h
 | cons o l ih=>
  intro m h hl;rw [Bu] at hl;exact ih (AiO h (hl o List.mem_cons_self)) (Bu.2 fun x hx=>hl x (List.mem_cons_of_mem _ hx))
theorem AfP (m:List Pa) (o:Op):(RU m o).1.length≤m.length + 1:=by
 have f:∀ p:Pa→Bool,(m.filter p).length≤m.length:=fun p=>List.length_filter_le _ _;unfold RU;split
 ·exact Nat.le_succ _
 split
 ·unfold S7;rw [List.length_append,List.length_cons];have e:(m.filter (fun p=>slt p.k o.key)).length + (m.filter (fun p=>slt o.key p.k)).length≤m.length:=by
   clear f;induction m with
   | nil=>simp
   | cons x m ih=>
    simp only [List.filter_cons,List.length_cons];cases h1:slt x.k o.key with
    | true=>rw [Ct h1];simp only [if_true,Bool.false_eq_true,if_false,List.length_cons];omega
    | false=>cases h2:slt o.key x.k <;> simp only [if_true,Bool.false_eq_true,if_false,List.length_cons] <;> omega
  omega
 split
 ·exact Nat.le_succ_of_le (f _)
 split
 ·exact Nat.le_succ _
 ·exact Nat.le_succ_of_le (f _)
theorem Aep {w:World} {s:Sl} {m:List Pa} (h:A1 C2 w s m) (hm:AU m) (hN:m.length≤100000000) (lo hi:ByteArray) {K:TR [.sc (.i .i64),.sc (.i .i64)]→Pr}
  (k:∀ w',Aa [] w w'→K ((Ba (fun p:Pa=>C1 p.k lo) m:Int),((if seq hi (BA []) then m.length else Ba (fun p:Pa=>C1 p.k hi) m:Nat):Int),()) w') :
  Cl Pg 296 [.slice s.p s.len s.cap,.agg #[.string lo,.string hi]] true [.sc (.i .i64),.sc (.i .i64)] K w:=by
 have hl:=h.len;refine Xq _ _ _ ?_;unfold AbG;dsimp only [Ls,Vs,Vt];refine Ad fun a w1 h1 n1 k1=>?_;simp only [sb,h1];refine Qj (h.Ab k1) hm hN lo fun w2 k2=>?_;have h1:=k2.Aw h1;have k02:=Aj k1 k2;simp only [Jp,sb,h1];cases hs:seq hi (BA []) with
 | true=>
  rw [hs] at k;simp only [Bool.not_true,Ae,hl];exact k w2 k02
 | false=>
  rw [hs] at k;simp only [Bool.not_false,sb,h1];refine Qj (h.Ab k02) hm hN hi fun w3 k3=>?_;exact k w3 (Aj k02 k3)
theorem AdW {m:List Pa} (h:AU m) {lo hi:ByteArray} (hr:Da lo hi=true) (i j:Nat) (hi0:i=Ba (fun p:Pa=>C1 p.k lo) m) (hj0:j=if seq hi (BA []) then m.length else Ba (fun p:Pa=>C1 p.k hi) m) :
  i≤j∧j≤m.length∧(m.drop i).take (j - i)=m.filter (inM lo hi)∧m.take i ++ m.drop j=m.filter (fun p=>!inM lo hi p):=by
 have hi1:i≤m.length:=by rw [hi0];exact Dv _ _
 have hj:j≤m.length:=by rw [hj0];split;exact Nat.le_refl _;exact Dv _ _
 have hL:=h.bs lo;rw [← hi0] at hL;have hH:=h.bs hi;have hij:i≤j:=by
  rw [hj0];split
  ·exact hi1
  ·rename_i hs;rw [Bool.not_eq_true] at hs;have hlt:slt lo hi=true:=by
    unfold Da at hr;rw [hs] at hr;simp at hr;exact hr.2
   have e1:i=(m.filter (fun p=>slt p.k lo)).length:=by rw [← hL.1,List.length_take];omega
   have e2:Ba (fun p:Pa=>C1 p.k hi) m=(m.filter (fun p=>slt p.k hi)).length:=by
    rw [← hH.1,List.length_take];have:=Dv (fun p:Pa=>C1 p.k hi) m;omega
   rw [e1,e2];have e3:m.filter (fun p=>slt p.k lo)=(m.filter (fun p=>slt p.k hi)).filter (fun p=>slt p.k lo):=by
    rw [List.filter_filter];refine List.filter_congr fun x _=>?_;cases hx:slt x.k lo with
    | false=>rfl
    | true=>rw [CB hx hlt];rfl
   rw [e3];exact List.length_filter_le _ _
 have hJ:m.take j=m.filter (fun p=>seq hi (BA []) || slt p.k hi)∧m.drop j=m.filter (fun p=>!(seq hi (BA []) || slt p.k hi)):=by
  rw [hj0];cases hs:seq hi (BA []) with
  | true=>
   simp only [if_true,Bool.true_or,Bool.not_true,List.take_length,List.drop_length];exact ⟨(List.filter_eq_self.2 fun _ _=>rfl).symm,(List.filter_eq_nil_iff.2 fun _ _=>by simp).symm⟩
  | false=>
   simp only [Bool.false_eq_true,if_false,Bool.false_or];exact hH
 refine ⟨hij,hj,?_,?_⟩
 ·have:(m.drop i).take (j - i)=(m.take j).drop i:=by rw [List.drop_take]
  rw [this,hJ.1];have e:m.filter (inM lo hi)=((m.filter (fun p=>seq hi (BA []) || slt p.k hi))).filter (fun p=>!slt p.k lo):=by
   rw [List.filter_filter];rfl
  rw [e,← hJ.1]
  conv=>rhs;rw [← List.take_append_drop i (m.take j),List.filter_append]
  have h1:(m.take j).take i=m.filter (fun p=>slt p.k lo):=by rw [List.take_take,Nat.min_eq_left hij];exact hL.1
  have h2:∀ x∈(m.take j).drop i,(!slt x.k lo)=true:=by
   intro x hx;have:x∈m.drop i:=(List.Sublist.drop (List.take_sublist _ _) _).subset hx;rw [hL.2] at this;exact (List.mem_filter.1 this).2
  rw [h1,List.filter_eq_self.2 h2,List.filter_eq_nil_iff.2 (fun x hx=>by rw [(List.mem_filter.1 hx).2];simp),List.nil_append]
 ·rw [hL.1,hJ.2]
  conv=>rhs;rw [← List.take_append_drop i m,List.filter_append,hL.1,hL.2,List.filter_filter,List.filter_filter]
  congr 1
  ·refine (List.filter_congr fun x _=>?_);unfold inM;cases slt x.k lo <;> simp
  ·refine List.filter_congr fun x hx=>?_;unfold inM;cases h1:slt x.k lo with
   | false=>simp
   | true=>
    have hlt:(seq hi (BA []) || slt x.k hi)=true:=by
     cases hs:seq hi (BA []) with
     | true=>rfl
     | false=>
      have hlt:slt lo hi=true:=by
       unfold Da at hr;rw [hs] at hr;simp at hr;exact hr.2
      rw [CB h1 hlt];rfl
    rw [hlt];rfl
def DoK (o:Op) (m:List Pa) (s:Sl) (w:World) (K:TR [.sc .sl,.ag [.b,.s,.sl]]→Pr):Prop:=
 ∀ (r:Sl) (x:Rs) (w':World),Bh C2 w' r (RU m o).1→x.p=(RU m o).2→A1 C2 w' x.sp x.LL→(∀ b∈rb x.sp,w.heap.size≤b)→(∀ b∈rb x.sp,b ∉ Ai r)→(∀ b∈Ai r,b∈Ai s∨w.heap.size≤b)→Aa (Ai s) w w'→K (r,(x.found,x.value,x.sp,()),()) w'
theorem Aio {w:World} {b:Nat} {t:TypeId} {u0 u1 u2:Value} {x:Bool} {y:ByteArray} {z:Sl} {K:Bool→ByteArray→Sl→Pr} (h:w.heap[b]?=some (.cells #[u0,u1,u2] t (0,0))) (k:∀ w',Aa [b] w w'→K x y z w') :
  St (Addr.add ⟨b,0,none⟩ 0) (.bool x) (St (Addr.add ⟨b,0,none⟩ 1) (.string y) (St (Addr.add ⟨b,0,none⟩ 2) (.slice z.p z.len z.cap) (E7 (Addr.add ⟨b,0,none⟩ 0) fun x'=>BU (Addr.add ⟨b,0,none⟩ 1) fun y'=>DN (Addr.add ⟨b,0,none⟩ 2) fun z'=>K x' y' z'))) w:=by
 refine Mf h rfl rfl rfl fun w' h' k'=>?_;simp only [sb,h'];exact k w' k'
theorem NR {w:World} {b:Nat} {t:TypeId} {u0 u1 u2:Value} {x:Bool} {y:ByteArray} {K:Bool→ByteArray→Sl→Pr} (h:w.heap[b]?=some (.cells #[u0,u1,u2] t (0,0))) (k:∀ w',Aa [b] w w'→K x y ⟨none,0,0⟩ w') :
  St (Addr.add ⟨b,0,none⟩ 0) (.bool x) (St (Addr.add ⟨b,0,none⟩ 1) (.string y) (St (Addr.add ⟨b,0,none⟩ 2) (.slice none 0 0) (E7 (Addr.add ⟨b,0,none⟩ 0) fun x'=>BU (Addr.add ⟨b,0,none⟩ 1) fun y'=>DN (Addr.add ⟨b,0,none⟩ 2) fun z'=>K x' y' z'))) w:=Aio (z:=⟨none,0,0⟩) h k
theorem kpb {m:List Nat} {b:Nat} {a c d:World} (h:Aa m a c) (k:Aa [b] c d) (hb:a.heap.size≤b):Aa m a d:=h.trans k (by intro x hx;rw [List.mem_singleton.1 hx];exact .inr hb)
theorem kpm {m:List Nat} {a c d:World} (h:Aa m a c) (k:Aa [] c d):Aa m a d:=h.trans k (by simp)
theorem k0m {m:List Nat} {a c d:World} (h:Aa [] a c) (k:Aa m c d):Aa m a d:=(h.mono (by simp)).trans k (fun _ h=>.inl h)
section
variable {w:World} {s:Sl} {m:List Pa} (h:Bh C2 w s m) (hm:AU m) (hN:m.length≤1000000) (o:Op) (ho:ER o=0)
include h hm hN ho
theorem Akf (hk:o.kind=1) {K:TR [.sc .sl,.ag [.b,.s,.sl]]→Pr} (k:DoK o m s w K):Cl Pg 265 [.slice s.p s.len s.cap,.agg #[.int .i64 o.kind,.string o.key,.string o.value,.string o.lo,.string o.hi,.int .i64 o.AD]] true [.sc .sl,.ag [.b,.s,.sl]] K w:=by
 refine ZB _ _ _ _ _ _ _ ?_;unfold Af4;dsimp only [Ar,HX,Ls,Tb,Tt,Vs,Vt,Nw];refine Ad fun a w1 h1 n1 k1=>?_;refine Ad fun b w2 h2 n2 k2=>?_;have h1:=k2.Aw h1;have k02:=Aj k1 k2;have n2':w.heap.size≤b:=by have:=k1.size;omega
 simp only [sb,h1];refine Qj (h.C6.Ab k02) hm (by omega) o.key fun w3 k3=>?_;have h2:=k3.Aw h2;have k03:=Aj k02 k3;have nb:b ∉ Ai s:=fun hb=>by have:=h.lt b hb;omega
 have hd:RU m o=(m,match Hm m o.key with | some v=>⟨true,v,[]⟩ | none=>Y6):=by unfold RU;rw [if_pos hk]
 unfold DoK at k;rw [hd] at k;cases hi:Ee (fun p:Pa=>C1 p.k o.key) m with
 | false=>
  rw [AcA (hm.AhU hi)] at k;simp only [Bool.not_false,Af];refine NR h2 fun w4 k4=>?_;exact k s ⟨false,BA [],⟨none,0,0⟩,[]⟩ w4 ((h.Ab k03).keeps k4 (fun x hx=>by simp;exact fun e=>nb (e ▸ hx))) rfl (A1.nil _) (by simp [rb]) (by simp [rb]) (fun x hx=>.inl hx) ((BT k03 k4 n2').mono (by simp))
 | true=>
  obtain ⟨p,hp,hpk⟩:=hm.is o.key hi;rw [← hpk,hm.Agn (List.mem_of_getElem? hp)] at k;simp only [Bool.not_true,Ae,Dr];have h2d:w3.drew.heap[b]?=_:=h2;have k03d:=k03.drew;have hs3:=h.C6.Ab k03d;obtain ⟨q,hq,hqc⟩:=hs3.at hp;have hi2:=(List.getElem?_eq_some_iff.1 hp).1;have hl:=h.BY;unfold Ix;rw [hq];refine ⟨by omega,by omega,?_⟩;rw [Int.toNat_natCast];refine ⟨p.v,hqc 1 _ rfl,?_⟩;refine NR h2d fun w4 k4=>?_;exact k s ⟨true,p.v,⟨none,0,0⟩,[]⟩ w4 ((h.Ab k03d).keeps k4 (fun x hx=>by simp;exact fun e=>nb (e ▸ hx))) rfl (A1.nil _) (by simp [rb]) (by simp [rb]) (fun x hx=>.inl hx) ((BT k03d k4 n2').mono (by simp))
theorem AjT (hk:o.kind=2) {K:TR [.sc .sl,.ag [.b,.s,.sl]]→Pr} (k:DoK o m s w K):Cl Pg 266 [.slice s.p s.len s.cap,.agg #[.int .i64 o.kind,.string o.key,.string o.value,.string o.lo,.string o.hi,.int .i64 o.AD]] true [.sc .sl,.ag [.b,.s,.sl]] K w:=by
 refine ZQ _ _ _ _ _ _ _ ?_;unfold Afd;dsimp only [Ar,HX,Ls,Tb,Tt,Vi,Vs,Vt,Nw];refine Ad fun a w1 h1 n1 k1=>?_;refine Ad fun b w2 h2 n2 k2=>?_;have h1:=k2.Aw h1;have k02:=Aj k1 k2;have n2':w.heap.size≤b:=by have:=k1.size;omega
 simp only [sb,h1];refine Qj (h.C6.Ab k02) hm (by omega) o.key fun w3 k3=>?_;have h1:=k3.Aw h1;have h2:=k3.Aw h2;have k03:=Aj k02 k3;have nb:b ∉ Ai s:=fun hb=>by have:=h.lt b hb;omega
 have hd:RU m o=(S7 m o.key o.value,Y6):=by unfold RU;rw [if_neg (by rw [hk];decide),if_pos hk]
 unfold DoK at k;rw [hd] at k;have hbs:=hm.bs o.key;have hle:=Dv (fun p:Pa=>C1 p.k o.key) m;cases hi:Ee (fun p:Pa=>C1 p.k o.key) m with
 | false=>
  simp only [Bool.not_false,sb,h1];refine Ad fun c w4 h4 n4 k4=>?_;have h2:=k4.Aw h2;have k04:=Aj k03 k4;have nc:c ∉ Ai s:=fun hc=>by have:=h.lt c hc;have:=k03.size;omega
  refine VQ (x:=⟨o.key,o.value⟩) (h.Ab k04) h4 nc hle (by omega) ?_;intro r w5 h5 f5 k5;have h2:=k5.at h2 nb;rw [hbs.1,hbs.2,AU.Ako (hm.AhU hi)] at h5;have br:b ∉ Ai r:=fun hb=>by
   rcases f5 b hb with h' | h'
   ·exact nb h'
   ·have:=Av h2;have:=Av (k4.Aw (k3.Aw (show w2.heap[b]?=_ from by assumption)));omega
  refine NR h2 fun w6 k6=>?_;refine k r ⟨false,BA [],⟨none,0,0⟩,[]⟩ w6 (h5.keeps k6 (fun x hx=>by simp;exact fun e=>br (e ▸ hx))) rfl (A1.nil _) (by simp [rb]) (by simp [rb]) (fun x hx=>?_) (kpb (k0m k04 k5) k6 n2');rcases f5 x hx with h' | h'
  ·exact .inl h'
  ·have:=k04.size;exact .inr (by omega)
 | true=>
  obtain ⟨p,hp,hpk⟩:=hm.is o.key hi;have hi2:=(List.getElem?_eq_some_iff.1 hp).1;simp only [Bool.not_true,sb,h1];have hs3:=h.Ab k03;have hl:=h.BY;obtain ⟨bb,oo,hpp,hbb⟩:=hs3.base (by omega);rw [G5 hpp (by omega) (by omega),Int.toNat_natCast,Cr];have e2:(Ba (fun p:Pa=>C1 p.k o.key) m + 1) * 2≤m.length * 2:=Nat.mul_le_mul_right _ hi2;have hfl:(m.flatMap C2.c).length=m.length * 2:=AP C2.len m;refine hs3.Abh hpp (Ba (fun p:Pa=>C1 p.k o.key) m * 2 + 1) (by omega) (by omega) rfl ?_;intro w4 h4 k4;rw [Nf (size:=2) C2.len m _ 1 p ⟨o.key,o.value⟩ (.string o.value) hp (by decide) (by rw [← hpk];rfl)] at h4;have e3:m.set (Ba (fun p:Pa=>C1 p.k o.key) m) ⟨o.key,o.value⟩=S7 m o.key o.value:=by
   unfold S7;rw [List.set_eq_take_append_cons_drop,if_pos hi2,hbs.1,hm.Ahj hp hpk]
  rw [e3] at h4;have k4':Aa (Ai s) w3 w4:=by rw [hbb];exact k4
  have h2:=k4'.at h2 nb;refine NR h2 fun w5 k5=>?_;exact k s ⟨false,BA [],⟨none,0,0⟩,[]⟩ w5 (h4.keeps k5 (fun x hx=>by simp;exact fun e=>nb (e ▸ hx))) rfl (A1.nil _) (by simp [rb]) (by simp [rb]) (fun x hx=>.inl hx) (kpb (k0m k03 k4') k5 n2')
theorem AjM (hk:o.kind=3) {K:TR [.sc .sl,.ag [.b,.s,.sl]]→Pr} (k:DoK o m s w K):Cl Pg 267 [.slice s.p s.len s.cap,.agg #[.int .i64 o.kind,.string o.key,.string o.value,.string o.lo,.string o.hi,.int .i64 o.AD]] true [.sc .sl,.ag [.b,.s,.sl]] K w:=by
 refine ZL _ _ _ _ _ _ _ ?_;unfold Ae7;dsimp only [Ar,HX,Ls,Tb,Vi,Vs,Vt,Nw];refine Ad fun a w1 h1 n1 k1=>?_;refine Ad fun b w2 h2 n2 k2=>?_;have h1:=k2.Aw h1;have k02:=Aj k1 k2;have n2':w.heap.size≤b:=by have:=k1.size;omega
 have nb:b ∉ Ai s:=fun hb=>by have:=h.lt b hb;omega
 have hd:RU m o=(m.filter (fun p=>!seq p.k o.key),Y6):=by unfold RU;rw [if_neg (by rw [hk];decide),if_neg (by rw [hk];decide),if_pos hk]
 unfold DoK at k;rw [hd] at k;have hbs:=hm.bs o.key;have hle:=Dv (fun p:Pa=>C1 p.k o.key) m;refine AG (fun st w'=>Bh C2 w' st.1 (m.filter (fun p=>!seq p.k o.key))∧(∀ x∈Ai st.1,x∈Ai s)∧Aa (Ai s) w2 w') (fun J hJ=>?_) ?_
 ·simp only [sb,h1];refine Qj (h.C6.Ab k02) hm (by omega) o.key fun w3 k3=>?_;cases hi:Ee (fun p:Pa=>C1 p.k o.key) m with
  | false=>
   refine hJ (s,()) _ ⟨?_,fun _ hx=>hx,k3.mono (by simp)⟩;rw [List.filter_eq_self.2 (fun p hp=>by rw [seq_eq];simpa using hm.AhU hi p hp)];exact (h.Ab k02).Ab k3
  | true=>
   obtain ⟨p,hp,hpk⟩:=hm.is o.key hi;have hi2:=(List.getElem?_eq_some_iff.1 hp).1;simp only [Af];refine NS ((h.Ab k02).Ab k3) (Nat.le_succ _) hi2 (by omega) rfl (AK (by omega)) ?_;intro r w4 h4 f4 k4;refine hJ (r,()) _ ⟨?_,f4,k0m k3 k4⟩;rw [hbs.1,hm.Ahj hp hpk,← Ahb hm] at h4;exact h4
 ·rintro ⟨r,_⟩ w3 ⟨h3,f3,k3⟩;dsimp only at h3 f3;have h2:=k3.at h2 nb;refine NR h2 fun w4 k4=>?_;exact k r ⟨false,BA [],⟨none,0,0⟩,[]⟩ w4 (h3.keeps k4 (fun x hx=>by simp;exact fun e=>nb (e ▸ f3 x hx))) rfl (A1.nil _) (by simp [rb]) (by simp [rb]) (fun x hx=>.inl (f3 x hx)) (kpb (k0m k02 k3) k4 n2')
theorem Ai2 (hk:o.kind=4) {K:TR [.sc .sl,.ag [.b,.s,.sl]]→Pr} (k:DoK o m s w K):Cl Pg 268 [.slice s.p s.len s.cap,.agg #[.int .i64 o.kind,.string o.key,.string o.value,.string o.lo,.string o.hi,.int .i64 o.AD]] true [.sc .sl,.ag [.b,.s,.sl]] K w:=by
 obtain ⟨_,_,_,hr,hmo⟩:=Ri ho;have hr:=hr (by rw [hk];rfl);have hmo:=hmo (by rw [hk];rfl);refine XS _ _ _ _ _ _ _ ?_;unfold Acl;dsimp only [Ar,HX,Li,AN,Tb,Ts,Vs,Vt,Nw];refine Ad fun a w1 h1 n1 k1=>?_;refine Ad fun b w2 h2 n2 k2=>?_;have h1:=k2.Aw h1;have k02:=Aj k1 k2;have n2':w.heap.size≤b:=by have:=k1.size;omega
 have nb:b ∉ Ai s:=fun hb=>by have:=h.lt b hb;omega
 have hd:RU m o=(m,⟨false,BA [],(m.filter (inM o.lo o.hi)).take o.AD.toNat⟩):=by unfold RU;rw [if_neg (by rw [hk];decide),if_neg (by rw [hk];decide),if_neg (by rw [hk];decide),if_pos hk]
 unfold DoK at k;rw [hd] at k;simp only [sb,h1];refine AdN o fun w3 k3=>?_;have k03:=Aj k02 k3;refine Aep (h.C6.Ab k03) hm (by omega) o.lo o.hi fun w4 k4=>?_;have h1:=k4.Aw (k3.Aw h1);have h2:=k4.Aw (k3.Aw h2);have k04:=Aj k03 k4;obtain ⟨i,hi⟩:∃ i,i=Ba (fun p:Pa=>C1 p.k o.lo) m:=⟨_,rfl⟩;obtain ⟨j,hj⟩:∃ j,j=if seq o.hi (BA []) then m.length else Ba (fun p:Pa=>C1 p.k o.hi) m:=⟨_,rfl⟩;obtain ⟨e1,e2,e3,_⟩:=AdW hm hr i j hi hj;rw [← hi,← hj];obtain ⟨q,hq⟩:∃ q:Nat,o.AD=q:=⟨o.AD.toNat,by omega⟩;have hl:=h.BY;have hcap:=h.cap;simp only [sb,h1];rw [hq,Oq rfl rfl (by omega)];have hmin:(if ((i + q:Nat):Int) < ((j:Nat):Int) then ((i + q:Nat):Int) else ((j:Nat):Int))=((min (i + q) j:Nat):Int):=by split <;> omega
 rw [hmin];have hz:min (i + q) j≤j:=Nat.min_le_right _ _;have hz2:i≤min (i + q) j:=Nat.le_min.2 ⟨Nat.le_add_right _ _,e1⟩;have hz3:min (min (i + q) j - i) (j - i)=min q (j - i):=by omega
 generalize min (i + q) j=z at *;refine ⟨⟨by omega,by omega⟩,?_⟩;simp only [Int.toNat_natCast];refine ⟨⟨Int.natCast_nonneg _,Int.ofNat_le.2 hz2⟩,?_⟩;have hmid:=(h.C6.Ab k04).drop (lo:=i) (hi:=z) (by omega) (by omega);refine Qb hmid (by rw [List.length_take,List.length_drop];omega) ?_;intro r w5 h5 f5 k5;have h2:=k5.Aw h2;have k05:=Aj k04 k5;refine Aio h2 fun w6 k6=>?_;have s04:=k04.size;have br:b ∉ Ai r:=fun hb=>by
  have:=f5 b hb;have:=Av (k4.Aw (k3.Aw (show w2.heap[b]?=_ from by assumption)));omega
 have hpairs:(m.drop i).take (z - i)=(m.filter (inM o.lo o.hi)).take o.AD.toNat:=by
  rw [← e3,List.take_take,hq,Int.toNat_natCast,← hz3,Nat.min_eq_left (by omega)]
 refine k s ⟨false,BA [],r,_⟩ w6 ((h.Ab k05).keeps k6 (fun x hx=>by simp;exact fun e=>nb (e ▸ hx))) ?_ (h5.C6.keeps k6 (fun x hx=>by simp;exact fun e=>br (e ▸ h5.rb x hx))) (fun x hx=>?_) (fun x hx hs=>?_) (fun x hx=>.inl hx) ((BT k05 k6 n2').mono (by simp))
 ·unfold Rs.p;rw [← hpairs]
 ·have:=f5 x (h5.rb x hx);omega
 ·have:=f5 x (h5.rb x hx);have:=h.lt x hs;omega
theorem Agl (hk:o.kind=5) {K:TR [.sc .sl,.ag [.b,.s,.sl]]→Pr} (k:DoK o m s w K):Cl Pg 269 [.slice s.p s.len s.cap,.agg #[.int .i64 o.kind,.string o.key,.string o.value,.string o.lo,.string o.hi,.int .i64 o.AD]] true [.sc .sl,.ag [.b,.s,.sl]] K w:=by
 obtain ⟨_,_,_,hr,_⟩:=Ri ho;have hr:=hr (by rw [hk];rfl);refine Wg _ _ _ _ _ _ _ ?_;unfold Zb;dsimp only [Ar,HX,AN,Tb,Vi,Vs,Vt,Nw];refine Ad fun a w1 h1 n1 k1=>?_;refine Ad fun b w2 h2 n2 k2=>?_;have h1:=k2.Aw h1;have k02:=Aj k1 k2;have n2':w.heap.size≤b:=by have:=k1.size;omega
 have nb:b ∉ Ai s:=fun hb=>by have:=h.lt b hb;omega
 have hd:RU m o=(m.filter (fun p=>!inM o.lo o.hi p),Y6):=by unfold RU;rw [if_neg (by rw [hk];decide),if_neg (by rw [hk];decide),if_neg (by rw [hk];decide),if_neg (by rw [hk];decide)]
 unfold DoK at k;rw [hd] at k;simp only [sb,h1];refine AdN o fun w3 k3=>?_;have k03:=Aj k02 k3;refine Aep (h.C6.Ab k03) hm (by omega) o.lo o.hi fun w4 k4=>?_;have h2:=k4.Aw (k3.Aw h2);have k04:=Aj k03 k4;obtain ⟨e1,e2,_,e4⟩:=AdW hm hr _ _ rfl rfl;refine NS (h.Ab k04) e1 e2 (by omega) rfl rfl ?_;intro r w5 h5 f5 k5;rw [e4] at h5;have h2:=k5.at h2 nb;refine NR h2 fun w6 k6=>?_;exact k r ⟨false,BA [],⟨none,0,0⟩,[]⟩ w6 (h5.keeps k6 (fun x hx=>by simp;exact fun e=>nb (e ▸ f5 x hx))) rfl (A1.nil _) (by simp [rb]) (by simp [rb]) (fun x hx=>.inl (f5 x hx)) (kpb (k0m k04 k5) k6 n2')
theorem Alf {K:TR [.sc .sl,.ag [.b,.s,.sl]]→Pr} (k:DoK o m s w K):AB Pg (Zk o.kind) [.slice s.p s.len s.cap,.agg #[.int .i64 o.kind,.string o.key,.string o.value,.string o.lo,.string o.hi,.int .i64 o.AD]] true [.sc .sl,.ag [.b,.s,.sl]] K w:=by
 rcases PZ (Ri ho).1 with e | e | e | e | e
 ·rw [show Zk o.kind=.func (.func 265) #[] #[] from by rw [e];rfl];exact Ap (by kernel_rfl) (Akf h hm hN o ho e k)
 ·rw [show Zk o.kind=.func (.func 266) #[] #[] from by rw [e];rfl];exact Ap (by kernel_rfl) (AjT h hm hN o ho e k)
 ·rw [show Zk o.kind=.func (.func 267) #[] #[] from by rw [e];rfl];exact Ap (by kernel_rfl) (AjM h hm hN o ho e k)
 ·rw [show Zk o.kind=.func (.func 268) #[] #[] from by rw [e];rfl];exact Ap (by kernel_rfl) (Ai2 h hm hN o ho e k)
 ·rw [show Zk o.kind=.func (.func 269) #[] #[] from by rw [e];rfl];exact Ap (by kernel_rfl) (Agl h hm hN o ho e k)
end
open Go Go.Sx
def RsD (w:World) (x:Rs):Prop:=A1 C2 w x.sp x.LL
theorem Fq (m:List Pa) (l:List Op) (o:Op):Bd m (l ++ [o])=((RU (Bd m l).1 o).1,(Bd m l).2 ++ [(RU (Bd m l).1 o).2]):=by
 induction l generalizing m with
 | nil=>rfl
 | cons x l ih=>simp only [List.cons_append,Bd,ih]
theorem He (m:List Pa) (l:List Op):(Bd m l).1.length≤m.length + l.length∧(Bd m l).2.length=l.length:=by
 induction l generalizing m with
 | nil=>simp [Bd]
 | cons x l ih=>
  obtain ⟨h1,h2⟩:=ih (RU m x).1;have:=AfP m x;simp only [Bd,List.length_cons];omega
theorem Ab5 {w:World} {sm sl:Sl} {m:List Pa} {l:List Op} (h:A1 C2 w sm m) (hl:A1 BQ w sl l) (hN:m.length≤500000) (hL:l.length≤400000) {K:TR [.sc .sl,.sc .sl,.sc (.i .i64)]→Pr}
  (k:AU m→A9 l=0→∀ (r1 r2:Sl) (rs:List Rs) (w':World),Bh C2 w' r1 (Bd m l).1→Bh Xg w' r2 rs→rs.map Rs.p=(Bd m l).2→(∀ x∈rs,RsD w' x∧∀ b∈rb x.sp,w.heap.size≤b∧b ∉ Ai r1∧b ∉ Ai r2) →
   (∀ b∈Ai r1,w.heap.size≤b∧b ∉ Ai r2)→(∀ b∈Ai r2,w.heap.size≤b)→Aa [] w w'→K (r1,r2,0,()) w')
  (k':∀ e w',(¬ AU m∨A9 l ≠ 0)→e ≠ 0→Aa [] w w'→K (⟨none,0,0⟩,⟨none,0,0⟩,e,()) w'):Cl Pg 208 [.slice sm.p sm.len sm.cap,.slice sl.p sl.len sl.cap] true [.sc .sl,.sc .sl,.sc (.i .i64)] K w:=by
 have hll:=hl.len;refine VD _ _ ?_;unfold Zn;dsimp only [Aat,Ar,K6',HX,Li,AN,Ls,AgV,Gh,Vi,Vs,Nw,Gx];refine Aax h (by omega) fun w1 k1=>?_;dsimp only;by_cases hm:SJ (BA []) m=0
 ·rw [show (SJ (BA []) m != 0)=false from by rw [hm];rfl];simp only [Ae];refine Ah1 (hl.Ab k1) (by omega) fun w2 k2=>?_;dsimp only;have k02:=Aj k1 k2;by_cases ho:A9 l=0
  ·rw [show (A9 l != 0)=false from by rw [ho];rfl];simp only [Ae];have hmo:=ZF.1 hm;refine Qb (h.Ab k02) (by omega) ?_;intro r0 w3 h3 f3 k3;have k03:=Aj k02 k3;have s03:=k03.size;dsimp only
   refine ⟨fun n st w'=>∃ (r1 r2:Sl) (rs:List Rs) (i:Nat),st=(r1,r2,(i:Int),())∧n=l.length - i∧i≤l.length∧Bh C2 w' r1 (Bd m (l.take i)).1∧Bh Xg w' r2 rs∧rs.map Rs.p=(Bd m (l.take i)).2∧(∀ x∈rs,RsD w' x∧∀ b∈rb x.sp,w.heap.size≤b∧b ∉ Ai r1∧b ∉ Ai r2) ∧
    (∀ b∈Ai r1,w.heap.size≤b∧b ∉ Ai r2)∧(∀ b∈Ai r2,w.heap.size≤b)∧Aa [] w w',⟨_,r0,⟨none,0,0⟩,[],0,rfl,rfl,by omega,h3,AE.nil _ _,rfl,by simp,fun b hb=>⟨by have:=f3 b hb;have:=k02.size;omega,by simp [Ai]⟩,by simp [Ai],k03⟩,?_⟩
   rintro n _ w4 ⟨r1,r2,rs,i,rfl,rfl,hi,g1,g2,g3,g4,g5,g6,k4⟩;dsimp only;by_cases hlt:i < l.length
   ·rw [decide_eq_true (by omega)];simp only [Af];obtain ⟨x,hx⟩:∃ x,l[i]?=some x:=⟨_,List.getElem?_eq_getElem hlt⟩;have hxo:ER x=0:=Bu.1 ho x (List.mem_of_getElem? hx);have htk:l.take (i + 1)=l.take i ++ [x]:=by rw [List.take_add_one,hx];rfl
    have hmi:AU (Bd m (l.take i)).1:=Nq hmo (Bu.2 fun y hy=>Bu.1 ho y (List.mem_of_mem_take hy));obtain ⟨hal1,hal2⟩:=He m (l.take i);rw [List.length_take] at hal1 hal2;refine Sn (hl.Ab k4) hx ?_;refine Sq x fun b w5 h5 n5 k5=>?_;refine Ad fun c w6 h6 n6 k6=>?_;have h5:=k6.Aw h5;have h5d:w6.drew.heap[b]?=_:=h5;have k46:Aa [] w4 w6.drew:=(Aj k5 k6).drew;simp only [sb,h5];refine Abw fun w7 k7=>?_;have h5:=k7.Aw h5d;have h6:=k7.Aw (show w6.drew.heap[c]?=_ from h6);have k47:=Aj k46 k7;have k07:=Aj k4 k47;simp only [sb,h5];refine ⟨by trivial,by trivial,?_⟩;refine ZO (Ri hxo).1 ?_;dsimp only [Zd];have cw:w4.heap.size≤c:=by have:=k5.size;omega
    refine Alf (g1.Ab k47) hmi (by omega) x hxo ?_;intro r y w8 e1 e2 e3 e4 e5 e6 k8;have k08:Aa [] w w8:=Ky k07 k8 (fun z hz=>(g5 z hz).1);have c1:c ∉ Ai r1:=fun hc=>by have:=g1.lt c hc;omega
    have c2:c ∉ Ai r2:=fun hc=>by have:=g2.lt c hc;omega
    have c3:c < w7.heap.size:=Av h6;have h6:=k8.at h6 c1;refine Mf h6 rfl rfl rfl fun w9 h9 k9=>?_;simp only [sb,h9];refine Ad fun d w10 h10 n10 k10=>?_;have sz7:=k47.size;have sz8:=k8.size;have k79:Aa (Ai r1) w4 w10:=kpm (kpb (k0m k47 k8) k9 cw) k10;have g2':Bh Xg w10 r2 rs:=g2.keeps k79 (fun z hz hz'=>(g5 z hz').2 hz);have hrl:=g2'.BY;have hrm:rs.length=min i l.length:=by rw [← hal2,← g3,List.length_map]
    refine AE.app (ρ:=Xg) (new:=[y]) g2' (by rw [List.flatMap_singleton];exact BI (ρ:=Xg) (x:=y) h10) rfl (by rw [WI];rfl) (by omega) (by omega) ?_;intro r' w11 h11 k11 hb11;have s0:=k4.size;have crb:c ∉ Ai r:=fun hc=>by
     rcases e6 c hc with h' | h'
     ·exact c1 h'
     ·omega
    have e1':Bh C2 w10 r (RU (Bd m (l.take i)).1 x).1:=(e1.keeps k9 (fun z hz=>by simp;exact fun e=>crb (e ▸ hz))).Ab k10;have rr2:∀ b∈Ai r,b ∉ Ai r2:=by
     intro z hz hz2;rcases e6 z hz with h' | h'
     ·exact (g5 z h').2 hz2
     ·have:=g2.lt z hz2;omega
    have cy:∀ b∈rb y.sp,b ≠ c:=fun z hz e=>by have:=e4 z hz;omega
    have ysz:∀ b∈rb y.sp,b < w10.heap.size:=fun z hz=>by
     have:=e3.lt z hz;have:=k9.size;have:=k10.size;omega
    have s1:w8.heap.size≤w10.heap.size:=Nat.le_trans k9.size k10.size;refine ⟨l.length - (i + 1),by omega,r,r',rs ++ [y],i + 1,by rw [AK (by omega)],rfl,by omega,?_,h11,?_,?_,?_,?_,?_⟩
    ·rw [htk,Fq];exact e1'.keeps k11 rr2
    ·rw [htk,Fq,List.map_append,g3];show _ ++ [y.p]=_;rw [e2]
    ·intro z hz;rcases List.mem_append.1 hz with hz | hz
     ·obtain ⟨q1,q2⟩:=g4 z hz;refine ⟨A1.keeps (A1.keeps q1 k79 (fun b hb=>(q2 b hb).2.1)) k11 (fun b hb=>(q2 b hb).2.2),fun b hb=>⟨(q2 b hb).1,fun hr=>?_,fun hr=>?_⟩⟩
      ·have hlt4:=q1.lt b hb;rcases e6 b hr with h' | h'
       ·exact (q2 b hb).2.1 h'
       ·omega
      ·have hlt4:=q1.lt b hb;rcases hb11 b hr with h' | h'
       ·exact (q2 b hb).2.2 h'
       ·omega
     ·rw [List.mem_singleton] at hz;subst hz;refine ⟨A1.keeps ((A1.keeps e3 k9 (fun b hb=>by simpa using cy b hb)).Ab k10) k11 (fun b hb hr=>?_),fun b hb=>⟨by have:=e4 b hb;omega,e5 b hb,fun hr=>?_⟩⟩
      ·have:=e4 b hb;have:=g2.lt b hr;omega
      ·rcases hb11 b hr with h' | h'
       ·have:=e4 b hb;have:=g2.lt b h';omega
       ·have:=ysz b hb;omega
    ·intro b hb;refine ⟨?_,fun hr=>?_⟩
     ·rcases e6 b hb with h' | h'
      ·exact (g5 b h').1
      ·omega
     ·rcases hb11 b hr with h' | h'
      ·exact rr2 b hb h'
      ·have:=e1'.lt b hb;omega
    ·intro b hb;rcases hb11 b hb with h' | h'
     ·exact g6 b h'
     ·omega
    ·exact Ky (Ky k4 k79 (fun z hz=>(g5 z hz).1)) k11 g6
   ·rw [decide_eq_false (by omega)];rw [List.take_of_length_le (by omega)] at g1 g3;exact k hmo ho r1 r2 rs w4 g1 g2 g3 g4 g5 g6 k4
  ·rw [show (A9 l != 0)=true from by simpa using ho];exact k' _ _ (.inr ho) ho k02
 ·rw [show (SJ (BA []) m != 0)=true from by simpa using hm];exact k' _ _ (.inl fun h=>hm (ZF.2 h)) hm k1
open Go Go.Sx
theorem OK:∀ (k:Nat) (x:List UInt8),x.length≤k→¬ x < List.replicate k 255→x=List.replicate k 255
 | 0,x,h,_=>List.eq_nil_of_length_eq_zero (by omega)
 | k + 1,x,h,hn=>by
  rw [List.replicate_succ] at hn ⊢;cases x with
  | nil=>exact absurd (List.nil_lt_cons _ _) hn
  | cons d x=>
   rw [List.cons_lt_cons_iff] at hn;have hd:d=255:=by
    by_cases h1:d < 255
    ·exact absurd (.inl h1) hn
    ·have h2:=UInt8.not_lt.1 h1;have h3:d.toNat≤255:=by have:=d.toNat_lt;omega
     have h4:(255:UInt8).toNat≤d.toNat:=h2;exact UInt8.toNat_inj.1 (by have:(255:UInt8).toNat=255:=rfl;omega)
   subst hd;rw [OK k x (by simpa using h) (fun h1=>hn (.inr ⟨rfl,h1⟩))]
theorem Sa {c:UInt8} (hc:c ≠ 255) (k:Nat):∀ (p x:List UInt8),x.length≤p.length + 1 + k→¬ x < p ++ c :: List.replicate k 255→x < p ++ [c + 1]→x=p ++ c :: List.replicate k 255
 | [],x,hl,h1,h2=>by
  simp only [List.nil_append] at h1 h2 ⊢;cases x with
  | nil=>exact absurd (List.nil_lt_cons _ _) h1
  | cons d x=>
   rw [List.cons_lt_cons_iff] at h1 h2;have hcn:(c + 1).toNat=c.toNat + 1:=by
    rw [UInt8.toNat_add];have:c.toNat ≠ 255:=fun h=>hc (UInt8.toNat_inj.1 h);have:=c.toNat_lt;show (c.toNat + 1) % 256=_;omega
   have hd:d=c:=by
    rcases h2 with h2 | ⟨_,h2⟩
    ·have e1:d.toNat < (c + 1).toNat:=h2;have e2:¬ d.toNat < c.toNat:=fun h=>h1 (.inl h);exact UInt8.toNat_inj.1 (by omega)
    ·exact absurd h2 (List.not_lt_nil _)
   subst hd;rw [OK k x (by simp at hl;omega) (fun h=>h1 (.inr ⟨rfl,h⟩))]
 | e :: p,x,hl,h1,h2=>by
  simp only [List.cons_append] at h1 h2 ⊢;cases x with
  | nil=>exact absurd (List.nil_lt_cons _ _) h1
  | cons d x=>
   rw [List.cons_lt_cons_iff] at h1 h2;have hd:d=e:=by
    rcases h2 with h2 | ⟨h2,_⟩
    ·exact absurd (.inl h2) h1
    ·exact h2
   subst hd;rcases h2 with h2 | ⟨_,h2⟩
   ·exact absurd h2 (UInt8.lt_irrefl _)
   rw [Sa hc k p x (by simp at hl;omega) (fun h=>h1 (.inr ⟨rfl,h⟩)) h2]
theorem Xw {c:UInt8} (hc:c ≠ 255) (r:List UInt8):∀ p:List UInt8,p ++ c :: r < p ++ [c + 1]
 | []=>by
  simp only [List.nil_append];rw [List.cons_lt_cons_iff];left;show c.toNat < (c + 1).toNat;rw [UInt8.toNat_add];have:c.toNat ≠ 255:=fun h=>hc (UInt8.toNat_inj.1 h);have:=c.toNat_lt;show c.toNat < (c.toNat + 1) % 256;omega
 | e :: p=>by
  simp only [List.cons_append];rw [List.cons_lt_cons_iff];exact .inr ⟨rfl,Xw hc r p⟩
theorem Pn:∀ (a x:List UInt8),¬ x < a→x < a ++ [0]→x=a
 | [],x,_,h=>by
  cases x with
  | nil=>rfl
  | cons d x=>
   simp only [List.nil_append] at h;rw [List.cons_lt_cons_iff] at h;rcases h with h | ⟨_,h⟩
   ·exact absurd h (by show ¬ d.toNat < 0;omega)
   ·exact absurd h (List.not_lt_nil _)
 | e :: a,x,h1,h2=>by
  simp only [List.cons_append] at h2;cases x with
  | nil=>exact absurd (List.nil_lt_cons _ _) h1
  | cons d x=>
   rw [List.cons_lt_cons_iff] at h1 h2;have hd:d=e:=by
    rcases h2 with h2 | ⟨h2,_⟩
    ·exact absurd (.inl h2) h1
    ·exact h2
   subst hd;rcases h2 with h2 | ⟨_,h2⟩
   ·exact absurd h2 (UInt8.lt_irrefl _)
   rw [Pn a x (fun h=>h1 (.inr ⟨rfl,h⟩)) h2]
theorem XY:∀ a:List UInt8,a < a ++ [0]
 | []=>List.nil_lt_cons _ _
 | e :: a=>by rw [List.cons_append,List.cons_lt_cons_iff];exact .inr ⟨rfl,XY a⟩
theorem Zx (l:List UInt8):∃ k,(strip l=[]∧l=List.replicate k 255)∨∃ p c,c ≠ 255∧strip l=p ++ [c]∧l=p ++ c :: List.replicate k 255:=by
 unfold strip;have e:l.reverse=l.reverse.takeWhile (· == 255) ++ l.reverse.dropWhile (· == 255):=(List.takeWhile_append_dropWhile).symm;have ht:l.reverse.takeWhile (· == 255)=List.replicate (l.reverse.takeWhile (· == 255)).length 255:=by
  refine List.eq_replicate_of_mem fun b hb=>?_;have:=List.all_eq_true.1 (List.all_takeWhile (p:=(· == (255:UInt8))) (l:=l.reverse)) b hb;simpa using this
 refine ⟨(l.reverse.takeWhile (· == 255)).length,?_⟩;have e2:l=(l.reverse.dropWhile (· == 255)).reverse ++ List.replicate (l.reverse.takeWhile (· == 255)).length 255:=by
  have h3:=congrArg List.reverse e;rw [List.reverse_reverse,List.reverse_append,ht,List.reverse_replicate] at h3;exact h3
 cases hd:l.reverse.dropWhile (· == 255) with
 | nil=>
  left;rw [hd] at e2;exact ⟨rfl,by simpa using e2⟩
 | cons c r=>
  right;have hc:(c == 255)=false:=by
   have:=List.head_dropWhile_not (p:=(· == (255:UInt8))) (l:=l.reverse) (by rw [hd];simp);simp only [hd,List.head_cons] at this;simpa using this
  refine ⟨r.reverse,c,by simpa using hc,by simp,?_⟩;rw [hd] at e2;simpa using e2
theorem DL (a:ByteArray):a.data.toList.length=a.size:=by rw [Array.length_toList];rfl
theorem GU (a b:ByteArray):slt a b=decide (a.data.toList < b.data.toList):=by rw [Mz,ByteArray.toList_eq,ByteArray.toList_eq]
theorem AeD {key:ByteArray} (h:Kx key=true):Da key (M9 key)=true∧∀ x,Kx x=true→(!slt x key && (seq (M9 key) (BA []) || slt x (M9 key)))=seq x key:=by
 obtain ⟨z1,z2⟩:=Pc h;have e0:∀ b:ByteArray,seq b (BA [])=decide (b.data.toList=[]):=by
  intro b;rw [seq_eq];refine decide_eq_decide.2 ⟨fun h=>by rw [h];rfl,fun h=>ByteArray.ext (Array.toList_inj.1 h)⟩
 have es:∀ a b:ByteArray,seq a b=decide (a.data.toList=b.data.toList):=by
  intro a b;rw [seq_eq];refine decide_eq_decide.2 ⟨fun h=>by rw [h],fun h=>ByteArray.ext (Array.toList_inj.1 h)⟩
 have self:∀ l:List UInt8,¬ l < l:=fun l=>List.lt_irrefl l;unfold M9;by_cases h12:key.size < 12
 ·rw [if_pos h12];have ed:(key ++ BA [0]).data.toList=key.data.toList ++ [0]:=by
   rw [ByteArray.data_append,Array.toList_append];rfl
  have esz:(key ++ BA [0]).size=key.size + 1:=by rw [← DL,ed,List.length_append,DL];rfl
  constructor
  ·unfold Da;rw [decide_eq_false (by omega),decide_eq_false (by omega),e0,ed,GU,ed,decide_eq_true (XY _)];simp
  ·intro x hx;rw [e0,ed,GU,GU,ed,es,decide_eq_false (p:=key.data.toList ++ [0]=[]) (by simp),Bool.false_or];by_cases he:x.data.toList=key.data.toList
   ·rw [he,decide_eq_true rfl,decide_eq_false (self _),decide_eq_true (XY _)];rfl
   ·rw [decide_eq_false he];by_cases h1:x.data.toList < key.data.toList
    ·rw [decide_eq_true h1];rfl
    ·by_cases h2:x.data.toList < key.data.toList ++ [0]
     ·exact absurd (Pn _ _ h1 h2) he
     ·rw [decide_eq_false h2,Bool.and_false]
 ·rw [if_neg h12];have hl:key.data.toList.length=12:=by rw [DL];omega
  obtain ⟨k,⟨hs,hk⟩ | ⟨p,c,hc,hs,hk⟩⟩:=Zx key.data.toList
  ·have eb:(⟨(S0 (strip key.data.toList)).toArray⟩:ByteArray)=BA []:=by rw [hs];rfl
   rw [eb];constructor
   ·unfold Da;rw [decide_eq_false (by omega),decide_eq_false (by decide),seq_eq,decide_eq_true rfl];rfl
   ·intro x hx;obtain ⟨x1,x2⟩:=Pc hx;rw [show seq (BA []) (BA [])=true from by rw [seq_eq];simp,Bool.true_or,Bool.and_true,GU,es];have hk12:k=12:=by rw [hk,List.length_replicate] at hl;exact hl
    by_cases he:x.data.toList=key.data.toList
    ·rw [he,decide_eq_true rfl,decide_eq_false (self _)];rfl
    ·rw [decide_eq_false he];by_cases h1:x.data.toList < key.data.toList
     ·rw [decide_eq_true h1];rfl
     ·refine absurd ?_ he;rw [hk] at h1 ⊢;exact OK k _ (by rw [DL];omega) h1
  ·have eb:S0 (strip key.data.toList)=p ++ [c + 1]:=by rw [hs];unfold S0;simp
   rw [eb];have hpl:p.length + 1 + k=12:=by rw [hk] at hl;simp at hl;omega
   have ed:(⟨(p ++ [c + 1]).toArray⟩:ByteArray).data.toList=p ++ [c + 1]:=rfl;have esz:(⟨(p ++ [c + 1]).toArray⟩:ByteArray).size=p.length + 1:=by rw [← DL,ed,List.length_append];rfl
   constructor
   ·unfold Da;rw [decide_eq_false (by omega),decide_eq_false (by omega),e0,ed,GU,ed,hk,decide_eq_true (Xw hc _ p)];simp
   ·intro x hx;obtain ⟨x1,x2⟩:=Pc hx;rw [e0,ed,GU,GU,ed,es,decide_eq_false (p:=p ++ [c + 1]=[]) (by simp),Bool.false_or];by_cases he:x.data.toList=key.data.toList
    ·rw [he,decide_eq_true rfl,decide_eq_false (self _),hk,decide_eq_true (Xw hc _ p)];rfl
    ·rw [decide_eq_false he];by_cases h1:x.data.toList < key.data.toList
     ·rw [decide_eq_true h1];rfl
     ·by_cases h2:x.data.toList < p ++ [c + 1]
      ·refine absurd ?_ he;rw [hk] at h1 ⊢;exact Sa hc k p _ (by rw [DL];omega) h1 h2
      ·rw [decide_eq_false h2,Bool.and_false]
open Go Go.Sx
def DP (lo hi key:ByteArray):Bool:=Da lo hi && (Kx key && (!slt key lo && (seq hi (BA []) || slt key hi)))
theorem Akx (c:Bool):((if c then (0:Int) else 20) == 0)=c:=by cases c <;> rfl
theorem Ahv (lo hi key:ByteArray) {w:World} {K:TR [.sc .b]→Pr} (k:∀ w',Aa [] w w'→K (DP lo hi key,()) w'):Cl Pg 42 [.agg #[.string lo,.string hi],.string key] false [.sc .b] K w:=by
 refine LY _ _ _ ?_;unfold JB;dsimp only [Ls,Vt];refine Ad fun a w1 h1 n1 k1=>?_;simp only [sb,h1];refine WA _ _ fun w2 k2=>?_;have h1:=k2.Aw h1;have k02:=Aj k1 k2;have k:=k w2 k02;unfold DP at k;dsimp only;rw [ok0];cases c1:Da lo hi <;> rw [c1] at k <;> simp only [sb]
 ·exact k
 refine Ih _ ?_;dsimp only;rw [Akx];cases c2:Kx key <;> rw [c2] at k <;> simp only [sb,h1]
 ·exact k
 cases c3:slt key lo <;> rw [c3] at k <;> simp only [sb,h1,Bool.not_true,Bool.not_false]
 ·cases c4:seq hi (BA []) <;> rw [c4] at k <;> simp only [sb,h1] <;> exact k
 ·exact k
theorem ZT {s:ByteArray} {j:Nat} {c:UInt8} (h:s.data.toList[j]?=some c) {K:Int→Pr} {w:World} (k:K (c.toNat:Int) w):IxS s (j:Int) K w:=by
 refine ⟨by omega,c,?_,k⟩;rw [Int.toNat_natCast];obtain ⟨hj,he⟩:=List.getElem?_eq_some_iff.1 h;rw [DL] at hj;rw [getElem?_pos s j hj];rw [← he];rfl
theorem ZW (key:ByteArray) {w:World} {K:TR [.ag [.s,.s],.sc (.i .i64)]→Pr} (k:∀ w',Aa [] w w'→K (if Kx key then ((key,M9 key,()),0,()) else ((BA [],BA [],()),20,())) w'):Cl Pg 85 [.string key] true [.ag [.s,.s],.sc (.i .i64)] K w:=by
 refine Ku _ ?_;unfold HK;dsimp only [N6,Ls,Tt,Vt];refine Ad fun a w1 h1 n1 k1=>?_;refine Ih _ ?_;dsimp only;rw [AcG];cases hk:Kx key with
 | false=>
  rw [hk] at k;simp only [Bool.not_false,Af];exact KI h1 fun w2 k2=>k w2 (BT k1 k2 n1)
 | true=>
 rw [hk] at k;obtain ⟨z1,z2⟩:=Pc hk;simp only [Bool.not_true,Ae];by_cases h12:key.size < 12
 ·rw [decide_eq_true (by omega)];simp only [Af];refine ⟨by have:(BA [0]).size=1:=rfl;omega,?_⟩;refine KI h1 fun w2 k2=>?_;have:=k w2 (BT k1 k2 n1);unfold M9 at this;rw [if_pos h12] at this;exact this
 ·rw [decide_eq_false (by omega)];simp only [Ae];have hlen:=DL key;refine ⟨fun n st w'=>∃ m:Nat,st=((m:Int),())∧n=m∧m≤key.size∧(∀ j,m≤j→j < key.size→key.data.toList[j]?=some 255)∧w1=w',⟨_,key.size,by rw [show key.size=12 from by omega];rfl,rfl,Nat.le_refl _,fun j h1 h2=>by omega,rfl⟩,?_⟩;rintro n _ _ ⟨m,rfl,rfl,hm,h255,rfl⟩;dsimp only;refine AG (fun st w'=>st=(decide (n ≠ 0) && (key.data.toList[n - 1]? == some 255),())∧w1=w') (fun J hJ=>?_) ?_
  ·by_cases h0:n=0
   ·rw [decide_eq_false (by omega)];exact hJ _ _ ⟨by rw [h0];rfl,rfl⟩
   ·rw [decide_eq_true (by omega)];simp only [Af];rw [Ew (by omega) (by omega)];obtain ⟨c,hc⟩:∃ c,key.data.toList[n - 1]?=some c:=⟨_,List.getElem?_eq_getElem (by omega)⟩;refine ZT hc ?_;refine hJ _ _ ⟨?_,rfl⟩;rw [hc,decide_eq_true h0,Bool.true_and]
    congr 1
    rw [Bool.eq_iff_iff];simp only [beq_iff_eq,Option.some.injEq];constructor
    ·intro h;have:c.toNat=255:=by omega
     exact UInt8.toNat_inj.1 this
    ·intro h;rw [h];rfl
  ·rintro _ _ ⟨rfl,rfl⟩;dsimp only;cases hq:(decide (n ≠ 0) && (key.data.toList[n - 1]? == some 255)) with
   | true=>
    simp only [Bool.and_eq_true,decide_eq_true_iff,beq_iff_eq] at hq;simp only [Af];rw [Ew (by omega) (by omega)];refine ⟨n - 1,by omega,n - 1,rfl,rfl,by omega,fun j h3 h4=>?_,by trivial⟩;by_cases h5:j=n - 1
    ·rw [h5];exact hq.2
    ·exact h255 j (by omega) h4
   | false=>
    have hst:strip key.data.toList=key.data.toList.take n:=by
     refine Vc (by omega) (fun j h3 h4=>h255 j h3 (by omega)) ?_;by_cases h0:n=0
     ·exact .inl h0
     ·rw [decide_eq_true h0,Bool.true_and,beq_eq_false_iff_ne] at hq;exact .inr hq
    have hpt:M9 key=⟨(S0 (key.data.toList.take n)).toArray⟩:=by unfold M9;rw [if_neg h12,hst]
    rw [hpt] at k;simp only [Ae];by_cases h0:n=0
    ·subst h0;simp only [show (((0:Nat):Int) == 0)=true from rfl,Af];exact KI h1 fun w2 k2=>k w2 (BT k1 k2 n1)
    ·rw [show (((n:Nat):Int) == 0)=false from by simpa using h0];simp only [Ae,Dr];rw [Ew (by omega) (by omega)];obtain ⟨c,hc⟩:∃ c,key.data.toList[n - 1]?=some c:=⟨_,List.getElem?_eq_getElem (by omega)⟩;refine ⟨⟨by omega,by omega⟩,?_⟩;refine ZT hc ?_;rw [show ((c.toNat:Int) + 1)=((c.toNat + 1:Nat):Int) from by omega,MR,show (c.toNat + 1) % 256=(c + 1).toNat from by rw [UInt8.toNat_add];rfl];refine Ad fun b w2 h2 n2 k2=>?_;have h1:=k2.Aw (show w1.drew.heap[a]?=_ from h1);have k02:=Aj k1.drew k2;refine TC (bs:=[c + 1]) ⟨rfl,fun j b' hj=>?_⟩ ?_
     ·cases j with
      | zero=>cases hj;exact ⟨_,rfl,by rw [Cr,cell_of h2];rfl⟩
      | succ j=>simp at hj
     rw [Int.toNat_natCast];have hed:(key.extract 0 (n - 1)).data.toList=key.data.toList.take (n - 1):=by
      rw [ByteArray.data_extract,Array.toList_extract];simp [List.extract]
     refine ⟨?_,?_⟩
     ·have e1:(key.extract 0 (n - 1)).size=n - 1:=by rw [← DL,hed,List.length_take];omega
      have e2:(⟨[c + 1].toArray⟩:ByteArray).size=1:=rfl;rw [e1,e2];omega
     ·have e3:key.extract 0 (n - 1) ++ (⟨[c + 1].toArray⟩:ByteArray)=⟨(S0 (key.data.toList.take n)).toArray⟩:=by
       have hct:(key.data.toList.take n)[n - 1]?=some c:=by rw [List.getElem?_take,if_pos (by omega),hc]
       have hbs:=YW (n:=n - 1) (c:=c) (l:=key.data.toList.take n) (by rw [List.length_take];omega) hct;have hL:(key.data.toList.take n).set (n - 1) (c + 1)=key.data.toList.take (n - 1) ++ [c + 1]:=by
        have hle:n≤key.data.toList.length:=by omega
        rw [List.set_eq_take_append_cons_drop,if_pos (by rw [List.length_take,Nat.min_eq_left hle];omega),List.take_take,List.drop_of_length_le (by rw [List.length_take,Nat.min_eq_left hle];omega),Nat.min_eq_left (by omega)]
       rw [hbs,hL,← hed];rfl
      rw [e3];exact KI h1 fun w3 k3=>k w3 (BT k02 k3 n1)
theorem jb {J:Bool × Unit→Pr} {w:World} {b b':Bool} (h:J (b,()) w) (e:b=b'):J (b',()) w:=by rw [← e];exact h
set_option maxHeartbeats 1000000 in
theorem V4 (o:Op) {w:World} {K:TR [.sc (.i .i64)]→Pr} (k:∀ w',Aa [] w w'→K (ER o,()) w'):Cl Pg 43 [.agg #[.int .i64 o.kind,.string o.key,.string o.value,.string o.lo,.string o.hi,.int .i64 o.AD]] false [.sc (.i .i64)] K w:=by
 obtain ⟨E,hE⟩:∃ E,E=ER o:=⟨_,rfl⟩;rw [← hE] at k;unfold ER at hE;have hkd:Na o.kind=(Fx o.kind || FH o.kind):=by
  unfold Na Fx FH;rw [Bool.eq_iff_iff];simp;omega
 refine HV _ _ _ _ _ _ ?_;unfold Fu;dsimp only [Ar,Li,Ls,Vt];refine Ad fun a w1 h1 n1 k1=>?_;refine BR (Fx o.kind) (fun J hJ=>?_) fun w2 k2=>?_
 ·have ifJ:∀ (c x y:Bool) (w':World),(if c=true then J (x,()) w' else J (y,()) w')=J (bif c then x else y,()) w':=by intro c x y w';cases c <;> rfl
  simp only [AbW,sb,h1,ifJ];refine jb (hJ _ (Aa.refl _ _)) ?_;unfold Fx;cases o.kind == 1 <;> cases o.kind == 2 <;> rfl
 have h1:=k2.Aw h1;dsimp only;refine BR (FH o.kind) (fun J hJ=>?_) fun w3 k3=>?_
 ·have ifJ:∀ (c x y:Bool) (w':World),(if c=true then J (x,()) w' else J (y,()) w')=J (bif c then x else y,()) w':=by intro c x y w';cases c <;> rfl
  simp only [AbW,sb,h1,ifJ];refine jb (hJ _ (Aa.refl _ _)) ?_;unfold FH;cases o.kind == 4 <;> rfl
 have h1:=k3.Aw h1;have k03:=Aj (Aj k1 k2) k3;dsimp only;refine BR ((!Na o.kind) || ((!Fx o.kind && !(seq o.key (BA []))) || ((!SO o.kind && !(seq o.value (BA []))) || ((!FH o.kind && !(seq o.lo (BA []) && (seq o.hi (BA []) && true))) || (!FD o.kind && o.AD != 0))))) (fun J hJ=>?_) fun w4 k4=>?_
 ·have ifJ:∀ (c x y:Bool) (w':World),(if c=true then J (x,()) w' else J (y,()) w')=J (bif c then x else y,()) w':=by intro c x y w';cases c <;> rfl
  simp only [AbW,sb,h1,ifJ];refine jb (hJ _ (Aa.refl _ _)) ?_;rw [hkd];have e1:(o.kind != 2)=!SO o.kind:=rfl;have e2:(o.kind != 4)=!FD o.kind:=rfl;have e3:Fx o.kind=true→FH o.kind=false:=by
   unfold Fx FH;intro h;simp at h;simp;omega
  rw [e1,e2];generalize Fx o.kind=b1 at *;generalize FH o.kind=b2 at *;generalize SO o.kind=b3 at *;generalize FD o.kind=b4 at *;generalize seq o.key (BA [])=b5 at *;generalize seq o.value (BA [])=b6 at *;generalize seq o.lo (BA [])=b7 at *;generalize seq o.hi (BA [])=b8 at *;generalize (o.AD != 0)=b9 at *;clear hJ hE k ifJ hkd e1 e2
  revert e3 b1 b2 b3 b4 b5 b6 b7 b8 b9
  decide
 have h1:=k4.Aw h1;have k04:=Aj k03 k4;dsimp only;split at hE
 ·rename_i hc;rw [hc];subst hE;exact k _ k04
 rename_i hc;rw [Bool.not_eq_true] at hc;rw [hc];simp only [Ae];refine BR (Fx o.kind && !Kx o.key) (fun J hJ=>?_) fun w5 k5=>?_
 ·cases hq:Fx o.kind <;> rw [hq] at hJ <;> simp only [Bool.false_and,Bool.true_and,sb,h1] at hJ ⊢
  ·exact hJ _ (Aa.refl _ _)
  ·refine Ih _ ?_;rw [AcG];exact hJ _ (Aa.refl _ _)
 have h1:=k5.Aw h1;have k05:=Aj k04 k5;split at hE
 ·rename_i hc;rw [hc];subst hE;exact k _ k05
 rename_i hc;rw [Bool.not_eq_true] at hc;rw [hc];simp only [sb,h1];rw [show decide (((o.value.size:Nat):Int) > 16)=decide (o.value.size > 16) from decide_eq_decide.2 (by omega)];split at hE
 ·rename_i hc;rw [hc];subst hE;exact k _ k05
 rename_i hc;rw [Bool.not_eq_true] at hc;rw [hc];simp only [Ae];refine BR (FH o.kind && !Da o.lo o.hi) (fun J hJ=>?_) fun w6 k6=>?_
 ·cases hq:FH o.kind <;> rw [hq] at hJ <;> simp only [Bool.false_and,Bool.true_and,sb,h1] at hJ ⊢
  ·exact hJ _ (Aa.refl _ _)
  ·refine WA _ _ fun w8 k8=>?_;rw [ok1];exact hJ _ k8
 have h1:=k6.Aw h1;have k06:=Aj k05 k6;split at hE
 ·rename_i hc;rw [hc];subst hE;exact k _ k06
 rename_i hc;rw [Bool.not_eq_true] at hc;rw [hc];simp only [Ae];refine BR (FD o.kind && (decide (o.AD < 1) || decide (o.AD > 4))) (fun J hJ=>?_) fun w7 k7=>?_
 ·have ifJ:∀ (c x y:Bool) (w':World),(if c=true then J (x,()) w' else J (y,()) w')=J (bif c then x else y,()) w':=by intro c x y w';cases c <;> rfl
  simp only [AbW,sb,h1,ifJ];refine jb (hJ _ (Aa.refl _ _)) ?_;unfold FD;cases o.kind == 4 <;> cases decide (o.AD < 1) <;> rfl
 have k07:=Aj k06 k7;split at hE
 ·rename_i hc;rw [hc];subst hE;exact k _ k07
 rename_i hc;rw [Bool.not_eq_true] at hc;rw [hc];subst hE;exact k _ k07
open Go Go.Sx
theorem AdL {w:World} {s:Sl} {l:List Op} (h:A1 BQ w s l) (hN:l.length≤100000000) {K:TR [.sc (.i .i64)]→Pr} (k:∀ w',Aa [] w w'→K (A9 l,()) w'):Cl Pg 21 [.slice s.p s.len s.cap] false [.sc (.i .i64)] K w:=by
 have hl:=h.len;refine LU _ ?_;unfold Kb;dsimp only [Ar,AN,Gh,Gx];refine ⟨fun n st w'=>∃ (q:Int) (i:Nat),st=(q,(i:Int),())∧n=l.length - i∧i≤l.length∧A9 (l.drop i)=A9 l∧Aa [] w w',⟨_,0,0,rfl,rfl,by omega,rfl,Aa.refl _ _⟩,?_⟩;rintro n _ w1 ⟨q,i,rfl,rfl,hi,he,k1⟩;dsimp only;by_cases hlt:i < l.length
 ·rw [decide_eq_true (by omega)];simp only [Af];obtain ⟨x,hx⟩:∃ x,l[i]?=some x:=⟨_,List.getElem?_eq_getElem hlt⟩;have hd:l.drop i=x :: l.drop (i + 1):=by rw [List.drop_eq_getElem_cons hlt,(List.getElem?_eq_some_iff.1 hx).2]
  rw [hd,A9] at he;refine Sn (h.Ab k1) hx ?_;refine Sq x fun b w2 h2 n2 k2=>?_;simp only [sb,h2];refine V4 x fun w3 k3=>?_;have k13:=Aj (Aj k1 k2) k3;dsimp only;cases hc:(ER x != 0) with
  | true=>rw [if_pos hc] at he;rw [he];exact k _ k13
  | false=>
   rw [if_neg (by rw [hc];simp)] at he;exact ⟨l.length - (i + 1),by omega,q,i + 1,by rw [AK (by omega)],rfl,by omega,he,k13⟩
 ·rw [decide_eq_false (by omega)];rw [List.drop_of_length_le (by omega),A9] at he;rw [← he] at k;exact k _ k1
theorem RE {w:World} {s:Sl} {l:List Pa} (h:A1 C2 w s l) (hN:l.length≤8796093022208) {K:TR [.sc (.i .i64)]→Pr} (k:∀ e w',(e=0 ↔ AU l)→Aa [] w w'→K (e,()) w'):Cl Pg 13 [.slice s.p s.len s.cap] false [.sc (.i .i64)] K w:=by
 have hl:=h.len;refine HD _ ?_;unfold EZ;dsimp only [Ls,Tt,Vt];refine ⟨fun n st w'=>∃ (q:Int) (i:Nat),st=(q,(i:Int),())∧n=l.length - i∧i≤l.length∧AU (l.take i)∧Aa [] w w',⟨_,0,0,rfl,rfl,by omega,⟨by simp,by simp⟩,Aa.refl _ _⟩,?_⟩;rintro n _ w1 ⟨q,i,rfl,rfl,hi,hm,k1⟩;dsimp only;by_cases hlt:i < l.length
 ·rw [decide_eq_true (by omega)];simp only [Af];obtain ⟨x,hx⟩:∃ x,l[i]?=some x:=⟨_,List.getElem?_eq_getElem hlt⟩;have hxm:=List.mem_of_getElem? hx;refine KH (h.Ab k1) hx ?_;refine KC x fun b w2 h2 n2 k2=>?_;simp only [sb,h2];refine Ih _ ?_;have k02:=Aj k1 k2;dsimp only;rw [AcG];cases hc:Kx x.k with
  | false=>exact k _ _ ⟨(by intro h;cases h),fun hm=>by rw [(hm.ok x hxm).1] at hc;cases hc⟩ k02
  | true=>
  simp only [sb,h2,Bool.not_true];rw [show decide (((x.v.size:Nat):Int) > 16)=decide (x.v.size > 16) from decide_eq_decide.2 (by omega)];by_cases hv:x.v.size > 16
  ·rw [decide_eq_true hv];exact k _ _ ⟨(by intro h;cases h),fun hm=>by have:=(hm.ok x hxm).2;omega⟩ k02
  rw [decide_eq_false hv];simp only [Ae];refine AG (fun st w'=>st=(decide (0 < i) && (match l[i - 1]? with | some y=>!slt y.k x.k | none=>false),())∧Aa [] w1 w') (fun J hJ=>?_) ?_
  ·simp only [Dr];by_cases h0:0 < i
   ·rw [decide_eq_true (by omega)];simp only [Af];obtain ⟨y,hy⟩:∃ y,l[i - 1]?=some y:=⟨_,List.getElem?_eq_getElem (by omega)⟩;rw [Ew h0 (by omega)];have hr:=h.Ab (Aj k1 k2).drew;obtain ⟨a,ha,hcell⟩:=hr.at hy;unfold Ix;rw [ha];refine ⟨by omega,by omega,?_⟩;rw [Int.toNat_natCast];refine ⟨y.k,hcell 0 _ rfl,?_⟩;simp only [sb,h2];exact hJ _ _ ⟨by rw [decide_eq_true h0,hy];rfl,k2.drew⟩
   ·rw [decide_eq_false (by omega)];exact hJ _ _ ⟨by rw [decide_eq_false h0];rfl,k2.drew⟩
  ·rintro _ w3 ⟨rfl,k3⟩;have k03:=Aj k1 k3;dsimp only;cases hb:(decide (0 < i) && (match l[i - 1]? with | some y=>!slt y.k x.k | none=>false)) with
   | true=>
    refine k _ _ ⟨(by intro h;cases h),fun hm=>?_⟩ k03;simp only [Bool.and_eq_true,decide_eq_true_iff] at hb;obtain ⟨h0,hb⟩:=hb;obtain ⟨y,hy⟩:∃ y,l[i - 1]?=some y:=⟨_,List.getElem?_eq_getElem (by omega)⟩;rw [hy] at hb;have:=List.pairwise_iff_getElem.1 hm.up (i - 1) i (by omega) hlt (by omega);rw [(List.getElem?_eq_some_iff.1 hy).2,(List.getElem?_eq_some_iff.1 hx).2] at this;simp [this] at hb
   | false=>
    simp only [Ae];refine ⟨l.length - (i + 1),by omega,q,i + 1,by rw [AK (by omega)],rfl,by omega,?_,k03⟩;rw [List.take_add_one,hx];refine ⟨fun p hp=>?_,?_⟩
    ·rcases List.mem_append.1 hp with hp | hp
     ·exact hm.ok p hp
     ·simp at hp;subst hp;exact ⟨hc,by omega⟩
    ·rw [List.pairwise_append];refine ⟨hm.up,by simp,fun p hp z hz=>?_⟩;simp at hz;subst hz;by_cases h0:0 < i
     ·obtain ⟨y,hy⟩:∃ y,l[i - 1]?=some y:=⟨_,List.getElem?_eq_getElem (by omega)⟩;rw [decide_eq_true h0,hy] at hb;simp at hb;obtain ⟨j,hj,rfl⟩:=List.mem_take_iff_getElem.1 hp;by_cases hji:j=i - 1
      ·subst hji;rw [(List.getElem?_eq_some_iff.1 hy).2];exact hb
      ·have h3:=List.pairwise_iff_getElem.1 hm.up j (i - 1) (by rw [List.length_take];omega) (by rw [List.length_take];omega) (by omega);rw [List.getElem_take,List.getElem_take,(List.getElem?_eq_some_iff.1 hy).2] at h3;exact CB h3 hb
     ·have:i=0:=by omega
      subst this;simp at hp
 ·rw [decide_eq_false (by omega)];rw [List.take_of_length_le (by omega)] at hm;exact k _ _ ⟨fun _=>hm,fun _=>rfl⟩ k1
theorem AfI {w:World} {s:Sl} {m:List Pa} (h:A1 C2 w s m) (hN:m.length≤100000000) (key:ByteArray) {K:TR [.sc .s,.sc .b]→Pr} (k:∀ w',Aa [] w w'→K ((match Hm m key with | some v=>v | none=>BA []),(Hm m key).isSome,()) w'):Cl Pg 83 [.slice s.p s.len s.cap,.string key] true [.sc .s,.sc .b] K w:=by
 have hl:=h.len;refine Lg _ _ ?_;unfold II;dsimp only [Ls,Tt,Vt];refine ⟨fun n st w'=>∃ (q1:ByteArray) (q2:Bool) (i:Nat),st=(q1,q2,(i:Int),())∧n=m.length - i∧i≤m.length∧Hm (m.drop i) key=Hm m key∧Aa [] w w',⟨_,BA [],false,0,rfl,rfl,by omega,rfl,Aa.refl _ _⟩,?_⟩;rintro n _ w1 ⟨q1,q2,i,rfl,rfl,hi,he,k1⟩;dsimp only;by_cases hlt:i < m.length
 ·rw [decide_eq_true (by omega)];simp only [Af];obtain ⟨x,hx⟩:∃ x,m[i]?=some x:=⟨_,List.getElem?_eq_getElem hlt⟩;have hd:m.drop i=x :: m.drop (i + 1):=by rw [List.drop_eq_getElem_cons hlt,(List.getElem?_eq_some_iff.1 hx).2]
  rw [hd] at he;unfold Hm at he;rw [List.find?_cons] at he;refine KH (h.Ab k1) hx ?_;refine KC x fun b w2 h2 n2 k2=>?_;simp only [sb,h2];have k02:=Aj k1 k2;cases hs:seq x.k key with
  | true=>
   rw [hs] at he;simp only [sb,h2];have:=k _ k02;unfold Hm at this;rw [← he] at this;exact this
  | false=>
   rw [hs] at he;simp only [Ae];exact ⟨m.length - (i + 1),by omega,q1,q2,i + 1,by rw [AK (by omega)],rfl,by omega,he,k02⟩
 ·rw [decide_eq_false (by omega)];rw [List.drop_of_length_le (by omega)] at he;have:=k _ k1;rw [← he] at this;exact this
theorem U6 {w:World} {s:Sl} {m:List Pa} (h:A1 C2 w s m) (hN:m.length≤100000000) (lo hi:ByteArray) {K:TR [.sc .sl]→Pr} (k:∀ r w',Bh C2 w' r (m.filter (fun p=>!DP lo hi p.k))→(∀ x∈Ai r,w.heap.size≤x)→Aa [] w w'→K (r,()) w') :
  Cl Pg 86 [.slice s.p s.len s.cap,.agg #[.string lo,.string hi]] false [.sc .sl] K w:=by
 have hl:=h.len;refine HT _ _ _ ?_;unfold Fs;dsimp only [Ls,Tt,Vt];refine Ad fun a w0 h0 n0 k0=>?_;refine ⟨fun n st w'=>∃ (r:Sl) (i:Nat),st=(r,(i:Int),())∧n=m.length - i∧i≤m.length∧Bh C2 w' r ((m.take i).filter (fun p=>!DP lo hi p.k))∧(∀ x∈Ai r,w0.heap.size≤x)∧Aa [] w0 w',⟨_,⟨none,0,0⟩,0,rfl,rfl,by omega,AE.nil _ _,by simp [Ai],Aa.refl _ _⟩,?_⟩;rintro n _ w1 ⟨r,i,rfl,rfl,hib,hr,fr,k1⟩;have k01:=Aj k0 k1;have h0:=k1.Aw h0;dsimp only;by_cases hlt:i < m.length
 ·rw [decide_eq_true (by omega)];simp only [Af];obtain ⟨x,hx⟩:∃ x,m[i]?=some x:=⟨_,List.getElem?_eq_getElem hlt⟩;have hrl:=hr.BY;have hrl2:((m.take i).filter (fun p=>!DP lo hi p.k)).length≤m.length:=Nat.le_trans (List.length_filter_le _ _) (by rw [List.length_take];omega);have htk:(m.take (i + 1)).filter (fun p=>!DP lo hi p.k)=(m.take i).filter (fun p=>!DP lo hi p.k) ++ (if DP lo hi x.k then [] else [x]):=by
   rw [List.take_add_one,hx,List.filter_append];cases hq:DP lo hi x.k <;> simp [hq]
  refine AG (fun st w'=>Bh C2 w' st.1 ((m.take (i + 1)).filter (fun p=>!DP lo hi p.k))∧(∀ x∈Ai st.1,w0.heap.size≤x)∧Aa [] w0 w') (fun J hJ=>?_) ?_
  ·refine KH (h.Ab k01) hx ?_;refine KC x fun b w2 h2 n2 k2=>?_;have h0:=k2.Aw h0;simp only [sb,h0,h2];refine Ahv _ _ _ fun w3 k3=>?_;have h2:=k3.Aw h2;dsimp only;cases hq:DP lo hi x.k with
   | true=>
    refine hJ (r,()) _ ⟨?_,fr,Aj k1 (Aj k2 k3)⟩;rw [htk,hq,if_pos rfl,List.append_nil];exact hr.Ab (Aj k2 k3)
   | false=>
    simp only [Bool.not_false,sb,h2];refine Ad fun c w4 h4 n4 k4=>?_;have k14:=Aj (Aj k2 k3) k4;refine AE.app (ρ:=C2) (new:=[x]) (hr.Ab k14) (by rw [List.flatMap_singleton];exact BI (ρ:=C2) (x:=x) h4) rfl (by rw [Fm];rfl) (by omega) (by omega) ?_;intro r' w5 h5 k5 f5;refine hJ (r',()) _ ⟨?_,fun y hy=>?_,Ky (Aj k1 k14) k5 fr⟩
    ·rw [htk,hq];exact h5
    ·rcases f5 y hy with h' | h'
     ·exact fr y h'
     ·have:=(Aj k1 k14).size;omega
  ·rintro ⟨r',_⟩ w2 ⟨h2,f2,k2⟩;exact ⟨m.length - (i + 1),by omega,r',i + 1,by rw [AK (by omega)],rfl,by omega,h2,f2,k2⟩
 ·rw [decide_eq_false (by omega)];rw [List.take_of_length_le (by omega)] at hr;exact k r _ hr (fun x hx=>Nat.le_trans k0.size (fr x hx)) k01
def BM (m:List Pa) (lo hi:ByteArray) (AD:Int):List Pa:=if AD < 0 then m.filter (fun p=>DP lo hi p.k) else (m.filter (fun p=>DP lo hi p.k)).take AD.toNat
theorem Zj {w:World} {s:Sl} {m:List Pa} (h:A1 C2 w s m) (hN:m.length≤100000000) (lo hi:ByteArray) (AD:Int) {K:TR [.sc .sl]→Pr} (k:∀ r w',Bh C2 w' r (BM m lo hi AD)→(∀ x∈Ai r,w.heap.size≤x)→Aa [] w w'→K (r,()) w') :
  Cl Pg 20 [.slice s.p s.len s.cap,.agg #[.string lo,.string hi],.int .i64 AD] false [.sc .sl] K w:=by
 have hl:=h.len;refine IM _ _ _ _ ?_;unfold Gr;dsimp only [Ls,Tt,Vt];refine Ad fun a w0 h0 n0 k0=>?_;refine ⟨fun n st w'=>∃ (r:Sl) (i:Nat),st=(r,(i:Int),())∧n=m.length - i∧i≤m.length∧Bh C2 w' r (BM (m.take i) lo hi AD)∧(∀ x∈Ai r,w0.heap.size≤x)∧Aa [] w0 w',⟨_,⟨none,0,0⟩,0,rfl,rfl,by omega,by unfold BM;rw [List.take_zero,List.filter_nil,List.take_nil,ite_self];exact AE.nil _ _,by simp [Ai],Aa.refl _ _⟩,?_⟩;rintro n _ w1 ⟨r,i,rfl,rfl,hib,hr,fr,k1⟩;have k01:=Aj k0 k1;have h0:=k1.Aw h0;dsimp only;by_cases hlt:i < m.length
 ·rw [decide_eq_true (by omega)];simp only [Af];obtain ⟨x,hx⟩:∃ x,m[i]?=some x:=⟨_,List.getElem?_eq_getElem hlt⟩;have hrl:=hr.BY;have hfl:((m.take i).filter (fun p=>DP lo hi p.k)).length≤m.length:=Nat.le_trans (List.length_filter_le _ _) (by rw [List.length_take];omega);have hrl2:(BM (m.take i) lo hi AD).length≤m.length:=by
   unfold BM;split
   ·exact hfl
   ·rw [List.length_take];omega
  have hff:(m.take (i + 1)).filter (fun p=>DP lo hi p.k)=(m.take i).filter (fun p=>DP lo hi p.k) ++ (if DP lo hi x.k then [x] else []):=by
   rw [List.take_add_one,hx,List.filter_append];cases hq:DP lo hi x.k <;> simp [hq]
  have htk:BM (m.take (i + 1)) lo hi AD=BM (m.take i) lo hi AD ++ (if DP lo hi x.k && (decide (AD < 0) || decide (((r.len:Nat):Int) < AD)) then [x] else []):=by
   rw [hrl];unfold BM;rw [hff];by_cases hm:AD < 0
   ·rw [if_pos hm,if_pos hm,decide_eq_true hm];simp
   ·rw [if_neg hm,if_neg hm,decide_eq_false hm];have e:decide ((((((m.take i).filter (fun p=>DP lo hi p.k)).take AD.toNat).length:Nat):Int) < AD)=decide (((m.take i).filter (fun p=>DP lo hi p.k)).length < AD.toNat):=by
     refine decide_eq_decide.2 ?_;rw [List.length_take];omega
    rw [e];generalize (m.take i).filter (fun p=>DP lo hi p.k)=F;generalize AD.toNat=q;cases DP lo hi x.k with
    | false=>simp
    | true=>
     by_cases hlt:F.length < q
     ·rw [decide_eq_true hlt];simp only [if_true,Bool.false_or,Bool.and_self];rw [List.take_of_length_le (by simp;omega),List.take_of_length_le (by omega)]
     ·rw [decide_eq_false hlt];simp only [if_true,Bool.false_or,Bool.and_false,Bool.false_eq_true,if_false,List.append_nil];rw [List.take_append_of_le_length (by omega)]
  refine AG (fun st w'=>Bh C2 w' st.1 (BM (m.take (i + 1)) lo hi AD)∧(∀ x∈Ai st.1,w0.heap.size≤x)∧Aa [] w0 w') (fun J hJ=>?_) ?_
  ·refine KH (h.Ab k01) hx ?_;refine KC x fun b w2 h2 n2 k2=>?_;have h0:=k2.Aw h0;refine BR (DP lo hi x.k && (decide (AD < 0) || decide (((r.len:Nat):Int) < AD))) (fun J2 hJ2=>?_) fun w3 k3=>?_
   ·simp only [sb,h0,h2];refine Ahv _ _ _ fun w3 k3=>?_;dsimp only;cases hq:DP lo hi x.k <;> rw [hq] at hJ2 <;> simp only [Af,Ae]
    ·exact hJ2 _ k3
    ·cases hm:decide (AD < 0) <;> rw [hm] at hJ2 <;> exact hJ2 _ k3
   have h2:=k3.Aw h2;dsimp only;cases hq:(DP lo hi x.k && (decide (AD < 0) || decide (((r.len:Nat):Int) < AD))) with
   | false=>
    refine hJ (r,()) _ ⟨?_,fr,Aj k1 (Aj k2 k3)⟩;rw [htk,hq];simpa using hr.Ab (Aj k2 k3)
   | true=>
    simp only [sb,h2];refine Ad fun c w4 h4 n4 k4=>?_;have k14:=Aj (Aj k2 k3) k4;refine AE.app (ρ:=C2) (new:=[x]) (hr.Ab k14) (by rw [List.flatMap_singleton];exact BI (ρ:=C2) (x:=x) h4) rfl (by rw [Fm];rfl) (by omega) (by omega) ?_;intro r' w5 h5 k5 f5;refine hJ (r',()) _ ⟨?_,fun y hy=>?_,Ky (Aj k1 k14) k5 fr⟩
    ·rw [htk,hq];exact h5
    ·rcases f5 y hy with h' | h'
     ·exact fr y h'
     ·have:=(Aj k1 k14).size;omega
  ·rintro ⟨r',_⟩ w2 ⟨h2,f2,k2⟩;exact ⟨m.length - (i + 1),by omega,r',i + 1,by rw [AK (by omega)],rfl,by omega,h2,f2,k2⟩
 ·rw [decide_eq_false (by omega)];rw [List.take_of_length_le (by omega)] at hr;exact k r _ hr (fun x hx=>Nat.le_trans k0.size (fr x hx)) k01
open Go Go.Sx
def Ga (x:Pa) (m:List Pa):List Pa × Bool:=(m.filter (fun p=>slt p.k x.k) ++ (if m.any (fun p=>!slt p.k x.k) then x :: m.filter (fun p=>slt x.k p.k) else []),m.any (fun p=>!slt p.k x.k))
theorem Af3 {x:Pa} {m:List Pa}:(if (Ga x m).2 then (Ga x m).1 else (Ga x m).1 ++ [x])=S7 m x.k x.v:=by
 unfold Ga S7;cases h:m.any (fun p=>!slt p.k x.k) with
 | true=>simp
 | false=>
  have:m.filter (fun p=>slt x.k p.k)=[]:=by
   refine List.filter_eq_nil_iff.2 fun p hp=>?_;have:=List.any_eq_false.1 h p hp;simp at this;rw [Ct this];simp
  simp [this]
theorem AcE {x p:Pa} {m:List Pa} (hm:AU (m ++ [p])):Ga x (m ++ [p])=((if (!(Ga x m).2 && !slt p.k x.k) then (Ga x m).1 ++ [x] else (Ga x m).1) ++ (if !(seq p.k x.k) then [p] else []),(Ga x m).2 || !slt p.k x.k):=by
 unfold Ga;dsimp only;rw [List.any_append,List.filter_append,List.filter_append,seq_eq];have hlt:∀ y∈m,slt y.k p.k=true:=fun y hy=>(List.pairwise_append.1 hm.up).2.2 y hy p (by simp);cases h1:m.any (fun p=>!slt p.k x.k) with
 | true=>
  obtain ⟨y,hy,hyx⟩:=List.any_eq_true.1 h1;have h2:slt x.k p.k=true:=by
   simp at hyx;exact Yl hyx (hlt y hy)
  have h3:=Ct h2;have h4:=(Oz h2).symm;simp [h2,h3,h4]
 | false=>
  cases h2:slt p.k x.k with
  | true=>
   have h4:=Oz h2;simp [h2,h4]
  | false=>
   have hnil:m.filter (fun p=>slt x.k p.k)=[]:=by
    refine List.filter_eq_nil_iff.2 fun q hq=>?_;have:=List.any_eq_false.1 h1 q hq;simp at this;rw [Ct this];simp
   by_cases h3:p.k=x.k
   ·simp [h2,h3,hnil,KF]
   ·have h5:slt x.k p.k=true:=by
     cases h6:slt x.k p.k with
     | true=>rfl
     | false=>exact absurd (Ek h2 h6) h3
    simp [h2,h3,h5,hnil]
theorem AeB (x:Pa) (m:List Pa):(Ga x m).1.length≤m.length + 1:=by
 unfold Ga;dsimp only;have e:(m.filter (fun p=>slt p.k x.k)).length + (m.filter (fun p=>slt x.k p.k)).length≤m.length:=by
  induction m with
  | nil=>simp
  | cons y m ih=>
   simp only [List.filter_cons,List.length_cons];cases h1:slt y.k x.k with
   | true=>rw [Ct h1];simp only [if_true,Bool.false_eq_true,if_false,List.length_cons];omega
   | false=>cases h2:slt x.k y.k <;> simp only [if_true,Bool.false_eq_true,if_false,List.length_cons] <;> omega
 rw [List.length_append];split <;> simp only [List.length_cons,List.length_nil] <;> omega
theorem AhY {w:World} {s:Sl} {m:List Pa} (h:A1 C2 w s m) (hm:AU m) (hN:m.length≤1000000) (x:Pa) {K:TR [.sc .sl]→Pr} (k:∀ r w',Bh C2 w' r (S7 m x.k x.v)→(∀ y∈Ai r,w.heap.size≤y)→Aa [] w w'→K (r,()) w') :
  Cl Pg 84 [.slice s.p s.len s.cap,.agg #[.string x.k,.string x.v]] false [.sc .sl] K w:=by
 have hl:=h.len;refine LV _ _ _ ?_;unfold Ka;dsimp only [Ls,Tt,Vt];refine Ad fun a w0 h0 n0 k0=>?_;refine ⟨fun n st w'=>∃ (r:Sl) (i:Nat),st=(r,(Ga x (m.take i)).2,(i:Int),())∧n=m.length - i∧i≤m.length∧Bh C2 w' r (Ga x (m.take i)).1∧(∀ y∈Ai r,w0.heap.size≤y)∧Aa [] w0 w',⟨_,⟨none,0,0⟩,0,rfl,rfl,by omega,AE.nil _ _,by simp [Ai],Aa.refl _ _⟩,?_⟩;rintro n _ w1 ⟨r,i,rfl,rfl,hib,hr,fr,k1⟩;have k01:=Aj k0 k1;have h0:=k1.Aw h0;have hgl:=AeB x (m.take i);rw [List.length_take] at hgl;dsimp only
 have add:∀ {w1 w2:World} {r:Sl} {l:List Pa} {y:Pa} {c:Nat} {J:Sl→Pr},Bh C2 w1 r l→l.length≤2000000→(∀ z∈Ai r,w0.heap.size≤z)→Aa [] w0 w1→Aa [] w1 w2→w2.heap[c]?=some (.cells #[.string y.k,.string y.v] 111 (0,0)) →
   (∀ r' w3,Bh C2 w3 r' (l ++ [y])→(∀ z∈Ai r',w0.heap.size≤z)→Aa [] w0 w3→Aa (Ai r) w2 w3→J r' w3)→App 111 2 32 (zc Pg 111) r 1 (BH (some ⟨c,0,none⟩) 1 2) J w2:=by
  intro w1 w2 r l y c J hr hN fr k1 k2 hc hJ;have hrl:=hr.BY;refine AE.app (ρ:=C2) (new:=[y]) (hr.Ab k2) (by rw [List.flatMap_singleton];exact BI (ρ:=C2) (x:=y) hc) rfl (by rw [Fm];rfl) (by omega) (by omega) ?_;intro r' w3 h3 k3 f3;refine hJ r' w3 h3 (fun z hz=>?_) (Ky (Aj k1 k2) k3 fr) k3;rcases f3 z hz with h' | h'
  ·exact fr z h'
  ·have:=(Aj k1 k2).size;omega
 by_cases hlt:i < m.length
 ·rw [decide_eq_true (by omega)];simp only [Af];obtain ⟨p,hp⟩:∃ p,m[i]?=some p:=⟨_,List.getElem?_eq_getElem hlt⟩;have htk:m.take (i + 1)=m.take i ++ [p]:=by rw [List.take_add_one,hp];rfl
  have hst:=AcE (x:=x) (p:=p) (m:=m.take i) (by rw [← htk];exact hm.sub (List.take_sublist _ _));rw [← htk] at hst;refine AG (fun st w'=>st.2.1=(Ga x (m.take (i + 1))).2∧Bh C2 w' st.1 (Ga x (m.take (i + 1))).1∧(∀ y∈Ai st.1,w0.heap.size≤y)∧Aa [] w0 w') (fun J hJ=>?_) ?_
  ·refine KH (h.Ab k01) hp ?_;refine KC p fun b w2 h2 n2 k2=>?_;have h0:=k2.Aw h0;refine AG (fun st w'=>∃ r',st=(r',(Ga x (m.take (i + 1))).2,())∧Bh C2 w' r' (if (!(Ga x (m.take i)).2 && !slt p.k x.k) then (Ga x (m.take i)).1 ++ [x] else (Ga x (m.take i)).1)∧(∀ y∈Ai r',w0.heap.size≤y)∧Aa [] w0 w'∧Aa (Ai r) w2 w') (fun J2 hJ2=>?_) ?_
   ·refine BR (!(Ga x (m.take i)).2 && !slt p.k x.k) (fun J3 hJ3=>?_) fun w3 k3=>?_
    ·cases hg:(Ga x (m.take i)).2 <;> rw [hg] at hJ3 <;> simp only [Bool.not_true,Bool.not_false,sb,h2,h0]
     ·exact hJ3 _ (Aa.refl _ _)
     ·exact hJ3 _ (Aa.refl _ _)
    have h0:=k3.Aw h0;have h2:=k3.Aw h2;dsimp only;cases hc:(!(Ga x (m.take i)).2 && !slt p.k x.k) with
    | true=>
     simp only [sb,h0];refine Ad fun c w4 h4 n4 k4=>?_;refine add (y:=x) hr (by omega) fr k1 (Aj (Aj k2 k3) k4) h4 ?_;intro r' w5 h5 f5 k5 kk5;refine hJ2 _ _ ⟨r',?_,by rw [hc,if_pos rfl];exact h5,f5,k5,k0m (Aj k3 k4) kk5⟩;rw [hst];simp only [Bool.and_eq_true,Bool.not_eq_true'] at hc;rw [hc.1,hc.2];rfl
    | false=>
     refine hJ2 _ _ ⟨r,?_,by rw [hc,if_neg (by simp)];exact hr.Ab (Aj k2 k3),fr,Aj k1 (Aj k2 k3),k3.mono (by simp)⟩;rw [hst];cases hg:(Ga x (m.take i)).2 with
     | true=>rfl
     | false=>
      rw [hg] at hc;simp only [Bool.not_false,Bool.true_and,Bool.not_eq_false'] at hc;rw [hc];rfl
   ·rintro _ w3 ⟨r',rfl,h3,f3,k3,kk3⟩;have na:a ∉ Ai r:=fun hh=>by have:=fr a hh;have:=Av (show w0.heap[a]?=_ from by assumption);omega
    have nb:b ∉ Ai r:=fun hh=>by have:=hr.lt b hh;omega
    have h0:=kk3.at h0 na;have h2:=kk3.at h2 nb;simp only [sb,h0,h2];cases hs:seq p.k x.k with
    | true=>
     refine hJ _ _ ⟨rfl,?_,f3,k3⟩;rw [hst,hs];simpa using h3
    | false=>
     simp only [Bool.not_false,sb,h2];refine Ad fun c w4 h4 n4 k4=>?_;refine add (y:=p) h3 ?_ f3 k3 k4 h4 ?_
     ·split <;> (try rw [List.length_append]) <;> (try simp only [List.length_cons,List.length_nil]) <;> omega
     intro r'' w5 h5 f5 k5 _;refine hJ _ _ ⟨rfl,?_,f5,k5⟩;rw [hst,hs];exact h5
  ·rintro ⟨r',d',_⟩ w2 ⟨e,h2,f2,k2⟩;dsimp only at e;subst e;exact ⟨m.length - (i + 1),by omega,r',i + 1,by rw [AK (by omega)],rfl,by omega,h2,f2,k2⟩
 ·rw [decide_eq_false (by omega)];have htk:m.take i=m:=List.take_of_length_le (by omega);have hend:=Af3 (x:=x) (m:=m);rw [htk] at hr ⊢;simp only [Ae];refine AG (fun st w'=>Bh C2 w' st.1 (S7 m x.k x.v)∧(∀ y∈Ai st.1,w0.heap.size≤y)∧Aa [] w0 w') (fun J hJ=>?_) ?_
  ·cases hg:(Ga x m).2 with
   | true=>
    rw [hg,if_pos rfl] at hend;rw [hend] at hr;exact hJ (r,()) _ ⟨hr,fr,k1⟩
   | false=>
    rw [hg] at hend;simp only [Bool.false_eq_true,if_false] at hend;simp only [Bool.not_false,sb,h0];refine Ad fun c w4 h4 n4 k4=>?_;refine add (y:=x) hr (by rw [htk] at hgl;omega) fr k1 k4 h4 ?_;intro r' w5 h5 f5 k5 _;rw [hend] at h5;exact hJ (r',()) _ ⟨h5,f5,k5⟩
  ·rintro ⟨r',_⟩ w2 ⟨h2,f2,k2⟩;exact k r' _ h2 (fun y hy=>Nat.le_trans k0.size (f2 y hy)) (Aj k0 k2)
theorem AeH {m:List Pa} (h:AU m) {lo hi:ByteArray} (hr:Da lo hi=true):∀ p∈m,DP lo hi p.k=inM lo hi p:=by
 intro p hp;unfold DP inM;rw [hr,(h.ok p hp).1];rfl
theorem AjE {w:World} {s:Sl} {m:List Pa} (h:A1 C2 w s m) (hm:AU m) (hN:m.length≤1000000) (o:Op) (ho:ER o=0) {K:TR [.sc .sl,.ag [.b,.s,.sl]]→Pr}
  (k:∀ (r:Sl) (x:Rs) (w':World),A1 C2 w' r (RU m o).1→x.p=(RU m o).2→A1 C2 w' x.sp x.LL→(r=s∨∀ b∈rb r,w.heap.size≤b)→(∀ b∈rb x.sp,w.heap.size≤b)→Aa [] w w'→K (r,(x.found,x.value,x.sp,()),()) w') :
  Cl Pg 34 [.slice s.p s.len s.cap,.agg #[.int .i64 o.kind,.string o.key,.string o.value,.string o.lo,.string o.hi,.int .i64 o.AD]] true [.sc .sl,.ag [.b,.s,.sl]] K w:=by
 obtain ⟨g1,g2,g3,g4,g5⟩:=Ri ho;refine MT _ _ _ _ _ _ _ ?_;unfold LF;dsimp only [Ar,N6,HX,Li,Ls,Tb,Ts,Tt,Vi,Vs,Vt,Nw];refine Ad fun a w1 h1 n1 k1=>?_;refine Ad fun b w2 h2 n2 k2=>?_;have h1:=k2.Aw h1;simp only [sb,h1];refine bx2 rfl rfl rfl fun c w3 h3 n3 k3=>?_;have h1:=k3.Aw h1;have h2:=k3.Aw h2;have k03:=Aj (Aj k1 k2) k3;have nb:w.heap.size≤b:=by have:=k1.size;omega
 have lb:b < w3.heap.size:=Av h2;simp only [sb,h1];unfold RU at k;by_cases e1:o.kind=1
 ·rw [if_pos e1] at k;rw [show (o.kind == 1)=true from by rw [e1];rfl];simp only [sb,h1];refine AfI (h.Ab k03) (by omega) o.key fun w4 k4=>?_;have h2:=k4.Aw h2;refine NR h2 fun w5 k5=>?_;have k05:=BT (Aj k03 k4) k5 nb;refine k s ⟨(Hm m o.key).isSome,(match Hm m o.key with | some v=>v | none=>BA []),⟨none,0,0⟩,[]⟩ w5 (h.Ab k05) ?_ (A1.nil _) (.inl rfl) (by simp [rb]) k05;cases Hm m o.key <;> rfl
 rw [if_neg e1] at k;rw [show (o.kind == 1)=false from by simpa using e1];simp only [Ae];by_cases e2:o.kind=2
 ·rw [if_pos e2] at k;rw [show (o.kind == 2)=true from by rw [e2];rfl];simp only [sb,h1];refine AhY (h.Ab k03) hm hN ⟨o.key,o.value⟩ ?_;intro r w4 h4 f4 k4;have h2:=k4.Aw h2;refine NR h2 fun w5 k5=>?_;have k05:=BT (Aj k03 k4) k5 nb;have br:b ∉ Ai r:=fun hb=>by have:=f4 b hb;omega
  exact k r ⟨false,BA [],⟨none,0,0⟩,[]⟩ w5 (h4.keeps k5 (fun x hx=>by simp;exact fun e=>br (e ▸ hx))).C6 rfl (A1.nil _) (.inr fun x hx=>by have:=f4 x (h4.rb x hx);have:=k03.size;omega) (by simp [rb]) k05
 rw [if_neg e2] at k;rw [show (o.kind == 2)=false from by simpa using e2];simp only [Ae];by_cases e3:o.kind=3
 ·rw [if_pos e3] at k;rw [show (o.kind == 3)=true from by rw [e3];rfl];simp only [sb,h1];have hkey:=g2 (by rw [e3];rfl);refine ZW _ fun w4 k4=>?_;rw [if_pos hkey];have h2:=k4.Aw h2;refine bx2 rfl rfl rfl fun d w5 h5 n5 k5=>?_;have h2:=k5.Aw h2;simp only [sb,h5];have k05:=Aj (Aj k03 k4) k5;refine U6 (h.Ab k05) (by omega) _ _ ?_;intro r w6 h6 f6 k6;have h2:=k6.Aw h2;have hf:m.filter (fun p=>!DP o.key (M9 o.key) p.k)=m.filter (fun p=>!seq p.k o.key):=by
   refine List.filter_congr fun p hp=>?_;unfold DP;rw [(AeD hkey).1,(hm.ok p hp).1,Bool.true_and,Bool.true_and,(AeD hkey).2 p.k (hm.ok p hp).1]
  rw [hf] at h6;refine NR h2 fun w7 k7=>?_;have k07:=BT (Aj k05 k6) k7 nb;have br:b ∉ Ai r:=fun hb=>by have:=f6 b hb;have:=(Aj k4 k5).size;omega
  exact k r ⟨false,BA [],⟨none,0,0⟩,[]⟩ w7 (h6.keeps k7 (fun x hx=>by simp;exact fun e=>br (e ▸ hx))).C6 rfl (A1.nil _) (.inr fun x hx=>by have:=f6 x (h6.rb x hx);have:=k05.size;omega) (by simp [rb]) k07
 rw [if_neg e3] at k;rw [show (o.kind == 3)=false from by simpa using e3];simp only [Ae];by_cases e4:o.kind=4
 ·rw [if_pos e4] at k;rw [show (o.kind == 4)=true from by rw [e4];rfl];have hr:=g4 (by rw [e4];rfl);have hmo:=g5 (by rw [e4];rfl);simp only [sb,h1,h3];refine Zj (h.Ab k03) (by omega) _ _ _ ?_;intro r w4 h4 f4 k4;have h2:=k4.Aw h2;have hf:BM m o.lo o.hi o.AD=(m.filter (inM o.lo o.hi)).take o.AD.toNat:=by
   unfold BM;rw [if_neg (by omega),List.filter_congr (AeH hm hr)]
  have h4:Bh C2 w4 r ((m.filter (inM o.lo o.hi)).take o.AD.toNat):=by rw [← hf];exact h4
  refine Aio h2 fun w5 k5=>?_;have k05:=BT (Aj k03 k4) k5 nb;have br:b ∉ Ai r:=fun hb=>by have:=f4 b hb;omega
  exact k s ⟨false,BA [],r,_⟩ w5 (h.Ab k05) rfl (h4.keeps k5 (fun x hx=>by simp;exact fun e=>br (e ▸ hx))).C6 (.inl rfl) (fun x hx=>by have:=f4 x (h4.rb x hx);have:=k03.size;omega) k05
 rw [if_neg e4] at k;rw [show (o.kind == 4)=false from by simpa using e4];have e5:o.kind=5:=by
  rcases PZ g1 with e | e | e | e | e <;> first | exact e | exact absurd e (by assumption)
 have hr:=g4 (by rw [e5];rfl);simp only [sb,h3];refine U6 (h.Ab k03) (by omega) _ _ ?_;intro r w4 h4 f4 k4;have h2:=k4.Aw h2;have hf:m.filter (fun p=>!DP o.lo o.hi p.k)=m.filter (fun p=>!inM o.lo o.hi p):=List.filter_congr fun p hp=>congrArg not (AeH hm hr p hp);rw [hf] at h4;refine NR h2 fun w5 k5=>?_;have k05:=BT (Aj k03 k4) k5 nb;have br:b ∉ Ai r:=fun hb=>by have:=f4 b hb;omega
 exact k r ⟨false,BA [],⟨none,0,0⟩,[]⟩ w5 (h4.keeps k5 (fun x hx=>by simp;exact fun e=>br (e ▸ hx))).C6 rfl (A1.nil _) (.inr fun x hx=>by have:=f4 x (h4.rb x hx);have:=k03.size;omega) (by simp [rb]) k05
theorem Af5 {w:World} {sm sl:Sl} {m:List Pa} {l:List Op} (h:A1 C2 w sm m) (hl:A1 BQ w sl l) (hN:m.length≤500000) (hL:l.length≤400000) {K:TR [.sc .sl,.sc .sl,.sc (.i .i64)]→Pr}
  (k:AU m→A9 l=0→∀ (r1 r2:Sl) (rs:List Rs) (w':World),A1 C2 w' r1 (Bd m l).1→Bh Xg w' r2 rs→rs.map Rs.p=(Bd m l).2→(∀ x∈rs,RsD w' x)→(∀ b∈rb r1,w.heap.size≤b)→Aa [] w w'→K (r1,r2,0,()) w')
  (k':∀ e w',(¬ AU m∨A9 l ≠ 0)→e ≠ 0→Aa [] w w'→K (⟨none,0,0⟩,⟨none,0,0⟩,e,()) w'):Cl Pg 12 [.slice sm.p sm.len sm.cap,.slice sl.p sl.len sl.cap] true [.sc .sl,.sc .sl,.sc (.i .i64)] K w:=by
 have hll:=hl.len;have hml:=h.len;refine JW _ _ ?_;unfold HB;dsimp only [Aat,Ar,HX,AN,AgV,Gh,Vs,Nw,Gx];refine RE h (by omega) fun e w1 he k1=>?_;dsimp only;by_cases hm:e=0
 ·rw [show (e != 0)=false from by rw [hm];rfl];simp only [Ae];refine AdL (hl.Ab k1) (by omega) fun w2 k2=>?_;dsimp only;have k02:=Aj k1 k2;by_cases ho:A9 l=0
  ·rw [show (A9 l != 0)=false from by rw [ho];rfl];simp only [Ae];have hmo:=he.1 hm;refine AE.app (ρ:=C2) (l:=[]) (new:=m) (AE.nil _ _) (h.Ab k02).rd hml (by rw [Fm];rfl) (by dsimp only;omega) (by dsimp only;omega) ?_;intro r0 w3 h3 k3 f3;have k3:Aa [] w2 w3:=k3;have k03:=Aj k02 k3;have f3:∀ x∈Ai r0,w2.heap.size≤x:=fun x hx=>by rcases f3 x hx with h' | h';simp [Ai] at h';exact h'
   refine ⟨fun n st w'=>∃ (r1 r2:Sl) (rs:List Rs) (i:Nat),st=(r1,r2,(i:Int),())∧n=l.length - i∧i≤l.length∧A1 C2 w' r1 (Bd m (l.take i)).1∧Bh Xg w' r2 rs∧rs.map Rs.p=(Bd m (l.take i)).2∧(∀ x∈rs,RsD w' x∧∀ b∈rb x.sp,b ∉ Ai r2) ∧
    (∀ b∈rb r1,w.heap.size≤b∧b ∉ Ai r2)∧(∀ b∈Ai r2,w.heap.size≤b)∧Aa [] w w',⟨_,r0,⟨none,0,0⟩,[],0,rfl,rfl,by omega,h3.C6,AE.nil _ _,rfl,by simp,fun b hb=>⟨by have:=f3 b (h3.rb b hb);have:=k02.size;omega,by simp [Ai]⟩,by simp [Ai],k03⟩,?_⟩
   rintro n _ w4 ⟨r1,r2,rs,i,rfl,rfl,hi,g1,g2,g3,g4,g5,g6,k4⟩;dsimp only;by_cases hlt:i < l.length
   ·rw [decide_eq_true (by omega)];simp only [Af];obtain ⟨x,hx⟩:∃ x,l[i]?=some x:=⟨_,List.getElem?_eq_getElem hlt⟩;have hxo:ER x=0:=Bu.1 ho x (List.mem_of_getElem? hx);have htk:l.take (i + 1)=l.take i ++ [x]:=by rw [List.take_add_one,hx];rfl
    have hmi:AU (Bd m (l.take i)).1:=Nq hmo (Bu.2 fun y hy=>Bu.1 ho y (List.mem_of_mem_take hy));obtain ⟨hal1,hal2⟩:=He m (l.take i);rw [List.length_take] at hal1 hal2;refine Sn (hl.Ab k4) hx ?_;refine Sq x fun b w5 h5 n5 k5=>?_;simp only [sb,h5];refine AjE (g1.Ab k5) hmi (by omega) x hxo ?_;intro r y w6 e1 e2 e3 e4 e5 k6;refine bx3 rfl rfl rfl rfl fun c w7 h7 n7 k7=>?_;simp only [sb,h7];refine Ad fun d w8 h8 n8 k8=>?_;have k48:=Aj (Aj (Aj k5 k6) k7) k8;have k68:=Aj k7 k8;have s56:=k5.size;have g2':=g2.Ab k48;have hrl:=g2'.BY;have hrm:rs.length=min i l.length:=by rw [← hal2,← g3,List.length_map]
    refine AE.app (ρ:=Xg) (new:=[y]) g2' (by rw [List.flatMap_singleton];exact BI (ρ:=Xg) (x:=y) h8) rfl (by rw [WI];rfl) (by omega) (by omega) ?_;intro r' w9 h9 k9 hb9;have e1':=e1.Ab k68;have e3':=e3.Ab k68;have rr:∀ b∈rb r,w.heap.size≤b∧b ∉ Ai r2:=by
     intro z hz;rcases e4 with rfl | e4
     ·exact g5 z hz
     ·have:=e4 z hz;have:=k4.size;exact ⟨by omega,fun h2=>by have:=g2.lt z h2;omega⟩
    have yy:∀ b∈rb y.sp,b ∉ Ai r2:=fun z hz h2=>by have:=e5 z hz;have:=g2.lt z h2;omega
    have new:∀ {b:Nat},b ∉ Ai r2→b < w8.heap.size→b ∉ Ai r':=fun h1 h2 h3=>by
     rcases hb9 _ h3 with h' | h'
     ·exact h1 h'
     ·omega
    refine ⟨l.length - (i + 1),by omega,r,r',rs ++ [y],i + 1,by rw [AK (by omega)],rfl,by omega,?_,h9,?_,?_,?_,?_,?_⟩
    ·rw [htk,Fq];exact e1'.keeps k9 (fun b hb=>(rr b hb).2)
    ·rw [htk,Fq,List.map_append,g3];show _ ++ [y.p]=_;rw [e2]
    ·intro z hz;rcases List.mem_append.1 hz with hz | hz
     ·obtain ⟨q1,q2⟩:=g4 z hz;have q1':=A1.Ab q1 k48;exact ⟨A1.keeps q1' k9 q2,fun b hb=>new (q2 b hb) (q1'.lt b hb)⟩
     ·rw [List.mem_singleton] at hz;subst hz;exact ⟨e3'.keeps k9 yy,fun b hb=>new (yy b hb) (e3'.lt b hb)⟩
    ·intro b hb;exact ⟨(rr b hb).1,new (rr b hb).2 (e1'.lt b hb)⟩
    ·intro b hb;rcases hb9 b hb with h' | h'
     ·exact g6 b h'
     ·have:=(Aj k4 k48).size;omega
    ·exact Ky (Aj k4 k48) k9 g6
   ·rw [decide_eq_false (by omega)];rw [List.take_of_length_le (by omega)] at g1 g3;exact k hmo ho r1 r2 rs w4 g1 g2 g3 (fun x hx=>(g4 x hx).1) (fun b hb=>(g5 b hb).1) k4
  ·rw [show (A9 l != 0)=true from by simpa using ho];exact k' _ _ (.inr ho) ho k02
 ·rw [show (e != 0)=true from by simpa using hm];exact k' _ _ (.inl fun h=>hm (he.2 h)) hm k1
open Go Go.Sx
structure Bx where
 move:Int
 n:Int
 lo:ByteArray
 hi:ByteArray
 peer:Int
 B9:Bool
 under:Bool
 all:Bool
 sl:Sl
 sr:Sl
 whr:ByteArray
 load:List Op
 row:List Op
def Gb (b:Bx):List Value:=[.int .u64 b.move,.int .u64 b.n,.string b.lo,.string b.hi,.int .i64 b.peer,.bool b.B9,.bool b.under,.bool b.all,.slice b.sl.p b.sl.len b.sl.cap,.slice b.sr.p b.sr.len b.sr.cap,.string b.whr]
structure Sc where
 id:Int
 Au:Int
 CZ:Int
 Ao:Int
 move:Int
 low:Int
 frozen:Int
 Qk:ByteArray
 MS:ByteArray
 AJ:Int
 CD:Int
 Bo:Int
 Ph:ByteArray
 Qq:ByteArray
 HA:Bool
 e:Int
structure Co where
 so:Sl
 sh:Sl
 sf:Sl
 sw:Sl
 tb:Nat
 bx:Option Nat
 BD:Nat
 Er:Sl
 Nv:Sl
 Mm:Sl
 Ac:List Ow
 held:List Hd
 fin:List Int
 wait:List Wt
 BS:TS
 tH:Nat→Prop
 out:List Mg
 writes:List Op
 line:List Ev
 box:Bx
 sM:Sl
 M:List Pa
structure Mc where
 c:Sc
 d:Co
def stV (BD:Nat):Value:=.iface 24 (.pointer (some ⟨BD,0,none⟩))
def Bs (X:Mc):List Value:=[.int .i64 X.c.id,.int .u64 X.c.Au,.int .u64 X.c.CZ,.int .u64 X.c.Ao,.int .u64 X.c.move,.slice X.d.so.p X.d.so.len X.d.so.cap,.slice X.d.sh.p X.d.sh.len X.d.sh.cap,.slice X.d.sf.p X.d.sf.len X.d.sf.cap,.int .u64 X.c.low,.int .u64 X.c.frozen,.string X.c.Qk,.string X.c.MS,.int .u64 X.c.AJ,.int .u64 X.c.CD,.int .u64 X.c.Bo,.string X.c.Ph,.string X.c.Qq,
 .slice X.d.sw.p X.d.sw.len X.d.sw.cap,.pointer (some ⟨X.d.tb,0,none⟩),.pointer (X.d.bx.map fun b=>⟨b,0,none⟩),stV X.d.BD,.slice X.d.Er.p X.d.Er.len X.d.Er.cap,.slice X.d.Nv.p X.d.Nv.len X.d.Nv.cap,.bool X.c.HA,.slice X.d.Mm.p X.d.Mm.len X.d.Mm.cap,.int .i64 X.c.e]
def Yi (sr:Sl) (rs:List Rs) (w:World):Prop:=A1 Xg w sr rs∧∀ y∈rs,RsD w y
def Su (x:Mg) (w:World):Prop:=A1 BQ w x.so x.ops∧Yi x.sr x.results w∧A1 Mj w x.sw x.Ac
def WtD (x:Wt) (w:World):Prop:=A1 BQ w x.so x.ops∧A1 YT w x.sk x.BB
def StD (X:Co) (w:World):Prop:=w.heap[X.BD]?=some (.cells #[.slice X.sM.p X.sM.len X.sM.cap] 27 (0,0))∧A1 C2 w X.sM X.M
def AkV (X:Co) (w:World):Prop:=∀ b,X.bx=some b→w.heap[b]?=some (.cells (Gb X.box).toArray 118 (0,0))
structure Rest (w:World) (T:Nat→Nat) (X:Co):Prop where
 ow:Bq T (fun w=>A1 Mj w X.so X.Ac) w
 he:FV T 2 (·∈Ai X.sh) (fun w=>Bh Fo w X.sh X.held) w
 Ro:∀ x∈X.held,Bq T (fun w=>A1 BQ w x.so x.ops) w
 fi:FV T 3 (·∈Ai X.sf) (fun w=>Bh HL w X.sf X.fin) w
 wa:FV T 4 (·∈Ai X.sw) (fun w=>Bh NF w X.sw X.wait) w
 Ss:∀ x∈X.wait,Bq T (WtD x) w
 ta:FV T 5 X.tH (fun w=>Ny w X.tb X.tH X.BS) w
 ou:FV T 6 (·∈Ai X.Er) (fun w=>Bh Yz w X.Er X.out) w
 Wp:∀ x∈X.out,Bq T (Su x) w
 wr:FV T 7 (·∈Ai X.Nv) (fun w=>Bh BQ w X.Nv X.writes) w
 li:FV T 8 (·∈Ai X.Mm) (fun w=>Bh evR w X.Mm X.line) w
 bo:FV T 9 (fun b=>X.bx=some b) (AkV X) w
 ro:FV T 10 (·∈Ai X.box.sr) (fun w=>Bh BQ w X.box.sr X.box.row) w
 lo:Bq T (fun w=>A1 BQ w X.box.sl X.box.load) w
 RF:FV T 12 (·=X.BD) (StD X) w
 bd:∀ b,T b ≠ 0→b < w.heap.size
structure A6 (w:World) (m:Nat) (T:Nat→Nat) (X:Mc):Prop where
 hd:w.heap[m]?=some (.cells (Bs X).toArray 94 (0,0))
 t1:T m=1
 r:Rest w T X.d
theorem Rest.k1 {w w':World} {T:Nat→Nat} {X:Co} (h:Rest w T X) (s:CH 1 T T w w'):Rest w' T X:=
 ⟨h.ow.kt (by decide) s,h.he.kt (by decide) (by decide) s,fun x hx=>(h.Ro x hx).kt (by decide) s,h.fi.kt (by decide) (by decide) s,h.wa.kt (by decide) (by decide) s,fun x hx=>(h.Ss x hx).kt (by decide) s,h.ta.kt (by decide) (by decide) s,h.ou.kt (by decide) (by decide) s,fun x hx=>(h.Wp x hx).kt (by decide) s,h.wr.kt (by decide) (by decide) s,h.li.kt (by decide) (by decide) s,h.bo.kt (by decide) (by decide) s,h.ro.kt (by decide) (by decide) s,h.lo.kt (by decide) s,h.RF.kt (by decide) (by decide) s,fun b hb=>Nat.lt_of_lt_of_le (h.bd b hb) s.kp.size⟩
theorem Rest.Ab {w w':World} {T:Nat→Nat} {X:Co} (h:Rest w T X) (k:Aa [] w w'):Rest w' T X:=h.k1 (CH.k0 k)
theorem A6.Ab {w w':World} {m:Nat} {T:Nat→Nat} {X:Mc} (h:A6 w m T X) (k:Aa [] w w'):A6 w' m T X:=⟨k.Aw h.hd,h.t1,h.r.Ab k⟩
theorem A6.lt {w:World} {m:Nat} {T:Nat→Nat} {X:Mc} (h:A6 w m T X):m < w.heap.size:=Av h.hd
theorem A6.new {w:World} {m:Nat} {T:Nat→Nat} {X:Mc} (h:A6 w m T X) {b:Nat} (hb:w.heap.size≤b):T b=0:=by
 rcases Nat.eq_zero_or_pos (T b) with h0 | h0
 ·exact h0
 ·have:=h.r.bd b (by omega);omega
theorem A6.set {w:World} {m:Nat} {T:Nat→Nat} {X X':Mc} (hd:w.heap[m]?=some (.cells (Bs X).toArray 94 (0,0))) (t1:T m=1) (hr:Rest w T X'.d) {i:Nat} {v:Value} (hi:i < 26) (h1:v.oneCell'=true) (he:(Bs X).set i v=Bs X') {K:Pr}
  (k:∀ w',A6 w' m T X'→CH 1 T T w w'→K w'):St ⟨m,i,none⟩ v K w:=by
 refine Ax hd i v h1 (by simpa [Bs] using hi) fun w' hd' k'=>?_;have s:CH 1 T T w w':=⟨k'.FY fun b hb=>.inl (by simp at hb;rw [hb];exact t1),fun _ _ _=>rfl⟩;refine k w' ⟨?_,t1,hr.k1 s⟩ s;rw [hd',← he];simp
theorem MP {w:World} {m k:Nat} {T:Nat→Nat} {s r:Sl} (hm:m < w.heap.size) (t1:T m=1) (hk:k ≠ 1) (hs:∀ b∈Ai s,T b=k) (fr:∀ b∈Ai r,b∈Ai s∨w.heap.size≤b):AX k r T m=1:=by
 unfold AX;rw [if_neg]
 ·exact t1
 ·intro h;rcases fr m h with h' | h'
  ·have:=hs m h';omega
  ·omega
theorem Rest.uHe {w w':World} {T:Nat→Nat} {X:Co} (h:Rest w T X) {r:Sl} {l:List Hd} (hk:Aa (Ai X.sh) w w') (hr:Bh Fo w' r l) (fr:∀ b∈Ai r,b∈Ai X.sh∨w.heap.size≤b) (hD:∀ x∈l,Bq (AX 2 r T) (fun w=>A1 BQ w x.so x.ops) w'):Rest w' (AX 2 r T) { X with sh:=r,held:=l }:=by
 have s:CH 2 T (AX 2 r T) w w':=CH.row hk (fun b hb=>(h.he.tag b hb).2) fr;exact ⟨h.ow.kt (by decide) s,.of hr ED,hD,h.fi.kt (by decide) (by decide) s,h.wa.kt (by decide) (by decide) s,fun x hx=>(h.Ss x hx).kt (by decide) s,h.ta.kt (by decide) (by decide) s,h.ou.kt (by decide) (by decide) s,fun x hx=>(h.Wp x hx).kt (by decide) s,h.wr.kt (by decide) (by decide) s,h.li.kt (by decide) (by decide) s,h.bo.kt (by decide) (by decide) s,h.ro.kt (by decide) (by decide) s,h.lo.kt (by decide) s,h.RF.kt (by decide) (by decide) s,GH hr hk.size h.bd⟩
theorem A6.uHe {w w':World} {m:Nat} {T:Nat→Nat} {X:Mc} (h:A6 w m T X) {r:Sl} {l:List Hd} (hk:Aa (Ai X.d.sh) w w') (hr:Bh Fo w' r l) (fr:∀ b∈Ai r,b∈Ai X.d.sh∨w.heap.size≤b) (hD:∀ x∈l,Bq (AX 2 r T) (fun w=>A1 BQ w x.so x.ops) w') {K:Pr}
  (k:∀ w2,A6 w2 m (AX 2 r T) { X with d:={ X.d with sh:=r,held:=l } }→Aq T (AX 2 r T) w w2→K w2):St ⟨m,6,none⟩ (.slice r.p r.len r.cap) K w':=by
 have s:CH 2 T (AX 2 r T) w w':=CH.row hk (fun b hb=>(h.r.he.tag b hb).2) fr;have hm:w'.heap[m]?=_:=hk.at h.hd (fun hm=>by have:=(h.r.he.tag m hm).2;have:=h.t1;omega);refine A6.set (X':={ X with d:={ X.d with sh:=r,held:=l } }) hm (MP h.lt h.t1 (by decide) (fun b hb=>(h.r.he.tag b hb).2) fr) (h.r.uHe hk hr fr hD) (by decide) rfl rfl fun w2 h2 s2=>?_;exact k w2 h2 ((s.Bm (by decide)).trans (s2.Bm (by decide)))
theorem Rest.uFi {w w':World} {T:Nat→Nat} {X:Co} (h:Rest w T X) {r:Sl} {l:List Int} (hk:Aa (Ai X.sf) w w') (hr:Bh HL w' r l) (fr:∀ b∈Ai r,b∈Ai X.sf∨w.heap.size≤b):Rest w' (AX 3 r T) { X with sf:=r,fin:=l }:=by
 have s:CH 3 T (AX 3 r T) w w':=CH.row hk (fun b hb=>(h.fi.tag b hb).2) fr;exact ⟨h.ow.kt (by decide) s,h.he.kt (by decide) (by decide) s,fun x hx=>(h.Ro x hx).kt (by decide) s,.of hr ED,h.wa.kt (by decide) (by decide) s,fun x hx=>(h.Ss x hx).kt (by decide) s,h.ta.kt (by decide) (by decide) s,h.ou.kt (by decide) (by decide) s,fun x hx=>(h.Wp x hx).kt (by decide) s,h.wr.kt (by decide) (by decide) s,h.li.kt (by decide) (by decide) s,h.bo.kt (by decide) (by decide) s,h.ro.kt (by decide) (by decide) s,h.lo.kt (by decide) s,h.RF.kt (by decide) (by decide) s,GH hr hk.size h.bd⟩
theorem A6.uFi {w w':World} {m:Nat} {T:Nat→Nat} {X:Mc} (h:A6 w m T X) {r:Sl} {l:List Int} (hk:Aa (Ai X.d.sf) w w') (hr:Bh HL w' r l) (fr:∀ b∈Ai r,b∈Ai X.d.sf∨w.heap.size≤b) {K:Pr}
  (k:∀ w2,A6 w2 m (AX 3 r T) { X with d:={ X.d with sf:=r,fin:=l } }→Aq T (AX 3 r T) w w2→K w2):St ⟨m,7,none⟩ (.slice r.p r.len r.cap) K w':=by
 have s:CH 3 T (AX 3 r T) w w':=CH.row hk (fun b hb=>(h.r.fi.tag b hb).2) fr;have hm:w'.heap[m]?=_:=hk.at h.hd (fun hm=>by have:=(h.r.fi.tag m hm).2;have:=h.t1;omega);refine A6.set (X':={ X with d:={ X.d with sf:=r,fin:=l } }) hm (MP h.lt h.t1 (by decide) (fun b hb=>(h.r.fi.tag b hb).2) fr) (h.r.uFi hk hr fr) (by decide) rfl rfl fun w2 h2 s2=>?_;exact k w2 h2 ((s.Bm (by decide)).trans (s2.Bm (by decide)))
theorem Rest.uWa {w w':World} {T:Nat→Nat} {X:Co} (h:Rest w T X) {r:Sl} {l:List Wt} (hk:Aa (Ai X.sw) w w') (hr:Bh NF w' r l) (fr:∀ b∈Ai r,b∈Ai X.sw∨w.heap.size≤b) (hD:∀ x∈l,Bq (AX 4 r T) (WtD x) w'):Rest w' (AX 4 r T) { X with sw:=r,wait:=l }:=by
 have s:CH 4 T (AX 4 r T) w w':=CH.row hk (fun b hb=>(h.wa.tag b hb).2) fr;exact ⟨h.ow.kt (by decide) s,h.he.kt (by decide) (by decide) s,fun x hx=>(h.Ro x hx).kt (by decide) s,h.fi.kt (by decide) (by decide) s,.of hr ED,hD,h.ta.kt (by decide) (by decide) s,h.ou.kt (by decide) (by decide) s,fun x hx=>(h.Wp x hx).kt (by decide) s,h.wr.kt (by decide) (by decide) s,h.li.kt (by decide) (by decide) s,h.bo.kt (by decide) (by decide) s,h.ro.kt (by decide) (by decide) s,h.lo.kt (by decide) s,h.RF.kt (by decide) (by decide) s,GH hr hk.size h.bd⟩
theorem A6.uWa {w w':World} {m:Nat} {T:Nat→Nat} {X:Mc} (h:A6 w m T X) {r:Sl} {l:List Wt} (hk:Aa (Ai X.d.sw) w w') (hr:Bh NF w' r l) (fr:∀ b∈Ai r,b∈Ai X.d.sw∨w.heap.size≤b) (hD:∀ x∈l,Bq (AX 4 r T) (WtD x) w') {K:Pr}
  (k:∀ w2,A6 w2 m (AX 4 r T) { X with d:={ X.d with sw:=r,wait:=l } }→Aq T (AX 4 r T) w w2→K w2):St ⟨m,17,none⟩ (.slice r.p r.len r.cap) K w':=by
 have s:CH 4 T (AX 4 r T) w w':=CH.row hk (fun b hb=>(h.r.wa.tag b hb).2) fr;have hm:w'.heap[m]?=_:=hk.at h.hd (fun hm=>by have:=(h.r.wa.tag m hm).2;have:=h.t1;omega);refine A6.set (X':={ X with d:={ X.d with sw:=r,wait:=l } }) hm (MP h.lt h.t1 (by decide) (fun b hb=>(h.r.wa.tag b hb).2) fr) (h.r.uWa hk hr fr hD) (by decide) rfl rfl fun w2 h2 s2=>?_;exact k w2 h2 ((s.Bm (by decide)).trans (s2.Bm (by decide)))
theorem Rest.uOu {w w':World} {T:Nat→Nat} {X:Co} (h:Rest w T X) {r:Sl} {l:List Mg} (hk:Aa (Ai X.Er) w w') (hr:Bh Yz w' r l) (fr:∀ b∈Ai r,b∈Ai X.Er∨w.heap.size≤b) (hD:∀ x∈l,Bq (AX 6 r T) (Su x) w'):Rest w' (AX 6 r T) { X with Er:=r,out:=l }:=by
 have s:CH 6 T (AX 6 r T) w w':=CH.row hk (fun b hb=>(h.ou.tag b hb).2) fr;exact ⟨h.ow.kt (by decide) s,h.he.kt (by decide) (by decide) s,fun x hx=>(h.Ro x hx).kt (by decide) s,h.fi.kt (by decide) (by decide) s,h.wa.kt (by decide) (by decide) s,fun x hx=>(h.Ss x hx).kt (by decide) s,h.ta.kt (by decide) (by decide) s,.of hr ED,hD,h.wr.kt (by decide) (by decide) s,h.li.kt (by decide) (by decide) s,h.bo.kt (by decide) (by decide) s,h.ro.kt (by decide) (by decide) s,h.lo.kt (by decide) s,h.RF.kt (by decide) (by decide) s,GH hr hk.size h.bd⟩
theorem A6.uOu {w w':World} {m:Nat} {T:Nat→Nat} {X:Mc} (h:A6 w m T X) {r:Sl} {l:List Mg} (hk:Aa (Ai X.d.Er) w w') (hr:Bh Yz w' r l) (fr:∀ b∈Ai r,b∈Ai X.d.Er∨w.heap.size≤b) (hD:∀ x∈l,Bq (AX 6 r T) (Su x) w') {K:Pr}
  (k:∀ w2,A6 w2 m (AX 6 r T) { X with d:={ X.d with Er:=r,out:=l } }→Aq T (AX 6 r T) w w2→K w2):St ⟨m,21,none⟩ (.slice r.p r.len r.cap) K w':=by
 have s:CH 6 T (AX 6 r T) w w':=CH.row hk (fun b hb=>(h.r.ou.tag b hb).2) fr;have hm:w'.heap[m]?=_:=hk.at h.hd (fun hm=>by have:=(h.r.ou.tag m hm).2;have:=h.t1;omega);refine A6.set (X':={ X with d:={ X.d with Er:=r,out:=l } }) hm (MP h.lt h.t1 (by decide) (fun b hb=>(h.r.ou.tag b hb).2) fr) (h.r.uOu hk hr fr hD) (by decide) rfl rfl fun w2 h2 s2=>?_;exact k w2 h2 ((s.Bm (by decide)).trans (s2.Bm (by decide)))
theorem Rest.uWr {w w':World} {T:Nat→Nat} {X:Co} (h:Rest w T X) {r:Sl} {l:List Op} (hk:Aa (Ai X.Nv) w w') (hr:Bh BQ w' r l) (fr:∀ b∈Ai r,b∈Ai X.Nv∨w.heap.size≤b):Rest w' (AX 7 r T) { X with Nv:=r,writes:=l }:=by
 have s:CH 7 T (AX 7 r T) w w':=CH.row hk (fun b hb=>(h.wr.tag b hb).2) fr;exact ⟨h.ow.kt (by decide) s,h.he.kt (by decide) (by decide) s,fun x hx=>(h.Ro x hx).kt (by decide) s,h.fi.kt (by decide) (by decide) s,h.wa.kt (by decide) (by decide) s,fun x hx=>(h.Ss x hx).kt (by decide) s,h.ta.kt (by decide) (by decide) s,h.ou.kt (by decide) (by decide) s,fun x hx=>(h.Wp x hx).kt (by decide) s,.of hr ED,h.li.kt (by decide) (by decide) s,h.bo.kt (by decide) (by decide) s,h.ro.kt (by decide) (by decide) s,h.lo.kt (by decide) s,h.RF.kt (by decide) (by decide) s,GH hr hk.size h.bd⟩
theorem A6.uWr {w w':World} {m:Nat} {T:Nat→Nat} {X:Mc} (h:A6 w m T X) {r:Sl} {l:List Op} (hk:Aa (Ai X.d.Nv) w w') (hr:Bh BQ w' r l) (fr:∀ b∈Ai r,b∈Ai X.d.Nv∨w.heap.size≤b) {K:Pr}
  (k:∀ w2,A6 w2 m (AX 7 r T) { X with d:={ X.d with Nv:=r,writes:=l } }→Aq T (AX 7 r T) w w2→K w2):St ⟨m,22,none⟩ (.slice r.p r.len r.cap) K w':=by
 have s:CH 7 T (AX 7 r T) w w':=CH.row hk (fun b hb=>(h.r.wr.tag b hb).2) fr;have hm:w'.heap[m]?=_:=hk.at h.hd (fun hm=>by have:=(h.r.wr.tag m hm).2;have:=h.t1;omega);refine A6.set (X':={ X with d:={ X.d with Nv:=r,writes:=l } }) hm (MP h.lt h.t1 (by decide) (fun b hb=>(h.r.wr.tag b hb).2) fr) (h.r.uWr hk hr fr) (by decide) rfl rfl fun w2 h2 s2=>?_;exact k w2 h2 ((s.Bm (by decide)).trans (s2.Bm (by decide)))
theorem Rest.uLi {w w':World} {T:Nat→Nat} {X:Co} (h:Rest w T X) {r:Sl} {l:List Ev} (hk:Aa (Ai X.Mm) w w') (hr:Bh evR w' r l) (fr:∀ b∈Ai r,b∈Ai X.Mm∨w.heap.size≤b):Rest w' (AX 8 r T) { X with Mm:=r,line:=l }:=by
 have s:CH 8 T (AX 8 r T) w w':=CH.row hk (fun b hb=>(h.li.tag b hb).2) fr;exact ⟨h.ow.kt (by decide) s,h.he.kt (by decide) (by decide) s,fun x hx=>(h.Ro x hx).kt (by decide) s,h.fi.kt (by decide) (by decide) s,h.wa.kt (by decide) (by decide) s,fun x hx=>(h.Ss x hx).kt (by decide) s,h.ta.kt (by decide) (by decide) s,h.ou.kt (by decide) (by decide) s,fun x hx=>(h.Wp x hx).kt (by decide) s,h.wr.kt (by decide) (by decide) s,.of hr ED,h.bo.kt (by decide) (by decide) s,h.ro.kt (by decide) (by decide) s,h.lo.kt (by decide) s,h.RF.kt (by decide) (by decide) s,GH hr hk.size h.bd⟩
theorem A6.uLi {w w':World} {m:Nat} {T:Nat→Nat} {X:Mc} (h:A6 w m T X) {r:Sl} {l:List Ev} (hk:Aa (Ai X.d.Mm) w w') (hr:Bh evR w' r l) (fr:∀ b∈Ai r,b∈Ai X.d.Mm∨w.heap.size≤b) {K:Pr}
  (k:∀ w2,A6 w2 m (AX 8 r T) { X with d:={ X.d with Mm:=r,line:=l } }→Aq T (AX 8 r T) w w2→K w2):St ⟨m,24,none⟩ (.slice r.p r.len r.cap) K w':=by
 have s:CH 8 T (AX 8 r T) w w':=CH.row hk (fun b hb=>(h.r.li.tag b hb).2) fr;have hm:w'.heap[m]?=_:=hk.at h.hd (fun hm=>by have:=(h.r.li.tag m hm).2;have:=h.t1;omega);refine A6.set (X':={ X with d:={ X.d with Mm:=r,line:=l } }) hm (MP h.lt h.t1 (by decide) (fun b hb=>(h.r.li.tag b hb).2) fr) (h.r.uLi hk hr fr) (by decide) rfl rfl fun w2 h2 s2=>?_;exact k w2 h2 ((s.Bm (by decide)).trans (s2.Bm (by decide)))
theorem Ny.heap {w w':World} {t:Nat} {H:Nat→Prop} {s:TS} (h:Ny w t H s) (hw:∀ b,H b→w'.heap[b]?=w.heap[b]?):Ny w' t H s:=by
 obtain ⟨sh,sw,h⟩:=h;exact ⟨sh,sw,(hw t ((h.own t).2 (.inl rfl))).trans h.hd,h.h.heap fun b hb=>hw b ((h.own b).2 (.inr (.inl hb))),h.w.heap fun b hb=>hw b ((h.own b).2 (.inr (.inr hb))),h.th,h.tw,h.hw,h.own⟩
theorem Rest.uTa {w w':World} {T:Nat→Nat} {X:Co} (h:Rest w T X) {H':Nat→Prop} {s':TS} (ht:Ny w' X.tb H' s') (fr:Fr X.tH H' w) (hk:A4 X.tH w w'):CH 5 T (XE 5 H' T) w w'∧Rest w' (XE 5 H' T) { X with tH:=H',BS:=s' }:=by
 classical
 have hbl:∀ b,H' b→b < w'.heap.size:=by
  obtain ⟨sh,sw,h2⟩:=ht;exact h2.bl
 have s:CH 5 T (XE 5 H' T) w w':=by
  refine ⟨hk.mono fun b hb=>.inl (h.ta.tag b hb).2,fun b hb hn=>?_⟩;unfold XE;rw [if_neg];intro h';rcases fr b h' with h1 | h1
  ·exact hn (h.ta.tag b h1).2
  ·omega
 refine ⟨s,h.ow.kt (by decide) s,h.he.kt (by decide) (by decide) s,fun x hx=>(h.Ro x hx).kt (by decide) s,h.fi.kt (by decide) (by decide) s,h.wa.kt (by decide) (by decide) s,fun x hx=>(h.Ss x hx).kt (by decide) s,⟨ht,fun w2 _ hw=>ht.heap fun b hb=>hw b (hbl b hb) (.inl (if_pos hb)),fun b hb=>⟨hbl b hb,if_pos hb⟩⟩,h.ou.kt (by decide) (by decide) s,fun x hx=>(h.Wp x hx).kt (by decide) s,h.wr.kt (by decide) (by decide) s,h.li.kt (by decide) (by decide) s,h.bo.kt (by decide) (by decide) s,h.ro.kt (by decide) (by decide) s,h.lo.kt (by decide) s,h.RF.kt (by decide) (by decide) s,fun b hb=>?_⟩;unfold XE at hb;split at hb
 ·exact hbl b (by assumption)
 ·exact Nat.lt_of_lt_of_le (h.bd b hb) hk.size
theorem A6.uTa {w w':World} {m:Nat} {T:Nat→Nat} {X:Mc} (h:A6 w m T X) {H':Nat→Prop} {s':TS} (ht:Ny w' X.d.tb H' s') (fr:Fr X.d.tH H' w) (hk:A4 X.d.tH w w'):A6 w' m (XE 5 H' T) { X with d:={ X.d with tH:=H',BS:=s' } }∧Aq T (XE 5 H' T) w w':=by
 obtain ⟨s,hr⟩:=h.r.uTa ht fr hk;refine ⟨⟨hk.at h.hd fun hm=>?_,?_,hr⟩,s.Bm (by decide)⟩
 ·have:=(h.r.ta.tag m hm).2;have:=h.t1;omega
 ·exact (s.tg m h.lt (by rw [h.t1];decide)).trans h.t1
open Go Go.Sx
theorem Am (w:World):Aa [] w w.drew:=(Aa.refl _ _).drew
theorem A5 (b i n:Nat):Addr.add ⟨b,i,none⟩ n=⟨b,i + n,none⟩:=Cr b i n
theorem KD {w:World} {m:Nat} {T:Nat→Nat} {X:Mc} (h:A6 w m T X) (x:Mg) (hx:Bq T (Su x) w) (hN:X.d.out.length≤100000) {K:TR []→Pr}
  (k:∀ so T' w',A6 w' m T' { X with d:={ X.d with Er:=so,out:=X.d.out ++ [{ x with src:=X.c.id }] } }→Aq T T' w w'→K () w') :
  Cl Pg 38 [.pointer (some ⟨m,0,none⟩),.agg #[.int .i64 x.kind,.int .i64 x.src,.int .i64 x.dst,.int .i64 x.Ch,.int .i64 x.code,.int .i64 x.peer,.int .u64 x.VT,.int .u64 x.Au,.int .u64 x.Ah,.int .u64 x.low,.int .u64 x.CZ,.int .u64 x.Ao,.int .u64 x.move,.int .u64 x.attempt,.int .u64 x.n,.bool x.flag,.string x.FN,.string x.G6,.slice x.so.p x.so.len x.so.cap,.slice x.sr.p x.sr.len x.sr.cap,.slice x.sw.p x.sw.len x.sw.cap]] true [] K w:=by
 refine Lj _ _ _ _ _ _ _ _ _ _ _ _ _ _ _ _ _ _ _ x.so x.sr x.sw ?_;unfold Io;dsimp only [Ag,Li,Bn,Ll,Ti,Ts,Vs];refine Ad fun a w1 h1 n1 k1=>?_;have g1:=h.Ab k1;simp only [sb,g1.hd,Bs,A5,Nat.reduceAdd];refine Ax h1 1 _ rfl (by simp) fun w2 h2 k2=>?_;have ma:m ≠ a:=fun e=>by have:=h.lt;omega
 have k02:=BT k1 k2 n1;have g2:=h.Ab k02;simp only [Ck] at h2;simp only [sb,g2.hd,Bs,A5,Nat.reduceAdd,h2];refine Ad fun c w3 h3 n3 k3=>?_;have k03:=Aj k02.drew k3;have g3:=h.Ab k03;simp only [sb,g3.hd,Bs,A5,Nat.reduceAdd];refine ⟨by trivial,?_⟩;have hs:=g3.r.ou.ok;have hl:=hs.BY;refine AE.app (ρ:=Yz) (new:=[{ x with src:=X.c.id }]) hs (by rw [List.flatMap_singleton];exact BI (ρ:=Yz) (x:={ x with src:=X.c.id }) h3) rfl (by rw [AhR];rfl) (by omega) (by omega) ?_;intro r w4 h4 k4 f4;have s4:CH 6 T (AX 6 r T) w3 w4:=CH.row k4 (fun b hb=>(g3.r.ou.tag b hb).2) f4;refine g3.uOu k4 h4 f4 (fun y hy=>?_) fun w5 h5 e5=>?_
 ·rcases List.mem_append.1 hy with hy | hy
  ·exact (g3.r.Wp y hy).kt (by decide) s4
  ·rw [List.mem_singleton] at hy;subst hy;exact (hx.Ab k03).kt (by decide) s4
 ·exact k r _ w5 h5 ((Aq.k0 k03).trans e5)
theorem V6 {w:World} {m:Nat} {T:Nat→Nat} {X:Mc} (h:A6 w m T X) (Ah code:Int) (sr:Sl) (rs:List Rs) (hr:Bq T (Yi sr rs) w) (hN:X.d.out.length≤100000) {K:TR []→Pr}
  (k:∀ so T' w',A6 w' m T' { X with d:={ X.d with Er:=so,out:=X.d.out ++ [⟨4,X.c.id,0,0,code,0,0,0,Ah,0,0,0,0,0,0,false,BA [],BA [],⟨none,0,0⟩,sr,⟨none,0,0⟩,[],rs,[]⟩] } }→Aq T T' w w'→K () w') :
  Cl Pg 117 [.pointer (some ⟨m,0,none⟩),.int .u64 Ah,.int .i64 code,.slice sr.p sr.len sr.cap] true [] K w:=by
 refine Lf _ _ _ _ ?_;unfold Iv;dsimp only [Vb,Vi,Vp,Vs,Vt,Vu];refine KD h ⟨4,0,0,0,code,0,0,0,Ah,0,0,0,0,0,0,false,BA [],BA [],⟨none,0,0⟩,sr,⟨none,0,0⟩,[],rs,[]⟩ ?_ hN k;exact (Bq.NI fun w=>A1.nil w).and (hr.and (Bq.NI fun w=>A1.nil w))
theorem Nj {w:World} {m:Nat} {T:Nat→Nat} {X:Mc} (h:A6 w m T X) (hs:X.d.wait.Pairwise (fun a b=>a.Ah < b.Ah)) (hN:X.d.wait.length≤100000) (t:Int) {K:TR [.sc (.i .i64),.sc .b]→Pr}
  (k:∀ w',Aa [] w w'→K ((Ba (fun x:Wt=>BC x.Ah t) X.d.wait:Int),Ee (fun x:Wt=>BC x.Ah t) X.d.wait,()) w'):Cl Pg 115 [.pointer (some ⟨m,0,none⟩),.int .u64 t] true [.sc (.i .i64),.sc .b] K w:=by
 refine HY _ _ ?_;unfold FI;dsimp only [Ll,Vs,Vu];simp only [sb,h.hd,Bs];refine VF (c:=fun x:Wt=>BC x.Ah t) h.r.wa.ok.C6 ?_ ?_ (by omega) fun w' k'=>k w' k'
 ·intro w1 k1 x _ K1 hK;refine Ap (by kernel_rfl) ?_;refine GB _ x.so x.sk _ _ ?_;unfold EL;dsimp only [RL,Lu,Vu];refine Ad fun b w2 h2 n2 k2=>?_;simp only [sb,h2];exact QV _ _ (hK _ k2)
 ·exact hs.imp fun h=>by rw [Dq,Dq];omega
theorem Aa6 {w:World} {m:Nat} {T:Nat→Nat} {X:Mc} (h:A6 w m T X) (hs:X.d.held.Pairwise (fun a b=>a.Ah < b.Ah)) (hN:X.d.held.length≤100000) (t:Int) {K:TR [.sc (.i .i64),.sc .b]→Pr}
  (k:∀ w',Aa [] w w'→K ((Ba (fun x:Hd=>BC x.Ah t) X.d.held:Int),Ee (fun x:Hd=>BC x.Ah t) X.d.held,()) w'):Cl Pg 116 [.pointer (some ⟨m,0,none⟩),.int .u64 t] true [.sc (.i .i64),.sc .b] K w:=by
 refine Lm _ _ ?_;unfold Iq;dsimp only [Ll,Vs,Vu];simp only [sb,h.hd,Bs];refine VE (c:=fun x:Hd=>BC x.Ah t) h.r.he.ok.C6 ?_ ?_ (by omega) fun w' k'=>k w' k'
 ·intro w1 k1 x _ K1 hK;refine Ap (by kernel_rfl) ?_;refine IU _ x.so _ ?_;unfold G3;dsimp only [Lu,Vs,Vu];refine Ad fun b w2 h2 n2 k2=>?_;simp only [sb,h2];exact QV _ _ (hK _ k2)
 ·exact hs.imp fun h=>by rw [Dq,Dq];omega
def Gc (b:Bool) (l:List Int):List Ev:=l.map (⟨·,b⟩)
theorem Af8 {w:World} {m:Nat} {T:Nat→Nat} {X:Mc} (h:A6 w m T X) {sg sd:Sl} {g d:List Int} (hg:Bq T (fun w=>AE w sg 1 (cU g)) w) (hd:Bq T (fun w=>AE w sd 1 (cU d)) w) (hN:X.d.line.length + g.length + d.length≤100000) {K:TR []→Pr}
  (k:∀ sl T' w',A6 w' m T' { X with d:={ X.d with Mm:=sl,line:=X.d.line ++ Gc true d ++ Gc false g } }→Aq T T' w w'→K () w') :
  Cl Pg 214 [.pointer (some ⟨m,0,none⟩),.slice sg.p sg.len sg.cap,.slice sd.p sd.len sd.cap] true [] K w:=by
 have hlg:=DJ hg.ok;have hld:=DJ hd.ok
 have add:∀ {w1:World} {T1:Nat→Nat} {X1:Mc} (y:Ev) {J:Pr},A6 w1 m T1 X1→X1.d.line.length≤100000→(∀ sl T' w',A6 w' m T' { X1 with d:={ X1.d with Mm:=sl,line:=X1.d.line ++ [y] } }→Aq T1 T' w1 w'→J w') →
   (Nn (some ⟨m,0,none⟩) fun a5=>DN (a5.add 24) fun x6=>At #[(.int .u64 y.Ah),(.bool y.dead)] 282 fun a7=>App 282 2 16 (zc Pg 282) x6 1 (BH (some a7) 1 2) fun r8=>Nn (some ⟨m,0,none⟩) fun a9=>St (a9.add 24) (.slice r8.p r8.len r8.cap) J) w1:=by
  intro w1 T1 X1 y J h1 hN hJ;simp only [sb,h1.hd,Bs];refine Ad fun c w2 h2 n2 k2=>?_;have g2:=h1.Ab k2;have hs:=g2.r.li.ok;have hl:=hs.BY;refine AE.app (ρ:=evR) (new:=[y]) hs (by rw [List.flatMap_singleton];exact BI (ρ:=evR) (x:=y) h2) rfl (by rw [AdC];rfl) (by omega) (by omega) ?_;intro r w3 h3 k3 f3;refine g2.uLi k3 h3 f3 fun w4 h4 e4=>?_;exact hJ r _ w4 h4 ((Aq.k0 k2).trans e4)
 refine KM _ _ _ ?_;unfold Ii;dsimp only [Ll,Ts,Vb,Vu];refine ⟨fun n st w'=>∃ (i:Nat) (sl:Sl) (T':Nat→Nat),st=((i:Int),())∧n=d.length - i∧i≤d.length∧A6 w' m T' { X with d:={ X.d with Mm:=sl,line:=X.d.line ++ Gc true (d.take i) } }∧Aq T T' w w',⟨_,0,X.d.Mm,T,rfl,rfl,by omega,by rw [List.take_zero,Gc,List.map_nil,List.append_nil];exact h,Aq.refl _ _⟩,?_⟩;rintro n _ w1 ⟨i,sl,T1,rfl,rfl,hi,h1,e1⟩;dsimp only;by_cases hlt:i < d.length
 ·rw [decide_eq_true (by omega)];simp only [Af];obtain ⟨y,hy⟩:∃ y,d[i]?=some y:=⟨_,List.getElem?_eq_getElem hlt⟩;refine RT (hd.Bm e1).ok hy ?_;refine add ⟨y,true⟩ h1 (by dsimp only;rw [List.length_append,Gc,List.length_map,List.length_take];omega) ?_;intro sl' T' w2 h2 e2;refine ⟨d.length - (i + 1),by omega,i + 1,sl',T',by rw [AK (by omega)],rfl,by omega,?_,e1.trans e2⟩;dsimp only at h2;rw [List.append_assoc] at h2;rw [List.take_add_one,hy,Gc,List.map_append];exact h2
 ·rw [decide_eq_false (by omega)];rw [List.take_of_length_le (by omega)] at h1;simp only [Ae];refine ⟨fun n st w'=>∃ (i:Nat) (sl:Sl) (T':Nat→Nat),st=((i:Int),())∧n=g.length - i∧i≤g.length∧A6 w' m T' { X with d:={ X.d with Mm:=sl,line:=X.d.line ++ Gc true d ++ Gc false (g.take i) } }∧Aq T T' w w',⟨_,0,sl,T1,rfl,rfl,by omega,by rw [List.take_zero,show Gc false []=[] from rfl,List.append_nil];exact h1,e1⟩,?_⟩;rintro n _ w2 ⟨i,sl,T2,rfl,rfl,hi,h2,e2⟩;dsimp only;by_cases hlt:i < g.length
  ·rw [decide_eq_true (by omega)];simp only [Af];obtain ⟨y,hy⟩:∃ y,g[i]?=some y:=⟨_,List.getElem?_eq_getElem hlt⟩;refine RT (hg.Bm e2).ok hy ?_;refine add ⟨y,false⟩ h2 (by dsimp only;rw [List.length_append,List.length_append,Gc,Gc,List.length_map,List.length_map,List.length_take];omega) ?_;intro sl' T' w3 h3 e3;refine ⟨g.length - (i + 1),by omega,i + 1,sl',T',by rw [AK (by omega)],rfl,by omega,?_,e2.trans e3⟩;dsimp only at h3;rw [List.append_assoc] at h3;rw [List.take_add_one,hy,show Gc false (g.take i ++ (some y).toList)=Gc false (g.take i) ++ [⟨y,false⟩] from by rw [Gc,List.map_append];rfl];exact h3
  ·rw [decide_eq_false (by omega)];rw [List.take_of_length_le (by omega)] at h2;exact k sl T2 w2 h2 e2
open Go Go.Sx
theorem WC {α:Type} (p:α→Bool) (l:List α):l.length=(l.filter p).length + (l.filter (fun x=>!p x)).length:=by
 induction l with
 | nil=>rfl
 | cons a l ih=>simp only [List.filter_cons,List.length_cons];cases p a <;> simp <;> omega
theorem Aff (l:List Int) (n:Int):(O5 l n).length≤l.length + 1:=by
 induction l with
 | nil=>simp [O5]
 | cons a l ih=>
  unfold O5
  repeat' split
  all_goals simp only [List.length_cons]
  all_goals omega
theorem JZ (l:List Int):(Dk l).length≤l.length:=by
 have:∀ (l acc:List Int),(l.foldl O5 acc).length≤acc.length + l.length:=by
  intro l;induction l with
  | nil=>intro acc;simp
  | cons a l ih=>
   intro acc;have h1:=ih (O5 acc a);have h2:=Aff acc a;simp only [List.foldl_cons,List.length_cons];omega
 have h:=this l [];simp only [List.length_nil,Nat.zero_add] at h;exact h
theorem Vd (d:List Int):∀ s:TS,(Ca d s).wait=s.wait.filter (fun y=>!d.contains y.n):=by
 induction d with
 | nil=>intro s;exact (List.filter_eq_self.2 fun _ _=>rfl).symm
 | cons n d ih=>
  intro s;show (Ca d (CJ n s)).wait=_;rw [ih];simp only [CJ,List.filter_filter];refine List.filter_congr fun y _=>?_;rw [List.contains_cons];cases y.n == n <;> simp
theorem WD (x:Ak) (l:List Ak):(l.filter (fun y=>!(Ed x l).contains y.n)).length + (Ed x l).length≤l.length:=by
 unfold Ed;rw [List.length_map];have h1:=WC (fun w=>decide (x.n < w.n) && B8 x w) l;have h2:(l.filter (fun y=>!((l.filter (fun w=>decide (x.n < w.n) && B8 x w)).map (·.n)).contains y.n)).length≤(l.filter (fun w=>!(decide (x.n < w.n) && B8 x w))).length:=by
  refine List.Sublist.length_le ?_;have:l.filter (fun y=>!((l.filter (fun w=>decide (x.n < w.n) && B8 x w)).map (·.n)).contains y.n)=(l.filter (fun w=>!(decide (x.n < w.n) && B8 x w))).filter (fun y=>!((l.filter (fun w=>decide (x.n < w.n) && B8 x w)).map (·.n)).contains y.n):=by
   rw [List.filter_filter];refine List.filter_congr fun y hy=>?_;cases hq:(decide (x.n < y.n) && B8 x y) with
   | false=>simp
   | true=>
    have:((l.filter (fun w=>decide (x.n < w.n) && B8 x w)).map (·.n)).contains y.n=true:=by
     rw [List.contains_iff_mem];exact List.mem_map.2 ⟨y,List.mem_filter.2 ⟨hy,hq⟩,rfl⟩
    rw [this];rfl
  rw [this];exact List.filter_sublist
 omega
theorem M5:∀ (k:Nat) (s:TS) (g d:List Int),(AT k s g d).2.1.length + (AT k s g d).2.2.length + (AT k s g d).1.wait.length≤g.length + d.length + s.wait.length
 | 0,s,g,d=>Nat.le_refl _
 | k + 1,s,g,d=>by
  unfold AT;cases hf:s.wait.find? (P1 s) with
  | none=>exact Nat.le_refl _
  | some x=>
   dsimp only;have h1:=M5 k (Dd x s).2 (g ++ [x.n]) (d ++ (Dd x s).1);have h2:(Dd x s).2.wait.length + (Dd x s).1.length + 1≤s.wait.length:=by
    unfold Dd AL;dsimp only;rw [Vd];have h3:=WD x (s.wait.filter (fun y=>!(y.n == x.n)));have h4:=GF (List.mem_of_find?_eq_some hf);dsimp only;omega
   rw [List.length_append,List.length_append,List.length_singleton] at h1;omega
theorem Zi (n:Int) (s:TS):(ES n s).1.1.length + (ES n s).1.2.length + (ES n s).2.wait.length≤s.wait.length:=by
 unfold ES;dsimp only;have h1:=M5 (CJ n s).wait.length (CJ n s) [] [];have h2:(CJ n s).wait.length≤s.wait.length:=List.length_filter_le _ _;have h3:=JZ (AT (CJ n s).wait.length (CJ n s) [] []).2.1;have h4:=JZ (AT (CJ n s).wait.length (CJ n s) [] []).2.2;simp only [List.length_nil] at h1;omega
theorem YA (x:Ak) (s:TS):(Bc x s).1.2.1.length + (Bc x s).1.2.2.1.length + (Bc x s).2.wait.length≤s.wait.length + 1:=by
 unfold Bc
 repeat' split
 all_goals (try (simp;done))
 ·have h1:=M5 (AL x s).2.wait.length (AL x s).2 [] (AL x s).1;have h3:=JZ (AT (AL x s).2.wait.length (AL x s).2 [] (AL x s).1).2.1;have h4:=JZ (AT (AL x s).2.wait.length (AL x s).2 [] (AL x s).1).2.2;have h5:(AL x s).2.wait.length + (AL x s).1.length≤s.wait.length:=by
   unfold AL;dsimp only;rw [Vd];exact WD x s.wait
  simp only [List.length_nil] at h1;dsimp only;omega
 ·have:(QN x s.wait).length=s.wait.length + 1:=by
   unfold QN;have h1:=WC (fun y=>decide (y.n < x.n)) s.wait;rw [List.length_append,List.length_cons];omega
  simp [this]
theorem Bq.cu {T:Nat→Nat} {w:World} {s:Sl} {l:List Int} (h:AE w s 1 (cU l)) (ht:∀ b∈Ai s,T b=0):Bq T (fun w=>AE w s 1 (cU l)) w:=
 ⟨h,fun w' _ hw=>h.heap fun b hb=>hw b (h.lt b hb) (ht b hb)⟩
theorem Aet {w w':World} {m:Nat} {T:Nat→Nat} {X:Mc} (h:A6 w m T X) {s':TS} {a b:Sl} {g d:List Int} (hl:Left w w' X.d.tb X.d.tH s' a b g d) :
  ∃ T' H',A6 w' m T' { X with d:={ X.d with tH:=H',BS:=s' } }∧Aq T T' w w'∧Bq T' (fun w=>AE w a 1 (cU g)) w'∧Bq T' (fun w=>AE w b 1 (cU d)) w':=by
 obtain ⟨H',h1,f1,k1,ha,hb,na,nb,_⟩:=hl;obtain ⟨h2,e2⟩:=h.uTa h1 f1 k1;refine ⟨_,H',h2,e2,Bq.cu ha fun y hy=>?_,Bq.cu hb fun y hy=>?_⟩
 ·unfold XE;rw [if_neg (na y hy).2];exact h.new (na y hy).1
 ·unfold XE;rw [if_neg (nb y hy).2];exact h.new (nb y hy).1
theorem Ahs {w:World} {m:Nat} {T:Nat→Nat} {X:Mc} (h:A6 w m T X) (ho:IP X.d.BS) (x:Ak) {K:TR [.sc (.i .i64),.sc .sl,.sc .sl,.sc (.i .i64)]→Pr}
  (k:∀ sg sd T' H' w',A6 w' m T' { X with d:={ X.d with tH:=H',BS:=(Bc x X.d.BS).2 } }→Aq T T' w w'→Bq T' (fun w=>AE w sg 1 (cU (Bc x X.d.BS).1.2.1)) w'→Bq T' (fun w=>AE w sd 1 (cU (Bc x X.d.BS).1.2.2.1)) w' →
   K ((Bc x X.d.BS).1.1,sg,sd,(Bc x X.d.BS).1.2.2.2,()) w') :
  Cl Pg 29 [.pointer (some ⟨X.d.tb,0,none⟩),.int .u64 x.n,.agg #[.string x.lo,.string x.hi,.bool x.wr]] true [.sc (.i .i64),.sc .sl,.sc .sl,.sc (.i .i64)] K w:=by
 refine Cl.mono (Aix h.r.ta.ok ho x) ?_;rintro ⟨r,sg,sd,e,_⟩ w' ⟨h1,h2,h3⟩;dsimp only at h1 h2 h3;obtain ⟨T',H',g1,g2,g3,g4⟩:=Aet h h3;rw [h1,h2];exact k sg sd T' H' w' g1 g2 g3 g4
theorem W1 {w:World} {m:Nat} {T:Nat→Nat} {X:Mc} (h:A6 w m T X) (ho:IP X.d.BS) (n:Int) (hN:X.d.line.length≤90000) {K:TR []→Pr}
  (k:∀ sl T' H' w',A6 w' m T' { X with d:={ X.d with tH:=H',BS:=(ES n X.d.BS).2,Mm:=sl,line:=X.d.line ++ Gc true (ES n X.d.BS).1.2 ++ Gc false (ES n X.d.BS).1.1 } }→Aq T T' w w'→K () w') :
  Cl Pg 215 [.pointer (some ⟨m,0,none⟩),.int .u64 n] true [] K w:=by
 refine HR _ _ ?_;unfold FA;dsimp only [Hr,Vp,Vs,Vu];simp only [sb,h.hd,Bs];refine Cl.mono (Abq h.r.ta.ok ho n) ?_;rintro ⟨sg,sd,_⟩ w1 h1;dsimp only at h1;obtain ⟨T1,H1,g1,g2,g3,g4⟩:=Aet h h1;have ht:=Zi n X.d.BS;have hf:=ho.few;refine Af8 g1 g3 g4 (by dsimp only;omega) ?_;intro sl T2 w2 h2 e2;exact k sl T2 H1 w2 h2 (g2.trans e2)
theorem AaX {m:List Pa} (h:AU m):BM m (BA []) (BA []) (-1)=m:=by
 unfold BM;rw [if_pos (by decide)];refine List.filter_eq_self.2 fun p hp=>?_;unfold DP;rw [(h.ok p hp).1];have e1:Da (BA []) (BA [])=true:=by unfold Da;rw [seq_eq,decide_eq_true rfl];rfl
 have e2:slt p.k (BA [])=false:=by
  cases hs:slt p.k (BA []) with
  | false=>rfl
  | true=>
   have:=Ct hs;rw [Ws] at this;have hk:=(h.ok p hp).1;unfold Kx at hk;simp at this;rw [this] at hk;simp at hk
 rw [e1,e2,seq_eq];rfl
theorem ZE {w:World} {BD:Nat} {sM:Sl} {M:List Pa} (h:w.heap[BD]?=some (.cells #[.slice sM.p sM.len sM.cap] 27 (0,0))∧A1 C2 w sM M) (hN:M.length≤1000000) (lo hi:ByteArray) (AD:Int) {K:TR [.sc .sl,.sc (.i .i64)]→Pr}
  (k : ∀ r w', Bh C2 w' r (BM M lo hi AD) → (∀ x ∈ Ai r, w.heap.size ≤ x) → Aa [] w w' → K (r, 0, ()) w') : Inv Pg (stV BD) "Scan" [.agg #[.string lo, .string hi], .int .i64 AD] true [.sc .sl, .sc (.i .i64)] K w := by
 refine Aie (f:=328) (by kernel_rfl) ?_;refine FZ _ _ _ _ ?_;unfold El;dsimp only [Ll,Ls,Vi,Vs,Vt];refine Ad fun a w1 h1 n1 k1=>?_;have hs:=k1.Aw h.1;simp only [sb,h1,hs];refine Zj (h.2.Ab k1.drew) (by omega) lo hi AD ?_;intro r w2 h2 f2 k2;have hl:=h2.BY;have hwl:(BM M lo hi AD).length≤M.length:=by
  have:=List.length_filter_le (fun p:Pa=>DP lo hi p.k) M;unfold BM;split
  ·exact this
  ·rw [List.length_take];omega
 refine AE.app (ρ:=C2) (l:=[]) (new:=BM M lo hi AD) (AE.nil _ _) h2.C6.rd hl (by rw [Fm];rfl) (by dsimp only;omega) (by dsimp only;omega) ?_;intro r' w3 h3 k3 f3;have k3:Aa [] w2 w3:=k3;have k02:=Aj k1.drew k2;refine k r' w3 h3 (fun x hx=>?_) (Aj k02 k3);rcases f3 x hx with h' | h'
 ·simp [Ai] at h'
 ·have:=k02.size;omega
theorem W8 {w:World} {m:Nat} {T:Nat→Nat} {X:Mc} (h:A6 w m T X) (hM:AU X.d.M) (hMN:X.d.M.length≤300000) (hw:A9 X.d.writes=0) (hwN:X.d.writes.length≤100000) {so:Sl} {ops:List Op} (hop:A1 BQ w so ops) (ho:A9 ops=0) (hoN:ops.length≤100000) {K:TR [.sc .sl]→Pr}
  (k:∀ sr rs w',Aa [] w w'→Bq T (Yi sr rs) w'→rs.map Rs.p=(Bd (Bd X.d.M X.d.writes).1 ops).2→K (sr,()) w'):Cl Pg 118 [.pointer (some ⟨m,0,none⟩),.slice so.p so.len so.cap] false [.sc .sl] K w:=by
 refine Ib _ _ ?_;unfold FC;dsimp only [Ll,Ti,Vi,Vs,Vt];simp only [sb,h.hd,Bs];refine ZE h.r.RF.ok (by omega) _ _ _ ?_;intro r1 w1 h1 f1 k1;rw [AaX hM] at h1;have g1:=h.Ab k1;simp only [show ((0:Int) != 0)=false from rfl,sb,g1.hd,Bs,A5,Nat.reduceAdd];refine Ab5 h1.C6 g1.r.wr.ok.C6 (by omega) (by omega) ?_ ?_
 ·intro _ _ r2 r3 rs2 w2 h2 h3 h4 h5 h6 h7 k2;have k02:=Aj k1 k2;simp only [show ((0:Int) != 0)=false from rfl,sb];obtain ⟨l1,_⟩:=He X.d.M X.d.writes;refine Ab5 h2.C6 (hop.Ab k02) (by omega) (by omega) ?_ ?_
  ·intro _ _ r4 r5 rs5 w3 q2 q3 q4 q5 q6 q7 k3;have k03:=Aj k02 k3;have s02:=k02.size;refine k r5 rs5 w3 k03 ?_ q4;have hz:∀ b,w2.heap.size≤b→T b=0:=fun b hb=>h.new (by omega);refine ⟨⟨q3.C6,fun y hy=>(q5 y hy).1⟩,fun w4 hs4 hw4=>⟨q3.C6.heap fun b hb=>hw4 b (q3.C6.lt b hb) (hz b (q7 b (q3.rb b hb))),fun y hy=>A1.heap (q5 y hy).1 fun b hb=>hw4 b (A1.lt (q5 y hy).1 b hb) (hz b ((q5 y hy).2 b hb).1)⟩⟩
  ·intro e w3 he;rcases he with he | he
   ·exact absurd (Nq hM hw) he
   ·exact absurd ho he
 ·intro e w2 he;rcases he with he | he
  ·exact absurd hM he
  ·exact absurd hw he
open Go Go.Sx
structure PW where
 Ah:Int
 ops:List Op
 BB:List Lk
 next:Int
deriving DecidableEq
structure PH where
 Ah:Int
 ops:List Op
deriving DecidableEq
structure PM where
 kind:Int
 src:Int
 dst:Int
 Ch:Int
 code:Int
 peer:Int
 VT:Int
 Au:Int
 Ah:Int
 low:Int
 CZ:Int
 Ao:Int
 move:Int
 attempt:Int
 n:Int
 flag:Bool
 FN:ByteArray
 G6:ByteArray
 ops:List Op
 results:List Rp
 Ac:List Ow
deriving DecidableEq
structure PB where
 move:Int
 n:Int
 lo:ByteArray
 hi:ByteArray
 peer:Int
 B9:Bool
 under:Bool
 all:Bool
 whr:ByteArray
 load:List Op
 row:List Op
structure PS where
 c:Sc
 Ac:List Ow
 held:List PH
 fin:List Int
 wait:List PW
 BS:TS
 out:List PM
 writes:List Op
 line:List Ev
 box:Option PB
 M:List Pa
def Wt.p (x:Wt):PW:=⟨x.Ah,x.ops,x.BB,x.next⟩
def Hd.p (x:Hd):PH:=⟨x.Ah,x.ops⟩
def Mg.p (x:Mg):PM:=⟨x.kind,x.src,x.dst,x.Ch,x.code,x.peer,x.VT,x.Au,x.Ah,x.low,x.CZ,x.Ao,x.move,x.attempt,x.n,x.flag,x.FN,x.G6,x.ops,x.results.map Rs.p,x.Ac⟩
def Bx.p (b:Bx):PB:=⟨b.move,b.n,b.lo,b.hi,b.peer,b.B9,b.under,b.all,b.whr,b.load,b.row⟩
def Mc.p (X:Mc):PS:=⟨X.c,X.d.Ac,X.d.held.map Hd.p,X.d.fin,X.d.wait.map Wt.p,X.d.BS,X.d.out.map Mg.p,X.d.writes,X.d.line,X.d.bx.map fun _=>X.d.box.p,X.d.M⟩
def PM.zero:PM:=⟨0,0,0,0,0,0,0,0,0,0,0,0,0,0,0,false,BA [],BA [],[],[],[]⟩
namespace PS
def send (P:PS) (x:PM):PS:={ P with out:=P.out ++ [{ x with src:=P.c.id }] }
def Df (P:PS) (Ah code:Int) (rs:List Rp):PS:=P.send { PM.zero with kind:=4,Ah:=Ah,code:=code,results:=rs }
def told (P:PS) (g d:List Int):PS:={ P with line:=P.line ++ Gc true d ++ Gc false g }
def release (P:PS) (n:Int):PS:=({ P with BS:=(ES n P.BS).2 }).told (ES n P.BS).1.1 (ES n P.BS).1.2
def results (P:PS) (ops:List Op):List Rp:=(Bd (Bd P.M P.writes).1 ops).2
def Ce (P:PS) (t:Int):Nat:=Ba (fun x:PW=>BC x.Ah t) P.wait
def DY (P:PS) (t:Int):Nat:=Ba (fun x:PH=>BC x.Ah t) P.held
def Pb (P:PS) (t:Int):Bool:=Ee (fun x:PW=>BC x.Ah t) P.wait
def TJ (P:PS) (t:Int):Bool:=Ee (fun x:PH=>BC x.Ah t) P.held
def Ay (P:PS) (i:Nat):PS:={ P with wait:=P.wait.take i ++ P.wait.drop (i + 1) }
def hold (P:PS) (t:Int) (ops:List Op):PS:={ P with held:=P.held.take (P.DY t) ++ ⟨t,ops⟩ :: P.held.drop (P.DY t) }
def Cq (P:PS) (i:Nat) (x:PW) (lk:Lk):PS:=({ P with BS:=(Bc ⟨x.Ah,lk.lo,lk.hi,lk.wr⟩ P.BS).2,wait:=P.wait.set i { x with next:=x.next + 1 } }).told (Bc ⟨x.Ah,lk.lo,lk.hi,lk.wr⟩ P.BS).1.2.1 (Bc ⟨x.Ah,lk.lo,lk.hi,lk.wr⟩ P.BS).1.2.2.1
def Cw:Nat→PS→Int→PS
 | 0,P,_=>P
 | f + 1,P,t=>
  if !P.Pb t then P
  else match P.wait[P.Ce t]? with
   | none=>P
   | some x=>
    if x.next=x.BB.length then (((P.Ay (P.Ce t)).hold t x.ops).Df t 3 (((P.Ay (P.Ce t)).hold t x.ops).results x.ops))
    else match x.BB[x.next.toNat]? with
     | none=>P
     | some lk=>
      if (Bc ⟨x.Ah,lk.lo,lk.hi,lk.wr⟩ P.BS).1.1=2 then P.Cq (P.Ce t) x lk
      else if (Bc ⟨x.Ah,lk.lo,lk.hi,lk.wr⟩ P.BS).1.1=3 then (((P.Cq (P.Ce t) x lk).Ay (P.Ce t)).Df t 5 []).release t
      else Cw f (P.Cq (P.Ce t) x lk) t
def KL (x:PW):Nat:=x.BB.length - x.next.toNat
def left (P:PS):Nat:=2 * (P.wait.map KL).sum + P.BS.wait.length + P.line.length + P.wait.length
def event (P:PS) (ev:Ev):PS:=if !ev.dead then P.Cw 30 ev.Ah else if P.Pb ev.Ah then (P.Ay (P.Ce ev.Ah)).Df ev.Ah 5 [] else P
def through:Nat→PS→PS
 | 0,P=>P
 | f + 1,P=>match P.line with
  | []=>P
  | ev :: l=>through f (({ P with line:=l }:PS).event ev)
end PS
structure Bj (P:PS):Prop where
 wt:P.wait.Pairwise (fun a b=>a.Ah < b.Ah)
 hd:P.held.Pairwise (fun a b=>a.Ah < b.Ah)
 dj:∀ x∈P.wait,∀ y∈P.held,x.Ah ≠ y.Ah
 fn:P.fin.Pairwise (· < ·)
 tb:IP P.BS
 wv:∀ x∈P.wait,A9 x.ops=0∧x.ops.length≤24∧x.BB=x.ops.map AI∧0≤x.next∧x.next≤x.BB.length
 hv:∀ x∈P.held,A9 x.ops=0∧x.ops.length≤24
 mp:AU P.M
 mn:P.M.length≤200000
 wr:A9 P.writes=0
 wn:P.writes.length≤1000
 er:P.c.e=0
 bd:P.out.length + P.left≤20000
 hn:P.held.length + P.wait.length≤1000
 fl:P.fin.length≤100000
theorem Ahp {α:Type} {f:α→Int} {l:List α} (hs:l.Pairwise (fun a b=>f a < f b)) {t:Int} (h:Ee (fun x=>BC (f x) t) l=true):∃ x,l[Ba (fun x=>BC (f x) t) l]?=some x∧f x=t:=by
 unfold Ee at h;split at h
 ·rename_i x hx;rw [Xk,decide_eq_true_iff] at h;exact ⟨x,hx,h⟩
 ·cases h
theorem Abr {α:Type} {f:α→Int} {l:List α} (hs:l.Pairwise (fun a b=>f a < f b)) {t:Int} (h:Ee (fun x=>BC (f x) t) l=false):∀ x∈l,f x ≠ t:=by
 intro x hx e;obtain ⟨h1,h2⟩:=Po hs t;obtain ⟨j,hj⟩:=List.getElem?_of_mem hx;have hjl:=(List.getElem?_eq_some_iff.1 hj).1;have hle:Ba (fun x=>BC (f x) t) l≤j:=by
  rcases Nat.lt_or_ge j (Ba (fun x=>BC (f x) t) l) with h' | h'
  ·have:=h1 x (List.mem_of_getElem? (by rw [List.getElem?_take,if_pos h',hj]));omega
  ·exact h'
 obtain ⟨y,hy⟩:∃ y,l[Ba (fun x=>BC (f x) t) l]?=some y:=⟨_,List.getElem?_eq_getElem (by omega)⟩;have hy2:=h2 y (List.mem_of_getElem? (i:=0) (by rw [List.getElem?_drop];exact hy));unfold Ee at h;rw [hy] at h;dsimp only at h;rw [Xk,decide_eq_false_iff_not] at h;rcases Nat.lt_or_ge (Ba (fun x=>BC (f x) t) l) j with h' | h'
 ·have h3:=List.pairwise_iff_getElem.1 hs _ _ (by omega) hjl h';rw [(List.getElem?_eq_some_iff.1 hy).2,(List.getElem?_eq_some_iff.1 hj).2] at h3;omega
 ·have:j=Ba (fun x=>BC (f x) t) l:=by omega
  rw [← this,hj] at hy;injection hy with hy;rw [hy] at e;exact h e
theorem Aas {α:Type} {f:α→Int} {l:List α} (hs:l.Pairwise (fun a b=>f a < f b)) {x:α} (hn:∀ y∈l,f y ≠ f x):(l.take (Ba (fun y=>BC (f y) (f x)) l) ++ x :: l.drop (Ba (fun y=>BC (f y) (f x)) l)).Pairwise (fun a b=>f a < f b):=by
 obtain ⟨h1,h2⟩:=Po hs (f x);rw [List.pairwise_append];refine ⟨hs.sublist (List.take_sublist _ _),List.pairwise_cons.2 ⟨fun y hy=>?_,hs.sublist (List.drop_sublist _ _)⟩,fun a ha b hb=>?_⟩
 ·have:=h2 y hy;have:=hn y (List.mem_of_mem_drop hy);omega
 ·have:=h1 a ha;rcases List.mem_cons.1 hb with rfl | hb
  ·exact this
  ·have:=h2 b hb;omega
theorem Bp {α:Type} (l:List α) (i:Nat):List.Sublist (l.take i ++ l.drop (i + 1)) l:=by
 rw [← List.eraseIdx_eq_take_drop_succ];exact List.eraseIdx_sublist l i
theorem W7 (l:List PW) (i:Nat) (x:PW) (hx:l[i]?=some x):(l.map PS.KL).sum=((l.take i ++ l.drop (i + 1)).map PS.KL).sum + PS.KL x:=by
 have hlt:=(List.getElem?_eq_some_iff.1 hx).1
 conv=>lhs;rw [← List.take_append_drop i l,List.drop_eq_getElem_cons hlt,(List.getElem?_eq_some_iff.1 hx).2]
 simp only [List.map_append,List.sum_append,List.map_cons,List.sum_cons];omega
theorem Age (l:List PW) (i:Nat) (x y:PW) (hx:l[i]?=some x):((l.set i y).map PS.KL).sum + PS.KL x=(l.map PS.KL).sum + PS.KL y:=by
 have hlt:=(List.getElem?_eq_some_iff.1 hx).1;rw [W7 l i x hx,List.set_eq_take_append_cons_drop,if_pos hlt];simp only [List.map_append,List.sum_append,List.map_cons,List.sum_cons];omega
theorem Jw {α:Type} (l:List α) (i:Nat) (hi:i < l.length):(l.take i ++ l.drop (i + 1)).length + 1=l.length:=by
 rw [List.length_append,List.length_take,List.length_drop];omega
theorem To (b:Bool) (l:List Int):(Gc b l).length=l.length:=by simp [Gc]
theorem Bj.Ay {P:PS} (h:Bj P) {i:Nat} {x:PW} (hx:P.wait[i]?=some x):Bj (P.Ay i)∧(P.Ay i).out.length + (P.Ay i).left + 1≤P.out.length + P.left:=by
 have hi:=(List.getElem?_eq_some_iff.1 hx).1;have hs:=Bp P.wait i;have h1:=W7 P.wait i x hx;have h2:=Jw P.wait i hi;have hb:(P.Ay i).out.length + (P.Ay i).left + 1≤P.out.length + P.left:=by
  unfold PS.Ay PS.left;dsimp only;omega
 refine ⟨⟨h.wt.sublist hs,h.hd,fun y hy=>h.dj y (hs.subset hy),h.fn,h.tb,fun y hy=>h.wv y (hs.subset hy),h.hv,h.mp,h.mn,h.wr,h.wn,h.er,?_,?_,h.fl⟩,hb⟩
 ·have:=h.bd;omega
 ·show P.held.length + (P.wait.take i ++ P.wait.drop (i + 1)).length≤1000;have:=h.hn;omega
theorem Bj.Df {P:PS} (h:Bj P) (t code:Int) (rs:List Rp) (hb:P.out.length + 1 + P.left≤20000):Bj (P.Df t code rs):=
 ⟨h.wt,h.hd,h.dj,h.fn,h.tb,h.wv,h.hv,h.mp,h.mn,h.wr,h.wn,h.er,by
  show (P.out ++ [_]).length + P.left≤20000;rw [List.length_append,List.length_singleton];exact hb,h.hn,h.fl⟩
theorem Bj.release {P:PS} (h:Bj P) (t:Int):Bj (P.release t)∧(P.release t).out.length + (P.release t).left≤P.out.length + P.left:=by
 have h1:=Zi t P.BS;have hb:(P.release t).out.length + (P.release t).left≤P.out.length + P.left:=by
  unfold PS.release PS.told PS.left;dsimp only;rw [List.length_append,List.length_append,To,To];omega
 exact ⟨⟨h.wt,h.hd,h.dj,h.fn,AfO h.tb,h.wv,h.hv,h.mp,h.mn,h.wr,h.wn,h.er,Nat.le_trans hb h.bd,h.hn,h.fl⟩,hb⟩
theorem Bj.hold {P:PS} (h:Bj P) {t:Int} {ops:List Op} (ho:A9 ops=0) (hl:ops.length≤24) (hw:∀ x∈P.wait,x.Ah ≠ t) (hn:∀ x∈P.held,x.Ah ≠ t) (hc:P.held.length + P.wait.length < 1000):Bj (P.hold t ops):=by
 have hmem:∀ y,y∈P.held.take (P.DY t) ++ ⟨t,ops⟩ :: P.held.drop (P.DY t)→y=⟨t,ops⟩∨y∈P.held:=by
  intro y hy;rcases List.mem_append.1 hy with hy | hy
  ·exact .inr (List.mem_of_mem_take hy)
  ·rcases List.mem_cons.1 hy with hy | hy
   ·exact .inl hy
   ·exact .inr (List.mem_of_mem_drop hy)
 refine ⟨h.wt,Aas (f:=PH.Ah) (x:=⟨t,ops⟩) h.hd hn,fun x hx y hy=>?_,h.fn,h.tb,h.wv,fun y hy=>?_,h.mp,h.mn,h.wr,h.wn,h.er,h.bd,?_,h.fl⟩
 ·rcases hmem y hy with rfl | hy
  ·exact hw x hx
  ·exact h.dj x hx y hy
 ·rcases hmem y hy with rfl | hy
  ·exact ⟨ho,hl⟩
  ·exact h.hv y hy
 ·show (P.held.take (P.DY t) ++ ⟨t,ops⟩ :: P.held.drop (P.DY t)).length + P.wait.length≤1000;rw [List.length_append,List.length_cons,List.length_take,List.length_drop];have:P.DY t≤P.held.length:=Dv _ _;omega
theorem Bj.Cq {P:PS} (h:Bj P) {i:Nat} {x:PW} {lk:Lk} (hx:P.wait[i]?=some x) (hlk:x.BB[x.next.toNat]?=some lk):Bj (P.Cq i x lk)∧(P.Cq i x lk).out.length + (P.Cq i x lk).left + 1≤P.out.length + P.left:=by
 have hxm:=List.mem_of_getElem? hx;have hi:=(List.getElem?_eq_some_iff.1 hx).1;obtain ⟨v1,v2,v3,v4,v5⟩:=h.wv x hxm;have hlt:=(List.getElem?_eq_some_iff.1 hlk).1;have h1:=YA ⟨x.Ah,lk.lo,lk.hi,lk.wr⟩ P.BS;have h2:=Age P.wait i x { x with next:=x.next + 1 } hx;have hr:PS.KL { x with next:=x.next + 1 } + 1=PS.KL x:=by unfold PS.KL;dsimp only;omega
 have hb:(P.Cq i x lk).out.length + (P.Cq i x lk).left + 1≤P.out.length + P.left:=by
  unfold PS.Cq PS.told PS.left;dsimp only;rw [List.length_append,List.length_append,To,To,List.length_set];omega
 have hmem:∀ y∈P.wait.set i { x with next:=x.next + 1 },y={ x with next:=x.next + 1 }∨y∈P.wait:=by
  intro y hy;rcases List.mem_or_eq_of_mem_set hy with hy | hy
  ·exact .inr hy
  ·exact .inl hy
 refine ⟨⟨?_,h.hd,fun y hy=>?_,h.fn,Ab9 h.tb,fun y hy=>?_,h.hv,h.mp,h.mn,h.wr,h.wn,h.er,by have:=h.bd;omega,by show P.held.length + (P.wait.set i _).length≤1000;rw [List.length_set];exact h.hn,h.fl⟩,hb⟩
 ·show (P.wait.set i _).Pairwise _;have e:(P.wait.set i { x with next:=x.next + 1 }).map PW.Ah=P.wait.map PW.Ah:=by
   rw [List.map_set];apply List.ext_getElem?;intro j;by_cases hj:i=j
   ·subst hj;rw [List.getElem?_set_self (by simpa using hi),List.getElem?_map,hx];rfl
   ·rw [List.getElem?_set_ne hj]
  have hp:=List.pairwise_map.2 h.wt;rw [← e] at hp;exact List.pairwise_map.1 hp
 ·rcases hmem y hy with rfl | hy
  ·exact h.dj x hxm
  ·exact h.dj y hy
 ·rcases hmem y hy with rfl | hy
  ·exact ⟨v1,v2,v3,by dsimp only;omega,by dsimp only;omega⟩
  ·exact h.wv y hy
theorem D9 {P:PS} (h:Bj P) {t:Int} (hw:P.Pb t=true):∃ x,P.wait[P.Ce t]?=some x∧x.Ah=t:=Ahp (f:=PW.Ah) h.wt hw
theorem KY {P:PS} (h:Bj P) {t:Int} (hw:P.Pb t=false):∀ x∈P.wait,x.Ah ≠ t:=Abr (f:=PW.Ah) h.wt hw
theorem MN {P:PS} (h:Bj P) {t:Int} (hw:P.TJ t=true):∃ x,P.held[P.DY t]?=some x∧x.Ah=t:=Ahp (f:=PH.Ah) h.hd hw
theorem Nd {P:PS} (h:Bj P) {t:Int} (hw:P.TJ t=false):∀ x∈P.held,x.Ah ≠ t:=Abr (f:=PH.Ah) h.hd hw
theorem Fv {P:PS} (h:Bj P) {i:Nat} {x:PW} (hx:P.wait[i]?=some x):∀ y∈(P.Ay i).wait,y.Ah ≠ x.Ah:=by
 intro y hy e;have hi:=(List.getElem?_eq_some_iff.1 hx).1;rcases List.mem_append.1 hy with hy | hy
 ·obtain ⟨j,hj,rfl⟩:=List.mem_take_iff_getElem.1 hy;have:=List.pairwise_iff_getElem.1 h.wt j i (by omega) hi (by omega);rw [(List.getElem?_eq_some_iff.1 hx).2] at this;omega
 ·obtain ⟨j,hj⟩:=List.getElem?_of_mem hy;rw [List.getElem?_drop] at hj;obtain ⟨h1,h2⟩:=List.getElem?_eq_some_iff.1 hj;have:=List.pairwise_iff_getElem.1 h.wt i (i + 1 + j) hi h1 (by omega);rw [(List.getElem?_eq_some_iff.1 hx).2,h2] at this;omega
theorem Vz {P:PS} {i:Nat} (hi:i < P.wait.length):(P.Ay i).wait.length + 1=P.wait.length:=Jw _ _ hi
theorem Bj.Cw:∀ (f:Nat) {P:PS} {t:Int},Bj P→Bj (P.Cw f t)∧(P.Cw f t).out.length + (P.Cw f t).left≤P.out.length + P.left
 | 0,P,t,h=>⟨h,Nat.le_refl _⟩
 | f + 1,P,t,h=>by
  unfold PS.Cw;cases hw:P.Pb t with
  | false=>exact ⟨h,Nat.le_refl _⟩
  | true=>
   obtain ⟨x,hx,hxt⟩:=D9 h hw;rw [hx];simp only [Bool.not_true,Bool.false_eq_true,if_false];obtain ⟨v1,v2,v3,v4,v5⟩:=h.wv x (List.mem_of_getElem? hx);have hi:=(List.getElem?_eq_some_iff.1 hx).1;obtain ⟨u1,u2⟩:=h.Ay hx;split
   ·have hu:=Vz hi;have hb:=h.bd;have hn:=h.hn;have hh:Bj ((P.Ay (P.Ce t)).hold t x.ops):=u1.hold v1 v2 (fun y hy=>hxt ▸ Fv h hx y hy) (fun y hy e=>h.dj x (List.mem_of_getElem? hx) y hy (hxt.trans e.symm)) (by show P.held.length + _ < _;omega);have e1:((P.Ay (P.Ce t)).hold t x.ops).left=(P.Ay (P.Ce t)).left:=rfl;have e2:((P.Ay (P.Ce t)).hold t x.ops).out=(P.Ay (P.Ce t)).out:=rfl;refine ⟨hh.Df _ _ _ (by rw [e1,e2];omega),?_⟩;show (((P.Ay (P.Ce t)).hold t x.ops).out ++ [_]).length + ((P.Ay (P.Ce t)).hold t x.ops).left≤_;rw [List.length_append,List.length_singleton,e1,e2];omega
   ·rename_i hne;obtain ⟨lk,hlk⟩:∃ lk,x.BB[x.next.toNat]?=some lk:=⟨_,List.getElem?_eq_getElem (by omega)⟩;rw [hlk];dsimp only;obtain ⟨a1,a2⟩:=h.Cq hx hlk;split
    ·exact ⟨a1,by omega⟩
    split
    ·have hx2:(P.Cq (P.Ce t) x lk).wait[P.Ce t]?=some { x with next:=x.next + 1 }:=List.getElem?_set_self hi;obtain ⟨b1,b2⟩:=a1.Ay hx2;have hb:=h.bd;obtain ⟨c1,c2⟩:=Bj.release (P:=((P.Cq (P.Ce t) x lk).Ay (P.Ce t)).Df t 5 []) (b1.Df _ _ _ (by omega)) t;have e3:(((P.Cq (P.Ce t) x lk).Ay (P.Ce t)).Df t 5 []).out.length + (((P.Cq (P.Ce t) x lk).Ay (P.Ce t)).Df t 5 []).left=((P.Cq (P.Ce t) x lk).Ay (P.Ce t)).out.length + 1 + ((P.Cq (P.Ce t) x lk).Ay (P.Ce t)).left:=by
      show (((P.Cq (P.Ce t) x lk).Ay (P.Ce t)).out ++ [_]).length + ((P.Cq (P.Ce t) x lk).Ay (P.Ce t)).left=_;rw [List.length_append,List.length_singleton]
     exact ⟨c1,by omega⟩
    ·obtain ⟨c1,c2⟩:=Bj.Cw f (t:=t) a1;exact ⟨c1,by omega⟩
theorem Bj.pop {P:PS} (h:Bj P) {ev:Ev} {l:List Ev} (hl:P.line=ev :: l):Bj { P with line:=l }∧({ P with line:=l }:PS).out.length + ({ P with line:=l }:PS).left + 1≤P.out.length + P.left:=by
 have hb:({ P with line:=l }:PS).out.length + ({ P with line:=l }:PS).left + 1≤P.out.length + P.left:=by
  unfold PS.left;rw [hl,List.length_cons];dsimp only;omega
 exact ⟨⟨h.wt,h.hd,h.dj,h.fn,h.tb,h.wv,h.hv,h.mp,h.mn,h.wr,h.wn,h.er,by have:=h.bd;omega,h.hn,h.fl⟩,hb⟩
theorem CQ {f:Nat} {P:PS} {ev:Ev} {l:List Ev} (hl:P.line=ev :: l):P.through (f + 1)=(({ P with line:=l }:PS).event ev).through f:=by
 conv=>lhs;unfold PS.through
 rw [hl]
theorem Bj.event {P:PS} (h:Bj P) (ev:Ev):Bj (P.event ev)∧(P.event ev).out.length + (P.event ev).left≤P.out.length + P.left:=by
 unfold PS.event;split
 ·exact h.Cw 30
 ·split
  ·rename_i hw;obtain ⟨x,hx,_⟩:=D9 h hw;obtain ⟨b1,b2⟩:=h.Ay hx;have hb:=h.bd;refine ⟨b1.Df _ _ _ (by omega),?_⟩;show ((P.Ay _).out ++ [_]).length + (P.Ay _).left≤_;rw [List.length_append,List.length_singleton];omega
  ·exact ⟨h,Nat.le_refl _⟩
theorem Bj.through:∀ (f:Nat) {P:PS},Bj P→Bj (P.through f)∧(P.through f).out.length + (P.through f).left≤P.out.length + P.left
 | 0,P,h=>⟨h,Nat.le_refl _⟩
 | f + 1,P,h=>by
  cases hl:P.line with
  | nil=>
   unfold PS.through;rw [hl];exact ⟨h,Nat.le_refl _⟩
  | cons ev l=>
   rw [CQ hl];obtain ⟨h1,b1⟩:=h.pop hl;obtain ⟨h2,b2⟩:=h1.event ev;obtain ⟨h3,b3⟩:=Bj.through f h2;exact ⟨h3,by omega⟩
theorem Mr:∀ (f:Nat) {P:PS},Bj P→P.out.length + P.left < f→(P.through f).line=[]
 | 0,P,h,hf=>by omega
 | f + 1,P,h,hf=>by
  cases hl:P.line with
  | nil=>
   unfold PS.through;rw [hl];exact hl
  | cons ev l=>
   rw [CQ hl];obtain ⟨h1,b1⟩:=h.pop hl;obtain ⟨h2,b2⟩:=h1.event ev;exact Mr f h2 (by omega)
open Go Go.Sx
theorem Ut {α β:Type} (f:α→β) (c:β→Int) (l:List α):Ba c (l.map f)=Ba (fun x=>c (f x)) l:=by
 induction l with
 | nil=>rfl
 | cons a l ih=>
  unfold Ba at *;simp only [List.map_cons,List.takeWhile_cons];split <;> simp_all
theorem Y0 {α β:Type} (f:α→β) (c:β→Int) (l:List α):Ee c (l.map f)=Ee (fun x=>c (f x)) l:=by
 unfold Ee;rw [Ut,List.getElem?_map];cases l[Ba (fun x=>c (f x)) l]? <;> rfl
theorem U7 (X:Mc) (t:Int):X.p.Ce t=Ba (fun x:Wt=>BC x.Ah t) X.d.wait:=Ut Wt.p (fun x:PW=>BC x.Ah t) X.d.wait
theorem XB (X:Mc) (t:Int):X.p.Pb t=Ee (fun x:Wt=>BC x.Ah t) X.d.wait:=Y0 Wt.p (fun x:PW=>BC x.Ah t) X.d.wait
theorem XT (X:Mc) (t:Int):X.p.DY t=Ba (fun x:Hd=>BC x.Ah t) X.d.held:=Ut Hd.p (fun x:PH=>BC x.Ah t) X.d.held
theorem Af1 (X:Mc) (t:Int):X.p.TJ t=Ee (fun x:Hd=>BC x.Ah t) X.d.held:=Y0 Hd.p (fun x:PH=>BC x.Ah t) X.d.held
theorem Bj.wtX {X:Mc} (h:Bj X.p):X.d.wait.Pairwise (fun a b=>a.Ah < b.Ah):=(List.pairwise_map (f:=Wt.p)).1 h.wt
theorem Bj.hdX {X:Mc} (h:Bj X.p):X.d.held.Pairwise (fun a b=>a.Ah < b.Ah):=(List.pairwise_map (f:=Hd.p)).1 h.hd
theorem Bj.Aem {X:Mc} (h:Bj X.p):X.d.held.length + X.d.wait.length≤1000:=by
 have:=h.hn;simpa [Mc.p] using this
theorem Bj.Afy {X:Mc} (h:Bj X.p):X.d.out.length≤20000:=by
 have:=h.bd;simp only [Mc.p,List.length_map] at this;omega
theorem Bj.Ad1 {X:Mc} (h:Bj X.p):X.d.line.length≤20000:=by
 have:=h.bd;simp only [Mc.p,PS.left,List.length_map] at this;omega
theorem Aa5 {α:Type} {l:List α} {i:Nat} {y z:α} (h:y∈l.set i z):y=z∨∃ j,j ≠ i∧l[j]?=some y:=by
 obtain ⟨j,hj⟩:=List.getElem?_of_mem h;by_cases hji:i=j
 ·subst hji;have hl:=(List.getElem?_eq_some_iff.1 hj).1;rw [List.length_set] at hl;rw [List.getElem?_set_self hl] at hj;injection hj with hj;exact .inl hj.symm
 ·rw [List.getElem?_set_ne hji] at hj;exact .inr ⟨j,Ne.symm hji,hj⟩
theorem AjP {l:List PW} (hs:l.Pairwise (fun a b=>a.Ah < b.Ah)) {i j:Nat} {x y:PW} (hx:l[i]?=some x) (hy:l[j]?=some y) (h:i ≠ j):x.Ah ≠ y.Ah:=by
 obtain ⟨h1,e1⟩:=List.getElem?_eq_some_iff.1 hx;obtain ⟨h2,e2⟩:=List.getElem?_eq_some_iff.1 hy;rcases Nat.lt_or_gt_of_ne h with h' | h'
 ·have:=List.pairwise_iff_getElem.1 hs i j h1 h2 h';rw [e1,e2] at this;omega
 ·have:=List.pairwise_iff_getElem.1 hs j i h2 h1 h';rw [e1,e2] at this;omega
structure Fix (X X':Mc):Prop where
 BD:X'.d.BD=X.d.BD
 sM:X'.d.sM=X.d.sM
 bx:X'.d.bx=X.d.bx
 box:X'.d.box=X.d.box
theorem Fix.refl (X:Mc):Fix X X:=⟨rfl,rfl,rfl,rfl⟩
theorem Fix.trans {X Y Z:Mc} (h:Fix X Y) (k:Fix Y Z):Fix X Z:=⟨k.BD.trans h.BD,k.sM.trans h.sM,k.bx.trans h.bx,k.box.trans h.box⟩
theorem A6.Alu {w w':World} {m:Nat} {T:Nat→Nat} {X:Mc} (h:A6 w m T X) {l:List Wt} (hk:Aa (Ai X.d.sw) w w') (hr:Bh NF w' X.d.sw l) (hD:∀ x∈l,Bq (AX 4 X.d.sw T) (WtD x) w') :
  A6 w' m (AX 4 X.d.sw T) { X with d:={ X.d with wait:=l } }∧Aq T (AX 4 X.d.sw T) w w':=by
 have s:CH 4 T (AX 4 X.d.sw T) w w':=CH.row hk (fun b hb=>(h.r.wa.tag b hb).2) (fun b hb=>.inl hb);refine ⟨⟨hk.at h.hd (fun hm=>by have:=(h.r.wa.tag m hm).2;have:=h.t1;omega),MP h.lt h.t1 (by decide) (fun b hb=>(h.r.wa.tag b hb).2) (fun b hb=>.inl hb),?_⟩,s.Bm (by decide)⟩;exact h.r.uWa hk hr (fun b hb=>.inl hb) hD
theorem Pp {w:World} {m:Nat} {T:Nat→Nat} {X:Mc} (h:A6 w m T X) (hN:X.d.wait.length≤100000) {i:Nat} (hi:i < X.d.wait.length) {y:Int} (hy:y=i) {J:Pr}
  (k:∀ r T' w',A6 w' m T' { X with d:={ X.d with sw:=r,wait:=X.d.wait.take i ++ X.d.wait.drop (i + 1) } }→Aq T T' w w'→J w') :
  (Cl Pg 128 [.slice X.d.sw.p X.d.sw.len X.d.sw.cap,.int .i64 y,.int .i64 (An (y + 1))] false [.sc .sl] fun r=>St ⟨m,17,none⟩ (.slice r.1.p r.1.len r.1.cap) J) w:=by
 subst hy;refine VV h.r.wa.ok (Nat.le_succ i) hi (by omega) rfl (AK (by omega)) ?_;intro r w1 h1 f1 k1;have s:CH 4 T (AX 4 r T) w w1:=CH.row k1 (fun b hb=>(h.r.wa.tag b hb).2) (fun b hb=>.inl (f1 b hb));refine h.uWa k1 h1 (fun b hb=>.inl (f1 b hb)) (fun x hx=>(h.r.Ss x ((Bp _ _).subset hx)).kt (by decide) s) fun w2 h2 e2=>?_;exact k r _ w2 h2 e2
theorem Aai {s:Sl} {b o:Nat} (hp:s.p=some ⟨b,o,none⟩) {i:Nat} (h:i < s.len) (size:Nat) {K:Addr→Pr} {w:World} (k:K ⟨b,o + i * size,none⟩ w):Ix s (i:Int) size K w:=by
 rw [G5 hp (by omega) (by omega),Int.toNat_natCast];exact k
theorem Ad0 {w:World} {m:Nat} {T:Nat→Nat} {X:Mc} (h:A6 w m T X) (hp:Bj X.p) (t:Int) {K:TR []→Pr}
  (k:∀ X' T' w',A6 w' m T' X'→X'.p=X.p.Cw 30 t→Fix X X'→Aq T T' w w'→K () w'):Cl Pg 123 [.pointer (some ⟨m,0,none⟩),.int .u64 t] true [] K w:=by
 refine Lw _ _ ?_;unfold Iy;dsimp only [SG,Li,Ll,Hr,UC,Ts,Vi,Vp,Vs,Vu];refine ⟨fun n st w'=>∃ X1 T1,A6 w' m T1 X1∧Bj X1.p∧X1.p.Cw n t=X.p.Cw 30 t∧(∀ x∈X1.p.wait,x.Ah=t→PS.KL x < n)∧Fix X X1∧Aq T T1 w w',⟨30,X,T,h,hp,rfl,fun x hx _=>?_,Fix.refl _,Aq.refl _ _⟩,?_⟩
 ·obtain ⟨_,v2,v3,_,_⟩:=hp.wv x hx;unfold PS.KL;rw [v3,List.length_map];omega
 rintro n _ w1 ⟨X1,T1,h1,p1,PY,hn,x1,e1⟩;simp only [sb,h1.hd,Bs,p1.er];have er:X1.c.e=0:=p1.er;rw [er];simp only [show ((0:Int) == 0)=true from rfl,sb];have lx:=p1.Aem;refine Nj h1 p1.wtX (by omega) t fun w2 k2=>?_;have g2:=h1.Ab k2;have e2:=e1.trans (Aq.k0 k2);rw [← U7,← XB];dsimp only;cases hw:X1.p.Pb t with
 | false=>
  refine k X1 T1 w2 g2 ?_ x1 e2;rw [← PY];cases n with
  | zero=>rfl
  | succ n=>unfold PS.Cw;rw [hw];rfl
 | true=>
 obtain ⟨xp,hxp,hxt⟩:=D9 p1 hw;generalize hi:X1.p.Ce t=i at *;have hxp':(X1.d.wait.map Wt.p)[i]?=some xp:=hxp;rw [List.getElem?_map,Option.map_eq_some_iff] at hxp';obtain ⟨x,hx,rfl⟩:=hxp';have hlt:=(List.getElem?_eq_some_iff.1 hx).1;have hxm:=List.mem_of_getElem? hx;obtain ⟨v1,v2,v3,v4,v5⟩:=p1.wv x.p (List.mem_map.2 ⟨x,hxm,rfl⟩);have hnx:=hn x.p (List.mem_map.2 ⟨x,hxm,rfl⟩) hxt;obtain ⟨f,rfl⟩:∃ f,n=f + 1:=⟨n - 1,by omega⟩;have hxt:x.Ah=t:=hxt;have v1:A9 x.ops=0:=v1;have v2:x.ops.length≤24:=v2;have v3:x.BB=x.ops.map AI:=v3;have v4:0≤x.next:=v4;have v5:x.next≤x.BB.length:=v5;have hnx:x.BB.length - x.next.toNat < f + 1:=hnx
 have hgo:X1.p.Cw (f + 1) t=if x.next=x.BB.length then (((X1.p.Ay i).hold t x.ops).Df t 3 (((X1.p.Ay i).hold t x.ops).results x.ops))
   else match x.BB[x.next.toNat]? with
    | none=>X1.p
    | some lk=>
     if (Bc ⟨x.Ah,lk.lo,lk.hi,lk.wr⟩ X1.p.BS).1.1=2 then X1.p.Cq i x.p lk
     else if (Bc ⟨x.Ah,lk.lo,lk.hi,lk.wr⟩ X1.p.BS).1.1=3 then (((X1.p.Cq i x.p lk).Ay i).Df t 5 []).release t
     else (X1.p.Cq i x.p lk).Cw f t:=by
  conv=>lhs;unfold PS.Cw
  rw [hw,hi,hxp];rfl
 rw [hgo] at PY;have hwl:=g2.r.wa.ok.BY;obtain ⟨b,o,hpp,hbb⟩:=g2.r.wa.ok.base (by omega);have hd2:=(g2.r.Ss x hxm).ok;have hsk:x.sk.len=x.BB.length:=hd2.2.len;simp only [Bool.not_true,sb,g2.hd,Bs];refine Aai hpp (by omega) 4 ?_;have it:=fun j hj=>AE.item NF.len g2.r.wa.ok hpp hx j hj;simp only [sb,A5];have i1:Bg w2.heap[b]? (o + i * 4 + 1)=some (.slice x.so.p x.so.len x.so.cap):=it 1 (by decide);have i2:Bg w2.heap[b]? (o + i * 4 + 2)=some (.slice x.sk.p x.sk.len x.sk.cap):=it 2 (by decide);have i3:Bg w2.heap[b]? (o + i * 4 + 3)=some (.int .i64 x.next):=it 3 (by decide);rw [i3];simp only [sb];rw [i2];simp only [sb];rw [hsk];by_cases hend:x.next=x.BB.length
 ·rw [if_pos hend] at PY;rw [show (x.next == ((x.BB.length:Nat):Int))=true from by simpa using hend];simp only [sb];rw [i1];have g2d:=g2.Ab (Am w2);simp only [sb,g2.hd,Bs];refine Pp g2d (by omega) hlt rfl ?_;intro r3 T3 w3 h3 e3;obtain ⟨X3,hX3⟩:∃ X3:Mc,X3={ X1 with d:={ X1.d with sw:=r3,wait:=X1.d.wait.take i ++ X1.d.wait.drop (i + 1) } }:=⟨_,rfl⟩;rw [← hX3] at h3;have q3:X3.p=X1.p.Ay i:=by rw [hX3];unfold Mc.p PS.Ay;dsimp only;rw [List.map_append,List.map_take,List.map_drop]
  obtain ⟨p3,b3⟩:=p1.Ay hxp;have hu3:=Fv p1 hxp;rw [← q3] at p3 hu3 b3;have l3:=p3.Aem;refine Aa6 h3 p3.hdX (by omega) t fun w4 k4=>?_;rw [← XT];have g4:=h3.Ab k4;simp only [sb,g4.hd,Bs,A5,Nat.reduceAdd];refine Ad fun c w5 h5 n5 k5=>?_;have g5:=g4.Ab k5;have hcn:c ∉ Ai X3.d.sh:=fun hc=>by have:=(g4.r.he.tag c hc).1;omega
  have hle:X3.p.DY t≤X3.d.held.length:=by rw [XT];exact Dv _ _
  refine VX (x:=⟨t,x.so,x.ops⟩) g5.r.he.ok h5 hcn hle (by omega) ?_;intro r6 w6 h6 f6 k6;have s6:CH 2 T3 (AX 2 r6 T3) w5 w6:=CH.row k6 (fun b hb=>(g5.r.he.tag b hb).2) f6;have e5:Aq T1 T3 w2 w5:=((Aq.k0 (Am w2)).trans e3).trans (Aq.k0 (Aj k4 k5));have io5:Bq T3 (fun w=>A1 BQ w x.so x.ops) w5:=((g2.r.Ss x hxm).map fun _ h=>h.1).Bm e5;simp only [sb,A5,Nat.reduceAdd];refine g5.uHe k6 h6 f6 (fun y hy=>?_) fun w7 h7 e7=>?_
  ·rcases List.mem_append.1 hy with hy | hy
   ·exact (g5.r.Ro y (List.mem_of_mem_take hy)).kt (by decide) s6
   ·rcases List.mem_cons.1 hy with rfl | hy
    ·exact io5.kt (by decide) s6
    ·exact (g5.r.Ro y (List.mem_of_mem_drop hy)).kt (by decide) s6
  obtain ⟨X7,hX7⟩:∃ X7:Mc,X7={ X3 with d:={ X3.d with sh:=r6,held:=X3.d.held.take (X3.p.DY t) ++ ⟨t,x.so,x.ops⟩ :: X3.d.held.drop (X3.p.DY t) } }:=⟨_,rfl⟩;rw [← hX7] at h7;have q7:X7.p=X3.p.hold t x.ops:=by
   rw [hX7];unfold PS.hold;show Mc.p _=_;unfold Mc.p;dsimp only;rw [List.map_append,List.map_cons,List.map_take,List.map_drop];rfl
  have hdj:∀ y∈X3.p.held,y.Ah ≠ t:=by
   intro y hy e;have:y∈X1.p.held:=by rw [q3] at hy;exact hy
   exact p1.dj x.p (List.mem_map.2 ⟨x,hxm,rfl⟩) y this (hxt.trans e.symm)
  have hlu:=Vz (P:=X1.p) (i:=i) (by rw [show X1.p.wait=X1.d.wait.map Wt.p from rfl,List.length_map];exact hlt);rw [← q3] at hlu;have hhn:=p1.hn;have p7:Bj X7.p:=by
   rw [q7];refine p3.hold v1 v2 (fun y hy=>hxt ▸ hu3 y hy) hdj ?_;have:X3.p.held=X1.p.held:=by rw [q3];rfl
   rw [this];omega
  have io7:=(io5.Bm e7).ok;have M7:X7.d.M=X7.p.M:=rfl;refine W8 h7 p7.mp (Nat.le_trans p7.mn (by omega)) p7.wr (Nat.le_trans p7.wn (by omega)) io7 v1 (by omega) ?_;intro sr rs w8 k8 ir8 hrs;have g8:=h7.Ab k8;have o7:=p7.Afy;refine V6 g8 t 3 sr rs ir8 (by omega) ?_;intro so' T9 w9 h9 e9;have efin:X3.p.out.length + X3.p.left + 1≤X1.p.out.length + X1.p.left:=b3;refine k _ T9 w9 h9 ?_ ?_ ((((e1.trans (Aq.k0 k2)).trans e5).trans e7).trans ((Aq.k0 k8).trans e9))
  ·rw [← PY,← q3,← q7];show Mc.p _=X7.p.Df t 3 (X7.p.results x.ops);unfold PS.Df PS.send PS.results;rw [show (Bd (Bd X7.p.M X7.p.writes).1 x.ops).2=rs.map Rs.p from hrs.symm];unfold Mc.p;dsimp only;rw [List.map_append];rfl
  ·exact x1.trans (by rw [hX7,hX3];exact ⟨rfl,rfl,rfl,rfl⟩)
 ·rw [if_neg hend] at PY;rw [show (x.next == ((x.BB.length:Nat):Int))=false from by simpa using hend];obtain ⟨lk,hlk⟩:∃ lk,x.BB[x.next.toNat]?=some lk:=⟨_,List.getElem?_eq_getElem (by omega)⟩;rw [hlk] at PY;dsimp only at PY;have kdd:Aa [] w2 w2.drew.drew:=Aj (Am w2) (Am _);have g2d:=g2.Ab kdd;simp only [sb,g2.hd,Bs];rw [i2];simp only [sb];rw [i3];simp only [sb];have hnn:x.next=((x.next.toNat:Nat):Int):=by omega
  have hlkd:A1 YT w2.drew.drew x.sk x.BB:=hd2.2.Ab kdd;rw [hnn];refine SZ hlkd hlk ?_;have ho1:IP X1.d.BS:=p1.tb;rw [← hxt];refine Ahs g2d ho1 ⟨x.Ah,lk.lo,lk.hi,lk.wr⟩ ?_;intro sg sd T3 H3 w3 h3 e3 ig id;have hq3:Bh NF w3 X1.d.sw X1.d.wait:=h3.r.wa.ok;have i3':Bg w3.heap[b]? (o + i * 4 + 3)=some (.int .i64 x.next):=AE.item NF.len hq3 hpp hx 3 (by decide);simp only [sb];rw [i3'];simp only [sb];have hfl:(X1.d.wait.flatMap NF.c).length=X1.d.wait.length * 4:=AP NF.len _;have hmul:(i + 1) * 4≤X1.d.wait.length * 4:=Nat.mul_le_mul_right _ hlt;refine hq3.Abh hpp (i * 4 + 3) (by omega) (by omega) rfl ?_;intro w4 h4 k4;have hll:x.BB.length≤24:=by rw [v3,List.length_map];exact v2
  have hnw:An (x.next + 1)=x.next + 1:=by rw [By (by omega) (by omega)]
  have h4':Bh NF w4 X1.d.sw (X1.d.wait.set i { x with next:=x.next + 1 }):=by
   have:=Nf (size:=4) NF.len X1.d.wait i 3 x { x with next:=x.next + 1 } (.int .i64 (An (x.next + 1))) hx (by decide) (by rw [hnw];rfl);show AE _ _ _ _;rw [← this];exact h4
  have k4':Aa (Ai X1.d.sw) w3 w4:=by rw [hbb];exact k4
  have s4:CH 4 T3 (AX 4 X1.d.sw T3) w3 w4:=CH.row k4' (fun b hb=>(h3.r.wa.tag b hb).2) (fun b hb=>.inl hb);obtain ⟨h5,e5⟩:=h3.Alu k4' h4' (fun y hy=>by
   rcases List.mem_or_eq_of_mem_set hy with hy | rfl
   ·exact (h3.r.Ss y hy).kt (by decide) s4
   ·exact (h3.r.Ss x hxm).kt (by decide) s4)
  have lx1:=p1.Ad1;have ht:=YA ⟨x.Ah,lk.lo,lk.hi,lk.wr⟩ X1.d.BS;have hf:=ho1.few;refine Af8 h5 (ig.Bm e5) (id.Bm e5) (by show X1.d.line.length + _ + _≤_;omega) ?_;intro sl T6 w6 h6 e6;obtain ⟨X6,hX6⟩:∃ X6:Mc,X6={ X1 with d:={ X1.d with tH:=H3,BS:=(Bc ⟨x.Ah,lk.lo,lk.hi,lk.wr⟩ X1.d.BS).2,wait:=X1.d.wait.set i { x with next:=x.next + 1 },Mm:=sl,line:=X1.d.line ++ Gc true (Bc ⟨x.Ah,lk.lo,lk.hi,lk.wr⟩ X1.d.BS).1.2.2.1 ++ Gc false (Bc ⟨x.Ah,lk.lo,lk.hi,lk.wr⟩ X1.d.BS).1.2.1 } }:=⟨_,rfl⟩;have h6:A6 w6 m T6 X6:=by rw [hX6];exact h6
  have q6:X6.p=X1.p.Cq i x.p lk:=by
   rw [hX6];unfold PS.Cq PS.told Mc.p;dsimp only;rw [List.map_set];rfl
  have f6:Fix X1 X6:=by rw [hX6];exact ⟨rfl,rfl,rfl,rfl⟩
  have ev6:Aq T T6 w w6:=((((e2.trans (Aq.k0 kdd)).trans e3).trans e5).trans e6);obtain ⟨p6,b6⟩:=p1.Cq hxp hlk;rw [← q6] at p6 b6;rw [← q6] at PY;have htab:(Bc ⟨x.Ah,lk.lo,lk.hi,lk.wr⟩ X1.p.BS).1.1=(Bc ⟨x.Ah,lk.lo,lk.hi,lk.wr⟩ X1.d.BS).1.1:=rfl;rw [htab] at PY;by_cases hs2:(Bc ⟨x.Ah,lk.lo,lk.hi,lk.wr⟩ X1.d.BS).1.1=2
  ·rw [if_pos hs2] at PY;rw [show ((Bc ⟨x.Ah,lk.lo,lk.hi,lk.wr⟩ X1.d.BS).1.1 == 2)=true from by simpa using hs2];simp only [sb];exact k X6 T6 w6 h6 PY (x1.trans f6) ev6
  rw [if_neg hs2] at PY;rw [show ((Bc ⟨x.Ah,lk.lo,lk.hi,lk.wr⟩ X1.d.BS).1.1 == 2)=false from by simpa using hs2];simp only [sb];by_cases hs3:(Bc ⟨x.Ah,lk.lo,lk.hi,lk.wr⟩ X1.d.BS).1.1=3
  ·rw [if_pos hs3] at PY;rw [show ((Bc ⟨x.Ah,lk.lo,lk.hi,lk.wr⟩ X1.d.BS).1.1 == 3)=true from by simpa using hs3];have hl6:X6.d.wait.length=X1.d.wait.length:=by rw [hX6];simp
   simp only [sb,h6.hd,Bs];refine Pp h6 (by omega) (i:=i) (by omega) rfl ?_;intro r7 T7 w7 h7 e7;have hx6:X6.p.wait[i]?=some { x.p with next:=x.next + 1 }:=by
    rw [q6];exact List.getElem?_set_self (by rw [show X1.p.wait=X1.d.wait.map Wt.p from rfl,List.length_map];exact hlt)
   obtain ⟨p7,b7⟩:=p6.Ay hx6;have q7:({ X6 with d:={ X6.d with sw:=r7,wait:=X6.d.wait.take i ++ X6.d.wait.drop (i + 1) } }:Mc).p=X6.p.Ay i:=by unfold Mc.p PS.Ay;dsimp only;rw [List.map_append,List.map_take,List.map_drop]
   have o6:=p6.Afy;refine V6 h7 x.Ah 5 ⟨none,0,0⟩ [] (Bq.NI fun w=>⟨A1.nil w,by simp⟩) (by show X6.d.out.length≤_;omega) ?_;intro so8 T8 w8 h8 e8;refine W1 h8 (by exact p6.tb) x.Ah (by have:=p6.Ad1;show X6.d.line.length≤_;omega) ?_;intro sl9 T9 H9 w9 h9 e9;refine k _ T9 w9 h9 ?_ ?_ (((ev6.trans e7).trans e8).trans e9)
   ·rw [← PY,← q7,← hxt];unfold PS.release PS.Df PS.send PS.told Mc.p;dsimp only;simp only [List.map_append];rfl
   ·exact (x1.trans f6).trans ⟨rfl,rfl,rfl,rfl⟩
  ·rw [if_neg hs3] at PY;rw [show ((Bc ⟨x.Ah,lk.lo,lk.hi,lk.wr⟩ X1.d.BS).1.1 == 3)=false from by simpa using hs3];simp only [sb];refine ⟨f,by omega,X6,T6,h6,p6,by rw [hxt];exact PY,fun y hy hyt=>?_,x1.trans f6,ev6⟩;rw [q6] at hy;rcases Aa5 hy with rfl | ⟨j,hji,hj⟩
   rotate_left
   ·exact absurd hyt (AjP p1.wt hj hxp hji)
   ·show x.BB.length - (x.next + 1).toNat < f;omega
def DU:Nat:=20001
theorem Xf {w:World} {m:Nat} {T:Nat→Nat} {X:Mc} (h:A6 w m T X) (hp:Bj X.p) {K:TR []→Pr}
  (k:∀ X' T' w',A6 w' m T' X'→X'.p=X.p.through DU→Fix X X'→Aq T T' w w'→K () w'):Cl Pg 124 [.pointer (some ⟨m,0,none⟩)] true [] K w:=by
 refine HU _ ?_;unfold FK;dsimp only [Lb,Ll,Lu,Tb,Ts,Tu,Vb,Vi,Vp,Vs,Vu];refine ⟨fun n st w'=>∃ X1 T1,A6 w' m T1 X1∧Bj X1.p∧X1.p.through n=X.p.through DU∧X1.p.out.length + X1.p.left < n∧Fix X X1∧Aq T T1 w w',⟨DU,X,T,h,hp,rfl,by have:=hp.bd;unfold DU;omega,Fix.refl _,Aq.refl _ _⟩,?_⟩;rintro n _ w1 ⟨X1,T1,h1,p1,PY,hn,x1,e1⟩;obtain ⟨f,rfl⟩:∃ f,n=f + 1:=⟨n - 1,by omega⟩;have hll:=h1.r.li.ok.BY;have lx:=p1.Aem;simp only [sb,h1.hd,Bs];cases hl:X1.d.line with
 | nil=>
  rw [hl] at hll;have hln:X1.p.line=[]:=hl;rw [show X1.d.Mm.len=0 from hll,decide_eq_false (by decide)];simp only [sb];have hnil:Bh evR w1 ⟨none,0,0⟩ []:=AE.nil _ _;refine h1.uLi (r:=⟨none,0,0⟩) (l:=[]) (Aa.refl _ _) hnil (by simp [Ai]) fun w2 h2 e2=>?_;refine k _ _ w2 h2 ?_ (x1.trans ⟨rfl,rfl,rfl,rfl⟩) (e1.trans e2);rw [← PY];unfold PS.through;rw [hln];show Mc.p _=X1.p;unfold Mc.p;dsimp only;rw [hl]
 | cons ev l=>
  have hln:X1.p.line=ev :: l:=hl;rw [CQ hln] at PY;obtain ⟨p2,b2⟩:=p1.pop hln;rw [hl,List.length_cons] at hll;rw [decide_eq_true (by omega)];have h0:X1.d.line[0]?=some ev:=by rw [hl];rfl
  simp only [sb,h1.hd,Bs];refine Aej h1.r.li.ok.C6 (i:=0) h0 ?_;refine bx2 rfl rfl rfl fun a w2 h2 n2 k2=>?_;have g2:=h1.Ab k2;simp only [sb,g2.hd,Bs];refine ⟨⟨by decide,by omega⟩,?_⟩;have hcut:Bh evR w2 ⟨A7 X1.d.Mm.p X1.d.Mm.cap 1 2,X1.d.Mm.len - 1,X1.d.Mm.cap - 1⟩ l:=by
   have:=g2.r.li.ok.sub (lo:=1) (hi:=X1.d.Mm.len) (by omega) (Nat.le_refl _);have e:((X1.d.line.flatMap evR.c).drop (1 * evR.n)).take ((X1.d.Mm.len - 1) * evR.n)=l.flatMap evR.c:=by
    rw [Qy evR.len,hl,List.drop_succ_cons,List.drop_zero,List.take_of_length_le];rw [AP evR.len];exact Nat.mul_le_mul_right _ (by omega)
   rw [e] at this;exact this
  refine g2.uLi (r:=⟨A7 X1.d.Mm.p X1.d.Mm.cap 1 2,X1.d.Mm.len - 1,X1.d.Mm.cap - 1⟩) (l:=l) (Aa.refl _ _) hcut (fun b hb=>.inl (AcV _ _ _ _ _ (Nat.sub_le _ _) b hb)) fun w3 h3 e3=>?_;have T2a:T1 a=0:=h1.new n2;obtain ⟨ha,Ta⟩:=e3.at h2 T2a;have e03:Aq T _ w w3:=(e1.trans (Aq.k0 k2)).trans e3;generalize AX 8 _ T1=T3 at *;obtain ⟨X3,hX3⟩:∃ X3:Mc,X3={ X1 with d:={ X1.d with Mm:=⟨A7 X1.d.Mm.p X1.d.Mm.cap 1 2,X1.d.Mm.len - 1,X1.d.Mm.cap - 1⟩,line:=l } }:=⟨_,rfl⟩;rw [← hX3] at h3;have q3:X3.p={ X1.p with line:=l }:=by rw [hX3];rfl
  have x3:Fix X1 X3:=by rw [hX3];exact ⟨rfl,rfl,rfl,rfl⟩
  rw [← q3] at p2 b2 PY;have back:∀ (X5:Mc) (T5:Nat→Nat) (w5:World),A6 w5 m T5 X5→X5.p=X3.p.event ev→Fix X3 X5→Aq T3 T5 w3 w5→∃ m' ,m' < f + 1∧∃ X1 T1,A6 w5 m T1 X1∧Bj X1.p∧X1.p.through m'=X.p.through DU∧X1.p.out.length + X1.p.left < m'∧Fix X X1∧Aq T T1 w w5:=by
   intro X5 T5 w5 h5 q5 x5 e5;obtain ⟨p5,b5⟩:=p2.event ev;rw [← q5] at p5 b5 PY;exact ⟨f,by omega,X5,T5,h5,p5,PY,by omega,(x1.trans x3).trans x5,e03.trans e5⟩
  simp only [sb,ha];cases hdead:ev.dead with
  | false=>
   simp only [Bool.not_false,sb,ha];refine Ad0 h3 p2 ev.Ah fun X5 T5 w5 h5 q5 x5 e5=>?_;refine back X5 T5 w5 h5 ?_ x5 e5;rw [q5];unfold PS.event;rw [hdead];rfl
  | true=>
   simp only [Bool.not_true,sb,ha];have hlx:X3.d.wait.length=X1.d.wait.length:=by rw [hX3]
   refine Nj h3 p2.wtX (by omega) ev.Ah fun w4 k4=>?_;have g4:=h3.Ab k4;have ha:=k4.Aw ha;rw [← U7,← XB];dsimp only;cases hw:X3.p.Pb ev.Ah with
   | false=>
    refine back X3 T3 w4 g4 ?_ (Fix.refl _) (Aq.k0 k4);unfold PS.event;rw [hdead,hw];rfl
   | true=>
    obtain ⟨xp,hxp,hxt⟩:=D9 p2 hw;have hlt:X3.p.Ce ev.Ah < X3.d.wait.length:=by
     have:=(List.getElem?_eq_some_iff.1 hxp).1;rw [show X3.p.wait=X3.d.wait.map Wt.p from rfl,List.length_map] at this;exact this
    simp only [sb,g4.hd,Bs];refine Pp g4 (by omega) hlt rfl ?_;intro r5 T5 w5 h5 e5;obtain ⟨ha5,_⟩:=e5.at ha Ta;simp only [sb,ha5];have o2:=p2.Afy;refine V6 h5 ev.Ah 5 ⟨none,0,0⟩ [] (Bq.NI fun w=>⟨A1.nil w,by simp⟩) (by show X3.d.out.length≤_;omega) ?_;intro so6 T6 w6 h6 e6;refine back _ T6 w6 h6 ?_ ⟨rfl,rfl,rfl,rfl⟩ (((Aq.k0 k4).trans e5).trans e6);unfold PS.event;rw [hdead,hw];unfold PS.Ay PS.Df PS.send Mc.p;dsimp only;simp only [List.map_append,List.map_take,List.map_drop];rfl
open Go Go.Sx
theorem ld1 {α:Type} {ρ:Rec α} {w:World} {s:Sl} {l:List α} (h:A1 ρ w s l) {i:Nat} {x:α} (hx:l[i]?=some x) (j:Nat) (k:Kd) (y:k.T) (hj:(ρ.c x)[j]?=some (k.enc y)) {K:k.T→Pr} (hK:K y w):Ix s (i:Int) ρ.n (fun a=>Ld k (a.add j) K) w:=by
 obtain ⟨a,ha,hc⟩:=h.at hx;have hi:=(List.getElem?_eq_some_iff.1 hx).1;have hl:=h.len;unfold Ix;rw [ha];refine ⟨by omega,by omega,?_⟩;rw [Int.toNat_natCast];exact DO (hc j _ hj) hK
theorem ldn {w:World} {s:Sl} {l:List Int} (h:A1 HL w s l) {i:Nat} {x:Int} (hx:l[i]?=some x) {K:Int→Pr} (k:K x w):Ix s (i:Int) 1 (fun a=>A2 .u64 a K) w:=by
 obtain ⟨a,ha,hc⟩:=h.at hx;have hi:=(List.getElem?_eq_some_iff.1 hx).1;have hl:s.len=l.length:=h.len;unfold Ix;rw [ha];refine ⟨by omega,by omega,?_⟩;rw [Int.toNat_natCast];have h0:=hc 0 (.int .u64 x) rfl;rw [add_add,Nat.add_zero] at h0;exact DO (k:=.i .u64) (x:=x) h0 k
theorem Ai7 (z:Int) {w:World} {K:TR [.sc .b]→Pr} (hK:K (false,()) w):Cl Pg 278 [.int .u64 z] false [.sc .b] K w:=by
 apply Jq;unfold Gk;rw [show (z != z)=false from by simp];exact hK
theorem V1 {w:World} {s:Sl} {l:List Int} (h:A1 HL w s l):s.len=l.length:=by have:=h.len;exact this
set_option maxHeartbeats 1000000 in
theorem Ajm {w:World} {s:Sl} {l:List Int} (h:A1 HL w s l) (hs:l.Pairwise (· < ·)) (t:Int) (hN:l.length≤1000000) {K:TR [.sc (.i .i64),.sc .b]→Pr} (k:K ((Ba (fun x:Int=>BC x t) l:Int),Ee (fun x:Int=>BC x t) l,()) w):Cl Pg 216 [.slice s.p s.len s.cap,.int .u64 t] true [.sc (.i .i64),.sc .b] K w:=by
 have hl:=V1 h;have hle:=Dv (fun x:Int=>BC x t) l;have hp:l.Pairwise (fun a b=>BC b t < 0→BC a t < 0):=hs.imp fun h=>by rw [Dq,Dq];omega
 refine ET _ _ ?_;unfold Dy;dsimp only [Vu];refine ⟨fun n st w'=>∃ (i j:Nat),st=((i:Int),(j:Int),())∧n=j - i∧i≤Ba (fun x:Int=>BC x t) l∧Ba (fun x:Int=>BC x t) l≤j∧j≤l.length∧w'=w,⟨_,0,l.length,by rw [hl];rfl,rfl,by omega,by omega,by omega,rfl⟩,?_⟩;rintro n _ w1 ⟨i,j,rfl,rfl,hi,hij,hj,rfl⟩;dsimp only;by_cases hlt:i < j
 ·rw [decide_eq_true (by omega)];simp only [Af];refine ⟨by decide,?_⟩;have e:An (IW .u64 (IntKind.u64.wrap (An ((i:Int) + (j:Int)))) 1)=(((i + j) / 2:Nat):Int):=by
   rw [Oq rfl rfl (by omega),B1 (by omega),show IW .u64 ((i + j:Nat):Int) 1=(((i + j) >>> 1:Nat):Int) from PI .u64 (i + j) 1 (by decide),Nat.shiftRight_eq_div_pow,By (by omega) (by omega)]
  rw [e];generalize hm:(i + j) / 2=m;have hm1:i≤m∧m < j:=by omega
  obtain ⟨x,hx⟩:∃ x,l[m]?=some x:=⟨_,List.getElem?_eq_getElem (by omega)⟩;refine ldn h hx ?_;refine Cl.mono (IF _ _) ?_;rintro ⟨r,_⟩ _ ⟨rfl,hr⟩;dsimp only at hr;subst hr;dsimp only;by_cases hc:x < t
  ·rw [show lt x t=true from decide_eq_true hc];simp only [Af];refine ⟨j - (m + 1),by omega,m + 1,j,by rw [AK (by omega)],rfl,?_,hij,hj,by trivial⟩;rcases Nat.lt_or_ge m (Ba (fun x:Int=>BC x t) l) with h' | h'
   ·exact h'
   ·have:=PD hp hx h';have h3:¬ (BC x t < 0):=by omega
    rw [Dq] at h3;omega
  ·rw [show lt x t=false from decide_eq_false hc];simp only [Ae];refine ⟨m - i,by omega,i,m,rfl,rfl,hi,?_,by omega,by trivial⟩;rcases Nat.lt_or_ge m (Ba (fun x:Int=>BC x t) l) with h' | h'
   ·have:=Dq.1 (Qg (c:=fun x:Int=>BC x t) hx h');omega
   ·exact h'
 ·rw [decide_eq_false (by omega)];simp only [Ae];have hb:i=Ba (fun x:Int=>BC x t) l:=by omega
  unfold Ee at k;by_cases h3:i < l.length
  ·rw [decide_eq_true (by omega)];simp only [Af];obtain ⟨x,hx⟩:∃ x,l[i]?=some x:=⟨_,List.getElem?_eq_getElem (by omega)⟩;refine ldn h hx ?_;rw [← hb,hx] at k;dsimp only at k;rw [Xk] at k;by_cases hxt:x=t
   ·rw [show ((x:Int) == t)=true from by simpa using hxt];rw [decide_eq_true hxt] at k;exact k
   ·rw [show ((x:Int) == t)=false from by simpa using hxt];rw [decide_eq_false hxt] at k;simp only [Ae];refine ldn h hx ?_;refine Ai7 _ ?_;exact k
  ·rw [decide_eq_false (by omega)];rw [← hb,List.getElem?_eq_none (by omega)] at k;exact k
theorem UI {w:World} {s:Sl} {l:List Int} (h:A1 HL w s l) (t:Int) (hN:l.length≤1000000) {K:TR [.sc .b]→Pr} (k:K (l.contains t,()) w):Cl Pg 47 [.slice s.p s.len s.cap,.int .u64 t] false [.sc .b] K w:=by
 have hl:=V1 h;refine GG _ _ ?_;unfold EJ;dsimp only [Vs,Vu];refine Jh _ _ ?_;unfold Gg;refine ⟨fun n st w'=>∃ (i:Nat),st=(0,(i:Int),())∧n=l.length - i∧i≤l.length∧(l.drop i).contains t=l.contains t∧w'=w,⟨_,0,rfl,rfl,by omega,rfl,rfl⟩,?_⟩;rintro n _ w1 ⟨i,rfl,rfl,hi,he,rfl⟩;dsimp only;by_cases hlt:i < l.length
 ·rw [decide_eq_true (by omega)];simp only [Af];obtain ⟨x,hx⟩:∃ x,l[i]?=some x:=⟨_,List.getElem?_eq_getElem hlt⟩;have hd:l.drop i=x :: l.drop (i + 1):=by rw [List.drop_eq_getElem_cons hlt,(List.getElem?_eq_some_iff.1 hx).2]
  rw [hd,List.contains_cons] at he;refine ldn h hx ?_;cases hc:(t == x) with
  | true=>
   rw [hc] at he;simp only [Af];rw [show decide ((i:Int) ≥ 0)=true from decide_eq_true (by omega),show true=l.contains t from by rw [← he];rfl];exact k
  | false=>
   rw [hc] at he;simp only [Ae];exact ⟨l.length - (i + 1),by omega,i + 1,by rw [AK (by omega)],rfl,by omega,by rw [← he,Bool.false_or],by trivial⟩
 ·rw [decide_eq_false (by omega)];rw [List.drop_of_length_le (by omega)] at he;simp only [Ae];rw [← he] at k;exact k
def Qd (p:ByteArray):List Ow→Bool
 | []=>true
 | x :: l=>decide (1≤x.BO) && decide (x.BO≤4) && (Kx x.lo && slt p x.lo) && Qd x.lo l
def Be:List Ow→Bool
 | []=>false
 | x :: l=>seq x.lo (BA []) && decide (1≤x.BO) && decide (x.BO≤4) && Qd x.lo l && decide (l.length≤5)
def D7 (l:List Ow) (i:Nat):ByteArray × ByteArray:=((l[i]?.getD ⟨BA [],0⟩).lo,match l[i + 1]? with | some x=>x.lo | none=>BA [])
def Afm (l:List Ow) (n:Int) (lo hi:ByteArray):Bool:=Be l && (List.range l.length).any (fun i=>decide ((l[i]?.getD ⟨BA [],0⟩).BO=n) && CW (D7 l i).1 (D7 l i).2 lo hi)
theorem Pj {w:World} {s:Sl} {l:List Ow} (h:A1 Mj w s l) (hN:l.length≤140737488355328) {K:TR [.sc (.i .i64)]→Pr} (k:∀ w',Aa [] w w'→K (if Be l then 0 else 170,()) w'):Cl Pg 44 [.slice s.p s.len s.cap] false [.sc (.i .i64)] K w:=by
 have hl:=h.len;refine Re _ ?_;unfold Si;dsimp only [Li,Ls,Ti,Tt,Vi,Vt,Jp];cases l with
 | nil=>
  rw [show ((((s.len:Nat):Int):Int) == 0)=true from by rw [hl];rfl];exact k w (Aa.refl _ _)
 | cons y q=>
  rw [show ((((s.len:Nat):Int):Int) == 0)=false from by rw [hl];rfl];simp only [Ae];by_cases h6:q.length≤5
  ·rw [decide_eq_false (by rw [hl,List.length_cons];omega)];simp only [Ae];refine ld1 (i:=0) h rfl 0 .s y.lo rfl ?_;cases hy:seq y.lo (BA []) with
   | false=>
    simp only [Bool.not_false,Af];have:=k w (Aa.refl _ _);rw [Be,hy] at this;exact this
   | true=>
    simp only [Bool.not_true,Ae];have hsz:∀ i:Nat,i≤(y :: q).length→∀ x,(y :: q)[i]?=some x→∀ w1:World,Aa [] w w1→True:=fun _ _ _ _ _ _=>trivial;have go:(if (decide (1≤y.BO) && decide (y.BO≤4) && Qd y.lo q) then (0:Int) else 170)=(if Be (y :: q) then 0 else 170):=by
     rw [Be,hy,decide_eq_true h6,Bool.true_and,Bool.and_true]
    refine ⟨fun n st w'=>∃ (i:Nat),st=(0,(i:Int),())∧n=(y :: q).length - i∧i≤(y :: q).length∧(0 < i→∃ p,(y :: q)[i - 1]?=some p∧Be (y :: q)=Qd p.lo ((y :: q).drop i))∧Aa [] w w',⟨_,0,rfl,rfl,by omega,fun h=>absurd h (by omega),Aa.refl _ _⟩,?_⟩;rintro n _ w1 ⟨i,rfl,rfl,hi,he,k1⟩;dsimp only;by_cases hlt:i < (y :: q).length
    ·rw [decide_eq_true (by omega)];simp only [Af];obtain ⟨x,hx⟩:∃ x,(y :: q)[i]?=some x:=⟨_,List.getElem?_eq_getElem hlt⟩;have hd:(y :: q).drop i=x :: (y :: q).drop (i + 1):=by rw [List.drop_eq_getElem_cons hlt,(List.getElem?_eq_some_iff.1 hx).2]
     refine UP (h.Ab k1) hx ?_;refine UB x fun b w2 h2 n2 k2=>?_;have k02:=Aj k1 k2;simp only [sb,h2];have bad:Be (y :: q)=false→K (170,()) w2:=fun hb=>by
      have:=k w2 k02;rw [hb] at this;exact this
     have badD:Be (y :: q)=false→K (170,()) w2.drew:=fun hb=>by
      have:=k _ k02.drew;rw [hb] at this;exact this
     have step:Be (y :: q)=(decide (1≤x.BO) && decide (x.BO≤4) && (if i=0 then true else Kx x.lo && slt ((y :: q)[i - 1]?.getD ⟨BA [],0⟩).lo x.lo) && Qd x.lo ((y :: q).drop (i + 1))):=by
      rcases Nat.eq_zero_or_pos i with h0 | h0
      ·subst h0;obtain rfl:y=x:=by simpa using hx
       rw [if_pos rfl,Be,hy,decide_eq_true h6,Bool.true_and,Bool.and_true,Bool.and_true];simp
      ·obtain ⟨p,hp,he⟩:=he h0;rw [if_neg (by omega),he,hd,Qd,hp];rfl
     by_cases c1:x.BO < 1
     ·rw [decide_eq_true c1];simp only [Af];refine badD ?_;rw [step,decide_eq_false (show ¬ 1≤x.BO by omega)];rfl
     ·rw [decide_eq_false c1];simp only [sb,h2];by_cases c2:x.BO > 4
      ·rw [decide_eq_true c2];simp only [Af];refine badD ?_;rw [step,decide_eq_false (show ¬ x.BO≤4 by omega),Bool.and_false];rfl
      ·rw [decide_eq_false c2];simp only [sb,h2];rw [decide_eq_true (show 1≤x.BO by omega),decide_eq_true (show x.BO≤4 by omega),Bool.true_and,Bool.true_and] at step;rcases Nat.eq_zero_or_pos i with h0 | h0
       ·subst h0;rw [decide_eq_false (by omega)];rw [if_pos rfl,Bool.true_and] at step;simp only [Ae];refine ⟨(y :: q).length - 1,by simp,1,by rw [AK (by decide)],rfl,by simp,fun _=>⟨x,hx,step⟩,k02.drew⟩
       ·rw [decide_eq_true (by omega)];rw [if_neg (by omega)] at step;obtain ⟨p,hp,he⟩:=he h0;rw [hp] at step;simp only [sb,h2];refine Hb _ ?_;dsimp only;cases hk:Kx x.lo with
        | false=>
         rw [hk] at step;refine badD ?_;rw [step];rfl
        | true=>
         rw [hk] at step;simp only [if_true,show ((0:Int) != 0)=false from rfl,Ae];have hw:An ((i:Int) - 1)=((i - 1:Nat):Int):=by rw [By (by omega) (by rw [List.length_cons] at hlt;omega)];omega
         rw [hw];refine ld1 (h.Ab k02.drew) hp 0 .s p.lo rfl ?_;simp only [sb,h2];cases hs:slt p.lo x.lo with
         | false=>
          refine badD ?_;rw [step];show (true && slt p.lo x.lo && _)=false;rw [hs];rfl
         | true=>
          refine ⟨(y :: q).length - (i + 1),by omega,i + 1,by rw [AK (by rw [List.length_cons] at hlt;omega)],rfl,by omega,fun _=>⟨x,hx,?_⟩,k02.drew⟩;rw [step];show (true && slt p.lo x.lo && _)=_;rw [hs];rfl
    ·rw [decide_eq_false (by omega)];simp only [Ae];obtain ⟨p,hp,he⟩:=he (by rw [List.length_cons] at *;omega);rw [List.drop_of_length_le (by omega),Qd] at he;have:=k w1 k1;rw [he] at this;exact this
  ·rw [decide_eq_true (by rw [hl,List.length_cons];omega)];have:=k w (Aa.refl _ _);rw [Be,decide_eq_false h6,Bool.and_false] at this;exact this
theorem Aec {w:World} {s:Sl} {l:List Ow} (h:A1 Mj w s l) {i:Nat} (hi:i < l.length) (hN:l.length≤1000000) {K:TR [.ag [.s,.s]]→Pr} (k:∀ w',Aa [] w w'→K (((D7 l i).1,(D7 l i).2,()),()) w'):Cl Pg 209 [.slice s.p s.len s.cap,.int .i64 (i:Int)] false [.ag [.s,.s]] K w:=by
 have hl:=h.len;obtain ⟨x,hx⟩:∃ x,l[i]?=some x:=⟨_,List.getElem?_eq_getElem hi⟩;refine S4 _ _ ?_;unfold UU;dsimp only [Ls,Tt,Vt];refine Ad fun b w1 h1 n1 k1=>?_;rw [AK (by omega)];unfold D7 at k;rw [hx] at k;by_cases he:i + 1=l.length
 ·rw [show (((i + 1:Nat):Int) == ((s.len:Nat):Int))=true from by rw [hl,he];exact beq_self_eq_true _];rw [List.getElem?_eq_none (by omega)] at k;simp only [Af];refine ld1 (h.Ab k1) hx 0 .s x.lo rfl ?_;refine KI h1 fun w2 k2=>?_;exact k w2 (BT k1 k2 n1)
 ·obtain ⟨y,hy⟩:∃ y,l[i + 1]?=some y:=⟨_,List.getElem?_eq_getElem (by omega)⟩;rw [show (((i + 1:Nat):Int) == ((s.len:Nat):Int))=false from by rw [hl];simpa using fun h=>he (by omega)];rw [hy] at k;simp only [Ae];unfold Dr;refine ld1 (h.Ab k1.drew) hx 0 .s x.lo rfl ?_;refine ld1 (h.Ab k1.drew) hy 0 .s y.lo rfl ?_;refine KI (w:=w1.drew) h1 fun w2 k2=>?_;exact k w2 (BT k1.drew k2 n1)
theorem AeK {w:World} {s:Sl} {l:List Ow} (h:A1 Mj w s l) (hN:l.length≤1000000) (n:Int) (lo hi:ByteArray) {K:TR [.sc .b]→Pr} (k:∀ w',Aa [] w w'→K (Afm l n lo hi,()) w'):Cl Pg 120 [.slice s.p s.len s.cap,.int .i64 n,.agg #[.string lo,.string hi]] false [.sc .b] K w:=by
 have hl:=h.len;refine SN _ _ _ _ ?_;unfold Uu;dsimp only [Li,Ls,Vi,Vs,Vt];refine Ad fun b w1 h1 n1 k1=>?_;refine Pj (h.Ab k1) (by omega) fun w2 k2=>?_;have k02:=Aj k1 k2;have h2:=k2.Aw h1;unfold Afm at k;cases hok:Be l with
 | false=>
  rw [hok] at k;exact k w2 k02
 | true=>
  rw [hok,Bool.true_and] at k;simp only [if_true,show ((0:Int) != 0)=false from rfl,Ae];refine ⟨fun m st w'=>∃ (i:Nat),st=(false,(i:Int),())∧m=l.length - i∧i≤l.length∧(List.range i).any (fun i=>decide ((l[i]?.getD ⟨BA [],0⟩).BO=n) && CW (D7 l i).1 (D7 l i).2 lo hi)=false∧Aa [] w w'∧w'.heap[b]?=some (.cells #[.string lo,.string hi] 37 (0,0)),⟨_,0,rfl,rfl,by omega,rfl,k02,h2⟩,?_⟩;rintro m _ w3 ⟨i,rfl,rfl,hil,he,k3,h3⟩;dsimp only;by_cases hlt:i < l.length
  ·rw [decide_eq_true (by omega)];simp only [Af];obtain ⟨x,hx⟩:∃ x,l[i]?=some x:=⟨_,List.getElem?_eq_getElem hlt⟩;have nxt:∀ (c:Bool) (w4:World),(decide (x.BO=n) && CW (D7 l i).1 (D7 l i).2 lo hi)=c→Aa [] w w4→w4.heap[b]?=some (.cells #[.string lo,.string hi] 37 (0,0))→(Br c (K (true,())) (fun w'=>∃ m',m' < l.length - i∧∃ i_1:Nat,(false,An ((i:Int) + 1),())=(false,(i_1:Int),())∧m'=l.length - i_1∧i_1≤l.length∧(List.range i_1).any (fun i=>decide ((l[i]?.getD ⟨BA [],0⟩).BO=n) && CW (D7 l i).1 (D7 l i).2 lo hi)=false∧Aa [] w w'∧w'.heap[b]?=some (.cells #[.string lo,.string hi] 37 (0,0)))) w4:=by
    intro c w4 hc k4 h4;cases c with
    | true=>
     simp only [Af];have:=k w4 k4;rw [show (List.range l.length).any (fun i=>decide ((l[i]?.getD ⟨BA [],0⟩).BO=n) && CW (D7 l i).1 (D7 l i).2 lo hi)=true from List.any_eq_true.2 ⟨i,List.mem_range.2 hlt,by rw [hx];exact hc⟩] at this;exact this
    | false=>
     simp only [Ae];refine ⟨l.length - (i + 1),by omega,i + 1,by rw [AK (by omega)],rfl,by omega,?_,k4,h4⟩;rw [List.range_succ,List.any_append,he,List.any_cons,hx];simp only [Option.getD_some,hc,List.any_nil,Bool.or_false]
   dsimp only [Jp];unfold Dr;refine ld1 (h.Ab k3.drew) hx 1 (.i .i64) x.BO rfl ?_;by_cases hs:x.BO=n
   ·rw [show ((x.BO:Int) == n)=true from by simpa using hs];simp only [Af,sb,h3];refine Aec (h.Ab k3.drew) hlt hN fun w4 k4=>?_;have h4:=k4.Aw (show w3.drew.heap[b]?=_ from h3);simp only [sb,h4];refine ⟨by trivial,?_⟩;refine Z1 _ _ _ _ fun w5 k5=>?_;have h5:=k5.Aw h4;exact nxt _ w5 (by rw [decide_eq_true hs];rfl) (Aj (Aj k3.drew k4) k5) h5
   ·rw [show ((x.BO:Int) == n)=false from by simpa using hs];simp only [Ae];exact nxt false w3.drew (by rw [decide_eq_false hs];rfl) k3.drew h3
  ·rw [decide_eq_false (by omega)];simp only [Ae];obtain rfl:i=l.length:=by omega
   rw [he] at k;exact k w3 k3
def CE (lo hi:ByteArray) (o:Op):Bool:=decide (ER o=0) && Bw (Dp o).1 (Dp o).2 lo hi
theorem JN {w:World} {s:Sl} {l:List Op} (h:A1 BQ w s l) (hN:l.length≤1000000) (lo hi:ByteArray) {K:TR [.sc .b]→Pr} (k:∀ w',Aa [] w w'→K (l.any (CE lo hi),()) w'):Cl Pg 210 [.slice s.p s.len s.cap,.agg #[.string lo,.string hi]] false [.sc .b] K w:=by
 refine PL _ _ _ ?_;unfold P2;dsimp only [Vp,Vs,Vt];refine Ad fun b w1 h1 n1 k1=>?_;refine BN (p:=CE lo hi) (F:=fun _=>False) (h.Ab k1) ?_ (by omega) fun w2 k2=>k w2 (Aj k1 k2);intro w2 k2 x _ K1 hK;have h2:=k2.SU.Aw h1;refine BJ (by kernel_rfl) ?_;refine NA _ _ _ _ _ _ _ ?_;unfold MH;dsimp only [Ar,N6,AN,Ls,Tt,Vt];refine Ad fun c w3 h3 n3 k3=>?_;have h2:=k3.Aw h2;simp only [sb,h3];refine Ya x fun w4 k4=>?_;have h2:=k4.Aw h2;refine Ad fun d w5 h5 n5 k5=>?_;have h2:=k5.Aw h2;have k25:=Aj (Aj k3 k4) k5;have nd:d ≠ b:=fun e=>by subst e;have:=Av h1;have:=k2.SU.size;have:=k3.size;have:=k4.size;omega
 refine AaD h5 rfl rfl fun w6 h6 k6=>?_;have h2:=k6.Mw h2 (Ne.symm nd);have k26:=BT k25 k6 (by have:=k3.size;have:=k4.size;omega);simp only [sb,h6,h2];refine Vr _ _ _ _ fun w7 k7=>?_;refine Ad fun e w8 h8 n8 k8=>?_;have k28:=Aj (Aj k26 k7) k8;refine AaD h8 rfl rfl fun w9 h9 k9=>?_;have k29:=BT k28 k9 (by have:=k26.size;have:=k7.size;omega);have:=hK w9 k29;unfold CE at this;by_cases he:ER x=0
 ·rw [decide_eq_true he,Bool.true_and] at this;simp only [he,if_true,sb];exact this
 ·rw [decide_eq_false he,Bool.false_and] at this;rw [if_neg he];rw [show ((ER x:Int) == 0)=false from by simpa using he];exact this
open Go Go.Sx
namespace PS
def shut (P:PS) (ops:List Op):Bool:=match P.box with | some b=>b.B9 && ops.any (CE b.lo b.hi) | none=>false
def closed (P:PS) (ops:List Op):Bool:=(P.c.frozen != 0 && ops.any (CE P.c.Qk P.c.MS)) || P.shut ops
def Afk (P:PS) (t:Int):Bool:=Ee (fun x:Int=>BC x t) P.fin
def fat (P:PS) (t:Int):Nat:=Ba (fun x:Int=>BC x t) P.fin
def BV (P:PS) (t:Int):PS:=if decide (P.c.low≤t) && !P.Afk t then { P with fin:=P.fin.take (P.fat t) ++ t :: P.fin.drop (P.fat t) } else P
def finish (P:PS) (t:Int):PS:=((P.BV t).release t).through DU
end PS
theorem Bj.BV {P:PS} (h:Bj P) (t:Int) (hf:P.fin.length < 100000):Bj (P.BV t)∧(P.BV t).out.length + (P.BV t).left=P.out.length + P.left∧(P.BV t).fin.length≤P.fin.length + 1:=by
 unfold PS.BV;cases hc:(decide (P.c.low≤t) && !P.Afk t) with
 | false=>exact ⟨h,rfl,Nat.le_succ _⟩
 | true=>
  rw [Bool.and_eq_true] at hc;have hn:P.Afk t=false:=by simpa using hc.2
  have hl:(P.fin.take (P.fat t) ++ t :: P.fin.drop (P.fat t)).length=P.fin.length + 1:=by
   rw [List.length_append,List.length_cons,List.length_take,List.length_drop];have:P.fat t≤P.fin.length:=Dv _ _;omega
  refine ⟨⟨h.wt,h.hd,h.dj,?_,h.tb,h.wv,h.hv,h.mp,h.mn,h.wr,h.wn,h.er,h.bd,h.hn,?_⟩,rfl,Nat.le_of_eq hl⟩
  ·exact Aas (f:=id) (x:=t) h.fn (Abr (f:=id) h.fn hn)
  ·show (P.fin.take (P.fat t) ++ t :: P.fin.drop (P.fat t)).length≤100000;omega
theorem Ad6 {w:World} {m:Nat} {T:Nat→Nat} {X:Mc} (h:A6 w m T X) (hp:Bj X.p) (hf:X.d.fin.length < 100000) (t:Int) {K:TR []→Pr}
  (k:∀ X' T' w',A6 w' m T' X'→X'.p=X.p.finish t→Fix X X'→Aq T T' w w'→K () w'):Cl Pg 127 [.pointer (some ⟨m,0,none⟩),.int .u64 t] true [] K w:=by
 refine IY _ _ ?_;unfold Gf;dsimp only [Ll,Lu,Ts,Vi,Vp,Vs,Vu,Jp];have tail:∀ (X1:Mc) (T1:Nat→Nat) (w1:World),A6 w1 m T1 X1→X1.p=X.p.BV t→Fix X X1→Aq T T1 w w1→Cl Pg 215 [.pointer (some ⟨m,0,none⟩),.int .u64 t] true [] (fun r3=>Cl Pg 124 [.pointer (some ⟨m,0,none⟩)] true [] fun r4=>K ()) w1:=by
  intro X1 T1 w1 h1 q1 x1 e1;obtain ⟨p1,b1,_⟩:=hp.BV t hf;rw [← q1] at p1;have l1:=p1.Ad1;refine W1 h1 p1.tb t (by omega) ?_;intro sl T2 H2 w2 h2 e2;obtain ⟨p2,b2⟩:=p1.release t;refine Xf (X:={ X1 with d:={ X1.d with tH:=H2,BS:=(ES t X1.d.BS).2,Mm:=sl,line:=X1.d.line ++ Gc true (ES t X1.d.BS).1.2 ++ Gc false (ES t X1.d.BS).1.1 } }) h2 p2 ?_;intro X3 T3 w3 h3 q3 x3 e3;refine k X3 T3 w3 h3 ?_ (x1.trans ⟨x3.BD,x3.sM,x3.bx,x3.box⟩) ((e1.trans e2).trans e3);rw [q3];unfold PS.finish;rw [← q1];rfl
 simp only [sb,h.hd,Bs];refine Ajm h.r.fi.ok.C6 hp.fn t (by omega) ?_;simp only [sb,h.hd,Bs];have hge:decide (t ≥ X.c.low)=decide (X.p.c.low≤t):=rfl;cases hlow:decide (t ≥ X.c.low) with
 | false=>
  simp only [sb];refine tail X T w h ?_ (Fix.refl _) (Aq.refl _ _);unfold PS.BV;rw [← hge,hlow];rfl
 | true=>
  simp only [sb];cases TJ:Ee (fun x:Int=>BC x t) X.d.fin with
  | true=>
   simp only [Bool.not_true,sb];refine tail X T w h ?_ (Fix.refl _) (Aq.refl _ _);unfold PS.BV;rw [← hge,hlow,show X.p.Afk t=true from TJ];rfl
  | false=>
   simp only [Bool.not_false,sb,h.hd,Bs];refine Ad fun a w1 h1 n1 k1=>?_;have g1:=h.Ab k1;refine SH g1.r.fi.ok h1 (fun hb=>?_) (Dv _ _) (by omega) ?_
   ·have:=g1.r.fi.ok.lt a hb;have h':=h.r.fi.ok.lt a hb;omega
   intro r w2 h2 f2 k2;have g2:w2.heap[m]?=some (.cells (Bs X).toArray 94 (0,0)):=k2.at g1.hd (fun hm=>by have:=(g1.r.fi.tag m hm).2;have:=h.t1;omega);simp only [sb,g2,A5,Nat.reduceAdd];refine g1.uFi k2 h2 f2 fun w3 h3 e3=>?_;refine tail _ _ w3 h3 ?_ ⟨rfl,rfl,rfl,rfl⟩ ((Aq.k0 k1).trans e3);unfold PS.BV;rw [← hge,hlow,show X.p.Afk t=false from TJ];rfl
theorem AdO {w:World} {m:Nat} {T:Nat→Nat} {X:Mc} (h:A6 w m T X) {so:Sl} {ops:List Op} (ho:A1 BQ w so ops) (hN:ops.length≤1000000) {K:TR [.sc .b]→Pr}
  (k:∀ w',Aa [] w w'→K (X.p.closed ops,()) w'):Cl Pg 121 [.pointer (some ⟨m,0,none⟩),.slice so.p so.len so.cap] false [.sc .b] K w:=by
 refine IL _ _ ?_;unfold Gu;dsimp only [Lb,Hr,Ls,Lu,Vs,Vt]
 have tail:∀ (w1:World),Aa [] w w1→(∀ w',Aa [] w w'→K (X.p.shut ops,()) w')→
   (Nn (some ⟨m,0,none⟩) fun a19=>Di (a19.add 19) fun x20=>Br (!(Option.isNone x20)) (Nn (some ⟨m,0,none⟩) fun a21=>Di (a21.add 19) fun x22=>Nn x22 fun a23=>E7 (a23.add 5) fun x24=>Br x24 (
    Nn (some ⟨m,0,none⟩) fun a25=>Di (a25.add 19) fun x26=>Nn x26 fun a27=>BU ((a27.add 2).add 0) fun x28=>BU ((a27.add 2).add 1) fun x29=>Cl Pg 210 [(.slice so.p so.len so.cap),(.agg #[(.string x28),(.string x29)])] false [.sc .b] fun r30=>K (r30.1,())) (K (false,()))) (K (false,()))) w1:=by
  intro w1 k1 hk;have g1:=h.Ab k1;have hb:=g1.r.bo.ok;simp only [sb,g1.hd,Bs];unfold PS.shut at hk;cases hx:X.d.bx with
  | none=>
   rw [show X.p.box=none from by show X.d.bx.map _=none;rw [hx];rfl] at hk;simp only [Option.map_none,Option.isNone_none,Bool.not_true,sb];exact hk w1 k1
  | some b=>
   rw [show X.p.box=some X.d.box.p from by show X.d.bx.map _=_;rw [hx];rfl] at hk;have h1:=hb b hx;simp only [Option.map_some,Option.isNone_some,Bool.not_false,sb,h1,Gb];dsimp only at hk;cases hc:X.d.box.B9 with
   | false=>
    rw [show X.d.box.p.B9=false from hc] at hk;simp only [hc,sb,g1.hd,Bs,hx,Option.map_some,h1,Gb];exact hk w1 k1
   | true=>
    rw [show X.d.box.p.B9=true from hc] at hk;simp only [hc,sb,g1.hd,Bs,hx,Option.map_some,h1,Gb,A5,Nat.reduceAdd];refine JN (ho.Ab k1) hN _ _ fun w2 k2=>?_;exact hk w2 (Aj k1 k2)
 unfold PS.closed at k;simp only [sb,h.hd,Bs];cases hf:(X.c.frozen != 0) with
 | false=>
  rw [show (X.p.c.frozen != 0)=false from hf] at k;simp only [Ae];exact tail w (Aa.refl _ _) k
 | true=>
  rw [show (X.p.c.frozen != 0)=true from hf] at k;simp only [Af];simp only [sb,h.hd,Bs,A5,Nat.reduceAdd];refine JN ho hN _ _ fun w1 k1=>?_;dsimp only;rw [show X.p.c.Qk=X.c.Qk from rfl,show X.p.c.MS=X.c.MS from rfl] at k;cases ht:ops.any (CE X.c.Qk X.c.MS) with
  | true=>
   rw [ht] at k;simp only [Af];exact k w1 k1
  | false=>
   rw [ht] at k;simp only [Ae];exact tail w1 k1 k
open Go Go.Sx
theorem A6.uRo {w w':World} {m:Nat} {T:Nat→Nat} {X:Mc} (h:A6 w m T X) {b:Nat} (hx:X.d.bx=some b) {r:Sl} {l:List Op} (hk:Aa (Ai X.d.box.sr) w w') (hr:Bh BQ w' r l) (fr:∀ b∈Ai r,b∈Ai X.d.box.sr∨w.heap.size≤b) {K:Pr}
  (k:∀ w2,A6 w2 m (AX 10 r T) { X with d:={ X.d with box:={ X.d.box with sr:=r,row:=l } } }→Aq T (AX 10 r T) w w2→K w2):St ⟨b,9,none⟩ (.slice r.p r.len r.cap) K w':=by
 have s:CH 10 T (AX 10 r T) w w':=CH.row hk (fun b hb=>(h.r.ro.tag b hb).2) fr;have hb:=h.r.bo.kt (by decide) (by decide) s;obtain ⟨lb,tb⟩:=hb.tag b hx;have hm:w'.heap[m]?=_:=hk.at h.hd (fun hm=>by have:=(h.r.ro.tag m hm).2;have:=h.t1;omega);have t1:AX 10 r T m=1:=MP h.lt h.t1 (by decide) (fun b hb=>(h.r.ro.tag b hb).2) fr;have mb:m ≠ b:=fun e=>by rw [e,tb] at t1;cases t1
 refine Ax (hb.ok b hx) 9 _ rfl (by simp [Gb]) fun w2 h2 k2=>?_;have s2:CH 9 (AX 10 r T) (AX 10 r T) w' w2:=⟨k2.FY fun c hc=>.inl (by simp at hc;rw [hc];exact tb),fun _ _ _=>rfl⟩;have q:=h.r;have hro:FV (AX 10 r T) 10 (·∈Ai r) (fun w=>Bh BQ w r l) w':=.of hr ED;refine k w2 ⟨k2.Mw hm mb,t1,?_⟩ ((s.Bm (by decide)).trans (s2.Bm (by decide)));refine ⟨(q.ow.kt (by decide) s).kt (by decide) s2,(q.he.kt (by decide) (by decide) s).kt (by decide) (by decide) s2,fun x hx=>((q.Ro x hx).kt (by decide) s).kt (by decide) s2,(q.fi.kt (by decide) (by decide) s).kt (by decide) (by decide) s2,(q.wa.kt (by decide) (by decide) s).kt (by decide) (by decide) s2,fun x hx=>((q.Ss x hx).kt (by decide) s).kt (by decide) s2,(q.ta.kt (by decide) (by decide) s).kt (by decide) (by decide) s2,(q.ou.kt (by decide) (by decide) s).kt (by decide) (by decide) s2,fun x hx=>((q.Wp x hx).kt (by decide) s).kt (by decide) s2,(q.wr.kt (by decide) (by decide) s).kt (by decide) (by decide) s2,(q.li.kt (by decide) (by decide) s).kt (by decide) (by decide) s2,?_,hro.kt (by decide) (by decide) s2,(q.lo.kt (by decide) s).kt (by decide) s2,(q.RF.kt (by decide) (by decide) s).kt (by decide) (by decide) s2,fun b hb=>Nat.lt_of_lt_of_le (GH hr hk.size q.bd b hb) k2.size⟩;have hnew:w2.heap[b]?=some (.cells (Gb { X.d.box with sr:=r,row:=l }).toArray 118 (0,0)):=by
  rw [h2];simp [Gb]
 have e0:∀ c,X.d.bx=some c→c=b:=fun c hc=>by rw [hx] at hc;injection hc with hc;exact hc.symm
 refine ⟨fun c hc=>by rw [e0 c hc];exact hnew,fun w3 _ hw c hc=>?_,fun c hc=>?_⟩
 ·rw [e0 c hc,hw b (by have:=k2.size;omega) (.inl tb)];exact hnew
 ·rw [e0 c hc];exact ⟨by have:=k2.size;omega,tb⟩
def clip (lo hi:ByteArray) (o:Op):Op:=if o.kind=5 then { o with lo:=mLo lo hi o.lo o.hi,hi:=mHi lo hi o.lo o.hi } else o
namespace PS
def behind (P:PS) (o:Op):PS:=match P.box with
 | none=>P
 | some b=>if CE b.lo b.hi o then { P with box:=some { b with row:=b.row ++ [clip b.lo b.hi o] } } else P
end PS
structure DG (X X':Mc):Prop where
 BD:X'.d.BD=X.d.BD
 sM:X'.d.sM=X.d.sM
 bx:X'.d.bx=X.d.bx
theorem DG.refl (X:Mc):DG X X:=⟨rfl,rfl,rfl⟩
theorem Fix.two {X X':Mc} (h:Fix X X'):DG X X':=⟨h.BD,h.sM,h.bx⟩
theorem DG.trans {X Y Z:Mc} (h:DG X Y) (k:DG Y Z):DG X Z:=⟨k.BD.trans h.BD,k.sM.trans h.sM,k.bx.trans h.bx⟩
theorem AeW {w:World} {b:Nat} {o:Op} (h:w.heap[b]?=some (.cells #[.int .i64 o.kind,.string o.key,.string o.value,.string o.lo,.string o.hi,.int .i64 o.AD] 81 (0,0))):A1 BQ w ⟨some ⟨b,0,none⟩,1,1⟩ [o]:=⟨by rw [List.flatMap_singleton];exact BI (ρ:=BQ) (x:=o) h,Nat.le_refl _⟩
def AM (P:PS) (n:Nat):Prop:=∀ b,P.box=some b→b.row.length≤n
theorem Afo {w:World} {m:Nat} {T:Nat→Nat} {X:Mc} (h:A6 w m T X) (hN:AM X.p 1000000) (o:Op) {K:TR []→Pr}
  (k:∀ X' T' w',A6 w' m T' X'→X'.p=X.p.behind o→DG X X'→Aq T T' w w'→K () w') :
  Cl Pg 126 [.pointer (some ⟨m,0,none⟩),.agg #[.int .i64 o.kind,.string o.key,.string o.value,.string o.lo,.string o.hi,.int .i64 o.AD]] true [] K w:=by
 refine Jr _ _ _ _ _ _ _ ?_;unfold Gp;dsimp only [Ar,Li,AN,Ll,Hr,Ls,Ts,Tt,Vp,Vs,Vt];refine Ad fun a w1 h1 n1 k1=>?_;have g1:=h.Ab k1;have ma:m ≠ a:=fun e=>by have:=h.lt;omega
 unfold PS.behind at k;cases hx:X.d.bx with
 | none=>
  rw [show X.p.box=none from by show X.d.bx.map _=none;rw [hx];rfl] at k;refine BR true (fun J hJ=>?_) fun w2 k2=>?_
  ·simp only [sb,g1.hd,Bs,hx];simp only [Option.map_none,Option.isNone_none,sb];exact hJ _ (Am w1)
  ·simp only [sb];exact k X T _ (g1.Ab k2) rfl (DG.refl _) (Aq.k0 (Aj k1 k2))
 | some b=>
  have hN:X.d.box.row.length≤1000000:=hN X.d.box.p (by show X.d.bx.map _=_;rw [hx];rfl);rw [show X.p.box=some X.d.box.p from by show X.d.bx.map _=_;rw [hx];rfl] at k;dsimp only at k;refine BR (!(CE X.d.box.lo X.d.box.hi o)) (fun J hJ=>?_) fun w2 k2=>?_
  ·have hb:=g1.r.bo.ok b hx;simp only [sb,g1.hd,Bs,hx];simp only [Option.map_some,Option.isNone_some,sb,h1,g1.hd,Bs,hx,hb,Gb,A5,Nat.reduceAdd];refine Ad fun c w2 h2 n2 k2=>?_;have k02:=k1.drew;have h12:=k2.Aw (show w1.drew.heap[a]?=_ from h1);have g2:=(g1.Ab (Am w1)).Ab k2;have hb2:=k2.Aw (show w1.drew.heap[b]?=_ from hb);simp only [sb,g2.hd,Bs,hb2,Gb,hx,Option.map_some,A5,Nat.reduceAdd];refine ⟨by trivial,by trivial,?_⟩;refine JN (AeW h2) (by simp) _ _ fun w3 k3=>?_;rw [show [o].any (CE X.d.box.lo X.d.box.hi)=CE X.d.box.lo X.d.box.hi o from by simp];exact hJ w3 (Aj (Aj (Am w1) k2) k3)
  ·have g2:=g1.Ab k2;have h2:=k2.Aw h1;rw [show X.d.box.p.lo=X.d.box.lo from rfl,show X.d.box.p.hi=X.d.box.hi from rfl] at k;cases ht:CE X.d.box.lo X.d.box.hi o with
   | false=>
    rw [ht] at k;simp only [Bool.not_false,sb];exact k X T _ g2 rfl (DG.refl _) (Aq.k0 (Aj k1 k2))
   | true=>
    rw [ht] at k;simp only [Bool.not_true,sb];refine AG (fun _ w3=>Aa [] w w3∧w3.heap[a]?=some (.cells #[.int .i64 (clip X.d.box.lo X.d.box.hi o).kind,.string (clip X.d.box.lo X.d.box.hi o).key,.string (clip X.d.box.lo X.d.box.hi o).value,.string (clip X.d.box.lo X.d.box.hi o).lo,.string (clip X.d.box.lo X.d.box.hi o).hi,.int .i64 (clip X.d.box.lo X.d.box.hi o).AD] 81 (0,0))) (fun J hJ=>?_) ?_
    ·simp only [sb,h2];by_cases hk:o.kind=5
     ·rw [show ((o.kind:Int) == 5)=true from by simpa using hk];simp only [Af];refine AG (fun s w3=>∃ c,s=(some ⟨c,0,none⟩,())∧Aa [] w w3∧c ≠ a∧w3.heap[a]?=some (.cells #[.int .i64 o.kind,.string o.key,.string o.value,.string o.lo,.string o.hi,.int .i64 o.AD] 81 (0,0))∧w3.heap[c]?=some (.cells #[.string (mLo X.d.box.lo X.d.box.hi o.lo o.hi),.string (mHi X.d.box.lo X.d.box.hi o.lo o.hi)] 37 (0,0))) (fun J2 hJ2=>?_) ?_
      ·have hb:=g2.r.bo.ok b hx;simp only [sb,g2.hd,Bs,hx,Option.map_some,hb,Gb,h2,A5,Nat.reduceAdd];refine ⟨?_,?_⟩
       ·refine Vr _ _ _ _ fun w3 k3=>?_;refine Ad fun c w4 h4 n4 k4=>?_;have k24:=Aj (Aj (Am w2) k3) k4;have g4:=g2.Ab k24;have a4:=k24.Aw h2;have b4:=g4.r.bo.ok b hx;have nc:c ≠ a:=fun e=>by subst e;have:=Av h1;have:=k2.size;have:=k3.size;have d2:w2.drew.heap.size=w2.heap.size:=rfl;omega
        have n0:w.heap.size≤c:=by have:=k1.size;have:=k2.size;have:=k3.size;have d2:w2.drew.heap.size=w2.heap.size:=rfl;omega
        simp only [sb,g4.hd,Bs,hx,Option.map_some,b4,Gb,a4,A5,Nat.reduceAdd];refine ⟨by trivial,by trivial,by trivial,by trivial,?_⟩;refine AaD h4 rfl rfl fun w5 h5 k5=>?_;exact hJ2 _ w5 ⟨c,rfl,BT (Aj (Aj k1 k2) k24) k5 n0,nc,k5.Mw a4 (Ne.symm nc),h5⟩
       ·refine Ad fun c w3 h3 n3 k3=>?_;have k23:=Aj (Am w2) k3;have g3:=g2.Ab k23;have a3:=k23.Aw h2;have b3:=g3.r.bo.ok b hx;have nc:c ≠ a:=fun e=>by subst e;have:=Av h1;have:=k2.size;have d2:w2.drew.heap.size=w2.heap.size:=rfl;omega
        have n0:w.heap.size≤c:=by have:=k1.size;have:=k2.size;have d2:w2.drew.heap.size=w2.heap.size:=rfl;omega
        simp only [sb,g3.hd,Bs,hx,Option.map_some,b3,Gb,a3,A5,Nat.reduceAdd];refine ⟨by trivial,by trivial,by trivial,by trivial,?_⟩;refine Vr _ _ _ _ fun w4 k4=>?_;refine AaD (k4.Aw h3) rfl rfl fun w5 h5 k5=>?_;exact hJ2 _ w5 ⟨c,rfl,BT (Aj (Aj k1 k2) (Aj k23 k4)) k5 n0,nc,k5.Mw (k4.Aw a3) (Ne.symm nc),h5⟩
      ·rintro _ w3 ⟨c,rfl,k3,nc,h3,hc⟩;have h3d:w3.drew.heap[a]?=_:=h3;simp only [sb,hc];refine Ax h3d 3 _ rfl (by simp) fun w4 h4 k4=>?_;have hc4:=k4.Mw (show w3.drew.heap[c]?=_ from hc) nc;simp only [Ck] at h4;simp only [sb,hc4];refine ⟨by trivial,?_⟩;refine Ax h4 4 _ rfl (by simp) fun w5 h5 k5=>?_;simp only [Ck] at h5;refine hJ () w5 ⟨BT (BT k3.drew k4 n1) k5 n1,?_⟩;rw [h5];unfold clip;rw [if_pos hk]
     ·rw [show ((o.kind:Int) == 5)=false from by simpa using hk];simp only [sb];refine hJ () w2 ⟨Aj k1 k2,?_⟩;rw [show clip X.d.box.lo X.d.box.hi o=o from if_neg hk];exact h2
    ·rintro _ w3 ⟨k3,h3⟩;generalize hc:clip X.d.box.lo X.d.box.hi o=o' at *;have g3:=h.Ab k3;have hb:=g3.r.bo.ok b hx;simp only [sb,g3.hd,Bs,hx,Option.map_some,hb,Gb,h3];refine Ad fun c w4 h4 n4 k4=>?_;have g4:=(g3.Ab (Am w3)).Ab k4;have hb4:=g4.r.bo.ok b hx;simp only [sb,g4.hd,Bs,hx,Option.map_some,hb4,Gb];refine ⟨by trivial,by trivial,by trivial,?_⟩;have hs:=g4.r.ro.ok;have hl:=hs.BY;refine AE.app (ρ:=BQ) (new:=[o']) hs (by rw [List.flatMap_singleton];exact BI (ρ:=BQ) (x:=o') h4) rfl (by rw [R1];rfl) (by omega) (by omega) ?_;intro r w5 h5 k5 f5;have gm:w5.heap[m]?=some (.cells (Bs X).toArray 94 (0,0)):=k5.at g4.hd (fun hm=>by have:=(g4.r.ro.tag m hm).2;have:=h.t1;omega);simp only [sb,gm,Bs,hx,Option.map_some];refine ⟨by trivial,?_⟩;refine g4.uRo hx k5 h5 f5 fun w6 h6 e6=>?_;refine k _ _ w6 h6 ?_ ⟨rfl,rfl,rfl⟩ ((Aq.k0 (Aj k3.drew k4)).trans e6);rw [if_pos rfl];unfold Mc.p;dsimp only;rw [hx];rfl
end Go.Proofs.YthkdehgfdllpoaaGreat
