/- The parts of the proof, 2: words of the program, and what they do. Conditions: none. -/
import Derived.Test.YthkdehgfdllpoaaGreatPk1
import Derived.WalkKit
import Derived.ProofKit
import Derived.OpenShut
import Derived.JoinedCond
import Derived.WideKeyArgs
import Derived.SliceStrings
import Derived.Deep.Slices
import Derived.SizedLaws
import Derived.HandedShaped
import Derived.Lib.Overlaps
import Derived.Test.YthkdehgfdllpoaaGreatProg
import Derived.Test.YthkdehgfdllpoaaGreatChecked
set_option maxRecDepth 100000
set_option maxHeartbeats 1000000
set_option linter.unusedVariables false
set_option linter.unusedSimpArgs false
set_option linter.unusedSectionVars false
namespace Go.Sx
open Go
def cB (bs:List UInt8):List Value:=bs.map λb=>.int .u8 (b.toNat:Int)
theorem En (bs:List UInt8):(cB bs).length=bs.length:=by simp[cB]
theorem Ad3 (bs:List UInt8):∀v∈cB bs,v.oneCell'=true:=by simp[cB,Value.oneCell']
variable {s:Sl}{bs:List UInt8}{w:World}
theorem Abs (h:V0 s.p s.len (cB bs) w):RdB s bs w:=by
 refine⟨by have:=h.1;simpa[cB]using this,λj b hj=>?_⟩;exact h.2 j _ (by simp[cB,hj])
variable {cs:List Value}{w':World}
theorem Wy {p:Option Addr}{n:Nat}{m:List Nat}(h:V0 p n cs w)(hk:Aa m w w')(hd:∀a,p=some a->a.block∉m):V0 p n cs w':=by
 refine⟨h.1,λj v hj=>?_⟩;obtain⟨a,ha,hc⟩:=h.2 j v hj;refine⟨a,ha,?_⟩;have hb:(a.add j).block=a.block:=by unfold Addr.add;split<;>rfl
 have hlt:a.block<w.heap.size:=by
  rcases Nat.lt_or_ge a.block w.heap.size with h'|h'
  ·exact h'
  ·simp[World.cell?,hb,Array.getElem?_eq_none h']at hc
 simp only[World.cell?,hb]at hc ⊢;rw[hk.get _ hlt (hd a ha)];exact hc
theorem AE.rdb (h:AE w s 1 (cB bs)):RdB s bs w:=by
 refine Abs ?_;have:=h.rdc
 rwa [Nat.mul_one]at this
theorem AE.base {size:Nat}(h:AE w s size cs)(hp:0<s.len):∃b o,s.p=some ⟨b,o,none⟩/\Ai s=[b]:=by
 rcases h.row with hc|⟨b,o,all,t,fr,hp,_⟩
 ·have:=h.cap;omega
 ·exact⟨b,o,hp,Nk (by have:=h.cap;omega) hp⟩
variable {b:Nat}
theorem G5 {o:Nat}(hp:s.p=some ⟨b,o,none⟩){i:Int}(h0:0<=i)(h1:i<s.len)(size:Nat)(K:Addr->Pr)(w:World):Ix s i size K w=K ⟨b,o+i.toNat*size,none⟩ w:=by
 unfold Ix;rw[hp];simp only[Cr,h0,h1,true_and]
theorem AE.read {size:Nat}(h:AE w s size cs){b o:Nat}(hp:s.p=some ⟨b,o,none⟩){j:Nat}(hj:j<cs.length):Bg w.heap[b]? (o+j)=cs[j]?:=by
 rcases h.row with hc|⟨b',o',all,t,fr,hp',hb,h1,h2,h3⟩
 ·exact absurd hj (by have:=h.len;have hc':=h.cap;have:s.len=0:=(by omega);simp_all)
 ·rw[hp,Option.some.injEq,Addr.mk.injEq]at hp';obtain⟨rfl,rfl,_⟩:=hp';rw[hb];exact h2 j hj
theorem AE.write {size:Nat}(h:AE w s size cs){b o:Nat}(hp:s.p=some ⟨b,o,none⟩){j:Nat}(hj:j<cs.length){v:Value}(hv:v.oneCell'=true){K:Pr}(k:∀w',AE w' s size (cs.set j v)->Aa [b] w w'->K w'):St ⟨b,o+j,none⟩ v K w:=by
 rcases h.row with hc|⟨b',o',all,t,fr,hp',hb,h1,h2,h3⟩
 ·exact absurd hj (by have:=h.len;have hc':=h.cap;have:s.len=0:=(by omega);simp_all)
 ·rw[hp,Option.some.injEq,Addr.mk.injEq]at hp';obtain⟨rfl,rfl,_⟩:=hp';have hl:=h.len;have hcap:s.len*size<=s.cap*size:=Nat.mul_le_mul_right _ h.cap;refine Aea hb hv (by omega) (h3 j (by omega)) (k _ ⟨by simpa using hl,h.cap,.inr ⟨b,o,_,t,fr,hp,AW (Av hb),by simpa using h1,λi hi=>?_,h3⟩⟩ ((Aa.refl _ _).A3 (.inl (by simp)) _));rw[List.length_set]at hi;by_cases hij:j=i
  ·subst hij;rw[Array.getElem?_setIfInBounds_self,if_pos (by omega)];simp[hj]
  ·rw[Array.getElem?_setIfInBounds_ne (by omega),h2 i hi,List.getElem?_set_ne hij]
def Me (cs:List Value)(k:Nat)(vs:List Value):List Value:=cs.take k++vs++cs.drop (k+vs.length)
variable {vs:List Value}{k:Nat}
theorem IH (h:k+vs.length<=cs.length):(Me cs k vs).length=cs.length:=by
 simp[Me];omega
theorem Ms (h:k+vs.length<=cs.length)(j:Nat):(Me cs k vs)[j]?=if k<=j/\j<k+vs.length then vs[j-k]? else cs[j]?:=by
 unfold Me;have hk:(cs.take k).length=k:=by simp;omega
 by_cases h1:j<k
 ·rw[if_neg (by omega),List.append_assoc,List.getElem?_append_left (by omega),List.getElem?_take,if_pos h1]
 ·by_cases h2:j<k+vs.length
  ·rw[if_pos (by omega),List.append_assoc,List.getElem?_append_right (by omega),hk,List.getElem?_append_left (by omega)]
  ·rw[if_neg (by omega),List.getElem?_append_right (by simp;omega),List.getElem?_drop]
   congr 1
   simp;omega
theorem AE.writes {size:Nat}(h:AE w s size cs){b o:Nat}(hp:s.p=some ⟨b,o,none⟩){k:Nat}{vs:List Value}(hj:k+vs.length<=cs.length)(hv:∀v∈vs,v.oneCell'=true){K:Pr}(kk:∀w',AE w' s size (Me cs k vs)->Aa [b] w w'->K w'):Xc vs ⟨b,o+k,none⟩ 0 K w:=by
 rcases h.row with hc|⟨b',o',all,t,fr,hp',hb,h1,h2,h3⟩
 ·have hl:=h.len;have hc':=h.cap;have h0:s.len=0:=by omega
  rw[h0,Nat.zero_mul]at hl;have hv0:vs=[]:=List.eq_nil_of_length_eq_zero (by omega);subst hv0;have hcs:cs=[]:=List.eq_nil_of_length_eq_zero hl;subst hcs;exact kk w (by simpa[Me]using h) (Aa.refl _ _)
 ·rw[hp,Option.some.injEq,Addr.mk.injEq]at hp';obtain⟨rfl,rfl,_⟩:=hp';have hl:=h.len;have hcap:s.len*size<=s.cap*size:=Nat.mul_le_mul_right _ h.cap;refine Ra hb (by omega) hv (λj _ hj'=>by rw[Nat.add_assoc];exact h3 _ (by omega)) (kk _ ⟨by rw[IH hj];exact hl,h.cap,.inr ⟨b,o,_,t,fr,hp,AW (Av hb),by rw[Qt];exact h1,λi hi=>?_,h3⟩⟩ ((Aa.refl _ _).A3 (.inl (by simp)) _));rw[IH hj]at hi;rw[P7 _ _ _ _ (by omega),Ms hj];by_cases hc:k<=i/\i<k+vs.length
  ·rw[if_pos (by omega),if_pos hc]
   congr 1
   omega
  ·rw[if_neg (by omega),if_neg hc,h2 i hi]
theorem Aah (s:Sl)(l size n c:Nat):OT ⟨A7 s.p s.cap l size,n,c⟩=OT s:=by
 unfold OT A7;cases hp:s.p with
 |none=>simp
 |some a=>
  have hadd:(a.add (l*size)).block=a.block:=by unfold Addr.add;split<;>rfl
  by_cases hc:s.cap=l
  ·simp only[if_pos hc]
  ·simp only[if_neg hc,Option.map_some,hadd]
theorem AcV (s:Sl)(l size n c:Nat)(hc:c<=s.cap):∀x∈Ai ⟨A7 s.p s.cap l size,n,c⟩,x∈Ai s:=by
 intro x hx;have h1:=Ae2 _ x hx;rw[Aah]at h1;unfold Ai at hx ⊢;cases hc':c with
 |zero=>subst hc';cases hx
 |succ k=>
  cases hs:s.cap with
  |zero=>omega
  |succ n=>exact h1
theorem AE.sub {size:Nat}(h:AE w s size cs){lo hi:Nat}(h1:lo<=hi)(h2:hi<=s.len):AE w ⟨A7 s.p s.cap lo size,hi-lo,s.cap-lo⟩ size ((cs.drop (lo*size)).take ((hi-lo)*size)):=by
 have hl:=h.len;have hc:=h.cap;have e1:(hi-lo)*size+lo*size=hi*size:=by rw[<-Nat.add_mul];congr 1;omega
 have e2:hi*size<=s.len*size:=Nat.mul_le_mul_right _ h2;have hlen:((cs.drop (lo*size)).take ((hi-lo)*size)).length=(hi-lo)*size:=by
  simp;omega
 refine⟨hlen,by simp only;omega,?_⟩;rcases h.row with h0|⟨b,o,all,t,fr,hp,hb,h3,h4,h5⟩
 ·exact .inl (by simp only;omega)
 ·by_cases hz:s.cap=lo
  ·
   refine .inr ⟨b,o,all,t,fr,?_,hb,?_,?_,?_⟩
   ·simp[A7,hz,hp]
   ·simp only[hz,Nat.sub_self,Nat.zero_mul];omega
   ·intro j hj;rw[hlen]at hj;have:hi-lo=0:=by omega
    rw[this]at hj;omega
   ·intro j hj;simp only[hz,Nat.sub_self,Nat.zero_mul]at hj;omega
  ·have e3:(s.cap-lo)*size+lo*size=s.cap*size:=by rw[<-Nat.add_mul];congr 1;omega
   refine .inr ⟨b,o+lo*size,all,t,fr,?_,hb,?_,?_,?_⟩
   ·simp[A7,hz,hp,Cr]
   ·simp only;omega
   ·intro j hj;rw[hlen]at hj;rw[List.getElem?_take,if_pos hj,List.getElem?_drop,Nat.add_assoc];exact h4 _ (by omega)
   ·intro j hj;simp only at hj;rw[Nat.add_assoc];exact h5 _ (by omega)
variable {α:Type}
theorem AP {enc:α->List Value}{size:Nat}(he:∀x,(enc x).length=size)(l:List α):(l.flatMap enc).length=l.length*size:=by
 induction l with
 |nil=>simp
 |cons x l ih=>simp only[List.flatMap_cons,List.length_append,ih,he,List.length_cons,Nat.succ_mul];omega
theorem UF {α:Type}{enc:α->List Value}{size:Nat}(he:∀x,(enc x).length=size):∀(l:List α) (i j:Nat),j<size->(l.flatMap enc)[i*size+j]?=l[i]?.bind λx=>(enc x)[j]?
 |[],i,j,hj=>by simp
 |x::l,i,j,hj=>by
  rw[List.flatMap_cons];cases i with
  |zero=>
   rw[Nat.zero_mul,Nat.zero_add,List.getElem?_append_left (by rw[he];exact hj)];rfl
  |succ i=>
   rw[List.getElem?_append_right (by rw[he,Nat.succ_mul];omega),he,Nat.succ_mul,show i*size+size+j-size=i*size+j from by omega,UF he l i j hj];simp
theorem YQ {α:Type}{enc:α->List Value}{size:Nat}(he:∀x,(enc x).length=size):∀(l:List α) (i:Nat) (y:α),i<l.length->Me (l.flatMap enc) (i*size) (enc y)=(l.set i y).flatMap enc
 |[],i,y,hi=>by simp at hi
 |x::l,i,y,hi=>by
  cases i with
  |zero=>
   simp only[Me,Nat.zero_mul,List.take_zero,List.nil_append,Nat.zero_add,List.flatMap_cons,List.set_cons_zero,he]
   congr 1
   rw[List.drop_append];simp[he]
  |succ i=>
   have ih:=YQ he l i y (by simpa using hi);simp only[List.set_cons_succ,List.flatMap_cons];rw[<-ih];simp only[Me,Nat.succ_mul];rw[List.take_append,List.drop_append,List.take_of_length_le (by rw[he];omega),List.drop_of_length_le (by rw[he];omega),he];simp only[List.nil_append,List.append_assoc]
   congr 2
   ·congr 1
    omega
   ·congr 2
    omega
theorem JO {α:Type}{enc:α->List Value}{size:Nat}(he:∀x,(enc x).length=size):∀(l:List α) (n:Nat),(l.flatMap enc).take (n*size)=(l.take n).flatMap enc
 |[],n=>by simp
 |x::l,n=>by
  cases n with
  |zero=>simp
  |succ n=>
   simp only[List.flatMap_cons,List.take_succ_cons];rw[List.take_append,List.take_of_length_le (by rw[he,Nat.succ_mul];omega),he,<-JO he l n,Nat.succ_mul]
   congr 2
   omega
theorem Qy {α:Type}{enc:α->List Value}{size:Nat}(he:∀x,(enc x).length=size):∀(l:List α) (n:Nat),(l.flatMap enc).drop (n*size)=(l.drop n).flatMap enc
 |[],n=>by simp
 |x::l,n=>by
  cases n with
  |zero=>simp
  |succ n=>
   simp only[List.flatMap_cons,List.drop_succ_cons];rw[List.drop_append,List.drop_of_length_le (by rw[he,Nat.succ_mul];omega),he,<-Qy he l n,Nat.succ_mul,List.nil_append]
   congr 1
   omega
theorem AE.Abh {size:Nat}(h:AE w s size cs){b o:Nat}(hp:s.p=some ⟨b,o,none⟩){off:Nat}(j:Nat)(ho:off=o+j)(hj:j<cs.length){v:Value}(hv:v.oneCell'=true){K:Pr}(k:∀w',AE w' s size (cs.set j v)->Aa [b] w w'->K w'):St ⟨b,off,none⟩ v K w:=by
 subst ho;exact h.write hp hj hv k
theorem QA (s:ByteArray):FU s=cB s.data.toList:=by
 simp[FU,cB]
theorem TC {K:ByteArray->Pr}(h:RdB s bs w)(k:K ⟨bs.toArray⟩ w):AcH s K w:=⟨bs,h,k⟩
open Go Go.ChangeShapes Go.WideShapes Go.ChangeAt Go.RowKit
theorem Aa.below (h:Aa [] w w'):Below w.heap.size w w':=⟨h.os,h.tape,h.output,h.size,λk hk=>h.get k hk (by simp)⟩
section
variable {H:Type}{enc:TypeId×Value->H}{P:Program}
theorem Ol {W W':World}{sp':Nat->Bool}(hl:laidOutB P=true):∀{ts:List TypeId} {vs:List Value} {ds:List (DataW H)} {ps:List MemPlace},
  (ts.all λt=>P.readableRec t&&decide (t<P.types.size))=true->DataW.TrodAll enc P W 0 (λ_=>true) true ts vs ds ps->(∀p∈ps,W.sameAt W' p)->(∀p∈ps,sp' p.block=true)->DataW.TrodAll enc P W' 0 sp' true ts vs ds ps
 |[],_,_,_,_,h,_,_=>by
  obtain⟨rfl,rfl,rfl⟩:=trodAll_nil h;exact trodAll_mk0
 |t::ts,_,_,_,hp,h,hs,hb=>by
  obtain⟨v,vs1,d,ds1,a,b,rfl,rfl,rfl,h1,h2⟩:=trodAll_cons h;simp only[List.all_cons,Bool.and_eq_true,decide_eq_true_eq]at hp
  exact⟨a,b,WideElems.Trod_stays hl hp.1.1 hp.1.2 h1 (λp hp'=>hs p (by simp[hp'])) (λp hp'=>hb p (by simp[hp'])),
   Ol hl (by simpa using hp.2) h2 (λp hp'=>hs p (by simp[hp'])) (λp hp'=>hb p (by simp[hp'])),rfl⟩
variable {W:World}
theorem Aev {f:Func}{s:ChangeSpec}{apart fresh handsOn:Bool}{W':World}{args:Array Value}{ds gs:List (DataW H)}{before:List MemPlace}{tb:TypeId}(hW:DataW.Whole enc P f.params.toList s.vars apart W args.toList ds gs before)(hv:s.vars=[])(hs:s.fn H (ds++gs)={results:=[.lit (.bool true)],args:=ds})(hr:f.resultTypes=#[tb])(htb:P.underlying tb=some .bool)(hl:laidOutB P=true)(hp:(f.params.toList.all λt=>P.readableRec t&&decide (t<P.types.size))=true)(hk:Aa [] W W'):
  s.post enc P f apart fresh handsOn false W args (.bool true) W':=by
 have hlt:=hW.lt;have hW':=hW;obtain⟨p,q,hA,hV,rfl,hfz,hnd⟩:=hW;rw[hv]at hV;obtain⟨rfl,rfl⟩:=trodVars_none hV;rw[List.append_nil]at hlt;refine⟨ds,[],p++[],[],p,[],hW',?_,?_,?_,hk.below.frame _,by simp⟩
 ·rw[hs,hr];exact trodAll_cons_mk (shut_bool htb _) trodAll_mk0
 ·rw[hs];exact Ol hl hp hA (λx hx=>hk.below.same (hlt x hx)) (λx hx=>by simpa using hlt x hx)
 ·rw[hs,hv];rfl
variable {args:List Value}
theorem Ac7 {f:Func}{i:FuncId}{s:ChangeSpec}{apart fresh handsOn:Bool}{ds gs:List (DataW H)}{before:List MemPlace}{tb:TypeId}(hW:DataW.Whole enc P f.params.toList s.vars apart W args ds gs before)(hv:s.vars=[])(hs:s.fn H (ds++gs)={results:=[.lit (.bool true)],args:=ds})(hr:f.resultTypes=#[tb])(htb:P.underlying tb=some .bool)(hl:laidOutB P=true)(hp:(f.params.toList.all λt=>P.readableRec t&&decide (t<P.types.size))=true)(h:Cl P i args false [.sc .b] (λr w'=>r.1=true/\Aa [] W w') W):
  Calls P i args.toArray W λe W'=>∃v,e=.returned v/\s.post enc P f apart fresh handsOn false W args.toArray v W':=by
 refine h.2.mono λe W' he=>?_;cases e with
 |returned v=>
  obtain⟨r,rfl,h1,hk⟩:=he;refine⟨_,rfl,?_⟩;obtain⟨r1,r2⟩:=r;simp only at h1;subst h1;exact Aev (args:=args.toArray) (by simpa using hW) hv hs hr htb hl hp hk
 |panicked c=>exact he.elim
 |outgrown=>exact he.elim
end
open Go
theorem Eh (p:Option Addr)(c size:Nat):A7 p c 0 size=p:=by
 unfold A7;split
 ·rfl
 ·cases p with
  |none=>rfl
  |some a=>simp[Addr.add]
variable {e:TypeId}{K:Sl->Pr}
theorem Ad9 {s:ByteArray}(k:∀(r:Sl) (w':World),AE w' r 1 (cB s.data.toList)->Aa [] w w'->(∀x∈Ai r,w.heap.size<=x)->r.len=s.size->K r w'):AfV e s K w:=by
 intro c hc;have hs:s.data.toList.length=s.size:=by rw[Array.length_toList];rfl
 refine k _ _ ⟨by rw[En,hs,Nat.mul_one],hc,.inr ⟨_,0,_,_,_,rfl,Bt w.drew _,?_,?_,?_⟩⟩ ((Aa.refl [] w).drew.alloc _) (λx hx=>Nat.le_of_eq (PV rfl x hx).symm) rfl
 ·simp only[QA,List.size_toArray,List.length_append,List.length_replicate,En,hs];omega
 ·intro j hj;rw[Nat.zero_add,List.getElem?_toArray,QA,List.getElem?_append_left hj]
 ·intro j hj;simp only[Nat.mul_one]at hj;simp only[Nat.zero_add,Bool.and_eq_false_iff,decide_eq_false_iff_not];omega
theorem AE.item {enc:α->List Value}{size:Nat}(he:∀x,(enc x).length=size){w:World}{s:Sl}{l:List α}(h:AE w s size (l.flatMap enc)){b o:Nat}(hp:s.p=some ⟨b,o,none⟩){k:Nat}{x:α}(hx:l[k]?=some x)(j:Nat)(hj:j<size):
  Bg w.heap[b]? (o+k*size+j)=(enc x)[j]?:=by
 have hk:=(List.getElem?_eq_some_iff.1 hx).1;have hm:(k+1)*size<=l.length*size:=Nat.mul_le_mul_right _ hk;rw[Nat.succ_mul]at hm;rw[Nat.add_assoc,h.read hp (by rw[AP he];omega),UF he l k j hj,hx];rfl
open Go Go.ChangeShapes Go.WideShapes Go.ChangeAt Go.RowKit
theorem Y5 (a:Addr)(i j:Nat):(a.add i).add j=a.add (i+j):=by unfold Addr.add;split<;>split<;>split<;>simp_all<;>omega
theorem Hw {n:Nat}:∀{rows:List (List Value)},(∀r∈rows,r.length=n)->rows.flatten.length=rows.length*n
 |[],_=>by simp
 |r::rows,h=>by
  rw[List.flatten_cons,List.length_append,Hw λr hr=>h r (List.mem_cons_of_mem _ hr),h r List.mem_cons_self,List.length_cons,Nat.succ_mul];omega
theorem RD {n:Nat}:∀{rows:List (List Value)},(∀r∈rows,r.length=n)->∀(i j:Nat),j<n->rows.flatten[i*n+j]?=rows[i]?.bind λr=>r[j]?
 |[],_,i,j,_=>by simp
 |r::rows,h,i,j,hj=>by
  have hr:=h r List.mem_cons_self;rw[List.flatten_cons];cases i with
  |zero=>rw[Nat.zero_mul,Nat.zero_add,List.getElem?_append_left (by omega)];rfl
  |succ i=>
   rw[List.getElem?_append_right (by rw[Nat.succ_mul];omega),hr,Nat.succ_mul,show i*n+n+j-n=i*n+j from by omega,RD (λr hr=>h r (List.mem_cons_of_mem _ hr)) i j hj];simp
open Go
theorem B1 {n:Nat}(h:n<2 ^ 64):IntKind.u64.wrap (n:Int)=n:=by
 simp[IntKind.wrap,IntKind.bits,IntKind.signed];omega
theorem MR (n:Nat):IntKind.u8.wrap (n:Int)=((n % 256:Nat):Int):=by
 simp[IntKind.wrap,IntKind.bits,IntKind.signed]
theorem Tx {n:Nat}(h:n<2 ^ 63):An (n:Int)=n:=by
 simp only[An];exact IntWalk.i64_in _ (by omega)
theorem By {n:Int}(h1:-9223372036854775808<=n)(h2:n<=9223372036854775807):An n=n:=by
 simp only[An];exact IntWalk.i64_in _ (by omega)
theorem Ae3 {a:Nat}(ha:a<2 ^ 64)(hb:b<2 ^ 64):AfX .u64 (a:Int) (b:Int)=((a &&& b:Nat):Int):=by
 have hab:a &&& b<2 ^ 64:=Nat.lt_of_le_of_lt Nat.and_le_left ha;have e:((BitVec.ofInt 64 (a:Int)) &&& (BitVec.ofInt 64 (b:Int))).toNat=a &&& b:=by
  simp only[BitVec.ofInt_natCast,BitVec.toNat_and,BitVec.toNat_ofNat,Nat.mod_eq_of_lt ha,Nat.mod_eq_of_lt hb]
 show IntKind.u64.wrap ((((BitVec.ofInt 64 (a:Int)) &&& (BitVec.ofInt 64 (b:Int))).toNat:Nat):Int)=_;rw[e];exact B1 hab
theorem PI (k:IntKind)(a s:Nat)(hs:s<=k.bits):IW k (a:Int) (s:Int)=((a >>> s:Nat):Int):=by
 simp only[IW,Int.toNat_natCast,Nat.min_eq_left hs,Nat.shiftRight_eq_div_pow];rw[show((2:Int) ^ s)=((2 ^ s:Nat):Int)from by simp,Int.fdiv_eq_ediv_of_nonneg _ (Int.natCast_nonneg _)];rfl
theorem Af9 (a s:Nat)(hs:s<=64):Adw .u64 (a:Int) (s:Int)=((a <<< s % 2 ^ 64:Nat):Int):=by
 simp only[Adw,Int.toNat_natCast,IntKind.bits,Nat.min_eq_left hs,Nat.shiftLeft_eq];rw[show((2:Int) ^ s)=((2 ^ s:Nat):Int)from by simp,<-Int.natCast_mul];simp only[IntKind.wrap,IntKind.bits,IntKind.signed];simp
theorem TX (j c:Nat):(j:Int).tdiv (c:Int)=((j / c:Nat):Int):=by
 rw[Int.tdiv_eq_ediv_of_nonneg (Int.natCast_nonneg _)];rfl
theorem AjH (j c:Nat):(j:Int).tmod (c:Int)=((j % c:Nat):Int):=by
 rw[Int.tmod_eq_emod_of_nonneg (Int.natCast_nonneg _)];rfl
open Go Go.ChangeShapes Go.WideShapes Go.ChangeAt Go.RowKit
theorem Y9 {α:Type}{enc:α->List Value}{Q:α->Prop}:∀{rows:List (List Value)},(∀row∈rows,∃x,row=enc x/\Q x)->∃xs:List α,rows.flatten=xs.flatMap enc/\rows.length=xs.length/\∀x∈xs,Q x
 |[],_=>⟨[],rfl,rfl,by simp⟩
 |row::rows,h=>by
  obtain⟨x,rfl,hx⟩:=h row List.mem_cons_self;obtain⟨xs,h1,h2,h3⟩:=Y9 λr hr=>h r (List.mem_cons_of_mem _ hr);exact⟨x::xs,by simp[h1],by simp[h2],λy hy=>by rcases List.mem_cons.1 hy with rfl|hy;exact hx;exact h3 y hy⟩
open Go
structure A4 (F:Nat->Prop)(w w':World):Prop where
 os:w'.os=w.os
 tape:w'.tape=w.tape
 output:w'.output=w.output
 size:w.heap.size<=w'.heap.size
 get:∀k,k<w.heap.size->¬F k->w'.heap[k]?=w.heap[k]?
variable {F:Nat->Prop}
theorem Aa.FY {m:List Nat}(h:Aa m w w')(hm:∀x∈m,F x\/w.heap.size<=x):A4 F w w':=
 ⟨h.os,h.tape,h.output,h.size,λk hk hn=>h.get k hk (λhh=>by rcases hm k hh with hh|hh;exact hn hh;omega)⟩
theorem A4.toL (h:A4 F w w')(hm:∀x,F x->w.heap.size<=x):Aa [] w w':=
 ⟨h.os,h.tape,h.output,h.size,λk hk _=>h.get k hk (λhh=>by have:=hm k hh;omega)⟩
theorem A4.refl (F:Nat->Prop)(w:World):A4 F w w:=⟨rfl,rfl,rfl,Nat.le_refl _,λ_ _ _=>rfl⟩
theorem A4.trans {F G:Nat->Prop}{a b c:World}(h:A4 F a b)(k:A4 G b c)(hm:∀x,G x->F x\/a.heap.size<=x):A4 F a c:=
 ⟨k.os.trans h.os,k.tape.trans h.tape,k.output.trans h.output,Nat.le_trans h.size k.size,λi hi hn=>by
  rw[k.get i (Nat.lt_of_lt_of_le hi h.size) (λhh=>by rcases hm i hh with hh|hh;exact hn hh;omega)];exact h.get i hi hn⟩
theorem A4.mono {G:Nat->Prop}(h:A4 F w w')(hm:∀x,F x->G x\/w.heap.size<=x):A4 G w w':=
 ⟨h.os,h.tape,h.output,h.size,λk hk hn=>h.get k hk (λhh=>by rcases hm k hh with hh|hh;exact hn hh;omega)⟩
theorem A4.at (h:A4 F w w'){b:Nat}{o:Obj}(hb:w.heap[b]?=some o)(hn:¬F b):w'.heap[b]?=some o:=(h.get b (Av hb) hn).trans hb
theorem A4.list (h:A4 F w w'){l:List Nat}(hl:∀x∈l,¬F x):∃m,Aa m w w'/\∀x∈l,x∉m:=by
 refine⟨(List.range w.heap.size).filter (λx=>!(decide (x∈l))),⟨h.os,h.tape,h.output,h.size,λk hk hn=>?_⟩,λx hx=>by simp[hx]⟩;refine h.get k hk (hl k ?_);simp at hn;exact hn hk
theorem AE.Ue {size:Nat}(h:AE w s size cs)(hk:A4 F w w')(hd:∀x∈Ai s,¬F x):AE w' s size cs:=by
 obtain⟨m,h1,h2⟩:=hk.list hd;exact h.keeps h1 h2
def Fr (F F':Nat->Prop)(w:World):Prop:=∀x,F' x->F x\/w.heap.size<=x
def Bl (F:Nat->Prop)(w:World):Prop:=∀x,F x->x<w.heap.size
def Dj (F G:Nat->Prop):Prop:=∀x,F x->¬G x
theorem Fr.refl (F:Nat->Prop)(w:World):Fr F F w:=λ_ h=>.inl h
variable {a:World}
theorem Fr.trans {G H:Nat->Prop}{b:World}(h:Fr F G a)(k:Fr G H b)(hs:a.heap.size<=b.heap.size):Fr F H a:=λx hx=>by
 rcases k x hx with h1|h1
 ·exact h x h1
 ·exact .inr (Nat.le_trans hs h1)
def RW {κ:Type}[DecidableEq κ](d:TypeDesc)(ek:κ->Value):Prop:=∀a b,Instr.sameNow d (ek a) (ek b)=some (decide (a=b))
theorem GM (k:IntKind):RW (.int k) (Value.int k):=λa b=>by
 simp only[Instr.sameNow,if_true]
 congr 1
structure MpA {κ:Type}(ek:κ->Value)(kv:List (κ×Value))(es:List MapEntry)(c:Nat):Prop where
 Aau:es.map (λe=>(e.key,e.val))=kv.map (λp=>(ek p.1,p.2))
 nd:(kv.map Prod.fst).Nodup
 born:(es.map (·.born)).Nodup
 lt:∀e∈es,e.born<c
def Vj {κ:Type}(w:World)(m:Nat)(ek:κ->Value)(kv:List (κ×Value)):Prop:=∃es c,w.heap[m]?=some (.map es c)/\MpA ek kv es.toList c
section
variable {κ:Type}[DecidableEq κ]
def Jd (k:κ)(l:List (κ×Value)):Option Value:=match l with
 |[]=>none
 |p::r=>if k=p.1 then some p.2 else Jd k r
def S2 (k:κ)(v:Value):List (κ×Value)->List (κ×Value)
 |[]=>[(k,v)]
 |p::r=>if k=p.1 then(k,v)::r else p::S2 k v r
def AhG (k:κ):List (κ×Value)->List (κ×Value)
 |[]=>[]
 |p::r=>if k=p.1 then r else p::AhG k r
theorem Uy {k:κ}{l:List (κ×Value)}{v:Value}(h:Jd k l=some v):(k,v)∈l:=by
 induction l with
 |nil=>cases h
 |cons p r ih=>
  simp only[Jd]at h;split at h
  ·rename_i hk;cases h;subst hk;exact List.mem_cons_self
  ·exact List.mem_cons_of_mem _ (ih h)
theorem Ade (k:κ)(v:Value)(l:List (κ×Value)):(S2 k v l).map Prod.fst=if k∈l.map Prod.fst then l.map Prod.fst else l.map Prod.fst++[k]:=by
 induction l with
 |nil=>simp[S2]
 |cons p r ih=>
  simp only[S2];split
  ·rename_i hk;simp[hk]
  ·rename_i hk;simp only[List.map_cons,ih,List.mem_cons,hk,false_or];split<;>rfl
theorem Um {k:κ}{v:Value}{l:List (κ×Value)}(h:(l.map Prod.fst).Nodup):((S2 k v l).map Prod.fst).Nodup:=by
 rw[Ade];split
 ·exact h
 ·rename_i hk;rw[List.nodup_append];refine⟨h,by simp,λa ha b hb=>?_⟩;simp at hb;subst hb;intro he;subst he;exact hk ha
def EW (k:κ):List (κ×Value)->Nat->Option (Nat×Value)
 |[],_=>none
 |p::r,n=>if k=p.1 then some (n,p.2)else EW k r (n+1)
theorem OB {d:TypeDesc}{ek:κ->Value}(ho:RW d ek)(k:κ):∀{es:List MapEntry} {kv:List (κ×Value)} (n:Nat),es.map (λe=>(e.key,e.val))=kv.map (λp=>(ek p.1,p.2)) ->
  Instr.findNow d (ek k) es n=some (EW k kv n)
 |[],kv,n,h=>by cases kv with
  |nil=>rfl
  |cons p r=>simp at h
 |e::es,kv,n,h=>by
  cases kv with
  |nil=>simp at h
  |cons p r=>
   simp only[List.map_cons,List.cons.injEq,Prod.mk.injEq]at h;simp only[Instr.findNow,h.1.1,ho k p.1,EW];by_cases hk:k=p.1
   ·rw[decide_eq_true hk,if_pos hk,h.1.2]
   ·rw[decide_eq_false hk,if_neg hk];exact OB ho k (n+1) h.2
theorem Wx (k:κ):∀(l:List (κ×Value)) (n:Nat),(EW k l n).map (·.2)=Jd k l
 |[],n=>rfl
 |p::r,n=>by
  simp only[EW,Jd];split
  ·rfl
  ·exact Wx k r (n+1)
theorem V2 {k:κ}:∀{l:List (κ×Value)} {n i:Nat} {v:Value},EW k l n=some (i,v)->n<=i/\l[i-n]?=some (k,v)
 |[],n,i,v,h=>by cases h
 |p::r,n,i,v,h=>by
  simp only[EW]at h;split at h
  ·rename_i hk;simp only[Option.some.injEq,Prod.mk.injEq]at h;obtain⟨rfl,rfl⟩:=h;exact⟨Nat.le_refl _,by subst hk;simp⟩
  ·obtain⟨h1,h2⟩:=V2 h;refine⟨by omega,?_⟩;rw[show i-n=(i-(n+1))+1 from by omega,List.getElem?_cons_succ];exact h2
theorem UX {k:κ}{v':Value}:∀{l:List (κ×Value)} {n i:Nat} {v:Value},EW k l n=some (i,v)->S2 k v' l=l.set (i-n) (k,v')
 |[],n,i,v,h=>by cases h
 |p::r,n,i,v,h=>by
  simp only[EW]at h;simp only[S2];split at h
  ·rename_i hk;simp only[Option.some.injEq,Prod.mk.injEq]at h;obtain⟨rfl,rfl⟩:=h;rw[if_pos hk];simp
  ·rename_i hk;obtain⟨h1,_⟩:=V2 h;rw[if_neg hk,UX h,show i-n=(i-(n+1))+1 from by omega,List.set_cons_succ]
theorem Pe {k:κ}:∀{l:List (κ×Value)} {n:Nat},EW k l n=none->k∉l.map Prod.fst/\(∀v,S2 k v l=l++[(k,v)])/\AhG k l=l
 |[],n,h=>⟨by simp,λv=>rfl,rfl⟩
 |p::r,n,h=>by
  simp only[EW]at h;split at h
  ·cases h
  ·rename_i hk;obtain⟨h1,h2,h3⟩:=Pe h;refine⟨by simp only[List.map_cons,List.mem_cons,not_or];exact⟨hk,h1⟩,λv=>?_,?_⟩
   ·simp only[S2,if_neg hk,h2];rfl
   ·simp only[AhG,if_neg hk,h3]
variable {m:Nat}{d:TypeDesc}
theorem AbK {ek:κ->Value}{kv:List (κ×Value)}(ho:RW d ek)(h:Vj w m ek kv)(k:κ){K:Option Value->Pr}(hk:K (Jd k kv) w):Lk d (some m) (ek k) K w:=by
 obtain⟨es,c,hb,ha⟩:=h;refine⟨es.toList,EW k kv 0,⟨c,by simpa using hb⟩,OB ho k 0 ha.Aau,?_⟩;rw[<-Wx k kv 0]at hk;cases hf:EW k kv 0 with
 |none=>rw[hf]at hk;exact hk
 |some p=>rw[hf]at hk;exact hk
theorem Ae6 {ek:κ->Value}{kv:List (κ×Value)}(ho:RW d ek)(h:Vj w m ek kv){k:κ}{kd:Kd}{z x:kd.T}{K:kd.T->Bool->Pr}(hg:Jd k kv=some (kd.enc x))(hk:K x true w):LkK kd z d (some m) (ek k) K w:=
 AbK ho h k (by rw[hg];exact⟨x,rfl,hk⟩)
theorem AdI {ek:κ->Value}{kv:List (κ×Value)}(ho:RW d ek)(h:Vj w m ek kv){k:κ}{kd:Kd}{z:kd.T}{K:kd.T->Bool->Pr}(hg:Jd k kv=none)(hk:K z false w):LkK kd z d (some m) (ek k) K w:=
 AbK ho h k (by rw[hg];exact hk)
theorem Vj.CM {ek:κ->Value}{kv:List (κ×Value)}{l:List Nat}(h:Vj w m ek kv)(hk:Aa l w w')(hn:m∉l):Vj w' m ek kv:=by
 obtain⟨es,c,hb,ha⟩:=h;exact⟨es,c,hk.at hb hn,ha⟩
theorem Vj.lt {ek:κ->Value}{kv:List (κ×Value)}(h:Vj w m ek kv):m<w.heap.size:=by
 obtain⟨es,c,hb,_⟩:=h;exact Av hb
theorem Vj.new (w:World)(ek:κ->Value):Vj (w.alloc (.map #[] 0)) w.heap.size ek ([]:List (κ×Value)):=⟨#[],0,Bt w _,by simp,by simp,by simp,by simp⟩
theorem AhT {es:Array MapEntry}{ek:κ->Value}{kv:List (κ×Value)}{c:Nat}(ha:MpA ek kv es.toList c){k:κ}{i:Nat}{v v':Value}(hf:EW k kv 0=some (i,v)){e':MapEntry->MapEntry}(h1:∀e,(e' e).key=ek k)(h2:∀e,(e' e).val=v')(h3:∀e,(e' e).born=e.born):
  MpA ek (S2 k v' kv) (es.modify i e').toList c:=by
 obtain⟨_,hi⟩:=V2 hf;rw[Nat.sub_zero]at hi;have hset:(es.modify i e').toList.map (·.born)=es.toList.map (·.born):=by
  apply List.ext_getElem?;intro j;simp only[Array.toList_modify,List.getElem?_map,List.getElem?_modify];split
  ·cases es.toList[j]?<;>simp[h3]
  ·cases es.toList[j]?<;>simp
 refine⟨?_,Um ha.nd,by rw[hset];exact ha.born,λe he=>?_⟩
 ·rw[UX hf,Nat.sub_zero];apply List.ext_getElem?;intro j;have hj:=congrArg (·[j]?) ha.Aau;simp only[List.getElem?_map]at hj;simp only[Array.toList_modify,List.getElem?_map,List.getElem?_modify,List.getElem?_set];by_cases hij:i=j
  ·subst hij;have hlt:=(List.getElem?_eq_some_iff.1 hi).1;simp only[if_true];rw[hi]at hj;cases he:es.toList[i]? with
   |none=>rw[he]at hj;simp at hj
   |some e=>simp[h1,h2,hlt]
  ·rw[if_neg hij];simp only[if_neg hij];cases he:es.toList[j]? with
   |none=>rw[he]at hj;simpa using hj
   |some e=>rw[he]at hj;simpa using hj
 ·have hm:e.born∈(es.modify i e').toList.map (·.born):=List.mem_map_of_mem he;rw[hset]at hm;obtain⟨e0,he0,hb⟩:=List.mem_map.1 hm;rw[<-hb];exact ha.lt e0 he0
theorem AgS {es:Array MapEntry}{ek:κ->Value}{kv:List (κ×Value)}{c:Nat}(ha:MpA ek kv es.toList c){k:κ}{v:Value}(hf:EW k kv 0=none):MpA ek (S2 k v kv) (es.push {key:=ek k,val:=v,born:=c}).toList (c+1):=by
 obtain⟨h1,h2,_⟩:=Pe hf;refine⟨?_,Um ha.nd,?_,λe he=>?_⟩
 ·rw[h2];simp[ha.Aau]
 ·simp only[Array.toList_push,List.map_append,List.map_cons,List.map_nil];rw[List.nodup_append];refine⟨ha.born,by simp,λa hx b hb=>?_⟩;simp at hb;obtain⟨e,he,rfl⟩:=List.mem_map.1 hx;have:=ha.lt e he;omega
 ·simp only[Array.toList_push,List.mem_append,List.mem_singleton]at he;rcases he with he|rfl
  ·have:=ha.lt e he;omega
  ·show c<c+1;omega
theorem Ahe {ek:κ->Value}{kv:List (κ×Value)}(ho:RW d ek)(h:Vj w m ek kv)(k:κ)(v:Value){K:Pr}(hk:∀w',Vj w' m ek (S2 k v kv)->Aa [m] w w'->K w'):CI d (some m) (ek k) v K w:=by
 obtain⟨es,c,hb,ha⟩:=h;refine⟨m,es,c,EW k kv 0,rfl,hb,OB ho k 0 ha.Aau,hk _ ?_ ((Aa.refl _ _).A3 (.inl (by simp)) _)⟩;cases hf:EW k kv 0 with
 |none=>exact⟨_,_,AW (Av hb),AgS ha hf⟩
 |some p=>
  obtain⟨i,v0⟩:=p;exact⟨_,_,AW (Av hb),AhT ha hf (λ_=>rfl) (λ_=>rfl) (λ_=>rfl)⟩
end
theorem A4.step {m:List Nat}{b c:World}(h:A4 F a b)(k:Aa m b c)(hm:∀x∈m,F x\/a.heap.size<=x):A4 F a c:=
 h.trans (k.FY (F:=λx=>x∈m) (λx hx=>.inl hx)) hm
theorem A4.same {b c:World}(h:A4 F a b)(k:A4 F b c):A4 F a c:=h.trans k (λx hx=>.inl hx)
theorem Ax {cs:Array Value}{t:TypeId}(h:w.heap[b]?=some (.cells cs t (0,0)))(i:Nat)(v:Value)(h1:v.oneCell'=true)(hi:i<cs.size){K:Pr}(k:∀w',w'.heap[b]?=some (.cells (cs.setIfInBounds i v) t (0,0))->Aa [b] w w'->K w'):St ⟨b,i,none⟩ v K w:=
 Aea h h1 hi (by simp) (k _ (AW (Av h)) ((Aa.refl _ _).A3 (.inl (by simp)) _))
variable {P:Program}{f:FuncId}{args:List Value}{tup:Bool}{rs:List RK}
theorem AR {Q:TR rs->Pr}(h:∀R:TR rs->Pr,(∀r w',Q r w'->R r w')->Cl P f args tup rs R w):Cl P f args tup rs Q w:=h Q λ_ _ h=>h
theorem Aie {t:TypeId}{x:Value}{name:String}{K:TR rs->Pr}(h:YN P t name=some f)(hc:Cl P f (x::args) tup rs K w):Inv P (.iface t x) name args tup rs K w:=by
 unfold Inv;simp only[h];exact hc
theorem AB.mono {P:Program}{v:Value}{args:List Value}{tup:Bool}{rs:List RK}{K K':TR rs->Pr}{w:World}(h:AB P v args tup rs K w)(hk:∀s w',K s w'->K' s w'):AB P v args tup rs K' w:=by
 unfold AB at *;split at h
 ·rename_i fn first cap;split at h
  ·split at h
   ·exact Cl.mono h hk
   ·obtain⟨s,w',h1,h2⟩:=h;exact⟨s,w',h1,hk _ _ h2⟩
  ·exact Yd.mono h hk
  ·exact h.elim
 ·exact h.elim
variable {bytes:Nat}{z:Array Value}
theorem Agt {e size:Nat}(hz:z.size=size)(h0:0<size)(h:V0 s.p (s.len*size) cs w)(h1:∀v∈cs,v.oneCell'=true)(h47:s.len*bytes<=140737488355328)(h63:s.len<=9223372036854775807)(k:∀r w',AE w' r size cs->r.len=s.len->Aa [] w w'->(∀x∈Ai r,w.heap.size<=x)->K r w'):
  Br (Option.isNone s.p) (K ⟨none,0,0⟩) (At #[] e λa=>App e size bytes z ⟨some a,0,0⟩ s.len (BH s.p s.len size) K) w:=by
 cases hp:s.p with
 |none=>
  rw[hp]at h;have hcs:cs=[]:=by
   cases cs with
   |nil=>rfl
   |cons v vs=>obtain⟨a,ha,_⟩:=h.2 0 v rfl;cases ha
  have hl:=h.1;rw[hcs]at hl;have h00:s.len=0:=by
   rcases Nat.mul_eq_zero.1 hl.symm with h'|h'
   ·exact h'
   ·omega
  rw[hcs]at k;exact k _ _ (AE.nil w size) (by simp[h00]) (Aa.refl _ _) (by simp[Ai])
 |some a=>
  simp only[Option.isNone_some,Br,At];rw[hp]at h;have hr:V0 (some a) (s.len*size) cs (w.alloc (.cells #[] e)):=Wy h ((Aa.refl [] w).alloc _) (by simp);refine MZ (cs:=[]) (new:=cs) ⟨by simp,Nat.le_refl _,.inl rfl⟩ hr h.1 h1 hz (by simpa using h47) (by simpa using h63) ?_;intro r w' hs hl hk hb;have hk':Aa [] w w':=(((Aa.refl [] w).alloc _)).trans hk (by simp[Ai]);refine k r w' (by simpa using hs) (by simpa using hl) hk' λx hx=>?_;rcases hb x hx with h'|h'
  ·simp[Ai]at h'
  ·rw[World.size_alloc]at h';omega
open Go Go.ChangeShapes Go.WideShapes Go.ChangeAt Go.RowKit
theorem MQ {H:Type}{P:Program}{e:TypeId}:∀{l:List (DataW H)} {d:DataW H},d∈l->∀n∈d.weights P e,n∈DataW.weightsAll P e l
 |x::r,d,h,n,hn=>by
  simp only[DataW.weightsAll,List.mem_append];rcases List.mem_cons.1 h with rfl|h
  ·exact .inl hn
  ·exact .inr (MQ h n hn)
def Ec (P:Program)(t:TypeId)(v:Value):Prop:=
 match P.underlying t with
 |some (.int k)=>∃n,v=.int k n/\(Lit.int k n).wf=true
 |some .bool=>∃b,v=.bool b
 |some .string=>∃s,v=.string s/\s.size<=140737488355328
 |_=>True
theorem Ec.int {t:TypeId}{v:Value}{k:IntKind}(ht:P.underlying t=some (.int k))(h:Ec P t v):∃n,v=.int k n/\(Lit.int k n).wf=true:=by
 unfold Ec at h;rw[ht]at h;exact h
theorem Ec.bool {t:TypeId}{v:Value}(ht:P.underlying t=some .bool)(h:Ec P t v):∃b,v=.bool b:=by
 unfold Ec at h;rw[ht]at h;exact h
theorem Ec.string {t:TypeId}{v:Value}(ht:P.underlying t=some .string)(h:Ec P t v):∃s,v=.string s/\s.size<=140737488355328:=by
 unfold Ec at h;rw[ht]at h;exact h
variable {W:World}
theorem TV {H:Type}{enc:TypeId×Value->H}{base:Nat}{sp:Nat->Bool}{held:Bool}{n:Nat}{t:TypeId}{v:Value}{x:DataW H×List MemPlace}(h:DataW.trod enc P W base sp held n t [v]=some x)(hz:∀m∈x.1.weights P t,m<=reachBytes):Ec P t v:=by
 unfold Ec;split
 ·rename_i k ht;obtain⟨m,hc,_,hw⟩:=DataW.trod_int ht h;simp at hc;exact⟨m,hc,hw⟩
 ·rename_i ht;obtain⟨b,hc,_⟩:=DataW.trod_bool ht h;simp at hc;exact⟨b,hc⟩
 ·rename_i ht;obtain⟨s,hc,hx,hw⟩:=DataW.trod_string ht h;simp at hc;refine⟨s,hc,?_⟩;rw[hx]at hz;have:=hz s.data.toList.length (by simp[DataW.weights]);have hlt:=reachBytes_lt;have e:s.data.toList.length=s.size:=by simp
  omega
 ·trivial
theorem Nf {α:Type}{enc:α->List Value}{size:Nat}(he:∀x,(enc x).length=size):∀(l:List α) (i j:Nat) (x y:α) (v:Value),l[i]?=some x->j<size->enc y=(enc x).set j v->(l.flatMap enc).set (i*size+j) v=(l.set i y).flatMap enc
 |[],i,j,x,y,v,h,_,_=>by simp at h
 |z::l,0,j,x,y,v,h,hj,hy=>by
  simp only[List.getElem?_cons_zero,Option.some.injEq]at h;subst h;rw[Nat.zero_mul,Nat.zero_add,List.flatMap_cons,List.set_append_left _ _ (by rw[he];exact hj),List.set_cons_zero,List.flatMap_cons,hy]
 |z::l,i+1,j,x,y,v,h,hj,hy=>by
  simp only[List.getElem?_cons_succ]at h;rw[List.flatMap_cons,List.set_append_right _ _ (by rw[he,Nat.succ_mul];omega),he,Nat.succ_mul,show i*size+size+j-size=i*size+j from by omega,Nf he l i j x y v h hj hy,List.set_cons_succ,List.flatMap_cons]
variable {m:Nat}
theorem W9 {e size:Nat}{t:TypeId}{new:List Value}(hs:AE w s size cs)(hl:new.length=m*size)(h1:∀v∈new,v.oneCell'=true)(hz:z.size=size)(h47:(s.len+m)*bytes<=140737488355328)(h63:s.len+m<=9223372036854775807)(k:∀(r:Sl) (w':World),AE w' r size (cs++new)->r.len=s.len+m->Aa (Ai s) w w'->(∀x∈Ai r,x∈Ai s\/w.heap.size<=x)->K r w'):At new.toArray t (λa=>App e size bytes z s m (BH (some a) m size) K) w:=by
 have hka:Aa [] w (w.alloc (.cells new.toArray t)):=(Aa.refl [] w).alloc _;refine MZ (hs.keeps hka (by simp)) ?_ hl h1 hz h47 h63 ?_
 ·refine⟨hl,λj v hj=>⟨_,rfl,?_⟩⟩;rw[Cr,cell_of (Bt w _),Nat.zero_add];simpa using hj
 ·intro r w' h2 h3 h4 h5;refine k r w' h2 h3 ((hka.mono (m':=Ai s) (by simp)).trans h4 (λx hx=>.inl hx)) (λx hx=>?_)
  ·rcases h5 x hx with h|h
   ·exact .inl h
   ·rw[World.size_alloc]at h;exact .inr (by omega)
open Go
section
variable {κ:Type}[DecidableEq κ]
structure ItA (ek:κ->Value)(kv:List (κ×Value))(es:List MapEntry)(c:Nat)(seen:Array Nat)(left:List κ):Prop where
 mp:MpA ek kv es c
 left:(es.filter (λe=>!seen.contains e.born)).map (·.key)=left.map ek
def ItR (w:World)(it m:Nat)(ek:κ->Value)(kv:List (κ×Value))(left:List κ):Prop:=
 ∃es c seen,w.heap[it]?=some (.mapIter (some m) c seen c)/\w.heap[m]?=some (.map es c)/\ItA ek kv es.toList c seen left
variable {it:Nat}
theorem ItR.CM {ek:κ->Value}{kv:List (κ×Value)}{left:List κ}{l:List Nat}(h:ItR w it m ek kv left)(hk:Aa l w w')(h1:it∉l)(h2:m∉l):ItR w' it m ek kv left:=by
 obtain⟨es,c,seen,a,b,h3⟩:=h;exact⟨es,c,seen,hk.at a h1,hk.at b h2,h3⟩
theorem ItR.ne {ek:κ->Value}{kv:List (κ×Value)}{left:List κ}(h:ItR w it m ek kv left):it≠m:=by
 obtain⟨es,c,seen,a,b,h3⟩:=h;intro he;subst he;rw[a]at b;cases b
theorem Aij {ek:κ->Value}{kv:List (κ×Value)}(h:Vj w m ek kv){K:Addr->Pr}(k:∀w',ItR w' w.heap.size m ek kv (kv.map Prod.fst)->Aa [] w w'->w'.heap.size=w.heap.size+1->K ⟨w.heap.size,0,none⟩ w'):RgM (some m) K w:=by
 obtain⟨es,c,hb,ha⟩:=h;refine⟨es,c,hb,k _ ⟨es,c,#[],Bt w _,(Qc w _ (Av hb)).trans hb,ha,?_⟩ ((Aa.refl _ _).alloc _) (World.size_alloc _ _)⟩;have:=congrArg (List.map Prod.fst) ha.Aau;simp only[List.map_map]at this;have hf:es.toList.filter (λe=>!(#[]:Array Nat).contains e.born)=es.toList:=by
  rw[List.filter_eq_self];intro a _;simp
 rw[hf];simpa[Function.comp_def]using this
theorem Abk {ek:κ->Value}{d:TypeDesc}(ho:RW d ek):∀{es:List MapEntry} {kv:List (κ×Value)},es.map (λe=>(e.key,e.val))=kv.map (λp=>(ek p.1,p.2))->(kv.map Prod.fst).Nodup->∀e∈es,∃k,e.key=ek k/\Jd k kv=some e.val
 |[],kv,h,_,e,he=>by simp at he
 |x::es,kv,h,hn,e,he=>by
  cases kv with
  |nil=>simp at h
  |cons p r=>
   simp only[List.map_cons,List.cons.injEq,Prod.mk.injEq]at h;simp only[List.map_cons,List.nodup_cons]at hn;rcases List.mem_cons.1 he with rfl|he
   ·exact⟨p.1,h.1.1,by simp[Jd,h.1.2]⟩
   ·obtain⟨k,h1,h2⟩:=Abk ho h.2 hn.2 e he;refine⟨k,h1,?_⟩;simp only[Jd];rw[if_neg,h2];intro hk;have h3:=List.mem_map_of_mem (f:=Prod.fst) (Uy h2);rw[hk]at h3;exact hn.1 h3
theorem Sb {α β:Type}{f:α->β}(hi:∀a b,f a=f b->a=b):∀{l l':List α},(l.map f).Perm (l'.map f)->l.Perm l'
 |[],l',h=>by
  have:=h.length_eq;simp at this;rw[List.eq_nil_of_length_eq_zero this.symm]
 |x::l,l',h=>by
  have hm:f x∈l'.map f:=h.subset (by simp);obtain⟨y,hy,he⟩:=List.mem_map.1 hm;have hyx:=hi _ _ he;subst hyx;obtain⟨a,b,rfl⟩:=List.append_of_mem hy;have h2:(f y::l.map f).Perm (f y::(a++b).map f):=by
   refine(by simpa using h:(f y::l.map f).Perm ((a++y::b).map f)).trans ?_;simp
  exact((Sb hi (List.Perm.cons_inv h2)).cons y).trans List.perm_middle.symm
theorem filter_push {seen:Array Nat}:∀{es:List MapEntry},(es.map (·.born)).Nodup->∀e∈es,seen.contains e.born=false ->
  ((es.filter (λx=>!seen.contains x.born)).Perm (e::es.filter (λx=>!(seen.push e.born).contains x.born)))
 |[],_,e,he,_=>by simp at he
 |x::es,hn,e,he,hs=>by
  simp only[List.map_cons,List.nodup_cons]at hn;by_cases hx:x=e
  ·subst hx;have hrest:es.filter (λy=>!(seen.push x.born).contains y.born)=es.filter (λy=>!seen.contains y.born):=by
    apply List.filter_congr;intro y hy;have:y.born≠x.born:=λh=>hn.1 (h▸List.mem_map_of_mem (f:=(·.born)) hy);simp[this]
   rw[List.filter_cons,if_pos (by simpa using hs),List.filter_cons,if_neg (by simp),hrest]
  ·have he':e∈es:=by
    rcases List.mem_cons.1 he with h|h
    ·exact absurd h.symm hx
    ·exact h
   have hb:x.born≠e.born:=λh=>hn.1 (h▸List.mem_map_of_mem (f:=(·.born)) he');have ih:=filter_push hn.2 e he' hs;have hc:(seen.push e.born).contains x.born=seen.contains x.born:=by
    simp[hb]
   rw[List.filter_cons,List.filter_cons,hc];split
   ·exact(ih.cons _).trans (List.Perm.swap _ _ _)
   ·exact ih
variable {d:TypeDesc}
theorem Ag9 {ek:κ->Value}{kv:List (κ×Value)}{left:List κ}(ho:RW d ek)(h:ItR w it m ek kv left){K:Value->Value->Pr}{Kf:Pr}(hk:∀k v left' w',Jd k kv=some v->left.Perm (k::left')->ItR w' it m ek kv left'->Aa [it] w w'->w'.heap.size=w.heap.size->K (ek k) v w')(hend:left=[]->∀w',w'=w\/w'=w.drew->Kf w'):NxM ⟨it,0,none⟩ (λ_ _=>EnM ⟨it,0,none⟩ K) Kf w:=by
 have hne:=h.ne;obtain⟨es,c,seen,h1,h2,h3⟩:=h;have hmem:∀k,k∈left↔∃e∈es.toList,seen.contains e.born=false/\e.key=ek k:=by
  intro k;have hinj:∀a b,ek a=ek b->a=b:=λa b hab=>by
   have:=ho a b;rw[hab,ho b b]at this;simpa using this
  constructor
  ·intro hk;have:ek k∈left.map ek:=List.mem_map_of_mem hk;rw[<-h3.left,List.mem_map]at this;obtain⟨e,he,hke⟩:=this;rw[List.mem_filter]at he;exact⟨e,he.1,by simpa using he.2,hke⟩
  ·rintro⟨e,he,hs,hke⟩;have:ek k∈(es.toList.filter (λe=>!seen.contains e.born)).map (·.key):=List.mem_map.2 ⟨e,List.mem_filter.2 ⟨he,by rw[hs];rfl⟩,hke⟩;rw[h3.left,List.mem_map]at this;obtain⟨k',hk',he'⟩:=this;rw[<-hinj _ _ he'];exact hk'
 refine⟨rfl,some m,c,seen,c,h1,es.toList,c,by simpa using h2,?_,?_⟩
 ·cases hes:es.toList with
  |nil=>exact .inr (.inl rfl)
  |cons e r=>exact .inr (.inr ⟨e,by simp,h3.mp.lt e (by rw[hes];simp)⟩)
 ·intro w1 hw1;have hh1:w1.heap=w.heap:=by rcases hw1 with rfl|rfl<;>rfl
  have hk1:Aa [it] w w1:=by rcases hw1 with rfl|rfl;exact Aa.refl _ _;exact(Aa.refl _ _).drew
  refine⟨λe he hs=>?_,λhall=>?_⟩
  ·have hit:it<w1.heap.size:=by rw[hh1];exact Av h1
   have hI:=AW (o:=.mapIter (some m) c (seen.push e.born) c) hit;have hM:(A3 w1 it (.mapIter (some m) c (seen.push e.born) c)).heap[m]?=some (.map es c):=by
    rw[NP (Ne.symm hne),hh1];exact h2
   obtain⟨k,hke,hget⟩:=Abk ho h3.mp.Aau h3.mp.nd e he;have hperm:=filter_push h3.mp.born e he hs;have hinj:∀a b,ek a=ek b->a=b:=λa b hab=>by
    have:=ho a b;rw[hab,ho b b]at this;simpa using this
   have hl':∃left':List κ,((es.toList.filter (λx=>!(seen.push e.born).contains x.born)).map (·.key))=left'.map ek:=by
    have:∀l:List MapEntry,(∀x∈l,∃k,x.key=ek k)->∃l':List κ,l.map (·.key)=l'.map ek:=by
     intro l;induction l with
     |nil=>intro _;exact⟨[],rfl⟩
     |cons x l ih=>
      intro hx;obtain⟨l',h'⟩:=ih (λy hy=>hx y (List.mem_cons_of_mem _ hy));obtain⟨k,hk⟩:=hx x List.mem_cons_self;exact⟨k::l',by simp[hk,h']⟩
    refine this _ λx hx=>?_;obtain⟨k,h',_⟩:=Abk ho h3.mp.Aau h3.mp.nd x (List.mem_filter.1 hx).1;exact⟨k,h'⟩
   obtain⟨left',hl'⟩:=hl';have hp2:left.Perm (k::left'):=by
    have:=hperm.map (·.key);rw[h3.left,List.map_cons,hl',hke,<-List.map_cons]at this;exact Sb hinj this
   refine⟨rfl,m,c,seen.push e.born,es.toList,c,e.born,e,hI,by simpa using hM,by simp,?_,?_⟩
   ·rw[List.find?_eq_some_iff_getElem];obtain⟨i,hi,hie⟩:=List.mem_iff_getElem.1 he;refine⟨by simp,i,hi,hie,λj hj=>?_⟩;have hne:=(List.pairwise_iff_getElem.1 h3.mp.born) j i (by simpa using(by omega:j<es.toList.length)) (by simpa using hi) hj;simp only[List.getElem_map,hie]at hne;simpa using hne
   ·rw[hke];exact hk k e.val left' _ hget hp2 ⟨es,c,_,hI,hM,h3.mp,hl'⟩ (hk1.A3 (.inl (by simp)) _) (by rw[E8,hh1])
  ·refine hend ?_ w1 hw1;cases hl:left with
   |nil=>rfl
   |cons k r=>
    obtain⟨e,he,hs,_⟩:=(hmem k).1 (by rw[hl];simp);have:=hall e he (h3.mp.lt e he);rw[hs]at this;cases this
end
theorem Zt {all:Array Value}(h:vs.length=all.size):Dk all 0 vs=vs.toArray:=by
 apply Array.ext_getElem?;intro j;rw[P7 _ _ _ _ (by omega)];by_cases hj:j<vs.length
 ·rw[if_pos (by omega)];simp
 ·rw[if_neg (by omega),Array.getElem?_eq_none (by omega),Array.getElem?_eq_none (by simp;omega)]
variable {l:List UInt8}
theorem Ng (h:AE w s 1 (cB l)):s.len=l.length:=by have:=h.len;rw[En]at this;omega
theorem Ahk (h:AE w s 1 (cB l)){j:Nat}{x:UInt8}(hj:l[j]?=some x){K:Int->Pr}(k:K (x.toNat:Int) w):Ix s (j:Int) 1 (λa=>A2 .u8 a K) w:=by
 have hlt:=(List.getElem?_eq_some_iff.1 hj).1;have hl:=Ng h;obtain⟨b,o,hp,_⟩:=h.base (by omega);rw[G5 hp (by omega) (by omega),Int.toNat_natCast,Nat.mul_one,RZ,h.read hp (by rw[En];exact hlt),cB,List.getElem?_map,hj];simp only[Option.map_some,sx];exact k
theorem Aku (h:AE w s 1 (cB l)){j:Nat}(hj:j<l.length)(x:UInt8){K:Pr}(k:∀w',AE w' s 1 (cB (l.set j x))->Aa (Ai s) w w'->K w'):Ix s (j:Int) 1 (λa=>St a (.int .u8 (x.toNat:Int)) K) w:=by
 have hl:=Ng h;obtain⟨b,o,hp,hb⟩:=h.base (by omega);rw[G5 hp (by omega) (by omega),Int.toNat_natCast,Nat.mul_one];refine h.write hp (by rw[En];exact hj) rfl ?_;intro w' h1 h2;refine k w' ?_ (by rw[hb];exact h2);rw[cB,List.map_set];exact h1
open Go Go.ChangeShapes Go.WideShapes Go.ChangeAt Go.RowKit
def PQ (P:Program)(rec:TypeId->Option (List TypeId)):List Field->Nat->Option (List TypeId)
 |[],_=>some []
 |f::r,off=>if f.offset=off then match rec f.type with
   |some l=>if l.length=P.cellsOf f.type then(PQ P rec r (off+l.length)).map (l ++ ·)else none
   |none=>none
  else none
def leaves (P:Program):Nat->TypeId->Option (List TypeId)
 |0,_=>none
 |n+1,t=>match P.underlying t with
  |some (.struct fs)=>PQ P (leaves P n) fs.toList 0
  |_=>if P.cellsOf t=1 then some [t]else none
theorem TI {P:Program}{rec:TypeId->Option (List TypeId)}:∀{fs:List Field} {off:Nat} {L:List TypeId},PQ P rec fs off=some L->∀(j:Nat) (ft:TypeId),L[j]?=some ft ->
  ∃(k:Nat) (f:Field) (l:List TypeId) (i:Nat),fs[k]?=some f/\rec f.type=some l/\l.length=P.cellsOf f.type/\l[i]?=some ft/\off+j=f.offset+i/\f.offset+l.length<=off+L.length
 |[],off,L,h,j,ft,hj=>by
  simp only[PQ,Option.some.injEq]at h;subst h;simp at hj
 |f::r,off,L,h,j,ft,hj=>by
  unfold PQ at h;split at h
  ·rename_i ho;split at h
   ·rename_i l hl;split at h
    ·rename_i hc;rw[Option.map_eq_some_iff]at h;obtain⟨L',h',rfl⟩:=h;by_cases hlt:j<l.length
     ·rw[List.getElem?_append_left hlt]at hj;exact⟨0,f,l,j,rfl,hl,hc,hj,by omega,by rw[List.length_append];omega⟩
     ·rw[List.getElem?_append_right (by omega)]at hj;obtain⟨k,f',l',i,h1,h2,h3,h4,h5,h6⟩:=TI h' _ ft hj;exact⟨k+1,f',l',i,h1,h2,h3,h4,by omega,by rw[List.length_append];omega⟩
    ·cases h
   ·cases h
  ·cases h
open Go
variable {E:Pr}
theorem Ae {T:Pr}:Br false T E w=E w:=rfl
theorem Af {T:Pr}:Br true T E w=T w:=rfl
theorem AbW {c:Bool}{T:Pr}:Br c T E w=if c then T w else E w:=by cases c<;>rfl
theorem CP :
  (∀(o:Obj) (K:Nat->Pr) (w:World),O1 o K w=K w.heap.size (w.alloc o)) /\
  (∀(K:Pr) (w:World),Dr K w=K w.drew) /\
  (∀(A B:Pr) (w:World),AH A B w=(A w/\B w)) /\
  (∀(p:Prop) (K:Pr) (w:World),AY p K w=(p/\K w)) /\
  (∀(a:Addr) (K:Addr->Pr),Nn (some a) K=K a) /\
  (∀(T E:Pr) (w:World),Br true T E w=T w) /\
  (∀(T E:Pr) (w:World),Br false T E w=E w) /\
  (∀(b i n:Nat),Addr.add ⟨b,i,none⟩ n=⟨b,i+n,none⟩) /\
  (∀(k:IntKind) (b i:Nat) (K:Int->Pr) (w:World),A2 k ⟨b,i,none⟩ K w=asI k K (Bg w.heap[b]? i) w) /\
  (∀(b i:Nat) (K:Bool->Pr) (w:World),E7 ⟨b,i,none⟩ K w=asB K (Bg w.heap[b]? i) w) /\
  (∀(b i:Nat) (K:ByteArray->Pr) (w:World),BU ⟨b,i,none⟩ K w=asS K (Bg w.heap[b]? i) w) /\
  (∀(b i:Nat) (K:Option Addr->Pr) (w:World),Di ⟨b,i,none⟩ K w=asP K (Bg w.heap[b]? i) w) /\
  (∀(b i:Nat) (K:Option Nat->Pr) (w:World),LdM ⟨b,i,none⟩ K w=asM K (Bg w.heap[b]? i) w) /\
  (∀(b i:Nat) (K:Value->Pr) (w:World),LJ ⟨b,i,none⟩ K w=asV K (Bg w.heap[b]? i) w) /\
  (∀(b i:Nat) (K:Sl->Pr) (w:World),DN ⟨b,i,none⟩ K w=asL K (Bg w.heap[b]? i) w) /\
  (∀(k:IntKind) (K:Int->Pr) (x:Int) (w:World),asI k K (some (.int k x)) w=K x w) /\
  (∀(K:Bool->Pr) (x:Bool) (w:World),asB K (some (.bool x)) w=K x w) /\
  (∀(K:ByteArray->Pr) (x:ByteArray) (w:World),asS K (some (.string x)) w=K x w) /\
  (∀(K:Option Addr->Pr) (x:Option Addr) (w:World),asP K (some (.pointer x)) w=K x w) /\
  (∀(K:Option Nat->Pr) (x:Option Nat) (w:World),asM K (some (.map x)) w=K x w) /\
  (∀(K:Value->Pr) (x:Value) (w:World),asV K (some x) w=K x w) /\
  (∀(K:Sl->Pr) (p:Option Addr) (l c:Nat) (w:World),asL K (some (.slice p l c)) w=K ⟨p,l,c⟩ w) /\
  (∀(cs:Array Value) (t:TypeId) (fr:Nat×Nat) (i:Nat),Bg (some (.cells cs t fr)) i=cs[i]?) /\
  (∀(i:Nat) (v:Value) (K:Obj->Prop) (cs:Array Value) (t:TypeId) (fr:Nat×Nat),stO i v K (some (.cells cs t fr)) =
   (v.oneCell'=true/\i<cs.size/\frz fr i=false/\K (.cells (cs.setIfInBounds i v) t fr))) /\
  (∀(w:World) (o:Obj),(w.alloc o).heap[w.heap.size]?=some o) /\
  (∀(w:World),w.drew.heap=w.heap) /\
  (∀(w:World) (o:Obj),(w.alloc o).heap.size=w.heap.size+1) /\
  (∀(w:World) (r:Nat) (o:Obj),(A3 w r o).heap.size=w.heap.size) /\
  (∀(w:World) (r:Nat) (o o':Obj),A3 (A3 w r o) r o'=A3 w r o') /\
  (∀(s:Sl),(⟨s.p,s.len,s.cap⟩:Sl)=s):=
 ⟨λ_ _ _=>rfl,λ_ _=>rfl,λ_ _ _=>rfl,λ_ _ _=>rfl,λ_ _=>rfl,λ_ _ _=>rfl,λ_ _ _=>rfl,Cr,RZ,Aei,AdQ,Aer,AeV,AeG,Wn,
  λk K x w=>by simp[asI],λ_ _ _=>rfl,λ_ _ _=>rfl,λ_ _ _=>rfl,λ_ _ _=>rfl,λ_ _ _=>rfl,λ_ _ _ _ _=>rfl,λ_ _ _ _=>rfl,λ_ _ _ _ _ _=>rfl,Bt,λ_=>rfl,World.size_alloc,E8,FP,λ_=>rfl⟩
theorem Ad {cs:Array Value}{t:TypeId}{K:Addr->Pr}(h:∀b w1,w1.heap[b]?=some (.cells cs t (0,0))->w.heap.size<=b->Aa [] w w1->K ⟨b,0,none⟩ w1):At cs t K w:=
 h w.heap.size (w.alloc (.cells cs t)) (Bt w _) (Nat.le_refl _) ((Aa.refl [] w).alloc _)
theorem Aj {b c:World}(h:Aa [] a b)(k:Aa [] b c):Aa [] a c:=h.trans k (by simp)
theorem Ky {m:List Nat}{b c:World}(h:Aa [] a b)(k:Aa m b c)(hm:∀x∈m,a.heap.size<=x):Aa [] a c:=h.trans k (λx hx=>.inr (hm x hx))
theorem Ei {cs:Array Value}{t:TypeId}{K:Addr->Pr}(hl:vs.length=cs.size)(h1:∀v∈vs,v.oneCell'=true)(h:∀b w1,w1.heap[b]?=some (.cells vs.toArray t (0,0))->w.heap.size<=b->Aa [] w w1->K ⟨b,0,none⟩ w1):
  At cs t (λa=>Xc vs a 0 (K a)) w:=by
 refine Ad λb w1 hb nb k1=>?_;refine Ra (o:=0) hb (by simp;omega) h1 (λj _ _=>by simp) ?_;refine h b _ ?_ nb (Ky k1 ((Aa.refl _ _).A3 (m:=[b]) (.inl (by simp)) _) (by simpa using nb));rw[AW (Av hb)];rw[show(0+0:Nat)=0 from rfl,Zt hl]
variable {i:Nat}
theorem AK (h:i<4611686018427387904):An ((i:Int)+1)=((i+1:Nat):Int):=by rw[By (by omega) (by omega)];omega
theorem Oq {a b:Int}{n:Nat}(ha:a=m)(hb:b=n)(h:m+n<9223372036854775807):An (a+b)=((m+n:Nat):Int):=by subst ha hb;rw[By (by omega) (by omega)];omega
variable {j:Nat}
theorem Ew (h:0<j)(h2:j<4611686018427387904):An ((j:Int)-1)=((j-1:Nat):Int):=by rw[By (by omega) (by omega)];omega
theorem N0 {n:Nat}(h:n<=m)(h2:m<9223372036854775807):An ((m:Int)-(n:Int))=((m-n:Nat):Int):=by rw[By (by omega) (by omega)];omega
theorem Uv {size:Nat}(h:AE w s size cs){m:Nat}(hm:s.len+m<=s.cap):∃junk,junk.length=m*size/\AE w ⟨s.p,s.len+m,s.cap⟩ size (cs++junk):=by
 have hl:=h.len;rcases h.row with h0|⟨b,o,all,t,fr,hp,hb,h1,h2,h3⟩
 ·have:m=0:=by omega
  subst this;exact⟨[],by simp,by simpa using hl,by simpa using h.cap,.inl h0⟩
 ·have hcap:(s.len+m)*size<=s.cap*size:=Nat.mul_le_mul_right _ hm;rw[Nat.add_mul]at hcap;refine⟨(all.toList.drop (o+s.len*size)).take (m*size),by simp;omega,by simp[hl,Nat.add_mul];omega,hm,.inr ⟨b,o,all,t,fr,hp,hb,h1,λj hj=>?_,h3⟩⟩;rw[List.length_append,hl]at hj;by_cases hj2:j<cs.length
  ·rw[h2 j hj2,List.getElem?_append_left hj2]
  ·rw[List.getElem?_append_right (by omega),hl];have hj3:j-s.len*size<m*size:=by simp at hj;omega
   rw[List.getElem?_take,if_pos hj3,List.getElem?_drop,Array.getElem?_toList]
   congr 1
   omega
theorem QZ {size:Nat}(h:AE w s size cs){i:Nat}(hi:i<=s.len):AE w ⟨s.p,i,s.cap⟩ size (cs.take (i*size)):=by
 have:=h.sub (lo:=0) (hi:=i) (by omega) hi;simpa[Eh]using this
theorem Ajk (h1:∀v∈z.toList,v.oneCell'=true)(n:Nat):∀v∈C4 z.toList n,v.oneCell'=true:=by
 induction n with
 |zero=>simp[C4]
 |succ n ih=>intro v hv;rw[C4,List.mem_append]at hv;exact hv.elim (h1 v) (ih v)
theorem KS {size:Nat}(h:AE w s size cs){z:Array Value}(hz:z.size=size)(h1:∀v∈z.toList,v.oneCell'=true){i:Nat}(hi:i<=s.len){K:Pr}(k:∀w',AE w' ⟨s.p,i,s.cap⟩ size (cs.take (i*size))->Aa (Ai s) w w'->w'.heap.size=w.heap.size->K w'):Zf z ⟨A7 s.p s.cap i size,s.len-i,s.cap-i⟩ K w:=by
 unfold Zf;dsimp only;have hl:=h.len;have hc:=h.cap;split
 ·exact k w (QZ h hi) (Aa.refl _ _) rfl
 ·rename_i n hn;obtain⟨b,o,hp,hb⟩:=h.base (by omega);have hne:s.cap≠i:=by omega
  have e:A7 s.p s.cap i size=some ⟨b,o+i*size,none⟩:=by simp[A7,hne,hp,Cr]
  rw[e];dsimp only;rw[GA];show Xc (C4 z.toList (n+1)) _ _ _ _;have e1:(n+1)*size+i*size=s.len*size:=by rw[<-Nat.add_mul];congr 1;omega
  have e2:(C4 z.toList (n+1)).length=(n+1)*size:=by rw[C3];simp[hz]
  rcases h.row with hc0|⟨b',o',all,t,fr,hp',hbl,g1,g2,g3⟩
  ·omega
  rw[hp,Option.some.injEq,Addr.mk.injEq]at hp';obtain⟨rfl,rfl,_⟩:=hp';have hcap:s.len*size<=s.cap*size:=Nat.mul_le_mul_right _ h.cap;refine Ra hbl (by omega) (Ajk h1 _) (λj _ hj'=>by rw[Nat.add_assoc];exact g3 _ (by omega)) ?_;refine k _ ?_ ((Aa.refl _ _).A3 (.inl (by simp[hb])) _) (E8 _ _ _);refine⟨by simp;omega,by show i<=s.cap;omega,.inr ⟨b,o,_,t,fr,hp,AW (Av hbl),by rw[Qt];exact g1,λj hj=>?_,g3⟩⟩;rw[List.length_take]at hj;rw[P7 _ _ _ _ (by omega),if_neg (by omega),g2 j (by omega),List.getElem?_take,if_pos (by omega)]
variable {src:List Value->World->Prop}
theorem Aiv {e size:Nat}{new:List Value}(hs:AE w s size cs)(hn:src new w)(hl:new.length=m*size)(h1:∀v∈new,v.oneCell'=true)(hc:s.len+m<=s.cap)(h0:0<s.len+m)(k:∀w',AE w' ⟨s.p,s.len+m,s.cap⟩ size (cs++new)->Aa (Ai s) w w'->K ⟨s.p,s.len+m,s.cap⟩ w'):App e size bytes z s m src K w:=by
 refine⟨new,hn,?_⟩;rw[if_pos hc];obtain⟨junk,hj,hg⟩:=Uv hs hc;obtain⟨b,o,hp,hb⟩:=hg.base (by show 0<s.len+m;omega);dsimp only at hp;have hb:Ai s=[b]:=hb;rw[hp];dsimp only;rw[Cr];have hlen:=hs.len;refine hg.writes hp (k:=s.len*size) (by rw[List.length_append];omega) h1 ?_;intro w' g1 g2;have e:Me (cs++junk) (s.len*size) new=cs++new:=by
  unfold Me;rw[List.take_append_of_le_length (by omega),List.take_of_length_le (by omega),List.drop_of_length_le (by simp;omega),List.append_nil]
 rw[e]at g1;rw[hp]at g1 k;exact k w' g1 (by rw[hb];exact g2)
theorem AfM {e size:Nat}{new:List Value}(hs:V0 s.p (s.len*size) cs w)(hn:src new w)(hl:new.length=m*size)(h1:∀v∈new,v.oneCell'=true)(hz:z.size=size)(h47:(s.len+m)*bytes<=140737488355328)(h63:s.len+m<=9223372036854775807)(hc:s.cap<s.len+m)(k:∀(r:Sl) (w':World),AE w' r size (cs++new)->r.len=s.len+m->Aa [] w w'->(∀x∈Ai r,w.heap.size<=x)->K r w'):App e size bytes z s m src K w:=by
 refine⟨new,hn,?_⟩;rw[if_neg (by omega)];have hlen:=hs.1;refine⟨h47,by omega,cs,hs,λc hcc=>?_⟩;have hsz:((cs++new).toArray++Builtin.zeroCells z (c-(s.len+m))).size=c*size:=by
  rw[GA,Array.size_append,List.size_toArray,List.size_toArray,List.length_append,C3,hlen,hl];simp only[Array.length_toList,hz];rw[<-Nat.add_mul,<-Nat.add_mul]
  congr 1
  omega
 refine k _ _ ⟨by simp[hlen,hl,Nat.add_mul],by simpa using hcc,.inr ⟨w.heap.size,0,_,e,(0,0),rfl,Bt w.drew _,by rw[hsz];simp,?_,?_⟩⟩ rfl ((Aa.refl _ _).drew.alloc _) ?_
 ·intro j hj;rw[Nat.zero_add,Array.getElem?_append_left (by simpa using hj)];simp
 ·intro j _;simp
 ·intro x hx;rw[PV rfl x hx];exact Nat.le_refl _
theorem Ym {size:Nat}(h:AE w s size cs){i n:Nat}{src:List Value->World->Prop}(hn:src vs w)(hl:vs.length=n*size)(h1:∀v∈vs,v.oneCell'=true)(h0:0<n)(hi:i+n<=s.len){K:Pr}(k:∀w',AE w' s size (Me cs (i*size) vs)->Aa (Ai s) w w'->K w'):Cpy size (A7 s.p s.cap i size) n src K w:=by
 refine⟨vs,hn,?_⟩;have hlen:=h.len;have hc:=h.cap;obtain⟨b,o,hp,hb⟩:=h.base (by omega);have hne:s.cap≠i:=by omega
 have e:A7 s.p s.cap i size=some ⟨b,o+i*size,none⟩:=by simp[A7,hne,hp,Cr]
 rw[e];dsimp only;have e1:(i+n)*size<=s.len*size:=Nat.mul_le_mul_right _ hi;rw[Nat.add_mul]at e1;refine h.writes hp (k:=i*size) (by omega) h1 ?_;intro w' g1 g2;exact k w' g1 (by rw[hb];exact g2)
def Kd.nov:Kd->Bool
 |.v=>false
 |_=>true
theorem Kd.one {k:Kd}(h:k.nov=true)(x:k.T):(k.enc x).oneCell'=true:=by cases k<;>first|rfl|cases h
structure Rec (α:Type) where
 ks:List Kd
 t:α->Kw ks
 nv:ks.all Kd.nov=true
 pos:0<ks.length
namespace Rec
variable {α:Type}(ρ:Rec α)
def n:Nat:=ρ.ks.length
def c (x:α):List Value:=Cs ρ.ks (ρ.t x)
def v (x:α):Value:=.agg (ρ.c x).toArray
end Rec
theorem YZ:∀(ks:List Kd) (y:Kw ks),(Cs ks y).length=ks.length
 |[],_=>rfl
 |k::ks,y=>by simp[Cs,YZ ks]
theorem ZV:∀(ks:List Kd) (y:Kw ks),ks.all Kd.nov=true->∀v∈Cs ks y,v.oneCell'=true
 |[],_,_,v,hv=>by cases hv
 |k::ks,y,h,v,hv=>by
  simp only[List.all_cons,Bool.and_eq_true]at h;simp only[Cs,List.mem_cons]at hv;rcases hv with rfl|hv
  ·exact Kd.one h.1 _
  ·exact ZV ks y.2 h.2 v hv
theorem Rec.len (ρ:Rec α)(x:α):(ρ.c x).length=ρ.n:=YZ _ _
theorem Rec.n0 (ρ:Rec α):0<ρ.n:=ρ.pos
theorem Rec.one (ρ:Rec α)(x:α):∀v∈ρ.c x,v.oneCell'=true:=ZV _ _ ρ.nv
theorem Rec.Afx (ρ:Rec α)(l:List α):∀v∈l.flatMap ρ.c,v.oneCell'=true:=by
 intro v hv;obtain⟨x,_,hx⟩:=List.mem_flatMap.1 hv;exact ρ.one x v hx
def LdT:(ks:List Kd)->Addr->Nat->(Kw ks->Pr)->Pr
 |[],_,_,K=>K ()
 |k::ks,a,i,K=>Ld k (a.add i) λx=>LdT ks a (i+1) λy=>K (x,y)
theorem DO {k:Kd}{a:Addr}{K:k.T->Pr}{x:k.T}(h:w.cell? a=some (k.enc x))(hk:K x w):Ld k a K w:=by
 cases k<;>exact⟨x,h,hk⟩
theorem Yo:∀{ks:List Kd} {a:Addr} {i:Nat} {K:Kw ks->Pr} {w:World} {y:Kw ks},(∀j u,(Cs ks y)[j]?=some u->w.cell? (a.add (i+j))=some u)->K y w->LdT ks a i K w
 |[],a,i,K,w,y,h,hk=>hk
 |k::ks,a,i,K,w,y,h,hk=>by
  refine DO (x:=y.1) (h 0 _ rfl) ?_;refine Yo (y:=y.2) (λj u hj=>?_) hk;have:=h (j+1) u (by simpa[Cs]using hj)
  rwa [show i+1+j=i+(j+1)from by omega]
theorem add_add (a:Addr)(i j:Nat):(a.add i).add j=a.add (i+j):=Y5 a i j
def rb (s:Sl):List Nat:=match s.len with|0=>[]|_+1=>OT s
theorem AbZ (h:s.len=0):rb s=[]:=by unfold rb;rw[h]
theorem Uf (h:s.len≠0):rb s=OT s:=by unfold rb;split;omega;rfl
section
variable {α:Type}(ρ:Rec α)
structure A1 (w:World)(s:Sl)(l:List α):Prop where
 rd:V0 s.p (s.len*ρ.n) (l.flatMap ρ.c) w
 cap:s.len<=s.cap
abbrev Bh (w:World)(s:Sl)(l:List α):Prop:=AE w s ρ.n (l.flatMap ρ.c)
variable {ρ}
theorem AE.rb {size:Nat}(h:AE w s size cs):∀x∈rb s,x∈Ai s:=by
 intro x hx;by_cases h0:s.len=0
 ·rw[AbZ h0]at hx;cases hx
 ·rw[Uf h0]at hx;have:=h.cap;unfold Ai;split
  ·omega
  ·exact hx
theorem AE.C6 {l:List α}(h:Bh ρ w s l):A1 ρ w s l:=⟨h.rdc,h.cap⟩
theorem A1.len {w:World}{s:Sl}{l:List α}(h:A1 ρ w s l):s.len=l.length:=by
 have:=h.rd.1;rw[AP ρ.len]at this;exact(Nat.eq_of_mul_eq_mul_right ρ.n0 this).symm
theorem AE.BY {l:List α}(h:Bh ρ w s l):s.len=l.length:=h.C6.len
theorem A1.at {w:World}{s:Sl}{l:List α}(h:A1 ρ w s l){i:Nat}{x:α}(hx:l[i]?=some x):∃a,s.p=some a/\∀j u,(ρ.c x)[j]?=some u->w.cell? ((a.add (i*ρ.n)).add j)=some u:=by
 have get:∀j u,(ρ.c x)[j]?=some u->∃a,s.p=some a/\w.cell? (a.add (i*ρ.n+j))=some u:=by
  intro j u hj;have hjl:j<ρ.n:=by rw[<-ρ.len x];exact(List.getElem?_eq_some_iff.1 hj).1
  refine h.rd.2 (i*ρ.n+j) u ?_;rw[UF ρ.len l i j hjl,hx];exact hj
 obtain⟨u,hu⟩:∃u,(ρ.c x)[0]?=some u:=⟨_,List.getElem?_eq_getElem (by rw[ρ.len];exact ρ.n0)⟩;obtain⟨a,ha,_⟩:=get 0 u hu;refine⟨a,ha,λj u hj=>?_⟩;obtain⟨a',ha',hc⟩:=get j u hj;rw[ha,Option.some.injEq]at ha';subst ha';rw[add_add];exact hc
theorem A1.lt {l:List α}(h:A1 ρ w s l):∀x∈rb s,x<w.heap.size:=by
 intro x hx;by_cases h0:s.len=0
 ·rw[AbZ h0]at hx;cases hx
 rw[Uf h0]at hx;have hl:=h.len;obtain⟨y,hy⟩:∃y,l[0]?=some y:=⟨_,List.getElem?_eq_getElem (by omega)⟩;obtain⟨a,ha,hc⟩:=h.at hy;obtain⟨u,hu⟩:∃u,(ρ.c y)[0]?=some u:=⟨_,List.getElem?_eq_getElem (by rw[ρ.len];exact ρ.n0)⟩;have h1:=hc 0 u hu;have hb:((a.add (0*ρ.n)).add 0).block=a.block:=by unfold Addr.add;split<;>(try split)<;>rfl
 unfold OT at hx;rw[ha]at hx;simp only[List.mem_singleton]at hx;subst hx;rcases Nat.lt_or_ge a.block w.heap.size with h'|h'
 ·exact h'
 ·simp only[World.cell?,hb,Array.getElem?_eq_none h']at h1;cases h1
theorem A1.keeps {l:List α}{m:List Nat}(h:A1 ρ w s l)(hk:Aa m w w')(hd:∀x∈rb s,x∉m):A1 ρ w' s l:=by
 refine⟨?_,h.cap⟩;by_cases h0:s.len=0
 ·have h1:=h.rd;have hl:=h.len;have:l=[]:=List.eq_nil_of_length_eq_zero (by omega);subst this;exact⟨h1.1,λj v hj=>by simp at hj⟩
 ·refine Wy h.rd hk λa ha=>hd _ ?_;rw[Uf h0,OT,ha];simp
theorem A1.Ab {l:List α}(h:A1 ρ w s l)(hk:Aa [] w w'):A1 ρ w' s l:=h.keeps hk (by simp)
theorem AE.Ab {size:Nat}(h:AE w s size cs)(hk:Aa [] w w'):AE w' s size cs:=h.keeps hk (by simp)
theorem A1.Ue {l:List α}(h:A1 ρ w s l)(hk:A4 F w w')(hd:∀x∈rb s,¬F x):A1 ρ w' s l:=by
 obtain⟨m,h1,h2⟩:=hk.list hd;exact h.keeps h1 h2
theorem A1.nil (w:World):A1 ρ w ⟨none,0,0⟩ []:=⟨⟨by simp,λj v hj=>by simp at hj⟩,Nat.le_refl _⟩
theorem A1.drop {w:World}{s:Sl}{l:List α}(h:A1 ρ w s l){lo hi:Nat}(h1:lo<=hi)(h2:hi<=s.len):A1 ρ w ⟨A7 s.p s.cap lo ρ.n,hi-lo,s.cap-lo⟩ ((l.drop lo).take (hi-lo)):=by
 have hl:=h.len;have hc:=h.cap;have e:((l.drop lo).take (hi-lo)).length=hi-lo:=by rw[List.length_take,List.length_drop];omega
 refine⟨⟨by rw[AP ρ.len,e],λj v hj=>?_⟩,by dsimp only;omega⟩;have hj1:=(List.getElem?_eq_some_iff.1 hj).1;rw[AP ρ.len,e]at hj1;rw[<-JO ρ.len,<-Qy ρ.len,List.getElem?_take,if_pos hj1,List.getElem?_drop]at hj;obtain⟨a,ha,hcell⟩:=h.rd.2 _ v hj;have hlt:hi-lo≠0:=λh0=>by rw[h0]at hj1;omega
 refine⟨a.add (lo*ρ.n),?_,by rw[add_add];exact hcell⟩;simp only[A7,ha];rw[if_neg (by omega)];rfl
theorem A1.ld {l:List α}(h:A1 ρ w s l){i:Nat}{x:α}(hx:l[i]?=some x){K:Kw ρ.ks->Pr}(k:K (ρ.t x) w):Ix s (i:Int) ρ.n (λa=>LdT ρ.ks a 0 K) w:=by
 obtain⟨a,ha,hc⟩:=h.at hx;have hi:=(List.getElem?_eq_some_iff.1 hx).1;have hl:=h.len;unfold Ix;rw[ha];refine⟨by omega,by omega,?_⟩;rw[Int.toNat_natCast];refine Yo (y:=ρ.t x) (λj u hj=>?_) k;rw[Nat.zero_add];exact hc j u hj
theorem AE.ste {l:List α}(h:Bh ρ w s l){i:Nat}(hi:i<l.length)(x:α){K:Pr}(k:∀w',Bh ρ w' s (l.set i x)->Aa (Ai s) w w'->K w'):Ix s (i:Int) ρ.n (λa=>Xc (ρ.c x) a 0 K) w:=by
 have hl:=h.BY;obtain⟨b,o,hp,hb⟩:=h.base (by omega);rw[G5 hp (by omega) (by omega),Int.toNat_natCast];have e:(i+1)*ρ.n<=l.length*ρ.n:=Nat.mul_le_mul_right _ hi;rw[Nat.succ_mul]at e;refine h.writes hp (k:=i*ρ.n) (by rw[ρ.len,AP ρ.len];omega) (ρ.one x) ?_;intro w' g1 g2;rw[YQ ρ.len l i x hi]at g1;exact k w' g1 (by rw[hb];exact g2)
theorem Aed {t:TypeId}{fr:Nat×Nat}{x:α}(h:w.heap[b]?=some (.cells (ρ.c x).toArray t fr)){K:Kw ρ.ks->Pr}(k:K (ρ.t x) w):LdT ρ.ks ⟨b,0,none⟩ 0 K w:=
 Yo (y:=ρ.t x) (λj u hj=>by rw[Cr,cell_of h,Nat.zero_add,Nat.zero_add,List.getElem?_toArray];exact hj) k
theorem BI {t:TypeId}{fr:Nat×Nat}{x:α}(h:w.heap[b]?=some (.cells (ρ.c x).toArray t fr)):BH (some ⟨b,0,none⟩) 1 ρ.n (ρ.c x) w:=
 ⟨by rw[ρ.len,Nat.one_mul],λj v hj=>⟨_,rfl,by rw[Cr,cell_of h,Nat.zero_add];simpa using hj⟩⟩
theorem A1.front {l:List α}(h:Bh ρ w s l){i:Nat}(hi:i<=s.len):Bh ρ w ⟨s.p,i,s.cap⟩ (l.take i):=by
 have:=QZ h hi
 rwa [JO ρ.len]at this
theorem AE.app {e:Nat}{l new:List α}(hs:Bh ρ w s l)(hn:src (new.flatMap ρ.c) w)(hm:m=new.length)(hz:z.size=ρ.n)(h47:(s.len+m)*bytes<=140737488355328)(h63:s.len+m<=9223372036854775807)(k:∀(r:Sl) (w':World),Bh ρ w' r (l++new)->Aa (Ai s) w w'->(∀x∈Ai r,x∈Ai s\/w.heap.size<=x)->K r w'):App e ρ.n bytes z s m src K w:=by
 subst hm;refine MZ hs hn (AP ρ.len _) (ρ.Afx _) hz h47 h63 ?_;intro r w' h1 _ k1 hb;rw[<-List.flatMap_append]at h1;exact k r w' h1 k1 hb
end
variable {g:FuncId}
theorem BJ (hg:SM P g=true){c:Value}{args:List Value}{tup:Bool}{rs:List RK}{K:TR rs->Pr}{w:World}(h:Cl P g (args++[c]) tup rs K w):AB P (.func (.func g) #[] #[c]) args tup rs K w:=by
 unfold AB;simp only[hg];exact h
theorem Q4 (hg:SM P g=true){cs:List Value}{args:List Value}{tup:Bool}{rs:List RK}{K:TR rs->Pr}{w:World}(h:Cl P g (args++cs) tup rs K w):AB P (.func (.func g) #[] cs.toArray) args tup rs K w:=by
 unfold AB;simp only[hg];simpa using h
theorem Ap (hg:SM P g=true){args:List Value}{tup:Bool}{rs:List RK}{K:TR rs->Pr}{w:World}(h:Cl P g args tup rs K w):AB P (.func (.func g) #[] #[]) args tup rs K w:=by
 unfold AB;simp only[hg];simpa using h
open Go
section
variable {α:Type}{ρ:Rec α}{P:Program}{e bytes:Nat}{z:Array Value}{w:World}{s:Sl}{l:List α}
def Hn (e n bytes:Nat)(z:Array Value)(s:Sl)(R:TR [.sc .sl]->Pr):Pr:=
 Br (Option.isNone s.p) (R (⟨none,0,0⟩,())) (At #[] e λa1=>App e n bytes z ⟨some a1,0,0⟩ s.len (BH s.p s.len n) λr2=>R (r2,()))
theorem M6 (hz:z.size=ρ.n)(hB:bytes<=1000)(hN:l.length<=100000000)(h:A1 ρ w s l){K:TR [.sc .sl]->Pr}(k:∀r w',Bh ρ w' r l->(∀x∈Ai r,w.heap.size<=x)->Aa [] w w'->K (r,()) w'):Hn e ρ.n bytes z s K w:=by
 have hl:=h.len;have hm:s.len*bytes<=100000000*1000:=Nat.mul_le_mul (by omega) hB;unfold Hn;refine Agt (K:=λr=>K (r,())) hz ρ.n0 h.rd (ρ.Afx l) (by omega) (by omega) ?_;intro r w' h1 _ h3 h4;exact k r w' h1 h4 h3
def GN (e n bytes:Nat)(z:Array Value)(s:Sl)(i j:Int)(R:TR [.sc .sl]->Pr):Pr:=
 AY ((0:Int)<=((s.len:Nat):Int)/\((s.len:Nat):Int)<=((s.cap:Nat):Int)) <|
 AY ((0:Int)<=j/\j<=(((Int.toNat ((s.len:Nat):Int)):Nat):Int)) <|
 AY ((0:Int)<=i/\i<=(((Int.toNat j):Nat):Int)) <|
 Br ((i:Int)==j) (
 R (s,())) (
 Dr <|
 AY ((0:Int)<=i/\i<=((s.cap:Nat):Int)) <|
 AY ((0:Int)<=j/\j<=((s.len:Nat):Int)) <|
 App e n bytes z ⟨(A7 s.p s.cap 0 n),((Int.toNat i)-0),(s.cap-0)⟩ (s.len-(Int.toNat j)) (BH (A7 s.p s.cap (Int.toNat j) n) (s.len-(Int.toNat j)) n) λr1=>
 AY ((0:Int)<=((s.len:Nat):Int)/\((s.len:Nat):Int)<=((r1.cap:Nat):Int)) <|
 AY ((0:Int)<=((r1.len:Nat):Int)/\((r1.len:Nat):Int)<=(((Int.toNat ((s.len:Nat):Int)):Nat):Int)) <|
 Zf z ⟨(A7 r1.p r1.cap (Int.toNat ((r1.len:Nat):Int)) n),((Int.toNat ((s.len:Nat):Int))-(Int.toNat ((r1.len:Nat):Int))),(r1.cap-(Int.toNat ((r1.len:Nat):Int)))⟩ <|
 R (r1,()))
theorem Ns (hz:z.size=ρ.n)(h1z:∀v∈z.toList,v.oneCell'=true)(h:Bh ρ w s l){i j:Nat}(hij:i<=j)(hj:j<=l.length)(hN:l.length<=100000000){y y':Int}(hy:y=(i:Int))(hy':y'=(j:Int)){K:TR [.sc .sl]->Pr}(k:∀r w',Bh ρ w' r (l.take i++l.drop j)->(∀x∈Ai r,x∈Ai s)->Aa (Ai s) w w'->K (r,()) w'):GN e ρ.n bytes z s y y' K w:=by
 subst hy hy';have hl:=h.BY;have hc:=h.cap;unfold GN;refine⟨⟨by omega,by omega⟩,?_⟩;simp only[Int.toNat_natCast];refine⟨⟨by omega,by omega⟩,⟨by omega,by omega⟩,?_⟩;by_cases hije:i=j
 ·subst hije;rw[show((i:Int)==(i:Int))=true from by simp];exact k s w (by rw[List.take_append_drop];exact h) (λ_ h=>h) (Aa.refl _ _)
 rw[show((i:Int)==(j:Int))=false from by simp;omega];simp only[Br,Dr];refine⟨⟨by omega,by omega⟩,⟨by omega,by omega⟩,?_⟩;have k1:Aa [] w w.drew:=(Aa.refl _ _).drew;have h1:Bh ρ w.drew s l:=h.Ab k1;rw[Eh,Nat.sub_zero,Nat.sub_zero];have hsr:=(h1.C6.drop hj (show l.length<=s.len by omega)).rd;dsimp only at hsr;have hd:(l.drop j).take (l.length-j)=l.drop j:=List.take_of_length_le (by rw[List.length_drop];exact Nat.le_refl _);rw[hd,<-hl]at hsr;have hf:=A1.front h1 (i:=i) (by omega);by_cases h0:0<i+(s.len-j)
 ·refine Aiv (new:=(l.drop j).flatMap ρ.c) hf hsr (by rw[AP ρ.len,List.length_drop,hl]) (ρ.Afx _) (by show i+(s.len-j)<=s.cap;omega) h0 ?_;intro w2 h2 k2;dsimp only at h2 k2 ⊢;rw[<-List.flatMap_append]at h2;refine⟨⟨by omega,by omega⟩,⟨by omega,by omega⟩,?_⟩;obtain⟨junk,hjk,hg⟩:=Uv h2 (m:=j-i) (by show i+(s.len-j)+(j-i)<=s.cap;omega);dsimp only at hg;have e1:i+(s.len-j)+(j-i)=s.len:=by omega
  rw[e1]at hg;have k3:=KS hg hz h1z (i:=i+(s.len-j)) (by show _<=s.len;omega) (K:=K (⟨s.p,i+(s.len-j),s.cap⟩,())) ?_
  ·exact k3
  ·intro w3 h3 kk3 _;refine k _ _ ?_ (λx hx=>hx) (((k1.mono (m':=Ai s) (by simp)).trans k2 (λ_ hx=>.inl hx)).trans kk3 (λ_ hx=>.inl hx));have e2:((l.take i++l.drop j).flatMap ρ.c).length=(i+(s.len-j))*ρ.n:=by
    rw[AP ρ.len,List.length_append,List.length_take,List.length_drop]
    congr 1
    omega
   rw[List.take_append_of_le_length (by omega),List.take_of_length_le (by omega)]at h3;exact h3
 ·have hi0:i=0:=by omega
  have hl1:j=s.len:=by omega
  subst hi0 hl1;have hld:l.drop s.len=[]:=List.drop_of_length_le (by omega);rw[hld]at hsr;obtain⟨b,o,hp,hb⟩:=h1.base (by omega);refine⟨[],by rw[Nat.sub_self]at hsr ⊢;exact hsr,?_⟩;rw[if_pos (by dsimp only;omega),hp];dsimp only[Xc];rw[Nat.sub_self];refine⟨⟨by omega,by simp;omega⟩,⟨by simp,by simp⟩,?_⟩;have k3:=KS (s:=s) h1 hz h1z (i:=0) (by omega) (K:=K (⟨s.p,0,s.cap⟩,())) ?_
  ·rw[hp]at k3;simpa using k3
  ·intro w3 h3 kk3 _;refine k _ _ ?_ (λx hx=>hx) ((k1.mono (m':=Ai s) (by simp)).trans kk3 (λ_ hx=>.inl hx));rw[hld];show AE w3 _ ρ.n [];simpa using h3
def Fj (P:Program)(g1 g2:FuncId)(e n bytes:Nat)(z:Array Value)(p_s:Sl)(p_i:Int)(p_v:Sl)(R:TR [.sc .sl]->Pr):Pr:=
 AY ((0:Int)<=p_i/\p_i<=((p_s.len:Nat):Int)) <|
 Br ((((p_v.len:Nat):Int):Int)==0) (
 R (p_s,())) (
 Br ((p_i:Int)==((p_s.len:Nat):Int)) (
 App e n bytes z p_s p_v.len (BH p_v.p p_v.len n) λr1=>
 R (r1,())) (
 Br (decide (((An (((p_s.len:Nat):Int)+((p_v.len:Nat):Int))):Int)>((p_s.cap:Nat):Int))) (
 AY ((0:Int)<=p_i/\p_i<=((p_s.cap:Nat):Int)) <|
 Air e n bytes z ⟨(A7 p_s.p p_s.cap 0 n),((Int.toNat p_i)-0),(p_s.cap-0)⟩ (An ((An (((p_s.len:Nat):Int)+((p_v.len:Nat):Int)))-p_i)) λr2=>
 AY ((0:Int)<=p_i/\p_i<=((r2.len:Nat):Int)) <|
 Cpy n (A7 r2.p r2.cap (Int.toNat p_i) n) (Nat.min p_v.len (r2.len-(Int.toNat p_i))) (BH p_v.p (Nat.min p_v.len (r2.len-(Int.toNat p_i))) n) <|
 Dr <|
 AY ((0:Int)<=(An (p_i+((p_v.len:Nat):Int)))/\(An (p_i+((p_v.len:Nat):Int)))<=((r2.len:Nat):Int)) <|
 AY ((0:Int)<=p_i/\p_i<=((p_s.len:Nat):Int)) <|
 Cpy n (A7 r2.p r2.cap (Int.toNat (An (p_i+((p_v.len:Nat):Int)))) n) (Nat.min (p_s.len-(Int.toNat p_i)) (r2.len-(Int.toNat (An (p_i+((p_v.len:Nat):Int)))))) (BH (A7 p_s.p p_s.cap (Int.toNat p_i) n) (Nat.min (p_s.len-(Int.toNat p_i)) (r2.len-(Int.toNat (An (p_i+((p_v.len:Nat):Int)))))) n) <|
 R (r2,())) (
 AY ((0:Int)<=(An (((p_s.len:Nat):Int)+((p_v.len:Nat):Int)))/\(An (((p_s.len:Nat):Int)+((p_v.len:Nat):Int)))<=((p_s.cap:Nat):Int)) <|
 AY ((0:Int)<=(An (p_i+((p_v.len:Nat):Int)))/\(An (p_i+((p_v.len:Nat):Int)))<=((((Int.toNat (An (((p_s.len:Nat):Int)+((p_v.len:Nat):Int))))-0):Nat):Int)) <|
 Ex P g1 [(.slice p_v.p p_v.len p_v.cap),(.slice (A7 (A7 p_s.p p_s.cap 0 n) (p_s.cap-0) (Int.toNat (An (p_i+((p_v.len:Nat):Int)))) n) (((Int.toNat (An (((p_s.len:Nat):Int)+((p_v.len:Nat):Int))))-0)-(Int.toNat (An (p_i+((p_v.len:Nat):Int))))) ((p_s.cap-0)-(Int.toNat (An (p_i+((p_v.len:Nat):Int))))))] false [.sc .b] λr3=>
 Br (!r3.1) (
 Dr <|
 AY ((0:Int)<=(An (p_i+((p_v.len:Nat):Int)))/\(An (p_i+((p_v.len:Nat):Int)))<=((((Int.toNat (An (((p_s.len:Nat):Int)+((p_v.len:Nat):Int))))-0):Nat):Int)) <|
 AY ((0:Int)<=p_i/\p_i<=((((Int.toNat (An (((p_s.len:Nat):Int)+((p_v.len:Nat):Int))))-0):Nat):Int)) <|
 Cpy n (A7 (A7 p_s.p p_s.cap 0 n) (p_s.cap-0) (Int.toNat (An (p_i+((p_v.len:Nat):Int)))) n) (Nat.min (((Int.toNat (An (((p_s.len:Nat):Int)+((p_v.len:Nat):Int))))-0)-(Int.toNat p_i)) (((Int.toNat (An (((p_s.len:Nat):Int)+((p_v.len:Nat):Int))))-0)-(Int.toNat (An (p_i+((p_v.len:Nat):Int)))))) (BH (A7 (A7 p_s.p p_s.cap 0 n) (p_s.cap-0) (Int.toNat p_i) n) (Nat.min (((Int.toNat (An (((p_s.len:Nat):Int)+((p_v.len:Nat):Int))))-0)-(Int.toNat p_i)) (((Int.toNat (An (((p_s.len:Nat):Int)+((p_v.len:Nat):Int))))-0)-(Int.toNat (An (p_i+((p_v.len:Nat):Int)))))) n) <|
 AY ((0:Int)<=p_i/\p_i<=((((Int.toNat (An (((p_s.len:Nat):Int)+((p_v.len:Nat):Int))))-0):Nat):Int)) <|
 Cpy n (A7 (A7 p_s.p p_s.cap 0 n) (p_s.cap-0) (Int.toNat p_i) n) (Nat.min p_v.len (((Int.toNat (An (((p_s.len:Nat):Int)+((p_v.len:Nat):Int))))-0)-(Int.toNat p_i))) (BH p_v.p (Nat.min p_v.len (((Int.toNat (An (((p_s.len:Nat):Int)+((p_v.len:Nat):Int))))-0)-(Int.toNat p_i))) n) <|
 R (⟨(A7 p_s.p p_s.cap 0 n),((Int.toNat (An (((p_s.len:Nat):Int)+((p_v.len:Nat):Int))))-0),(p_s.cap-0)⟩,())) (
 AY ((0:Int)<=((p_s.len:Nat):Int)/\((p_s.len:Nat):Int)<=((((Int.toNat (An (((p_s.len:Nat):Int)+((p_v.len:Nat):Int))))-0):Nat):Int)) <|
 Cpy n (A7 (A7 p_s.p p_s.cap 0 n) (p_s.cap-0) (Int.toNat ((p_s.len:Nat):Int)) n) (Nat.min p_v.len (((Int.toNat (An (((p_s.len:Nat):Int)+((p_v.len:Nat):Int))))-0)-(Int.toNat ((p_s.len:Nat):Int)))) (BH p_v.p (Nat.min p_v.len (((Int.toNat (An (((p_s.len:Nat):Int)+((p_v.len:Nat):Int))))-0)-(Int.toNat ((p_s.len:Nat):Int)))) n) <|
 AY ((0:Int)<=p_i/\p_i<=((((Int.toNat (An (((p_s.len:Nat):Int)+((p_v.len:Nat):Int))))-0):Nat):Int)) <|
 Cl P g2 [(.slice (A7 (A7 p_s.p p_s.cap 0 n) (p_s.cap-0) (Int.toNat p_i) n) (((Int.toNat (An (((p_s.len:Nat):Int)+((p_v.len:Nat):Int))))-0)-(Int.toNat p_i)) ((p_s.cap-0)-(Int.toNat p_i))),(.int .i64 ((p_v.len:Nat):Int))] true [] λr4=>
 R (⟨(A7 p_s.p p_s.cap 0 n),((Int.toNat (An (((p_s.len:Nat):Int)+((p_v.len:Nat):Int))))-0),(p_s.cap-0)⟩,())))))
theorem Ab0 {T X D:List Value}{n:Nat}(hT:T.length=(n+1)*m)(hi:i<=n)(hX:X.length=m)(hD:D.length=(n-i)*m)(j:Nat):
  (T.take (i*m)++X++D)[j]?=if i*m<=j/\j<i*m+m then X[j-i*m]? else if i*m+m<=j then D[j-(i*m+m)]? else T[j]?:=by
 have e:i*m<=n*m:=Nat.mul_le_mul_right _ hi;rw[Nat.succ_mul]at hT;have hk:(T.take (i*m)).length=i*m:=by rw[List.length_take];omega
 by_cases h1:j<i*m
 ·rw[if_neg (by omega),if_neg (by omega),List.append_assoc,List.getElem?_append_left (by omega),List.getElem?_take,if_pos h1]
 ·by_cases h2:j<i*m+m
  ·rw[if_pos (by omega),List.getElem?_append_left (by rw[List.length_append];omega),List.getElem?_append_right (by omega),hk]
  ·rw[if_neg (by omega),if_pos (by omega),List.getElem?_append_right (by rw[List.length_append];omega)]
   congr 1
   rw[List.length_append];omega
theorem Ah4 {T X D:List Value}{n:Nat}(hT:T.length=(n+1)*m)(hi:i<=n)(hX:X.length=m)(hD:D.length=(n-i)*m):Me (Me T ((i+1)*m) D) (i*m) X=T.take (i*m)++X++D/\Me (Me T (i*m) X) ((i+1)*m) D=T.take (i*m)++X++D:=by
 have e:(n-i)*m+i*m=n*m:=by rw[<-Nat.add_mul];congr 1;omega
 have hT':=hT;rw[Nat.succ_mul]at hT';have e1:(Me T ((i+1)*m) D).length=T.length:=IH (by rw[Nat.succ_mul];omega);have e2:(Me T (i*m) X).length=T.length:=IH (by omega);have es:(i+1)*m=i*m+m:=Nat.succ_mul _ _;constructor
 ·apply List.ext_getElem?;intro j;rw[Ab0 hT hi hX hD,Ms (by omega),Ms (by rw[Nat.succ_mul];omega),hX,es];by_cases h1:i*m<=j/\j<i*m+m
  ·rw[if_pos h1,if_pos h1]
  ·rw[if_neg h1,if_neg h1];by_cases h2:i*m+m<=j
   ·rw[if_pos h2];by_cases h3:j<i*m+m+D.length
    ·rw[if_pos ⟨h2,h3⟩]
    ·rw[if_neg (by omega),List.getElem?_eq_none (by omega),List.getElem?_eq_none (by omega)]
   ·rw[if_neg (by omega),if_neg h2]
 ·apply List.ext_getElem?;intro j;rw[Ab0 hT hi hX hD,Ms (by omega),Ms (by omega),hX,es];by_cases h2:i*m+m<=j
  ·rw[if_neg (c:=i*m<=j/\j<i*m+m) (by omega),if_neg (c:=i*m<=j/\j<i*m+m) (by omega),if_pos h2];by_cases h3:j<i*m+m+D.length
   ·rw[if_pos ⟨h2,h3⟩]
   ·rw[if_neg (by omega),List.getElem?_eq_none (by omega),List.getElem?_eq_none (by omega)]
  ·rw[if_neg (c:=i*m+m<=j/\_) (by omega),if_neg h2]
def Ac1 (P:Program)(g:FuncId)(e:TypeId)(n:Nat):Prop:=∀{w:World} {a b o la ca lb cb:Nat} {cs all:Array Value} {t:TypeId} {fr:Nat×Nat},w.heap[a]?=some (.cells cs e (0,0))->w.heap[b]?=some (.cells all t fr)->a≠b->all.size≠0->∀{K:TR [.sc .b]->Pr},K (false,()) w ->
  Ex P g [.slice (some ⟨a,0,none⟩) la ca,.slice (some ⟨b,o,none⟩) lb cb] false [.sc .b] K w
theorem Kc {g1 g2:FuncId}(hov:Ac1 P g1 e ρ.n)(hz:z.size=ρ.n)(h1z:∀v∈z.toList,v.oneCell'=true)(hB:bytes<=1000)(hN:l.length<=100000000)(h:Bh ρ w s l){a:Nat}{x:α}(ha:w.heap[a]?=some (.cells (ρ.c x).toArray e (0,0)))(hna:a∉Ai s){i:Nat}(hi:i<=l.length){K:TR [.sc .sl]->Pr}(k:∀r w',Bh ρ w' r (l.take i++x::l.drop i)->(∀y∈Ai r,y∈Ai s\/w.heap.size<=y)->Aa (Ai s) w w'->K (r,()) w'):
  Fj P g1 g2 e ρ.n bytes z s (i:Int) ⟨some ⟨a,0,none⟩,1,1⟩ K w:=by
 have hl:=h.BY;have hc:=h.cap;have hn0:=ρ.n0;have hm:(s.len+1)*bytes<=100000001*1000:=Nat.mul_le_mul (by omega) hB;have hsrc:∀w',w'.heap[a]?=some (.cells (ρ.c x).toArray e (0,0))->BH (some ⟨a,0,none⟩) 1 ρ.n (ρ.c x) w':=λw' ha=>BI ha;unfold Fj;dsimp only;refine⟨⟨by omega,by omega⟩,?_⟩;rw[show(((1:Nat):Int)==0)=false from rfl];simp only[Ae];have hin:∀l':List α,(l'.take i++x::l'.drop i).flatMap ρ.c=(l'.take i).flatMap ρ.c++ρ.c x++(l'.drop i).flatMap ρ.c:=by intro l';simp
 by_cases hil:i=s.len
 ·rw[show((i:Int)==((s.len:Nat):Int))=true from by simp[hil]];simp only[Af];refine MZ h (hsrc w ha) (by rw[ρ.len,Nat.one_mul]) (ρ.one x) hz (by omega) (by omega) ?_;intro r w' h1 _ h3 h4;refine k r _ ?_ h4 h3;show AE w' r ρ.n _;rw[hin,List.take_of_length_le (by omega),List.drop_of_length_le (by omega)];simpa using h1
 ·rw[show((i:Int)==((s.len:Nat):Int))=false from by simp;omega];simp only[Ae];rw[show An (((s.len:Nat):Int)+((1:Nat):Int))=((s.len+1:Nat):Int)from by rw[By (by omega) (by omega)];omega,show An ((i:Int)+((1:Nat):Int))=((i+1:Nat):Int)from by rw[By (by omega) (by omega)];omega];have hrest:∀w',Bh ρ w' s l->V0 (A7 s.p s.cap i ρ.n) ((s.len-i)*ρ.n) ((l.drop i).flatMap ρ.c) w':=by
   intro w' h';have:=(h'.C6.drop (lo:=i) (hi:=s.len) (by omega) (Nat.le_refl _)).rd;dsimp only at this
   rwa [List.take_of_length_le (by rw[List.length_drop];omega)]at this
  have hdl:((l.drop i).flatMap ρ.c).length=(s.len-i)*ρ.n:=by rw[AP ρ.len,List.length_drop,hl]
  have hm1:(s.len+1-i)*bytes<=100000001*1000:=Nat.mul_le_mul (by omega) hB;by_cases hcap:s.cap<s.len+1
  ·rw[decide_eq_true (by omega)];simp only[Af];refine⟨⟨by omega,by omega⟩,?_⟩;simp only[Eh,Nat.sub_zero,Int.toNat_natCast];rw[show An (((s.len+1:Nat):Int)-(i:Int))=((s.len+1-i:Nat):Int)from by rw[By (by omega) (by omega)];omega];refine⟨by omega,by omega,?_,?_⟩
   ·have:(((s.len+1-i)*bytes:Nat):Int)<=100000001*1000:=by omega
    rw[Int.natCast_mul]at this;omega
   rw[Int.toNat_natCast];have hf:=A1.front h (i:=i) (by omega);have hm2:(i+(s.len+1-i))*bytes<=100000001*1000:=Nat.mul_le_mul (by omega) hB;refine AfM (new:=C4 z.toList (s.len+1-i)) hf.rdc ?_ ?_ (Ajk h1z _) hz (by dsimp only;omega) (by dsimp only;omega) (by dsimp only;omega) ?_
   ·show _=_;rw[if_neg (Nat.ne_of_gt (Nat.mul_pos (by omega) hn0)),GA]
   ·rw[C3,Array.length_toList,hz]
   ·intro r w1 h1 hr k1 hb1;dsimp only at hr;have hr':r.len=s.len+1:=by omega
    refine⟨⟨by omega,by omega⟩,?_⟩;rw[show Nat.min 1 (r.len-i)=1 from by rw[hr'];exact Nat.min_eq_left (by omega)];refine Ym (s:=r) h1 (hsrc w1 (k1.at ha (by simp))) (by rw[ρ.len,Nat.one_mul]) (ρ.one x) (by omega) (by omega) ?_;intro w2 h2 k2;simp only[Dr];have kd:Aa [] w2 w2.drew:=(Aa.refl _ _).drew;have h2d:=h2.Ab kd;refine⟨⟨by omega,by omega⟩,⟨by omega,by omega⟩,?_⟩;rw[show Nat.min (s.len-i) (r.len-(i+1))=s.len-i from by rw[hr'];exact Nat.min_eq_left (by omega)];have ksr:Aa [] w w2.drew:=(Ky k1 k2 hb1).drew;refine Ym h2d (hrest _ (h.Ab ksr)) hdl (ρ.Afx _) (by omega) (by omega) ?_;intro w3 h3 k3;refine k r _ ?_ (λy hy=>.inr (hb1 y hy)) ((Ky ksr k3 hb1).mono (by simp));show AE w3 r ρ.n _;have hTl:((l.take i).flatMap ρ.c++C4 z.toList (s.len+1-i)).length=(s.len+1)*ρ.n:=by
     rw[List.length_append,C3,AP ρ.len,show z.toList.length=ρ.n from(Array.length_toList (xs:=z)).trans hz,<-Nat.add_mul,List.length_take]
     congr 1
     omega
    rw[(Ah4 (n:=s.len) hTl (by omega) (ρ.len x) hdl).2]at h3;rw[hin];have hk:((l.take i).flatMap ρ.c).length=i*ρ.n:=by rw[AP ρ.len,List.length_take];congr 1;omega
    rw[List.take_append_of_le_length (by omega),List.take_of_length_le (by omega)]at h3;exact h3
  ·rw[decide_eq_false (by omega)];simp only[Ae];refine⟨⟨by omega,by omega⟩,?_⟩;simp only[Eh,Nat.sub_zero,Int.toNat_natCast];refine⟨⟨by omega,by omega⟩,?_⟩;obtain⟨junk,hj,hg⟩:=Uv h (m:=1) (by omega);obtain⟨b,o,hp,hb⟩:=h.base (by omega);have hoff:A7 s.p s.cap (i+1) ρ.n=some ⟨b,o+(i+1)*ρ.n,none⟩:=by
    have hne:s.cap≠i+1:=by omega
    simp[A7,hne,hp,Cr]
   obtain⟨b',o',all,t,fr,hp',hbl,g1',_⟩:=h.row.resolve_left (by omega);rw[hp,Option.some.injEq,Addr.mk.injEq]at hp';obtain⟨rfl,rfl,_⟩:=hp';have hab:a≠b:=by rw[hb]at hna;simpa using hna
   have key:∀w0,Aa [] w w0->Cpy ρ.n (A7 s.p s.cap (i+1) ρ.n) (Nat.min (s.len+1-i) (s.len+1-(i+1))) (BH (A7 s.p s.cap i ρ.n) (Nat.min (s.len+1-i) (s.len+1-(i+1))) ρ.n)
     (AY ((0:Int)<=(i:Int)/\(i:Int)<=((s.len+1:Nat):Int))<|Cpy ρ.n (A7 s.p s.cap i ρ.n) (Nat.min 1 (s.len+1-i)) (BH (some ⟨a,0,none⟩) (Nat.min 1 (s.len+1-i)) ρ.n) (K (⟨s.p,s.len+1,s.cap⟩,()))) w0:=by
    intro w0 k0;rw[show Nat.min (s.len+1-i) (s.len+1-(i+1))=s.len-i from by rw[show Nat.min _ _=min _ _ from rfl];omega,show Nat.min 1 (s.len+1-i)=1 from Nat.min_eq_left (by omega)];refine Ym (s:=⟨s.p,s.len+1,s.cap⟩) (i:=i+1) (hg.Ab k0) (hrest _ (h.Ab k0)) hdl (ρ.Afx _) (by omega) (by dsimp only;omega) ?_;intro w1 h1 k1;refine⟨⟨by omega,by omega⟩,?_⟩;have k01:Aa (Ai s) w w1:=(k0.mono (by simp)).trans k1 (λ_ hx=>.inl hx);refine Ym (s:=⟨s.p,s.len+1,s.cap⟩) (i:=i) h1 (hsrc w1 (k01.at ha hna)) (by rw[ρ.len,Nat.one_mul]) (ρ.one x) (by omega) (by dsimp only;omega) ?_;intro w2 h2 k2;refine k _ _ ?_ (λy hy=>.inl hy) (k01.trans k2 (λ_ hx=>.inl hx));show AE w2 _ ρ.n _;have hlf:=AP ρ.len l;have hTl:(l.flatMap ρ.c++junk).length=(s.len+1)*ρ.n:=by
     rw[List.length_append,hlf,hj,<-Nat.add_mul,hl]
    have hle:i*ρ.n<=l.length*ρ.n:=Nat.mul_le_mul_right _ hi;rw[(Ah4 (n:=s.len) hTl (by omega) (ρ.len x) hdl).1,List.take_append_of_le_length (by omega),JO ρ.len,<-hin]at h2;exact h2
   have key2:=key w.drew ((Aa.refl [] w).drew);rw[hoff]at key2 ⊢;have hall:all.size≠0:=by
    have:1*ρ.n<=s.cap*ρ.n:=Nat.mul_le_mul_right _ (by omega);omega
   refine hov ha hbl hab hall ?_;simp only[Bool.not_false,Af,Dr];refine⟨⟨by omega,by omega⟩,⟨by omega,by omega⟩,?_⟩;exact key2
def Agd (ρ:Rec α)(ld:Addr->(Value->Pr)->Pr)(v:α->Value):Prop:=∀{w:World} {s:Sl} {l:List α} {i:Nat} {x:α} {K:Value->Pr},A1 ρ w s l->l[i]?=some x->K (v x) w->Ix s (i:Int) ρ.n (λa=>ld a K) w
def ldA (ks:List Kd)(a:Addr)(K:Value->Pr):Pr:=LdT ks a 0 λy=>K (.agg (Cs ks y).toArray)
def ldK (k:Kd)(a:Addr)(K:Value->Pr):Pr:=Ld k a λx=>K (k.enc x)
theorem HF (ρ:Rec α):Agd ρ (ldA ρ.ks) ρ.v:=λh hx hk=>h.ld hx hk
def Rec.sca (k:Kd)(hk:k.nov=true):Rec k.T:=⟨[k],λx=>(x,()),by simp[hk],by simp⟩
theorem Ai6 (k:Kd)(hk:k.nov=true):Agd (Rec.sca k hk) (ldK k) k.enc:=by
 intro w s l i x K h hx hK;obtain⟨a,ha,hc⟩:=h.at hx;have hi:=(List.getElem?_eq_some_iff.1 hx).1;have hl:=h.len;unfold Ix;rw[ha];refine⟨by omega,by omega,?_⟩;rw[Int.toNat_natCast];have h0:=hc 0 (k.enc x) rfl;rw[add_add,Nat.add_zero]at h0;exact DO h0 hK
def QX (P:Program)(f:Value)(v:α->Value)(p:α->Bool)(F:Nat->Prop)(l:List α)(w:World):Prop:=
 ∀w',A4 F w w'->∀x∈l,∀K:TR [.sc .b]->Pr,(∀w'',Aa [] w' w''->K (p x,()) w'')->AB P f [v x] false [.sc .b] K w'
theorem Aa.Mh {w:World}(h:Aa [] w w'):A4 F w w':=h.FY (by simp)
theorem A4.SU {w:World}(h:A4 (λ_=>False) w w'):Aa [] w w':=h.toL (λ_ hx=>hx.elim)
theorem Aa.All {m:List Nat}{w:World}(h:Aa m w w'):A4 (·∈m) w w':=h.FY (λ_ hx=>.inl hx)
theorem QX.to {f:Value}{v:α->Value}{p:α->Bool}{w w1:World}(h:QX P f v p F l w)(hk:A4 F w w1):QX P f v p F l w1:=λw' k x=>h w' (hk.same k) x
def Q3 (l:List α)(p:α->Bool):Int:=match l.findIdx? p with|some i=>(i:Int)|none=>-1
def BG (P:Program)(n:Nat)(ld:Addr->(Value->Pr)->Pr)(p_s:Sl)(p_f:Value)(R:TR [.sc (.i .i64)]->Pr):Pr:=
 Lp (σ:=Int×Int×Unit) (λL1 s2=>
 Br (decide ((s2.2.1:Int)<((p_s.len:Nat):Int))) (
 Ix p_s s2.2.1 n λa3=>
 ld a3 λv=>
 AB P p_f [v] false [.sc .b] λr8=>
 Br r8.1 (
 R (s2.2.1,())) (
 L1 (s2.1,(An (s2.2.1+1)),()))) (
 R ((-1),()))) (0,0,())
variable {ld:Addr->(Value->Pr)->Pr}{v:α->Value}
theorem C0 (hld:Agd ρ ld v)(h:A1 ρ w s l){f:Value}{p:α->Bool}{F:Nat->Prop}(hp:QX P f v p F l w)(hN:l.length<=100000000){K:TR [.sc (.i .i64)]->Pr}(k:∀w',Aa [] w w'->K (Q3 l p,()) w'):BG P ρ.n ld s f K w:=by
 have hl:=h.len;unfold BG;refine⟨λn st w'=>∃(q:Int) (i:Nat),st=(q,(i:Int),())/\n=l.length-i/\i<=l.length/\(∀y∈l.take i,p y=false)/\Aa [] w w',⟨_,0,0,rfl,rfl,by omega,by simp,Aa.refl _ _⟩,?_⟩;rintro n _ w1 ⟨q,i,rfl,rfl,hi,hpre,k1⟩;dsimp only;by_cases hlt:i<l.length
 ·rw[decide_eq_true (by omega)];simp only[Br];obtain⟨x,hx⟩:∃x,l[i]?=some x:=⟨_,List.getElem?_eq_getElem hlt⟩;refine hld (h.Ab k1) hx ?_;refine hp w1 k1.Mh x (List.mem_of_getElem? hx) _ ?_;intro w2 k2;have k02:=Aj k1 k2;cases hpx:p x with
  |true=>
   have e:Q3 l p=(i:Int):=by
    unfold Q3;rw[show l.findIdx? p=some i from List.findIdx?_eq_some_iff_getElem.2 ⟨hlt,by rw[(List.getElem?_eq_some_iff.1 hx).2];exact hpx,λj hj=>by
     have:=hpre l[j] (by rw[List.mem_take_iff_getElem];exact⟨j,by omega,rfl⟩);simp[this]⟩]
   rw[e]at k;exact k _ k02
  |false=>
   simp only;refine⟨l.length-(i+1),by omega,q,i+1,by rw[AK (by omega)],rfl,by omega,?_,k02⟩;intro y hy;rw[List.take_add_one,hx]at hy;simp at hy;rcases hy with hy|rfl
   ·exact hpre y hy
   ·exact hpx
 ·rw[decide_eq_false (by omega)];simp only[Br];rw[List.take_of_length_le (by omega)]at hpre;have e:Q3 l p=-1:=by
   unfold Q3;rw[show l.findIdx? p=none from List.findIdx?_eq_none_iff.2 (λx hx=>hpre x hx)]
  rw[e]at k;exact k _ k1
theorem AeT (l:List α)(p:α->Bool):decide (Q3 l p>=0)=l.any p:=by
 unfold Q3;cases h:l.findIdx? p with
 |none=>
  rw[List.findIdx?_eq_none_iff]at h;rw[decide_eq_false (by dsimp only;omega)];exact(List.any_eq_false.2 (λx hx=>by rw[h x hx];simp)).symm
 |some i=>
  obtain⟨h1,h2,_⟩:=List.findIdx?_eq_some_iff_getElem.1 h;rw[decide_eq_true (by dsimp only;omega)];exact(List.any_eq_true.2 ⟨_,List.getElem_mem h1,h2⟩).symm
def B7 (P:Program)(g:FuncId)(p_s:Sl)(p_f:Value)(R:TR [.sc .b]->Pr):Pr:=
 Cl P g [(.slice p_s.p p_s.len p_s.cap),p_f] false [.sc (.i .i64)] λr1=>
 R ((decide ((r1.1:Int)>=0)),())
def Wc (P:Program)(g:FuncId)(ρ:Rec α)(v:α->Value):Prop:=∀{w:World} {s:Sl} {l:List α} {f:Value} {p:α->Bool} {F:Nat->Prop},A1 ρ w s l->QX P f v p F l w->l.length<=100000000->∀{K:TR [.sc (.i .i64)]->Pr},(∀w',Aa [] w w'->K (Q3 l p,()) w')->Cl P g [.slice s.p s.len s.cap,f] false [.sc (.i .i64)] K w
theorem BP (hg:Wc P g ρ v)(h:A1 ρ w s l){f:Value}{p:α->Bool}{F:Nat->Prop}(hp:QX P f v p F l w)(hN:l.length<=100000000){K:TR [.sc .b]->Pr}(k:∀w',Aa [] w w'->K (l.any p,()) w'):B7 P g s f K w:=by
 refine hg h hp hN ?_;intro w' k1;dsimp only;rw[AeT];exact k w' k1
abbrev Rdr:Type:=Addr->(Value->(((Addr->Pr->Pr)->Pr)->Pr)->Pr)->Pr
def Ail (ks:List Kd)(z0:Array Value)(t:TypeId):Rdr:=λa K=>LdT ks a 0 λy=>At z0 t λb=>Xc (Cs ks y) b 0<|LdT ks b 0 λy2=>K (.agg (Cs ks y2).toArray) λC=>LdT ks b 0 λy3=>C λa k=>Xc (Cs ks y3) a 0 k
def Aia (k:Kd):Rdr:=λa K=>Ld k a λx=>K (k.enc x) λC=>C λa j=>St a (k.enc x) j
def Fp (P:Program)(g:FuncId)(n:Nat)(z:Array Value)(rd:Rdr)(p_s:Sl)(p_del:Value)(R:TR [.sc .sl]->Pr):Pr:=
 Cl P g [(.slice p_s.p p_s.len p_s.cap),p_del] false [.sc (.i .i64)] λr1=>
 Br ((r1.1:Int)==(-1)) (
 R (p_s,())) (
 Lp (σ:=Int×Int×Unit) (λL2 s3=>
 Br (decide ((s3.2.1:Int)<((p_s.len:Nat):Int))) (
 Jp (σ:=Int×Unit) (λs5=>
 L2 (s5.1,(An (s3.2.1+1)),())) λJ4=>
 Ix p_s s3.2.1 n λa6=>
 rd a6 λu re=>
 AB P p_del [u] false [.sc .b] λr16=>
 Br (!r16.1) (
 re λst=>
 Ix p_s s3.1 n λa21=>
 st a21 <|
 J4 ((An (s3.1+1)),())) (
 J4 (s3.1,()))) (
 AY ((0:Int)<=s3.1/\s3.1<=((p_s.len:Nat):Int)) <|
 Zf z ⟨(A7 p_s.p p_s.cap (Int.toNat s3.1) n),(p_s.len-(Int.toNat s3.1)),(p_s.cap-(Int.toNat s3.1))⟩ <|
 AY ((0:Int)<=s3.1/\s3.1<=((p_s.cap:Nat):Int)) <|
 R (⟨(A7 p_s.p p_s.cap 0 n),((Int.toNat s3.1)-0),(p_s.cap-0)⟩,()))) (r1.1,(An (r1.1+1)),()))
def Alk (ρ:Rec α)(x:α)(st:Addr->Pr->Pr):Prop:=∀{w:World} {s:Sl} {l:List α} {j:Nat} {K:Pr},Bh ρ w s l->j<l.length->(∀w',Bh ρ w' s (l.set j x)->Aa (Ai s) w w'->K w')->Ix s (j:Int) ρ.n (λa=>st a K) w
def AiM (ρ:Rec α)(rd:Rdr)(v:α->Value):Prop:=∀{w:World} {s:Sl} {l:List α} {i:Nat} {x:α} {K},A1 ρ w s l->l[i]?=some x ->
 (∀w1 re,Aa [] w w1->(∀w2,Aa [] w1 w2->∀C:(Addr->Pr->Pr)->Pr,(∀st,Alk ρ x st->C st w2)->re C w2)->K (v x) re w1)->Ix s (i:Int) ρ.n (λa=>rd a K) w
theorem Agf (ρ:Rec α){z0:Array Value}{t:TypeId}(hz:z0.size=ρ.n):AiM ρ (Ail ρ.ks z0 t) ρ.v:=by
 intro w s l i x K h hx hK;unfold Ail;refine h.ld hx ?_;refine Ei (K:=λb=>_) ((ρ.len x).trans hz.symm) (ρ.one x) λb w1 hb nb k1=>?_;refine Aed hb ?_;refine hK w1 _ k1 λw2 k2 C hC=>?_;refine Aed (k2.at hb (by simp)) ?_;exact hC _ λhs hj k=>hs.ste hj x k
theorem AfZ (k:Kd)(hk:k.nov=true):AiM (Rec.sca k hk) (Aia k) k.enc:=by
 intro w s l i x K h hx hK;unfold Aia;obtain⟨a,ha,hc⟩:=h.at hx;have hi:=(List.getElem?_eq_some_iff.1 hx).1;have hl:=h.len;unfold Ix;rw[ha];refine⟨by omega,by omega,?_⟩;rw[Int.toNat_natCast];have h0:=hc 0 (k.enc x) rfl;rw[add_add,Nat.add_zero]at h0;refine DO h0 (hK w _ (Aa.refl _ _) λw2 k2 C hC=>hC _ ?_);intro w s l j K hs hj kk;have h3:=hs.ste hj x kk;unfold Ix at h3 ⊢
 revert h3
 cases s.p with
 |none=>exact id
 |some a=>
  rintro⟨g1,g2,g3⟩;refine⟨g1,g2,?_⟩;have e:∀b:Addr,Xc ((Rec.sca k hk).c x) b 0 K w->St b (k.enc x) K w:=by
   intro b hb;have:St (b.add 0) (k.enc x) K w:=hb
   rwa [show b.add 0=b from by unfold Addr.add;rfl]at this
  exact e _ g3
theorem NK {rd:Rdr}(hg:Wc P g ρ v)(hrd:AiM ρ rd v)(hz:z.size=ρ.n)(h1z:∀v∈z.toList,v.oneCell'=true)(h:Bh ρ w s l){f:Value}{p:α->Bool}(hp:QX P f v p (·∈Ai s) l w)(hN:l.length<=100000000){K:TR [.sc .sl]->Pr}(k:∀r w',Bh ρ w' r (l.filter (λx=>!p x))->(∀x∈Ai r,x∈Ai s)->Aa (Ai s) w w'->K (r,()) w'):Fp P g ρ.n z rd s f K w:=by
 have hl:=h.BY;unfold Fp;refine hg h.C6 hp hN ?_;intro w1 k1;dsimp only;have h1:=h.Ab k1;cases hf:l.findIdx? p with
 |none=>
  have hn:=List.findIdx?_eq_none_iff.1 hf;rw[show Q3 l p=-1 from by unfold Q3;rw[hf]];refine k s _ ?_ (λ_ hx=>hx) (k1.mono (by simp));rw[List.filter_eq_self.2 (λy hy=>by rw[hn y hy];rfl)];exact h1
 |some i0=>
 obtain⟨hi0,hpx0,hpre⟩:=List.findIdx?_eq_some_iff_getElem.1 hf;rw[show Q3 l p=i0 from by unfold Q3;rw[hf]];rw[show((i0:Int) == -1)=false from by simp];simp only[Br];have hfil:∀j,(l.take (j+1)).filter (λx=>!p x)=(l.take j).filter (λx=>!p x)++(match l[j]? with|some x=>if p x then []else [x]|none=>[]):=by
  intro j;rw[List.take_add_one,List.filter_append];cases l[j]? with
  |none=>rfl
  |some x=>cases hpx:p x<;>simp[hpx]
 refine⟨λn st w'=>∃(i j:Nat) (cur:List α),st=((i:Int),(j:Int),())/\n=l.length-j/\j<=l.length/\i<j/\cur.length=l.length/\cur.take i=(l.take j).filter (λx=>!p x)/\cur.drop j=l.drop j/\i<=j/\Bh ρ w' s cur/\Aa (Ai s) w w',
  ⟨_,i0,i0+1,l,by rw[AK (by omega)],rfl,by omega,by omega,rfl,?_,rfl,by omega,h1,k1.mono (by simp)⟩,?_⟩
 ·rw[hfil,List.getElem?_eq_getElem hi0];simp only[hpx0,if_true,List.append_nil];rw[List.filter_eq_self.2 (λy hy=>by
   obtain⟨j,hj,rfl⟩:=List.mem_take_iff_getElem.1 hy;have:=hpre j (by omega);simp[this])]
 rintro n _ w2 ⟨i,j,cur,rfl,rfl,hj,hij,hcl,hc1,hc2,_,h2,k2⟩;dsimp only;have hl2:=h2.BY;by_cases hlt:j<l.length
 ·rw[decide_eq_true (by omega)];simp only[Br];obtain⟨x,hx⟩:∃x,l[j]?=some x:=⟨_,List.getElem?_eq_getElem hlt⟩;have hcx:cur[j]?=some x:=by
   have e:=congrArg (λq=>q[0]?) hc2;simp only[List.getElem?_drop,Nat.add_zero]at e;rw[e,hx]
  refine AG (λst w'=>∃(i':Nat) (cur':List α),st=((i':Int),())/\i'<=j/\cur'.length=l.length/\cur'.take i'=(l.take (j+1)).filter (λx=>!p x)/\cur'.drop (j+1)=l.drop (j+1)/\Bh ρ w' s cur'/\Aa (Ai s) w w') (λJ hJ=>?_) ?_
  rotate_left
  ·rintro _ w3 ⟨i',cur',rfl,g1,g2,g3,g4,g5,g6⟩;exact⟨l.length-(j+1),by omega,i',j+1,cur',by rw[AK (by omega)],rfl,by omega,by omega,g2,g3,g4,by omega,g5,g6⟩
  refine hrd h2.C6 hcx ?_;intro w3 re k3 hre;have k03:Aa (Ai s) w w3:=k2.trans k3 (by simp);refine hp w3 k03.All x (List.mem_of_getElem? hx) _ ?_;intro w4 k4;have k04:Aa (Ai s) w w4:=k03.trans k4 (by simp);have g2:Bh ρ w4 s cur:=(h2.Ab k3).Ab k4;have hc3:cur.drop (j+1)=l.drop (j+1):=by rw[<-List.drop_drop,hc2,List.drop_drop]
  dsimp only;cases hpx:p x with
  |true=>
   refine hJ _ _ ⟨i,cur,rfl,by omega,hcl,?_,hc3,g2,k04⟩;rw[hfil,hx,hc1];simp[hpx]
  |false=>
   simp only[Bool.not_false];refine hre w4 k4 _ λst hst=>?_;refine hst g2 (by omega) ?_;intro w5 g5 k5;refine hJ _ _ ⟨i+1,cur.set i x,by rw[AK (by omega)],by omega,by simp[hcl],?_,?_,g5,k04.trans k5 (λ_ hx=>.inl hx)⟩
   ·rw[hfil,hx,List.take_add_one,List.take_set_of_le (by omega),hc1,List.getElem?_set_self (by omega)];simp[hpx]
   ·rw[List.drop_set_of_lt (by omega),hc3]
 ·rw[decide_eq_false (by omega)];simp only[Br];have hjl:j=l.length:=by omega
  refine⟨⟨by omega,by omega⟩,?_⟩;rw[Int.toNat_natCast];refine KS h2 hz h1z (by omega) ?_;intro w3 g3 k3 _;have hcap:=h2.cap;refine⟨⟨by omega,by omega⟩,?_⟩;rw[Eh];refine k ⟨s.p,i-0,s.cap-0⟩ _ ?_ (λx hx=>hx) (k2.trans k3 (λ_ hx=>.inl hx));rw[JO ρ.len,hc1,List.take_of_length_le (by omega)]at g3;exact g3
def B2 (P:Program)(n:Nat)(ld:Addr->(Value->Pr)->Pr)(p_x:Sl)(tv:Value)(p_cmp:Value)(R:TR [.sc (.i .i64),.sc .b]->Pr):Pr:=
 Lp (σ:=Int×Int×Unit) (λL1 s2=>
 Br (decide ((s2.1:Int)<s2.2.1)) (
 AY ((0:Int)<=1) <|
 Ix p_x (An ((IW .u64 (IntKind.u64.wrap ((An (s2.1+s2.2.1)))) 1))) n λa3=>
 ld a3 λv=>
 AB P p_cmp [v,tv] false [.sc (.i .i64)] λr8=>
 Br (decide ((r8.1:Int)<0)) (
 L1 ((An ((An ((IW .u64 (IntKind.u64.wrap ((An (s2.1+s2.2.1)))) 1)))+1)),s2.2.1,())) (
 L1 (s2.1,(An ((IW .u64 (IntKind.u64.wrap ((An (s2.1+s2.2.1)))) 1))),()))) (
 Br (decide ((s2.1:Int)<((p_x.len:Nat):Int))) (
 Ix p_x s2.1 n λa9=>
 ld a9 λv=>
 AB P p_cmp [v,tv] false [.sc (.i .i64)] λr14=>
 R (s2.1,((r14.1:Int)==0),())) (
 R (s2.1,false,())))) (0,((p_x.len:Nat):Int),())
def IsC (P:Program)(f:Value)(v:α->Value)(tv:Value)(c:α->Int)(l:List α)(w:World):Prop:=
 ∀w',Aa [] w w'->∀x∈l,∀K:TR [.sc (.i .i64)]->Pr,(∀w'',Aa [] w' w''->K (c x,()) w'')->AB P f [v x,tv] false [.sc (.i .i64)] K w'
def Ba (c:α->Int)(l:List α):Nat:=(l.takeWhile (λx=>decide (c x<0))).length
theorem Dv (c:α->Int)(l:List α):Ba c l<=l.length:=List.Sublist.length_le (List.takeWhile_sublist _)
theorem Qg {c:α->Int}{l:List α}{x:α}(hx:l[j]?=some x)(hj:j<Ba c l):c x<0:=by
 induction l generalizing j with
 |nil=>simp at hx
 |cons y l ih=>
  unfold Ba at hj;rw[List.takeWhile_cons]at hj;by_cases hy:c y<0
  ·simp only[hy,decide_true,if_true,List.length_cons]at hj;cases j with
   |zero=>simp at hx;subst hx;exact hy
   |succ j=>exact ih (by simpa using hx) (by unfold Ba;omega)
  ·simp[hy]at hj
theorem PD {c:α->Int}{l:List α}(hs:l.Pairwise (λa b=>c b<0->c a<0)){j:Nat}{x:α}(hx:l[j]?=some x)(hj:Ba c l<=j):0<=c x:=by
 induction l generalizing j with
 |nil=>simp at hx
 |cons y l ih=>
  rw[List.pairwise_cons]at hs;unfold Ba at hj;rw[List.takeWhile_cons]at hj;by_cases hy:c y<0
  ·simp only[hy,decide_true,if_true,List.length_cons]at hj;cases j with
   |zero=>omega
   |succ j=>exact ih hs.2 (by simpa using hx) (by unfold Ba;omega)
  ·cases j with
   |zero=>
    simp at hx;subst hx;omega
   |succ j=>
    rcases Int.lt_or_le (c x) 0 with h|h
    ·exact absurd (hs.1 x (List.mem_of_getElem? (by simpa using hx)) h) hy
    ·exact h
def Ee (c:α->Int)(l:List α):Bool:=match l[Ba c l]? with|some x=>c x==0|none=>false
theorem C8 (hld:Agd ρ ld v)(h:A1 ρ w s l){f tv:Value}{c:α->Int}(hp:IsC P f v tv c l w)(hs:l.Pairwise (λa b=>c b<0->c a<0))(hN:l.length<=100000000){K:TR [.sc (.i .i64),.sc .b]->Pr}(k:∀w',Aa [] w w'->K ((Ba c l:Int),Ee c l,()) w'):B2 P ρ.n ld s tv f K w:=by
 have hl:=h.len;have hle:=Dv c l;unfold B2;refine⟨λn st w'=>∃(i j:Nat),st=((i:Int),(j:Int),())/\n=j-i/\i<=Ba c l/\Ba c l<=j/\j<=l.length/\Aa [] w w',⟨_,0,l.length,by rw[hl];rfl,rfl,by omega,by omega,by omega,Aa.refl _ _⟩,?_⟩;rintro n _ w1 ⟨i,j,rfl,rfl,hi,hij,hj,k1⟩;dsimp only;by_cases hlt:i<j
 ·rw[decide_eq_true (by omega)];simp only[Af];refine⟨by decide,?_⟩;have e:An (IW .u64 (IntKind.u64.wrap (An ((i:Int)+(j:Int)))) 1)=(((i+j) / 2:Nat):Int):=by
   rw[Oq rfl rfl (by omega),B1 (by omega),show IW .u64 ((i+j:Nat):Int) 1=(((i+j) >>> 1:Nat):Int)from PI .u64 (i+j) 1 (by decide),Nat.shiftRight_eq_div_pow,By (by omega) (by omega)]
  rw[e];generalize hm:(i+j) / 2=m;have hm1:i<=m/\m<j:=by omega
  obtain⟨x,hx⟩:∃x,l[m]?=some x:=⟨_,List.getElem?_eq_getElem (by omega)⟩;refine hld (h.Ab k1) hx ?_;refine hp w1 k1 x (List.mem_of_getElem? hx) _ ?_;intro w2 k2;dsimp only;by_cases hc:c x<0
  ·rw[decide_eq_true hc];simp only[Af];refine⟨j-(m+1),by omega,m+1,j,by rw[AK (by omega)],rfl,?_,hij,hj,Aj k1 k2⟩;rcases Nat.lt_or_ge m (Ba c l)with h'|h'
   ·exact h'
   ·have:=PD hs hx h';omega
  ·rw[decide_eq_false hc];simp only[Ae];refine⟨m-i,by omega,i,m,rfl,rfl,hi,?_,by omega,Aj k1 k2⟩;rcases Nat.lt_or_ge m (Ba c l)with h'|h'
   ·have:=Qg hx h';omega
   ·exact h'
 ·rw[decide_eq_false (by omega)];simp only[Ae];have hb:i=Ba c l:=by omega
  by_cases h3:i<l.length
  ·rw[decide_eq_true (by omega)];simp only[Af];obtain⟨x,hx⟩:∃x,l[i]?=some x:=⟨_,List.getElem?_eq_getElem (by omega)⟩;refine hld (h.Ab k1) hx ?_;refine hp w1 k1 x (List.mem_of_getElem? hx) _ ?_;intro w2 k2;have:=k w2 (Aj k1 k2);unfold Ee at this;rw[<-hb,hx]at this;exact this
  ·rw[decide_eq_false (by omega)];have:=k w1 k1;unfold Ee at this;rw[<-hb,List.getElem?_eq_none (by omega)]at this;exact this
end
open Go
theorem AF {fn:Func}{R:TR rs->Pr}{X:Pr}(hm:P.follows .mixedOrders=true)(ann:Ann)(hf:P.funcs[f]?=some fn)(hk:(SM P f&&(fn.body.isSome&&(match tup with|true=>!(Nat.beq fn.results.size 1)|false=>Nat.beq fn.results.size 1)))=true)(he:den P ann (fn.body.getD .skip) (AiR P fn.results.toList tup rs R) [] (Aam fn.ntmps args)=X)(h:X w):Cl P f args tup rs R w:=by
 simp only[Bool.and_eq_true]at hk;obtain⟨h1,h2,h3⟩:=hk;obtain⟨c,hc⟩:=Option.isSome_iff_exists.1 h2;refine Ahd hm ann h1 hf hc rfl ?_ ?_
 ·cases tup
  ·exact Nat.eq_of_beq_eq_true h3
  ·simpa using h3
 ·rw[hc]at he;rw[<-he]at h;exact h
open Go
theorem Aif (b n:Nat):Addr.add ⟨b,0,none⟩ n=⟨b,n,none⟩:=by rw[Cr,Nat.zero_add]
theorem sb :
  (∀(K:Pr) (w:World),Dr K w=K w.drew) /\
  (∀(A B:Pr) (w:World),AH A B w=(A w/\B w)) /\
  (∀(p:Prop) (K:Pr) (w:World),AY p K w=(p/\K w)) /\
  (∀(a:Addr) (K:Addr->Pr),Nn (some a) K=K a) /\
  (∀(T E:Pr) (w:World),Br true T E w=T w) /\
  (∀(T E:Pr) (w:World),Br false T E w=E w) /\
  (∀(b n:Nat),Addr.add ⟨b,0,none⟩ n=⟨b,n,none⟩) /\
  (∀(k:IntKind) (b i:Nat) (K:Int->Pr) (w:World),A2 k ⟨b,i,none⟩ K w=asI k K (Bg w.heap[b]? i) w) /\
  (∀(b i:Nat) (K:Bool->Pr) (w:World),E7 ⟨b,i,none⟩ K w=asB K (Bg w.heap[b]? i) w) /\
  (∀(b i:Nat) (K:ByteArray->Pr) (w:World),BU ⟨b,i,none⟩ K w=asS K (Bg w.heap[b]? i) w) /\
  (∀(b i:Nat) (K:Option Addr->Pr) (w:World),Di ⟨b,i,none⟩ K w=asP K (Bg w.heap[b]? i) w) /\
  (∀(b i:Nat) (K:Option Nat->Pr) (w:World),LdM ⟨b,i,none⟩ K w=asM K (Bg w.heap[b]? i) w) /\
  (∀(b i:Nat) (K:Value->Pr) (w:World),LJ ⟨b,i,none⟩ K w=asV K (Bg w.heap[b]? i) w) /\
  (∀(b i:Nat) (K:Sl->Pr) (w:World),DN ⟨b,i,none⟩ K w=asL K (Bg w.heap[b]? i) w) /\
  (∀(k:IntKind) (K:Int->Pr) (x:Int) (w:World),asI k K (some (.int k x)) w=K x w) /\
  (∀(K:Bool->Pr) (x:Bool) (w:World),asB K (some (.bool x)) w=K x w) /\
  (∀(K:ByteArray->Pr) (x:ByteArray) (w:World),asS K (some (.string x)) w=K x w) /\
  (∀(K:Option Addr->Pr) (x:Option Addr) (w:World),asP K (some (.pointer x)) w=K x w) /\
  (∀(K:Option Nat->Pr) (x:Option Nat) (w:World),asM K (some (.map x)) w=K x w) /\
  (∀(K:Value->Pr) (x:Value) (w:World),asV K (some x) w=K x w) /\
  (∀(K:Sl->Pr) (p:Option Addr) (l c:Nat) (w:World),asL K (some (.slice p l c)) w=K ⟨p,l,c⟩ w) /\
  (∀(cs:Array Value) (t:TypeId) (fr:Nat×Nat) (i:Nat),Bg (some (.cells cs t fr)) i=cs[i]?) /\
  (∀(w:World),w.drew.heap=w.heap) /\
  (∀(s:Sl),(⟨s.p,s.len,s.cap⟩:Sl)=s) /\
  (∀(l:List Value) (i:Nat),l.toArray[i]?=l[i]?) /\
  (∀(v:Value) (l:List Value),(v::l)[0]?=some v) /\
  (∀(v:Value) (l:List Value) (i:Nat),(v::l)[i+1]?=l[i]?):=
 ⟨λ_ _=>rfl,λ_ _ _=>rfl,λ_ _ _=>rfl,λ_ _=>rfl,λ_ _ _=>rfl,λ_ _ _=>rfl,Aif,RZ,Aei,AdQ,Aer,AeV,AeG,Wn,
  λk K x w=>by simp[asI],λ_ _ _=>rfl,λ_ _ _=>rfl,λ_ _ _=>rfl,λ_ _ _=>rfl,λ_ _ _=>rfl,λ_ _ _ _ _=>rfl,λ_ _ _ _=>rfl,λ_=>rfl,λ_=>rfl,λ_ _=>by simp,λ_ _=>rfl,λ_ _ _=>by simp⟩
theorem L0 {cs:Array Value}{t:TypeId}(h:w.heap[b]?=some (.cells cs t (0,0)))(hl:vs.length=cs.size)(h1:∀v∈vs,v.oneCell'=true){K:Pr}(k:∀w',w'.heap[b]?=some (.cells vs.toArray t (0,0))->Aa [b] w w'->K w'):Xc vs ⟨b,0,none⟩ 0 K w:=by
 refine Ra (o:=0) h (by simp;omega) h1 (λj _ _=>by simp) ?_;refine k _ ?_ ((Aa.refl _ _).A3 (.inl (by simp)) _);rw[AW (Av h),show(0+0:Nat)=0 from rfl,Zt hl]
section
variable {w:World}{b:Nat}{t:TypeId}{u0 u1 u2 u3 u4 u5 v0 v1 v2 v3 v4 v5:Value}{K:Pr}
theorem AaD (h:w.heap[b]?=some (.cells #[u0,u1] t (0,0)))(h0:v0.oneCell'=true)(h1:v1.oneCell'=true)(k:∀w',w'.heap[b]?=some (.cells #[v0,v1] t (0,0))->Aa [b] w w'->K w'):
  St (Addr.add ⟨b,0,none⟩ 0) v0 (St (Addr.add ⟨b,0,none⟩ 1) v1 K) w:=L0 (vs:=[v0,v1]) h rfl (by simp[h0,h1]) k
theorem Mf (h:w.heap[b]?=some (.cells #[u0,u1,u2] t (0,0)))(h0:v0.oneCell'=true)(h1:v1.oneCell'=true)(h2:v2.oneCell'=true)(k:∀w',w'.heap[b]?=some (.cells #[v0,v1,v2] t (0,0))->Aa [b] w w'->K w'):
  St (Addr.add ⟨b,0,none⟩ 0) v0 (St (Addr.add ⟨b,0,none⟩ 1) v1 (St (Addr.add ⟨b,0,none⟩ 2) v2 K)) w:=L0 (vs:=[v0,v1,v2]) h rfl (by simp[h0,h1,h2]) k
theorem AkW (h:w.heap[b]?=some (.cells #[u0,u1,u2,u3] t (0,0)))(h0:v0.oneCell'=true)(h1:v1.oneCell'=true)(h2:v2.oneCell'=true)(h3:v3.oneCell'=true)(k:∀w',w'.heap[b]?=some (.cells #[v0,v1,v2,v3] t (0,0))->Aa [b] w w'->K w'):
  St (Addr.add ⟨b,0,none⟩ 0) v0 (St (Addr.add ⟨b,0,none⟩ 1) v1 (St (Addr.add ⟨b,0,none⟩ 2) v2 (St (Addr.add ⟨b,0,none⟩ 3) v3 K))) w:=L0 (vs:=[v0,v1,v2,v3]) h rfl (by simp[h0,h1,h2,h3]) k
theorem Aj0 (h:w.heap[b]?=some (.cells #[u0,u1,u2,u3,u4,u5] t (0,0)))(h0:v0.oneCell'=true)(h1:v1.oneCell'=true)(h2:v2.oneCell'=true)(h3:v3.oneCell'=true)(h4:v4.oneCell'=true)(h5:v5.oneCell'=true)(k:∀w',w'.heap[b]?=some (.cells #[v0,v1,v2,v3,v4,v5] t (0,0))->Aa [b] w w'->K w'):
  St (Addr.add ⟨b,0,none⟩ 0) v0 (St (Addr.add ⟨b,0,none⟩ 1) v1 (St (Addr.add ⟨b,0,none⟩ 2) v2 (St (Addr.add ⟨b,0,none⟩ 3) v3 (St (Addr.add ⟨b,0,none⟩ 4) v4 (St (Addr.add ⟨b,0,none⟩ 5) v5 K))))) w:=L0 (vs:=[v0,v1,v2,v3,v4,v5]) h rfl (by simp[h0,h1,h2,h3,h4,h5]) k
end
theorem KI {t:TypeId}{u0 u1:Value}{x y:ByteArray}{K:ByteArray->ByteArray->Pr}(h:w.heap[b]?=some (.cells #[u0,u1] t (0,0)))(k:∀w',Aa [b] w w'->K x y w'):
  St (Addr.add ⟨b,0,none⟩ 0) (.string x) (St (Addr.add ⟨b,0,none⟩ 1) (.string y) (BU (Addr.add ⟨b,0,none⟩ 0) λx'=>BU (Addr.add ⟨b,0,none⟩ 1) λy'=>K x' y')) w:=by
 refine AaD h rfl rfl λw' h' k'=>?_;simp only[sb,h'];exact k w' k'
theorem BT {c d:World}(h:Aa [] a c)(k:Aa [b] c d)(hb:a.heap.size<=b):Aa [] a d:=Ky h k (by simpa using hb)
theorem Aa.Aw (h:Aa [] w w'){b:Nat}{o:Obj}(hb:w.heap[b]?=some o):w'.heap[b]?=some o:=h.at hb (by simp)
theorem Aa.Mw {c:Nat}(h:Aa [c] w w'){b:Nat}{o:Obj}(hb:w.heap[b]?=some o)(hn:b≠c):w'.heap[b]?=some o:=h.at hb (by simpa using hn)
theorem BR {J:Bool×Unit->Pr}{A:(Bool×Unit->Pr)->Pr}(b:Bool)(hA:∀J':Bool×Unit->Pr,(∀w',Aa [] w w'->J' (b,()) w')->A J' w)(hJ:∀w',Aa [] w w'->J (b,()) w'):Jp J A w:=
 AG (λs w'=>s=(b,())/\Aa [] w w') (λJ' hj=>hA J' λw' k=>hj _ _ ⟨rfl,k⟩) (by rintro _ w' ⟨rfl,k⟩;exact hJ w' k)
theorem WW:∀(ks:List Kd) (y:Kw ks),Yy ks (Cs ks y)=some y
 |[],_=>rfl
 |k::ks,y=>by simp only[Cs,Yy,Kd.Ag2,WW ks]
theorem AfB {ks:List Kd}{v:Value}{K:Kw ks->Pr}(x:Kw ks)(h:v=.agg (Cs ks x).toArray)(k:K x w):TyA ks v K w:=by
 subst h;unfold TyA;simp only[WW];exact k
section
variable {w:World}{t:TypeId}{z:Array Value}{v0 v1 v2 v3 v4 v5:Value}{K:Addr->Pr}
theorem bx2 (hz:z.size=2)(h0:v0.oneCell'=true)(h1:v1.oneCell'=true)(k:∀b w',w'.heap[b]?=some (.cells #[v0,v1] t (0,0))->w.heap.size<=b->Aa [] w w'->K ⟨b,0,none⟩ w'):
  At z t (λa=>St (a.add 0) v0 (St (a.add 1) v1 (K a))) w:=Ei (vs:=[v0,v1]) hz.symm (by simp[h0,h1]) k
theorem bx3 (hz:z.size=3)(h0:v0.oneCell'=true)(h1:v1.oneCell'=true)(h2:v2.oneCell'=true)(k:∀b w',w'.heap[b]?=some (.cells #[v0,v1,v2] t (0,0))->w.heap.size<=b->Aa [] w w'->K ⟨b,0,none⟩ w'):
  At z t (λa=>St (a.add 0) v0 (St (a.add 1) v1 (St (a.add 2) v2 (K a)))) w:=Ei (vs:=[v0,v1,v2]) hz.symm (by simp[h0,h1,h2]) k
theorem Aiw (hz:z.size=4)(h0:v0.oneCell'=true)(h1:v1.oneCell'=true)(h2:v2.oneCell'=true)(h3:v3.oneCell'=true)(k:∀b w',w'.heap[b]?=some (.cells #[v0,v1,v2,v3] t (0,0))->w.heap.size<=b->Aa [] w w'->K ⟨b,0,none⟩ w'):
  At z t (λa=>St (a.add 0) v0 (St (a.add 1) v1 (St (a.add 2) v2 (St (a.add 3) v3 (K a))))) w:=Ei (vs:=[v0,v1,v2,v3]) hz.symm (by simp[h0,h1,h2,h3]) k
theorem bx6 (hz:z.size=6)(h0:v0.oneCell'=true)(h1:v1.oneCell'=true)(h2:v2.oneCell'=true)(h3:v3.oneCell'=true)(h4:v4.oneCell'=true)(h5:v5.oneCell'=true)(k:∀b w',w'.heap[b]?=some (.cells #[v0,v1,v2,v3,v4,v5] t (0,0))->w.heap.size<=b->Aa [] w w'->K ⟨b,0,none⟩ w'):
  At z t (λa=>St (a.add 0) v0 (St (a.add 1) v1 (St (a.add 2) v2 (St (a.add 3) v3 (St (a.add 4) v4 (St (a.add 5) v5 (K a))))))) w:=Ei (vs:=[v0,v1,v2,v3,v4,v5]) hz.symm (by simp[h0,h1,h2,h3,h4,h5]) k
end
open Go
theorem AE.heap {size:Nat}(h:AE w s size cs)(hd:∀x∈Ai s,w'.heap[x]?=w.heap[x]?):AE w' s size cs:=by
 refine⟨h.len,h.cap,?_⟩;rcases h.row with h1|⟨b,o,all,t,fr,hp,hb,h1,h2,h3⟩
 ·exact .inl h1
 ·by_cases hc:s.cap=0
  ·exact .inl hc
  ·exact .inr ⟨b,o,all,t,fr,hp,(hd b (by simp[Nk hc hp])).trans hb,h1,h2,h3⟩
theorem A1.heap {ρ:Rec α}{l:List α}(h:A1 ρ w s l)(hd:∀x∈rb s,w'.heap[x]?=w.heap[x]?):A1 ρ w' s l:=by
 refine⟨⟨h.rd.1,λj v hj=>?_⟩,h.cap⟩;obtain⟨a,ha,hc⟩:=h.rd.2 j v hj;refine⟨a,ha,?_⟩;have h0:s.len≠0:=λh0=>by
  have h1:=h.rd.1;have:=(List.getElem?_eq_some_iff.1 hj).1;rw[h0,Nat.zero_mul]at h1;omega
 have hb:(a.add j).block=a.block:=by unfold Addr.add;split<;>rfl
 simp only[World.cell?,hb]at hc ⊢;rw[hd a.block (by rw[Uf h0,OT,ha];simp)];exact hc
structure Bq (T:Nat->Nat)(φ:World->Prop)(w:World):Prop where
 ok:φ w
 st:∀w':World,w.heap.size<=w'.heap.size->(∀b,b<w.heap.size->T b=0->w'.heap[b]?=w.heap[b]?)->φ w'
structure FV (T:Nat->Nat)(j:Nat)(B:Nat->Prop)(φ:World->Prop)(w:World):Prop where
 ok:φ w
 st:∀w':World,w.heap.size<=w'.heap.size->(∀b,b<w.heap.size->(T b=j\/T b=0)->w'.heap[b]?=w.heap[b]?)->φ w'
 tag:∀b,B b->b<w.heap.size/\T b=j
structure CH (k:Nat)(T T':Nat->Nat)(w w':World):Prop where
 kp:A4 (λb=>T b=k) w w'
 tg:∀b,b<w.heap.size->T b≠k->T' b=T b
variable {T:Nat->Nat}
theorem CH.k0 (h:Aa [] w w'):CH k T T w w':=⟨h.FY (by simp),λ_ _ _=>rfl⟩
variable {T':Nat->Nat}{φ:World->Prop}
theorem Bq.kt (h:Bq T φ w)(hk:k≠0)(s:CH k T T' w w'):Bq T' φ w':=by
 have hs:=s.kp.size;refine⟨h.st w' hs λb hb ht=>s.kp.get b hb (by rw[ht];exact Ne.symm hk),λw'' hs'' hw=>h.st w'' (Nat.le_trans hs hs'') λb hb ht=>?_⟩;rw[hw b (Nat.lt_of_lt_of_le hb hs) (by rw[s.tg b hb (by rw[ht];exact Ne.symm hk)];exact ht)];exact s.kp.get b hb (by rw[ht];exact Ne.symm hk)
variable {B:Nat->Prop}
theorem FV.kt (h:FV T j B φ w)(hj:j≠k)(hk:k≠0)(s:CH k T T' w w'):FV T' j B φ w':=by
 have hs:=s.kp.size;have ne:∀b,(T b=j\/T b=0)->T b≠k:=λb hb=>by rcases hb with hb|hb<;>rw[hb]<;>first|exact hj|exact Ne.symm hk
 refine⟨h.st w' hs λb hb ht=>s.kp.get b hb (ne b ht),λw'' hs'' hw=>h.st w'' (Nat.le_trans hs hs'') λb hb ht=>?_,λb hb=>?_⟩
 ·rw[hw b (Nat.lt_of_lt_of_le hb hs) (by rw[s.tg b hb (ne b ht)];exact ht)];exact s.kp.get b hb (ne b ht)
 ·obtain⟨h1,h2⟩:=h.tag b hb;exact⟨Nat.lt_of_lt_of_le h1 hs,(s.tg b h1 (ne b (.inl h2))).trans h2⟩
theorem Bq.drop (h:Bq T φ w)(ht:∀b,T b=0->T' b=0):Bq T' φ w:=⟨h.ok,λw' hs hw=>h.st w' hs λb hb h0=>hw b hb (ht b h0)⟩
theorem FV.drop (h:FV T j B φ w)(ht:∀b,T b=0->T' b=0)(hj:∀b,T b=j->T' b=j):FV T' j B φ w:=
 ⟨h.ok,λw' hs hw=>h.st w' hs λb hb h0=>hw b hb (by rcases h0 with h0|h0;exact .inl (hj b h0);exact .inr (ht b h0)),λb hb=>⟨(h.tag b hb).1,hj b (h.tag b hb).2⟩⟩
theorem FV.AcO (h:FV T j B φ w)(ht:∀b,T b=0->T' b=0)(hj:∀b,T b=j->T' b=0):Bq T' φ w:=
 ⟨h.ok,λw' hs hw=>h.st w' hs λb hb h0=>hw b hb (by rcases h0 with h0|h0;exact hj b h0;exact ht b h0)⟩
theorem Bq.of {ρ:Rec α}{l:List α}(h:A1 ρ w s l)(ht:∀b∈rb s,T b=0):Bq T (λw=>A1 ρ w s l) w:=
 ⟨h,λw' _ hw=>h.heap λb hb=>hw b (h.lt b hb) (ht b hb)⟩
theorem FV.of {ρ:Rec α}{l:List α}(h:Bh ρ w s l)(ht:∀b∈Ai s,T b=j):FV T j (·∈Ai s) (λw=>Bh ρ w s l) w:=
 ⟨h,λw' _ hw=>h.heap λb hb=>hw b (h.lt b hb) (.inl (ht b hb)),λb hb=>⟨h.lt b hb,ht b hb⟩⟩
theorem Bq.and {ψ:World->Prop}(h:Bq T φ w)(k:Bq T ψ w):Bq T (λw=>φ w/\ψ w) w:=⟨⟨h.ok,k.ok⟩,λw' hs hw=>⟨h.st w' hs hw,k.st w' hs hw⟩⟩
theorem Bq.map {ψ:World->Prop}(h:Bq T φ w)(k:∀w,φ w->ψ w):Bq T ψ w:=⟨k _ h.ok,λw' hs hw=>k _ (h.st w' hs hw)⟩
theorem Bq.NI (h:∀w,φ w):Bq T φ w:=⟨h w,λw' _ _=>h w'⟩
def AX (k:Nat)(r:Sl)(T:Nat->Nat):Nat->Nat:=λb=>if b∈Ai r then k else T b
variable {r:Sl}
theorem CH.row (hk:Aa (Ai s) w w')(hs:∀b∈Ai s,T b=k)(hr:∀b∈Ai r,b∈Ai s\/w.heap.size<=b):CH k T (AX k r T) w w':=
 ⟨hk.FY λb hb=>.inl (hs b hb),λb hb hn=>by
  unfold AX;rw[if_neg];intro h;rcases hr b h with h'|h'
  ·exact hn (hs b h')
  ·omega⟩
theorem ED :∀b∈Ai r,AX k r T b=k:=λb hb=>if_pos hb
theorem GH {ρ:Rec α}{l:List α}(h:Bh ρ w' r l)(hs:w.heap.size<=w'.heap.size)(hb:∀b,T b≠0->b<w.heap.size):∀b,AX k r T b≠0->b<w'.heap.size:=by
 intro b hn;unfold AX at hn;split at hn
 ·exact h.lt b (by assumption)
 ·exact Nat.lt_of_lt_of_le (hb b hn) hs
open Classical in
noncomputable def XE (k:Nat)(H:Nat->Prop)(T:Nat->Nat):Nat->Nat:=λb=>if H b then k else T b
structure Aq (T T':Nat->Nat)(w w':World):Prop where
 kp:A4 (λb=>T b≠0/\T b<11) w w'
 tg:∀b,b<w.heap.size->(T b=0\/11<=T b)->T' b=T b
theorem Aq.refl (T:Nat->Nat)(w:World):Aq T T w w:=⟨A4.refl _ _,λ_ _ _=>rfl⟩
theorem Aq.trans {T T' T'':Nat->Nat}{a b c:World}(h:Aq T T' a b)(k:Aq T' T'' b c):Aq T T'' a c:=
 ⟨h.kp.trans k.kp λx hx=>by
  rcases Nat.lt_or_ge x a.heap.size with h'|h'
  ·refine .inl ⟨λh0=>?_,Nat.lt_of_not_le λh0=>?_⟩
   ·have:=h.tg x h' (.inl h0);omega
   ·have:=h.tg x h' (.inr h0);omega
  ·exact .inr h',λx hx h0=>by
  have e:=h.tg x hx h0;rw[<-e];exact k.tg x (Nat.lt_of_lt_of_le hx h.kp.size) (by rw[e];exact h0)⟩
theorem CH.Bm (h:CH k T T' w w')(hk:k≠0/\k<11):Aq T T' w w':=
 ⟨h.kp.mono λb hb=>.inl (by rw[hb];exact hk),λb hb h0=>h.tg b hb (by omega)⟩
theorem Aq.k0 (h:Aa [] w w'):Aq T T w w':=⟨h.FY (by simp),λ_ _ _=>rfl⟩
theorem Bq.Bm (h:Bq T φ w)(s:Aq T T' w w'):Bq T' φ w':=by
 have hs:=s.kp.size;refine⟨h.st w' hs λb hb ht=>s.kp.get b hb (by rw[ht];simp),λw'' hs'' hw=>h.st w'' (Nat.le_trans hs hs'') λb hb ht=>?_⟩;rw[hw b (Nat.lt_of_lt_of_le hb hs) ((s.tg b hb (.inl ht)).trans ht)];exact s.kp.get b hb (by rw[ht];simp)
theorem Bq.Ab (h:Bq T φ w)(k:Aa [] w w'):Bq T φ w':=h.Bm (Aq.k0 k)
theorem Aq.at (s:Aq T T' w w'){b:Nat}{o:Obj}(h:w.heap[b]?=some o)(ht:T b=0):w'.heap[b]?=some o/\T' b=0:=
 ⟨(s.kp.get b (Av h) (by rw[ht];simp)).trans h,(s.tg b (Av h) (.inl ht)).trans ht⟩
theorem Aq.Ql (s:Aq T T' w w'){b:Nat}{o:Obj}(h:w.heap[b]?=some o)(ht:T b=11):w'.heap[b]?=some o/\T' b=11:=
 ⟨(s.kp.get b (Av h) (by rw[ht];simp)).trans h,(s.tg b (Av h) (.inr (by omega))).trans ht⟩
open Go Go.ChangeShapes Go.WideShapes Go.ChangeAt Go.RowKit
def Tz {H:Type}(enc:TypeId×Value->H)(P:Program)(W:World)(t:TypeId)(v:Value):Prop:=
 ∃n x,DataW.trod enc P W 0 (λ_=>true) true n t [v]=some x/\∀m∈x.1.weights P t,m<=reachBytes
section
variable {H:Type}{enc:TypeId×Value->H}{P:Program}{W:World}
theorem Tz.plain {t:TypeId}{v:Value}(h:Tz enc P W t v):Ec P t v:=by
 obtain⟨n,x,h1,h2⟩:=h;exact TV h1 h2
theorem Tz.int {t:TypeId}{v:Value}{k:IntKind}(h:Tz enc P W t v)(ht:P.underlying t=some (.int k)):∃n,v=.int k n/\(Lit.int k n).wf=true:=Ec.int ht h.plain
theorem Tz.bool {t:TypeId}{v:Value}(h:Tz enc P W t v)(ht:P.underlying t=some .bool):∃b,v=.bool b:=Ec.bool ht h.plain
theorem Tz.str {t:TypeId}{v:Value}(h:Tz enc P W t v)(ht:P.underlying t=some .string):∃s,v=.string s/\s.size<=140737488355328:=Ec.string ht h.plain
theorem WB {sp:Nat->Bool}:∀{k:Nat} {t:TypeId} {L:List TypeId} {n:Nat} {cs:List Value} {x:DataW H×List MemPlace},
  leaves P k t=some L->L.length=P.cellsOf t->DataW.trod enc P W 0 (λ_=>true) true n t cs=some x->(∀m∈x.1.weights P t,m<=reachBytes)->cs.length=P.cellsOf t->∀(j:Nat) (ft:TypeId),L[j]?=some ft->∃v,cs[j]?=some v/\Tz enc P W ft v
 |0,t,L,n,cs,x,hL,_,_,_,_,_,_,_=>by simp[leaves]at hL
 |k+1,t,L,n,cs,x,hL,hlen,h,hz,hcs,j,ft,hj=>by
  unfold leaves at hL;split at hL
  ·rename_i fs he;obtain⟨xs,n1,_,gx0,gl,gx,gf⟩:=DataW.trod_struct he h;obtain⟨q,f,l,i,h1,h2,h3,h4,h5,h6⟩:=TI hL j ft hj;rw[Array.getElem?_toList]at h1;have hg:=gf q f h1;have hq:=(Array.getElem?_eq_some_iff.1 h1).1;obtain⟨y,hy⟩:∃y,xs[q]?=some y:=⟨_,List.getElem?_eq_getElem (by omega)⟩;rw[hy]at hg;have hi:=(List.getElem?_eq_some_iff.1 h4).1;have hzf:∀m∈y.1.weights P f.type,m<=reachBytes:=λm hm=>hz m (by
    have hx1:x.1=.agg (xs.map (·.1)):=congrArg Prod.fst gx0;rw[hx1];simp only[DataW.weights,he];refine DataW.weights_mem_each (j:=q) (t:=f.type) (d:=y.1) ?_ ?_ m hm
    ·simp[h1]
    ·simp[hy])
   have hcl:((cs.drop f.offset).take (P.cellsOf f.type)).length=P.cellsOf f.type:=by rw[List.length_take,List.length_drop];omega
   obtain⟨v,hv,hp⟩:=WB (sp:=sp) h2 h3 hg hzf hcl i ft h4;refine⟨v,?_,hp⟩;rw[List.getElem?_take,if_pos (by omega),List.getElem?_drop]at hv;rw[show j=f.offset+i from by omega];exact hv
  ·split at hL
   ·rename_i hone;simp only[Option.some.injEq]at hL;subst hL;obtain⟨v,rfl⟩:∃v,cs=[v]:=List.length_eq_one_iff.1 (by omega);have hj0:=(List.getElem?_eq_some_iff.1 hj).1;simp only[List.length_singleton]at hj0;obtain rfl:j=0:=by omega
    simp only[List.getElem?_cons_zero,Option.some.injEq]at hj;subst hj;exact⟨v,rfl,n,x,h,hz⟩
   ·cases hL
variable {L:List TypeId}
theorem Tz.rows {t:TypeId}{v:Value}(h:Tz enc P W t v)(ht:P.underlying t=some (.slice e))(hL:leaves P k e=some L)(hc:P.cellsOf e=L.length):
  ∃(s:Sl) (rows:List (List Value)),v=.slice s.p s.len s.cap/\rows.length=s.len/\s.len<=s.cap/\s.len*P.bytesOf e<=140737488355328/\(∀row∈rows,row.length=L.length/\∀(i:Nat) (ft:TypeId),L[i]?=some ft->∃v,row[i]?=some v/\Tz enc P W ft v)/\V0 s.p (s.len*L.length) rows.flatten W:=by
 obtain⟨n,⟨d,ps⟩,hn,hz⟩:=h;rcases Go.Deep.open_slice ht hn with⟨h1,_⟩|⟨a,len,cap,m,n',D,Pl,h1,_,hl,hm,hmm,hdx,hx⟩
 ·simp only[List.cons.injEq,and_true]at h1;subst h1;exact⟨⟨none,0,0⟩,[],rfl,rfl,by simp,by simp,by simp,by simp,λj v hj=>by simp at hj⟩
 ·simp only[List.cons.injEq,and_true]at h1;subst h1;simp only[if_true]at hmm;rw[hmm]at hx hdx;rw[hc]at hx;have hd:d=.slice ((List.range len).map D) ((List.range (cap-len)).map λj=>D (len+j)):=congrArg Prod.fst hdx;have hlb:len*P.bytesOf e<=140737488355328:=by
   have h1:(len+(cap-len))*P.bytesOf e<=reachBytes:=hz _ (by rw[hd];simp[DataW.weights,ht]);have h2:=reachBytes_lt;have h3:len*P.bytesOf e<=(len+(cap-len))*P.bytesOf e:=Nat.mul_le_mul_right _ (by omega);omega
  have hx':∀i,i<len->∃row:List Value,row.length=L.length/\(∀(j:Nat) (v:Value),row[j]?=some v->W.cell? (a.add (i*L.length+j))=some v)/\∀(j:Nat) (ft:TypeId),L[j]?=some ft->∃v,row[j]?=some v/\Tz enc P W ft v:=by
   intro i hi;obtain⟨cs',g1,g2⟩:=hx i (by omega);obtain⟨_,glen,gcell⟩:=World.cells?_some g1;have hzD:∀m∈(D i).weights P e,m<=reachBytes:=λm hm=>hz m (by
    rw[hd];simp only[DataW.weights,ht];exact List.mem_cons_of_mem _ (List.mem_append.2 (.inl (MQ (List.mem_map.2 ⟨i,by simpa using hi,rfl⟩) m hm))))
   refine⟨cs',glen,λj v hv=>?_,λj f hjf=>?_⟩
   ·have hj:=(List.getElem?_eq_some_iff.1 hv).1;rw[<-Y5,gcell j (by omega),hv]
   ·exact WB (sp:=λ_=>true) hL hc.symm g2 hzD (glen.trans hc.symm) j f hjf
  obtain⟨R,hR⟩:=Go.Deep.choose_lt (α:=List Value) (p:=λi row=>row.length=L.length/\(∀(j:Nat) (v:Value),row[j]?=some v->W.cell? (a.add (i*L.length+j))=some v)/\∀(j:Nat) (ft:TypeId),L[j]?=some ft->∃v,row[j]?=some v/\Tz enc P W ft v) hx';refine⟨⟨some a,len,cap⟩,(List.range len).map R,rfl,by simp,hl,hlb,λrow hrow=>?_,?_,λj v hj=>⟨a,rfl,?_⟩⟩
  ·obtain⟨i,hi,rfl⟩:=List.mem_map.1 hrow;exact⟨(hR i (by simpa using hi)).1,(hR i (by simpa using hi)).2.2⟩
  ·rw[Hw (n:=L.length)]
   ·simp
   ·intro row hrow;obtain⟨i,hi,rfl⟩:=List.mem_map.1 hrow;exact(hR i (by simpa using hi)).1
  ·have hrl:∀row∈(List.range len).map R,row.length=L.length:=λrow hrow=>by
    obtain⟨i,hi,rfl⟩:=List.mem_map.1 hrow;exact(hR i (by simpa using hi)).1
   have hlt:=(List.getElem?_eq_some_iff.1 hj).1;rw[Hw hrl]at hlt;simp only[List.length_map,List.length_range]at hlt;have h0:0<L.length:=Nat.pos_of_ne_zero λh0=>by rw[h0]at hlt;simp at hlt
   have e1:j=j / L.length*L.length+j % L.length:=by rw[Nat.mul_comm];exact(Nat.div_add_mod j L.length).symm
   have hi:j / L.length<len:=Nat.div_lt_of_lt_mul (by rw[Nat.mul_comm];exact hlt);have hm:=Nat.mod_lt j h0;rw[e1,RD hrl _ _ hm]at hj;rw[e1];simp only[List.getElem?_map,List.getElem?_range hi,Option.map_some,Option.bind_some]at hj;exact(hR _ hi).2.1 _ _ hj
theorem Tz.AhK {ρ:Rec α}{Q:α->Prop}{t:TypeId}(k:Nat){v:Value}(h:Tz enc P W t v)(ht:P.underlying t=some (.slice e))(hL:leaves P k e=some L)(hc:P.cellsOf e=L.length)(hn:L.length=ρ.n)(hr:∀row:List Value,row.length=L.length->(∀(i:Nat) (ft:TypeId),L[i]?=some ft->∃v,row[i]?=some v/\Tz enc P W ft v)->∃x,row=ρ.c x/\Q x):
  ∃(s:Sl) (l:List α),v=.slice s.p s.len s.cap/\A1 ρ W s l/\s.len*P.bytesOf e<=140737488355328/\∀x∈l,Q x:=by
 obtain⟨s,rows,hv,hl,hcap,hb,hrow,hrd⟩:=h.rows ht hL hc;obtain⟨xs,g1,g2,g3⟩:=Y9 (enc:=ρ.c) (Q:=Q) (rows:=rows) λrow hm=>hr row (hrow row hm).1 (hrow row hm).2;rw[g1,hn]at hrd;exact⟨s,xs,hv,⟨hrd,hcap⟩,hb,g3⟩
theorem Tz.of {t:TypeId}{v:Value}{d:DataW H}{ps:List MemPlace}(h:DataW.Trod enc P W 0 (λ_=>true) true t v d ps)(hv:v.cells=#[v])(hz:∀m∈d.weights P t,m<=reachBytes):Tz enc P W t v:=by
 obtain⟨n,hn⟩:=h;rw[hv]at hn;exact⟨n,_,hn,hz⟩
theorem Tz.of_slice {r:Reach}{b0:Nat}{t:TypeId}{v:Value}{d:DataW H}{ps:List MemPlace}(ht:P.underlying t=some (.slice e))(hval:Value.okWide P W r b0 t v)(h:DataW.Trod enc P W 0 (λ_=>true) true t v d ps)(hz:∀m∈d.weights P t,m<=reachBytes):Tz enc P W t v:=by
 obtain⟨a,len,cap,rfl⟩:=okWide_slice ht hval;exact Tz.of h rfl hz
def kdB (P:Program)(k:Kd)(t:TypeId):Bool:=
 match k,P.underlying t with
 |.i a,some (.int b)=>decide (a=b)
 |.b,some .bool=>true
 |.s,some .string=>true
 |.sl,some (.slice _)=>true
 |_,_=>false
theorem Tz.kd {k:Kd}{t:TypeId}{v:Value}(h:Tz enc P W t v)(hk:kdB P k t=true):∃x:k.T,v=k.enc x:=by
 unfold kdB at hk;split at hk
 ·rename_i a b hu;rw[decide_eq_true_iff]at hk;subst hk;obtain⟨n,e,_⟩:=h.int hu;exact⟨n,e⟩
 ·rename_i hu;exact h.bool hu
 ·rename_i hu;obtain⟨s,e,_⟩:=h.str hu;exact⟨s,e⟩
 ·rename_i e hu;obtain⟨n,x,hn,_⟩:=h;rcases Go.Deep.open_slice hu hn with⟨h1,_⟩|⟨a,len,cap,m,n',D,Pl,h1,_⟩
  ·simp only[List.cons.injEq,and_true]at h1;exact⟨⟨none,0,0⟩,h1⟩
  ·simp only[List.cons.injEq,and_true]at h1;exact⟨⟨some a,len,cap⟩,h1⟩
 ·cases hk
def TzT (enc:TypeId×Value->H)(P:Program)(W:World):List TypeId->(ks:List Kd)->Kw ks->Prop
 |_,[],_=>True
 |[],_::_,_=>False
 |t::L,k::ks,y=>Tz enc P W t (k.enc y.1)/\TzT enc P W L ks y.2
def V9 (P:Program):List TypeId->List Kd->Bool
 |[],[]=>true
 |t::L,k::ks=>kdB P k t&&V9 P L ks
 |_,_=>false
theorem AdZ:∀{L:List TypeId} {ks:List Kd} {row:List Value},V9 P L ks=true->row.length=L.length->(∀(i:Nat) (ft:TypeId),L[i]?=some ft->∃v,row[i]?=some v/\Tz enc P W ft v)->∃y:Kw ks,row=Cs ks y/\TzT enc P W L ks y
 |[],[],row,_,hl,_=>⟨(),List.eq_nil_of_length_eq_zero hl,trivial⟩
 |t::L,k::ks,row,hk,hl,h=>by
  unfold V9 at hk;rw[Bool.and_eq_true]at hk
  match row,hl with
  |v::row,hl=>
   obtain⟨v',e,hv⟩:=h 0 t rfl;simp only[List.getElem?_cons_zero,Option.some.injEq]at e;subst e;obtain⟨x,rfl⟩:=hv.kd hk.1;obtain⟨y,rfl,hy⟩:=AdZ (L:=L) (ks:=ks) (row:=row) hk.2 (by simpa using hl) (λi ft hi=>by
    obtain⟨u,e,hu⟩:=h (i+1) ft (by simpa using hi);exact⟨u,by simpa using e,hu⟩)
   exact⟨(x,y),rfl,hv,hy⟩
 |[],_::_,_,hk,_,_=>by simp[V9]at hk
 |_::_,[],_,hk,_,_=>by simp[V9]at hk
theorem Tz.list {ρ:Rec α}{Q:α->Prop}{t:TypeId}{v:Value}(h:Tz enc P W t v)(ht:P.underlying t=some (.slice e))(hL:leaves P k e=some L)(hc:P.cellsOf e=L.length)(hk:V9 P L ρ.ks=true)(hr:∀y:Kw ρ.ks,TzT enc P W L ρ.ks y->∃x,ρ.t x=y/\Q x):
  ∃(s:Sl) (l:List α),v=.slice s.p s.len s.cap/\A1 ρ W s l/\s.len*P.bytesOf e<=140737488355328/\∀x∈l,Q x:=by
 have hn:∀{L:List TypeId} {ks:List Kd},V9 P L ks=true->L.length=ks.length:=by
  intro L;induction L with
  |nil=>intro ks h;cases ks with|nil=>rfl|cons=>simp[V9]at h
  |cons t L ih=>
   intro ks h;cases ks with
   |nil=>simp[V9]at h
   |cons k ks=>
    unfold V9 at h;rw[Bool.and_eq_true]at h;rw[List.length_cons,List.length_cons,ih h.2]
 refine h.AhK k ht hL hc (hn hk) λrow hl hrow=>?_;obtain⟨y,rfl,hy⟩:=AdZ hk hl hrow;obtain⟨x,rfl,hx⟩:=hr y hy;exact⟨x,rfl,hx⟩
end
end Go.Sx
namespace Go.Proofs.YthkdehgfdllpoaaGreat
open Go Go.Sx
noncomputable abbrev Pg:Program:=Tryz.prog
theorem ce {f:FuncId}{fn:Func}{args:List Value}{tup:Bool}{rs:List RK}{R:TR rs->Pr}{w:World}{X:Pr}(ann:Ann)(hf:Pg.funcs[f]?=some fn)(h:X w)(hk:(SM Pg f&&(fn.body.isSome&&(match tup with|true=>!(Nat.beq fn.results.size 1)|false=>Nat.beq fn.results.size 1)))=true:=by kernel_rfl)(he:den Pg ann (fn.body.getD .skip) (AiR Pg fn.results.toList tup rs R) [] (Aam fn.ntmps args)=X:=by kernel_rfl):Cl Pg f args tup rs R w:=AF Tryz.checked.mixed ann hf hk he h
abbrev q':=@Ann.seq
abbrev l':=@Ann.leaf
abbrev k':=@Ann.cond
abbrev s' (a:Ann):Ann:=.seq .leaf a
abbrev Vi (x:Int):Value:=.int .i64 x
abbrev Vu (x:Int):Value:=.int .u64 x
abbrev Vt (x:ByteArray):Value:=.string x
abbrev Vp (x:Option Addr):Value:=.pointer x
abbrev Vb (x:Bool):Value:=.bool x
abbrev Vs (x:Sl):Value:=.slice x.p x.len x.cap
abbrev Ux:List RK:=[.ag [(.i .i64),(.i .u64),(.i .u64),(.i .u64),(.i .u64),.sl,.sl,.sl,(.i .u64),(.i .u64),.s,.s,(.i .u64),(.i .u64),(.i .u64),.s,.s]]
abbrev Vv:List RK:=[.ag [.sl,.sl,.b],.sc (.i .i64)]
abbrev K2':List RK:=[.ag [(.i .i64),(.i .i64),(.i .i64),(.i .i64),(.i .i64),(.i .i64),(.i .u64),(.i .u64),(.i .u64),(.i .u64),(.i .u64),(.i .u64),(.i .u64),(.i .u64),(.i .u64),.b,.s,.s,.sl,.sl,.sl]]
abbrev N6:List RK:=[.ag [.s,.s],.sc (.i .i64)]
abbrev K4':List RK:=[.ag [.s,.v,.v,.v],.sc .b]
abbrev K5':List RK:=[.ag [.b,.b,.b,.b,.b,.v],.sc .b]
abbrev K6':List RK:=[.ag [.b,.b,.b,.b,.b,.v,.b,.b,.b,.b,.b,.v,.b,.b,.b,.b,.b,.v,.b,.b,.b,.b,.b,.v,.b,.b,.b,.b,.b,.v,.b,.b,.b,.b,.b,.v]]
abbrev K7':List RK:=[.ag [(.i .i64),.s,.s,.s,.s,(.i .i64)]]
def Rx (a:Addr)(K:Int->Int->Int->Int->Int->Int->Int->Int->Int->Int->Int->Int->Int->Int->Int->Bool->ByteArray->ByteArray->Sl->Sl->Sl->Bool->Pr):Pr:=A2 .i64 (a.add 0) λx0=>A2 .i64 (a.add 1) λx1=>A2 .i64 (a.add 2) λx2=>A2 .i64 (a.add 3) λx3=>A2 .i64 (a.add 4) λx4=>A2 .i64 (a.add 5) λx5=>A2 .u64 (a.add 6) λx6=>A2 .u64 (a.add 7) λx7=>A2 .u64 (a.add 8) λx8=>A2 .u64 (a.add 9) λx9=>A2 .u64 (a.add 10) λx10=>A2 .u64 (a.add 11) λx11=>A2 .u64 (a.add 12) λx12=>A2 .u64 (a.add 13) λx13=>A2 .u64 (a.add 14) λx14=>E7 (a.add 15) λx15=>BU (a.add 16) λx16=>BU (a.add 17) λx17=>DN (a.add 18) λx18=>DN (a.add 19) λx19=>DN (a.add 20) λx20=>E7 (a.add 21) λx21=>K x0 x1 x2 x3 x4 x5 x6 x7 x8 x9 x10 x11 x12 x13 x14 x15 x16 x17 x18 x19 x20 x21
def RP (a:Addr)(x0:Int)(x1:Int)(x2:Int)(x3:Int)(x4:Int)(x5:Int)(x6:Int)(x7:Int)(x8:Int)(x9:Int)(x10:Int)(x11:Int)(x12:Int)(x13:Int)(x14:Int)(x15:Bool)(x16:ByteArray)(x17:ByteArray)(x18:Sl)(x19:Sl)(x20:Sl)(x21:Bool)(K:Pr):Pr:=St (a.add 0) (.int .i64 x0)<|St (a.add 1) (.int .i64 x1)<|St (a.add 2) (.int .i64 x2)<|St (a.add 3) (.int .i64 x3)<|St (a.add 4) (.int .i64 x4)<|St (a.add 5) (.int .i64 x5)<|St (a.add 6) (.int .u64 x6)<|St (a.add 7) (.int .u64 x7)<|St (a.add 8) (.int .u64 x8)<|St (a.add 9) (.int .u64 x9)<|St (a.add 10) (.int .u64 x10)<|St (a.add 11) (.int .u64 x11)<|St (a.add 12) (.int .u64 x12)<|St (a.add 13) (.int .u64 x13)<|St (a.add 14) (.int .u64 x14)<|St (a.add 15) (.bool x15)<|St (a.add 16) (.string x16)<|St (a.add 17) (.string x17)<|St (a.add 18) (.slice x18.p x18.len x18.cap)<|St (a.add 19) (.slice x19.p x19.len x19.cap)<|St (a.add 20) (.slice x20.p x20.len x20.cap)<|St (a.add 21) (.bool x21)<|K
def Bn (a:Addr)(K:Int->Int->Int->Int->Int->Int->Int->Int->Int->Int->Int->Int->Int->Int->Int->Bool->ByteArray->ByteArray->Sl->Sl->Sl->Pr):Pr:=A2 .i64 (a.add 0) λx0=>A2 .i64 (a.add 1) λx1=>A2 .i64 (a.add 2) λx2=>A2 .i64 (a.add 3) λx3=>A2 .i64 (a.add 4) λx4=>A2 .i64 (a.add 5) λx5=>A2 .u64 (a.add 6) λx6=>A2 .u64 (a.add 7) λx7=>A2 .u64 (a.add 8) λx8=>A2 .u64 (a.add 9) λx9=>A2 .u64 (a.add 10) λx10=>A2 .u64 (a.add 11) λx11=>A2 .u64 (a.add 12) λx12=>A2 .u64 (a.add 13) λx13=>A2 .u64 (a.add 14) λx14=>E7 (a.add 15) λx15=>BU (a.add 16) λx16=>BU (a.add 17) λx17=>DN (a.add 18) λx18=>DN (a.add 19) λx19=>DN (a.add 20) λx20=>K x0 x1 x2 x3 x4 x5 x6 x7 x8 x9 x10 x11 x12 x13 x14 x15 x16 x17 x18 x19 x20
def KV (a:Addr)(x0:Sl)(x1:Sl)(x2:Bool)(K:Pr):Pr:=St (a.add 0) (.slice x0.p x0.len x0.cap)<|St (a.add 1) (.slice x1.p x1.len x1.cap)<|St (a.add 2) (.bool x2)<|K
def Al (x0:Int)(x1:Int)(x2:Int)(x3:Int)(x4:Int)(x5:Sl)(x6:Sl)(x7:Sl)(x8:Int)(x9:Int)(x10:ByteArray)(x11:ByteArray)(x12:Int)(x13:Int)(x14:Int)(x15:ByteArray)(x16:ByteArray):Array Value:=#[(.int .i64 x0),(.int .u64 x1),(.int .u64 x2),(.int .u64 x3),(.int .u64 x4),(.slice x5.p x5.len x5.cap),(.slice x6.p x6.len x6.cap),(.slice x7.p x7.len x7.cap),(.int .u64 x8),(.int .u64 x9),(.string x10),(.string x11),(.int .u64 x12),(.int .u64 x13),(.int .u64 x14),(.string x15),(.string x16)]
def RM:Array Value:=#[(.int .i64 0),(.int .i64 0),(.int .i64 0),(.int .i64 0),(.int .i64 0),(.int .i64 0),(.int .u64 0),(.int .u64 0),(.int .u64 0),(.int .u64 0),(.int .u64 0),(.int .u64 0),(.int .u64 0),(.int .u64 0),(.int .u64 0),(.bool false),(.string (BA [])),(.string (BA [])),(.slice none 0 0),(.slice none 0 0),(.slice none 0 0),(.bool false)]
def Ag (x0:Int)(x1:Int)(x2:Int)(x3:Int)(x4:Int)(x5:Int)(x6:Int)(x7:Int)(x8:Int)(x9:Int)(x10:Int)(x11:Int)(x12:Int)(x13:Int)(x14:Int)(x15:Bool)(x16:ByteArray)(x17:ByteArray)(x18:Sl)(x19:Sl)(x20:Sl):Array Value:=#[(.int .i64 x0),(.int .i64 x1),(.int .i64 x2),(.int .i64 x3),(.int .i64 x4),(.int .i64 x5),(.int .u64 x6),(.int .u64 x7),(.int .u64 x8),(.int .u64 x9),(.int .u64 x10),(.int .u64 x11),(.int .u64 x12),(.int .u64 x13),(.int .u64 x14),(.bool x15),(.string x16),(.string x17),(.slice x18.p x18.len x18.cap),(.slice x19.p x19.len x19.cap),(.slice x20.p x20.len x20.cap)]
def LW:Array Value:=#[(.slice none 0 0),(.slice none 0 0),(.bool false)]
def Li (a:Addr)(n:Nat)(K:Int->Pr):Pr:=A2 .i64 (a.add n) K
def Lu (a:Addr)(n:Nat)(K:Int->Pr):Pr:=A2 .u64 (a.add n) K
def Ll (a:Addr)(n:Nat)(K:Sl->Pr):Pr:=DN (a.add n) K
def Lb (a:Addr)(n:Nat)(K:Bool->Pr):Pr:=E7 (a.add n) K
def Ts (a:Addr)(n:Nat)(x:Sl)(K:Pr):Pr:=St (a.add n) (Vs x) K
def Bf (a:Addr)(x0:Int)(x1:Int)(x2:Int)(x3:Int)(x4:Int)(x5:Sl)(x6:Sl)(x7:Sl)(x8:Int)(x9:Int)(x10:ByteArray)(x11:ByteArray)(x12:Int)(x13:Int)(x14:Int)(x15:ByteArray)(x16:ByteArray)(K:Pr):Pr:=St (a.add 0) (.int .i64 x0)<|St (a.add 1) (.int .u64 x1)<|St (a.add 2) (.int .u64 x2)<|St (a.add 3) (.int .u64 x3)<|St (a.add 4) (.int .u64 x4)<|St (a.add 5) (.slice x5.p x5.len x5.cap)<|St (a.add 6) (.slice x6.p x6.len x6.cap)<|St (a.add 7) (.slice x7.p x7.len x7.cap)<|St (a.add 8) (.int .u64 x8)<|St (a.add 9) (.int .u64 x9)<|St (a.add 10) (.string x10)<|St (a.add 11) (.string x11)<|St (a.add 12) (.int .u64 x12)<|St (a.add 13) (.int .u64 x13)<|St (a.add 14) (.int .u64 x14)<|St (a.add 15) (.string x15)<|St (a.add 16) (.string x16)<|K
def UO (a:Addr)(x0:Int)(x1:Int)(x2:Int)(x3:Int)(x4:Int)(x5:Int)(x6:Int)(x7:Int)(x8:Int)(x9:Int)(x10:Int)(x11:Int)(x12:Int)(x13:Int)(x14:Int)(x15:Bool)(x16:ByteArray)(x17:ByteArray)(x18:Sl)(x19:Sl)(x20:Sl)(K:Pr):Pr:=St (a.add 0) (.int .i64 x0)<|St (a.add 1) (.int .i64 x1)<|St (a.add 2) (.int .i64 x2)<|St (a.add 3) (.int .i64 x3)<|St (a.add 4) (.int .i64 x4)<|St (a.add 5) (.int .i64 x5)<|St (a.add 6) (.int .u64 x6)<|St (a.add 7) (.int .u64 x7)<|St (a.add 8) (.int .u64 x8)<|St (a.add 9) (.int .u64 x9)<|St (a.add 10) (.int .u64 x10)<|St (a.add 11) (.int .u64 x11)<|St (a.add 12) (.int .u64 x12)<|St (a.add 13) (.int .u64 x13)<|St (a.add 14) (.int .u64 x14)<|St (a.add 15) (.bool x15)<|St (a.add 16) (.string x16)<|St (a.add 17) (.string x17)<|St (a.add 18) (.slice x18.p x18.len x18.cap)<|St (a.add 19) (.slice x19.p x19.len x19.cap)<|St (a.add 20) (.slice x20.p x20.len x20.cap)<|K
def AQ:Array Value:=#[(.int .i64 0),(.int .u64 0),(.int .u64 0),(.int .u64 0),(.int .u64 0),(.slice none 0 0),(.slice none 0 0),(.slice none 0 0),(.int .u64 0),(.int .u64 0),(.string (BA [])),(.string (BA [])),(.int .u64 0),(.int .u64 0),(.int .u64 0),(.string (BA [])),(.string (BA []))]
def KW:Array Value:=#[(.int .i64 0),(.int .i64 0),(.int .i64 0),(.int .i64 0),(.int .i64 0),(.int .i64 0),(.int .u64 0),(.int .u64 0),(.int .u64 0),(.int .u64 0),(.int .u64 0),(.int .u64 0),(.int .u64 0),(.int .u64 0),(.int .u64 0),(.bool false),(.string (BA [])),(.string (BA [])),(.slice none 0 0),(.slice none 0 0),(.slice none 0 0)]
def Tu (a:Addr)(n:Nat)(x:Int)(K:Pr):Pr:=St (a.add n) (Vu x) K
def Tb (a:Addr)(n:Nat)(x:Bool)(K:Pr):Pr:=St (a.add n) (Vb x) K
def AjQ (a:Addr)(x0:Int)(x1:Int)(x2:Int)(x3:Int)(x4:Int)(x5:Int)(x6:Int)(x7:Int)(x8:Int)(x9:Int)(x10:Int)(x11:Int)(x12:Int)(x13:Int)(x14:Int)(x15:Bool)(x16:ByteArray)(x17:ByteArray)(K:Pr):Pr:=St (a.add 0) (.int .i64 x0)<|St (a.add 1) (.int .i64 x1)<|St (a.add 2) (.int .i64 x2)<|St (a.add 3) (.int .i64 x3)<|St (a.add 4) (.int .i64 x4)<|St (a.add 5) (.int .i64 x5)<|St (a.add 6) (.int .u64 x6)<|St (a.add 7) (.int .u64 x7)<|St (a.add 8) (.int .u64 x8)<|St (a.add 9) (.int .u64 x9)<|St (a.add 10) (.int .u64 x10)<|St (a.add 11) (.int .u64 x11)<|St (a.add 12) (.int .u64 x12)<|St (a.add 13) (.int .u64 x13)<|St (a.add 14) (.int .u64 x14)<|St (a.add 15) (.bool x15)<|St (a.add 16) (.string x16)<|St (a.add 17) (.string x17)<|K
def Lp3 (a:Addr)(K:Option Addr->Option Addr->Option Addr->Pr):Pr:=Di (a.add 0) λx0=>Di (a.add 1) λx1=>Di (a.add 2) λx2=>K x0 x1 x2
def Zp3:Array Value:=#[(.pointer none),(.pointer none),(.pointer none)]
def Ap3 (x0:Option Addr)(x1:Option Addr)(x2:Option Addr):Array Value:=#[(.pointer x0),(.pointer x1),(.pointer x2)]
def Hr (a:Addr)(n:Nat)(K:Option Addr->Pr):Pr:=Di (a.add n) K
def Ls (a:Addr)(n:Nat)(K:ByteArray->Pr):Pr:=BU (a.add n) K
def Tp (a:Addr)(n:Nat)(x:Option Addr)(K:Pr):Pr:=St (a.add n) (Vp x) K
def Az (a:Addr)(K:Int->Int->Int->Int->Int->Sl->Sl->Sl->Int->Int->ByteArray->ByteArray->Int->Int->Int->ByteArray->ByteArray->Pr):Pr:=A2 .i64 (a.add 0) λx0=>A2 .u64 (a.add 1) λx1=>A2 .u64 (a.add 2) λx2=>A2 .u64 (a.add 3) λx3=>A2 .u64 (a.add 4) λx4=>DN (a.add 5) λx5=>DN (a.add 6) λx6=>DN (a.add 7) λx7=>A2 .u64 (a.add 8) λx8=>A2 .u64 (a.add 9) λx9=>BU (a.add 10) λx10=>BU (a.add 11) λx11=>A2 .u64 (a.add 12) λx12=>A2 .u64 (a.add 13) λx13=>A2 .u64 (a.add 14) λx14=>BU (a.add 15) λx15=>BU (a.add 16) λx16=>K x0 x1 x2 x3 x4 x5 x6 x7 x8 x9 x10 x11 x12 x13 x14 x15 x16
def UC (a:Addr)(K:ByteArray->ByteArray->Bool->Pr):Pr:=BU (a.add 0) λx0=>BU (a.add 1) λx1=>E7 (a.add 2) λx2=>K x0 x1 x2
def Acq (a:Addr)(x0:ByteArray)(x1:ByteArray)(x2:Bool)(K:Pr):Pr:=St (a.add 0) (.string x0)<|St (a.add 1) (.string x1)<|St (a.add 2) (.bool x2)<|K
def AcR:Array Value:=#[(.string (BA [])),(.string (BA [])),(.bool false)]
def SG (x0:ByteArray)(x1:ByteArray)(x2:Bool):Array Value:=#[(.string x0),(.string x1),(.bool x2)]
def AjV (a:Addr)(x0:Int)(x1:Int)(x2:Int)(x3:Int)(x4:Int)(K:Pr):Pr:=St (a.add 0) (.int .i64 x0)<|St (a.add 1) (.int .u64 x1)<|St (a.add 2) (.int .u64 x2)<|St (a.add 3) (.int .u64 x3)<|St (a.add 4) (.int .u64 x4)<|K
def SL (a:Addr)(K:Sl->Sl->Bool->Pr):Pr:=DN (a.add 0) λx0=>DN (a.add 1) λx1=>E7 (a.add 2) λx2=>K x0 x1 x2
def AN (a:Addr)(K:Int->ByteArray->ByteArray->ByteArray->ByteArray->Int->Pr):Pr:=A2 .i64 (a.add 0) λx0=>BU (a.add 1) λx1=>BU (a.add 2) λx2=>BU (a.add 3) λx3=>BU (a.add 4) λx4=>A2 .i64 (a.add 5) λx5=>K x0 x1 x2 x3 x4 x5
def Gh (a:Addr)(x0:Int)(x1:ByteArray)(x2:ByteArray)(x3:ByteArray)(x4:ByteArray)(x5:Int)(K:Pr):Pr:=St (a.add 0) (.int .i64 x0)<|St (a.add 1) (.string x1)<|St (a.add 2) (.string x2)<|St (a.add 3) (.string x3)<|St (a.add 4) (.string x4)<|St (a.add 5) (.int .i64 x5)<|K
def AgV (a:Addr)(x0:Bool)(x1:ByteArray)(x2:Sl)(K:Pr):Pr:=St (a.add 0) (.bool x0)<|St (a.add 1) (.string x1)<|St (a.add 2) (.slice x2.p x2.len x2.cap)<|K
def HX (a:Addr)(K:Bool->ByteArray->Sl->Pr):Pr:=E7 (a.add 0) λx0=>BU (a.add 1) λx1=>DN (a.add 2) λx2=>K x0 x1 x2
def Gx:Array Value:=#[(.int .i64 0),(.string (BA [])),(.string (BA [])),(.string (BA [])),(.string (BA [])),(.int .i64 0)]
def Ar (x0:Int)(x1:ByteArray)(x2:ByteArray)(x3:ByteArray)(x4:ByteArray)(x5:Int):Array Value:=#[(.int .i64 x0),(.string x1),(.string x2),(.string x3),(.string x4),(.int .i64 x5)]
def Nw:Array Value:=#[(.bool false),(.string (BA [])),(.slice none 0 0)]
def Aat (x0:Bool)(x1:ByteArray)(x2:Sl):Array Value:=#[(.bool x0),(.string x1),(.slice x2.p x2.len x2.cap)]
def Tt (a:Addr)(n:Nat)(x:ByteArray)(K:Pr):Pr:=St (a.add n) (Vt x) K
def Ah5 (a:Addr)(K:Int->Sl->Sl->Int->Pr):Pr:=A2 .u64 (a.add 0) λx0=>DN (a.add 1) λx1=>DN (a.add 2) λx2=>A2 .i64 (a.add 3) λx3=>K x0 x1 x2 x3
def Aho (a:Addr)(x0:Int)(x1:Sl)(x2:Sl)(x3:Int)(K:Pr):Pr:=St (a.add 0) (.int .u64 x0)<|St (a.add 1) (.slice x1.p x1.len x1.cap)<|St (a.add 2) (.slice x2.p x2.len x2.cap)<|St (a.add 3) (.int .i64 x3)<|K
def Ahz:Array Value:=#[(.int .u64 0),(.slice none 0 0),(.slice none 0 0),(.int .i64 0)]
def Aft (a:Addr)(x0:Int)(x1:Int)(x2:Int)(x3:Int)(x4:Int)(x5:Int)(x6:Int)(x7:Int)(x8:Int)(x9:Int)(x10:Int)(x11:Int)(x12:Int)(x13:Int)(x14:Int)(x15:Bool)(K:Pr):Pr:=St (a.add 0) (.int .i64 x0)<|St (a.add 1) (.int .i64 x1)<|St (a.add 2) (.int .i64 x2)<|St (a.add 3) (.int .i64 x3)<|St (a.add 4) (.int .i64 x4)<|St (a.add 5) (.int .i64 x5)<|St (a.add 6) (.int .u64 x6)<|St (a.add 7) (.int .u64 x7)<|St (a.add 8) (.int .u64 x8)<|St (a.add 9) (.int .u64 x9)<|St (a.add 10) (.int .u64 x10)<|St (a.add 11) (.int .u64 x11)<|St (a.add 12) (.int .u64 x12)<|St (a.add 13) (.int .u64 x13)<|St (a.add 14) (.int .u64 x14)<|St (a.add 15) (.bool x15)<|K
def Ah0 (a:Addr)(K:Int->Int->Int->ByteArray->ByteArray->Pr):Pr:=A2 .u64 (a.add 0) λx0=>A2 .u64 (a.add 1) λx1=>A2 .u64 (a.add 2) λx2=>BU (a.add 3) λx3=>BU (a.add 4) λx4=>K x0 x1 x2 x3 x4
def UY (a:Addr)(x0:Int)(x1:ByteArray)(x2:ByteArray)(x3:Bool)(K:Pr):Pr:=St (a.add 0) (.int .u64 x0)<|St (a.add 1) (.string x1)<|St (a.add 2) (.string x2)<|St (a.add 3) (.bool x3)<|K
def Gs (a:Addr)(K:Int->ByteArray->ByteArray->Bool->Pr):Pr:=A2 .u64 (a.add 0) λx0=>BU (a.add 1) λx1=>BU (a.add 2) λx2=>E7 (a.add 3) λx3=>K x0 x1 x2 x3
def Vm:Array Value:=#[(.int .u64 0),(.string (BA [])),(.string (BA [])),(.bool false)]
def Cg (x0:Int)(x1:ByteArray)(x2:ByteArray)(x3:Bool):Array Value:=#[(.int .u64 x0),(.string x1),(.string x2),(.bool x3)]
def Ti (a:Addr)(n:Nat)(x:Int)(K:Pr):Pr:=St (a.add n) (Vi x) K
def Sb5 (a:Addr)(x0:Bool)(x1:Bool)(x2:Bool)(x3:Bool)(x4:Bool)(K:Pr):Pr:=St (a.add 0) (.bool x0)<|St (a.add 1) (.bool x1)<|St (a.add 2) (.bool x2)<|St (a.add 3) (.bool x3)<|St (a.add 4) (.bool x4)<|K
def RL (x0:Int)(x1:Sl)(x2:Sl)(x3:Int):Array Value:=#[(.int .u64 x0),(.slice x1.p x1.len x1.cap),(.slice x2.p x2.len x2.cap),(.int .i64 x3)]
def Ai1 (a:Addr)(K:ByteArray->Value->Value->Value->Pr):Pr:=BU (a.add 0) λx0=>LJ (a.add 1) λx1=>LJ (a.add 2) λx2=>LJ (a.add 3) λx3=>K x0 x1 x2 x3
def Ait (a:Addr)(K:Bool->Bool->Bool->Bool->Bool->Value->Pr):Pr:=E7 (a.add 0) λx0=>E7 (a.add 1) λx1=>E7 (a.add 2) λx2=>E7 (a.add 3) λx3=>E7 (a.add 4) λx4=>LJ (a.add 5) λx5=>K x0 x1 x2 x3 x4 x5
def Lv3 (a:Addr)(K:Value->Value->Value->Pr):Pr:=LJ (a.add 0) λx0=>LJ (a.add 1) λx1=>LJ (a.add 2) λx2=>K x0 x1 x2
def As4 (x0:ByteArray)(x1:ByteArray)(x2:ByteArray)(x3:ByteArray):Array Value:=#[(.string x0),(.string x1),(.string x2),(.string x3)]
def Akq (a:Addr)(K:Int->Int->Int->Int->Int->Pr):Pr:=A2 .i64 (a.add 0) λx0=>A2 .u64 (a.add 1) λx1=>A2 .u64 (a.add 2) λx2=>A2 .u64 (a.add 3) λx3=>A2 .u64 (a.add 4) λx4=>K x0 x1 x2 x3 x4
def Lu3 (a:Addr)(K:Int->Int->Int->Pr):Pr:=A2 .u64 (a.add 0) λx0=>A2 .u64 (a.add 1) λx1=>A2 .u64 (a.add 2) λx2=>K x0 x1 x2
def Au3 (x0:Int)(x1:Int)(x2:Int):Array Value:=#[(.int .u64 x0),(.int .u64 x1),(.int .u64 x2)]
def Gq (a:Addr)(K:Bool->Bool->Bool->Bool->Bool->Value->Bool->Bool->Bool->Bool->Bool->Value->Bool->Bool->Bool->Bool->Bool->Value->Bool->Bool->Bool->Bool->Bool->Value->Bool->Bool->Bool->Bool->Bool->Value->Bool->Bool->Bool->Bool->Bool->Value->Pr):Pr:=E7 (a.add 0) λx0=>E7 (a.add 1) λx1=>E7 (a.add 2) λx2=>E7 (a.add 3) λx3=>E7 (a.add 4) λx4=>LJ (a.add 5) λx5=>E7 (a.add 6) λx6=>E7 (a.add 7) λx7=>E7 (a.add 8) λx8=>E7 (a.add 9) λx9=>E7 (a.add 10) λx10=>LJ (a.add 11) λx11=>E7 (a.add 12) λx12=>E7 (a.add 13) λx13=>E7 (a.add 14) λx14=>E7 (a.add 15) λx15=>E7 (a.add 16) λx16=>LJ (a.add 17) λx17=>E7 (a.add 18) λx18=>E7 (a.add 19) λx19=>E7 (a.add 20) λx20=>E7 (a.add 21) λx21=>E7 (a.add 22) λx22=>LJ (a.add 23) λx23=>E7 (a.add 24) λx24=>E7 (a.add 25) λx25=>E7 (a.add 26) λx26=>E7 (a.add 27) λx27=>E7 (a.add 28) λx28=>LJ (a.add 29) λx29=>E7 (a.add 30) λx30=>E7 (a.add 31) λx31=>E7 (a.add 32) λx32=>E7 (a.add 33) λx33=>E7 (a.add 34) λx34=>LJ (a.add 35) λx35=>K x0 x1 x2 x3 x4 x5 x6 x7 x8 x9 x10 x11 x12 x13 x14 x15 x16 x17 x18 x19 x20 x21 x22 x23 x24 x25 x26 x27 x28 x29 x30 x31 x32 x33 x34 x35
open Go Go.Sx
def IV (a b c:Sl)(R:TR [.sc .b]->Pr):Pr:=
 Cl Pg 8 [] false [.sc .b] λd=>
 Jp (σ:=Bool×Unit) (λe=>
 Br e.1 (
 R (d.1,())) (
 At #[(Vt (BA [])),(Vi 1),(Vt (BA [99])),(Vi 1),(Vt (BA [109])),(Vi 2)] 70 λf=>
 At #[(Vt (BA [])),(Vt (BA []))] 37 λg=>
 St (g.add 0) (Vt (BA [99])) <|
 St (g.add 1) (Vt (BA [109])) <|
 Cl Pg 20 [(Vs a),(.agg #[(Vt (BA [])),(Vt (BA [109]))]),(Vi (-1))] false [.sc .sl] λi=>
 At #[(Vs i.1)] 27 λj=>
 Cl Pg 20 [(Vs a),(.agg #[(Vt (BA [109])),(Vt (BA []))]),(Vi (-1))] false [.sc .sl] λk=>
 At #[(Vs k.1)] 27 λl=>
 At Zp3 72 λm=>
 Tp m 0 none <|
 St (m.add 1) (Vp (some j)) <|
 St (m.add 2) (Vp (some l)) <|
 At Zp3 73 λn=>
 Lp (σ:=Bool×Int×Unit) (λo p=>
 Br (decide ((p.2.1:Int)<=2)) (
 IxR m 3 p.2.1 1 λq=>
 Di q λr=>
 Cl Pg 9 [(.agg #[(Vi p.2.1),(Vu 0),(Vu 0),(Vu 1),(Vu 0),(.slice (some f) 3 3),(.slice none 0 0),(.slice none 0 0),(Vu 0),(Vu 0),(Vt (BA [])),(Vt (BA [])),(Vu 0),(Vu 0),(Vu 0),(Vt (BA [])),(Vt (BA []))]),(.iface 24 (Vp r))] true [.sc .p,.sc (.i .i64)] λs=>
 Jp (σ:=Bool×Unit) (λt=>
 Br t.1 (
 R (false,())) (
 IxR n 3 p.2.1 1 λu=>
 St u (Vp s.1) <|
 Cl Pg 11 [(Vp s.1),(.agg #[(Vi 8),(Vi 0),(Vi p.2.1),(Vi 0),(Vi 0),(Vi 0),(Vu 0),(Vu 0),(Vu 0),(Vu 0),(Vu 7),(Vu 1),(Vu 7),(Vu 0),(Vu 0),(Vb false),(Vt (BA [])),(Vt (BA [])),(.slice none 0 0),(.slice none 0 0),(.slice (some f) 3 3)])] true Vv λv=>
 o (p.1,(An (p.2.1+1)),()))) λx=>
 Br (Option.isNone s.1) (
 x (true,())) (
 x (((s.2.1:Int) !=0),()))) (
 Ls g 0 λy=>
 Ls g 1 λz=>
 At KW 47 λa0=>
 AjQ a0 10 0 1 0 0 2 0 0 0 0 7 0 7 0 0 false y z <|
 St (a0.add 18) (.slice none 0 0) <|
 St (a0.add 19) (.slice none 0 0) <|
 St (a0.add 20) (.slice none 0 0) <|
 Jp (σ:=Bool×Bool×Unit) (λb0=>
 Dr <|
 Br d.1 (
 Br b0.2.1 (
 IxR m 3 1 1 λc0=>
 Di c0 λd0=>
 Nn d0 λe0=>
 Ll e0 0 λf0=>
 Ls g 0 λg0=>
 Ls g 1 λi0=>
 IxR m 3 2 1 λj0=>
 Di j0 λk0=>
 Nn k0 λl0=>
 Ll l0 0 λm0=>
 Ls g 0 λn0=>
 Ls g 1 λo0=>
 Cl Pg 20 [(Vs f0),(.agg #[(Vt g0),(Vt i0)]),(Vi (-1))] false [.sc .sl] λp0=>
 AH (Ls g 0 λq0=>
 Ls g 1 λr0=>
 λ_=>((.agg #[(Vt q0),(Vt r0)]):Value)=(.agg #[(Vt n0),(Vt o0)])) <|
 AH (Ll l0 0 λs0=>
 λ_=>((Vs s0):Value)=(Vs m0)) <|
 AH (Di j0 λt0=>
 λ_=>((Vp t0):Value)=(Vp k0)) <|
 Cl Pg 20 [(Vs m0),(.agg #[(Vt n0),(Vt o0)]),(Vi (-1))] false [.sc .sl] λu0=>
 Cl Pg 23 [(Vs p0.1),(Vs u0.1)] false [.sc .b] λv0=>
 R (v0.1,())) (
 R (false,()))) (
 R (false,()))) λx0=>
 Lp (σ:=Bool×Bool×Int×Unit) (λy0 z0=>
 Br (decide ((z0.2.2.1:Int)<(An (((b.len:Nat):Int)+60)))) (
 At #[] 47 λa1=>
 Jp (σ:=Sl×Unit) (λb1=>
 St (a0.add 15) (Vb (decide ((z0.2.2.1:Int)>=((b.len:Nat):Int)))) <|
 Jp (σ:=Sl×Unit) (λc1=>
 IxR n 3 1 1 λd1=>
 Di d1 λe1=>
 Cl Pg 18 [(Vp e1)] true Vv λf1=>
 At LW 52 λg1=>
 KV g1 f1.1.1 f1.1.2.1 f1.1.2.2.1 <|
 Br ((f1.2.1:Int) !=0) (
 R (false,())) (
 Dr <|
 Lp3 n λi1 j1 k1=>
 Lp3 m λl1 m1 n1=>
 Bn a0 λo1 p1 q1 r1 s1 t1 u1 v1 x1 y1 z1 a2 b2 c2 d2 e2 f2 g2 i2 j2 k2=>
 Ll g1 0 λl2=>
 At (Ag o1 p1 q1 r1 s1 t1 u1 v1 x1 y1 z1 a2 b2 c2 d2 e2 f2 g2 i2 j2 k2) 47 λm2=>
 AH (Ll g1 0 λn2=>
 λ_=>((Vs n2):Value)=(Vs l2)) <|
 AH (Hr m 0 λo2=>
 Hr m 1 λp2=>
 Hr m 2 λq2=>
 λ_=>((.agg (Ap3 o2 p2 q2)):Value)=(.agg (Ap3 l1 m1 n1))) <|
 AH (Hr n 0 λr2=>
 Hr n 1 λs2=>
 Hr n 2 λt2=>
 λ_=>((.agg (Ap3 r2 s2 t2)):Value)=(.agg (Ap3 i1 j1 k1))) <|
 App 47 21 232 (zc Pg 47) b1.1 1 (BH (some m2) 1 21) λu2=>
 AH (Ll g1 0 λv2=>
 λ_=>((Vs v2):Value)=(Vs l2)) <|
 AH (Hr m 0 λx2=>
 Hr m 1 λy2=>
 Hr m 2 λz2=>
 λ_=>((.agg (Ap3 x2 y2 z2)):Value)=(.agg (Ap3 l1 m1 n1))) <|
 AH (Hr n 0 λa3=>
 Hr n 1 λb3=>
 Hr n 2 λc3=>
 λ_=>((.agg (Ap3 a3 b3 c3)):Value)=(.agg (Ap3 i1 j1 k1))) <|
 App 47 21 232 (zc Pg 47) u2 l2.len (BH l2.p l2.len 21) λd3=>
 AH (Hr m 0 λe3=>
 Hr m 1 λf3=>
 Hr m 2 λg3=>
 λ_=>((.agg (Ap3 e3 f3 g3)):Value)=(.agg (Ap3 l1 m1 n1))) <|
 AH (Hr n 0 λi3=>
 Hr n 1 λj3=>
 Hr n 2 λk3=>
 λ_=>((.agg (Ap3 i3 j3 k3)):Value)=(.agg (Ap3 i1 j1 k1))) <|
 Cl Pg 22 [(.agg (Ap3 i1 j1 k1)),(.agg (Ap3 l1 m1 n1)),(Vs d3),(Vs c1.1)] true [.sc .b,.sc .b] λl3=>
 Br (!l3.2.1) (
 R (false,())) (
 Jp (σ:=Bool×Unit) (λm3=>
 Jp (σ:=Bool×Unit) (λn3=>
 Br n3.1 (
 x0 (z0.1,m3.1,())) (
 y0 (z0.1,m3.1,(An (z0.2.2.1+1)),()))) λo3=>
 Br m3.1 (
 o3 ((decide ((z0.2.2.1:Int)>=((b.len:Nat):Int))),())) (
 o3 (false,()))) λp3=>
 Br z0.2.1 (
 p3 (true,())) (
 p3 (l3.1,()))))) λq3=>
 Br (decide ((z0.2.2.1:Int)>=((b.len:Nat):Int))) (
 q3 (⟨none,0,0⟩,())) (
 q3 (c,()))) λr3=>
 Jp (σ:=Bool×Unit) (λs3=>
 Br s3.1 (
 Ix b z0.2.2.1 1 λt3=>
 DN t3 λu3=>
 At #[(Vi 3),(Vi 0),(Vi 1),(Vi 0),(Vi 0),(Vi 0),(Vu 0),(Vu 0),(Vu (IntKind.u64.wrap ((An (z0.2.2.1+1))))),(Vu (IntKind.u64.wrap ((An (z0.2.2.1+1))))),(Vu 0),(Vu 1),(Vu 0),(Vu 0),(Vu 0),(Vb false),(Vt (BA [])),(Vt (BA [])),(Vs u3),(.slice none 0 0),(.slice none 0 0),(Vi 5),(Vi 0),(Vi 1),(Vi 0),(Vi 0),(Vi 0),(Vu 0),(Vu 0),(Vu (IntKind.u64.wrap ((An (z0.2.2.1+1))))),(Vu 0),(Vu 0),(Vu 0),(Vu 0),(Vu 0),(Vu 0),(Vb true),(Vt (BA [])),(Vt (BA [])),(.slice none 0 0),(.slice none 0 0),(.slice none 0 0)] 47 λv3=>
 App 47 21 232 (zc Pg 47) ⟨(some a1),0,0⟩ 2 (BH (some v3) 2 21) λx3=>
 r3 (x3,())) (
 r3 (⟨(some a1),0,0⟩,()))) λy3=>
 Br (decide ((z0.2.2.1:Int)<((b.len:Nat):Int))) (
 Ix b z0.2.2.1 1 λz3=>
 DN z3 λa4=>
 Br (decide ((((a4.len:Nat):Int):Int)>0)) (
 Ix b z0.2.2.1 1 λb4=>
 DN b4 λc4=>
 Br (decide ((((c4.len:Nat):Int):Int)<=4)) (
 Ix b z0.2.2.1 1 λd4=>
 DN d4 λe4=>
 Cl Pg 21 [(Vs e4)] false [.sc (.i .i64)] λf4=>
 y3 (((f4.1:Int)==0),())) (
 y3 (false,()))) (
 y3 (false,()))) (
 y3 (false,()))) (
 x0 (z0.1,z0.2.1,()))) (p.1,false,0,()))) (false,1,()))) λg4=>
 Cl Pg 13 [(Vs a)] false [.sc (.i .i64)] λi4=>
 Br ((i4.1:Int) !=0) (
 g4 (true,())) (
 Br (decide ((((a.len:Nat):Int):Int)>40)) (
 g4 (true,())) (
 g4 ((decide ((((b.len:Nat):Int):Int)>20)),())))
theorem JY (a b c){R w}(h:IV a b c R w):Cl Pg 7 [(Vs a),(Vs b),(Vs c)] false [.sc .b] R w:=
 ce (s' (s' (q' (q' (.join [(38,.sc .b)] l') (k' (s' l') l')) (s' (s' (s' (s' (q' (s' (.block (.loop [(6,.sc .b),(12,.sc (.i .i64))] (q' (s' (k' l' l')) (q' (.block (s' (q' (q' (.join [(76,.sc .b)] l') (k' (s' l') l')) (s' l')))) l'))))) (s' (s' (q' (.join [(6,.sc .b),(16,.sc .b)] (s' (.block (.loop [(6,.sc .b),(16,.sc .b),(90,.sc (.i .i64))] (s' (q' (k' l' l') (q' (.block (s' (s' (q' (.join [(18,.sc .sl)] (q' (.join [(121,.sc .b)] l') (k' (s' l') l'))) (s' (s' (q' (.join [(20,.sc .sl)] (s' (k' l' l'))) (s' (q' (s' (k' (s' l') l')) (s' (q' (s' (k' (s' l') l')) (q' (.join [(16,.sc .b)] l') (q' (.join [(181,.sc .b)] l') (k' l' l')))))))))))))) l'))))))) (s' l')))))))))))) Tryz.func7 h
def Ip (R:TR [.sc .b]->Pr):Pr:=
 Cl Pg 10 [] false Ux λa=>
 At #[(.slice none 0 0)] 27 λb=>
 Cl Pg 9 [(.agg (Al a.1.1 a.1.2.1 a.1.2.2.1 a.1.2.2.2.1 a.1.2.2.2.2.1 a.1.2.2.2.2.2.1 a.1.2.2.2.2.2.2.1 a.1.2.2.2.2.2.2.2.1 a.1.2.2.2.2.2.2.2.2.1 a.1.2.2.2.2.2.2.2.2.2.1 a.1.2.2.2.2.2.2.2.2.2.2.1 a.1.2.2.2.2.2.2.2.2.2.2.2.1 a.1.2.2.2.2.2.2.2.2.2.2.2.2.1 a.1.2.2.2.2.2.2.2.2.2.2.2.2.2.1 a.1.2.2.2.2.2.2.2.2.2.2.2.2.2.2.1 a.1.2.2.2.2.2.2.2.2.2.2.2.2.2.2.2.1 a.1.2.2.2.2.2.2.2.2.2.2.2.2.2.2.2.2.1)),(.iface 24 (Vp (some b)))] true [.sc .p,.sc (.i .i64)] λc=>
 Jp (σ:=Bool×Unit) (λd=>
 Br d.1 (
 R (false,())) (
 Cl Pg 24 [(Vu 5),(.agg #[(Vi 2),(Vt (BA [97])),(Vt (BA [120])),(Vt (BA [])),(Vt (BA [])),(Vi 0)])] false K2' λe=>
 Cl Pg 11 [(Vp c.1),(.agg (Ag e.1.1 e.1.2.1 e.1.2.2.1 e.1.2.2.2.1 e.1.2.2.2.2.1 e.1.2.2.2.2.2.1 e.1.2.2.2.2.2.2.1 e.1.2.2.2.2.2.2.2.1 e.1.2.2.2.2.2.2.2.2.1 e.1.2.2.2.2.2.2.2.2.2.1 e.1.2.2.2.2.2.2.2.2.2.2.1 e.1.2.2.2.2.2.2.2.2.2.2.2.1 e.1.2.2.2.2.2.2.2.2.2.2.2.2.1 e.1.2.2.2.2.2.2.2.2.2.2.2.2.2.1 e.1.2.2.2.2.2.2.2.2.2.2.2.2.2.2.1 e.1.2.2.2.2.2.2.2.2.2.2.2.2.2.2.2.1 e.1.2.2.2.2.2.2.2.2.2.2.2.2.2.2.2.2.1 e.1.2.2.2.2.2.2.2.2.2.2.2.2.2.2.2.2.2.1 e.1.2.2.2.2.2.2.2.2.2.2.2.2.2.2.2.2.2.2.1 e.1.2.2.2.2.2.2.2.2.2.2.2.2.2.2.2.2.2.2.2.1 e.1.2.2.2.2.2.2.2.2.2.2.2.2.2.2.2.2.2.2.2.2.1))] true Vv λf=>
 At LW 52 λg=>
 KV g f.1.1 f.1.2.1 f.1.2.2.1 <|
 Cl Pg 24 [(Vu 6),(.agg #[(Vi 1),(Vt (BA [97])),(Vt (BA [])),(Vt (BA [])),(Vt (BA [])),(Vi 0)])] false K2' λi=>
 Cl Pg 11 [(Vp c.1),(.agg (Ag i.1.1 i.1.2.1 i.1.2.2.1 i.1.2.2.2.1 i.1.2.2.2.2.1 i.1.2.2.2.2.2.1 i.1.2.2.2.2.2.2.1 i.1.2.2.2.2.2.2.2.1 i.1.2.2.2.2.2.2.2.2.1 i.1.2.2.2.2.2.2.2.2.2.1 i.1.2.2.2.2.2.2.2.2.2.2.1 i.1.2.2.2.2.2.2.2.2.2.2.2.1 i.1.2.2.2.2.2.2.2.2.2.2.2.2.1 i.1.2.2.2.2.2.2.2.2.2.2.2.2.2.1 i.1.2.2.2.2.2.2.2.2.2.2.2.2.2.2.1 i.1.2.2.2.2.2.2.2.2.2.2.2.2.2.2.2.1 i.1.2.2.2.2.2.2.2.2.2.2.2.2.2.2.2.2.1 i.1.2.2.2.2.2.2.2.2.2.2.2.2.2.2.2.2.2.1 i.1.2.2.2.2.2.2.2.2.2.2.2.2.2.2.2.2.2.2.1 i.1.2.2.2.2.2.2.2.2.2.2.2.2.2.2.2.2.2.2.2.1 i.1.2.2.2.2.2.2.2.2.2.2.2.2.2.2.2.2.2.2.2.2.1))] true Vv λj=>
 At LW 52 λk=>
 KV k j.1.1 j.1.2.1 j.1.2.2.1 <|
 Cl Pg 24 [(Vu 4),(.agg #[(Vi 1),(Vt (BA [97])),(Vt (BA [])),(Vt (BA [])),(Vt (BA [])),(Vi 0)])] false K2' λl=>
 Cl Pg 11 [(Vp c.1),(.agg (Ag l.1.1 l.1.2.1 l.1.2.2.1 l.1.2.2.2.1 l.1.2.2.2.2.1 l.1.2.2.2.2.2.1 l.1.2.2.2.2.2.2.1 l.1.2.2.2.2.2.2.2.1 l.1.2.2.2.2.2.2.2.2.1 l.1.2.2.2.2.2.2.2.2.2.1 l.1.2.2.2.2.2.2.2.2.2.2.1 l.1.2.2.2.2.2.2.2.2.2.2.2.1 l.1.2.2.2.2.2.2.2.2.2.2.2.2.1 l.1.2.2.2.2.2.2.2.2.2.2.2.2.2.1 l.1.2.2.2.2.2.2.2.2.2.2.2.2.2.2.1 l.1.2.2.2.2.2.2.2.2.2.2.2.2.2.2.2.1 l.1.2.2.2.2.2.2.2.2.2.2.2.2.2.2.2.2.1 l.1.2.2.2.2.2.2.2.2.2.2.2.2.2.2.2.2.2.1 l.1.2.2.2.2.2.2.2.2.2.2.2.2.2.2.2.2.2.2.1 l.1.2.2.2.2.2.2.2.2.2.2.2.2.2.2.2.2.2.2.2.1 l.1.2.2.2.2.2.2.2.2.2.2.2.2.2.2.2.2.2.2.2.2.1))] true Vv λm=>
 At LW 52 λn=>
 KV n m.1.1 m.1.2.1 m.1.2.2.1 <|
 Cl Pg 16 [(Vp c.1)] false [.sc .sl] λo=>
 Cl Pg 11 [(Vp c.1),(.agg #[(Vi 5),(Vi 0),(Vi 1),(Vi 0),(Vi 0),(Vi 0),(Vu 0),(Vu 0),(Vu 5),(Vu 0),(Vu 0),(Vu 0),(Vu 0),(Vu 0),(Vu 0),(Vb true),(Vt (BA [])),(Vt (BA [])),(.slice none 0 0),(.slice none 0 0),(.slice none 0 0)])] true Vv λp=>
 At LW 52 λq=>
 KV q p.1.1 p.1.2.1 p.1.2.2.1 <|
 Cl Pg 24 [(Vu 7),(.agg #[(Vi 2),(Vt (BA [122])),(Vt (BA [])),(Vt (BA [])),(Vt (BA [])),(Vi 0)])] false K2' λr=>
 Cl Pg 11 [(Vp c.1),(.agg (Ag r.1.1 r.1.2.1 r.1.2.2.1 r.1.2.2.2.1 r.1.2.2.2.2.1 r.1.2.2.2.2.2.1 r.1.2.2.2.2.2.2.1 r.1.2.2.2.2.2.2.2.1 r.1.2.2.2.2.2.2.2.2.1 r.1.2.2.2.2.2.2.2.2.2.1 r.1.2.2.2.2.2.2.2.2.2.2.1 r.1.2.2.2.2.2.2.2.2.2.2.2.1 r.1.2.2.2.2.2.2.2.2.2.2.2.2.1 r.1.2.2.2.2.2.2.2.2.2.2.2.2.2.1 r.1.2.2.2.2.2.2.2.2.2.2.2.2.2.2.1 r.1.2.2.2.2.2.2.2.2.2.2.2.2.2.2.2.1 r.1.2.2.2.2.2.2.2.2.2.2.2.2.2.2.2.2.1 r.1.2.2.2.2.2.2.2.2.2.2.2.2.2.2.2.2.2.1 r.1.2.2.2.2.2.2.2.2.2.2.2.2.2.2.2.2.2.2.1 r.1.2.2.2.2.2.2.2.2.2.2.2.2.2.2.2.2.2.2.2.1 r.1.2.2.2.2.2.2.2.2.2.2.2.2.2.2.2.2.2.2.2.2.1))] true Vv λs=>
 At LW 52 λt=>
 KV t s.1.1 s.1.2.1 s.1.2.2.1 <|
 Cl Pg 11 [(Vp c.1),(.agg #[(Vi 6),(Vi 1),(Vi 0),(Vi 0),(Vi 0),(Vi 0),(Vu 0),(Vu 0),(Vu 0),(Vu 0),(Vu 0),(Vu 0),(Vu 0),(Vu 0),(Vu 0),(Vb false),(Vt (BA [])),(Vt (BA [])),(.slice none 0 0),(.slice none 0 0),(.slice none 0 0)])] true Vv λu=>
 At LW 52 λv=>
 KV v u.1.1 u.1.2.1 u.1.2.2.1 <|
 Cl Pg 14 [(Vp c.1)] false Ux λx=>
 At AQ 41 λy=>
 Bf y x.1.1 x.1.2.1 x.1.2.2.1 x.1.2.2.2.1 x.1.2.2.2.2.1 x.1.2.2.2.2.2.1 x.1.2.2.2.2.2.2.1 x.1.2.2.2.2.2.2.2.1 x.1.2.2.2.2.2.2.2.2.1 x.1.2.2.2.2.2.2.2.2.2.1 x.1.2.2.2.2.2.2.2.2.2.2.1 x.1.2.2.2.2.2.2.2.2.2.2.2.1 x.1.2.2.2.2.2.2.2.2.2.2.2.2.1 x.1.2.2.2.2.2.2.2.2.2.2.2.2.2.1 x.1.2.2.2.2.2.2.2.2.2.2.2.2.2.2.1 x.1.2.2.2.2.2.2.2.2.2.2.2.2.2.2.2.1 x.1.2.2.2.2.2.2.2.2.2.2.2.2.2.2.2.2.1 <|
 Ll g 0 λz=>
 Br ((((z.len:Nat):Int):Int)==1) (
 Ll g 0 λa0=>
 Ix a0 0 21 λb0=>
 Li b0 4 λc0=>
 Br ((c0:Int)==3) (
 Lb g 2 λd0=>
 Br d0 (
 Ll k 0 λe0=>
 Br ((((e0.len:Nat):Int):Int)==1) (
 Ll k 0 λf0=>
 Ix f0 0 21 λg0=>
 Li g0 4 λi0=>
 Br ((i0:Int)==5) (
 Ll n 0 λj0=>
 Br ((((j0.len:Nat):Int):Int)==0) (
 Br ((((o.1.len:Nat):Int):Int)==1) (
 Ll q 1 λk0=>
 Br ((((k0.len:Nat):Int):Int)==1) (
 Ll q 0 λl0=>
 Br ((((l0.len:Nat):Int):Int)==2) (
 Ll q 0 λm0=>
 Ix m0 0 21 λn0=>
 Li n0 0 λo0=>
 Br ((o0:Int)==6) (
 Ll q 0 λp0=>
 Ix p0 1 21 λq0=>
 Lu q0 8 λr0=>
 Br ((r0:Int)==4) (
 Ll q 0 λs0=>
 Ix s0 1 21 λt0=>
 Ll t0 19 λu0=>
 Br ((((u0.len:Nat):Int):Int)==1) (
 Ll q 0 λv0=>
 Ix v0 1 21 λx0=>
 Ll x0 19 λy0=>
 Ix y0 0 3 λz0=>
 Ls z0 1 λa1=>
 Br (seq a1 (BA [120])) (
 Ll t 0 λb1=>
 Br ((((b1.len:Nat):Int):Int)==1) (
 Ll t 0 λc1=>
 Ix c1 0 21 λd1=>
 Li d1 4 λe1=>
 Br ((e1:Int)==4) (
 Br ((u.2.1:Int)==180) (
 Ll y 6 λf1=>
 Br ((((f1.len:Nat):Int):Int)==1) (
 Lu y 1 λg1=>
 R (((g1:Int)==1),())) (
 R (false,()))) (
 R (false,()))) (
 R (false,()))) (
 R (false,()))) (
 R (false,()))) (
 R (false,()))) (
 R (false,()))) (
 R (false,()))) (
 R (false,()))) (
 R (false,()))) (
 R (false,()))) (
 R (false,()))) (
 R (false,()))) (
 R (false,()))) (
 R (false,()))) (
 R (false,()))) (
 R (false,())))) λi1=>
 Br (Option.isNone c.1) (
 i1 (true,())) (
 i1 (((c.2.1:Int) !=0),()))
theorem La {R w}(h:Ip  R w):Cl Pg 8 [] false [.sc .b] R w:=
 ce (s' (s' (q' (q' (.join [(30,.sc .b)] l') (k' (s' l') l')) (s' (s' (s' (s' (s' (s' (s' (s' (s' l')))))))))))) Tryz.func8 h
def Uq (a b c d e:Int)(f g i:Sl)(j k:Int)(l m:ByteArray)(n o p:Int)(q r:ByteArray)(s:Value)(R:TR [.sc .p,.sc (.i .i64)]->Pr):Pr:=
 At (Al a b c d e f g i j k l m n o p q r) 41 λt=>
 Az t λu v x y z a0 b0 c0 d0 e0 f0 g0 i0 j0 k0 l0 m0=>
 Cl Pg 25 [(.agg (Al u v x y z a0 b0 c0 d0 e0 f0 g0 i0 j0 k0 l0 m0))] false [.sc (.i .i64)] λn0=>
 Br ((n0.1:Int) !=0) (
 R (none,n0.1,())) (
 Ajq s λb20=>
 Br b20 (
 R (none,1,())) (
 Az t λo0 p0 q0 r0 s0 t0 u0 v0 x0 y0 z0 a1 b1 c1 d1 e1 f1=>
 Cl Pg 26 [(.agg (Al o0 p0 q0 r0 s0 t0 u0 v0 x0 y0 z0 a1 b1 c1 d1 e1 f1))] false Ux λg1=>
 Cl Pg 27 [] false [.sc .p] λi1=>
 AY ((s:Value).oneCell'=true) <|
 At #[(Vi g1.1.1),(Vu g1.1.2.1),(Vu g1.1.2.2.1),(Vu g1.1.2.2.2.1),(Vu g1.1.2.2.2.2.1),(Vs g1.1.2.2.2.2.2.1),(Vs g1.1.2.2.2.2.2.2.1),(Vs g1.1.2.2.2.2.2.2.2.1),(Vu g1.1.2.2.2.2.2.2.2.2.1),(Vu g1.1.2.2.2.2.2.2.2.2.2.1),(Vt g1.1.2.2.2.2.2.2.2.2.2.2.1),(Vt g1.1.2.2.2.2.2.2.2.2.2.2.2.1),(Vu g1.1.2.2.2.2.2.2.2.2.2.2.2.2.1),(Vu g1.1.2.2.2.2.2.2.2.2.2.2.2.2.2.1),(Vu g1.1.2.2.2.2.2.2.2.2.2.2.2.2.2.2.1),(Vt g1.1.2.2.2.2.2.2.2.2.2.2.2.2.2.2.2.1),(Vt g1.1.2.2.2.2.2.2.2.2.2.2.2.2.2.2.2.2.1),(.slice none 0 0),(Vp i1.1),(Vp none),s,(.slice none 0 0),(.slice none 0 0),(Vb false),(.slice none 0 0),(Vi 0)] 94 λj1=>
 Lu (j1.add 0) 1 λk1=>
 St ((j1.add 0).add 1) (Vu (IntKind.u64.wrap (k1+1))) <|
 Ll (j1.add 0) 6 λl1=>
 Lp (σ:=Option Addr×Int×Int×Unit) (λm1 n1=>
 Br (decide ((n1.2.2.1:Int)<((l1.len:Nat):Int))) (
 Ix l1 n1.2.2.1 2 λo1=>
 Lu o1 0 λp1=>
 Ll o1 1 λq1=>
 At #[(Vu 0),(.slice none 0 0)] 60 λr1=>
 Tu r1 0 p1 <|
 Ts r1 1 q1 <|
 Ll r1 1 λs1=>
 Cl Pg 28 [(Vs s1)] true [.sc .sl,.sc (.i .i64)] λt1=>
 Lp (σ:=Option Addr×Int×Int×Unit) (λu1 v1=>
 Br (decide ((v1.2.2.1:Int)<((t1.1.len:Nat):Int))) (
 Ix t1.1 v1.2.2.1 3 λx1=>
 UC x1 λy1 z1 a2=>
 At AcR 99 λb2=>
 Acq b2 y1 z1 a2 <|
 Dr <|
 Hr j1 18 λc2=>
 Lu r1 0 λd2=>
 UC b2 λe2 f2 g2=>
 Cl Pg 29 [(Vp c2),(Vu d2),(.agg (SG e2 f2 g2))] true [.sc (.i .i64),.sc .sl,.sc .sl,.sc (.i .i64)] λi2=>
 Jp (σ:=Bool×Unit) (λj2=>
 Br j2.1 (
 R (none,1,())) (
 u1 (v1.1,v1.2.1,(An (v1.2.2.1+1)),()))) λk2=>
 Br ((i2.2.2.2.1:Int) !=0) (
 k2 (true,())) (
 k2 (((i2.1:Int) !=1),()))) (
 m1 (v1.1,v1.2.1,(An (n1.2.2.1+1)),()))) (n1.1,n1.2.1,0,())) (
 R ((some j1),0,()))) (none,0,0,())))
theorem Oa (a b c d e f g i j k l m n o p q r s){R w}(h:Uq a b c d e f g i j k l m n o p q r s R w):Cl Pg 9 [(.agg (Al a b c d e f g i j k l m n o p q r)),s] true [.sc .p,.sc (.i .i64)] R w:=
 ce (s' (q' (s' (s' (k' (s' l') l'))) (q' (s' (k' (s' l') l')) (s' (s' (q' (s' (.block (.loop [(4,.sc .p),(5,.sc (.i .i64)),(46,.sc (.i .i64))] (s' (q' (k' l' l') (q' (.block (s' (s' (s' (.block (.loop [(4,.sc .p),(5,.sc (.i .i64)),(58,.sc (.i .i64))] (s' (q' (k' l' l') (q' (.block (s' (s' (q' (.join [(80,.sc .b)] l') (k' (s' l') l'))))) l'))))))))) l')))))) (s' l'))))))) Tryz.func9 h
def HC (R:TR Ux->Pr):Pr:=
 At AQ 41 λa=>
 At #[(Vt (BA [])),(Vi 1),(Vt (BA [109])),(Vi 2)] 70 λb=>
 AjV a 1 0 0 1 0 <|
 St (a.add 5) (.slice (some b) 2 2) <|
 St (a.add 6) (.slice none 0 0) <|
 St (a.add 7) (.slice none 0 0) <|
 Tu a 8 0 <|
 Tu a 9 0 <|
 St (a.add 10) (Vt (BA [])) <|
 St (a.add 11) (Vt (BA [])) <|
 Tu a 12 0 <|
 Tu a 13 0 <|
 Tu a 14 0 <|
 St (a.add 15) (Vt (BA [])) <|
 St (a.add 16) (Vt (BA [])) <|
 Az a λc d e f g i j k l m n o p q r s t=>
 R ((c,d,e,f,g,i,j,k,l,m,n,o,p,q,r,s,t,()),())
theorem Kg {R w}(h:HC  R w):Cl Pg 10 [] false Ux R w:=
 ce (s' (s' l')) Tryz.func10 h
def EH (a:Option Addr)(b c d e f g i j k l m n o p q:Int)(r:Bool)(s t:ByteArray)(u v x:Sl)(R:TR Vv->Pr):Pr:=
 At #[(Vp a)] 28 λy=>
 At (Ag b c d e f g i j k l m n o p q r s t u v x) 47 λz=>
 At LW 52 λa0=>
 Jp (σ:=Option Addr×Bool×Unit) (λb0=>
 Jp (σ:=Bool×Unit) (λc0=>
 Br c0.1 (
 St (a0.add 0) (.slice none 0 0) <|
 St (a0.add 1) (.slice none 0 0) <|
 Tb a0 2 false <|
 SL a0 λd0 e0 f0=>
 R ((d0,e0,f0,()),180,())) (
 Di y λg0=>
 Cl Pg 32 [(Vp g0),(.func (.func 33) #[] #[(Vp b0.1),(Vp (some y)),(Vp (some z))])] true Vv λi0=>
 KV a0 i0.1.1 i0.1.2.1 i0.1.2.2.1 <|
 SL a0 λj0 k0 l0=>
 R ((j0,k0,l0,()),i0.2.1,()))) λm0=>
 Dr <|
 Bn z λn0 o0 p0 q0 r0 s0 t0 u0 v0 x0 y0 z0 a1 b1 c1 d1 e1 f1 g1 i1 j1=>
 Cl Pg 31 [(.agg (Ag n0 o0 p0 q0 r0 s0 t0 u0 v0 x0 y0 z0 a1 b1 c1 d1 e1 f1 g1 i1 j1))] false [.sc (.i .i64)] λk1=>
 Br ((k1.1:Int) !=0) (
 m0 (true,())) (
 Li z 2 λl1=>
 Di y λm1=>
 Nn m1 λn1=>
 Li (n1.add 0) 0 λo1=>
 Br ((l1:Int) !=o1) (
 m0 (true,())) (
 m0 ((!b0.2.1),())))) λp1=>
 Dr <|
 Li z 0 λq1=>
 AH (
 Cl Pg 30 [] false [.sc .m] λr1=>
 AH (Li z 0 λs1=>
 λ_=>((Vi s1):Value)=(Vi q1)) <|
 LkK .v Value.nilFunc (.int .i64) r1.1 (Vi q1) λt1 b46=>
 AY ((.nilFunc:Value).oneCell'=true) <|
 At #[.nilFunc] 102 λu1=>
 AH (LkK .v Value.nilFunc (.int .i64) r1.1 (Vi q1) λv1 b49=>
 λ_=>((.tuple #[v1,(Vb b49)]):Value)=(.tuple #[t1,(Vb b46)])) <|
 AH (Li z 0 λx1=>
 λ_=>((Vi x1):Value)=(Vi q1)) <|
 St u1 t1 <|
 p1 ((some u1),b46,())) <|
 AY ((.nilFunc:Value).oneCell'=true) <|
 At #[.nilFunc] 102 λy1=>
 AH (Li z 0 λz1=>
 λ_=>((Vi z1):Value)=(Vi q1)) <|
 Cl Pg 30 [] false [.sc .m] λa2=>
 AH (Li z 0 λb2=>
 λ_=>((Vi b2):Value)=(Vi q1)) <|
 LkK .v Value.nilFunc (.int .i64) a2.1 (Vi q1) λc2 b56=>
 St y1 c2 <|
 p1 ((some y1),b56,())
theorem EO (a b c d e f g i j k l m n o p q r s t u v x){R w}(h:EH a b c d e f g i j k l m n o p q r s t u v x R w):Cl Pg 11 [(Vp a),(.agg (Ag b c d e f g i j k l m n o p q r s t u v x))] true Vv R w:=
 ce (s' (q' (.join [(6,.sc .p),(7,.sc .b)] l') (q' (q' (.join [(31,.sc .b)] l') (k' (s' l') l')) (s' l')))) Tryz.func11 h
open Go Go.Sx
def HB (a b:Sl)(R:TR [.sc .sl,.sc .sl,.sc (.i .i64)]->Pr):Pr:=
 Cl Pg 13 [(Vs a)] false [.sc (.i .i64)] λc=>
 Br ((c.1:Int) !=0) (
 R (⟨none,0,0⟩,⟨none,0,0⟩,c.1,())) (
 Cl Pg 21 [(Vs b)] false [.sc (.i .i64)] λd=>
 Br ((d.1:Int) !=0) (
 R (⟨none,0,0⟩,⟨none,0,0⟩,d.1,())) (
 App 111 2 32 (zc Pg 111) ⟨none,0,0⟩ a.len (BH a.p a.len 2) λe=>
 Lp (σ:=Sl×Sl×Int×Unit) (λf g=>
 Br (decide ((g.2.2.1:Int)<((b.len:Nat):Int))) (
 Ix b g.2.2.1 6 λi=>
 AN i λj k l m n o=>
 At Gx 81 λp=>
 Gh p j k l m n o <|
 AN p λq r s t u v=>
 Cl Pg 34 [(Vs g.1),(.agg (Ar q r s t u v))] true [.sc .sl,.ag [.b,.s,.sl]] λx=>
 At Nw 83 λy=>
 AgV y x.2.1.1 x.2.1.2.1 x.2.1.2.2.1 <|
 HX y λz a0 b0=>
 At (Aat z a0 b0) 83 λc0=>
 App 83 3 48 (zc Pg 83) g.2.1 1 (BH (some c0) 1 3) λd0=>
 f (x.1,d0,(An (g.2.2.1+1)),())) (
 R (g.1,g.2.1,0,()))) (e,⟨none,0,0⟩,0,())))
theorem JW (a b){R w}(h:HB a b R w):Cl Pg 12 [(Vs a),(Vs b)] true [.sc .sl,.sc .sl,.sc (.i .i64)] R w:=
 ce (s' (q' (s' (s' (k' (s' l') l'))) (q' (s' (s' (k' (s' l') l'))) (s' (s' (q' (s' (.block (.loop [(0,.sc .sl),(9,.sc .sl),(28,.sc (.i .i64))] (s' (q' (k' l' l') (q' (.block (s' (s' (s' l')))) l')))))) (s' l'))))))) Tryz.func12 h
def EZ (a:Sl)(R:TR [.sc (.i .i64)]->Pr):Pr:=
 Lp (σ:=Int×Int×Unit) (λb c=>
 Br (decide ((c.2.1:Int)<((a.len:Nat):Int))) (
 Ix a c.2.1 2 λd=>
 Ls d 0 λe=>
 Ls d 1 λf=>
 At #[(Vt (BA [])),(Vt (BA []))] 111 λg=>
 Tt g 0 e <|
 Tt g 1 f <|
 Ls g 0 λi=>
 Cl Pg 35 [(Vt i)] false [.sc (.i .i64)] λj=>
 Br ((j.1:Int) !=0) (
 R (20,())) (
 Ls g 1 λk=>
 Br (decide ((((k.size:Nat):Int):Int)>16)) (
 R (2,())) (
 Jp (σ:=Bool×Unit) (λl=>
 Br l.1 (
 R (1,())) (
 b (c.1,(An (c.2.1+1)),()))) λm=>
 Dr <|
 Br (decide ((c.2.1:Int)>0)) (
 Ix a (An (c.2.1-1)) 2 λn=>
 Ls n 0 λo=>
 Ls g 0 λp=>
 m ((!(slt o p)),())) (
 m (false,()))))) (
 R (0,()))) (0,0,())
theorem HD (a){R w}(h:EZ a R w):Cl Pg 13 [(Vs a)] false [.sc (.i .i64)] R w:=
 ce (s' (q' (s' (.block (.loop [(2,.sc (.i .i64)),(7,.sc (.i .i64))] (s' (q' (k' l' l') (q' (.block (s' (q' (s' (k' (s' l') l')) (q' (s' (k' (s' l') l')) (q' (.join [(32,.sc .b)] l') (k' (s' l') l')))))) l')))))) (s' l'))) Tryz.func13 h
def GV (a:Option Addr)(R:TR Ux->Pr):Pr:=
 At AQ 41 λb=>
 Nn a λc=>
 Az (c.add 0) λd e f g i j k l m n o p q r s t u=>
 Cl Pg 26 [(.agg (Al d e f g i j k l m n o p q r s t u))] false Ux λv=>
 Bf b v.1.1 v.1.2.1 v.1.2.2.1 v.1.2.2.2.1 v.1.2.2.2.2.1 v.1.2.2.2.2.2.1 v.1.2.2.2.2.2.2.1 v.1.2.2.2.2.2.2.2.1 v.1.2.2.2.2.2.2.2.2.1 v.1.2.2.2.2.2.2.2.2.2.1 v.1.2.2.2.2.2.2.2.2.2.2.1 v.1.2.2.2.2.2.2.2.2.2.2.2.1 v.1.2.2.2.2.2.2.2.2.2.2.2.2.1 v.1.2.2.2.2.2.2.2.2.2.2.2.2.2.1 v.1.2.2.2.2.2.2.2.2.2.2.2.2.2.2.1 v.1.2.2.2.2.2.2.2.2.2.2.2.2.2.2.2.1 v.1.2.2.2.2.2.2.2.2.2.2.2.2.2.2.2.2.1 <|
 Az b λx y z a0 b0 c0 d0 e0 f0 g0 i0 j0 k0 l0 m0 n0 o0=>
 R ((x,y,z,a0,b0,c0,d0,e0,f0,g0,i0,j0,k0,l0,m0,n0,o0,()),())
theorem Kh (a){R w}(h:GV a R w):Cl Pg 14 [(Vp a)] false Ux R w:=
 ce (s' (s' l')) Tryz.func14 h
def HE (a:Option Addr)(R:TR [.sc .sl]->Pr):Pr:=
 Nn a λb=>
 Ll b 17 λc=>
 Lp (σ:=Sl×Int×Unit) (λd e=>
 Br (decide ((e.2.1:Int)<((c.len:Nat):Int))) (
 Ix c e.2.1 4 λf=>
 Ah5 f λg i j k=>
 At Ahz 114 λl=>
 Aho l g i j k <|
 Lu l 0 λm=>
 At #[(Vu m)] 32 λn=>
 App 32 1 8 (zc Pg 32) e.1 1 (BH (some n) 1 1) λo=>
 d (o,(An (e.2.1+1)),())) (
 R (e.1,()))) (⟨none,0,0⟩,0,())
theorem JF (a){R w}(h:HE a R w):Cl Pg 16 [(Vp a)] false [.sc .sl] R w:=
 ce (s' (s' (q' (s' (.block (.loop [(3,.sc .sl),(11,.sc (.i .i64))] (s' (q' (k' l' l') (q' (.block (s' l')) l')))))) (s' l')))) Tryz.func16 h
def It (a:Option Addr)(R:TR Vv->Pr):Pr:=
 At #[(Vp a)] 28 λb=>
 At LW 52 λc=>
 Di b λd=>
 Cl Pg 32 [(Vp d),(.func (.func 36) #[] #[(Vp (some b))])] true Vv λe=>
 KV c e.1.1 e.1.2.1 e.1.2.2.1 <|
 SL c λf g i=>
 R ((f,g,i,()),e.2.1,())
theorem KK (a){R w}(h:It a R w):Cl Pg 18 [(Vp a)] true Vv R w:=
 ce (s' (s' l')) Tryz.func18 h
def Gr (a:Sl)(b c:ByteArray)(d:Int)(R:TR [.sc .sl]->Pr):Pr:=
 At #[(Vt b),(Vt c)] 37 λe=>
 Lp (σ:=Sl×Int×Unit) (λf g=>
 Br (decide ((g.2.1:Int)<((a.len:Nat):Int))) (
 Jp (σ:=Sl×Unit) (λi=>
 f (i.1,(An (g.2.1+1)),())) λj=>
 Ix a g.2.1 2 λk=>
 Ls k 0 λl=>
 Ls k 1 λm=>
 At #[(Vt (BA [])),(Vt (BA []))] 111 λn=>
 Tt n 0 l <|
 Tt n 1 m <|
 Jp (σ:=Bool×Unit) (λo=>
 Br o.1 (
 Ls n 0 λp=>
 Ls n 1 λq=>
 At #[(Vt p),(Vt q)] 111 λr=>
 App 111 2 32 (zc Pg 111) g.1 1 (BH (some r) 1 2) λs=>
 j (s,())) (
 j (g.1,()))) λt=>
 Ls e 0 λu=>
 Ls e 1 λv=>
 Ls n 0 λx=>
 Cl Pg 42 [(.agg #[(Vt u),(Vt v)]),(Vt x)] false [.sc .b] λy=>
 Br y.1 (
 Br (decide ((d:Int)<0)) (
 t (true,())) (
 t ((decide ((((g.1.len:Nat):Int):Int)<d)),()))) (
 t (false,()))) (
 R (g.1,()))) (⟨none,0,0⟩,0,())
theorem IM (a b c d){R w}(h:Gr a b c d R w):Cl Pg 20 [(Vs a),(.agg #[(Vt b),(Vt c)]),(Vi d)] false [.sc .sl] R w:=
 ce (s' (s' (q' (s' (.block (.loop [(7,.sc .sl),(12,.sc (.i .i64))] (s' (q' (k' l' l') (q' (.join [(7,.sc .sl)] (.block (s' (q' (.join [(29,.sc .b)] l') (k' l' l'))))) l')))))) (s' l')))) Tryz.func20 h
def Kb (a:Sl)(R:TR [.sc (.i .i64)]->Pr):Pr:=
 Lp (σ:=Int×Int×Unit) (λb c=>
 Br (decide ((c.2.1:Int)<((a.len:Nat):Int))) (
 Ix a c.2.1 6 λd=>
 AN d λe f g i j k=>
 At Gx 81 λl=>
 Gh l e f g i j k <|
 AN l λm n o p q r=>
 Cl Pg 43 [(.agg (Ar m n o p q r))] false [.sc (.i .i64)] λs=>
 Br ((s.1:Int) !=0) (
 R (s.1,())) (
 b (c.1,(An (c.2.1+1)),()))) (
 R (0,()))) (0,0,())
theorem LU (a){R w}(h:Kb a R w):Cl Pg 21 [(Vs a)] false [.sc (.i .i64)] R w:=
 ce (s' (q' (s' (.block (.loop [(2,.sc (.i .i64)),(8,.sc (.i .i64))] (s' (q' (k' l' l') (q' (.block (s' (s' (s' (k' (s' l') l'))))) l')))))) (s' l'))) Tryz.func21 h
def NT (a b c d e f:Option Addr)(g i:Sl)(R:TR [.sc .b,.sc .b]->Pr):Pr:=
 At (Ap3 a b c) 73 λj=>
 At (Ap3 d e f) 72 λk=>
 Lp (σ:=Sl×Bool×Bool×Int×Unit) (λl m=>
 Jp (σ:=Bool×Unit) (λn=>
 Br n.1 (
 Ix m.1 0 21 λo=>
 Bn o λp q r s t u v x y z a0 b0 c0 d0 e0 f0 g0 i0 j0 k0 l0=>
 At KW 47 λm0=>
 UO m0 p q r s t u v x y z a0 b0 c0 d0 e0 f0 g0 i0 j0 k0 l0 <|
 AY ((0:Int)<=1/\1<=((m.1.len:Nat):Int)) <|
 Jp (σ:=Bool×Unit) (λn0=>
 Jp (σ:=Bool×Unit) (λo0=>
 Jp (σ:=Bool×Unit) (λp0=>
 Br p0.1 (
 l (⟨(A7 m.1.p m.1.cap (Int.toNat 1) 21),(m.1.len-(Int.toNat 1)),(m.1.cap-(Int.toNat 1))⟩,n0.1,m.2.2.1,(An (m.2.2.2.1+1)),())) (
 Jp (σ:=Option Addr×Int×Unit) (λq0=>
 Br ((q0.2.1:Int) !=0) (
 R (false,false,())) (
 Dr <|
 Li m0 2 λr0=>
 IxR k 3 r0 1 λs0=>
 Di s0 λt0=>
 Li m0 2 λu0=>
 IxR k 3 u0 1 λv0=>
 Di v0 λx0=>
 Nn x0 λy0=>
 Ll y0 0 λz0=>
 Nn q0.1 λa1=>
 Ll a1 1 λb1=>
 Cl Pg 12 [(Vs z0),(Vs b1)] true [.sc .sl,.sc .sl,.sc (.i .i64)] λc1=>
 AH (Di s0 λd1=>
 λ_=>((Vp d1):Value)=(Vp t0)) <|
 AH (Li m0 2 λe1=>
 λ_=>((Vi e1):Value)=(Vi r0)) <|
 Nn t0 λf1=>
 Ts f1 0 c1.1 <|
 Nn q0.1 λg1=>
 Ll g1 0 λi1=>
 App 47 21 232 (zc Pg 47) ⟨(A7 m.1.p m.1.cap (Int.toNat 1) 21),(m.1.len-(Int.toNat 1)),(m.1.cap-(Int.toNat 1))⟩ i1.len (BH i1.p i1.len 21) λj1=>
 l (j1,n0.1,m.2.2.1,(An (m.2.2.2.1+1)),()))) λk1=>
 Dr <|
 Li m0 2 λl1=>
 IxR j 3 l1 1 λm1=>
 Di m1 λn1=>
 Bn m0 λo1 p1 q1 r1 s1 t1 u1 v1 x1 y1 z1 a2 b2 c2 d2 e2 f2 g2 i2 j2 k2=>
 AH (
 Cl Pg 11 [(Vp n1),(.agg (Ag o1 p1 q1 r1 s1 t1 u1 v1 x1 y1 z1 a2 b2 c2 d2 e2 f2 g2 i2 j2 k2))] true Vv λl2=>
 At LW 52 λm2=>
 AH (Li m0 0 λn2=>
 Li m0 1 λo2=>
 Li m0 2 λp2=>
 Li m0 3 λq2=>
 Li m0 4 λr2=>
 Li m0 5 λs2=>
 Lu m0 6 λt2=>
 Lu m0 7 λu2=>
 Lu m0 8 λv2=>
 Lu m0 9 λx2=>
 Lu m0 10 λy2=>
 Lu m0 11 λz2=>
 Lu m0 12 λa3=>
 Lu m0 13 λb3=>
 Lu m0 14 λc3=>
 Lb m0 15 λd3=>
 Ls m0 16 λe3=>
 Ls m0 17 λf3=>
 Ll m0 18 λg3=>
 Ll m0 19 λi3=>
 Ll m0 20 λj3=>
 λ_=>((.agg (Ag n2 o2 p2 q2 r2 s2 t2 u2 v2 x2 y2 z2 a3 b3 c3 d3 e3 f3 g3 i3 j3)):Value)=(.agg (Ag o1 p1 q1 r1 s1 t1 u1 v1 x1 y1 z1 a2 b2 c2 d2 e2 f2 g2 i2 j2 k2))) <|
 AH (Di m1 λk3=>
 λ_=>((Vp k3):Value)=(Vp n1)) <|
 AH (Li m0 2 λl3=>
 λ_=>((Vi l3):Value)=(Vi l1)) <|
 KV m2 l2.1.1 l2.1.2.1 l2.1.2.2.1 <|
 k1 ((some m2),l2.2.1,())) <|
 At LW 52 λm3=>
 AH (Li m0 0 λn3=>
 Li m0 1 λo3=>
 Li m0 2 λp3=>
 Li m0 3 λq3=>
 Li m0 4 λr3=>
 Li m0 5 λs3=>
 Lu m0 6 λt3=>
 Lu m0 7 λu3=>
 Lu m0 8 λv3=>
 Lu m0 9 λx3=>
 Lu m0 10 λy3=>
 Lu m0 11 λz3=>
 Lu m0 12 λa4=>
 Lu m0 13 λb4=>
 Lu m0 14 λc4=>
 Lb m0 15 λd4=>
 Ls m0 16 λe4=>
 Ls m0 17 λf4=>
 Ll m0 18 λg4=>
 Ll m0 19 λi4=>
 Ll m0 20 λj4=>
 λ_=>((.agg (Ag n3 o3 p3 q3 r3 s3 t3 u3 v3 x3 y3 z3 a4 b4 c4 d4 e4 f4 g4 i4 j4)):Value)=(.agg (Ag o1 p1 q1 r1 s1 t1 u1 v1 x1 y1 z1 a2 b2 c2 d2 e2 f2 g2 i2 j2 k2))) <|
 AH (Di m1 λk4=>
 λ_=>((Vp k4):Value)=(Vp n1)) <|
 AH (Li m0 2 λl4=>
 λ_=>((Vi l4):Value)=(Vi l1)) <|
 Cl Pg 11 [(Vp n1),(.agg (Ag o1 p1 q1 r1 s1 t1 u1 v1 x1 y1 z1 a2 b2 c2 d2 e2 f2 g2 i2 j2 k2))] true Vv λm4=>
 KV m3 m4.1.1 m4.1.2.1 m4.1.2.2.1 <|
 k1 ((some m3),m4.2.1,()))) λn4=>
 Li m0 2 λo4=>
 Br ((o4:Int) !=1) (
 Li m0 2 λp4=>
 Br ((p4:Int) !=2) (
 n4 (true,())) (
 Br o0.1 (
 Br (decide ((((i.len:Nat):Int):Int)>0)) (
 AY (((i.len:Nat):Int)≠(0:Int)) <|
 Ix i ((An (m.2.2.2.1+1)).tmod ((i.len:Nat):Int)) 1 λq4=>
 E7 q4 λr4=>
 n4 (r4,())) (
 n4 (false,()))) (
 n4 (false,())))) (
 Br o0.1 (
 Br (decide ((((i.len:Nat):Int):Int)>0)) (
 AY (((i.len:Nat):Int)≠(0:Int)) <|
 Ix i ((An (m.2.2.2.1+1)).tmod ((i.len:Nat):Int)) 1 λs4=>
 E7 s4 λt4=>
 n4 (t4,())) (
 n4 (false,()))) (
 n4 (false,())))) λu4=>
 Li m0 0 λv4=>
 Br ((v4:Int)==11) (
 u4 (true,())) (
 Li m0 0 λx4=>
 u4 (((x4:Int)==12),()))) λy4=>
 Br m.2.1 (
 y4 (true,())) (
 Li m0 0 λz4=>
 y4 (((z4:Int)==14),()))) (
 R (m.2.1,(decide ((m.2.2.2.1:Int)<500)),()))) λa5=>
 Br (decide ((((m.1.len:Nat):Int):Int)>0)) (
 a5 ((decide ((m.2.2.2.1:Int)<500)),())) (
 a5 (false,()))) (g,false,false,0,())
theorem XO (a b c d e f g i){R w}(h:NT a b c d e f g i R w):Cl Pg 22 [(.agg (Ap3 a b c)),(.agg (Ap3 d e f)),(Vs g),(Vs i)] true [.sc .b,.sc .b] R w:=
 ce (s' (s' (q' (.block (.loop [(2,.sc .sl),(8,.sc .b),(9,.sc .b),(10,.sc (.i .i64))] (q' (q' (.join [(21,.sc .b)] l') (k' l' l')) (.block (s' (s' (s' (q' (.join [(8,.sc .b)] l') (q' (.join [(12,.sc .b)] l') (q' (q' (.join [(67,.sc .b)] l') (k' l' l')) (q' (.join [(13,.sc .p),(14,.sc (.i .i64))] l') (q' (s' (k' (s' l') l')) (s' l'))))))))))))) (s' l')))) Tryz.func22 h
def JK (a b:Sl)(R:TR [.sc .b]->Pr):Pr:=
 Br ((((a.len:Nat):Int):Int) !=((b.len:Nat):Int)) (
 R (false,())) (
 Lp (σ:=Bool×Int×Unit) (λc d=>
 Br (decide ((d.2.1:Int)<((a.len:Nat):Int))) (
 Dr <|
 Ix a d.2.1 2 λe=>
 Ls e 0 λf=>
 Ls e 1 λg=>
 Ix b d.2.1 2 λi=>
 Ls i 0 λj=>
 Ls i 1 λk=>
 Br (!((seq f j)&&((seq g k)&&true))) (
 R (false,())) (
 c (d.1,(An (d.2.1+1)),()))) (
 R (true,()))) (false,0,()))
theorem KX (a b){R w}(h:JK a b R w):Cl Pg 23 [(Vs a),(Vs b)] false [.sc .b] R w:=
 ce (s' (q' (s' (k' (s' l') l')) (q' (s' (.block (.loop [(4,.sc .b),(13,.sc (.i .i64))] (s' (q' (k' l' l') (q' (.block (s' (s' (k' (s' l') l')))) l')))))) (s' l')))) Tryz.func23 h
def Ij (a b:Int)(c d e f:ByteArray)(g:Int)(R:TR K2'->Pr):Pr:=
 At (Ar b c d e f g) 81 λi=>
 At KW 47 λj=>
 AN i λk l m n o p=>
 At (Ar k l m n o p) 81 λq=>
 Aft j 3 0 1 0 0 0 0 0 a 0 0 1 0 0 0 false <|
 St (j.add 16) (Vt (BA [])) <|
 St (j.add 17) (Vt (BA [])) <|
 St (j.add 18) (.slice (some q) 1 1) <|
 St (j.add 19) (.slice none 0 0) <|
 St (j.add 20) (.slice none 0 0) <|
 Bn j λr s t u v x y z a0 b0 c0 d0 e0 f0 g0 i0 j0 k0 l0 m0 n0=>
 R ((r,s,t,u,v,x,y,z,a0,b0,c0,d0,e0,f0,g0,i0,j0,k0,l0,m0,n0,()),())
theorem KU (a b c d e f g){R w}(h:Ij a b c d e f g R w):Cl Pg 24 [(Vu a),(.agg (Ar b c d e f g))] false K2' R w:=
 ce (s' (s' l')) Tryz.func24 h
def IC (a b c d e:Int)(f g i:Sl)(j k:Int)(l m:ByteArray)(n o p:Int)(q r:ByteArray)(R:TR [.sc (.i .i64)]->Pr):Pr:=
 At (Al a b c d e f g i j k l m n o p q r) 41 λs=>
 Jp (σ:=Bool×Unit) (λt=>
 Br t.1 (
 R (1,())) (
 Lu (s.add 12) 0 λu=>
 Br ((u:Int) !=0) (
 Lu s 9 λv=>
 Br ((v:Int) !=0) (
 Ll s 6 λx=>
 Cl Pg 52 [(Vs x),(.func (.func 46) #[] #[(Vp (some s))])] false [.sc .b] λy=>
 Br (!y.1) (
 Ll s 6 λz=>
 Cl Pg 53 [(Vs z),(.func (.func 54) #[] #[])] false [.sc .b] λa0=>
 Br a0.1 (
 Ll s 7 λb0=>
 Cl Pg 55 [(Vs b0),(.func (.func 56) #[] #[])] false [.sc .b] λc0=>
 Cl Pg 51 [(Vb c0.1)] false [.sc (.i .i64)] λd0=>
 R (d0.1,())) (
 Cl Pg 51 [(Vb false)] false [.sc (.i .i64)] λe0=>
 R (e0.1,()))) (
 Cl Pg 51 [(Vb false)] false [.sc (.i .i64)] λf0=>
 R (f0.1,()))) (
 Ls (s.add 10) 0 λg0=>
 Ls (s.add 10) 1 λi0=>
 Br ((seq g0 (BA []))&&((seq i0 (BA []))&&true)) (
 Ll s 6 λj0=>
 Cl Pg 52 [(Vs j0),(.func (.func 46) #[] #[(Vp (some s))])] false [.sc .b] λk0=>
 Br (!k0.1) (
 Ll s 6 λl0=>
 Cl Pg 53 [(Vs l0),(.func (.func 54) #[] #[])] false [.sc .b] λm0=>
 Br m0.1 (
 Ll s 7 λn0=>
 Cl Pg 55 [(Vs n0),(.func (.func 56) #[] #[])] false [.sc .b] λo0=>
 Cl Pg 51 [(Vb o0.1)] false [.sc (.i .i64)] λp0=>
 R (p0.1,())) (
 Cl Pg 51 [(Vb false)] false [.sc (.i .i64)] λq0=>
 R (q0.1,()))) (
 Cl Pg 51 [(Vb false)] false [.sc (.i .i64)] λr0=>
 R (r0.1,()))) (
 Cl Pg 51 [(Vb false)] false [.sc (.i .i64)] λs0=>
 R (s0.1,())))) (
 Ah0 (s.add 12) λt0 u0 v0 x0 y0=>
 Br (((t0:Int)==0)&&(((u0:Int)==0)&&(((v0:Int)==0)&&(((seq x0 (BA []))&&((seq y0 (BA []))&&true))&&true)))) (
 Lu s 9 λz0=>
 Br ((z0:Int) !=0) (
 Ll s 6 λa1=>
 Cl Pg 52 [(Vs a1),(.func (.func 46) #[] #[(Vp (some s))])] false [.sc .b] λb1=>
 Br (!b1.1) (
 Ll s 6 λc1=>
 Cl Pg 53 [(Vs c1),(.func (.func 54) #[] #[])] false [.sc .b] λd1=>
 Br d1.1 (
 Ll s 7 λe1=>
 Cl Pg 55 [(Vs e1),(.func (.func 56) #[] #[])] false [.sc .b] λf1=>
 Cl Pg 51 [(Vb f1.1)] false [.sc (.i .i64)] λg1=>
 R (g1.1,())) (
 Cl Pg 51 [(Vb false)] false [.sc (.i .i64)] λi1=>
 R (i1.1,()))) (
 Cl Pg 51 [(Vb false)] false [.sc (.i .i64)] λj1=>
 R (j1.1,()))) (
 Ls (s.add 10) 0 λk1=>
 Ls (s.add 10) 1 λl1=>
 Br ((seq k1 (BA []))&&((seq l1 (BA []))&&true)) (
 Ll s 6 λm1=>
 Cl Pg 52 [(Vs m1),(.func (.func 46) #[] #[(Vp (some s))])] false [.sc .b] λn1=>
 Br (!n1.1) (
 Ll s 6 λo1=>
 Cl Pg 53 [(Vs o1),(.func (.func 54) #[] #[])] false [.sc .b] λp1=>
 Br p1.1 (
 Ll s 7 λq1=>
 Cl Pg 55 [(Vs q1),(.func (.func 56) #[] #[])] false [.sc .b] λr1=>
 Cl Pg 51 [(Vb r1.1)] false [.sc (.i .i64)] λs1=>
 R (s1.1,())) (
 Cl Pg 51 [(Vb false)] false [.sc (.i .i64)] λt1=>
 R (t1.1,()))) (
 Cl Pg 51 [(Vb false)] false [.sc (.i .i64)] λu1=>
 R (u1.1,()))) (
 Cl Pg 51 [(Vb false)] false [.sc (.i .i64)] λv1=>
 R (v1.1,())))) (
 Cl Pg 51 [(Vb false)] false [.sc (.i .i64)] λx1=>
 R (x1.1,()))))) λy1=>
 Li s 0 λz1=>
 Br (decide ((z1:Int)<1)) (
 y1 (true,())) (
 Li s 0 λa2=>
 Br (decide ((a2:Int)>4)) (
 y1 (true,())) (
 Ll s 5 λb2=>
 Cl Pg 44 [(Vs b2)] false [.sc (.i .i64)] λc2=>
 Br ((c2.1:Int) !=0) (
 y1 (true,())) (
 Ll s 6 λd2=>
 Br (decide ((((d2.len:Nat):Int):Int)>6)) (
 y1 (true,())) (
 Ll s 6 λe2=>
 Ll s 7 λf2=>
 Br (decide (((An (((e2.len:Nat):Int)+((f2.len:Nat):Int))):Int)>64)) (
 y1 (true,())) (
 BU (((s.add 12).add 3).add 0) λg2=>
 BU (((s.add 12).add 3).add 1) λi2=>
 Cl Pg 45 [(.agg #[(Vt g2),(Vt i2)])] false [.sc (.i .i64)] λj2=>
 Br ((j2.1:Int) !=0) (
 y1 (true,())) (
 Ls (s.add 10) 0 λk2=>
 Ls (s.add 10) 1 λl2=>
 Cl Pg 45 [(.agg #[(Vt k2),(Vt l2)])] false [.sc (.i .i64)] λm2=>
 y1 (((m2.1:Int) !=0),())))))))
theorem KA (a b c d e f g i j k l m n o p q r){R w}(h:IC a b c d e f g i j k l m n o p q r R w):Cl Pg 25 [(.agg (Al a b c d e f g i j k l m n o p q r))] false [.sc (.i .i64)] R w:=
 ce (s' (q' (q' (.join [(46,.sc .b)] l') (k' (s' l') l')) (s' (s' l')))) Tryz.func25 h
def Sf (a b c d e:Int)(f g i:Sl)(j k:Int)(l m:ByteArray)(n o p:Int)(q r:ByteArray)(R:TR Ux->Pr):Pr:=
 At (Al a b c d e f g i j k l m n o p q r) 41 λs=>
 At AQ 41 λt=>
 Dr <|
 Ll s 5 λu=>
 Ll s 6 λv=>
 Ll s 7 λx=>
 Cl Pg 57 [(Vs u)] false [.sc .sl] λy=>
 AH (Ll s 7 λz=>
 λ_=>((Vs z):Value)=(Vs x)) <|
 AH (Ll s 6 λa0=>
 λ_=>((Vs a0):Value)=(Vs v)) <|
 Cl Pg 58 [(Vs v)] false [.sc .sl] λb0=>
 AH (Ll s 7 λc0=>
 λ_=>((Vs c0):Value)=(Vs x)) <|
 Cl Pg 59 [(Vs x)] false [.sc .sl] λd0=>
 Ts s 5 y.1 <|
 Ts s 6 b0.1 <|
 Ts s 7 d0.1 <|
 Ll s 6 λe0=>
 Lp (σ:=Int×Unit) (λf0 g0=>
 Br (decide ((g0.1:Int)<((e0.len:Nat):Int))) (
 Ix e0 g0.1 2 λi0=>
 Lu i0 0 λj0=>
 Ll i0 1 λk0=>
 At #[(Vu 0),(.slice none 0 0)] 60 λl0=>
 Tu l0 0 j0 <|
 Ts l0 1 k0 <|
 Dr <|
 Ll s 6 λm0=>
 Ll l0 1 λn0=>
 Cl Pg 60 [(Vs n0)] false [.sc .sl] λo0=>
 AH (Ll s 6 λp0=>
 λ_=>((Vs p0):Value)=(Vs m0)) <|
 Ix m0 g0.1 2 λq0=>
 Ts q0 1 o0.1 <|
 f0 ((An (g0.1+1)),())) (
 Az s λr0 s0 t0 u0 v0 x0 y0 z0 a1 b1 c1 d1 e1 f1 g1 i1 j1=>
 Bf t r0 s0 t0 u0 v0 x0 y0 z0 a1 b1 c1 d1 e1 f1 g1 i1 j1 <|
 Az t λk1 l1 m1 n1 o1 p1 q1 r1 s1 t1 u1 v1 x1 y1 z1 a2 b2=>
 R ((k1,l1,m1,n1,o1,p1,q1,r1,s1,t1,u1,v1,x1,y1,z1,a2,b2,()),()))) (0,())
theorem QK (a b c d e f g i j k l m n o p q r){R w}(h:Sf a b c d e f g i j k l m n o p q r R w):Cl Pg 26 [(.agg (Al a b c d e f g i j k l m n o p q r))] false Ux R w:=
 ce (s' (s' (q' (s' (.block (.loop [(20,.sc (.i .i64))] (s' (q' (k' l' l') (q' (.block (s' l')) l')))))) (s' l')))) Tryz.func26 h
def Wr (R:TR [.sc .p]->Pr):Pr:=
 At #[(.slice none 0 0),(.slice none 0 0)] 141 λa=>
 R ((some a),())
theorem V3 {R w}(h:Wr  R w):Cl Pg 27 [] false [.sc .p] R w:=
 ce (s' (s' l')) Tryz.func27 h
def ZK (a:Sl)(R:TR [.sc .sl,.sc (.i .i64)]->Pr):Pr:=
 Lp (σ:=Sl×Int×Sl×Int×Unit) (λb c=>
 Br (decide ((c.2.2.2.1:Int)<((a.len:Nat):Int))) (
 Ix a c.2.2.2.1 6 λd=>
 AN d λe f g i j k=>
 At Gx 81 λl=>
 Gh l e f g i j k <|
 AN l λm n o p q r=>
 Cl Pg 61 [(.agg (Ar m n o p q r))] true N6 λs=>
 At #[(Vt (BA [])),(Vt (BA []))] 37 λt=>
 Tt t 0 s.1.1 <|
 Tt t 1 s.1.2.1 <|
 Br ((s.2.1:Int) !=0) (
 R (⟨none,0,0⟩,s.2.1,())) (
 Dr <|
 Ls t 0 λu=>
 Ls t 1 λv=>
 AN l λx y z a0 b0 c0=>
 Cl Pg 62 [(.agg (Ar x y z a0 b0 c0))] false [.sc .b] λd0=>
 AH (Ls t 0 λe0=>
 Ls t 1 λf0=>
 λ_=>((.agg #[(Vt e0),(Vt f0)]):Value)=(.agg #[(Vt u),(Vt v)])) <|
 At (SG u v d0.1) 99 λg0=>
 App 99 3 40 (zc Pg 99) c.2.2.1 1 (BH (some g0) 1 3) λi0=>
 b (c.1,c.2.1,i0,(An (c.2.2.2.1+1)),()))) (
 R (c.2.2.1,0,()))) (⟨none,0,0⟩,0,⟨none,0,0⟩,0,())
theorem VC (a){R w}(h:ZK a R w):Cl Pg 28 [(Vs a)] true [.sc .sl,.sc (.i .i64)] R w:=
 ce (s' (s' (q' (s' (.block (.loop [(2,.sc .sl),(3,.sc (.i .i64)),(4,.sc .sl),(11,.sc (.i .i64))] (s' (q' (k' l' l') (q' (.block (s' (s' (q' (s' (k' (s' l') l')) l')))) l')))))) (s' l')))) Tryz.func28 h
def L9 (a:Option Addr)(b:Int)(c d:ByteArray)(e:Bool)(R:TR [.sc (.i .i64),.sc .sl,.sc .sl,.sc (.i .i64)]->Pr):Pr:=
 At (SG c d e) 99 λf=>
 Ls (f.add 0) 0 λg=>
 Ls (f.add 0) 1 λi=>
 Cl Pg 45 [(.agg #[(Vt g),(Vt i)])] false [.sc (.i .i64)] λj=>
 Br ((j.1:Int) !=0) (
 R (0,⟨none,0,0⟩,⟨none,0,0⟩,21,())) (
 Dr <|
 Nn a λk=>
 Ll k 1 λl=>
 Cl Pg 64 [(Vu b)] false [.sc .v] λm=>
 AH (Ll k 1 λn=>
 λ_=>((Vs n):Value)=(Vs l)) <|
 Cl Pg 63 [(Vs l),m.1] false [.sc .b] λo=>
 Br o.1 (
 R (0,⟨none,0,0⟩,⟨none,0,0⟩,4,())) (
 UC f λp q r=>
 At Vm 146 λs=>
 UY s b p q r <|
 Nn a λt=>
 Ll t 0 λu=>
 Lp (σ:=Int×Sl×Sl×Int×Int×Bool×Int×Unit) (λv x=>
 Br (decide ((x.2.2.2.2.2.2.1:Int)<((u.len:Nat):Int))) (
 Jp (σ:=Int×Sl×Sl×Int×Int×Bool×Unit) (λy=>
 v (y.1,y.2.1,y.2.2.1,y.2.2.2.1,y.2.2.2.2.1,y.2.2.2.2.2.1,(An (x.2.2.2.2.2.2.1+1)),())) λz=>
 Ix u x.2.2.2.2.2.2.1 4 λa0=>
 Gs a0 λb0 c0 d0 e0=>
 At Vm 146 λf0=>
 UY f0 b0 c0 d0 e0 <|
 Jp (σ:=Bool×Unit) (λg0=>
 Br g0.1 (
 R (1,⟨none,0,0⟩,⟨none,0,0⟩,0,())) (
 Dr <|
 Gs s λi0 j0 k0 l0=>
 Gs f0 λm0 n0 o0 p0=>
 Cl Pg 66 [(.agg (Cg i0 j0 k0 l0))] false [.sc .v] λq0=>
 AH (Lu f0 0 λr0=>
 Ls f0 1 λs0=>
 Ls f0 2 λt0=>
 Lb f0 3 λu0=>
 λ_=>((.agg (Cg r0 s0 t0 u0)):Value)=(.agg (Cg m0 n0 o0 p0))) <|
 AB Pg q0.1 [(.agg (Cg m0 n0 o0 p0))] false [.sc .b] λv0=>
 Br v0.1 (
 Br x.2.2.2.2.2.1 (
 Lu f0 0 λx0=>
 z (x.1,x.2.1,x.2.2.1,x.2.2.2.1,(An (x.2.2.2.2.1+1)),(decide ((x0:Int)>b)),())) (
 z (x.1,x.2.1,x.2.2.1,x.2.2.2.1,(An (x.2.2.2.2.1+1)),false,()))) (
 z (x.1,x.2.1,x.2.2.1,x.2.2.2.1,x.2.2.2.2.1,x.2.2.2.2.2.1,())))) λy0=>
 Lu f0 0 λz0=>
 Br ((z0:Int)==b) (
 BU (((f0.add 1).add 0).add 0) λa1=>
 BU (((f0.add 1).add 0).add 1) λb1=>
 Ls (f.add 0) 0 λc1=>
 Ls (f.add 0) 1 λd1=>
 Cl Pg 65 [(.agg #[(Vt a1),(Vt b1)]),(.agg #[(Vt c1),(Vt d1)])] false [.sc .b] λe1=>
 Br e1.1 (
 Lb (f0.add 1) 2 λf1=>
 Br f1 (
 y0 (true,())) (
 Lb f 2 λg1=>
 y0 ((!g1),()))) (
 y0 (false,()))) (
 y0 (false,()))) (
 Dr <|
 Nn a λi1=>
 Ll i1 0 λj1=>
 Nn a λk1=>
 Ll k1 1 λl1=>
 Br (decide (((An (((j1.len:Nat):Int)+((l1.len:Nat):Int))):Int)>=192)) (
 R (3,⟨none,0,0⟩,⟨none,0,0⟩,0,())) (
 Br ((x.2.2.2.2.1:Int)==0) (
 Gs s λm1 n1 o1 p1=>
 Cl Pg 68 [(Vp a),(.agg (Cg m1 n1 o1 p1))] false [.sc .sl] λq1=>
 Cl Pg 67 [(Vp a),(Vs q1.1)] true [.sc .sl,.sc .sl] λr1=>
 R (1,r1.1,r1.2.1,0,())) (
 Br x.2.2.2.2.2.1 (
 Nn a λs1=>
 Ll s1 1 λt1=>
 Cl Pg 69 [(Vs t1),(Vu b),(.func (.func 70) #[] #[])] true [.sc (.i .i64),.sc .b] λu1=>
 Dr <|
 Nn a λv1=>
 Ll v1 1 λx1=>
 Gs s λy1 z1 a2 b2=>
 At (Cg y1 z1 a2 b2) 146 λc2=>
 AH (Ll v1 1 λd2=>
 λ_=>((Vs d2):Value)=(Vs x1)) <|
 Cl Pg 72 [(Vs x1),(Vi u1.1),(.slice (some c2) 1 1)] false [.sc .sl] λe2=>
 Nn a λf2=>
 Ts f2 1 e2.1 <|
 R (2,⟨none,0,0⟩,⟨none,0,0⟩,0,())) (
 R (3,⟨none,0,0⟩,⟨none,0,0⟩,0,())))))) (0,⟨none,0,0⟩,⟨none,0,0⟩,0,0,true,0,())))
theorem MX (a b c d e){R w}(h:L9 a b c d e R w):Cl Pg 29 [(Vp a),(Vu b),(.agg (SG c d e))] true [.sc (.i .i64),.sc .sl,.sc .sl,.sc (.i .i64)] R w:=
 ce (s' (q' (s' (k' (s' l') l')) (q' (s' (k' (s' l') l')) (s' (s' (q' (s' (.block (.loop [(6,.sc (.i .i64)),(7,.sc .sl),(8,.sc .sl),(9,.sc (.i .i64)),(11,.sc (.i .i64)),(12,.sc .b),(36,.sc (.i .i64))] (s' (q' (k' l' l') (q' (.join [(6,.sc (.i .i64)),(7,.sc .sl),(8,.sc .sl),(9,.sc (.i .i64)),(11,.sc (.i .i64)),(12,.sc .b)] (.block (s' (q' (q' (.join [(61,.sc .b)] l') (k' (s' l') l')) (s' (k' (s' l') l')))))) l')))))) (q' (.block (s' (k' (s' l') (s' (k' (s' (s' l')) (s' (k' (s' (s' (s' l'))) l'))))))) (s' l')))))))) Tryz.func29 h
def Ui (R:TR [.sc .m]->Pr):Pr:=
 O1 (.map #[] 0) λm1=>
 CI (.int .i64) (some m1) (Vi 3) (.func (.func 73) #[] #[]) <|
 CI (.int .i64) (some m1) (Vi 5) (.func (.func 74) #[] #[]) <|
 CI (.int .i64) (some m1) (Vi 8) (.func (.func 75) #[] #[]) <|
 CI (.int .i64) (some m1) (Vi 10) (.func (.func 76) #[] #[]) <|
 CI (.int .i64) (some m1) (Vi 11) (.func (.func 77) #[] #[]) <|
 CI (.int .i64) (some m1) (Vi 12) (.func (.func 78) #[] #[]) <|
 R ((some m1),())
theorem SE {R w}(h:Ui  R w):Cl Pg 30 [] false [.sc .m] R w:=
 ce (s' (s' l')) Tryz.func30 h
def OI (a b c d e f g i j k l m n o p:Int)(q:Bool)(r s:ByteArray)(t u v:Sl)(R:TR [.sc (.i .i64)]->Pr):Pr:=
 At (Ag a b c d e f g i j k l m n o p q r s t u v) 47 λx=>
 Li x 0 λy=>
 Cl Pg 79 [(Vi y)] true K4' λz=>
 At #[(Vt (BA [])),.nilFunc,.nilFunc,.nilFunc] 162 λa0=>
 Tt a0 0 z.1.1 <|
 St (a0.add 1) z.1.2.1 <|
 St (a0.add 2) z.1.2.2.1 <|
 St (a0.add 3) z.1.2.2.2.1 <|
 Jp (σ:=Bool×Unit) (λb0=>
 Br b0.1 (
 R (180,())) (
 Cl Pg 80 [] false [.sc .m] λc0=>
 RgM c0.1 λd0=>
 Lp (σ:=Int×Unit) (λe0 f0=>
 NxM d0 (λv11 v12=>
 EnM d0 λv13 v14=>
 Ty (.i .i32) v13 λg0=>
 TyA [.v,.v,.v] v14 λy16=>
 At #[.nilFunc,.nilFunc,.nilFunc] 171 λi0=>
 St (i0.add 0) y16.1 <|
 St (i0.add 1) y16.2.1 <|
 St (i0.add 2) y16.2.2.1 <|
 Jp (σ:=Bool×Unit) (λj0=>
 Br j0.1 (
 R (180,())) (
 e0 (f0.1,()))) λk0=>
 Ls a0 0 λl0=>
 Ag4 21 l0 λm0=>
 Cl Pg 81 [(Vs m0),(.int .i32 g0)] false [.sc .b] λn0=>
 Br (!n0.1) (
 LJ (i0.add 2) λo0=>
 AB Pg o0 [(Vp (some x))] false [.sc .b] λp0=>
 k0 ((!p0.1),())) (
 k0 (false,()))) (
 R (0,()))) (0,()))) λq0=>
 Br (!z.2.1) (
 q0 (true,())) (
 LJ (a0.add 1) λr0=>
 Li x 1 λs0=>
 AB Pg r0 [(Vi s0)] false [.sc .b] λt0=>
 Br (!t0.1) (
 q0 (true,())) (
 LJ (a0.add 2) λu0=>
 Li x 2 λv0=>
 AB Pg u0 [(Vi v0)] false [.sc .b] λx0=>
 Br (!x0.1) (
 q0 (true,())) (
 Li x 3 λy0=>
 Br ((y0:Int) !=0) (
 q0 (true,())) (
 LJ (a0.add 3) λz0=>
 Bn x λa1 b1 c1 d1 e1 f1 g1 i1 j1 k1 l1 m1 n1 o1 p1 q1 r1 s1 t1 u1 v1=>
 AB Pg z0 [(.agg (Ag a1 b1 c1 d1 e1 f1 g1 i1 j1 k1 l1 m1 n1 o1 p1 q1 r1 s1 t1 u1 v1))] false [.sc .b] λx1=>
 q0 ((!x1.1),())))))
theorem LR (a b c d e f g i j k l m n o p q r s t u v){R w}(h:OI a b c d e f g i j k l m n o p q r s t u v R w):Cl Pg 31 [(.agg (Ag a b c d e f g i j k l m n o p q r s t u v))] false [.sc (.i .i64)] R w:=
 ce (s' (s' (q' (q' (.join [(42,.sc .b)] l') (k' (s' l') l')) (q' (s' (.block (.loop [(2,.sc (.i .i64))] (s' (q' (k' l' l') (.block (s' (q' (.join [(61,.sc .b)] l') (k' (s' l') l'))))))))) (s' l'))))) Tryz.func31 h
def FX (a:Option Addr)(b:Value)(R:TR Vv->Pr):Pr:=
 At LW 52 λc=>
 Nn a λd=>
 Az (d.add 0) λe f g i j k l m n o p q r s t u v=>
 Cl Pg 26 [(.agg (Al e f g i j k l m n o p q r s t u v))] false Ux λx=>
 At AQ 41 λy=>
 Bf y x.1.1 x.1.2.1 x.1.2.2.1 x.1.2.2.2.1 x.1.2.2.2.2.1 x.1.2.2.2.2.2.1 x.1.2.2.2.2.2.2.1 x.1.2.2.2.2.2.2.2.1 x.1.2.2.2.2.2.2.2.2.1 x.1.2.2.2.2.2.2.2.2.2.1 x.1.2.2.2.2.2.2.2.2.2.2.1 x.1.2.2.2.2.2.2.2.2.2.2.2.1 x.1.2.2.2.2.2.2.2.2.2.2.2.2.1 x.1.2.2.2.2.2.2.2.2.2.2.2.2.2.1 x.1.2.2.2.2.2.2.2.2.2.2.2.2.2.2.1 x.1.2.2.2.2.2.2.2.2.2.2.2.2.2.2.2.1 x.1.2.2.2.2.2.2.2.2.2.2.2.2.2.2.2.2.1 <|
 Nn a λz=>
 St ((z.add 21).add 0) (.slice none 0 0) <|
 St ((z.add 21).add 1) (.slice none 0 0) <|
 Tb (z.add 21) 2 false <|
 AB Pg b [] true [] λa0=>
 Nn a λb0=>
 Li b0 25 λc0=>
 Br ((c0:Int) !=0) (
 Dr <|
 Nn a λd0=>
 Li d0 25 λe0=>
 St (c.add 0) (.slice none 0 0) <|
 St (c.add 1) (.slice none 0 0) <|
 Tb c 2 false <|
 AH (Li d0 25 λf0=>
 λ_=>((Vi f0):Value)=(Vi e0)) <|
 SL c λg0 i0 j0=>
 R ((g0,i0,j0,()),e0,())) (
 Nn a λk0=>
 SL (k0.add 21) λl0 m0 n0=>
 At LW 52 λo0=>
 KV o0 l0 m0 n0 <|
 Nn a λp0=>
 St ((p0.add 21).add 0) (.slice none 0 0) <|
 St ((p0.add 21).add 1) (.slice none 0 0) <|
 Tb (p0.add 21) 2 false <|
 Jp (σ:=Unit) (λq0=>
 SL o0 λr0 s0 t0=>
 KV c r0 s0 t0 <|
 SL c λu0 v0 x0=>
 R ((u0,v0,x0,()),0,())) λy0=>
 Dr <|
 Ll o0 1 λz0=>
 Br (decide ((((z0.len:Nat):Int):Int)>0)) (
 Tb o0 2 true <|
 y0 ()) (
 Az y λa1 b1 c1 d1 e1 f1 g1 i1 j1 k1 l1 m1 n1 o1 p1 q1 r1=>
 Nn a λs1=>
 Az (s1.add 0) λt1 u1 v1 x1 y1 z1 a2 b2 c2 d2 e2 f2 g2 i2 j2 k2 l2=>
 Cl Pg 82 [(.agg (Al a1 b1 c1 d1 e1 f1 g1 i1 j1 k1 l1 m1 n1 o1 p1 q1 r1)),(.agg (Al t1 u1 v1 x1 y1 z1 a2 b2 c2 d2 e2 f2 g2 i2 j2 k2 l2))] false [.sc .b] λm2=>
 St (o0.add 2) (Vb (!m2.1)) <|
 y0 ()))
theorem F6 (a b){R w}(h:FX a b R w):Cl Pg 32 [(Vp a),b] true Vv R w:=
 ce (s' (s' (s' (s' (q' (s' (k' (s' l') l')) (s' (s' (q' (.join [] l') (s' l'))))))))) Tryz.func32 h
def DQ (a b c:Addr)(R:TR []->Pr):Pr:=
 LJ a λd=>
 Di b λe=>
 Bn c λf g i j k l m n o p q r s t u v x y z a0 b0=>
 AB Pg d [(Vp e),(.agg (Ag f g i j k l m n o p q r s t u v x y z a0 b0))] true [] λc0=>
 R ()
theorem DW (a b c){R w}(h:DQ a b c R w):Cl Pg 33 [(Vp (some a)),(Vp (some b)),(Vp (some c))] true [] R w:=
 ce (l') Tryz.func33 h
def LF (a:Sl)(b:Int)(c d e f:ByteArray)(g:Int)(R:TR [.sc .sl,.ag [.b,.s,.sl]]->Pr):Pr:=
 At (Ar b c d e f g) 81 λi=>
 At Nw 83 λj=>
 Ls i 3 λk=>
 Ls i 4 λl=>
 At #[(Vt (BA [])),(Vt (BA []))] 37 λm=>
 Tt m 0 k <|
 Tt m 1 l <|
 Li i 0 λn=>
 Br ((n:Int)==1) (
 Ls i 1 λo=>
 Cl Pg 83 [(Vs a),(Vt o)] true [.sc .s,.sc .b] λp=>
 Tb j 0 p.2.1 <|
 Tt j 1 p.1 <|
 St (j.add 2) (.slice none 0 0) <|
 HX j λq r s=>
 R (a,(q,r,s,()),())) (
 Br ((n:Int)==2) (
 Ls i 1 λt=>
 Ls i 2 λu=>
 Cl Pg 84 [(Vs a),(.agg #[(Vt t),(Vt u)])] false [.sc .sl] λv=>
 Tb j 0 false <|
 St (j.add 1) (Vt (BA [])) <|
 St (j.add 2) (.slice none 0 0) <|
 HX j λx y z=>
 R (v.1,(x,y,z,()),())) (
 Br ((n:Int)==3) (
 Ls i 1 λa0=>
 Cl Pg 85 [(Vt a0)] true N6 λb0=>
 At #[(Vt (BA [])),(Vt (BA []))] 37 λc0=>
 Tt c0 0 b0.1.1 <|
 Tt c0 1 b0.1.2.1 <|
 Ls c0 0 λd0=>
 Ls c0 1 λe0=>
 Cl Pg 86 [(Vs a),(.agg #[(Vt d0),(Vt e0)])] false [.sc .sl] λf0=>
 Tb j 0 false <|
 St (j.add 1) (Vt (BA [])) <|
 St (j.add 2) (.slice none 0 0) <|
 HX j λg0 i0 j0=>
 R (f0.1,(g0,i0,j0,()),())) (
 Br ((n:Int)==4) (
 Ls m 0 λk0=>
 Ls m 1 λl0=>
 Li i 5 λm0=>
 Cl Pg 20 [(Vs a),(.agg #[(Vt k0),(Vt l0)]),(Vi m0)] false [.sc .sl] λn0=>
 Tb j 0 false <|
 St (j.add 1) (Vt (BA [])) <|
 Ts j 2 n0.1 <|
 HX j λo0 p0 q0=>
 R (a,(o0,p0,q0,()),())) (
 Ls m 0 λr0=>
 Ls m 1 λs0=>
 Cl Pg 86 [(Vs a),(.agg #[(Vt r0),(Vt s0)])] false [.sc .sl] λt0=>
 Tb j 0 false <|
 St (j.add 1) (Vt (BA [])) <|
 St (j.add 2) (.slice none 0 0) <|
 HX j λu0 v0 x0=>
 R (t0.1,(u0,v0,x0,()),())))))
theorem MT (a b c d e f g){R w}(h:LF a b c d e f g R w):Cl Pg 34 [(Vs a),(.agg (Ar b c d e f g))] true [.sc .sl,.ag [.b,.s,.sl]] R w:=
 ce (s' (s' (q' (s' (.block (s' (k' (s' (s' l')) (s' (k' (s' l') (s' (k' (s' (s' l')) (s' (k' (s' l') l')))))))))) (s' l')))) Tryz.func34 h
def Fb (a:ByteArray)(R:TR [.sc (.i .i64)]->Pr):Pr:=
 Jp (σ:=Bool×Unit) (λb=>
 Br b.1 (
 R (20,())) (
 R (0,()))) λc=>
 Br (decide ((((a.size:Nat):Int):Int)<1)) (
 c (true,())) (
 c ((decide ((((a.size:Nat):Int):Int)>12)),()))
theorem GR (a){R w}(h:Fb a R w):Cl Pg 35 [(Vt a)] false [.sc (.i .i64)] R w:=
 ce (s' (q' (q' (.join [(10,.sc .b)] l') (k' (s' l') l')) (s' l'))) Tryz.func35 h
def G1 (a:Addr)(R:TR []->Pr):Pr:=
 Di a λb=>
 Cl Pg 16 [(Vp b)] false [.sc .sl] λc=>
 Di a λd=>
 Nn d λe=>
 Ll (e.add 0) 6 λf=>
 Lp (σ:=Sl×Int×Unit) (λg i=>
 Br (decide ((i.2.1:Int)<((f.len:Nat):Int))) (
 Ix f i.2.1 2 λj=>
 Lu j 0 λk=>
 Ll j 1 λl=>
 At #[(Vu 0),(.slice none 0 0)] 60 λm=>
 Tu m 0 k <|
 Ts m 1 l <|
 Lu m 0 λn=>
 At #[(Vu n)] 32 λo=>
 App 32 1 8 (zc Pg 32) i.1 1 (BH (some o) 1 1) λp=>
 g (p,(An (i.2.1+1)),())) (
 Cl Pg 37 [(Vs i.1)] true [] λq=>
 Lp (σ:=Int×Unit) (λr s=>
 Br (decide ((s.1:Int)<((i.1.len:Nat):Int))) (
 Ix i.1 s.1 1 λt=>
 A2 .u64 t λu=>
 Di a λv=>
 Cl Pg 38 [(Vp v),(.agg #[(Vi 7),(Vi 0),(Vi 0),(Vi 0),(Vi 0),(Vi 0),(Vu 0),(Vu 0),(Vu u),(Vu 0),(Vu 0),(Vu 0),(Vu 0),(Vu 0),(Vu 0),(Vb false),(Vt (BA [])),(Vt (BA [])),(.slice none 0 0),(.slice none 0 0),(.slice none 0 0)])] true [] λx=>
 r ((An (s.1+1)),())) (
 Jp (σ:=Bool×Unit) (λy=>
 Br y.1 (
 Di a λz=>
 Cl Pg 39 [(Vp z)] true [] λa0=>
 R ()) (
 R ())) λb0=>
 Di a λc0=>
 Nn c0 λd0=>
 Hr d0 19 λe0=>
 Br (!(Option.isNone e0)) (
 Di a λf0=>
 Nn f0 λg0=>
 Hr g0 19 λi0=>
 Nn i0 λj0=>
 Lb j0 6 λk0=>
 b0 (k0,())) (
 b0 (false,())))) (0,()))) (c.1,0,())
theorem Jj (a){R w}(h:G1 a R w):Cl Pg 36 [(Vp (some a))] true [] R w:=
 ce (s' (q' (s' (.block (.loop [(1,.sc .sl),(14,.sc (.i .i64))] (s' (q' (k' l' l') (q' (.block (s' l')) l')))))) (s' (q' (s' (.block (.loop [(28,.sc (.i .i64))] (s' (q' (k' l' l') (q' (.block (s' l')) l')))))) (q' (.join [(50,.sc .b)] l') (k' l' l')))))) Tryz.func36 h
def GW (a:Sl)(R:TR []->Pr):Pr:=
 Cl Pg 88 [(Vu (IntKind.u64.wrap (((a.len:Nat):Int))))] false [.sc (.i .i64)] λb=>
 Cl Pg 87 [(Vs a),(Vi 0),(Vi ((a.len:Nat):Int)),(Vi b.1)] true [] λc=>
 R ()
theorem Kn (a){R w}(h:GW a R w):Cl Pg 37 [(Vs a)] true [] R w:=
 ce (s' l') Tryz.func37 h
def Io (a:Option Addr)(b c d e f g i j k l m n o p q:Int)(r:Bool)(s t:ByteArray)(u v x:Sl)(R:TR []->Pr):Pr:=
 At (Ag b c d e f g i j k l m n o p q r s t u v x) 47 λy=>
 Nn a λz=>
 Li (z.add 0) 0 λa0=>
 Ti y 1 a0 <|
 Dr <|
 Nn a λb0=>
 Ll (b0.add 21) 0 λc0=>
 Bn y λd0 e0 f0 g0 i0 j0 k0 l0 m0 n0 o0 p0 q0 r0 s0 t0 u0 v0 x0 y0 z0=>
 At (Ag d0 e0 f0 g0 i0 j0 k0 l0 m0 n0 o0 p0 q0 r0 s0 t0 u0 v0 x0 y0 z0) 47 λa1=>
 AH (Ll (b0.add 21) 0 λb1=>
 λ_=>((Vs b1):Value)=(Vs c0)) <|
 App 47 21 232 (zc Pg 47) c0 1 (BH (some a1) 1 21) λc1=>
 Nn a λd1=>
 Ts (d1.add 21) 0 c1 <|
 R ()
theorem Lj (a b c d e f g i j k l m n o p q r s t u v x){R w}(h:Io a b c d e f g i j k l m n o p q r s t u v x R w):Cl Pg 38 [(Vp a),(.agg (Ag b c d e f g i j k l m n o p q r s t u v x))] true [] R w:=
 ce (s' (s' l')) Tryz.func38 h
def IG (a:Option Addr)(R:TR []->Pr):Pr:=
 Nn a λb=>
 Hr b 19 λc=>
 Dr <|
 Nn c λd=>
 Li d 4 λe=>
 Nn c λf=>
 Lu f 0 λg=>
 Nn a λi=>
 Lu (i.add 0) 1 λj=>
 Nn c λk=>
 Lu k 1 λl=>
 Nn c λm=>
 Ls (m.add 2) 0 λn=>
 Ls (m.add 2) 1 λo=>
 Nn c λp=>
 Ll p 8 λq=>
 Cl Pg 60 [(Vs q)] false [.sc .sl] λr=>
 AH (Ls (m.add 2) 0 λs=>
 Ls (m.add 2) 1 λt=>
 λ_=>((.agg #[(Vt s),(Vt t)]):Value)=(.agg #[(Vt n),(Vt o)])) <|
 AH (Lu k 1 λu=>
 λ_=>((Vu u):Value)=(Vu l)) <|
 AH (Lu (i.add 0) 1 λv=>
 λ_=>((Vu v):Value)=(Vu j)) <|
 AH (Lu f 0 λx=>
 λ_=>((Vu x):Value)=(Vu g)) <|
 AH (Li d 4 λy=>
 λ_=>((Vi y):Value)=(Vi e)) <|
 Cl Pg 38 [(Vp a),(.agg #[(Vi 11),(Vi 0),(Vi e),(Vi 0),(Vi 0),(Vi 0),(Vu 0),(Vu 0),(Vu 0),(Vu 0),(Vu 0),(Vu 0),(Vu g),(Vu j),(Vu l),(Vb false),(Vt n),(Vt o),(Vs r.1),(.slice none 0 0),(.slice none 0 0)])] true [] λz=>
 R ()
theorem KQ (a){R w}(h:IG a R w):Cl Pg 39 [(Vp a)] true [] R w:=
 ce (s' l') Tryz.func39 h
end Go.Proofs.YthkdehgfdllpoaaGreat
