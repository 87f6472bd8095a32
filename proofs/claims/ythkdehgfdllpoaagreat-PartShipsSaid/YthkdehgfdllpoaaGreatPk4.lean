/- The parts of the proof, 4: words of the program, and what they do. Conditions: none. -/
import Derived.Test.YthkdehgfdllpoaaGreatPk3
import Derived.Sort.LotD3
import Derived.Sort.LotA
import Derived.Sort.LotB
import Derived.Sort.LotC
import Derived.Sort.LotD1
import Derived.Lib.Bytealg
set_option maxRecDepth 100000
set_option maxHeartbeats 1000000
set_option linter.unusedVariables false
set_option linter.unusedSimpArgs false
set_option linter.unusedSectionVars false
namespace Go.Proofs.YthkdehgfdllpoaaGreat
open Go Go.Sx
def cU (l:List Int):List Value:=l.map (Value.int .u64)
theorem Rf (l:List Int):(cU l).length=l.length:=by simp[cU]
theorem AhS (l:List Int):∀v∈cU l,v.oneCell'=true:=by simp[cU,Value.oneCell']
variable {s:Sl}{l:List Int}
theorem DJ {w:World}(h:AE w s 1 (cU l)):s.len=l.length:=by have:=h.len;rw[Rf]at this;omega
abbrev Rw (w:World)(s:Sl)(d:Array Int):Prop:=AE w s 1 (cU d.toList)
section
variable {w:World}{s:Sl}{d:Array Int}(h:Rw w s d)
include h
variable {x:Int}{j:Nat}
theorem Rw.rd (hx:x=(j:Int))(hj:j<d.size){K:Int->Pr}(k:K d[j]! w):Ix s x 1 (λa=>A2 .u64 a K) w:=by
 subst hx;have hl:=DJ h;rw[Array.length_toList]at hl;obtain⟨b,o,hp,_⟩:=h.base (by omega);rw[G5 hp (by omega) (by omega),Int.toNat_natCast,Nat.mul_one,RZ,h.read hp (by rw[Rf,Array.length_toList];exact hj),cU,List.getElem?_map,Array.getElem?_toList,Array.getElem?_eq_getElem hj];simp only[Option.map_some,sx];rw[getElem!_pos d j hj]at k;exact k
theorem Rw.wr (hx:x=(j:Int))(hj:j<d.size)(v:Int){K:Pr}(k:∀w',Rw w' s (d.setIfInBounds j v)->Aa (Ai s) w w'->K w'):Ix s x 1 (λa=>St a (.int .u64 v) K) w:=by
 subst hx;have hl:=DJ h;rw[Array.length_toList]at hl;obtain⟨b,o,hp,hb⟩:=h.base (by omega);rw[G5 hp (by omega) (by omega),Int.toNat_natCast,Nat.mul_one];refine h.write hp (by rw[Rf,Array.length_toList];exact hj) rfl ?_;intro w' h1 h2;refine k w' ?_ (by rw[hb];exact h2);unfold Rw;rw[Array.toList_setIfInBounds,cU,List.map_set];exact h1
theorem Rw.keeps {w':World}(hk:Aa [] w w'):Rw w' s d:=AE.keeps h hk (by simp)
theorem Rw.dr:Rw w.drew s d:=Rw.keeps h ((Aa.refl _ _).drew)
variable {y:Int}{i:Nat}
theorem Rw.sw (hx:x=(i:Int))(hy:y=(j:Int))(hi:i<d.size)(hj:j<d.size){K:Pr}(k:∀w',Rw w' s (Sort.swp d i j)->Aa (Ai s) w w'->K w'):
  Dr (Ix s y 1 λa3=>A2 .u64 a3 λx4=>Ix s x 1 λa5=>A2 .u64 a5 λx6=>Ix s x 1 λa7=>St a7 (.int .u64 x4)<|Ix s y 1 λa8=>St a8 (.int .u64 x6) K) w:=by
 have hkd:Aa [] w w.drew:=(Aa.refl _ _).drew;refine Rw.rd (w:=w.drew) (Rw.dr h) hy hj ?_;refine Rw.rd (w:=w.drew) (Rw.dr h) hx hi ?_;refine Rw.wr (w:=w.drew) (Rw.dr h) hx hi _ ?_;intro w1 h1 k1;refine Rw.wr h1 hy (by simpa using hj) _ ?_;intro w2 h2 k2;exact k w2 h2 (((hkd.mono (m':=Ai s) (by simp)).trans k1 (λ_ hx=>.inl hx)).trans k2 (λ_ hx=>.inl hx))
end
variable {x y:Int}{i j:Nat}
theorem Oq (hx:x=(i:Int))(hy:y=(j:Int))(h:i+j<4611686018427387904):An (x+y)=((i+j:Nat):Int):=by subst hx hy;rw[By (by omega) (by omega)];omega
theorem N0 (hx:x=(i:Int))(hy:y=(j:Int))(h:j<=i)(h2:i<4611686018427387904):An (x-y)=((i-j:Nat):Int):=by subst hx hy;rw[By (by omega) (by omega)];omega
theorem AK (h:i<4611686018427387904):An ((i:Int)+1)=((i+1:Nat):Int):=by rw[By (by omega) (by omega)];omega
theorem Ew (h:1<=i)(h2:i<4611686018427387904):An ((i:Int)-1)=((i-1:Nat):Int):=by rw[By (by omega) (by omega)];omega
abbrev lt:=Sort.ltInt
theorem IF {w:World}(x y:Int):Cl Pg 194 [.int .u64 x,.int .u64 y] false [.sc .b] (λr w'=>w=w'/\r.1=lt x y) w:=by
 have hn:∀z:Int,∀{K:TR [.sc .b]->Pr},K (false,()) w->Cl Pg 110 [.int .u64 z] false [.sc .b] K w:=λz K h=>by
  apply Fc;unfold Fg;rw[show(z !=z)=false from by simp];exact h
 refine AR λR hR=>?_;apply MA;unfold LD;dsimp only[Vu];refine hn x ?_;exact hR _ _ ⟨rfl,rfl⟩
theorem size_swp (d:Array Int)(i j:Nat):(Sort.swp d i j).size=d.size:=Sort.size_swp d i j
theorem QU {w:World}{A:(Bool×Unit->Pr)->Int×Unit->Pr}{K:Int×Unit->Pr}{stp:Int->Int}(Inv:Nat->World->Prop)(enc:Nat->Int)(cond:Nat->Bool)(nxt:Nat->Nat)(ms:Nat->Nat)(hc:∀i w',Inv i w'->∀J:Bool×Unit->Pr,(∀w'',Inv i w''->J (cond i,()) w'')->A J (enc i,()) w')(hn:∀i w',Inv i w'->cond i=true->stp (enc i)=enc (nxt i)/\ms (nxt i)<ms i/\Inv (nxt i) w')(he:∀i w',Inv i w'->cond i=false->K (enc i,()) w'){i0:Nat}(h0:Inv i0 w):
  Lp (σ:=Int×Unit) (λL7 s8=>Jp (σ:=Bool×Unit) (λs10=>Br s10.1 (L7 (stp s8.1,())) (K s8)) λJ9=>A J9 s8) (enc i0,()) w:=by
 refine⟨λm st w'=>∃i,st=(enc i,())/\m=ms i/\Inv i w',⟨_,i0,rfl,rfl,h0⟩,?_⟩;rintro _ _ w1 ⟨i,rfl,rfl,hI⟩;refine AG (λst w'=>st=(cond i,())/\Inv i w') (λJ hJ=>hc i w1 hI J λw'' h=>hJ _ _ ⟨rfl,h⟩) ?_;rintro _ w2 ⟨rfl,hI2⟩;cases hb:cond i with
 |true=>
  obtain⟨h1,h2,h3⟩:=hn i w2 hI2 hb;exact⟨_,h2,nxt i,by rw[h1],rfl,h3⟩
 |false=>exact he i w2 hI2 hb
variable {d:Array Int}
theorem Xl {w:World}(h:Rw w s d){a b:Nat}(hb:b<=d.size)(hN:d.size<=65000)(hab:a<=b):
  Cl Pg 188 [.slice s.p s.len s.cap,.int .i64 (a:Int),.int .i64 (b:Int)] true [] (λ_ w'=>Rw w' s (Sort.insertionSort lt d a b)/\Aa (Ai s) w w') w:=by
 refine AR λR hR=>?_;apply Dx;unfold Cj;dsimp only[Vu];rw[AK (by omega)];refine⟨λm st w'=>∃(i:Nat) (d':Array Int),st=((i:Int),())/\m=b+1-i/\a+1<=i/\d'.size=d.size/\Sort.insOuter lt a b i d'=Sort.insOuter lt a b (a+1) d/\Rw w' s d'/\Aa (Ai s) w w',⟨_,a+1,d,rfl,rfl,Nat.le_refl _,rfl,rfl,h,Aa.refl _ _⟩,?_⟩;rintro _ _ w1 ⟨i,d1,rfl,rfl,hi,hz1,he1,hd1,hk1⟩;dsimp only;by_cases hib:i<b
 ·rw[decide_eq_true (by omega)];simp only[Br];rw[Sort.insOuter,if_pos hib]at he1;refine⟨λm st w'=>∃(j:Nat) (d':Array Int),st=((j:Int),())/\m=j/\j<=i/\d'.size=d.size/\Sort.insInner lt a j d'=Sort.insInner lt a i d1/\Rw w' s d'/\Aa (Ai s) w w',⟨_,i,d1,rfl,rfl,Nat.le_refl _,hz1,rfl,hd1,hk1⟩,?_⟩;rintro j _ w2 ⟨_,d2,rfl,rfl,hj,hz2,he2,hd2,hk2⟩;dsimp only;have hkd:Aa (Ai s) w2 w2.drew:=(Aa.refl _ _).drew;refine AG (λst w'=>st=(decide (j>a)&&lt d2[j]! d2[j-1]!,())/\Rw w' s d2/\Aa (Ai s) w w') ?_ ?_
  ·intro J hJ;simp only[Dr];by_cases hja:j>a
   ·rw[decide_eq_true (by omega)];rw[decide_eq_true hja,Bool.true_and]at hJ;simp only[Br];rw[Ew (by omega) (by omega)];refine Rw.rd (w:=w2.drew) hd2.dr rfl (by omega) ?_;refine Rw.rd (w:=w2.drew) hd2.dr rfl (by omega) ?_;refine Cl.mono (IF _ _) ?_;rintro⟨r,_⟩ _ ⟨rfl,hr⟩;simp only at hr;refine hJ _ _ ⟨by rw[hr],hd2.dr,hk2.trans hkd (λ_ hx=>.inl hx)⟩
   ·rw[decide_eq_false (by omega)];rw[decide_eq_false hja,Bool.false_and]at hJ;exact hJ _ _ ⟨rfl,hd2.dr,hk2.trans hkd (λ_ hx=>.inl hx)⟩
  ·rintro _ w3 ⟨rfl,hd3,hk3⟩;cases hc:(decide (j>a)&&lt d2[j]! d2[j-1]!)with
   |true=>
    simp only[Br];simp only[Bool.and_eq_true,decide_eq_true_eq]at hc;obtain⟨k,rfl⟩:∃k,j=k+1:=⟨j-1,by omega⟩;rw[Nat.add_sub_cancel]at hc;rw[Ew (by omega) (by omega),Nat.add_sub_cancel];refine hd3.sw rfl rfl (by omega) (by omega) ?_;intro w4 hd4 hk4;refine⟨k,by omega,k,_,rfl,rfl,by omega,by rw[size_swp];exact hz2,?_,hd4,hk3.trans hk4 (λ_ hx=>.inl hx)⟩;rw[<-he2,Sort.insInner,if_pos (by simp[hc])]
   |false=>
    simp only[Br];refine⟨b+1-(i+1),by omega,i+1,d2,by rw[AK (by omega)],rfl,by omega,hz2,?_,hd3,hk3⟩;rw[<-he1,<-he2];cases j with
    |zero=>rfl
    |succ k=>
     rw[Nat.add_sub_cancel]at hc;rw[Sort.insInner,if_neg (by rw[hc];simp)]
 ·rw[decide_eq_false (by omega)];rw[Sort.insOuter,if_neg hib]at he1;refine hR _ _ ⟨?_,hk1⟩;unfold Sort.insertionSort;rw[<-he1];exact hd1
theorem AbR {w:World}(h:Rw w s d){lo hi first:Nat}(hb:first+hi<=d.size)(hN:d.size<=65000)(hlo:lo<=hi):
  Cl Pg 260 [.slice s.p s.len s.cap,.int .i64 (lo:Int),.int .i64 (hi:Int),.int .i64 (first:Int)] true [] (λ_ w'=>Rw w' s (Sort.siftDown lt hi first lo d)/\Aa (Ai s) w w') w:=by
 refine AR λR hR=>?_;apply DZ;unfold CK;dsimp only[Vu];refine⟨λm st w'=>∃(root:Nat) (d':Array Int),st=((root:Int),())/\m=hi-root/\root<=hi/\d'.size=d.size/\Sort.siftDown lt hi first root d'=Sort.siftDown lt hi first lo d/\Rw w' s d'/\Aa (Ai s) w w',⟨_,lo,d,rfl,rfl,hlo,rfl,rfl,h,Aa.refl _ _⟩,?_⟩;rintro _ _ w1 ⟨root,d1,rfl,rfl,hr,hz1,he1,hd1,hk1⟩;dsimp only;have e2:An (2*(root:Int))=((2*root:Nat):Int):=by rw[By (by omega) (by omega)];omega
 rw[e2,AK (by omega),AK (by omega)];by_cases hch:2*root+1>=hi
 ·rw[decide_eq_true (by omega)];rw[Sort.siftDown,dif_pos hch]at he1;simp only[Br];refine hR _ _ ⟨?_,hk1⟩;rw[<-he1];exact hd1
 ·rw[decide_eq_false (by omega)];simp only[Br];rw[Sort.siftDown,dif_neg hch]at he1;have kt:∀{a b c:World},Aa (Ai s) a b->Aa (Ai s) b c->Aa (Ai s) a c:=λh k=>h.trans k (λ_ hx=>.inl hx);refine AG (λst w'=>∃c:Nat,st=((c:Int),())/\(c=2*root+1\/c=2*root+2)/\c<hi/\Rw w' s d1/\Aa (Ai s) w w'/\(if !lt d1[first+root]! d1[first+c]! then d1 else Sort.siftDown lt hi first c (Sort.swp d1 (first+root) (first+c)))=Sort.siftDown lt hi first lo d) ?_ ?_
  ·intro J3 hJ3;refine AG (λst w'=>st=(decide (2*root+1+1<hi)&&lt d1[first+(2*root+1)]! d1[first+(2*root+1)+1]!,())/\Rw w' s d1/\Aa (Ai s) w w') ?_ ?_
   ·intro J hJ;have hkd:Aa (Ai s) w1 w1.drew:=(Aa.refl _ _).drew;simp only[Dr];by_cases hc2:2*root+1+1<hi
    ·rw[decide_eq_true (by omega)];rw[decide_eq_true hc2,Bool.true_and]at hJ;simp only[Br];rw[Oq rfl rfl (by omega),AK (by omega)];refine Rw.rd (w:=w1.drew) hd1.dr rfl (by omega) ?_;refine Rw.rd (w:=w1.drew) hd1.dr rfl (by omega) ?_;refine Cl.mono (IF _ _) ?_;rintro⟨r,_⟩ _ ⟨rfl,hr⟩;simp only at hr;exact hJ _ _ ⟨by rw[hr],hd1.dr,kt hk1 hkd⟩
    ·rw[decide_eq_false (by omega)];rw[decide_eq_false hc2,Bool.false_and]at hJ;exact hJ _ _ ⟨rfl,hd1.dr,kt hk1 hkd⟩
   ·rintro _ w2 ⟨rfl,hd2,hk2⟩;cases hc:(decide (2*root+1+1<hi)&&lt d1[first+(2*root+1)]! d1[first+(2*root+1)+1]!)with
    |true=>
     simp only[Br];rw[if_pos hc]at he1;simp only[Bool.and_eq_true,decide_eq_true_eq]at hc;refine hJ3 _ _ ⟨2*root+2,rfl,.inr rfl,by omega,hd2,hk2,?_⟩;rw[<-he1,dif_pos (show 2*root+2<hi by omega)]
    |false=>
     simp only[Br];rw[if_neg (by rw[hc];simp)]at he1;exact hJ3 _ _ ⟨2*root+1,rfl,.inl rfl,by omega,hd2,hk2,he1⟩
  ·rintro _ w2 ⟨c,rfl,hc12,hci,hd2,hk2,he2⟩;simp only[Dr];rw[Oq rfl rfl (by omega),Oq rfl rfl (by omega)];have hkd:Aa (Ai s) w2 w2.drew:=(Aa.refl _ _).drew;refine Rw.rd (w:=w2.drew) hd2.dr rfl (by omega) ?_;refine Rw.rd (w:=w2.drew) hd2.dr rfl (by omega) ?_;refine Cl.mono (IF _ _) ?_;rintro⟨r,_⟩ _ ⟨rfl,hr⟩;simp only at hr;cases hl:lt d1[first+root]! d1[first+c]! with
   |false=>
    rw[hl]at hr he2;subst hr;simp only[Bool.not_false,Br];refine hR _ _ ⟨?_,kt hk2 hkd⟩;rw[<-he2];exact hd2.dr
   |true=>
    rw[hl]at hr he2;subst hr;simp only[Bool.not_true,Br];refine Rw.sw (w:=w2.drew) hd2.dr rfl rfl (by omega) (by omega) ?_;intro w3 hd3 hk3;exact⟨hi-c,by omega,c,_,rfl,rfl,by omega,by rw[size_swp];exact hz1,by simpa using he2,hd3,kt (kt hk2 hkd) hk3⟩
theorem Nr (hi first:Nat):∀(n root:Nat) (d:Array Int),hi-root<=n->(Sort.siftDown lt hi first root d).size=d.size
 |n,root,d,hn=>by
  rw[Sort.siftDown];split
  ·rfl
  ·rename_i h1;split
   ·split
    ·rfl
    ·split
     ·cases n with
      |zero=>omega
      |succ n=>rw[Nr hi first n _ _ (by omega),size_swp]
     ·rfl
   ·split
    ·rfl
    ·cases n with
     |zero=>omega
     |succ n=>rw[Nr hi first n _ _ (by omega),size_swp]
theorem YK {w:World}(h:Rw w s d){a b:Nat}(hb:b<=d.size)(hN:d.size<=65000)(hab:a<b):
  Cl Pg 189 [.slice s.p s.len s.cap,.int .i64 (a:Int),.int .i64 (b:Int)] true [] (λ_ w'=>Rw w' s (Sort.heapSort lt d a b)/\Aa (Ai s) w w') w:=by
 refine AR λR hR=>?_;have kt:∀{a b c:World},Aa (Ai s) a b->Aa (Ai s) b c->Aa (Ai s) a c:=λh k=>h.trans k (λ_ hx=>.inl hx);apply Eg;unfold CL;dsimp only[Vi,Vs,Vu];refine⟨by decide,?_⟩;rw[N0 rfl rfl (by omega) (by omega)];rw[Ew (i:=b-a) (by omega) (by omega)];have e2:An ((((b-a-1:Nat):Int)).tdiv 2)=(((b-a-1) / 2:Nat):Int):=by
  rw[show((b-a-1:Nat):Int).tdiv 2=(((b-a-1) / 2:Nat):Int)from TX _ 2];exact Tx (by omega)
 rw[e2];refine⟨λm st w'=>∃(k:Nat) (d':Array Int),st=((k:Int)-1,())/\m=k/\k<=(b-a-1) / 2+1/\d'.size=d.size/\Sort.heapBuild lt (b-a) a k d'=Sort.heapBuild lt (b-a) a ((b-a-1) / 2+1) d/\Rw w' s d'/\Aa (Ai s) w w',⟨_,(b-a-1) / 2+1,d,by simp,rfl,Nat.le_refl _,rfl,rfl,h,Aa.refl _ _⟩,?_⟩;rintro k _ w1 ⟨_,d1,rfl,rfl,hk,hz1,he1,hd1,hk1⟩;dsimp only;cases k with
 |succ k=>
  rw[decide_eq_true (by omega)];simp only[Br];rw[show((k+1:Nat):Int)-1=(k:Int)from by omega];refine Cl.mono (AbR hd1 (lo:=k) (hi:=b-a) (first:=a) (by omega) (by omega) (by omega)) ?_;rintro _ w2 ⟨hd2,hk2⟩;refine⟨k,by omega,k,_,by rw[By (by omega) (by omega)],rfl,by omega,by rw[Nr (b-a) a _ _ _ (Nat.le_refl _)];exact hz1,?_,hd2,kt hk1 hk2⟩;rw[<-he1];rfl
 |zero=>
  rw[decide_eq_false (by omega)];simp only[Br];have hd0:Sort.heapBuild lt (b-a) a ((b-a-1) / 2+1) d=d1:=by rw[<-he1];rfl
  refine⟨λm st w'=>∃(k:Nat) (d':Array Int),st=((k:Int)-1,())/\m=k/\k<=b-a/\d'.size=d.size/\Sort.heapPop lt a k d'=Sort.heapPop lt a (b-a) d1/\Rw w' s d'/\Aa (Ai s) w w',⟨_,b-a,d1,by congr 1;omega,rfl,Nat.le_refl _,hz1,rfl,hd1,hk1⟩,?_⟩;rintro k _ w2 ⟨_,d2,rfl,rfl,hk,hz2,he2,hd2,hk2⟩;dsimp only;cases k with
  |succ k=>
   rw[decide_eq_true (by omega)];simp only[Br];rw[show((k+1:Nat):Int)-1=(k:Int)from by omega,Oq rfl rfl (by omega)];refine Rw.sw hd2 rfl rfl (by omega) (by omega) ?_;intro w3 hd3 hk3;refine Cl.mono (AbR hd3 (lo:=0) (hi:=k) (first:=a) (by rw[size_swp];omega) (by rw[size_swp];omega) (by omega)) ?_;rintro _ w4 ⟨hd4,hk4⟩;refine⟨k,by omega,k,_,by rw[By (by omega) (by omega)],rfl,by omega,by rw[Nr k a _ _ _ (Nat.le_refl _),size_swp];exact hz2,?_,hd4,kt (kt hk2 hk3) hk4⟩;rw[<-he2];rfl
  |zero=>
   rw[decide_eq_false (by omega)];refine hR _ _ ⟨?_,hk2⟩;unfold Sort.heapSort;rw[hd0,<-he2];exact hd2
theorem AaL {w:World}(h:Rw w s d){a b:Nat}(hb:b<=d.size)(hN:d.size<=65000)(hab:a<b):
  Cl Pg 192 [.slice s.p s.len s.cap,.int .i64 (a:Int),.int .i64 (b:Int)] true [] (λ_ w'=>Rw w' s (Sort.reverseRange d a b)/\Aa (Ai s) w w') w:=by
 refine AR λR hR=>?_;have kt:∀{a b c:World},Aa (Ai s) a b->Aa (Ai s) b c->Aa (Ai s) a c:=λh k=>h.trans k (λ_ hx=>.inl hx);apply DA;unfold Cn;dsimp only[Vu];rw[Ew (by omega) (by omega)];refine⟨λm st w'=>∃(i j:Nat) (d':Array Int),st=((i:Int),(j:Int),())/\m=j-i/\j<b/\d'.size=d.size/\Sort.reverseLoop i j d'=Sort.reverseLoop a (b-1) d/\Rw w' s d'/\Aa (Ai s) w w',⟨_,a,b-1,d,rfl,rfl,by omega,rfl,rfl,h,Aa.refl _ _⟩,?_⟩;rintro _ _ w1 ⟨i,j,d1,rfl,rfl,hj,hz1,he1,hd1,hk1⟩;dsimp only;rw[Sort.reverseLoop]at he1;by_cases hij:i<j
 ·rw[decide_eq_true (by omega)];simp only[Br];rw[if_pos hij]at he1;refine Rw.sw hd1 rfl rfl (by omega) (by omega) ?_;intro w2 hd2 hk2;exact⟨j-1-(i+1),by omega,i+1,j-1,_,by rw[AK (by omega),Ew (by omega) (by omega)],rfl,by omega,by rw[size_swp];exact hz1,he1,hd2,kt hk1 hk2⟩
 ·rw[decide_eq_false (by omega)];rw[if_neg hij]at he1;refine hR _ _ ⟨?_,hk1⟩;unfold Sort.reverseRange;rw[<-he1];exact hd1
open Go Go.Sx
variable {c:World}
theorem kt {a b:World}(h:Aa (Ai s) a b)(k:Aa (Ai s) b c):Aa (Ai s) a c:=h.trans k (λ_ hx=>.inl hx)
variable {w0:World}
theorem Xv {w:World}(hN:d.size<=65000)(hd:Rw w s d)(hk0:Aa (Ai s) w0 w)(p:Int->Bool){j i0:Nat}(hj:j<d.size){A:(Bool×Unit->Pr)->Int×Unit->Pr}{K:Int×Unit->Pr}(hA:∀(i:Nat) (w1:World) (J:Bool×Unit->Pr),Rw w1 s d->i<=65001->(∀w2,Rw w2 s d->Aa (Ai s) w1 w2->J (decide (i<=j)&&p d[i]!,()) w2)->A J ((i:Int),()) w1)(hi0:i0<=65001)(hK:∀w1,Rw w1 s d->Aa (Ai s) w0 w1->K ((Sort.scanUp p d j i0:Int),()) w1):
  Lp (σ:=Int×Unit) (λL7 s8=>Jp (σ:=Bool×Unit) (λs10=>Br s10.1 (L7 (An (s8.1+1),())) (K s8)) λJ9=>A J9 s8) ((i0:Int),()) w:=by
 refine QU (stp:=λx=>An (x+1)) (λi w'=>i<=65001/\Sort.scanUp p d j i=Sort.scanUp p d j i0/\Rw w' s d/\Aa (Ai s) w0 w') (λi=>(i:Int)) (λi=>decide (i<=j)&&p d[i]!) (λi=>i+1) (λi=>j+1-i) ?_ ?_ ?_ ⟨hi0,rfl,hd,hk0⟩
 ·rintro i w1 ⟨h1,h2,h3,h4⟩ J hJ;exact hA i w1 J h3 h1 λw2 h5 h6=>hJ w2 ⟨h1,h2,h5,kt h4 h6⟩
 ·rintro i w1 ⟨h1,h2,h3,h4⟩ hc;have hij:i<=j:=by simp at hc;exact hc.1
  refine⟨AK (by omega),by omega,by omega,?_,h3,h4⟩;rw[<-h2]
  conv=>rhs;rw[Sort.scanUp,if_pos hc]
 ·rintro i w1 ⟨h1,h2,h3,h4⟩ hc;have:Sort.scanUp p d j i=i:=by rw[Sort.scanUp,if_neg (by rw[hc];simp)]
  rw[this]at h2;rw[h2];exact hK w1 h3 h4
theorem QI {w:World}(hN:d.size<=65000)(hd:Rw w s d)(hk0:Aa (Ai s) w0 w)(p:Int->Bool){i j0:Nat}(hi:1<=i)(hj:j0<d.size){A:(Bool×Unit->Pr)->Int×Unit->Pr}{K:Int×Unit->Pr}(hA:∀(j:Nat) (w1:World) (J:Bool×Unit->Pr),Rw w1 s d->j<d.size->(∀w2,Rw w2 s d->Aa (Ai s) w1 w2->J (decide (i<=j)&&p d[j]!,()) w2)->A J ((j:Int),()) w1)(hK:∀w1,Rw w1 s d->Aa (Ai s) w0 w1->K ((Sort.scanDown p d i j0:Int),()) w1):
  Lp (σ:=Int×Unit) (λL7 s8=>Jp (σ:=Bool×Unit) (λs10=>Br s10.1 (L7 (An (s8.1-1),())) (K s8)) λJ9=>A J9 s8) ((j0:Int),()) w:=by
 refine QU (stp:=λx=>An (x-1)) (λj w'=>j<d.size/\Sort.scanDown p d i j=Sort.scanDown p d i j0/\Rw w' s d/\Aa (Ai s) w0 w') (λj=>(j:Int)) (λj=>decide (i<=j)&&p d[j]!) (λj=>j-1) (λj=>j) ?_ ?_ ?_ ⟨hj,rfl,hd,hk0⟩
 ·rintro j w1 ⟨h1,h2,h3,h4⟩ J hJ;exact hA j w1 J h3 h1 λw2 h5 h6=>hJ w2 ⟨h1,h2,h5,kt h4 h6⟩
 ·rintro j w1 ⟨h1,h2,h3,h4⟩ hc;have hij:i<=j:=by simp at hc;exact hc.1
  obtain⟨k,rfl⟩:∃k,j=k+1:=⟨j-1,by omega⟩;refine⟨Ew (by omega) (by omega),by simp,by simp;omega,?_,h3,h4⟩;rw[<-h2]
  conv=>rhs;rw[Sort.scanDown,if_pos hc]
  rfl
 ·rintro j w1 ⟨h1,h2,h3,h4⟩ hc;have:Sort.scanDown p d i j=j:=by
   cases j with
   |zero=>rfl
   |succ k=>rw[Sort.scanDown,if_neg (by rw[hc];simp)]
  rw[this]at h2;rw[h2];exact hK w1 h3 h4
theorem I9 {w:World}(hd:Rw w s d){c:Bool}{x y:Int}{i j:Nat}{J:Bool×Unit->Pr}(f:Bool->Bool){b:Bool}(hx:x=(i:Int))(hy:y=(j:Int))(hi:c=true->i<d.size)(hj:c=true->j<d.size)(hb:(c&&f (lt d[i]! d[j]!))=b)(hJ:∀w2,Rw w2 s d->Aa (Ai s) w w2->J (b,()) w2):
  Dr (Br c (Ix s x 1 λa64=>A2 .u64 a64 λx65=>Ix s y 1 λa66=>A2 .u64 a66 λx67=>Cl Pg 194 [(.int .u64 x65),(.int .u64 x67)] false [.sc .b] λr68=>J (f r68.1,())) (J (false,()))) w:=by
 have hkd:Aa (Ai s) w w.drew:=(Aa.refl _ _).drew;simp only[Dr];cases c with
 |false=>
  rw[Bool.false_and]at hb;subst hb;exact hJ _ hd.dr hkd
 |true=>
  rw[Bool.true_and]at hb;refine Rw.rd (w:=w.drew) hd.dr hx (hi rfl) ?_;refine Rw.rd (w:=w.drew) hd.dr hy (hj rfl) ?_;refine Cl.mono (IF _ _) ?_;rintro⟨r,_⟩ _ ⟨rfl,hr⟩;simp only at hr;rw[hr];subst hb;exact hJ _ hd.dr hkd
theorem Yc {w:World}(h:Rw w s d){a b pivot:Nat}(hb:b<=d.size)(hN:d.size<=65000)(hap:a<=pivot)(hpb:pivot<b):
  Cl Pg 196 [.slice s.p s.len s.cap,.int .i64 (a:Int),.int .i64 (b:Int),.int .i64 (pivot:Int)] true [.sc (.i .i64),.sc .b]
   (λr w'=>r.1=((Sort.partition lt d a b pivot).1:Int)/\Rw w' s (Sort.partition lt d a b pivot).2.2/\Aa (Ai s) w w') w:=by
 refine AR λR hR=>?_;apply DT;unfold CC;dsimp only[Vu];refine Rw.sw h rfl rfl (by omega) (by omega) ?_;intro w1 hd1 hk1;unfold Sort.partition at hR;simp only at hR;generalize hd:Sort.swp d a pivot=d1 at hd1 hR;have hz1:d1.size=d.size:=by rw[<-hd,size_swp]
 rw[Ew (by omega) (by omega),AK (by omega)];refine Xv (by omega) hd1 hk1 (λx=>lt x d1[a]!) (j:=b-1) (by omega) ?_ (by omega) ?_
 ·intro i w2 J h2 hi hJ;exact I9 h2 (λb=>b) rfl rfl (by simp;omega) (by simp;omega) (by congr 1;exact decide_eq_decide.2 (by omega)) hJ
 intro w2 hd2 hk2;generalize hi2:Sort.scanUp (λx=>lt x d1[a]!) d1 (b-1) (a+1)=i2 at hR;have hi2a:a+1<=i2:=by rw[<-hi2];exact Sort.scanUp_ge _ _ _ _
 refine QI (by omega) hd2 hk2 (λx=>!lt x d1[a]!) (i:=i2) (by omega) (by omega) ?_ ?_
 ·intro j w3 J h3 hj hJ;exact I9 h3 (λb=>!b) rfl rfl (by simp;omega) (by simp;omega) (by congr 1;exact decide_eq_decide.2 (by omega)) hJ
 intro w3 hd3 hk3;generalize hj2:Sort.scanDown (λx=>!lt x d1[a]!) d1 i2 (b-1)=j2 at hR;have hj2b:j2<=b-1:=by rw[<-hj2];exact Sort.scanDown_le _ _ _ _
 by_cases hij:i2>j2
 ·rw[decide_eq_true (by omega)];simp only[if_pos hij]at hR;simp only[Br];refine Rw.sw hd3 rfl rfl (by omega) (by omega) ?_;intro w4 hd4 hk4;exact hR _ _ ⟨rfl,hd4,kt hk3 hk4⟩
 ·rw[decide_eq_false (by omega)];simp only[if_neg hij]at hR;simp only[Br];refine Rw.sw hd3 rfl rfl (by omega) (by omega) ?_;intro w4 hd4 hk4;generalize hdd:Sort.swp d1 i2 j2=d2 at hd4 hR;have hz2:d2.size=d.size:=by rw[<-hdd,size_swp];exact hz1
  rw[AK (by omega),Ew (by omega) (by omega)];have hk04:=kt hk3 hk4;refine⟨λm st w'=>∃(i j:Nat) (d':Array Int),st=((i:Int),(j:Int),())/\m=j+1-i/\a<i/\i<=65001/\j<b/\d'.size=d.size/\Sort.partLoop lt a i j d'=Sort.partLoop lt a (i2+1) (j2-1) d2/\Rw w' s d'/\Aa (Ai s) w w',⟨_,i2+1,j2-1,d2,rfl,rfl,by omega,by omega,by omega,hz2,rfl,hd4,hk04⟩,?_⟩;rintro _ _ w5 ⟨i,j,e1,rfl,rfl,hai,hi65,hjb,hze,hpe,he5,hk5⟩;dsimp only;rw[Sort.partLoop_eq]at hpe;refine Xv (by omega) he5 hk5 (λx=>lt x e1[a]!) (j:=j) (by omega) ?_ (by omega) ?_
  ·intro i w2 J h2 hi hJ;exact I9 h2 (λb=>b) rfl rfl (by simp;omega) (by simp;omega) (by congr 1;exact decide_eq_decide.2 (by omega)) hJ
  intro w6 he6 hk6;generalize hi3:Sort.scanUp (λx=>lt x e1[a]!) e1 j i=i3 at hpe;have hi3a:i<=i3:=by rw[<-hi3];exact Sort.scanUp_ge _ _ _ _
  refine QI (by omega) he6 hk6 (λx=>!lt x e1[a]!) (i:=i3) (by omega) (by omega) ?_ ?_
  ·intro j w3 J h3 hj hJ;exact I9 h3 (λb=>!b) rfl rfl (by simp;omega) (by simp;omega) (by congr 1;exact decide_eq_decide.2 (by omega)) hJ
  intro w7 he7 hk7;generalize hj3:Sort.scanDown (λx=>!lt x e1[a]!) e1 i3 j=j3 at hpe;have hj3b:j3<=j:=by rw[<-hj3];exact Sort.scanDown_le _ _ _ _
  by_cases hij3:i3>j3
  ·rw[decide_eq_true (by omega)];rw[if_pos hij3]at hpe;simp only[Br];refine Rw.sw he7 rfl rfl (by omega) (by omega) ?_;intro w8 he8 hk8;rw[<-hpe]at hR;exact hR _ _ ⟨rfl,he8,kt hk7 hk8⟩
  ·rw[decide_eq_false (by omega)];rw[if_neg hij3]at hpe;simp only[Br];refine Rw.sw he7 rfl rfl (by omega) (by omega) ?_;intro w8 he8 hk8;rw[AK (by omega),Ew (by omega) (by omega)];exact⟨(j3-1)+1-(i3+1),by omega,i3+1,j3-1,_,rfl,rfl,by omega,by omega,by omega,by rw[size_swp];exact hze,hpe,he8,kt hk7 hk8⟩
theorem Pq {w:World}(h:Rw w s d){a b pivot:Nat}(hb:b<=d.size)(hN:d.size<=65000)(hap:a<=pivot)(hpb:pivot<b):
  Cl Pg 195 [.slice s.p s.len s.cap,.int .i64 (a:Int),.int .i64 (b:Int),.int .i64 (pivot:Int)] false [.sc (.i .i64)]
   (λr w'=>r.1=((Sort.partitionEqual lt d a b pivot).1:Int)/\Rw w' s (Sort.partitionEqual lt d a b pivot).2/\Aa (Ai s) w w') w:=by
 refine AR λR hR=>?_;apply Dm;unfold Cc;dsimp only[Vu];refine Rw.sw h rfl rfl (by omega) (by omega) ?_;intro w1 hd1 hk1;unfold Sort.partitionEqual at hR;generalize hd:Sort.swp d a pivot=d1 at hd1 hR;have hz1:d1.size=d.size:=by rw[<-hd,size_swp]
 rw[Ew (by omega) (by omega),AK (by omega)];refine⟨λm st w'=>∃(i j:Nat) (d':Array Int),st=((i:Int),(j:Int),())/\m=j+1-i/\a<i/\i<=65001/\j<b/\d'.size=d.size/\Sort.partEqLoop lt a i j d'=Sort.partEqLoop lt a (a+1) (b-1) d1/\Rw w' s d'/\Aa (Ai s) w w',⟨_,a+1,b-1,d1,rfl,rfl,by omega,by omega,by omega,hz1,rfl,hd1,hk1⟩,?_⟩;rintro _ _ w5 ⟨i,j,e1,rfl,rfl,hai,hi65,hjb,hze,hpe,he5,hk5⟩;dsimp only;rw[Sort.partEqLoop_eq]at hpe;refine Xv (by omega) he5 hk5 (λx=>!lt e1[a]! x) (j:=j) (by omega) ?_ (by omega) ?_
 ·intro i w2 J h2 hi hJ;exact I9 h2 (λb=>!b) rfl rfl (by simp;omega) (by simp;omega) (by congr 1;exact decide_eq_decide.2 (by omega)) hJ
 intro w6 he6 hk6;generalize hi3:Sort.scanUp (λx=>!lt e1[a]! x) e1 j i=i3 at hpe;have hi3a:i<=i3:=by rw[<-hi3];exact Sort.scanUp_ge _ _ _ _
 refine QI (by omega) he6 hk6 (λx=>lt e1[a]! x) (i:=i3) (by omega) (by omega) ?_ ?_
 ·intro j w3 J h3 hj hJ;exact I9 h3 (λb=>b) rfl rfl (by simp;omega) (by simp;omega) (by congr 1;exact decide_eq_decide.2 (by omega)) hJ
 intro w7 he7 hk7;generalize hj3:Sort.scanDown (λx=>lt e1[a]! x) e1 i3 j=j3 at hpe;have hj3b:j3<=j:=by rw[<-hj3];exact Sort.scanDown_le _ _ _ _
 by_cases hij3:i3>j3
 ·rw[decide_eq_true (by omega)];rw[if_pos hij3]at hpe;rw[<-hpe]at hR;exact hR _ _ ⟨rfl,he7,hk7⟩
 ·rw[decide_eq_false (by omega)];rw[if_neg hij3]at hpe;simp only[Br];refine Rw.sw he7 rfl rfl (by omega) (by omega) ?_;intro w8 he8 hk8;rw[AK (by omega),Ew (by omega) (by omega)];exact⟨(j3-1)+1-(i3+1),by omega,i3+1,j3-1,_,rfl,rfl,by omega,by omega,by omega,by rw[size_swp];exact hze,hpe,he8,kt hk7 hk8⟩
theorem N7 {w:World}(h:Rw w s d){a b:Nat}(hb:b<=d.size)(hN:d.size<=65000)(hab:a<b):
  Cl Pg 193 [.slice s.p s.len s.cap,.int .i64 (a:Int),.int .i64 (b:Int)] false [.sc .b]
   (λr w'=>r.1=(Sort.partialInsertionSort lt d a b).2/\Rw w' s (Sort.partialInsertionSort lt d a b).1/\Aa (Ai s) w w') w:=by
 refine AR λR hR=>?_;apply C5;unfold B6;dsimp only[Vu];rw[AK (by omega)];unfold Sort.partialInsertionSort at hR;refine⟨λm st w'=>∃(i t:Nat) (d':Array Int),st=(false,(i:Int),((5-t:Nat):Int),())/\m=t/\t<=5/\a+1<=i/\i<=b/\d'.size=d.size/\Sort.partialIns lt a b t i d'=Sort.partialIns lt a b 5 (a+1) d/\Rw w' s d'/\Aa (Ai s) w w',⟨_,a+1,5,d,rfl,rfl,Nat.le_refl _,Nat.le_refl _,by omega,rfl,rfl,h,Aa.refl _ _⟩,?_⟩;rintro t _ w1 ⟨i,_,d1,rfl,rfl,ht,hai,hib,hz1,he1,hd1,hk1⟩;dsimp only;cases t with
 |zero=>
  rw[decide_eq_false (by omega)];refine hR _ _ ⟨?_,?_,hk1⟩
  ·rw[<-he1];rfl
  ·rw[<-he1];exact hd1
 |succ t=>
  rw[decide_eq_true (by omega)];simp only[Br];rw[Sort.partialIns]at he1;refine AG (λst w'=>∃(i':Nat) (d':Array Int),st=(false,(i':Int),())/\a+1<=i'/\i'<=b/\d'.size=d.size/\Sort.partialIns lt a b t i' d'=Sort.partialIns lt a b 5 (a+1) d/\Rw w' s d'/\Aa (Ai s) w w') ?_ ?_
  ·intro J3 hJ3;refine QU (stp:=λx=>An (x+1)) (λk w'=>i<=k/\k<=b/\Sort.scanSorted lt d1 b k=Sort.scanSorted lt d1 b i/\Rw w' s d1/\Aa (Ai s) w w') (λk=>(k:Int)) (λk=>decide (k<b)&&!lt d1[k]! d1[k-1]!) (λk=>k+1) (λk=>b-k) ?_ ?_ ?_ ⟨Nat.le_refl _,hib,rfl,hd1,hk1⟩
   ·rintro k w2 ⟨h1,h2,h3,h4,h5⟩ J hJ;rw[Ew (by omega) (by omega)];exact I9 h4 (λb=>!b) rfl rfl (by simp;omega) (by simp;omega) (by congr 1;exact decide_eq_decide.2 (by omega)) λw3 h6 h7=>hJ w3 ⟨h1,h2,h3,h6,kt h5 h7⟩
   ·rintro k w2 ⟨h1,h2,h3,h4,h5⟩ hc;have hkb:k<b:=by simp at hc;exact hc.1
    refine⟨AK (by omega),by omega,by omega,by omega,?_,h4,h5⟩;rw[<-h3]
    conv=>rhs;rw[Sort.scanSorted,if_pos hc]
   ·rintro k w2 ⟨h1,h2,h3,h4,h5⟩ hc;have hk:Sort.scanSorted lt d1 b k=k:=by rw[Sort.scanSorted,if_neg (by rw[hc];simp)]
    rw[hk]at h3;simp only[<-h3]at he1;by_cases hkb:k=b
    ·rw[show(((k:Int))==(b:Int))=true from by simp[hkb]];rw[if_pos hkb]at he1;rw[<-he1]at hR;exact hR _ _ ⟨rfl,h4,h5⟩
    ·rw[show(((k:Int))==(b:Int))=false from by simp;omega];rw[if_neg hkb]at he1;simp only[Br];rw[N0 rfl rfl (by omega) (by omega)];by_cases h50:b-a<50
     ·rw[decide_eq_true (by omega)];rw[if_pos h50]at he1;rw[<-he1]at hR;exact hR _ _ ⟨rfl,h4,h5⟩
     ·rw[decide_eq_false (by omega)];rw[if_neg h50]at he1;simp only[Br];rw[Ew (by omega) (by omega)];refine Rw.sw h4 rfl rfl (by omega) (by omega) ?_;intro w3 hd3 hk3;generalize hdd:Sort.swp d1 k (k-1)=d2 at hd3 he1;have hz2:d2.size=d.size:=by rw[<-hdd,size_swp];exact hz1
      refine AG (λ_ w'=>∃d3,d3.size=d.size/\(if k-a>=2 then Sort.shiftDown lt (k-1) d2 else d2)=d3/\Rw w' s d3/\Aa (Ai s) w w') ?_ ?_
      ·intro J15 hJ15;rw[N0 rfl rfl (by omega) (by omega)];by_cases hka:k-a>=2
       ·rw[decide_eq_true (by omega)];rw[if_pos hka]at hJ15;simp only[Br];refine⟨λm st w'=>∃(j:Nat) (d':Array Int),st=((j:Int),())/\m=j/\j<b/\d'.size=d.size/\Sort.shiftDown lt j d'=Sort.shiftDown lt (k-1) d2/\Rw w' s d'/\Aa (Ai s) w w',⟨_,k-1,d2,rfl,rfl,by omega,hz2,rfl,hd3,kt h5 hk3⟩,?_⟩;rintro j _ w4 ⟨_,d3,rfl,rfl,hjb,hz3,hs3,hd4,hk4⟩;dsimp only;cases j with
        |zero=>
         rw[decide_eq_false (by omega)];exact hJ15 _ _ ⟨d3,hz3,hs3.symm,hd4,hk4⟩
        |succ j=>
         rw[decide_eq_true (by omega)];simp only[Br,Dr];rw[Ew (by omega) (by omega),Nat.add_sub_cancel];have hkd:Aa (Ai s) w4 w4.drew:=(Aa.refl _ _).drew;refine Rw.rd (w:=w4.drew) hd4.dr rfl (by omega) ?_;refine Rw.rd (w:=w4.drew) hd4.dr rfl (by omega) ?_;refine Cl.mono (IF _ _) ?_;rintro⟨r,_⟩ _ ⟨rfl,hr⟩;simp only at hr;rw[Sort.shiftDown]at hs3;cases hl:lt d3[j+1]! d3[j]! with
         |false=>
          rw[hl]at hr hs3;subst hr;exact hJ15 _ _ ⟨d3,hz3,by rw[<-hs3];rfl,hd4.dr,kt hk4 hkd⟩
         |true=>
          rw[hl]at hr hs3;subst hr;simp only[Bool.not_true];refine Rw.sw (w:=w4.drew) hd4.dr rfl rfl (by omega) (by omega) ?_;intro w5 hd5 hk5;exact⟨j,by omega,j,_,rfl,rfl,by omega,by rw[size_swp];exact hz3,by simpa using hs3,hd5,kt (kt hk4 hkd) hk5⟩
       ·rw[decide_eq_false (by omega)];rw[if_neg hka]at hJ15;exact hJ15 _ _ ⟨d2,hz2,rfl,hd3,kt h5 hk3⟩
      ·rintro _ w4 ⟨d3,hz3,hs3,hd4,hk4⟩;simp only[hs3]at he1;rw[N0 rfl rfl (by omega) (by omega)];by_cases hkb2:b-k>=2
       ·rw[decide_eq_true (by omega)];rw[if_pos hkb2]at he1;simp only[Br];rw[AK (by omega)];refine⟨λm st w'=>∃(j:Nat) (d':Array Int),st=((j:Int),())/\m=b-j/\k+1<=j/\j<=b/\d'.size=d.size/\Sort.shiftUp lt b j d'=Sort.shiftUp lt b (k+1) d3/\Rw w' s d'/\Aa (Ai s) w w',⟨_,k+1,d3,rfl,rfl,by omega,by omega,hz3,rfl,hd4,hk4⟩,?_⟩;rintro _ _ w5 ⟨j,d4,rfl,rfl,hkj,hjb,hz4,hs4,hd5,hk5⟩;dsimp only;rw[Sort.shiftUp]at hs4;by_cases hjb2:j<b
        ·rw[decide_eq_true (by omega)];rw[if_pos hjb2]at hs4;simp only[Br,Dr];rw[Ew (by omega) (by omega)];have hkd:Aa (Ai s) w5 w5.drew:=(Aa.refl _ _).drew;refine Rw.rd (w:=w5.drew) hd5.dr rfl (by omega) ?_;refine Rw.rd (w:=w5.drew) hd5.dr rfl (by omega) ?_;refine Cl.mono (IF _ _) ?_;rintro⟨r,_⟩ _ ⟨rfl,hr⟩;simp only at hr;cases hl:lt d4[j]! d4[j-1]! with
         |false=>
          rw[hl]at hr hs4;subst hr;refine hJ3 _ _ ⟨k,d4,rfl,by omega,by omega,hz4,?_,hd5.dr,kt hk5 hkd⟩;rw[<-he1,<-hs4];rfl
         |true=>
          rw[hl]at hr hs4;subst hr;simp only[Bool.not_true];refine Rw.sw (w:=w5.drew) hd5.dr rfl rfl (by omega) (by omega) ?_;intro w6 hd6 hk6;exact⟨b-(j+1),by omega,j+1,_,by rw[AK (by omega)],rfl,by omega,by omega,by rw[size_swp];exact hz4,by simpa using hs4,hd6,kt (kt hk5 hkd) hk6⟩
        ·rw[decide_eq_false (by omega)];rw[if_neg hjb2]at hs4;refine hJ3 _ _ ⟨k,d4,rfl,by omega,by omega,hz4,?_,hd5,hk5⟩;rw[<-he1,<-hs4]
       ·rw[decide_eq_false (by omega)];rw[if_neg hkb2]at he1;exact hJ3 _ _ ⟨k,d3,rfl,by omega,by omega,hz3,he1,hd4,hk4⟩
  ·rintro _ w2 ⟨i',d',rfl,h1,h2,h3,h4,h5,h6⟩;refine⟨t,by omega,i',t,d',?_,rfl,by omega,h1,h2,h3,h4,h5,h6⟩;rw[By (by omega) (by omega)]
   congr 3
   omega
open Go Go.Sx
theorem AjI (z:Int):∃n:Nat,IntKind.u64.wrap z=(n:Int)/\n<18446744073709551616:=by
 refine⟨(z % 18446744073709551616).toNat,?_,?_⟩
 ·simp[IntKind.wrap,IntKind.signed,IntKind.bits];omega
 ·omega
def AkT (s:ByteArray):Bool:=(List.range 256).all λi=>match s[i]? with
 |some b=>decide (b.toNat<=8)&&(decide (i=0)||decide (2 ^ b.toNat<=2*i))
 |none=>false
theorem AfQ {w:World}{s:ByteArray}(h:AkT s=true){i:Nat}(hi:i<256){K:Int->Pr}(k:∀b:Nat,b<=8->(1<=i->2 ^ b<=2*i)->K (b:Int) w):IxS s (i:Int) K w:=by
 have:=(List.all_eq_true.1 h) i (List.mem_range.2 hi);refine⟨by omega,?_⟩;rw[Int.toNat_natCast];split at this
 ·rename_i b hb;simp only[Bool.and_eq_true,Bool.or_eq_true,decide_eq_true_eq]at this;exact⟨b,hb,k b.toNat this.1 (λh1=>by rcases this.2 with h'|h';omega;exact h')⟩
 ·cases this
theorem Aeg {w:World}{x:Nat}(hx:x<65536):Cl Pg 88 [.int .u64 (x:Int)] false [.sc (.i .i64)] (λr w'=>∃n:Nat,r.1=(n:Int)/\n<=16/\(1<=x->2 ^ n<=2*x)/\w=w') w:=by
 refine AR λR hR=>?_;apply OG;unfold Oj;dsimp only[Vu];refine Cl.mono (K:=λ(r:TR [.sc (.i .i64)]) w'=>∃n:Nat,r.1=(n:Int)/\n<=16/\(1<=x->2 ^ n<=2*x)/\w=w') ?_ (λr w' h=>hR _ _ h);refine AR λR' hR'=>?_;apply MB;unfold LH;refine AG (λst w'=>st=((x:Int),0,())/\w=w') (λJ hJ=>?_) ?_
 ·rw[decide_eq_false (by omega)];exact hJ _ _ ⟨rfl,rfl⟩
 rintro _ _ ⟨rfl,rfl⟩;refine AG (λst w'=>st=((x:Int),0,())/\w=w') (λJ hJ=>?_) ?_
 ·dsimp only;rw[decide_eq_false (by omega)];exact hJ _ _ ⟨rfl,rfl⟩
 rintro _ _ ⟨rfl,rfl⟩;refine AG (λst w'=>∃y m:Nat,st=((y:Int),(m:Int),())/\w=w'/\y<256/\m<=8/\(1<=x->1<=y/\2 ^ m*y<=x)) (λJ hJ=>?_) ?_
 ·dsimp only;by_cases h:x>=256
  ·rw[decide_eq_true (by omega)];simp only[Br];refine⟨by decide,?_⟩;rw[show IW .u64 (x:Int) 8=((x >>> 8:Nat):Int)from PI .u64 x 8 (by decide)];rw[Nat.shiftRight_eq_div_pow];exact hJ _ _ ⟨x / 2 ^ 8,8,by rw[By (by omega) (by omega)];rfl,rfl,by omega,by omega,λ_=>⟨by omega,by omega⟩⟩
  ·rw[decide_eq_false (by omega)];exact hJ _ _ ⟨x,0,rfl,rfl,by omega,by omega,λh=>⟨h,by omega⟩⟩
 ·rintro _ _ ⟨y,m,rfl,rfl,hy,hm,hxy⟩;dsimp only;rw[MR,Nat.mod_eq_of_lt hy];refine AfQ (by kernel_rfl) hy ?_;intro b hb hpb;rw[By (n:=(b:Int)) (by omega) (by omega),Oq rfl rfl (by omega)];refine hR' _ _ ⟨m+b,rfl,by omega,λh=>?_,rfl⟩;obtain⟨h1,h2⟩:=hxy h;have h3:=hpb h1;rw[Nat.pow_add]
  calc 2 ^ m*2 ^ b<=2 ^ m*(2*y):=Nat.mul_le_mul_left _ h3
   _=2*(2 ^ m*y):=by rw[Nat.mul_left_comm]
   _<=2*x:=Nat.mul_le_mul_left _ h2
theorem Aiy {w:World}{x:Nat}(hx:x<65536)(h0:1<=x):Cl Pg 261 [.int .i64 (x:Int)] false [.sc (.i .u64)] (λr w'=>∃n:Nat,r.1=(n:Int)/\1<=n/\n<=2*x/\w=w') w:=by
 refine AR λR hR=>?_;apply Ho;unfold EX;dsimp only[Vu];rw[B1 (by omega)];refine Cl.mono (Aeg hx) ?_;rintro⟨r,_⟩ _ ⟨n,hr,hn,hp,rfl⟩;simp only at hr;subst hr;refine⟨by omega,?_⟩;rw[show Adw .u64 (1:Int) (n:Int)=((1 <<< n % 2 ^ 64:Nat):Int)from Af9 1 n (by omega)];rw[Nat.shiftLeft_eq,Nat.one_mul];have h2:2 ^ n<=2 ^ 16:=Nat.pow_le_pow_right (by omega) hn;have h3:1<=2 ^ n:=Nat.one_le_two_pow;rw[Nat.mod_eq_of_lt (by omega)];exact hR _ _ ⟨2 ^ n,rfl,h3,hp h0,rfl⟩
theorem AgM {w:World}{c:Nat}{t:TypeId}(h:w.heap[c]?=some (.cells #[.int .u64 x] t (0,0))):
  Cl Pg 262 [.pointer (some ⟨c,0,none⟩)] false [.sc (.i .u64)] (λr w'=>(∃n:Nat,r.1=(n:Int)/\n<18446744073709551616)/\(∃y:Int,w'.heap[c]?=some (.cells #[.int .u64 y] t (0,0)))/\Aa [c] w w') w:=by
 refine AR λR hR=>?_;apply Ia;unfold FL;dsimp only[Vu];simp only[Dr,Nn];have k0:Aa [c] w w.drew:=(Aa.refl _ _).drew;refine Lh (i:=0) (w:=w.drew) h rfl ?_;refine Lh (i:=0) (w:=w.drew) h rfl ?_;refine⟨by decide,?_⟩;refine Ax (w:=w.drew) h 0 _ rfl (by simp) ?_;intro w1 h1 k1;have k1d:Aa [c] w w1.drew:=(k0.trans k1 (by simp)).drew;refine Lh (i:=0) (w:=w1.drew) h1 rfl ?_;refine Lh (i:=0) (w:=w1.drew) h1 rfl ?_;refine⟨by decide,?_⟩;refine Ax (w:=w1.drew) h1 0 _ rfl (by simp) ?_;intro w2 h2 k2;have k2d:Aa [c] w w2.drew:=(k1d.trans k2 (by simp)).drew;refine Lh (i:=0) (w:=w2.drew) h2 rfl ?_;refine Lh (i:=0) (w:=w2.drew) h2 rfl ?_;refine⟨by decide,?_⟩;refine Ax (w:=w2.drew) h2 0 _ rfl (by simp) ?_;intro w3 h3 k3;refine Lh (i:=0) h3 rfl ?_;refine hR _ _ ⟨?_,⟨_,h3⟩,k2d.trans k3 (by simp)⟩;obtain⟨n,hn,hl⟩:=AjI (((BitVec.ofInt IntKind.u64.bits _) ^^^ (BitVec.ofInt IntKind.u64.bits _)).toNat:Int);exact⟨n,hn,hl⟩
theorem Q5 {w:World}(h:Rw w s d){a b:Nat}(hb:b<=d.size)(hN:d.size<=65000)(hab:a+12<b):
  Cl Pg 190 [.slice s.p s.len s.cap,.int .i64 (a:Int),.int .i64 (b:Int)] true [] (λ_ w'=>∃d',Sort.PermIn a b d d'/\Rw w' s d'/\Aa (Ai s) w w') w:=by
 refine AR λR hR=>?_;apply Dw;unfold Cf;dsimp only[Vi,Vp,Vu];rw[N0 rfl rfl (by omega) (by omega),decide_eq_true (by omega)];simp only[Br,At];generalize hc:w.heap.size=c;generalize hw1:w.alloc _=w1;have h1:w1.heap[c]?=some (.cells #[.int .u64 0] 315 (0,0)):=by rw[<-hw1,<-hc];exact Bt w _
 have k1:Aa [] w w1:=by rw[<-hw1];exact(Aa.refl _ _).alloc _
 have hcs:c∉Ai s:=λhh=>by have:=AE.lt h c hh;omega
 refine Ax h1 0 _ rfl (by simp) ?_;intro w2 h2 k2;have k02:Aa [] w w2:=k1.trans k2 (by simp;omega);have hd2:Rw w2 s d:=AE.keeps h k02 (by simp);refine Cl.mono (Aiy (x:=b-a) (by omega) (by omega)) ?_;rintro⟨m,_⟩ _ ⟨m,hm,hm1,hm2,rfl⟩;simp only at hm;subst hm;refine⟨by decide,?_⟩;rw[show((b-a:Nat):Int).tdiv 4=(((b-a) / 4:Nat):Int)from TX _ 4];rw[Tx (n:=(b-a) / 4) (by omega)];rw[show An ((((b-a) / 4:Nat):Int)*2)=(((b-a) / 4*2:Nat):Int)from by rw[By (by omega) (by omega)];omega];rw[Oq rfl rfl (by omega),Ew (by omega) (by omega),AK (by omega)];generalize hq:(b-a) / 4*2=q;have hqa:q>=6:=by omega
 have hqb:a+q+1<b:=by omega
 have hwm:IntKind.u64.wrap ((m:Int)-1)=((m-1:Nat):Int):=by
  rw[show(m:Int)-1=((m-1:Nat):Int)from by omega];exact B1 (by omega)
 rw[hwm];have k02':Aa (c::Ai s) w w2:=k02.mono (by simp);refine⟨λn st w'=>∃(i:Nat) (d':Array Int),st=((i:Int),())/\n=a+q+2-i/\a+q-1<=i/\i<=a+q+2/\Sort.PermIn a b d d'/\Rw w' s d'/\(∃y:Int,w'.heap[c]?=some (.cells #[.int .u64 y] 315 (0,0)))/\Aa (c::Ai s) w w',⟨_,a+q-1,d,rfl,rfl,Nat.le_refl _,by omega,Sort.permIn_refl _ _ _,hd2,⟨_,by simpa using h2⟩,k02'⟩,?_⟩;rintro _ _ w3 ⟨i,d1,rfl,rfl,hi1,hi2,hp1,hd3,⟨y,hy⟩,hk3⟩;dsimp only;have hz1:d1.size=d.size:=hp1.1;refine⟨by decide,?_⟩;by_cases hi:i<=a+q+1
 ·rw[decide_eq_true (by omega)];simp only[Br];refine Cl.mono (AgM hy) ?_;rintro⟨r,_⟩ w4 ⟨⟨r,hr,hrl⟩,hy4,hk4⟩;simp only at hr;subst hr;have hd4:Rw w4 s d1:=AE.keeps hd3 hk4 (λx hx=>by simp;rintro rfl;exact hcs hx);have hk04:Aa (c::Ai s) w w4:=hk3.trans hk4 (by simp);rw[Ae3 (by omega) (by omega)];have hand:r &&& (m-1)<=m-1:=Nat.and_le_right;rw[Tx (by omega)];refine AG (λst w'=>∃o:Nat,st=((o:Int),())/\o<b-a/\w4=w') ?_ ?_
  ·intro J hJ;by_cases ho:(r &&& (m-1))>=b-a
   ·rw[decide_eq_true (by omega)];refine hJ _ _ ⟨_,by rw[N0 rfl rfl (by omega) (by omega)],by omega,rfl⟩
   ·rw[decide_eq_false (by omega)];exact hJ _ _ ⟨_,rfl,by omega,rfl⟩
  ·rintro _ _ ⟨o,rfl,ho,rfl⟩;rw[Oq rfl rfl (by omega)];refine Rw.sw hd4 rfl rfl (by omega) (by omega) ?_;intro w5 hd5 hk5;refine⟨a+q+2-(i+1),by omega,i+1,_,by rw[AK (by omega)],rfl,by omega,by omega,Sort.permIn_trans _ _ _ _ _ hp1 (Sort.swp_permIn _ _ _ _ _ (by omega) (by omega) (by omega) (by omega) (by omega)),hd5,?_,hk04.trans hk5 (λx hx=>.inl (by simp[hx]))⟩;obtain⟨y4,hy4⟩:=hy4;exact⟨y4,hk5.at hy4 hcs⟩
 ·rw[decide_eq_false (by omega)];refine hR _ _ ⟨d1,hp1,hd3,hk3.mono (λx hx=>?_)⟩;rcases List.mem_cons.1 hx with rfl|hx
  ·right;omega
  ·exact .inl hx
def Cnt (w:World)(c:Nat):Prop:=∃y:Int,w.heap[c]?=some (.cells #[.int .i64 y] 3 (0,0))
theorem Q0 {w:World}(h:Rw w s d){c:Nat}(hc:Cnt w c)(hcs:c∉Ai s){a b:Nat}(ha:a<d.size)(hb:b<d.size):
  Cl Pg 292 [.slice s.p s.len s.cap,.int .i64 (a:Int),.int .i64 (b:Int),.pointer (some ⟨c,0,none⟩)] true [.sc (.i .i64),.sc (.i .i64)]
   (λr w'=>(r=((a:Int),(b:Int),())\/r=((b:Int),(a:Int),()))/\Cnt w' c/\Rw w' s d/\Aa [c] w w') w:=by
 refine AR λR hR=>?_;apply EF;unfold Dt;dsimp only[Vi,Vu];obtain⟨y,hy⟩:=hc;simp only[Dr];have k0:Aa [c] w w.drew:=(Aa.refl _ _).drew;refine Rw.rd (w:=w.drew) h.dr rfl hb ?_;refine Rw.rd (w:=w.drew) h.dr rfl ha ?_;refine Cl.mono (IF _ _) ?_;rintro⟨r,_⟩ _ ⟨rfl,hr⟩;simp only at hr;cases hl:lt d[b]! d[a]! with
 |false=>
  rw[hl]at hr;subst hr;exact hR _ _ ⟨.inl rfl,⟨y,hy⟩,h.dr,k0⟩
 |true=>
  rw[hl]at hr;subst hr;simp only[Br,Nn];refine Lh (i:=0) (w:=w.drew) hy rfl ?_;refine Ax (w:=w.drew) hy 0 _ rfl (by simp) ?_;intro w1 h1 k1;have k01:Aa [c] w w1:=k0.trans k1 (by simp);exact hR _ _ ⟨.inr rfl,⟨_,h1⟩,AE.keeps h k01 (λx hx=>by simp;rintro rfl;exact hcs hx),k01⟩
theorem Wi {w:World}(h:Rw w s d){c:Nat}(hc:Cnt w c)(hcs:c∉Ai s){i j k:Nat}(hi:i<d.size)(hj:j<d.size)(hk:k<d.size):
  Cl Pg 264 [.slice s.p s.len s.cap,.int .i64 (i:Int),.int .i64 (j:Int),.int .i64 (k:Int),.pointer (some ⟨c,0,none⟩)] false [.sc (.i .i64)]
   (λr w'=>(∃p:Nat,r.1=(p:Int)/\(p=i\/p=j\/p=k))/\Cnt w' c/\Rw w' s d/\Aa [c] w w') w:=by
 refine AR λR hR=>?_;apply EN;unfold Ds;dsimp only[Vi,Vp,Vs];refine Cl.mono (Q0 h hc hcs hi hj) ?_;rintro r1 w1 ⟨hr1,hc1,hd1,hk1⟩;obtain⟨p,q,rfl,hpq⟩:∃p q:Nat,r1=((p:Int),(q:Int),())/\((p=i/\q=j)\/(p=j/\q=i)):=by
  rcases hr1 with rfl|rfl
  ·exact⟨i,j,rfl,.inl ⟨rfl,rfl⟩⟩
  ·exact⟨j,i,rfl,.inr ⟨rfl,rfl⟩⟩
 dsimp only;refine Cl.mono (Q0 hd1 hc1 hcs (a:=q) (b:=k) (by omega) hk) ?_;rintro r2 w2 ⟨hr2,hc2,hd2,hk2⟩;obtain⟨u,v,rfl,huv⟩:∃u v:Nat,r2=((u:Int),(v:Int),())/\((u=q/\v=k)\/(u=k/\v=q)):=by
  rcases hr2 with rfl|rfl
  ·exact⟨q,k,rfl,.inl ⟨rfl,rfl⟩⟩
  ·exact⟨k,q,rfl,.inr ⟨rfl,rfl⟩⟩
 dsimp only;refine Cl.mono (Q0 hd2 hc2 hcs (a:=p) (b:=u) (by omega) (by omega)) ?_;rintro r3 w3 ⟨hr3,hc3,hd3,hk3⟩;refine hR _ _ ⟨?_,hc3,hd3,(hk1.trans hk2 (by simp)).trans hk3 (by simp)⟩;rcases hr3 with rfl|rfl
 ·exact⟨u,rfl,by omega⟩
 ·exact⟨p,rfl,by omega⟩
theorem Aaw {w:World}(h:Rw w s d)(hN:d.size<=65000){c:Nat}(hc:Cnt w c)(hcs:c∉Ai s){i:Nat}(hi:1<=i)(hi1:i+1<d.size):
  Cl Pg 263 [.slice s.p s.len s.cap,.int .i64 (i:Int),.pointer (some ⟨c,0,none⟩)] false [.sc (.i .i64)]
   (λr w'=>(∃p:Nat,r.1=(p:Int)/\i-1<=p/\p<=i+1)/\Cnt w' c/\Rw w' s d/\Aa [c] w w') w:=by
 refine AR λR hR=>?_;apply Dg;unfold Cb;dsimp only[Vi,Vp,Vs];rw[Ew (by omega) (by omega),AK (by omega)];refine Cl.mono (Wi h hc hcs (by omega) (by omega) (by omega)) ?_;rintro⟨r,_⟩ w1 ⟨⟨p,hp,hpp⟩,h2,h3,h4⟩;exact hR _ _ ⟨⟨p,hp,by omega,by omega⟩,h2,h3,h4⟩
theorem Ua {w:World}(h:Rw w s d){a b:Nat}(hb:b<=d.size)(hN:d.size<=65000)(hab:a+12<b):
  Cl Pg 191 [.slice s.p s.len s.cap,.int .i64 (a:Int),.int .i64 (b:Int)] true [.sc (.i .i64),.sc (.i .i64)]
   (λr w'=>(∃p:Nat,r.1=(p:Int)/\a<=p/\p<b)/\Rw w' s d/\Aa [] w w') w:=by
 refine AR λR hR=>?_;apply DM;unfold Cx;dsimp only[Vi,Vp,Vs];simp only[At];generalize hc:w.heap.size=c;generalize hw1:w.alloc _=w1;have h1:Cnt w1 c:=⟨0,by rw[<-hw1,<-hc];exact Bt w _⟩;have k1:Aa [] w w1:=by rw[<-hw1];exact(Aa.refl _ _).alloc _
 have hcs:c∉Ai s:=λhh=>by have:=AE.lt h c hh;omega
 have hd1:Rw w1 s d:=h.keeps k1;refine⟨by decide,by decide,by decide,?_⟩;rw[N0 rfl rfl (by omega) (by omega)];rw[show((b-a:Nat):Int).tdiv 4=(((b-a) / 4:Nat):Int)from TX _ 4];rw[Tx (n:=(b-a) / 4) (by omega)];generalize hq:(b-a) / 4=q;have hq3:3<=q:=by omega
 have hq4:a+q*3+1<b:=by omega
 rw[show An ((q:Int)*1)=((q:Nat):Int)from by rw[By (by omega) (by omega)];omega];rw[show An ((q:Int)*2)=((q*2:Nat):Int)from by rw[By (by omega) (by omega)];omega];rw[show An ((q:Int)*3)=((q*3:Nat):Int)from by rw[By (by omega) (by omega)];omega];rw[Oq (i:=a) (j:=q) rfl rfl (by omega),Oq (i:=a) (j:=q*2) rfl rfl (by omega),Oq (i:=a) (j:=q*3) rfl rfl (by omega)];have kc:∀{w':World},Aa [c] w1 w'->Aa [] w w':=λk=>k1.trans k (by simp;omega);refine AG (λst w'=>(∃p:Nat,st=((p:Int),())/\a<=p/\p<b)/\Cnt w' c/\Rw w' s d/\Aa [] w w') ?_ ?_
 ·intro J2 hJ2;rw[decide_eq_true (by omega)];simp only[Br];refine AG (λst w'=>(∃i j k:Nat,st=((i:Int),(j:Int),(k:Int),())/\a<=i/\i<b/\a<=j/\j<b/\a<=k/\k<b)/\Cnt w' c/\Rw w' s d/\Aa [c] w1 w') ?_ ?_
  ·intro J5 hJ5;by_cases h50:b-a>=50
   ·rw[decide_eq_true (by omega)];simp only[Br];refine Cl.mono (Aaw hd1 hN h1 hcs (by omega) (by omega)) ?_;rintro⟨r8,_⟩ w2 ⟨⟨i,hi,hi1,hi2⟩,hc2,hd2,hk2⟩;simp only at hi;subst hi;refine Cl.mono (Aaw hd2 hN hc2 hcs (by omega) (by omega)) ?_;rintro⟨r9,_⟩ w3 ⟨⟨j,hj,hj1,hj2⟩,hc3,hd3,hk3⟩;simp only at hj;subst hj;refine Cl.mono (Aaw hd3 hN hc3 hcs (by omega) (by omega)) ?_;rintro⟨r10,_⟩ w4 ⟨⟨k,hk,hk1,hk2'⟩,hc4,hd4,hk4⟩;simp only at hk;subst hk;exact hJ5 _ _ ⟨⟨i,j,k,rfl,by omega,by omega,by omega,by omega,by omega,by omega⟩,hc4,hd4,(hk2.trans hk3 (by simp)).trans hk4 (by simp)⟩
   ·rw[decide_eq_false (by omega)];exact hJ5 _ _ ⟨⟨_,_,_,rfl,by omega,by omega,by omega,by omega,by omega,by omega⟩,h1,hd1,Aa.refl _ _⟩
  ·rintro _ w2 ⟨⟨i,j,k,rfl,hi1,hi2,hj1,hj2,hk1,hk2⟩,hc2,hd2,hk⟩;dsimp only;refine Cl.mono (Wi hd2 hc2 hcs (by omega) (by omega) (by omega)) ?_;rintro⟨r,_⟩ w3 ⟨⟨p,hp,hpp⟩,hc3,hd3,hk3⟩;simp only at hp;subst hp;exact hJ2 _ _ ⟨⟨p,rfl,by omega,by omega⟩,hc3,hd3,kc (hk.trans hk3 (by simp))⟩
 ·rintro _ w2 ⟨⟨p,rfl,hp1,hp2⟩,⟨y,hy⟩,hd2,hk2⟩;refine Lh (i:=0) hy rfl ?_;refine Afz (λ_=>?_) (λ_=>Afz (λ_=>?_) (λ_=>?_))<;>exact hR _ _ ⟨⟨p,rfl,hp1,hp2⟩,hd2,hk2⟩
theorem AiP :∀(n:Nat) {w:World} {d:Array Int} (_h:Rw w s d) {a b lim:Nat} (_hb:b<=d.size) (_hN:d.size<=65000) (_hab:a<=b) (_hn:b-a<=n) (_hl:lim<=65000) (_hB:Sort.Below lt a b d),
  Cl Pg 87 [.slice s.p s.len s.cap,.int .i64 (a:Int),.int .i64 (b:Int),.int .i64 (lim:Int)] true [] (λ_ w'=>∃d',Sort.PermIn a b d d'/\Sort.SortedIn lt a b d'/\Rw w' s d'/\Aa (Ai s) w w') w:=by
 intro n;induction n using Nat.strongRecOn with
 |_ n ih=>
 intro w d h a b lim hb hN hab hn hl hB;have hS:=Sort.swo_ltInt;refine AR λR hR=>?_;apply Et;unfold Dc;dsimp only[Vi,Vs,Vu];refine⟨λm st w'=>∃(a' b' l':Nat) (wb wp:Bool) (d':Array Int),st=((a':Int),(b':Int),(l':Int),wb,wp,())/\m=b'-a'/\m<=n/\a'<=b'/\b'<=d.size/\l'<=65000/\d'.size=d.size/\Sort.Below lt a' b' d'/\(∀R,Sort.PermIn a' b' d' R->Sort.SortedIn lt a' b' R->Sort.PermIn a b d R/\Sort.SortedIn lt a b R)/\Rw w' s d'/\Aa (Ai s) w w',⟨_,a,b,lim,true,true,d,rfl,rfl,hn,hab,hb,hl,rfl,hB,λR h1 h2=>⟨h1,h2⟩,h,Aa.refl _ _⟩,?_⟩;rintro _ _ w1 ⟨a,b,lim,wb,wp,d1,rfl,rfl,hmn,hab,hbd,hlim,hz1,hB1,hend,hd1,hk1⟩;dsimp only;rw[N0 rfl rfl hab (by omega)];by_cases h12:b-a<=12
 ·rw[decide_eq_true (by omega)];simp only[Br];refine Cl.mono (Xl hd1 (by omega) (by omega) hab) ?_;rintro _ w2 ⟨hd2,hk2⟩;obtain⟨p1,p2⟩:=Sort.insertionSort_holds hS d1 a b hab (by omega);obtain⟨e1,e2⟩:=hend _ p1 p2;exact hR _ _ ⟨_,e1,e2,hd2,kt hk1 hk2⟩
 rw[decide_eq_false (by omega)];simp only[Br];by_cases hl0:lim=0
 ·rw[show((lim:Int)==0)=true from by simp[hl0]];simp only;refine Cl.mono (YK hd1 (by omega) (by omega) (by omega)) ?_;rintro _ w2 ⟨hd2,hk2⟩;obtain⟨p1,p2⟩:=Sort.heapSort_holds hS d1 a b hab (by omega);obtain⟨e1,e2⟩:=hend _ p1 p2;exact hR _ _ ⟨_,e1,e2,hd2,kt hk1 hk2⟩
 rw[show((lim:Int)==0)=false from by simp;omega];simp only;refine AG (λst w'=>∃(l':Nat) (d':Array Int),st=((l':Int),())/\l'<=65000/\Sort.PermIn a b d1 d'/\Rw w' s d'/\Aa (Ai s) w w') ?_ ?_
 ·intro J hJ;cases wb with
  |true=>exact hJ _ _ ⟨lim,d1,rfl,hlim,Sort.permIn_refl _ _ _,hd1,hk1⟩
  |false=>
   simp only[Bool.not_false];refine Cl.mono (Q5 hd1 (by omega) (by omega) (by omega)) ?_;rintro _ w2 ⟨d2,hp2,hd2,hk2⟩;exact hJ _ _ ⟨lim-1,d2,by rw[Ew (by omega) (by omega)],by omega,hp2,hd2,kt hk1 hk2⟩
 rintro _ w2 ⟨l2,d2,rfl,hl2,hp2,hd2,hk2⟩;have hz2:d2.size=d.size:=by rw[hp2.1];exact hz1
 dsimp only;refine Cl.mono (Ua hd2 (by omega) (by omega) (by omega)) ?_;rintro⟨r7,hint,_⟩ w3 ⟨⟨p,hp,hpa,hpb⟩,hd3,hk3⟩;simp only at hp;subst hp;have hk03:Aa (Ai s) w w3:=hk2.trans hk3 (by simp);refine AG (λst w'=>∃(p':Nat) (hint':Int) (d':Array Int),st=((p':Int),hint',())/\a<=p'/\p'<b/\Sort.PermIn a b d1 d'/\Rw w' s d'/\Aa (Ai s) w w') ?_ ?_
 ·intro J hJ;dsimp only;refine Afz (λ_=>?_) (λ_=>hJ _ _ ⟨p,hint,d2,rfl,hpa,hpb,hp2,hd3,hk03⟩);refine Cl.mono (AaL hd3 (by omega) (by omega) (by omega)) ?_;rintro _ w4 ⟨hd4,hk4⟩;refine hJ _ _ ⟨b-1-(p-a),1,_,?_,by omega,by omega,Sort.permIn_trans _ _ _ _ _ hp2 (Sort.reverseRange_holds d2 a b hab (by omega)),hd4,kt hk03 hk4⟩;rw[Ew (by omega) (by omega),N0 (i:=p) rfl rfl (by omega) (by omega),N0 rfl rfl (by omega) (by omega)]
 rintro _ w4 ⟨p4,hint4,d4,rfl,hp4a,hp4b,hp4,hd4,hk4⟩;have hz4:d4.size=d.size:=by rw[hp4.1];exact hz1
 dsimp only;refine AG (λ_ w'=>∃(d':Array Int),Sort.PermIn a b d1 d'/\Rw w' s d'/\Aa (Ai s) w w') ?_ ?_
 ·intro J10 hJ10;refine AG (λst w'=>∃c:Bool,st=(c,())/\w4=w') ?_ ?_
  ·intro J hJ;cases wb with
   |false=>exact hJ _ _ ⟨_,rfl,rfl⟩
   |true=>
    cases wp with
    |false=>exact hJ _ _ ⟨_,rfl,rfl⟩
    |true=>exact hJ _ _ ⟨_,rfl,rfl⟩
  ·rintro _ _ ⟨c,rfl,rfl⟩;cases c with
   |false=>exact hJ10 _ _ ⟨d4,hp4,hd4,hk4⟩
   |true=>
    simp only;refine Cl.mono (N7 hd4 (by omega) (by omega) (by omega)) ?_;rintro⟨r,_⟩ w5 ⟨hr,hd5,hk5⟩;simp only at hr;obtain⟨e1,e2⟩:=Sort.partialInsertionSort_holds hS d4 a b (by omega) (by omega) (Sort.Below.perm hB1 (by omega) hp4);have hp5:=Sort.permIn_trans _ _ _ _ _ hp4 e1;cases r with
    |true=>
     obtain⟨f1,f2⟩:=hend _ hp5 (e2 hr.symm);exact hR _ _ ⟨_,f1,f2,hd5,kt hk4 hk5⟩
    |false=>exact hJ10 _ _ ⟨_,hp5,hd5,kt hk4 hk5⟩
 rintro _ w5 ⟨d5,hp5,hd5,hk5⟩;have hz5:d5.size=d.size:=by rw[hp5.1];exact hz1
 have hB5:=Sort.Below.perm hB1 (by omega) hp5;have hend5:∀R,Sort.PermIn a b d5 R->Sort.SortedIn lt a b R->Sort.PermIn _ _ d R/\Sort.SortedIn lt _ _ R:=λR h1 h2=>hend R (Sort.permIn_trans _ _ _ _ _ hp5 h1) h2;refine AG (λst w'=>st=(decide (a>0)&&!lt d5[a-1]! d5[p4]!,())/\Rw w' s d5/\Aa (Ai s) w w') ?_ ?_
 ·intro J hJ;by_cases ha0:a>0
  ·rw[Ew (by omega) (by omega)];exact I9 hd5 (λb=>!b) rfl rfl (by omega) (by omega) (by congr 1;exact decide_eq_decide.2 (by omega)) λw6 h6 k6=>hJ _ _ ⟨rfl,h6,kt hk5 k6⟩
  ·rw[decide_eq_false (show ¬((a:Int)>0)by omega)];rw[decide_eq_false ha0,Bool.false_and]at hJ;simp only[Dr];exact hJ _ _ ⟨rfl,hd5.dr,kt hk5 ((Aa.refl _ _).drew)⟩
 rintro _ w6 ⟨rfl,hd6,hk6⟩;cases hc:(decide (a>0)&&!lt d5[a-1]! d5[p4]!)with
 |true=>
  simp only[Bool.and_eq_true,decide_eq_true_eq,Bool.not_eq_true']at hc;simp only;refine Cl.mono (Pq hd6 (by omega) (by omega) hp4a hp4b) ?_;rintro⟨r,_⟩ w7 ⟨hr,hd7,hk7⟩;simp only at hr;cases hpe:Sort.partitionEqual lt d5 a b p4 with
  |mk mid d7=>
  rw[hpe]at hr hd7;subst hr;obtain⟨g1,g2,g3,g4,g5⟩:=Sort.round_eq hS (Sort.partitionEqual_holds lt) hc.1 hp4a hp4b (by omega) hB5 hc.2 hpe;exact⟨b-mid,by omega,mid,b,l2,wb,wp,d7,rfl,rfl,by omega,g2,hbd,hl2,by rw[g3];exact hz5,g4,λR h1 h2=>by obtain⟨e1,e2⟩:=g5 R h1 h2;exact hend5 R e1 e2,hd7,kt hk6 hk7⟩
 |false=>
  simp only;refine Cl.mono (Yc hd6 (by omega) (by omega) hp4a hp4b) ?_;rintro⟨r,ap,_⟩ w7 ⟨hr,hd7,hk7⟩;simp only at hr;cases hpt:Sort.partition lt d5 a b p4 with
  |mk mid q=>
  obtain⟨ap',d7⟩:=q;rw[hpt]at hr hd7;subst hr;obtain⟨g1,g2,g3,g4,g5,g6,g7⟩:=Sort.round_part hS (Sort.partition_holds lt) hp4a hp4b (by omega) hB5 hpt;dsimp only at hd7 ⊢;refine⟨by decide,?_⟩;rw[N0 rfl rfl g1 (by omega),N0 rfl rfl (by omega) (by omega),AK (by omega)];have hk07:=kt hk6 hk7;by_cases hlt:mid-a<b-mid
  ·rw[decide_eq_true (by omega)];simp only[Br];refine Cl.mono (ih (mid-a) (by omega) hd7 (lim:=l2) (by omega) (by omega) g1 (Nat.le_refl _) hl2 g4) ?_;rintro _ w8 ⟨d8,e1,e2,hd8,hk8⟩;obtain⟨f1,f2⟩:=g6 d8 e1 e2;exact⟨b-(mid+1),by omega,mid+1,b,l2,_,ap,d8,rfl,rfl,by omega,by omega,hbd,hl2,by rw[e1.1,g3];exact hz5,f1,λR h1 h2=>by obtain⟨e1,e2⟩:=f2 R h1 h2;exact hend5 R e1 e2,hd8,kt hk07 hk8⟩
  ·rw[decide_eq_false (by omega)];simp only[Br];refine Cl.mono (ih (b-(mid+1)) (by omega) hd7 (lim:=l2) (by omega) (by omega) (by omega) (Nat.le_refl _) hl2 g5) ?_;rintro _ w8 ⟨d8,e1,e2,hd8,hk8⟩;obtain⟨f1,f2⟩:=g7 d8 e1 e2;exact⟨mid-a,by omega,a,mid,l2,_,ap,d8,rfl,rfl,by omega,g1,by omega,hl2,by rw[e1.1,g3];exact hz5,f1,λR h1 h2=>by obtain⟨e1,e2⟩:=f2 R h1 h2;exact hend5 R e1 e2,hd8,kt hk07 hk8⟩
theorem AbH {w:World}(h:AE w s 1 (cU l))(hN:l.length<=65000):
  Cl Pg 37 [.slice s.p s.len s.cap] true [] (λ_ w'=>∃l',l'.Perm l/\l'.Pairwise (·<=·)/\AE w' s 1 (cU l')/\Aa (Ai s) w w') w:=by
 refine AR λR hR=>?_;have hl:=DJ h;apply Kn;unfold GW;dsimp only[Vi,Vs,Vu];rw[hl,B1 (by omega)];refine Cl.mono (Aeg (by omega)) ?_;rintro⟨r,_⟩ _ ⟨n,hr,hn,_,rfl⟩;simp only at hr;subst hr;have h':Rw w s l.toArray:=h;have:=AiP (s:=s) l.length h' (a:=0) (b:=l.length) (lim:=n) (by simp) (by simpa using hN) (by omega) (by omega) (by omega) (.inl rfl);rw[hl]at this;refine Cl.mono this ?_;rintro _ w1 ⟨d',hp,hs,hd,hk⟩;have hz:d'.size=l.length:=by rw[hp.1];simp
 refine hR _ _ ⟨d'.toList,?_,?_,hd,hk⟩
 ·have:=hp.2.2;rw[Array.toList_extract,Array.toList_extract]at this;simp only[List.extract_eq_take_drop,List.drop_zero,Nat.sub_zero]at this;rw[List.take_of_length_le (by simp[hz]),List.take_of_length_le (by simp)]at this;exact this
 ·rw[List.pairwise_iff_getElem];intro i j hi hj hij;rw[Array.length_toList,hz]at hi hj;have:=hs i j (by omega) hij (by omega);rw[getElem!_pos d' j (by omega),getElem!_pos d' i (by omega)]at this;simp[lt,Sort.ltInt]at this;simpa using this
open Go Go.Sx
theorem RT {w:World}(h:AE w s 1 (cU l)){j:Nat}{x:Int}(hj:l[j]?=some x){K:Int->Pr}(k:K x w):Ix s (j:Int) 1 (λa=>A2 .u64 a K) w:=by
 have hlt:=(List.getElem?_eq_some_iff.1 hj).1;have hl:=DJ h;obtain⟨b,o,hp,_⟩:=h.base (by omega);rw[G5 hp (by omega) (by omega),Int.toNat_natCast,Nat.mul_one,RZ,h.read hp (by rw[Rf];exact hlt),cU,List.getElem?_map,hj];simp only[Option.map_some,sx];exact k
theorem Akb {w:World}(h:AE w s 1 (cU l)){j:Nat}(hj:j<l.length)(x:Int){K:Pr}(k:∀w',AE w' s 1 (cU (l.set j x))->Aa (Ai s) w w'->K w'):Ix s (j:Int) 1 (λa=>St a (.int .u64 x) K) w:=by
 have hl:=DJ h;obtain⟨b,o,hp,hb⟩:=h.base (by omega);rw[G5 hp (by omega) (by omega),Int.toNat_natCast,Nat.mul_one];refine h.write hp (by rw[Rf];exact hj) rfl ?_;intro w' h1 h2;refine k w' ?_ (by rw[hb];exact h2);rw[cU,List.map_set];exact h1
theorem VO:∀{a b:List Int},a.Pairwise (· < ·)->b.Pairwise (· < ·)->(∀x,x∈a↔x∈b)->a=b:=by
 intro a b ha hb h;have pa:a.Nodup:=ha.imp (λh=>by omega);have pb:b.Nodup:=hb.imp (λh=>by omega);have hp:a.Perm b:=(List.perm_ext_iff_of_nodup pa pb).2 h;exact hp.eq_of_pairwise (λx y _ _ h1 h2=>by omega) ha hb
theorem AaR {w:World}(h:AE w s 1 (cU l))(hs:l.Pairwise (·<=·))(hN:l.length<=65000):
  Cl Pg 200 [.slice s.p s.len s.cap] false [.sc .sl] (λr w'=>∃l',AE w' r.1 1 (cU l')/\l'.Pairwise (· < ·)/\(∀x,x∈l'↔x∈l)/\(∀x∈Ai r.1,x∈Ai s)/\Aa (Ai s) w w') w:=by
 refine AR λR hR=>?_;have hl:=DJ h;have hc:=h.cap;apply Hi;unfold EY;dsimp only[Vu];by_cases h2:s.len<2
 ·rw[decide_eq_true (by omega)];refine hR (s,()) _ ⟨l,h,?_,λ_=>Iff.rfl,λ_ hx=>hx,Aa.refl _ _⟩
  match l,hl with
  |[],_=>simp
  |[a],_=>simp
  |a::b::t,hl=>simp at hl;omega
 rw[decide_eq_false (by omega)];simp only[Ae];have get:∀j,j<l.length->∃x,l[j]?=some x:=λj hj=>⟨_,List.getElem?_eq_getElem hj⟩;have le_of:∀{i j:Nat} {x y:Int},i<j->l[i]?=some x->l[j]?=some y->x<=y:=by
  intro i j x y hij hx hy;obtain⟨h1,e1⟩:=List.getElem?_eq_some_iff.1 hx;obtain⟨h2,e2⟩:=List.getElem?_eq_some_iff.1 hy;have:=List.pairwise_iff_getElem.1 hs i j h1 h2 hij;rw[e1,e2]at this;exact this
 have step:∀{j:Nat} {x y:Int} {p:List Int},0<j->l[j-1]?=some x->l[j]?=some y->p.Pairwise (· < ·)->(∀z,z∈p↔z∈l.take j)->x≠y->(p++[y]).Pairwise (· < ·)/\∀z,z∈p++[y]↔z∈l.take (j+1):=by
  intro j x y p hj hx hy hp hm hne;refine⟨?_,λz=>?_⟩
  ·rw[List.pairwise_append];refine⟨hp,by simp,λa ha b hb=>?_⟩;simp at hb;subst hb;obtain⟨i,hi⟩:=List.getElem?_of_mem ((hm a).1 ha);rw[List.getElem?_take]at hi;split at hi
   ·rename_i hij;have h1:=le_of (show j-1<j by omega) hx hy;by_cases h3:i=j-1
    ·subst h3;rw[hx]at hi;injection hi with hi;omega
    ·have h4:=le_of (show i<j-1 by omega) hi hx;omega
   ·cases hi
  ·rw[List.mem_append,hm,List.take_add_one,hy];simp
 have skip:∀{j:Nat} {x y:Int} {p:List Int},0<j->l[j-1]?=some x->l[j]?=some y->(∀z,z∈p↔z∈l.take j)->x=y->∀z,z∈p↔z∈l.take (j+1):=by
  intro j x y p hj hx hy hm e z;subst e;rw[hm,List.take_add_one,hy];simp;rintro rfl;refine List.mem_of_getElem? (i:=j-1) ?_;rw[List.getElem?_take,if_pos (by omega)];exact hx
 refine⟨λn st w'=>∃(q:Sl) (j:Nat),st=(q,(j:Int),())/\n=l.length-j/\1<=j/\j<=l.length/\(l.take j).Pairwise (· < ·)/\Aa [] w w',⟨_,⟨none,0,0⟩,1,rfl,rfl,by omega,by omega,?_,Aa.refl _ _⟩,?_⟩
 ·obtain⟨x,hx⟩:=get 0 (by omega);rw[List.take_add_one,hx];simp
 rintro n _ w1 ⟨q,j,rfl,rfl,hj1,hj,hpw,k1⟩;dsimp only;have h1:=h.keeps k1 (by simp);by_cases hlt:j<l.length
 ·rw[decide_eq_true (by omega)];simp only[Af,Dr];have kd:Aa [] w w1.drew:=k1.drew;have hd:=h.keeps kd (by simp);obtain⟨y,hy⟩:=get j hlt;obtain⟨x,hx⟩:=get (j-1) (by omega);refine RT hd hy ?_;rw[Ew (by omega) (by omega)];refine RT hd hx ?_;by_cases hxy:x=y
  ·rw[show(y==x)=true from by simp[hxy]];simp only[Af];refine⟨⟨by omega,by omega⟩,?_⟩;simp only[Int.toNat_natCast]
   refine⟨λn st w'=>∃(i k:Nat) (cur:List Int),st=((i:Int),(k:Int),())/\n=l.length-(j+k)/\1<=k/\j+k<=l.length/\i<j+k/\cur.length=l.length/\(cur.take i).Pairwise (· < ·)/\(∀z,z∈cur.take i↔z∈l.take (j+k))/\cur.drop (j+k-1)=l.drop (j+k-1)/\AE w' s 1 (cU cur)/\Aa (Ai s) w w',
    ⟨_,j,1,l,rfl,rfl,by omega,by omega,by omega,rfl,hpw,skip hj1 hx hy (λ_=>Iff.rfl) hxy,rfl,hd,kd.mono (by simp)⟩,?_⟩
   rintro n _ w2 ⟨i,k,cur,rfl,rfl,hk1,hjk,hik,hcl,hcp,hcm,hcd,h2,k2⟩;dsimp only;by_cases hlt2:j+k<l.length
   ·rw[decide_eq_true (by omega)];simp only[Af];have hcur:∀m,j+k-1<=m->cur[m]?=l[m]?:=by
     intro m hm;have e:=congrArg (λq=>q[m-(j+k-1)]?) hcd;simp only[List.getElem?_drop]at e
     rwa [show j+k-1+(m-(j+k-1))=m from by omega]at e
    obtain⟨y2,hy2⟩:=get (j+k) hlt2;obtain⟨x2,hx2⟩:=get (j+k-1) (by omega);refine AG (λst w'=>∃(i':Nat) (cur':List Int),st=((i':Int),())/\i'<j+k+1/\cur'.length=l.length/\(cur'.take i').Pairwise (· < ·)/\(∀z,z∈cur'.take i'↔z∈l.take (j+k+1))/\cur'.drop (j+k)=l.drop (j+k)/\AE w' s 1 (cU cur')/\Aa (Ai s) w w') (λJ hJ=>?_) ?_
    rotate_left
    ·rintro _ w3 ⟨i',cur',rfl,g1,g2,g3,g4,g5,g6,g7⟩;exact⟨l.length-(j+(k+1)),by omega,i',k+1,cur',by rw[AK (by omega)],rfl,by omega,by omega,by omega,g2,g3,g4,by rw[show j+(k+1)-1=j+k from by omega];exact g5,g6,g7⟩
    simp only[Dr];have kd2:Aa [] w2 w2.drew:=(Aa.refl _ _).drew;have h2d:=h2.keeps kd2 (by simp);have hsub:AE w2.drew ⟨A7 s.p s.cap j 1,s.len-j,s.cap-j⟩ 1 (cU (cur.drop j)):=by
     have:=h2d.sub (lo:=j) (hi:=s.len) (by omega) (Nat.le_refl _)
     rwa [Nat.mul_one,Nat.mul_one,cU,<-List.map_drop,List.take_of_length_le (by simp;omega)]at this
    have hcj:(cur.drop j)[k]?=some y2:=by rw[List.getElem?_drop,hcur _ (by omega),hy2]
    have hcj1:(cur.drop j)[k-1]?=some x2:=by rw[List.getElem?_drop,show j+(k-1)=j+k-1 from by omega,hcur _ (by omega),hx2]
    refine RT hsub hcj ?_;rw[Ew (by omega) (by omega)];refine RT hsub hcj1 ?_;have hcd':cur.drop (j+k)=l.drop (j+k):=by
     have e:=congrArg (List.drop 1) hcd
     rwa [List.drop_drop,List.drop_drop,show j+k-1+1=j+k from by omega]at e
    by_cases hne:x2=y2
    ·rw[show(y2 !=x2)=false from by simp[hne]];simp only[Ae];exact hJ _ _ ⟨i,cur,rfl,by omega,hcl,hcp,skip (by omega) hx2 hy2 hcm hne,hcd',h2d,k2.trans kd2 (by simp)⟩
    ·rw[show(y2 !=x2)=true from by simp;exact λe=>hne e.symm];simp only[Af];refine RT hsub hcj ?_;refine Akb h2d (by omega) y2 ?_;intro w3 h3 k3;have htk:(cur.set i y2).take (i+1)=cur.take i++[y2]:=by
      rw[List.take_add_one,List.take_set_of_le (by omega),List.getElem?_set_self (by omega)];rfl
     obtain⟨g1,g2⟩:=step (by omega) hx2 hy2 hcp hcm hne;refine hJ _ _ ⟨i+1,cur.set i y2,by rw[AK (by omega)],by omega,by simp[hcl],by rw[htk];exact g1,by rw[htk];exact g2,by rw[List.drop_set_of_lt (by omega),hcd'],h3,(k2.trans kd2 (by simp)).trans k3 (λ_ hx=>.inl hx)⟩
   ·rw[decide_eq_false (by omega)];simp only[Ae];have hjl:j+k=l.length:=by omega
    refine⟨⟨by omega,by omega⟩,?_⟩;simp only[Int.toNat_natCast];refine KS h2 (by kernel_rfl) Alv (by omega) ?_;intro w3 h3 k3 _;refine⟨⟨by omega,by omega⟩,?_⟩;rw[Eh];refine hR (⟨s.p,i-0,s.cap-0⟩,()) _ ⟨cur.take i,?_,hcp,?_,λ_ hx=>hx,k2.trans k3 (λ_ hx=>.inl hx)⟩
    ·rw[Nat.mul_one,cU,<-List.map_take]at h3;exact h3
    ·intro z;rw[hcm,List.take_of_length_le (by omega)]
  ·rw[show(y==x)=false from by simp;exact λe=>hxy e.symm];simp only[Ae];refine⟨l.length-(j+1),by omega,q,j+1,by rw[AK (by omega)],rfl,by omega,by omega,?_,kd⟩;rw[List.take_add_one,hy];exact(step hj1 hx hy hpw (λ_=>Iff.rfl) hxy).1
 ·rw[decide_eq_false (by omega)];rw[List.take_of_length_le (by omega)]at hpw;exact hR (s,()) _ ⟨l,h1,hpw,λ_=>Iff.rfl,λ_ hx=>hx,k1.mono (by simp)⟩
theorem AdK {w:World}(h:AE w s 1 (cU l))(hN:l.length<=65000):
  Cl Pg 107 [.slice s.p s.len s.cap] false [.sc .sl] (λr w'=>∃l',AE w' r.1 1 (cU l')/\l'.Pairwise (· < ·)/\(∀x,x∈l'↔x∈l)/\(∀x∈Ai r.1,x∈Ai s)/\Aa (Ai s) w w') w:=by
 refine AR λR hR=>?_;apply Vo;unfold WS;dsimp only[Vs];refine Cl.mono (AbH h hN) ?_;rintro _ w1 ⟨l1,hp,hs,h1,k1⟩;refine Cl.mono (AaR h1 hs (by rw[hp.length_eq];exact hN)) ?_;rintro⟨r,_⟩ w2 ⟨l2,h2,g1,g2,g3,k2⟩;exact hR (r,()) _ ⟨l2,h2,g1,λx=>(g2 x).trans hp.mem_iff,g3,k1.trans k2 (λ_ hx=>.inl hx)⟩
open Go Go.Sx
def BC (x y:Int):Int:=if x<y then -1 else if y<x then 1 else 0
theorem Acm (z:Int){w:World}{K:TR [.sc .b]->Pr}(hK:K (false,()) w):Cl Pg 110 [.int .u64 z] false [.sc .b] K w:=by
 apply Fc;unfold Fg;rw[show(z !=z)=false from by simp];exact hK
theorem QV (x y:Int){w:World}{K:TR [.sc (.i .i64)]->Pr}(hK:K (BC x y,()) w):Cl Pg 71 [.int .u64 x,.int .u64 y] false [.sc (.i .i64)] K w:=by
 apply Kv;unfold GY;dsimp only[Vu];refine Acm x ?_;refine Acm y ?_;simp only[Ae];unfold BC at hK;by_cases h1:x<y
 ·rw[decide_eq_true h1]
  rwa [if_pos h1]at hK
 ·rw[decide_eq_false h1];rw[if_neg h1]at hK;simp only[Ae];by_cases h2:y<x
  ·rw[decide_eq_true (show x>y from h2)]
   rwa [if_pos h2]at hK
  ·rw[decide_eq_false (show ¬x>y from h2)]
   rwa [if_neg h2]at hK
theorem Dq :BC x y<0↔x<y:=by unfold BC;split<;>(try split)<;>omega
theorem Xk :(BC x y==0)=decide (x=y):=by
 unfold BC;split
 ·rw[decide_eq_false (by omega)];rfl
 ·split
  ·rw[decide_eq_false (by omega)];rfl
  ·rw[decide_eq_true (by omega)];rfl
theorem Po {α:Type}{l:List α}{f:α->Int}(hs:l.Pairwise (λa b=>f a<f b))(t:Int):(∀y∈l.take (Ba (λx=>BC (f x) t) l),f y<t)/\(∀y∈l.drop (Ba (λx=>BC (f x) t) l),t<=f y):=by
 have hp:l.Pairwise (λa b=>BC (f b) t<0->BC (f a) t<0):=hs.imp λh=>by rw[Dq,Dq];omega
 constructor
 ·intro y hy;obtain⟨j,hj,rfl⟩:=List.mem_take_iff_getElem.1 hy;exact Dq.1 (Qg (c:=λx=>BC (f x) t) (l:=l) (j:=j) (List.getElem?_eq_getElem (by omega)) (by omega))
 ·intro y hy;obtain⟨j,hj⟩:=List.getElem?_of_mem hy;rw[List.getElem?_drop]at hj;have h2:=PD hp hj (Nat.le_add_right _ _);have h3:¬(BC (f y) t<0):=by omega
  rw[Dq]at h3;omega
theorem Ac6 {w:World}{l:List Ak}(h:As w s l)(hs:l.Pairwise (λa b=>a.n<b.n))(t:Int)(hN:l.length<=1000):
  Cl Pg 69 [.slice s.p s.len s.cap,.int .u64 t,.func (.func 70) #[] #[]] true [.sc (.i .i64),.sc .b] (λr w'=>∃i:Nat,r.1=(i:Int)/\i<=l.length/\(∀y∈l.take i,y.n<t)/\(∀y∈l.drop i,t<=y.n)/\Aa [] w w') w:=by
 refine AR λR hR=>?_;apply EG;refine C8 (c:=λx:Ak=>BC x.n t) (HF akR) h.C6 ?_ ?_ (by omega) ?_
 ·intro w1 k1 x _ K hK;refine Ap (g:=70) (by kernel_rfl) ?_;refine KZ x.n x.lo x.hi x.wr t ?_;unfold IB;dsimp only[Cg,Lu,Vu];refine Ad λb w2 h2 n2 k2=>?_;simp only[CP,h2,Ck,Nat.reduceAdd];exact QV _ _ (hK _ k2)
 ·exact hs.imp λh=>by rw[Dq,Dq];omega
 ·intro w' k;exact hR _ _ ⟨_,rfl,Dv _ _,(Po hs t).1,(Po hs t).2,k⟩
structure TS where
 held:List Ak
 wait:List Ak
deriving DecidableEq
structure IP (s:TS):Prop where
 wt:s.wait.Pairwise (λa b=>a.n<b.n)
 few:s.held.length+s.wait.length<=192
structure NH (w:World)(t:Nat)(H:Nat->Prop)(s:TS)(sh sw:Sl):Prop where
 hd:w.heap[t]?=some (.cells #[.slice sh.p sh.len sh.cap,.slice sw.p sw.len sw.cap] 141 (0,0))
 h:As w sh s.held
 w:As w sw s.wait
 th:t∉Ai sh
 tw:t∉Ai sw
 hw:∀x∈Ai sh,x∉Ai sw
 own:∀x,H x↔x=t\/x∈Ai sh\/x∈Ai sw
def Ny (w:World)(t:Nat)(H:Nat->Prop)(s:TS):Prop:=∃sh sw,NH w t H s sh sw
variable {t:Nat}{H:Nat->Prop}{sh:Sl}
theorem NH.bl {w:World}{s:TS}{sw:Sl}(h:NH w t H s sh sw):Bl H w:=by
 intro x hx;rcases(h.own x).1 hx with rfl|hx|hx
 ·exact Av h.hd
 ·exact h.h.lt x hx
 ·exact h.w.lt x hx
theorem Ny.bl {w:World}{t:Nat}{H:Nat->Prop}{s:TS}(h:Ny w t H s):Bl H w:=by
 obtain⟨sh,sw,h⟩:=h;exact h.bl
variable {w':World}
theorem NH.keeps {w:World}{F:Nat->Prop}{s:TS}{sw:Sl}(h:NH w t H s sh sw)(hk:A4 F w w')(hd:Dj H F):NH w' t H s sh sw:=
 ⟨hk.at h.hd (hd t ((h.own t).2 (.inl rfl))),h.h.Ue hk (λx hx=>hd x ((h.own x).2 (.inr (.inl hx)))),h.w.Ue hk (λx hx=>hd x ((h.own x).2 (.inr (.inr hx)))),h.th,h.tw,h.hw,h.own⟩
theorem Ny.keeps {w w':World}{t:Nat}{H F:Nat->Prop}{s:TS}(h:Ny w t H s)(hk:A4 F w w')(hd:Dj H F):Ny w' t H s:=by
 obtain⟨sh,sw,h⟩:=h;exact⟨sh,sw,h.keeps hk hd⟩
theorem NH.Ab {w:World}{s:TS}{sw:Sl}(h:NH w t H s sh sw)(hk:Aa [] w w'):NH w' t H s sh sw:=h.keeps (hk.FY (F:=λ_=>False) (by simp)) (λ_ _ h=>h)
theorem Ny.Ab {w:World}{s:TS}(h:Ny w t H s)(hk:Aa [] w w'):Ny w' t H s:=h.keeps (hk.FY (F:=λ_=>False) (by simp)) (λ_ _ h=>h)
theorem NH.Ajt {w w1 w2:World}{s:TS}{sw r:Sl}{l:List Ak}(h:NH w t H s sh sw)(k1:Aa (Ai sh) w w1)(hr:As w1 r l)(hb:∀x∈Ai r,x∈Ai sh\/w.heap.size<=x)(k2:Aa [t] w1 w2)(hd:w2.heap[t]?=some (.cells #[.slice r.p r.len r.cap,.slice sw.p sw.len sw.cap] 141 (0,0))):
  ∃H',NH w2 t H' ⟨l,s.wait⟩ r sw/\Fr H H' w/\A4 H w w2:=by
 have htl:=Av h.hd;have tr:t∉Ai r:=λhx=>by rcases hb t hx with h'|h';exact h.th h';omega
 have rw':∀x∈Ai r,x∉Ai sw:=λx hx hx2=>by rcases hb x hx with h'|h';exact h.hw x h' hx2;have:=h.w.lt x hx2;omega
 refine⟨λx=>x=t\/x∈Ai r\/x∈Ai sw,⟨hd,hr.keeps k2 (λx hx=>by simp;rintro rfl;exact tr hx),(h.w.keeps k1 (λx hx h'=>h.hw x h' hx)).keeps k2 (λx hx=>by simp;rintro rfl;exact h.tw hx),tr,h.tw,rw',λ_=>Iff.rfl⟩,?_,?_⟩
 ·rintro x (rfl|hx|hx)
  ·exact .inl ((h.own _).2 (.inl rfl))
  ·rcases hb x hx with h'|h'
   ·exact .inl ((h.own _).2 (.inr (.inl h')))
   ·exact .inr h'
  ·exact .inl ((h.own _).2 (.inr (.inr hx)))
 ·exact(k1.FY (F:=H) (λx hx=>.inl ((h.own _).2 (.inr (.inl hx))))).step k2 (by simp;exact .inl ((h.own _).2 (.inl rfl)))
theorem NH.AhA {w w1 w2:World}{s:TS}{sw r:Sl}{l:List Ak}(h:NH w t H s sh sw)(k1:Aa (Ai sw) w w1)(hr:As w1 r l)(hb:∀x∈Ai r,x∈Ai sw\/w.heap.size<=x)(k2:Aa [t] w1 w2)(hd:w2.heap[t]?=some (.cells #[.slice sh.p sh.len sh.cap,.slice r.p r.len r.cap] 141 (0,0))):
  ∃H',NH w2 t H' ⟨s.held,l⟩ sh r/\Fr H H' w/\A4 H w w2:=by
 have htl:=Av h.hd;have tr:t∉Ai r:=λhx=>by rcases hb t hx with h'|h';exact h.tw h';omega
 have rw':∀x∈Ai sh,x∉Ai r:=λx hx hx2=>by rcases hb x hx2 with h'|h';exact h.hw x hx h';have:=h.h.lt x hx;omega
 refine⟨λx=>x=t\/x∈Ai sh\/x∈Ai r,⟨hd,(h.h.keeps k1 (λx hx h'=>h.hw x hx h')).keeps k2 (λx hx=>by simp;rintro rfl;exact h.th hx),hr.keeps k2 (λx hx=>by simp;rintro rfl;exact tr hx),h.th,tr,rw',λ_=>Iff.rfl⟩,?_,?_⟩
 ·rintro x (rfl|hx|hx)
  ·exact .inl ((h.own _).2 (.inl rfl))
  ·exact .inl ((h.own _).2 (.inr (.inl hx)))
  ·rcases hb x hx with h'|h'
   ·exact .inl ((h.own _).2 (.inr (.inr h')))
   ·exact .inr h'
 ·exact(k1.FY (F:=H) (λx hx=>.inl ((h.own _).2 (.inr (.inr hx))))).step k2 (by simp;exact .inl ((h.own _).2 (.inl rfl)))
def CJ (n:Int)(s:TS):TS:=⟨s.held.filter (λx=>!(x.n==n)),s.wait.filter (λx=>!(x.n==n))⟩
theorem IP.drop {s:TS}(h:IP s)(n:Int):IP (CJ n s):=by
 refine⟨h.wt.filter _,?_⟩;have h1:=List.length_filter_le (λx:Ak=>!(x.n==n)) s.held;have h2:=List.length_filter_le (λx:Ak=>!(x.n==n)) s.wait;have:=h.few;unfold CJ;dsimp only;omega
def TSt (w w':World)(t:Nat)(H:Nat->Prop)(s':TS):Prop:=∃H',Ny w' t H' s'/\Fr H H' w/\A4 H w w'
theorem Ach {w:World}{s:TS}(h:Ny w t H s)(ho:IP s)(n:Int):
  Cl Pg 109 [.pointer (some ⟨t,0,none⟩),.int .u64 n] true [] (λ_ w'=>TSt w w' t H (CJ n s)) w:=by
 obtain⟨sh,sw,h⟩:=h;have hfew:=ho.few;refine AR λR hR=>?_;apply LZ;unfold Ke;dsimp only[Ll,Ts,Vs,Vu];simp only[CP,h.hd,Ck,Nat.reduceAdd];have kd:Aa [] w w.drew:=(Aa.refl _ _).drew;refine Cl.mono (AeI n _) ?_;rintro⟨f,_⟩ w1 ⟨e,n1,hf,k1⟩;dsimp only at hf ⊢;have k01:=Aj kd k1;have g1:=h.Ab k01;have hne:e∉Ai sh:=λhx=>by have:=h.h.lt e hx;have:e<w.drew.heap.size:=this;omega
 simp only[CP,g1.hd,Ck,Nat.reduceAdd];refine⟨by trivial,?_⟩;refine Cl.mono (Oc g1.h (hf _ hne) (by omega)) ?_;rintro⟨r,_⟩ w2 ⟨h2,hb2,k2⟩;dsimp only at h2 hb2 ⊢;have hd2:=k2.at g1.hd g1.th;refine Ax hd2 0 _ rfl (by simp) λw3 hd3 k3=>?_;obtain⟨H3,g3,f3,kp3⟩:=g1.Ajt k2 h2 (λx hx=>.inl (hb2 x hx)) k3 hd3;simp only[CP,g3.hd,Ck,Nat.reduceAdd];refine Cl.mono (AeI n _) ?_;rintro⟨f,_⟩ w4 ⟨e,n4,hf,k4⟩;dsimp only at hf ⊢;have g4:=g3.Ab (Aj ((Aa.refl [] w3).drew) k4);have hne:e∉Ai sw:=λhx=>by have:=g3.w.lt e hx;have:e<w3.drew.heap.size:=this;omega
 simp only[CP,g4.hd,Ck,Nat.reduceAdd];refine⟨by trivial,?_⟩;refine Cl.mono (Oc g4.w (hf _ hne) (by dsimp only;omega)) ?_;rintro⟨r2,_⟩ w5 ⟨h5,hb5,k5⟩;dsimp only at h5 hb5 ⊢;have hd5:=k5.at g4.hd g4.tw;refine Ax hd5 1 _ rfl (by simp) λw6 hd6 k6=>?_;obtain⟨H6,g6,f6,kp6⟩:=g4.AhA k5 h5 (λx hx=>.inl (hb5 x hx)) k6 hd6;have s1:w.heap.size<=w1.heap.size:=k01.size;have s3:w1.heap.size<=w3.heap.size:=kp3.size;have s4:w3.heap.size<=w4.heap.size:=k4.size;refine hR _ _ ⟨H6,⟨_,_,g6⟩,?_,?_⟩
 ·intro x hx;rcases f6 x hx with h'|h'
  ·rcases f3 x h' with h''|h''
   ·exact .inl h''
   ·exact .inr (by omega)
  ·exact .inr (by omega)
 ·have q1:A4 H w w3:=(k01.FY (F:=H) (by simp)).same kp3;have q2:A4 H w w4:=q1.step (Aj ((Aa.refl [] w3).drew) k4) (by simp);exact q2.trans kp6 (λx hx=>by
   rcases f3 x hx with h'|h'
   ·exact .inl h'
   ·exact .inr (by omega))
open Go Go.Sx
def Ed (x:Ak)(wt:List Ak):List Int:=(wt.filter (λw=>decide (x.n<w.n)&&B8 x w)).map (·.n)
def Ca (d:List Int)(s:TS):TS:=d.foldl (λs n=>CJ n s) s
def AL (x:Ak)(s:TS):List Int×TS:=(Ed x s.wait,Ca (Ed x s.wait) ⟨s.held++[x],s.wait⟩)
theorem IP.Ca {d:List Int}{s:TS}(h:IP s):IP (Ca d s):=by
 unfold YthkdehgfdllpoaaGreat.Ca;induction d generalizing s with
 |nil=>exact h
 |cons n d ih=>exact ih (h.drop n)
theorem Ln (x:Ak)(l:List Ak):(Ed x l).length<=l.length:=by
 unfold Ed;rw[List.length_map];exact List.length_filter_le _ _
theorem RR (x:Ak)(l:List Ak){i:Nat}{y:Ak}(hy:l[i]?=some y):Ed x (l.take (i+1))=Ed x (l.take i)++(if decide (x.n<y.n)&&B8 x y then [y.n]else []):=by
 unfold Ed;rw[List.take_add_one,hy,List.filter_append,List.map_append]
 congr 1
 cases hc:decide (x.n<y.n)&&B8 x y<;>simp[hc]
theorem Zw {w:World}{s:TS}(h:Ny w t H s){x:Ak}(ho:IP ⟨s.held++[x],s.wait⟩):
  Cl Pg 68 [.pointer (some ⟨t,0,none⟩),vA x] false [.sc .sl] (λr w'=>∃H',Ny w' t H' (AL x s).2/\Fr H H' w/\A4 H w w'/\AE w' r.1 1 (cU (AL x s).1)/\(∀y∈Ai r.1,w.heap.size<=y/\¬H' y)) w:=by
 obtain⟨sh,sw,h⟩:=h;have hfew:=ho.few;rw[List.length_append]at hfew;simp only[List.length_singleton]at hfew;have hlh:=UH h.h;have hlw:=UH h.w;refine AR λR hR=>?_;apply K5;unfold I8;dsimp only[Cg,Ll,Lu,Gs,UY,Ts,Vp,Vs,Vu,Vm];have ltH:∀y,H y->y<w.heap.size:=h.bl;refine Ad λa w1 ha na k1=>?_;have g1:=h.Ab k1;simp only[CP,g1.hd,ha,Ck,Nat.reduceAdd];have la:=Av ha;refine Ad λc w2 hc nc k2=>?_;have g2:=(h.Ab k1.drew).Ab k2;have ha:=k2.at (w:=w1.drew) ha (by simp);simp only[CP,g2.hd,Ck,Nat.reduceAdd];refine⟨by trivial,?_⟩;refine AE.app (ρ:=akR) (new:=[x]) g2.h (by rw[List.flatMap_singleton];exact BI (ρ:=akR) (x:=x) hc) rfl (by rw[zcA];rfl) (by omega) (by omega) ?_;intro r w3 h3' k3 hb3;have hd3:=k3.at g2.hd g2.th;have hash:a∉Ai sh:=λhx=>by have:=h.h.lt a hx;omega
 have DY:a≠t:=λe=>by have:=Av h.hd;omega
 have ha:=k3.at ha hash;refine Ax hd3 0 _ rfl (by simp) λw4 hd4 k4=>?_;obtain⟨H4,g4,f4,kp4⟩:=g2.Ajt k3 h3' hb3 k4 hd4;have ha:=k4.at ha (by simpa using DY);have hd4':=g4.hd;simp only[CP,ha,Ck,Nat.reduceAdd];refine Cl.mono (O4 x _) ?_;rintro⟨f,_⟩ w5 ⟨e,ne,hf,k5⟩;dsimp only at hf ⊢;have g5:=g4.Ab k5;have ha:=k5.at ha (by simp);have hbl5:∀y,H4 y->y<w5.heap.size:=g5.bl;simp only[CP,g5.hd,Ck,Nat.reduceAdd];have size02:w.heap.size<=w2.heap.size:=by have:=k1.size;have:=k2.size;have:w1.drew.heap.size=w1.heap.size:=rfl;omega
 have size05:w.heap.size<=w5.heap.size:=by have:=k3.size;have:=k4.size;have:=k5.size;omega
 refine⟨λn st w'=>∃(i:Nat) (ds:Sl),st=(ds,(i:Int),())/\n=s.wait.length-i/\i<=s.wait.length/\AE w' ds 1 (cU (Ed x (s.wait.take i)))/\(∀y∈Ai ds,w5.heap.size<=y)/\Aa [] w5 w',⟨_,0,⟨none,0,0⟩,rfl,rfl,by omega,AE.nil _ 1,by simp[Ai],Aa.refl _ _⟩,?_⟩;rintro n _ w6 ⟨i,ds,rfl,rfl,hi,h6,hb6,k6⟩;dsimp only;have g6:=g5.Ab k6;have ha:=k6.at ha (by simp);have hl6:=DJ h6;have hkl:=Ln x (s.wait.take i);rw[List.length_take]at hkl;by_cases hlt:i<s.wait.length
 ·rw[decide_eq_true (by omega)];simp only[Af];obtain⟨y,hy⟩:∃y,s.wait[i]?=some y:=⟨_,List.getElem?_eq_getElem hlt⟩;refine AG (λst w'=>∃ds',st=(ds',())/\AE w' ds' 1 (cU (Ed x (s.wait.take (i+1))))/\(∀y∈Ai ds',w5.heap.size<=y)/\Aa [] w5 w') (λJ hJ=>?_) ?_
  rotate_left
  ·rintro _ w7 ⟨ds',rfl,h7,hb7,k7⟩;exact⟨s.wait.length-(i+1),by omega,i+1,ds',by rw[AK (by omega)],rfl,by omega,h7,hb7,k7⟩
  refine AdA g6.w hy ?_;refine bx4 λb w7 hb n7 k7=>?_;have ha:=k7.at ha (by simp);refine AG (λst w'=>st=(decide (x.n<y.n)&&B8 x y,())/\w'.heap[b]?=some (.cells #[.int .u64 y.n,.string y.lo,.string y.hi,.bool y.wr] 146 (0,0))/\Aa [] w7 w') (λJ2 hJ2=>?_) ?_
  ·simp only[CP,ha,hb,Ck,Nat.reduceAdd];by_cases hlt2:x.n<y.n
   ·rw[decide_eq_true (show y.n>x.n from hlt2)];simp only[CP,hb,Ck,Nat.reduceAdd];refine AB.mono ((hf [] (by simp)).to k6 w7 k7 y) ?_;rintro⟨q,_⟩ w8 ⟨e8,k8⟩;dsimp only at e8;subst e8;exact hJ2 _ _ ⟨by rw[decide_eq_true hlt2];rfl,k8.at hb (by simp),k8⟩
   ·rw[decide_eq_false (show ¬y.n>x.n from hlt2)];exact hJ2 _ _ ⟨by rw[decide_eq_false hlt2];rfl,hb,Aa.refl _ _⟩
  ·rintro _ w8 ⟨rfl,hb8,k8⟩;dsimp only;have k58:=Aj (Aj k6 k7) k8;have h8:=h6.keeps (Aj k7 k8) (by simp);cases hcond:decide (x.n<y.n)&&B8 x y with
   |true=>
    simp only[CP,hb8,Ck,Nat.reduceAdd];refine W9 (bytes:=8) (new:=[.int .u64 y.n]) h8 (by simp) (by simp[Value.oneCell']) (by kernel_rfl) (by omega) (by omega) ?_;intro r9 w9 h9 _ k9 hb9;refine hJ (r9,()) _ ⟨r9,rfl,?_,λz hz=>?_,Ky k58 k9 (λz hz=>hb6 z hz)⟩
    ·rw[RR x s.wait hy,hcond,if_pos rfl,cU,List.map_append];exact h9
    ·rcases hb9 z hz with h'|h'
     ·exact hb6 z h'
     ·have:=k58.size;omega
   |false=>
    refine hJ (ds,()) _ ⟨ds,rfl,?_,hb6,k58⟩;rw[RR x s.wait hy,hcond,if_neg (by simp),List.append_nil];exact h8
 ·rw[decide_eq_false (by omega)];simp only[Ae];rw[List.take_of_length_le (by omega)]at h6;generalize hd:Ed x s.wait=d at h6;have hdl:d.length<=192:=by rw[<-hd];have:=Ln x s.wait;omega
  have hdl':=DJ h6;have hnH:∀y∈Ai ds,¬H4 y:=λy hy hH=>by have:=hb6 y hy;have:=hbl5 y hH;omega
  refine⟨λn st w'=>∃(i:Nat) (H':Nat->Prop),st=((i:Int),())/\n=d.length-i/\i<=d.length/\Ny w' t H' (Ca (d.take i) ⟨s.held++[x],s.wait⟩)/\Fr H4 H' w6/\A4 H4 w6 w'/\AE w' ds 1 (cU d)/\(∀y∈Ai ds,¬H' y),⟨_,0,H4,rfl,rfl,by omega,⟨_,_,g6⟩,Fr.refl _ _,A4.refl _ _,h6,hnH⟩,?_⟩;rintro n _ w7 ⟨i,H',rfl,rfl,hi,h7,f7,k7,hds,hn7⟩;dsimp only;by_cases hlt2:i<d.length
  ·rw[decide_eq_true (by omega)];simp only[Af];obtain⟨y,hy⟩:∃y,d[i]?=some y:=⟨_,List.getElem?_eq_getElem hlt2⟩;refine RT hds hy ?_;refine Cl.mono (Ach h7 (IP.Ca ho) y) ?_;rintro _ w8 ⟨H8,h8,f8,k8⟩;refine⟨d.length-(i+1),by omega,i+1,H8,by rw[AK (by omega)],rfl,by omega,?_,f7.trans f8 k7.size,k7.trans k8 (λz hz=>f7 z hz),hds.Ue k8 hn7,λz hz hH=>?_⟩
   ·rw[List.take_add_one,hy];unfold Ca at h8 ⊢;rw[List.foldl_append];exact h8
   ·rcases f8 z hH with h'|h'
    ·exact hn7 z hz h'
    ·have:=hds.lt z hz;omega
  ·rw[decide_eq_false (by omega)];rw[List.take_of_length_le (by omega)]at h7;have e1:(AL x s).1=d:=hd;have e2:(AL x s).2=Ca d ⟨s.held++[x],s.wait⟩:=by rw[<-hd];rfl
   have size26:w2.heap.size<=w6.heap.size:=by have:=k3.size;have:=k4.size;have:=k5.size;have:=k6.size;omega
   refine hR (ds,()) _ ⟨H',by rw[e2];exact h7,?_,?_,by rw[e1];exact hds,λz hz=>⟨by have:=hb6 z hz;omega,hn7 z hz⟩⟩
   ·intro z hz;rcases f7 z hz with h'|h'
    ·rcases f4 z h' with h''|h''
     ·exact .inl h''
     ·exact .inr (by omega)
    ·exact .inr (by omega)
   ·have q1:A4 H w w4:=((Aj k1.drew k2).FY (F:=H) (by simp)).same kp4;have q2:A4 H w w6:=q1.step (Aj k5 k6) (by simp);refine q2.trans k7 (λz hz=>?_);rcases f4 z hz with h'|h'
    ·exact .inl h'
    ·exact .inr (by omega)
open Go Go.Sx
def O5:List Int->Int->List Int
 |[],n=>[n]
 |x::t,n=>if x<n then x::O5 t n else if x=n then x::t else n::x::t
def Dk (l:List Int):List Int:=l.foldl O5 []
theorem TY {x n:Int}:∀{l:List Int},x∈O5 l n↔x=n\/x∈l
 |[]=>by simp[O5]
 |y::t=>by
  unfold O5;split
  ·simp only[List.mem_cons,TY (l:=t)];constructor<;>(rintro(h|h|h)<;>simp[h])
  ·split
   ·rename_i h;subst h;simp
   ·simp
theorem Rr {n:Int}:∀{l:List Int},l.Pairwise (· < ·)->(O5 l n).Pairwise (· < ·)
 |[],_=>by simp[O5]
 |y::t,h=>by
  have h1:=List.pairwise_cons.1 h;unfold O5;split
  ·rename_i hy;refine List.pairwise_cons.2 ⟨λz hz=>?_,Rr h1.2⟩;rcases TY.1 hz with rfl|hz
   ·exact hy
   ·exact h1.1 z hz
  ·split
   ·exact h
   ·rename_i hy1 hy2;refine List.pairwise_cons.2 ⟨λz hz=>?_,h⟩;rcases List.mem_cons.1 hz with rfl|hz
    ·omega
    ·have:=h1.1 z hz;omega
theorem Qh:∀{l acc:List Int},acc.Pairwise (· < ·)->(l.foldl O5 acc).Pairwise (· < ·)
 |[],_,h=>h
 |x::l,_,h=>Qh (l:=l) (Rr h)
theorem Xb {x:Int}:∀{l acc:List Int},x∈l.foldl O5 acc↔x∈acc\/x∈l
 |[],_=>by simp
 |y::l,acc=>by
  rw[List.foldl_cons,Xb (l:=l),TY,List.mem_cons];constructor
  ·rintro((h|h)|h)<;>simp[h]
  ·rintro(h|h|h)<;>simp[h]
theorem Sg (l:List Int):(Dk l).Pairwise (· < ·):=Qh (by simp)
theorem EP :x∈Dk l↔x∈l:=by unfold Dk;rw[Xb];simp
theorem Xt {r:List Int}(h:r.Pairwise (· < ·))(hm:∀x,x∈r↔x∈l):r=Dk l:=VO h (Sg l) (λx=>(hm x).trans EP.symm)
def P1 (s:TS)(y:Ak):Bool:=!(s.held.any (λh=>B8 y h))
def Dd (x:Ak)(s:TS):List Int×TS:=AL x ⟨s.held,s.wait.filter (λy=>!(y.n==x.n))⟩
def AT:Nat->TS->List Int->List Int->TS×List Int×List Int
 |0,s,g,d=>(s,g,d)
 |k+1,s,g,d=>match s.wait.find? (P1 s)with
  |none=>(s,g,d)
  |some x=>AT k (Dd x s).2 (g++[x.n]) (d++(Dd x s).1)
theorem GF {l:List Ak}{x:Ak}(h:x∈l):(l.filter (λy=>!(y.n==x.n))).length<l.length:=by
 have h1:=List.length_filter_le (λy:Ak=>!(y.n==x.n)) l;rcases Nat.lt_or_eq_of_le h1 with h2|h2
 ·exact h2
 ·have:=List.length_filter_eq_length_iff.1 h2 x h;simp at this
theorem Ab7 {s:TS}(ho:IP s){x:Ak}(hx:x∈s.wait):IP ⟨s.held++[x],s.wait.filter (λy=>!(y.n==x.n))⟩:=by
 refine⟨ho.wt.filter _,?_⟩;have h1:=GF hx;have:=ho.few;simp only[List.length_append,List.length_singleton];omega
theorem LQ (d:List Int):∀(s:TS),(Ca d s).wait.length<=s.wait.length:=by
 unfold Ca;induction d with
 |nil=>intro s;exact Nat.le_refl _
 |cons n d ih=>
  intro s;refine Nat.le_trans (ih _) ?_;exact List.length_filter_le _ _
theorem Acw {s:TS}{x:Ak}(hx:x∈s.wait):(Dd x s).2.wait.length<s.wait.length:=
 Nat.lt_of_le_of_lt (LQ _ _) (GF hx)
theorem IP.pick {s:TS}(ho:IP s){x:Ak}(hx:x∈s.wait):IP (Dd x s).2:=IP.Ca (Ab7 ho hx)
theorem IP.settle:∀{k:Nat} {s:TS} {g d:List Int},IP s->IP (AT k s g d).1
 |0,s,g,d,h=>h
 |k+1,s,g,d,h=>by
  unfold AT;split
  ·exact h
  ·rename_i x hx;exact IP.settle (h.pick (List.mem_of_find?_eq_some hx))
theorem erase_filter {l:List Ak}(hs:l.Pairwise (λa b=>a.n<b.n)){i:Nat}{x:Ak}(hx:l[i]?=some x):l.eraseIdx i=l.filter (λy=>!(y.n==x.n)):=by
 induction l generalizing i with
 |nil=>simp at hx
 |cons y t ih=>
  have h1:=List.pairwise_cons.1 hs;cases i with
  |zero=>
   simp only[List.getElem?_cons_zero,Option.some.injEq]at hx;subst hx;rw[List.eraseIdx_cons_zero,List.filter_cons_of_neg (by simp),List.filter_eq_self.2];intro z hz;have:=h1.1 z hz;have:¬z.n=y.n:=by omega
   simp[this]
  |succ i=>
   rw[List.getElem?_cons_succ]at hx;have hm:=h1.1 x (List.mem_of_getElem? hx);have hne:¬y.n=x.n:=by omega
   rw[List.eraseIdx_cons_succ,List.filter_cons_of_pos (by simp[hne]),ih h1.2 hx]
theorem Aak {w:World}{e:Nat}{s:TS}{sw:Sl}(he:w.heap[e]?=some (.cells #[.pointer (some ⟨t,0,none⟩)] 88 (0,0)))(h:NH w t H s sh sw)(ho:IP s):
  QX (.func (.func 106) #[] #[.pointer (some ⟨e,0,none⟩)]) (P1 s) [] w:=by
 intro w1 k1 y;have he:=k1.at he (by simp);have g1:=h.Ab k1;have hfew:=ho.few;refine BJ (by kernel_rfl) ?_;refine AR λR hR=>?_;apply HQ;unfold F9;dsimp only[Cg,Ll,Gs,Vp,Vs];refine Ad λa w2 ha na k2=>?_;have he:=k2.at he (by simp);have g2:=g1.Ab k2;simp only[CP,he,g2.hd,ha,Ck,Nat.reduceAdd];refine Cl.mono (O4 y _) ?_;rintro⟨f,_⟩ w3 ⟨c,nc,hf,k3⟩;dsimp only at hf ⊢;have he:=k3.at (w:=w2.drew) he (by simp);have g3:=(g1.Ab k2.drew).Ab k3;simp only[CP,he,g3.hd,Ck,Nat.reduceAdd];refine⟨by trivial,by trivial,?_⟩;refine Cl.mono (L8 g3.h (hf [] (by simp)) (by omega)) ?_;rintro⟨q,_⟩ w4 ⟨e4,k4⟩;dsimp only at e4;subst e4;exact hR _ _ ⟨rfl,Aj (Aj k2.drew k3) k4⟩
theorem AgJ {l:List Ak}{p:Ak->Bool}{x:Ak}(hx:l[i]?=some x)(hp:p x=true)(hn:∀y∈l.take i,p y=false):l.find? p=some x:=by
 induction l generalizing i with
 |nil=>simp at hx
 |cons y t ih=>
  cases i with
  |zero=>
   simp only[List.getElem?_cons_zero,Option.some.injEq]at hx;subst hx;exact List.find?_cons_of_pos hp
  |succ i=>
   rw[List.find?_cons_of_neg (by rw[hn y (by simp)];simp)];exact ih hx (λz hz=>hn z (by simp[hz]))
theorem WN {w:World}{s:TS}(h:Ny w t H s)(ho:IP s){pd:Sl}{d0:List Int}(hd:AE w pd 1 (cU d0))(hdn:∀y∈Ai pd,¬H y)(hd0:d0.length+s.wait.length*200<=40000):
  Cl Pg 67 [.pointer (some ⟨t,0,none⟩),.slice pd.p pd.len pd.cap] true [.sc .sl,.sc .sl] (λr w'=>∃H',Ny w' t H' (AT s.wait.length s [] d0).1/\Fr H H' w/\A4 (λx=>H x\/x∈Ai pd) w w' /\
   AE w' r.1 1 (cU (Dk (AT s.wait.length s [] d0).2.1))/\AE w' r.2.1 1 (cU (Dk (AT s.wait.length s [] d0).2.2))/\(∀y∈Ai r.1,w.heap.size<=y/\¬H' y)/\(∀y∈Ai r.2.1,(y∈Ai pd\/w.heap.size<=y)/\¬H' y)/\(∀y∈Ai r.1,y∉Ai r.2.1)) w:=by
 refine AR λR hR=>?_;apply Km;unfold H0;dsimp only[Cg,Ll,Lu,Gs,UY,Ts,Vi,Vp,Vs,Vu,Vm];have hfew0:=ho.few;refine Ad λe w1 he ne k1=>?_;have heH:¬H e:=λhx=>by have:=h.bl e hx;omega
 have hepd:e∉Ai pd:=λhx=>by have:=hd.lt e hx;omega
 have le:=Av he;obtain⟨D,hD⟩:∃D,D=AT s.wait.length s [] d0:=⟨_,rfl⟩;rw[<-hD]at hR
 refine⟨λn st w'=>∃(s':TS) (H':Nat->Prop) (ds gs q1 q2:Sl) (g d:List Int),st=(ds,q1,q2,gs,())/\s'.wait.length<=n/\AT n s' g d=D/\Ny w' t H' s'/\IP s'/\Fr H H' w1/\A4 (λx=>H x\/x∈Ai pd) w1 w' /\
   AE w' ds 1 (cU d)/\AE w' gs 1 (cU g)/\(∀y∈Ai ds,(y∈Ai pd\/w1.heap.size<=y)/\¬H' y)/\(∀y∈Ai gs,w1.heap.size<=y/\¬H' y)/\(∀y∈Ai gs,y∉Ai ds)/\d.length+s'.wait.length*200<=40000/\g.length+s'.wait.length<=200,
  ⟨_,s,H,pd,⟨none,0,0⟩,⟨none,0,0⟩,⟨none,0,0⟩,[],d0,rfl,Nat.le_refl _,hD.symm,h.Ab k1,ho,Fr.refl _ _,A4.refl _ _,hd.keeps k1 (by simp),AE.nil _ 1,λy hy=>⟨.inl hy,hdn y hy⟩,by simp[Ai],by simp[Ai],hd0,by simp;omega⟩,?_⟩
 rintro n _ w2 ⟨s',H',ds,gs,q1,q2,g,d,rfl,hn,hset,h2,ho2,f2,kp2,hds,hgs,hnd,hng,hdg,hb1,hb2⟩;dsimp only;have he2:w2.heap[e]?=_:=kp2.at he (λhx=>hx.elim heH hepd);have heH':¬H' e:=λhx=>by rcases f2 e hx with h'|h';exact heH h';omega
 have hed:e∉Ai ds:=λhx=>by rcases(hnd e hx).1 with h'|h';exact hepd h';omega
 have heg:e∉Ai gs:=λhx=>by have:=(hng e hx).1;omega
 obtain⟨sh,sw,h2⟩:=h2;have hfew:=ho2.few;have hlw:=UH h2.w;simp only[CP,he2,h2.hd,Ck,Nat.reduceAdd];refine Cl.mono (Xi h2.w (Aak he2 h2 ho2) (by omega)) ?_;rintro⟨r,_⟩ w3 ⟨hr,k3⟩;dsimp only at hr ⊢;have g3:=h2.Ab k3;have he3:=k3.at he2 (by simp);have hds3:=hds.keeps k3 (by simp);have hgs3:=hgs.keeps k3 (by simp);have s12:=kp2.size;have s23:=k3.size;have s01:=k1.size;rcases hr with⟨i,x,rfl,hx,hfx,hpre⟩|⟨rfl,hnone⟩
 ·
  have hfind:s'.wait.find? (P1 s')=some x:=AgJ hx hfx hpre;have hxm:x∈s'.wait:=List.mem_of_getElem? hx;have hwl:=Acw hxm;obtain⟨k,rfl⟩:∃k,n=k+1:=⟨n-1,by omega⟩;rw[AT,hfind]at hset;dsimp only at hset;have hi:=(List.getElem?_eq_some_iff.1 hx).1;rw[show decide ((i:Int)<0)=false from decide_eq_false (by omega)];simp only[CP,he3,g3.hd,Ck,Nat.reduceAdd];refine AdA g3.w hx ?_;refine bx4 λb w4 hb n4 k4=>?_;have g4:=g3.Ab k4;have he4:=k4.at he3 (by simp);simp only[CP,he4,g4.hd,Ck,Nat.reduceAdd];have kd:Aa [] w4 w4.drew:=(Aa.refl _ _).drew;have g4':=g4.Ab kd;rw[AK (by omega)];refine Cl.mono (Acy g4'.w hi (by omega) rfl rfl) ?_;rintro⟨r5,_⟩ w5 ⟨h5,hb5,k5⟩;dsimp only at h5 hb5 ⊢;rw[erase_filter ho2.wt hx]at h5;have hesw:e∉Ai sw:=λhx=>heH' ((h2.own e).2 (.inr (.inr hx)));have he5:=k5.at (show w4.drew.heap[e]?=_ from he4) hesw;simp only[CP,he5,Ck,Nat.reduceAdd];refine⟨by trivial,?_⟩;have hd5:=k5.at g4'.hd g4'.tw;refine Ax hd5 1 _ rfl (by simp) λw6 hd6 k6=>?_;obtain⟨H6,g6,f6,kp6⟩:=g4'.AhA k5 h5 (λz hz=>.inl (hb5 z hz)) k6 hd6;have het:e∉[t]:=by simp;rintro rfl;exact heH' ((h2.own e).2 (.inl rfl))
  have he6:=k6.at he5 het;have hbsw:b∉Ai sw:=λhx=>by have:=g3.w.lt b hx;omega
  have hbt:b∉[t]:=by simp;rintro rfl;have:=Av g3.hd;omega
  have hb6:=k6.at (k5.at (show w4.drew.heap[b]?=_ from hb) hbsw) hbt;have notH:∀z,¬H' z->z∉Ai sw/\z∉[t]:=λz hz=>⟨λhx=>hz ((h2.own z).2 (.inr (.inr hx))),by simp;rintro rfl;exact hz ((h2.own z).2 (.inl rfl))⟩;have hds6:AE w6 ds 1 (cU d):=(((hds3.keeps k4 (by simp)).keeps kd (by simp)).keeps k5 (λz hz=>(notH z (hnd z hz).2).1)).keeps k6 (λz hz=>(notH z (hnd z hz).2).2);have hgs6:AE w6 gs 1 (cU g):=(((hgs3.keeps k4 (by simp)).keeps kd (by simp)).keeps k5 (λz hz=>(notH z (hng z hz).2).1)).keeps k6 (λz hz=>(notH z (hng z hz).2).2);have s34:=k4.size;have s45:w4.heap.size<=w5.heap.size:=k5.size;have s56:=k6.size;have Hsub:∀z,H6 z->z<w4.heap.size->H' z:=λz hz hlt=>(f6 z hz).elim id (λh=>by have h:w4.heap.size<=z:=h;omega);have nH6:∀z,z<w2.heap.size->¬H' z->¬H6 z:=λz hl hz hx=>hz (Hsub z hx (by omega));simp only[CP,hb6,Ck,Nat.reduceAdd];have hgl:=DJ hgs6;refine W9 (bytes:=8) (new:=[.int .u64 x.n]) hgs6 (by simp) (by simp[Value.oneCell']) (by kernel_rfl) (by omega) (by omega) ?_;intro r7 w7 h7 _ k7 hb7;have hgnH:∀z∈Ai gs,¬H6 z:=λz hz=>nH6 z (hgs.lt z hz) (hng z hz).2;have g7:Ny w7 t H6 ⟨s'.held,s'.wait.filter (λy=>!(y.n==x.n))⟩:=Ny.keeps ⟨_,_,g6⟩ (k7.FY (F:=λz=>z∈Ai gs) (λz hz=>.inl hz)) (λz hz hz'=>hgnH z hz' hz);have he7:=k7.at he6 heg;have hbgs:b∉Ai gs:=λhx=>by have:=hgs3.lt b hx;omega
  have hb7':=k7.at hb6 hbgs;have hds7:=hds6.keeps k7 (λz hz hz'=>hdg z hz' hz);simp only[CP,he7,hb7',Ck,Nat.reduceAdd];refine Cl.mono (Zw g7 (Ab7 ho2 hxm)) ?_;rintro⟨r8,_⟩ w8 ⟨H8,h8,f8,k8,hr8,hn8⟩;dsimp only at hr8 hn8 ⊢;have s67:=k7.size;have s78:=k8.size;have hds8:=hds7.Ue k8 (λz hz=>nH6 z (hds.lt z hz) (hnd z hz).2);have hr7n:∀z∈Ai r7,¬H6 z:=λz hz=>by
   rcases hb7 z hz with h'|h'
   ·exact hgnH z h'
   ·intro hx;have:=g6.bl z hx;omega
  have h7':AE w7 r7 1 (cU (g++[x.n])):=by rw[cU,List.map_append];exact h7
  have hr7:=h7'.Ue k8 hr7n;have hl8:=DJ hr8;have hdl:=DJ hds8;have hkl:(Dd x s').1.length<=192:=by
   have:(Dd x s').1.length<=(s'.wait.filter (λy=>!(y.n==x.n))).length:=Ln x (s'.wait.filter (λy=>!(y.n==x.n)));have h1:=GF hxm;omega
  have hrl:r8.len=(Dd x s').1.length:=hl8;refine MZ hds8 hr8.rdc (by rw[Rf,Nat.mul_one];exact hl8.symm) (AhS _) (by kernel_rfl) (by omega) (by omega) ?_;intro r9 w9 h9 _ k9 hb9;have F8:∀z,z<w2.heap.size->¬H' z->¬H8 z:=λz hl hz hx=>by
   rcases f8 z hx with h'|h'
   ·exact nH6 z hl hz h'
   ·omega
  have hdn8:∀z∈Ai ds,¬H8 z:=λz hz=>F8 z (hds.lt z hz) (hnd z hz).2;have s89:=k9.size;refine⟨k,by omega,(Dd x s').2,H8,r9,r7,q1,q2,g++[x.n],d++(Dd x s').1,rfl,by omega,hset,h8.keeps (k9.FY (F:=λz=>z∈Ai ds) (λz hz=>.inl hz)) (λz hz hz'=>hdn8 z hz' hz),ho2.pick hxm,?_,?_,?_,?_,?_,?_,?_,?_,?_⟩
  ·intro z hz;rcases f8 z hz with h'|h'
   ·rcases f6 z h' with h''|h''
    ·rcases f2 z h'' with h3|h3
     ·exact .inl h3
     ·exact .inr (by omega)
    ·have h'':w4.heap.size<=z:=h'';exact .inr (by omega)
   ·exact .inr (by omega)
  ·have a1:A4 (λx=>H x\/x∈Ai pd) w1 w4.drew:=kp2.step (Aj (Aj k3 k4) kd) (by simp);have a2:A4 (λx=>H x\/x∈Ai pd) w1 w6:=a1.trans kp6 (λz hz=>(f2 z hz).elim (λh=>.inl (.inl h)) .inr);have a3:A4 (λx=>H x\/x∈Ai pd) w1 w7:=a2.step k7 (λz hz=>.inr (hng z hz).1);have a4:A4 (λx=>H x\/x∈Ai pd) w1 w8:=a3.trans k8 (λz hz=>by
    rcases f6 z hz with h'|h'
    ·exact(f2 z h').elim (λh=>.inl (.inl h)) .inr
    ·have h':w4.heap.size<=z:=h';exact .inr (by omega))
   exact a4.step k9 (λz hz=>(hnd z hz).1.elim (λh=>.inl (.inr h)) .inr)
  ·have e1:cU (d++(Dd x s').1)=cU d++cU (Dd x s').1:=by rw[cU,List.map_append];rfl
   rw[e1];exact h9
  ·exact hr7.keeps k9 (λz hz hz'=>by
    rcases hb7 z hz with h'|h'
    ·exact hdg z h' hz'
    ·have:=hds6.lt z hz';omega)
  ·intro z hz;rcases hb9 z hz with h'|h'
   ·exact⟨(hnd z h').1,hdn8 z h'⟩
   ·exact⟨.inr (by omega),λhx=>by have:=h8.bl z hx;omega⟩
  ·intro z hz;have hz6:=hr7n z hz;refine⟨?_,λhx=>?_⟩
   ·rcases hb7 z hz with h'|h'
    ·exact(hng z h').1
    ·omega
   ·rcases f8 z hx with h'|h'
    ·exact hz6 h'
    ·have:=h7.lt z hz;omega
  ·intro z hz hz9;rcases hb9 z hz9 with h'|h'
   ·rcases hb7 z hz with h3|h3
    ·exact hdg z h3 h'
    ·have:=hds6.lt z h';omega
   ·have:=hr7.lt z hz;omega
  ·rw[List.length_append];omega
  ·rw[List.length_append,List.length_singleton];omega
 ·
  have hfind:s'.wait.find? (P1 s')=none:=List.find?_eq_none.2 (λy hy=>by rw[hnone y hy];simp);have hDe:D=(s',g,d):=by
   rw[<-hset];cases n with
   |zero=>rfl
   |succ n=>rw[AT,hfind]
  rw[show decide ((-1:Int)<0)=true from rfl];simp only[Af];refine Cl.mono (AdK hgs3 (by omega)) ?_;rintro⟨r4,_⟩ w4 ⟨l4,h4,hp4,hm4,hb4,k4⟩;dsimp only at h4 hb4 ⊢;refine Cl.mono (AdK (hds3.keeps k4 (λz hz hz'=>hdg z hz' hz)) (by omega)) ?_;rintro⟨r5,_⟩ w5 ⟨l5,h5,hp5,hm5,hb5,k5⟩;dsimp only at h5 hb5 ⊢;refine hR (r4,r5,()) _ ?_;rw[hDe];dsimp only;rw[<-Xt hp4 hm4,<-Xt hp5 hm5];have s45:=k4.size;refine⟨H',?_,λz hz=>(f2 z hz).elim .inl (λh=>.inr (by omega)),?_,h4.keeps k5 (λz hz hz'=>hdg z (hb4 z hz) hz'),h5,λz hz=>?_,λz hz=>?_,λz hz hz'=>hdg z (hb4 z hz) (hb5 z hz')⟩
  ·have a1:Ny w4 t H' s':=Ny.keeps ⟨_,_,g3⟩ (k4.FY (F:=λz=>z∈Ai gs) (λz hz=>.inl hz)) (λz hz hz'=>(hng z hz').2 hz);exact a1.keeps (k5.FY (F:=λz=>z∈Ai ds) (λz hz=>.inl hz)) (λz hz hz'=>(hnd z hz').2 hz)
  ·have a0:A4 (λx=>H x\/x∈Ai pd) w w2:=(k1.FY (F:=λx=>H x\/x∈Ai pd) (by simp)).same kp2;have a1:=a0.step k3 (by simp);have a2:=a1.step k4 (λz hz=>.inr (by have:=(hng z hz).1;omega));exact a2.step k5 (λz hz=>(hnd z hz).1.elim (λh=>.inl (.inr h)) (λh=>.inr (by omega)))
  ·obtain⟨h',h''⟩:=hng z (hb4 z hz);exact⟨by omega,h''⟩
  ·obtain⟨h',h''⟩:=hnd z (hb5 z hz);exact⟨h'.elim .inl (λh=>.inr (by omega)),h''⟩
open Go Go.Sx
def F7 (x y:Ak):Bool:=y.n==x.n&&(CW y.lo y.hi x.lo x.hi&&(y.wr||!x.wr))
def QN (x:Ak)(l:List Ak):List Ak:=l.filter (λy=>decide (y.n<x.n))++x::l.filter (λy=>!decide (y.n<x.n))
def MM (x:Ak)(l:List Ak):Bool:=l.all (λy=>!B8 x y||decide (x.n<y.n))
def Bc (x:Ak)(s:TS):(Int×List Int×List Int×Int)×TS:=
 if Da x.lo x.hi=false then((0,[],[],21),s)
 else if s.wait.any (λy=>y.n==x.n)then((0,[],[],4),s)
 else if s.held.any (F7 x)then((1,[],[],0),s)
 else if 192<=s.held.length+s.wait.length then((3,[],[],0),s)
 else if s.held.any (B8 x)=false then
  let q:=AT (AL x s).2.wait.length (AL x s).2 [] (AL x s).1
  ((1,Dk q.2.1,Dk q.2.2,0),q.1)
 else if MM x s.held then((2,[],[],0),⟨s.held,QN x s.wait⟩)
 else((3,[],[],0),s)
def ES (n:Int)(s:TS):(List Int×List Int)×TS:=
 let q:=AT (CJ n s).wait.length (CJ n s) [] []
 ((Dk q.2.1,Dk q.2.2),q.1)
theorem AfN {x:Ak}{l:List Ak}(h1:∀y∈l.take i,y.n<x.n)(h2:∀y∈l.drop i,x.n<=y.n):QN x l=l.take i++x::l.drop i:=by
 unfold QN;have e:l.filter (λy=>decide (y.n<x.n))=l.take i:=by
  conv=>lhs;rw[<-List.take_append_drop i l]
  rw[List.filter_append,List.filter_eq_self.2 (λy hy=>by simpa using h1 y hy),List.filter_eq_nil_iff.2 (λy hy=>by simpa using h2 y hy),List.append_nil]
 have e2:l.filter (λy=>!decide (y.n<x.n))=l.drop i:=by
  conv=>lhs;rw[<-List.take_append_drop i l]
  rw[List.filter_append,List.filter_eq_nil_iff.2 (λy hy=>by simpa using h1 y hy),List.filter_eq_self.2 (λy hy=>by simpa using h2 y hy),List.nil_append]
 rw[e,e2]
theorem Zz (p:Ak->Bool)(l:List Ak):(l.filter p).length+(l.filter (λy=>!p y)).length=l.length:=by
 induction l with
 |nil=>rfl
 |cons y t ih=>
  cases h:p y<;>simp[h]<;>omega
theorem Aew (x:Ak)(l:List Ak):(QN x l).length=l.length+1:=by
 unfold QN;rw[List.length_append,List.length_cons];have:=Zz (λy:Ak=>decide (y.n<x.n)) l;omega
theorem AfL {x:Ak}{s:TS}(ho:IP s)(hn:s.wait.any (λy=>y.n==x.n)=false)(hf:s.held.length+s.wait.length<192):IP ⟨s.held,QN x s.wait⟩:=by
 refine⟨?_,by show s.held.length+(QN x s.wait).length<=192;rw[Aew];omega⟩;show(QN x s.wait).Pairwise _;unfold QN;rw[List.pairwise_append,List.pairwise_cons];refine⟨ho.wt.filter _,⟨λy hy=>?_,ho.wt.filter _⟩,λa ha b hb=>?_⟩
 ·rw[List.mem_filter]at hy;have h1:¬y.n=x.n:=by simpa using List.any_eq_false.1 hn y hy.1
  have h2:¬y.n<x.n:=by simpa using hy.2
  omega
 ·have h1:a.n<x.n:=by simpa using(List.mem_filter.1 ha).2
  rcases List.mem_cons.1 hb with rfl|hb
  ·exact h1
  ·have h2:¬b.n<x.n:=by simpa using(List.mem_filter.1 hb).2
   omega
theorem Ab9 {x:Ak}{s:TS}(ho:IP s):IP (Bc x s).2:=by
 unfold Bc;split
 ·exact ho
 split
 ·exact ho
 rename_i hw;split
 ·exact ho
 split
 ·exact ho
 rename_i hf;split
 ·refine IP.settle (IP.Ca ⟨ho.wt,?_⟩);show(s.held++[x]).length+s.wait.length<=192;rw[List.length_append,List.length_singleton];omega
 split
 ·exact AfL ho (by simpa using hw) (by omega)
 ·exact ho
theorem AfO {n:Int}{s:TS}(ho:IP s):IP (ES n s).2:=IP.settle (ho.drop n)
def Left (w w':World)(t:Nat)(H:Nat->Prop)(s':TS)(a b:Sl)(g d:List Int):Prop:=∃H',Ny w' t H' s'/\Fr H H' w/\A4 H w w'/\AE w' a 1 (cU g)/\AE w' b 1 (cU d) /\
 (∀y∈Ai a,w.heap.size<=y/\¬H' y)/\(∀y∈Ai b,w.heap.size<=y/\¬H' y)/\(∀y∈Ai a,y∉Ai b)
theorem Left.none {w:World}{s:TS}(h:Ny w t H s)(k:Aa [] w w'):Left w w' t H s ⟨none,0,0⟩ ⟨none,0,0⟩ [] []:=
 ⟨H,h.Ab k,Fr.refl _ _,k.FY (by simp),AE.nil _ 1,AE.nil _ 1,by simp[Ai],by simp[Ai],by simp[Ai]⟩
theorem Left.pre {w:World}{s:TS}{a b:Sl}{g d:List Int}(k:Aa [] w0 w)(h:Left w w' t H s a b g d):Left w0 w' t H s a b g d:=by
 obtain⟨H',h1,h2,h3,h4,h5,h6,h7,h8⟩:=h;have:=k.size;exact⟨H',h1,λx hx=>(h2 x hx).elim .inl (λh=>.inr (by omega)),(k.FY (F:=H) (by simp)).same h3,h4,h5,λy hy=>⟨by have:=(h6 y hy).1;omega,(h6 y hy).2⟩,λy hy=>⟨by have:=(h7 y hy).1;omega,(h7 y hy).2⟩,h8⟩
theorem Afp (w:World):Cl Pg 27 [] false [.sc .p] (λr w'=>∃(t:Nat) (H:Nat->Prop),r.1=some ⟨t,0,none⟩/\Ny w' t H ⟨[],[]⟩/\(∀x,H x->w.heap.size<=x)/\Aa [] w w') w:=by
 refine AR λR hR=>?_;apply V3;unfold Wr;refine Ad λt w1 h1 n1 k1=>?_;refine hR _ _ ⟨t,λx=>x=t,rfl,⟨⟨none,0,0⟩,⟨none,0,0⟩,h1,AE.nil _ 4,AE.nil _ 4,by simp[Ai],by simp[Ai],by simp[Ai],λx=>by simp[Ai]⟩,λx hx=>by rw[hx];exact n1,k1⟩
theorem Abq {w:World}{s:TS}(h:Ny w t H s)(ho:IP s)(n:Int):
  Cl Pg 277 [.pointer (some ⟨t,0,none⟩),.int .u64 n] true [.sc .sl,.sc .sl] (λr w'=>Left w w' t H (ES n s).2 r.1 r.2.1 (ES n s).1.1 (ES n s).1.2) w:=by
 unfold ES;dsimp only;obtain⟨Q,hQ⟩:∃Q,Q=AT (CJ n s).wait.length (CJ n s) [] []:=⟨_,rfl⟩;rw[<-hQ];refine AR λR hR=>?_;apply Je;unfold Gm;dsimp only[Vp,Vu];refine Cl.mono (Ach h ho n) ?_;rintro _ w1 ⟨H1,h1,f1,k1⟩;have hfew:=(ho.drop n).few;have hb0:([]:List Int).length+(CJ n s).wait.length*200<=40000:=by rw[List.length_nil];omega
 have hnil:AE w1 ⟨none,0,0⟩ 1 (cU []):=AE.nil _ 1;have hset:=WN h1 (ho.drop n) hnil (λy hy=>by cases hy) hb0;rw[<-hQ]at hset;have hnb:∀y∈Ai ⟨none,0,0⟩,¬H1 y:=λy hy=>by cases hy
 refine Cl.mono hset ?_;rintro⟨a,b,_⟩ w2 ⟨H2,h2,f2,k2,ha,hb,na,nb,hab⟩;dsimp only at ha hb na nb hab ⊢;have s1:=k1.size;have k2':A4 H1 w1 w2:=k2.mono (λx hx=>hx.elim .inl (λh=>by simp[Ai]at h));refine hR (a,b,()) _ ⟨H2,h2,f1.trans f2 s1,k1.trans k2' (λx hx=>f1 x hx),ha,hb,λy hy=>⟨by have:=(na y hy).1;omega,(na y hy).2⟩,λy hy=>⟨?_,(nb y hy).2⟩,hab⟩;rcases(nb y hy).1 with h'|h'
 ·simp[Ai]at h'
 ·omega
open Go Go.Sx
theorem VB {p:Ak->Bool}{l:List Ak}(h:∀y∈l,p y=false):l.any p=false:=List.any_eq_false.2 (λy hy=>by rw[h y hy];simp)
theorem Aix {w:World}{s:TS}(h:Ny w t H s)(ho:IP s)(x:Ak):
  Cl Pg 29 [.pointer (some ⟨t,0,none⟩),.int .u64 x.n,.agg #[.string x.lo,.string x.hi,.bool x.wr]] true [.sc (.i .i64),.sc .sl,.sc .sl,.sc (.i .i64)]
   (λr w'=>r.1=(Bc x s).1.1/\r.2.2.2.1=(Bc x s).1.2.2.2/\Left w w' t H (Bc x s).2 r.2.1 r.2.2.1 (Bc x s).1.2.1 (Bc x s).1.2.2.1) w:=by
 obtain⟨A,hA⟩:∃A,A=Bc x s:=⟨_,rfl⟩;rw[<-hA];unfold Bc at hA;have h0:=h;obtain⟨sh,sw,h⟩:=h;have hfew:=ho.few;have hlh:=UH h.h;have hlw:=UH h.w;refine AR λR hR=>?_;apply MX;unfold L9;dsimp only[SG,Cg,Lb,Ll,Ls,UC,Lu,Gs,UY,Ts,Vi,Vp,Vs,Vt,Vu,Vm];refine Ad λa w1 ha na k1=>?_;simp only[CP,ha,Ck,Nat.reduceAdd];refine Cl.mono (Hv _ _ _) ?_;rintro⟨r,_⟩ w2 ⟨e,k2⟩;dsimp only at e;subst e;simp only[ok1];have k02:=Aj k1 k2;have ha2:=k2.at ha (by simp);cases hok:Da x.lo x.hi with
 |false=>
  rw[if_pos hok]at hA;rw[hA]at hR;exact hR (0,⟨none,0,0⟩,⟨none,0,0⟩,21,()) _ ⟨rfl,rfl,Left.none h0 k02⟩
 |true=>
 rw[if_neg (by rw[hok];simp)]at hA;have g2:=h.Ab k02;simp only[CP,g2.hd,Ck,Nat.reduceAdd,Bool.not_true];refine Cl.mono (AeI x.n _) ?_;rintro⟨f,_⟩ w3 ⟨e,ne,hf,k3⟩;dsimp only at hf ⊢;have k03:=Aj k02.drew k3;have g3:=h.Ab k03;have ha3:=k3.at (show w2.drew.heap[a]?=_ from ha2) (by simp);simp only[CP,g3.hd,Ck,Nat.reduceAdd];refine⟨by trivial,?_⟩;refine Cl.mono (L8 g3.w (hf [] (by simp)) (by omega)) ?_;rintro⟨r,_⟩ w4 ⟨e4,k4⟩;dsimp only at e4;subst e4;have k04:=Aj k03 k4;cases hany:s.wait.any (λy=>y.n==x.n)with
 |true=>
  rw[if_pos hany]at hA;rw[hA]at hR;exact hR (0,⟨none,0,0⟩,⟨none,0,0⟩,4,()) _ ⟨rfl,rfl,Left.none h0 k04⟩
 |false=>
 rw[if_neg (by rw[hany];simp)]at hA;have ha4:=k4.at ha3 (by simp);simp only[CP,ha4,Ck,Nat.reduceAdd];refine bx4 λc w5 hc nc k5=>?_;have k05:=Aj k04 k5;have ha5:=k5.at ha4 (by simp);have g5:=h.Ab k05;simp only[CP,g5.hd,Ck,Nat.reduceAdd];refine⟨λn st w'=>∃(q1:Int) (q2 q3:Sl) (q4:Int) (i:Nat),st=(q1,q2,q3,q4,(((s.held.take i).filter (B8 x)).length:Int),MM x (s.held.take i),(i:Int),())/\n=s.held.length-i/\i<=s.held.length/\(∀y∈s.held.take i,F7 x y=false)/\Aa [] w5 w',⟨_,0,⟨none,0,0⟩,⟨none,0,0⟩,0,0,rfl,rfl,by omega,by simp,Aa.refl _ _⟩,?_⟩;rintro n _ w6 ⟨q1,q2,q3,q4,i,rfl,rfl,hi,hcov,k6⟩;dsimp only;have g6:=g5.Ab k6;have ha6:=k6.at ha5 (by simp);have hc6:=k6.at hc (by simp);have k06:=Aj k05 k6;by_cases hlt:i<s.held.length
 ·rw[decide_eq_true (by omega)];simp only[Af];obtain⟨y,hy⟩:∃y,s.held[i]?=some y:=⟨_,List.getElem?_eq_getElem hlt⟩;have hfl:((s.held.take (i+1)).filter (B8 x)).length=((s.held.take i).filter (B8 x)).length+(if B8 x y then 1 else 0):=by
   rw[List.take_add_one,hy,List.filter_append,List.length_append]
   congr 1
   cases hw:B8 x y<;>simp[hw]
  have hfi:MM x (s.held.take (i+1))=(MM x (s.held.take i)&&(!B8 x y||decide (x.n<y.n))):=by
   unfold MM;rw[List.take_add_one,hy,List.all_append];simp
  refine AG (λst w'=>st=(q1,q2,q3,q4,(((s.held.take (i+1)).filter (B8 x)).length:Int),MM x (s.held.take (i+1)),())/\F7 x y=false/\Aa [] w5 w') (λJ hJ=>?_) ?_
  rotate_left
  ·rintro _ w7 ⟨rfl,hcy,k7⟩;refine⟨s.held.length-(i+1),by omega,q1,q2,q3,q4,i+1,by rw[AK (by omega)],rfl,by omega,?_,k7⟩;intro z hz;rw[List.take_add_one,hy]at hz;simp at hz;rcases hz with hz|rfl
   ·exact hcov z hz
   ·exact hcy
  refine AdA g6.h hy ?_;refine bx4 λb w7 hb nb k7=>?_;have ha7:=k7.at ha6 (by simp);have hc7:=k7.at hc6 (by simp);refine AG (λst w'=>st=(F7 x y,())/\Aa [] w7 w') (λJ2 hJ2=>?_) ?_
  ·simp only[CP,hb,Ck,Nat.reduceAdd];cases hn:y.n==x.n with
   |false=>exact hJ2 _ _ ⟨by unfold F7;rw[hn];rfl,Aa.refl _ _⟩
   |true=>
   simp only[CP,hb,ha7,Ck,Nat.reduceAdd];refine Cl.mono (Wz _ _ _ _ _) ?_;rintro⟨q,_⟩ w8 ⟨e8,k8⟩;dsimp only at e8;subst e8;cases hcv:CW y.lo y.hi x.lo x.hi with
   |false=>exact hJ2 _ _ ⟨by unfold F7;rw[hn,hcv];rfl,k8⟩
   |true=>
   have hb8:=k8.at hb (by simp);have ha8:=k8.at ha7 (by simp);simp only[CP,hb8,ha8,Ck,Nat.reduceAdd];cases hwr:y.wr with
   |true=>exact hJ2 _ _ ⟨by unfold F7;rw[hn,hcv,hwr];rfl,k8⟩
   |false=>
   simp only[CP,ha8,Ck,Nat.reduceAdd];exact hJ2 _ _ ⟨by unfold F7;rw[hn,hcv,hwr];rfl,k8⟩
  ·rintro _ w8 ⟨rfl,k8⟩;dsimp only;have k78:=Aj k7 k8;have k08:=Aj k06 k78;cases hcy:F7 x y with
   |true=>
    have hany2:s.held.any (F7 x)=true:=List.any_eq_true.2 ⟨y,List.mem_of_getElem? hy,hcy⟩;rw[if_pos hany2]at hA;rw[hA]at hR;exact hR (1,⟨none,0,0⟩,⟨none,0,0⟩,0,()) _ ⟨rfl,rfl,Left.none h0 k08⟩
   |false=>
    have hb8:=k8.at hb (by simp);have hc8:=k8.at hc7 (by simp);simp only[CP,hb8,hc8,Ck,Nat.reduceAdd];refine Cl.mono (O4 x _) ?_;rintro⟨f2,_⟩ w9 ⟨e9,n9,hf9,k9⟩;dsimp only at hf9 ⊢;have hb9:=k9.at (show w8.drew.heap[b]?=_ from hb8) (by simp);simp only[CP,hb9,Ck,Nat.reduceAdd];refine⟨by trivial,?_⟩;refine AB.mono (hf9 [] (by simp) w9 (Aa.refl _ _) y) ?_;rintro⟨q,_⟩ w10 ⟨e10,k10⟩;dsimp only at e10;subst e10;have hb10:=k10.at hb9 (by simp);have k510:Aa [] w5 w10:=Aj (Aj (Aj k6 k78).drew k9) k10;cases hw:B8 x y with
    |false=>
     refine hJ _ _ ⟨?_,hcy,k510⟩;rw[hfl,hfi,hw];simp
    |true=>
     have hwl:(((s.held.take i).filter (B8 x)).length)<=i:=Nat.le_trans (List.length_filter_le _ _) (by rw[List.length_take];omega);simp only[Af];rw[AK (by omega)];cases hfs:MM x (s.held.take i)with
     |false=>
      refine hJ _ _ ⟨?_,hcy,k510⟩;rw[hfl,hfi,hw,hfs];simp
     |true=>
      simp only[CP,hb10,Ck,Nat.reduceAdd];refine hJ _ _ ⟨?_,hcy,k510⟩;rw[hfl,hfi,hw,hfs];simp
 ·have hil:i=s.held.length:=by omega
  have htk:s.held.take i=s.held:=List.take_of_length_le (by omega);rw[decide_eq_false (by omega)];rw[htk]at hcov ⊢;rw[if_neg (by rw[VB hcov];simp)]at hA;simp only[Ae];have kd:Aa [] w6 w6.drew:=(Aa.refl _ _).drew;simp only[CP,g6.hd,Ck,Nat.reduceAdd];rw[hlh,hlw,Oq rfl rfl (by omega)];have k06d:=Aj k06 kd;by_cases hmax:192<=s.held.length+s.wait.length
  ·rw[if_pos hmax]at hA;rw[hA]at hR;rw[decide_eq_true (by omega)];exact hR (3,⟨none,0,0⟩,⟨none,0,0⟩,0,()) _ ⟨rfl,rfl,Left.none h0 k06d⟩
  ·rw[if_neg hmax]at hA;rw[decide_eq_false (by omega)];simp only[Ae];have hnone:((((s.held.filter (B8 x)).length:Nat):Int)==0)=!(s.held.any (B8 x)):=by
    cases hv:s.held.any (B8 x)with
    |false=>
     have:s.held.filter (B8 x)=[]:=List.filter_eq_nil_iff.2 (λy hy=>by have:=List.any_eq_false.1 hv y hy;exact this);rw[this];rfl
    |true=>
     obtain⟨y,hy,hwy⟩:=List.any_eq_true.1 hv;have:0<(s.held.filter (B8 x)).length:=List.length_pos_of_mem (List.mem_filter.2 ⟨hy,hwy⟩);simp;exact⟨y,hy,hwy⟩
   rw[hnone];have g6':=g6.Ab kd;have hc6':w6.drew.heap[c]?=_:=hc6;cases hv:s.held.any (B8 x)with
   |false=>
    rw[if_pos hv]at hA;simp only[CP,hc6,Ck,Nat.reduceAdd,Bool.not_false];have hog:IP ⟨s.held++[x],s.wait⟩:=⟨ho.wt,by show(s.held++[x]).length+s.wait.length<=192;rw[List.length_append,List.length_singleton];omega⟩;refine Cl.mono (Zw ⟨_,_,g6'⟩ hog) ?_;rintro⟨r7,_⟩ w7 ⟨H7,h7,f7,k7,hr7,hn7⟩;dsimp only at hr7 hn7 ⊢;have hog2:IP (AL x s).2:=IP.Ca hog;have hkl:(AL x s).1.length<=s.wait.length:=Ln x s.wait;have hwl:(AL x s).2.wait.length<=s.wait.length:=LQ _ _;have hb0:(AL x s).1.length+(AL x s).2.wait.length*200<=40000:=by omega
    have hset:=WN h7 hog2 hr7 (λy hy=>(hn7 y hy).2) hb0;obtain⟨Q,hQ⟩:∃Q,Q=AT (AL x s).2.wait.length (AL x s).2 [] (AL x s).1:=⟨_,rfl⟩;rw[<-hQ]at hset;refine Cl.mono hset ?_;rintro⟨a8,b8,_⟩ w8 ⟨H8,h8,f8,k8,ha8,hb8,na8,nb8,hab⟩;dsimp only at ha8 hb8 na8 nb8 hab ⊢;have hA':A=((1,Dk Q.2.1,Dk Q.2.2,0),Q.1):=by rw[hA,hQ]
    rw[hA']at hR;have s07:=k06d.size;have s7:=k7.size;refine hR (1,a8,b8,0,()) _ ⟨rfl,rfl,Left.pre k06d ⟨H8,h8,?_,?_,ha8,hb8,?_,?_,hab⟩⟩
    ·exact f7.trans f8 s7
    ·refine k7.trans k8 (λz hz=>?_);rcases hz with hz|hz
     ·exact f7 z hz
     ·exact .inr (hn7 z hz).1
    ·exact λy hy=>⟨by have:=(na8 y hy).1;omega,(na8 y hy).2⟩
    ·intro y hy;refine⟨?_,(nb8 y hy).2⟩;rcases(nb8 y hy).1 with h'|h'
     ·exact(hn7 y h').1
     ·omega
   |true=>
    rw[if_neg (by rw[hv];simp)]at hA;simp only[Bool.not_true,Ae];cases hfs:MM x s.held with
    |false=>
     rw[if_neg (by rw[hfs];simp)]at hA;rw[hA]at hR;exact hR (3,⟨none,0,0⟩,⟨none,0,0⟩,0,()) _ ⟨rfl,rfl,Left.none h0 k06d⟩
    |true=>
     rw[if_pos hfs]at hA;rw[hA]at hR;simp only[CP,g6.hd,Ck,Nat.reduceAdd];refine Cl.mono (Ac6 g6'.w ho.wt x.n (by omega)) ?_;rintro⟨r7,r7b,_⟩ w7 ⟨j,hj,hjl,hj1,hj2,k7⟩;dsimp only at hj ⊢;have g7:=g6'.Ab k7;have hc7:=k7.at hc6' (by simp);simp only[CP,g7.hd,hc7,Ck,Nat.reduceAdd];have kd7:Aa [] w7 w7.drew:=(Aa.refl _ _).drew;have g7':=g7.Ab kd7;refine Ad λd w8 hd nd k8=>?_;have g8:=g7'.Ab k8;simp only[CP,g8.hd,Ck,Nat.reduceAdd];refine⟨by trivial,?_⟩;have hdsw:d∉Ai sw:=λhx=>by have:=g7'.w.lt d hx;omega
     subst hj;refine Cl.mono (Adq g8.w hd hdsw hjl (by omega)) ?_;rintro⟨r9,_⟩ w9 ⟨h9,hb9,k9⟩;dsimp only at h9 hb9 ⊢;rw[<-AfN hj1 hj2]at h9;have hd9:=k9.at g8.hd g8.tw;refine Ax hd9 1 _ rfl (by simp) λw10 hd10 k10=>?_;obtain⟨H10,g10,f10,kp10⟩:=g8.AhA k9 h9 hb9 k10 hd10;have k08:Aa [] w w8:=Aj (Aj (Aj k06d k7) kd7) k8;refine hR (2,⟨none,0,0⟩,⟨none,0,0⟩,0,()) _ ⟨rfl,rfl,Left.pre k08 ⟨H10,⟨_,_,g10⟩,f10,kp10,AE.nil _ 1,AE.nil _ 1,by simp[Ai],by simp[Ai],by simp[Ai]⟩⟩
open Go Go.Sx
def Fx (k:Int):Bool:=k==1||(k==2||k==3)
def SO (k:Int):Bool:=k==2
def FH (k:Int):Bool:=k==4||k==5
def FD (k:Int):Bool:=k==4
def fWr (k:Int):Bool:=k==2||(k==3||k==5)
def Zk (k:Int):Value:=if k=1 then .func (.func 265) #[] #[]else if k=2 then .func (.func 266) #[] #[]else if k=3 then .func (.func 267) #[] #[]else if k=4 then .func (.func 268) #[] #[]else if k=5 then .func (.func 269) #[] #[]else .nilFunc
theorem Tk (k:Int):(Zk k).oneCell'=true:=by unfold Zk;(repeat' split)<;>rfl
abbrev fK:List Kd:=[.b,.b,.b,.b,.b,.v]
abbrev fK6:List Kd:=[.b,.b,.b,.b,.b,.v,.b,.b,.b,.b,.b,.v,.b,.b,.b,.b,.b,.v,.b,.b,.b,.b,.b,.v,.b,.b,.b,.b,.b,.v,.b,.b,.b,.b,.b,.v]
def Zd (k:Int):Kw fK:=(Fx k,SO k,FH k,FD k,fWr k,Zk k,())
def QJ:Kw fK6:=(false,false,false,false,false,Value.nilFunc,true,false,false,false,false,Zk 1,true,true,false,false,true,Zk 2,true,false,false,false,true,Zk 3,false,false,true,true,false,Zk 4,false,false,true,false,true,Zk 5,())
theorem Adh:∀v∈Cs fK6 QJ,v.oneCell'=true:=by
 intro v hv;simp only[QJ,Cs,Kd.enc,List.mem_cons,List.not_mem_nil,or_false]at hv;rcases hv with rfl|rfl|rfl|rfl|rfl|rfl|rfl|rfl|rfl|rfl|rfl|rfl|rfl|rfl|rfl|rfl|rfl|rfl|rfl|rfl|rfl|rfl|rfl|rfl|rfl|rfl|rfl|rfl|rfl|rfl|rfl|rfl|rfl|rfl|rfl|rfl<;>first|rfl|exact Tk _
theorem Abw {w:World}{K:TR [.ag fK6]->Pr}(k:∀w',Aa [] w w'->K (QJ,()) w'):Cl Pg 199 [] false [.ag fK6] K w:=by
 refine VS ?_;unfold Zl;dsimp only[K6',Gq,Sb5,Tb,Vb];refine Ad λa w1 h1 n1 k1=>?_;refine⟨rfl,rfl,rfl,rfl,rfl,?_⟩;refine L0 (vs:=Cs fK6 QJ) h1 rfl Adh λw2 h2 k2=>?_;show LdT fK6 ⟨a,0,none⟩ 0 (λy=>K (y,())) w2;refine Yo (y:=QJ) (λj u hj=>?_) (k w2 (BT k1 k2 n1));rw[Cr,cell_of h2,Nat.zero_add,Nat.zero_add,List.getElem?_toArray];exact hj
def Na (k:Int):Bool:=decide (1<=k)&&decide (k<=5)
variable {k:Int}
theorem PZ (h:Na k=true):k=1\/k=2\/k=3\/k=4\/k=5:=by
 unfold Na at h;simp at h;omega
theorem AgO (h:Na k=false):Zd k=(false,false,false,false,false,Value.nilFunc,()):=by
 unfold Na at h;simp at h;have e:∀n:Int,1<=n->n<=5->¬k=n:=by omega
 simp[Zd,Fx,SO,FH,FD,fWr,Zk,e 1 (by decide) (by decide),e 2 (by decide) (by decide),e 3 (by decide) (by decide),e 4 (by decide) (by decide),e 5 (by decide) (by decide)]
theorem ZO (h:Na k=true){K:Kw fK->Pr}{w:World}(hk:K (Zd k) w):IxA (Cs fK6 QJ) 6 k 6 (λg=>TyA fK g K) w:=by
 rcases PZ h with rfl|rfl|rfl|rfl|rfl<;>exact⟨by decide,by decide,AfB _ rfl hk⟩
theorem YE (kind:Int){w:World}{K:TR [.ag fK,.sc .b]->Pr}(k:∀w',Aa [] w w'->K (Zd kind,Na kind,()) w'):Cl Pg 97 [.int .i64 kind] true [.ag fK,.sc .b] K w:=by
 refine UK _ ?_;unfold WY;dsimp only[K5',K6',Ait,Sb5,Vb];refine Ad λa w1 h1 n1 k1=>?_;refine BR (!Na kind) (λJ hJ=>?_) λw2 k2=>?_
 ·unfold Na at hJ;by_cases hc:kind<1
  ·rw[decide_eq_true hc];rw[decide_eq_false (by omega)]at hJ;exact hJ _ (Aa.refl _ _)
  ·rw[decide_eq_false hc];rw[decide_eq_true (by omega),show decide (kind<=5)=!decide (kind>5)from by rw[<-decide_not];exact decide_eq_decide.2 (by omega)]at hJ;simp only[Bool.true_and,Bool.not_not]at hJ;exact hJ _ (Aa.refl _ _)
 ·have h1:=k2.Aw h1;have k02:=Aj k1 k2;cases ho:Na kind with
  |false=>
   simp only[Bool.not_false,Af];refine Aj0 h1 rfl rfl rfl rfl rfl rfl λw3 h3 k3=>?_;simp only[sb,h3];have:=k w3 (BT k02 k3 n1);rw[AgO ho,ho]at this;exact this
  |true=>
   simp only[Bool.not_true,Ae];refine Abw λw3 k3=>?_;have h1:=k3.Aw h1;have k03:=Aj k02 k3;refine ZO ho ?_;refine Aj0 h1 rfl rfl rfl rfl rfl (Tk kind) λw4 h4 k4=>?_;simp only[sb,h4];have:=k w4 (BT k03 k4 n1);rw[ho]at this;exact this
theorem AdN (o:Op){w:World}{K:TR [.ag [.s,.s]]->Pr}(k:∀w',Aa [] w w'->K ((o.lo,o.hi,()),()) w'):Cl Pg 98 [.agg #[.int .i64 o.kind,.string o.key,.string o.value,.string o.lo,.string o.hi,.int .i64 o.AD]] false [.ag [.s,.s]] K w:=by
 refine Aag _ _ _ _ _ _ ?_;unfold Ahh;dsimp only[Ar,Ls,Tt,Vt];refine Ad λa w1 h1 n1 k1=>?_;refine Ad λb w2 h2 n2 k2=>?_;have h1:=k2.Aw h1;simp only[sb,h1];refine AaD h2 rfl rfl λw3 h3 k3=>?_;simp only[sb,h3];exact k w3 (BT (Aj k1 k2) k3 (by have:=k1.size;omega))
def ER (o:Op):Int:=
 if(!Na o.kind)||((!Fx o.kind&&!(seq o.key (BA [])))||((!SO o.kind&&!(seq o.value (BA [])))||((!FH o.kind&&!(seq o.lo (BA [])&&(seq o.hi (BA [])&&true)))||(!FD o.kind&&o.AD !=0))))then 40
 else if Fx o.kind&&!Kx o.key then 20
 else if decide (o.value.size>16)then 2
 else if FH o.kind&&!Da o.lo o.hi then 21
 else if FD o.kind&&(decide (o.AD<1)||decide (o.AD>4))then 1 else 0
theorem AcG (c:Bool):((if c then(0:Int)else 20) !=0)=!c:=by cases c<;>rfl
theorem Ni (o:Op){w:World}{K:TR [.sc (.i .i64)]->Pr}(k:∀w',Aa [] w w'->K (ER o,()) w'):Cl Pg 50 [.agg #[.int .i64 o.kind,.string o.key,.string o.value,.string o.lo,.string o.hi,.int .i64 o.AD]] false [.sc (.i .i64)] K w:=by
 obtain⟨E,hE⟩:∃E,E=ER o:=⟨_,rfl⟩;rw[<-hE]at k;unfold ER at hE;refine S6 _ _ _ _ _ _ ?_;unfold U1;dsimp only[Ar,K5',Lb,Li,AN,Ls,Sb5,Vb,Vi,Vt];refine Ad λa w1 h1 n1 k1=>?_;simp only[sb,h1];refine YE o.kind λw2 k2=>?_;have h1:=k2.Aw h1;refine bx6 rfl rfl rfl rfl rfl rfl (Tk o.kind) λb w3 h3 n3 k3=>?_;have h1:=k3.Aw h1;have k03:=Aj (Aj k1 k2) k3
 change w3.heap[b]?=some (.cells #[.bool (Fx o.kind),.bool (SO o.kind),.bool (FH o.kind),.bool (FD o.kind),.bool (fWr o.kind),Zk o.kind] _ (0,0))at h3
 dsimp only;refine BR ((!Na o.kind)||((!Fx o.kind&&!(seq o.key (BA [])))||((!SO o.kind&&!(seq o.value (BA [])))||((!FH o.kind&&!(seq o.lo (BA [])&&(seq o.hi (BA [])&&true)))||(!FD o.kind&&o.AD !=0))))) (λJ hJ=>?_) λw4 k4=>?_
 ·cases h0:Na o.kind with
  |false=>
   rw[h0]at hJ;exact hJ _ (Aa.refl _ _)
  |true=>
  rw[h0]at hJ;simp only[Bool.not_true,Ae,Bool.false_or]at hJ ⊢;refine BR (!Fx o.kind&&!(seq o.key (BA []))) (λJ1 hJ1=>?_) λw5 k5=>?_
  ·simp only[sb,h1,h3];cases hq:Fx o.kind<;>rw[hq]at hJ1<;>simp only[Bool.not_true,Bool.not_false,Bool.false_and,Bool.true_and,sb,h1]at hJ1 ⊢ <;> exact hJ1 _ (Aa.refl _ _)
  have h1:=k5.Aw h1;have h3:=k5.Aw h3;cases hb1:(!Fx o.kind&&!(seq o.key (BA [])))with
  |true=>
   rw[hb1]at hJ;simp only[Af];exact hJ _ k5
  |false=>
  rw[hb1]at hJ;simp only[Ae,Bool.false_or]at hJ ⊢;refine BR (!SO o.kind&&!(seq o.value (BA []))) (λJ1 hJ1=>?_) λw6 k6=>?_
  ·simp only[sb,h1,h3];cases hq:SO o.kind<;>rw[hq]at hJ1<;>simp only[Bool.not_true,Bool.not_false,Bool.false_and,Bool.true_and,sb,h1]at hJ1 ⊢ <;> exact hJ1 _ (Aa.refl _ _)
  have h1:=k6.Aw h1;have h3:=k6.Aw h3;have k36:=Aj k5 k6;cases hb2:(!SO o.kind&&!(seq o.value (BA [])))with
  |true=>
   rw[hb2]at hJ;simp only[Af];exact hJ _ k36
  |false=>
  rw[hb2]at hJ;simp only[Ae,Bool.false_or]at hJ ⊢;refine BR (!FH o.kind&&!(seq o.lo (BA [])&&(seq o.hi (BA [])&&true))) (λJ1 hJ1=>?_) λw7 k7=>?_
  ·simp only[sb,h1,h3];cases hq:FH o.kind<;>rw[hq]at hJ1<;>simp only[Bool.not_true,Bool.not_false,Bool.false_and,Bool.true_and,sb,h1]at hJ1 ⊢
   ·exact AdN o λw8 k8=>hJ1 _ k8
   ·exact hJ1 _ (Aa.refl _ _)
  have h1:=k7.Aw h1;have h3:=k7.Aw h3;have k37:=Aj k36 k7;cases hb3:(!FH o.kind&&!(seq o.lo (BA [])&&(seq o.hi (BA [])&&true)))with
  |true=>
   rw[hb3]at hJ;simp only[Af];exact hJ _ k37
  |false=>
  rw[hb3]at hJ;simp only[Ae,Bool.false_or,sb,h3]at hJ ⊢;cases hq:FD o.kind<;>rw[hq]at hJ<;>simp only[Bool.not_true,Bool.not_false,Bool.false_and,Bool.true_and,sb,h1]at hJ ⊢ <;> exact hJ _ k37
 ·have h1:=k4.Aw h1;have h3:=k4.Aw h3;have k04:=Aj k03 k4;split at hE
  ·rename_i hc;rw[hc];subst hE;exact k _ k04
  rename_i hc;rw[Bool.not_eq_true]at hc;rw[hc];simp only[Ae];refine BR (Fx o.kind&&!Kx o.key) (λJ hJ=>?_) λw5 k5=>?_
  ·simp only[sb,h3];cases hq:Fx o.kind<;>rw[hq]at hJ<;>simp only[Bool.false_and,Bool.true_and,sb,h1]at hJ ⊢
   ·exact hJ _ (Aa.refl _ _)
   ·refine Hb _ ?_;rw[AcG];exact hJ _ (Aa.refl _ _)
  have h1:=k5.Aw h1;have h3:=k5.Aw h3;have k05:=Aj k04 k5;split at hE
  ·rename_i hc;rw[hc];subst hE;exact k _ k05
  rename_i hc;rw[Bool.not_eq_true]at hc;rw[hc];simp only[sb,h1];rw[show decide (((o.value.size:Nat):Int)>16)=decide (o.value.size>16)from decide_eq_decide.2 (by omega)];split at hE
  ·rename_i hc;rw[hc];subst hE;exact k _ k05
  rename_i hc;rw[Bool.not_eq_true]at hc;rw[hc];simp only[Ae];refine BR (FH o.kind&&!Da o.lo o.hi) (λJ hJ=>?_) λw6 k6=>?_
  ·simp only[sb,h3];cases hq:FH o.kind<;>rw[hq]at hJ<;>simp only[Bool.false_and,Bool.true_and,sb,h1]at hJ ⊢
   ·exact hJ _ (Aa.refl _ _)
   ·refine AdN o λw7 k7=>?_;refine M1 _ _ λw8 k8=>?_;rw[ok1];exact hJ _ (Aj k7 k8)
  have h1:=k6.Aw h1;have h3:=k6.Aw h3;have k06:=Aj k05 k6;split at hE
  ·rename_i hc;rw[hc];subst hE;exact k _ k06
  rename_i hc;rw[Bool.not_eq_true]at hc;rw[hc];simp only[Ae];refine BR (FD o.kind&&(decide (o.AD<1)||decide (o.AD>4))) (λJ hJ=>?_) λw7 k7=>?_
  ·simp only[sb,h3];cases hq:FD o.kind<;>rw[hq]at hJ<;>simp only[Bool.false_and,Bool.true_and,sb,h1]at hJ ⊢
   ·exact hJ _ (Aa.refl _ _)
   ·cases hd:decide (o.AD<1)<;>rw[hd]at hJ<;>simp only[sb,h1,Bool.true_or,Bool.false_or]at hJ ⊢ <;> exact hJ _ (Aa.refl _ _)
  have k07:=Aj k06 k7;split at hE
  ·rename_i hc;rw[hc];subst hE;exact k _ k07
  rename_i hc;rw[Bool.not_eq_true]at hc;rw[hc];subst hE;exact k _ k07
open Go Go.Sx
def C1 (a b:ByteArray):Int:=Lib.compareBytes a.data.toList b.data.toList
theorem LM:∀a b:List UInt8,Lib.compareBytes a b<0↔a<b
 |[],[]=>by simp[Lib.compareBytes]
 |[],_::_=>by simp[Lib.compareBytes]
 |_::_,[]=>by simp[Lib.compareBytes]
 |a::xs,b::bs=>by
  simp only[Lib.compareBytes,List.cons_lt_cons_iff];by_cases h1:a<b
  ·simp[h1]
  ·rw[if_neg h1];by_cases h2:b<a
   ·rw[if_pos h2];simp only[h1,false_or];constructor
    ·intro h;omega
    ·rintro⟨rfl,_⟩;exact absurd h2 h1
   ·rw[if_neg h2];have e:a=b:=UInt8.le_antisymm (UInt8.not_lt.1 h2) (UInt8.not_lt.1 h1);subst e;rw[LM xs bs];simp[h1]
theorem LI:∀a b:List UInt8,Lib.compareBytes a b=0↔a=b
 |[],[]=>by simp[Lib.compareBytes]
 |[],_::_=>by simp[Lib.compareBytes]
 |_::_,[]=>by simp[Lib.compareBytes]
 |a::xs,b::bs=>by
  simp only[Lib.compareBytes];by_cases h1:a<b
  ·rw[if_pos h1];constructor
   ·intro h;omega
   ·intro h;cases h;exact absurd h1 (UInt8.lt_irrefl _)
  ·rw[if_neg h1];by_cases h2:b<a
   ·rw[if_pos h2];constructor
    ·intro h;omega
    ·intro h;cases h;exact absurd h2 (UInt8.lt_irrefl _)
   ·rw[if_neg h2];have e:a=b:=UInt8.le_antisymm (UInt8.not_lt.1 h2) (UInt8.not_lt.1 h1);subst e;rw[LI xs bs];simp
variable {a b:ByteArray}
theorem GI :C1 a b<0↔slt a b=true:=by
 rw[Mz,decide_eq_true_iff,ByteArray.toList_eq,ByteArray.toList_eq];exact LM _ _
theorem AbO :(C1 a b==0)=decide (a=b):=by
 rw[Bool.eq_iff_iff,beq_iff_eq,decide_eq_true_iff];refine(LI _ _).trans ⟨λh=>ByteArray.ext (Array.toList_inj.1 h),λh=>by rw[h]⟩
theorem CB {c:ByteArray}(h:slt a b=true)(k:slt b c=true):slt a c=true:=by
 rw[Mz,decide_eq_true_iff]at *;exact List.lt_trans h k
theorem Yl {c:ByteArray}(h:slt b a=false)(k:slt b c=true):slt a c=true:=by
 cases h2:slt a b with
 |true=>exact CB h2 k
 |false=>rw[Ek h2 h];exact k
theorem HJ {c:ByteArray}(h:slt a b=true)(k:slt c b=false):slt a c=true:=by
 cases h2:slt b c with
 |true=>exact CB h h2
 |false=>rw[<-Ek h2 k];exact h
theorem Oz (h:slt a b=true):a≠b:=λe=>by rw[e,KF]at h;cases h
theorem Ws (b:ByteArray):slt (BA []) b=!(seq b (BA [])):=by
 rw[Mz,seq_eq];by_cases h:b=BA []
 ·rw[decide_eq_true h,h];simp[List.lt_irrefl]
 ·rw[decide_eq_false h,Bool.not_false,decide_eq_true_iff,ByteArray.toList_eq,ByteArray.toList_eq];cases hb:b.data.toList with
  |nil=>exact absurd (ByteArray.ext (Array.toList_inj.1 (by rw[hb];rfl))) h
  |cons x r=>show []<x::r;exact List.nil_lt_cons _ _
theorem We (a b:ByteArray){w:World}{K:TR [.sc (.i .i64)]->Pr}(k:K (C1 a b,()) w):Cl Pg 303 [.string a,.string b] false [.sc (.i .i64)] K w:=by
 refine MD _ _ ?_;unfold LP;dsimp only[Vt];refine DX _ _ ?_;unfold C9;dsimp only[Vt];refine⟨(C1 a b,()),w,?_,k⟩
 rw[show([Value.string a,.string b]:List Value).toArray=#[.string a,.string b]from rfl,
  run_callFunc_extern Tryz.func310 (by kernel_rfl) (by kernel_rfl) (by kernel_rfl) (e:=Extern.BytealgCompare.compare) (by kernel_rfl),Lib.run_compareString]
 rfl
def strip (l:List UInt8):List UInt8:=(l.reverse.dropWhile (· == 255)).reverse
def S0 (l:List UInt8):List UInt8:=match l.reverse with | []=>[]|c::r=>((c+1)::r).reverse
def M9 (k:ByteArray):ByteArray:=if k.size<12 then k++BA [0]else⟨(S0 (strip k.data.toList)).toArray⟩
theorem Vc {l:List UInt8}{n:Nat}(hn:n<=l.length)(h:∀j,n<=j->j<l.length->l[j]?=some 255)(h2:n=0\/l[n-1]?≠some 255):strip l=l.take n:=by
 unfold strip;have e:l.reverse=(l.drop n).reverse++(l.take n).reverse:=by rw[<-List.reverse_append,List.take_append_drop]
 have h3:∀x∈(l.drop n).reverse,(x==255)=true:=by
  intro x hx;rw[List.mem_reverse]at hx;obtain⟨j,hj⟩:=List.getElem?_of_mem hx;rw[List.getElem?_drop]at hj;have hlt:=(List.getElem?_eq_some_iff.1 hj).1;rw[h _ (Nat.le_add_right _ _) hlt]at hj;cases hj;rfl
 rw[e,List.dropWhile_append_of_pos h3];rcases h2 with rfl|h2
 ·simp
 ·have hn0:0<n\/n=0:=by omega
  rcases hn0 with hn0|rfl
  ·obtain⟨c,hc⟩:∃c,l[n-1]?=some c:=⟨_,List.getElem?_eq_getElem (by omega)⟩;have e2:l.take n=l.take (n-1)++[c]:=by
    rw[show n=n-1+1 from by omega,List.take_add_one,hc];simp
   rw[e2,List.reverse_append];have hc2:(c==255)=false:=by
    rw[hc]at h2;simp at h2;simpa using h2
   simp[List.dropWhile_cons,hc2]
  ·simp
theorem YW {l:List UInt8}{n:Nat}{c:UInt8}(hn:l.length=n+1)(hc:l[n]?=some c):S0 l=l.set n (c+1):=by
 unfold S0;have e:l=l.take n++[c]:=by
  conv=>lhs;rw[<-List.take_of_length_le (i:=n+1) (l:=l) (by omega),List.take_add_one,hc]
  simp
 have hl:(l.take n).length=n:=by rw[List.length_take];omega
 rw[e,List.reverse_append];simp only[List.reverse_cons,List.reverse_nil,List.nil_append,List.cons_append,List.reverse_reverse];rw[List.set_append_right _ _ (by omega),hl,Nat.sub_self,List.set_cons_zero]
theorem Ab3 (key:ByteArray){w:World}{K:TR [.ag [.s,.s],.sc (.i .i64)]->Pr}(k:∀w',Aa [] w w'->K (if Kx key then((key,M9 key,()),0,())else((BA [],BA [],()),20,())) w'):Cl Pg 100 [.string key] true [.ag [.s,.s],.sc (.i .i64)] K w:=by
 refine SK _ ?_;unfold TH;dsimp only[N6,Ls,Tt,Vt];refine Ad λa w1 h1 n1 k1=>?_;refine Hb _ ?_;dsimp only;rw[AcG];cases hk:Kx key with
 |false=>
  rw[hk]at k;simp only[Bool.not_false,Af];refine KI h1 λw2 k2=>?_;exact k w2 (BT k1 k2 n1)
 |true=>
 rw[hk]at k;obtain⟨z1,z2⟩:=Pc hk;simp only[Bool.not_true,Ae];by_cases h12:key.size<12
 ·rw[decide_eq_true (by omega)];simp only[Af];refine⟨by have:(BA [0]).size=1:=rfl;omega,?_⟩;refine KI h1 λw2 k2=>?_;have:=k w2 (BT k1 k2 n1);unfold M9 at this;rw[if_pos h12]at this;exact this
 ·rw[decide_eq_false (by omega)];simp only[Ae];have hlen:key.data.toList.length=key.size:=by rw[Array.length_toList];rfl
  refine Ad9 ?_;intro r w2 s2 k2 f2 l2;have h2:=k2.Aw h1;have k02:=Aj k1 k2;have n02:=k1.size;have na:a∉Ai r:=λhx=>by have:=f2 a hx;have:=Av h1;omega
  refine⟨λn st w'=>∃m:Nat,st=(⟨r.p,m,r.cap⟩,())/\n=m/\m<=key.size/\(∀j,m<=j->j<key.size->key.data.toList[j]?=some 255)/\w2=w',⟨_,key.size,by rw[<-l2],rfl,Nat.le_refl _,λj h1 h2=>by omega,rfl⟩,?_⟩;rintro n _ _ ⟨m,rfl,rfl,hm,h255,rfl⟩;dsimp only;have sf:AE w2 ⟨r.p,n,r.cap⟩ 1 (cB (key.data.toList.take n)):=by
   have:=QZ s2 (i:=n) (by omega)
   rwa [Nat.mul_one,cB,<-List.map_take]at this
  have hcap:=s2.cap;refine AG (λst w'=>st=(decide (n≠0)&&(key.data.toList[n-1]?==some 255),())/\w2=w') (λJ hJ=>?_) ?_
  ·by_cases h0:n=0
   ·rw[decide_eq_false (by omega)];exact hJ _ _ ⟨by rw[h0];rfl,rfl⟩
   ·rw[decide_eq_true (by omega)];simp only[Af];rw[Ew (by omega) (by omega)];obtain⟨c,hc⟩:∃c,key.data.toList[n-1]?=some c:=⟨_,List.getElem?_eq_getElem (by omega)⟩;refine Ahk sf (j:=n-1) (x:=c) (by rw[List.getElem?_take,if_pos (by omega),hc]) ?_;refine hJ _ _ ⟨?_,rfl⟩;rw[hc,decide_eq_true h0,Bool.true_and]
    congr 1
    rw[Bool.eq_iff_iff];simp only[beq_iff_eq,Option.some.injEq];constructor
    ·intro h;have:c.toNat=255:=by omega
     exact UInt8.toNat_inj.1 this
    ·intro h;rw[h];rfl
  ·rintro _ _ ⟨rfl,rfl⟩;dsimp only;cases hq:(decide (n≠0)&&(key.data.toList[n-1]?==some 255))with
   |true=>
    simp only[Bool.and_eq_true,decide_eq_true_iff,beq_iff_eq]at hq;simp only[Af];rw[Ew (by omega) (by omega)];refine⟨⟨by omega,by omega⟩,?_⟩;simp only[Int.toNat_natCast,Eh,Nat.sub_zero];refine⟨n-1,by omega,n-1,rfl,rfl,by omega,λj h3 h4=>?_,by trivial⟩;by_cases h5:j=n-1
    ·rw[h5];exact hq.2
    ·exact h255 j (by omega) h4
   |false=>
    have hst:strip key.data.toList=key.data.toList.take n:=by
     refine Vc (by omega) (λj h3 h4=>h255 j h3 (by omega)) ?_;by_cases h0:n=0
     ·exact .inl h0
     ·rw[decide_eq_true h0,Bool.true_and,beq_eq_false_iff_ne]at hq;exact .inr hq
    simp only[Ae];refine AG (λst w'=>AE w' ⟨r.p,n,r.cap⟩ 1 (cB (S0 (strip key.data.toList)))/\w'.heap[a]?=some (.cells #[.string (BA []),.string (BA [])] 37 (0,0))/\Aa (Ai r) w2 w') (λJ hJ=>?_) ?_
    ·by_cases h0:n=0
     ·subst h0;rw[decide_eq_false (by omega)];refine hJ _ _ ⟨?_,h2,Aa.refl _ _⟩;rw[hst,List.take_zero];exact sf
     ·rw[decide_eq_true (by omega)];simp only[Af];rw[Ew (by omega) (by omega)];obtain⟨c,hc⟩:∃c,key.data.toList[n-1]?=some c:=⟨_,List.getElem?_eq_getElem (by omega)⟩;have hct:(key.data.toList.take n)[n-1]?=some c:=by rw[List.getElem?_take,if_pos (by omega),hc]
      refine Ahk sf (j:=n-1) (x:=c) hct ?_;rw[show((c.toNat:Int)+1)=((c.toNat+1:Nat):Int)from by omega,MR,show(c.toNat+1) % 256=(c+1).toNat from by rw[UInt8.toNat_add];rfl];refine Aku sf (j:=n-1) (by rw[List.length_take];omega) (c+1) ?_;intro w3 s3 k3;refine hJ _ _ ⟨?_,k3.at h2 na,k3⟩;rw[hst,YW (n:=n-1) (c:=c) (by rw[List.length_take];omega) hct];exact s3
    ·rintro _ w3 ⟨s3,h3,k3⟩;refine TC s3.rdb ?_;refine KI h3 λw4 k4=>?_;have:=k w4 (BT (Ky k02 k3 (λx hx=>Nat.le_trans n02 (f2 x hx))) k4 n1);unfold M9 at this;rw[if_neg h12]at this;exact this
open Go Go.Sx
def A9:List Op->Int
 |[]=>0
 |o::l=>if ER o !=0 then ER o else A9 l
theorem Bu {l:List Op}:A9 l=0↔∀o∈l,ER o=0:=by
 induction l with
 |nil=>simp[A9]
 |cons o l ih=>
  simp only[A9,List.mem_cons,forall_eq_or_imp];by_cases h:ER o=0
  ·simp[h,ih]
  ·simp[h]
theorem Ah1 {w:World}{l:List Op}(h:A1 BQ w s l)(hN:l.length<=100000000){K:TR [.sc (.i .i64)]->Pr}(k:∀w',Aa [] w w'->K (A9 l,()) w'):Cl Pg 224 [.slice s.p s.len s.cap] false [.sc (.i .i64)] K w:=by
 have hl:=h.len;refine YX _ ?_;unfold AeE;dsimp only[Ar,AN,Gh,Gx];refine⟨λn st w'=>∃(q:Int) (i:Nat),st=(q,(i:Int),())/\n=l.length-i/\i<=l.length/\A9 (l.drop i)=A9 l/\Aa [] w w',⟨_,0,0,rfl,rfl,by omega,rfl,Aa.refl _ _⟩,?_⟩;rintro n _ w1 ⟨q,i,rfl,rfl,hi,he,k1⟩;dsimp only;by_cases hlt:i<l.length
 ·rw[decide_eq_true (by omega)];simp only[Af];obtain⟨x,hx⟩:∃x,l[i]?=some x:=⟨_,List.getElem?_eq_getElem hlt⟩;have hd:l.drop i=x::l.drop (i+1):=by rw[List.drop_eq_getElem_cons hlt,(List.getElem?_eq_some_iff.1 hx).2]
  rw[hd,A9]at he;refine Sn (h.Ab k1) hx ?_;refine Sq x λb w2 h2 n2 k2=>?_;simp only[sb,h2];refine Ni x λw3 k3=>?_;have k13:=Aj (Aj k1 k2) k3;dsimp only;cases hc:(ER x !=0)with
  |true=>rw[if_pos hc]at he;rw[he];exact k _ k13
  |false=>
   rw[if_neg (by rw[hc];simp)]at he;exact⟨l.length-(i+1),by omega,q,i+1,by rw[AK (by omega)],rfl,by omega,he,k13⟩
 ·rw[decide_eq_false (by omega)];rw[List.drop_of_length_le (by omega),A9]at he;rw[<-he]at k;exact k _ k1
theorem Vn (o:Op){w:World}{K:TR [.sc .b]->Pr}(k:∀w',Aa [] w w'->K (fWr o.kind,()) w'):Cl Pg 62 [.agg #[.int .i64 o.kind,.string o.key,.string o.value,.string o.lo,.string o.hi,.int .i64 o.AD]] false [.sc .b] K w:=by
 refine Uz _ _ _ _ _ _ ?_;unfold WL;dsimp only[Ar,K5',Lb,Li,Sb5,Vb,Vi];refine Ad λa w1 h1 n1 k1=>?_;simp only[sb,h1];refine YE o.kind λw2 k2=>?_;refine bx6 rfl rfl rfl rfl rfl rfl (Tk o.kind) λb w3 h3 n3 k3=>?_
 change w3.heap[b]?=some (.cells #[.bool (Fx o.kind),.bool (SO o.kind),.bool (FH o.kind),.bool (FD o.kind),.bool (fWr o.kind),Zk o.kind] _ (0,0))at h3
 simp only[sb,h3];exact k w3 (Aj (Aj k1 k2) k3)
def Dp (o:Op):ByteArray×ByteArray:=if seq o.key (BA [])then(o.lo,o.hi)else(o.key,M9 o.key)
theorem XQ {o:Op}(h:ER o=0)(hk:seq o.key (BA [])=false):Kx o.key=true:=by
 unfold ER at h;split at h
 ·cases h
 ·rename_i h1;split at h
  ·cases h
  ·rename_i h2;cases hf:Fx o.kind with
   |true=>rw[hf]at h2;simpa using h2
   |false=>rw[hf,hk]at h1;simp at h1
theorem Ya (o:Op){w:World}{K:TR [.ag [.s,.s],.sc (.i .i64)]->Pr}(k:∀w',Aa [] w w'->K (if ER o=0 then(((Dp o).1,(Dp o).2,()),0,())else((BA [],BA [],()),ER o,())) w'):Cl Pg 61 [.agg #[.int .i64 o.kind,.string o.key,.string o.value,.string o.lo,.string o.hi,.int .i64 o.AD]] true [.ag [.s,.s],.sc (.i .i64)] K w:=by
 refine Xu _ _ _ _ _ _ ?_;unfold Aci;dsimp only[Ar,N6,AN,Ls,Tt,Vt];refine Ad λa w1 h1 n1 k1=>?_;refine Ad λb w2 h2 n2 k2=>?_;have h1:=k2.Aw h1;have n02:w.heap.size<=b:=by have:=k1.size;omega
 simp only[sb,h1];refine Ni o λw3 k3=>?_;have h1:=k3.Aw h1;have h2:=k3.Aw h2;have k03:=Aj (Aj k1 k2) k3;dsimp only;by_cases he:ER o=0
 ·rw[if_pos he]at k;rw[show(ER o !=0)=false from by rw[he];rfl];simp only[sb,h1];cases hs:seq o.key (BA [])with
  |true=>
   simp only[sb,h1];refine AdN o λw4 k4=>?_;have h2:=k4.Aw h2;refine KI h2 λw5 k5=>?_;have:=k w5 (BT (Aj k03 k4) k5 n02);rw[show Dp o=(o.lo,o.hi)from by unfold Dp;rw[hs];rfl]at this;exact this
  |false=>
   simp only[sb,h1];refine Ab3 _ λw4 k4=>?_;have h2:=k4.Aw h2;rw[if_pos (XQ he hs)];refine KI h2 λw5 k5=>?_;have:=k w5 (BT (Aj k03 k4) k5 n02);rw[show Dp o=(o.key,M9 o.key)from by unfold Dp;rw[hs];rfl]at this;exact this
 ·rw[if_neg he]at k;rw[show(ER o !=0)=true from by simpa using he];simp only[Af];refine KI h2 λw4 k4=>?_;exact k w4 (BT k03 k4 n02)
def AI (o:Op):Lk:=⟨(Dp o).1,(Dp o).2,fWr o.kind⟩
theorem Ab2 {w:World}{l:List Op}(h:A1 BQ w s l)(hN:l.length<=100000000){K:TR [.sc .sl,.sc (.i .i64)]->Pr}(k:A9 l=0->∀r w',Bh YT w' r (l.map AI)->(∀x∈Ai r,w.heap.size<=x)->Aa [] w w'->K (r,0,()) w')(k':A9 l≠0->∀w',Aa [] w w'->K (⟨none,0,0⟩,A9 l,()) w'):Cl Pg 28 [.slice s.p s.len s.cap] true [.sc .sl,.sc (.i .i64)] K w:=by
 have hl:=h.len;refine VC _ ?_;unfold ZK;dsimp only[Ar,SG,N6,AN,Ls,Gh,Tt,Vt,Gx]
 refine⟨λn st w'=>∃(q1:Sl) (q2:Int) (r:Sl) (i:Nat),st=(q1,q2,r,(i:Int),())/\n=l.length-i/\i<=l.length/\A9 (l.drop i)=A9 l/\Bh YT w' r ((l.take i).map AI)/\(∀x∈Ai r,w.heap.size<=x)/\Aa [] w w',
  ⟨_,⟨none,0,0⟩,0,⟨none,0,0⟩,0,rfl,rfl,by omega,rfl,AE.nil _ _,by simp[Ai],Aa.refl _ _⟩,?_⟩
 rintro n _ w1 ⟨q1,q2,r,i,rfl,rfl,hi,he,hr,fr,k1⟩;dsimp only;by_cases hlt:i<l.length
 ·rw[decide_eq_true (by omega)];simp only[Af];obtain⟨x,hx⟩:∃x,l[i]?=some x:=⟨_,List.getElem?_eq_getElem hlt⟩;have hd:l.drop i=x::l.drop (i+1):=by rw[List.drop_eq_getElem_cons hlt,(List.getElem?_eq_some_iff.1 hx).2]
  rw[hd,A9]at he;refine Sn (h.Ab k1) hx ?_;refine Sq x λb w2 h2 n2 k2=>?_;simp only[sb,h2];refine Ya x λw3 k3=>?_;have h2:=k3.Aw h2;have k03:=Aj (Aj k1 k2) k3;by_cases hc:ER x=0
  ·rw[if_pos hc];rw[if_neg (by rw[hc];simp)]at he;refine bx2 rfl rfl rfl λc w4 h4 n4 k4=>?_;have h2:=k4.Aw h2;simp only[show((0:Int) !=0)=false from rfl,sb,h2,h4];have h2d:w4.drew.heap[b]?=_:=h2;have h4d:w4.drew.heap[c]?=_:=h4;refine Vn x λw5 k5=>?_;have h4:=k5.Aw h4d;have k05:=Aj (Aj k03 k4).drew k5;simp only[sb,h4];refine⟨by trivial,?_⟩;refine Ad λd w6 h6 n6 k6=>?_;have k06:=Aj k05 k6;have k16:Aa [] w1 w6:=Aj (Aj (Aj (Aj k2 k3) k4).drew k5) k6;have hr6:=hr.Ab k16;have hrl:=hr6.BY;rw[List.length_map,List.length_take]at hrl;refine AE.app (ρ:=YT) (new:=[AI x]) hr6 (by rw[List.flatMap_singleton];exact BI (ρ:=YT) (x:=AI x) h6) rfl (by rw[Acf];rfl) (by omega) (by omega) ?_;intro r' w7 h7 k7 hb7;refine⟨l.length-(i+1),by omega,q1,q2,r',i+1,by rw[AK (by omega)],rfl,by omega,he,?_,λy hy=>?_,Ky k06 k7 fr⟩
   ·rw[List.take_add_one,hx,List.map_append];exact h7
   ·rcases hb7 y hy with h'|h'
    ·exact fr y h'
    ·have:=k06.size;omega
  ·rw[if_neg hc];rw[if_pos (by simpa using hc)]at he;refine bx2 rfl rfl rfl λc w4 h4 n4 k4=>?_;dsimp only;rw[show(ER x !=0)=true from by simpa using hc,he];exact k' (by rw[<-he];exact hc) _ (Aj k03 k4)
 ·rw[decide_eq_false (by omega)];rw[List.drop_of_length_le (by omega),A9]at he;rw[List.take_of_length_le (by omega)]at hr;exact k he.symm _ _ hr fr k1
def SJ:ByteArray->List Pa->Int
 |_,[]=>0
 |last,p::m=>if !Kx p.k then 20 else if decide (p.v.size>16)then 2 else if slt p.k last||seq p.k last then 1 else SJ p.k m
theorem Aax {w:World}{l:List Pa}(h:A1 C2 w s l)(hN:l.length<=100000000){K:TR [.sc (.i .i64)]->Pr}(k:∀w',Aa [] w w'->K (SJ (BA []) l,()) w'):Cl Pg 271 [.slice s.p s.len s.cap] false [.sc (.i .i64)] K w:=by
 have hl:=h.len;refine Q6 _ ?_;unfold Sk;dsimp only[Ls,Tt,Vt];refine⟨λn st w'=>∃(q:Int) (z:ByteArray) (i:Nat),st=(q,z,(i:Int),())/\n=l.length-i/\i<=l.length/\SJ z (l.drop i)=SJ (BA []) l/\Aa [] w w',⟨_,0,BA [],0,rfl,rfl,by omega,rfl,Aa.refl _ _⟩,?_⟩;rintro n _ w1 ⟨q,z,i,rfl,rfl,hi,he,k1⟩;dsimp only;by_cases hlt:i<l.length
 ·rw[decide_eq_true (by omega)];simp only[Af];obtain⟨x,hx⟩:∃x,l[i]?=some x:=⟨_,List.getElem?_eq_getElem hlt⟩;have hd:l.drop i=x::l.drop (i+1):=by rw[List.drop_eq_getElem_cons hlt,(List.getElem?_eq_some_iff.1 hx).2]
  rw[hd,SJ]at he;refine KH (h.Ab k1) hx ?_;refine KC x λb w2 h2 n2 k2=>?_;simp only[sb,h2];refine Hb _ ?_;have k02:=Aj k1 k2;dsimp only;rw[AcG];cases hc:Kx x.k with
  |false=>rw[hc]at he;rw[<-he]at k;exact k _ k02
  |true=>
  rw[hc]at he;simp only[Bool.not_true,Bool.false_eq_true,if_false]at he;simp only[sb,h2,Bool.not_true];rw[show decide (((x.v.size:Nat):Int)>16)=decide (x.v.size>16)from decide_eq_decide.2 (by omega)];cases hv:decide (x.v.size>16)with
  |true=>rw[hv]at he;rw[<-he]at k;exact k _ k02
  |false=>
  rw[hv]at he;simp only[Bool.false_eq_true,if_false]at he;simp only[sb,h2];cases hs:(slt x.k z||seq x.k z)with
  |true=>rw[hs]at he;rw[<-he]at k;exact k _ k02
  |false=>
  rw[hs]at he;simp only[Bool.false_eq_true,if_false]at he;simp only[sb,h2];exact⟨l.length-(i+1),by omega,q,x.k,i+1,by rw[AK (by omega)],rfl,by omega,he,k02⟩
 ·rw[decide_eq_false (by omega)];rw[List.drop_of_length_le (by omega),SJ]at he;rw[<-he]at k;exact k _ k1
structure AU (m:List Pa):Prop where
 ok:∀p∈m,Kx p.k=true/\p.v.size<=16
 up:m.Pairwise (λa b=>slt a.k b.k=true)
variable {m:List Pa}
theorem Ago {z:ByteArray}:SJ z m=0↔AU m/\∀p∈m,slt z p.k=true:=by
 induction m generalizing z with
 |nil=>exact⟨λ_=>⟨⟨by simp,by simp⟩,by simp⟩,λ_=>rfl⟩
 |cons p m ih=>
  rw[SJ];constructor
  ·intro h;split at h
   ·cases h
   rename_i h1;split at h
   ·cases h
   rename_i h2;split at h
   ·cases h
   rename_i h3;obtain⟨g1,g2⟩:=ih.1 h;have h1':Kx p.k=true:=by simpa using h1
   have h2':p.v.size<=16:=by simpa using h2
   have h4:slt z p.k=true:=by
    simp only[Bool.or_eq_true,not_or,Bool.not_eq_true]at h3;cases hz:slt z p.k with
    |true=>rfl
    |false=>
     have:=Ek h3.1 hz;rw[this,seq_eq]at h3;simp at h3
   refine⟨⟨λx hx=>?_,List.pairwise_cons.2 ⟨g2,g1.up⟩⟩,λx hx=>?_⟩
   ·rcases List.mem_cons.1 hx with rfl|hx
    ·exact⟨h1',h2'⟩
    ·exact g1.ok x hx
   ·rcases List.mem_cons.1 hx with rfl|hx
    ·exact h4
    ·exact CB h4 (g2 x hx)
  ·rintro⟨⟨g1,g2⟩,g3⟩;rw[List.pairwise_cons]at g2;have h1:=g1 p List.mem_cons_self;have h3:=g3 p List.mem_cons_self;rw[if_neg (by rw[h1.1];simp),if_neg (by simpa using h1.2),if_neg (by rw[Ct h3,seq_eq,decide_eq_false (Oz h3).symm];simp)];exact ih.2 ⟨⟨λx hx=>g1 x (List.mem_cons_of_mem _ hx),g2.2⟩,g2.1⟩
theorem ZF :SJ (BA []) m=0↔AU m:=by
 rw[Ago];refine⟨λh=>h.1,λh=>⟨h,λp hp=>?_⟩⟩;rw[Ws];have:=(h.ok p hp).1;unfold Kx at this;simp at this;simpa using this.1
theorem Qj {w:World}(h:A1 C2 w s m)(hm:AU m)(hN:m.length<=100000000)(key:ByteArray){K:TR [.sc (.i .i64),.sc .b]->Pr}(k:∀w',Aa [] w w'->K ((Ba (λp:Pa=>C1 p.k key) m:Int),Ee (λp:Pa=>C1 p.k key) m,()) w'):
  Cl Pg 293 [.slice s.p s.len s.cap,.string key] true [.sc (.i .i64),.sc .b] K w:=by
 refine Aaj _ _ ?_;unfold Ahi;dsimp only[Vs,Vt];refine VH (c:=λp:Pa=>C1 p.k key) h ?_ ?_ hN λw' k'=>k w' k'
 ·intro w1 k1 x _ K1 hK;refine Ap (by kernel_rfl) ?_;refine XG _ _ _ ?_;unfold Acb;dsimp only[Ls,Vt];refine Ad λb w2 h2 n2 k2=>?_;simp only[sb,h2];exact We _ _ (hK _ k2)
 ·exact hm.up.imp λh=>by rw[GI,GI];exact CB h
theorem Abe {α:Type}{c:α->Int}{l:List α}(hp:l.Pairwise (λa b=>c b<0->c a<0)):l.take (Ba c l)=l.filter (λx=>decide (c x<0))/\l.drop (Ba c l)=l.filter (λx=>!decide (c x<0)):=by
 have h1:∀y∈l.take (Ba c l),c y<0:=by
  intro y hy;obtain⟨j,hj,rfl⟩:=List.mem_take_iff_getElem.1 hy;exact Qg (List.getElem?_eq_getElem (by omega)) (by omega)
 have h2:∀y∈l.drop (Ba c l),¬c y<0:=by
  intro y hy;obtain⟨j,hj⟩:=List.getElem?_of_mem hy;rw[List.getElem?_drop]at hj;have:=PD hp hj (Nat.le_add_right _ _);omega
 constructor
 ·conv=>rhs;rw[<-List.take_append_drop (Ba c l) l]
  rw[List.filter_append,List.filter_eq_self.2 (λy hy=>by simpa using h1 y hy),List.filter_eq_nil_iff.2 (λy hy=>by simpa using h2 y hy),List.append_nil]
 ·conv=>rhs;rw[<-List.take_append_drop (Ba c l) l]
  rw[List.filter_append,List.filter_eq_nil_iff.2 (λy hy=>by simpa using h1 y hy),List.filter_eq_self.2 (λy hy=>by simpa using h2 y hy),List.nil_append]
theorem AU.bs (h:AU m)(key:ByteArray):m.take (Ba (λp:Pa=>C1 p.k key) m)=m.filter (λp=>slt p.k key)/\m.drop (Ba (λp:Pa=>C1 p.k key) m)=m.filter (λp=>!slt p.k key):=by
 have:=Abe (c:=λp:Pa=>C1 p.k key) (l:=m) (h.up.imp λh=>by rw[GI,GI];exact CB h);have e:(λp:Pa=>decide (C1 p.k key<0))=λp=>slt p.k key:=by
  funext p
  rw[Bool.eq_iff_iff,decide_eq_true_iff,GI]
 have e2:(λp:Pa=>!decide (C1 p.k key<0))=λp=>!slt p.k key:=by
  funext p
  exact congrArg not (congrFun e p)
 rw[e,e2]at this;exact this
theorem AU.sub {m':List Pa}(h:AU m)(hs:List.Sublist m' m):AU m':=⟨λp hp=>h.ok p (hs.subset hp),h.up.sublist hs⟩
open Go Go.Sx
structure Rp where
 found:Bool
 value:ByteArray
 LL:List Pa
deriving DecidableEq
def Rs.p (x:Rs):Rp:=⟨x.found,x.value,x.LL⟩
def Y6:Rp:=⟨false,BA [],[]⟩
def Hm (m:List Pa)(key:ByteArray):Option ByteArray:=(m.find? (λp=>seq p.k key)).map (·.v)
def S7 (m:List Pa)(key value:ByteArray):List Pa:=m.filter (λp=>slt p.k key)++⟨key,value⟩::m.filter (λp=>slt key p.k)
def inM (lo hi:ByteArray)(p:Pa):Bool:=!slt p.k lo&&(seq hi (BA [])||slt p.k hi)
def RU (m:List Pa)(o:Op):List Pa×Rp:=
 if o.kind=1 then(m,match Hm m o.key with|some v=>⟨true,v,[]⟩|none=>Y6)
 else if o.kind=2 then(S7 m o.key o.value,Y6)
 else if o.kind=3 then(m.filter (λp=>!seq p.k o.key),Y6)
 else if o.kind=4 then(m,⟨false,BA [],(m.filter (inM o.lo o.hi)).take o.AD.toNat⟩)
 else(m.filter (λp=>!inM o.lo o.hi p),Y6)
def Bd (m:List Pa):List Op->List Pa×List Rp
 |[]=>(m,[])
 |o::l=>((Bd (RU m o).1 l).1,(RU m o).2::(Bd (RU m o).1 l).2)
theorem AU.is (h:AU m)(key:ByteArray):Ee (λp:Pa=>C1 p.k key) m=true->∃p,m[Ba (λp:Pa=>C1 p.k key) m]?=some p/\p.k=key:=by
 intro hi;unfold Ee at hi;split at hi
 ·rename_i p hp;rw[AbO,decide_eq_true_iff]at hi;exact⟨p,hp,hi⟩
 ·cases hi
theorem AU.AhU (h:AU m){key:ByteArray}(hi:Ee (λp:Pa=>C1 p.k key) m=false):∀p∈m,p.k≠key:=by
 intro p hp e;obtain⟨j,hj⟩:=List.getElem?_of_mem hp;have hpw:m.Pairwise (λa b=>C1 b.k key<0->C1 a.k key<0):=h.up.imp λh=>by rw[GI,GI];exact CB h
 have h0:¬C1 p.k key<0:=by rw[GI,e,KF];simp
 have h1:Ba (λp:Pa=>C1 p.k key) m<=j:=by
  rcases Nat.lt_or_ge j (Ba (λp:Pa=>C1 p.k key) m)with h'|h'
  ·exact absurd (Qg hj h') h0
  ·exact h'
 have hjl:=(List.getElem?_eq_some_iff.1 hj).1;obtain⟨x,hx⟩:∃x,m[Ba (λp:Pa=>C1 p.k key) m]?=some x:=⟨_,List.getElem?_eq_getElem (by omega)⟩;unfold Ee at hi;rw[hx]at hi;dsimp only at hi;rw[AbO,decide_eq_false_iff_not]at hi;have h2:=PD hpw hx (Nat.le_refl _);rcases Nat.lt_or_ge (Ba (λp:Pa=>C1 p.k key) m) j with h'|h'
 ·have h3:=List.pairwise_iff_getElem.1 h.up _ _ (by omega) hjl h';rw[(List.getElem?_eq_some_iff.1 hx).2,(List.getElem?_eq_some_iff.1 hj).2,e]at h3;rw[<-GI]at h3;omega
 ·have:j=Ba (λp:Pa=>C1 p.k key) m:=by omega
  rw[<-this,hj]at hx;injection hx with hx;rw[hx]at e;exact hi e
theorem AU.uniq (h:AU m){p q:Pa}(hp:p∈m)(hq:q∈m)(e:p.k=q.k):p=q:=by
 induction m with
 |nil=>cases hp
 |cons x m ih=>
  have hu:=List.pairwise_cons.1 h.up;have ht:AU m:=h.sub (List.sublist_cons_self _ _);rcases List.mem_cons.1 hp with hp1|hp1<;>rcases List.mem_cons.1 hq with hq1|hq1
  ·rw[hp1,hq1]
  ·rw[hp1]at e;exact absurd e (Oz (hu.1 q hq1))
  ·rw[hq1]at e;exact absurd e.symm (Oz (hu.1 p hp1))
  ·exact ih ht hp1 hq1
theorem AU.Agn (h:AU m){p:Pa}(hp:p∈m):Hm m p.k=some p.v:=by
 unfold Hm;cases hf:m.find? (λq=>seq q.k p.k)with
 |none=>
  have:=List.find?_eq_none.1 hf p hp;rw[seq_eq]at this;simp at this
 |some q=>
  have h1:=List.find?_some hf;rw[seq_eq,decide_eq_true_iff]at h1;rw[h.uniq (List.mem_of_find?_eq_some hf) hp h1];rfl
variable {key:ByteArray}
theorem AcA (h:∀p∈m,p.k≠key):Hm m key=none:=by
 unfold Hm;rw[List.find?_eq_none.2 (λp hp=>by rw[seq_eq];simpa using h p hp)];rfl
theorem AU.Ahj (h:AU m){key:ByteArray}{p:Pa}(hp:m[Ba (λp:Pa=>C1 p.k key) m]?=some p)(hk:p.k=key):m.drop (Ba (λp:Pa=>C1 p.k key) m+1)=m.filter (λp=>slt key p.k):=by
 have hlt:=(List.getElem?_eq_some_iff.1 hp).1;have h2:=(h.bs key).2;rw[List.drop_eq_getElem_cons hlt,(List.getElem?_eq_some_iff.1 hp).2]at h2;have h3:(m.filter (λp=>!slt p.k key)).filter (λp=>slt key p.k)=m.filter (λp=>slt key p.k):=by
  rw[List.filter_filter];refine List.filter_congr λx _=>?_;cases hx:slt key x.k with
  |false=>simp
  |true=>rw[Ct hx];rfl
 rw[<-h2,List.filter_cons,hk,KF]at h3;rw[<-h3];simp only[Bool.false_eq_true,if_false];refine(List.filter_eq_self.2 λx hx=>?_).symm;have h4:(p::m.drop (Ba (λp:Pa=>C1 p.k key) m+1)).Pairwise (λa b=>slt a.k b.k=true):=by
  have:=h.up.sublist (List.drop_sublist (Ba (λp:Pa=>C1 p.k key) m) m)
  rwa [List.drop_eq_getElem_cons hlt,(List.getElem?_eq_some_iff.1 hp).2]at this
 rw[<-hk];exact(List.pairwise_cons.1 h4).1 x hx
theorem AU.Ako (h:∀p∈m,p.k≠key):m.filter (λp=>!slt p.k key)=m.filter (λp=>slt key p.k):=by
 refine List.filter_congr λx hx=>?_;cases h1:slt key x.k with
 |true=>rw[Ct h1];rfl
 |false=>
  cases h2:slt x.k key with
  |true=>rfl
  |false=>exact absurd (Ek h2 h1) (h x hx)
theorem Ahb (h:AU m)(key:ByteArray):m.filter (λp=>!seq p.k key)=m.filter (λp=>slt p.k key)++m.filter (λp=>slt key p.k):=by
 have h1:=(h.bs key).1;have h2:=(h.bs key).2
 conv=>lhs;rw[<-List.take_append_drop (Ba (λp:Pa=>C1 p.k key) m) m,List.filter_append,h1,h2,List.filter_filter,List.filter_filter]
 congr 1
 ·refine List.filter_congr λx _=>?_;rw[seq_eq];cases h3:slt x.k key with
  |true=>rw[decide_eq_false (Oz h3)];rfl
  |false=>simp
 ·refine List.filter_congr λx _=>?_;rw[seq_eq];cases h3:slt key x.k with
  |true=>rw[Ct h3,decide_eq_false (Oz h3).symm];rfl
  |false=>
   cases h4:slt x.k key with
   |true=>simp
   |false=>rw[Ek h4 h3];simp
theorem AU.put (h:AU m){key value:ByteArray}(h1:Kx key=true)(h2:value.size<=16):AU (S7 m key value):=by
 constructor
 ·intro p hp;unfold S7 at hp;rcases List.mem_append.1 hp with hp|hp
  ·exact h.ok p (List.mem_filter.1 hp).1
  ·rcases List.mem_cons.1 hp with rfl|hp
   ·exact⟨h1,h2⟩
   ·exact h.ok p (List.mem_filter.1 hp).1
 ·unfold S7;rw[List.pairwise_append];refine⟨h.up.sublist List.filter_sublist,List.pairwise_cons.2 ⟨λx hx=>(List.mem_filter.1 hx).2,h.up.sublist List.filter_sublist⟩,λx hx y hy=>?_⟩;have hx:=(List.mem_filter.1 hx).2;rcases List.mem_cons.1 hy with rfl|hy
  ·exact hx
  ·exact CB hx (List.mem_filter.1 hy).2
theorem Ri {o:Op}(h:ER o=0):Na o.kind=true/\(Fx o.kind=true->Kx o.key=true)/\o.value.size<=16/\(FH o.kind=true->Da o.lo o.hi=true)/\(FD o.kind=true->1<=o.AD/\o.AD<=4):=by
 unfold ER at h
 repeat' split at h
 all_goals first|(cases h;done)|skip
 rename_i h1 h2 h3 h4 h5;refine⟨?_,?_,?_,?_,?_⟩
 ·simp only[Bool.or_eq_true,not_or,Bool.not_eq_true,Bool.not_eq_false']at h1;exact h1.1
 ·intro e;rw[e]at h2;simpa using h2
 ·simpa using h3
 ·intro e;rw[e]at h4;simpa using h4
 ·intro e;rw[e]at h5;simp at h5;omega
theorem AiO (h:AU m){o:Op}(ho:ER o=0):AU (RU m o).1:=by
 obtain⟨h1,h2,h3,_⟩:=Ri ho;unfold RU;split
 ·exact h
 split
 ·rename_i e;exact h.put (h2 (by rw[e];rfl)) h3
 split
 ·exact h.sub List.filter_sublist
 split
 ·exact h
 ·exact h.sub List.filter_sublist
theorem Nq {l:List Op}:∀{m:List Pa},AU m->A9 l=0->AU (Bd m l).1:=by
 induction l with
 |nil=>intro m h _;exact h
 |cons o l ih=>
  intro m h hl;rw[Bu]at hl;exact ih (AiO h (hl o List.mem_cons_self)) (Bu.2 λx hx=>hl x (List.mem_cons_of_mem _ hx))
theorem AfP (m:List Pa)(o:Op):(RU m o).1.length<=m.length+1:=by
 have f:∀p:Pa->Bool,(m.filter p).length<=m.length:=λp=>List.length_filter_le _ _;unfold RU;split
 ·exact Nat.le_succ _
 split
 ·unfold S7;rw[List.length_append,List.length_cons];have e:(m.filter (λp=>slt p.k o.key)).length+(m.filter (λp=>slt o.key p.k)).length<=m.length:=by
   clear f;induction m with
   |nil=>simp
   |cons x m ih=>
    simp only[List.filter_cons,List.length_cons];cases h1:slt x.k o.key with
    |true=>rw[Ct h1];simp only[if_true,Bool.false_eq_true,if_false,List.length_cons];omega
    |false=>cases h2:slt o.key x.k<;>simp only[if_true,Bool.false_eq_true,if_false,List.length_cons]<;>omega
  omega
 split
 ·exact Nat.le_succ_of_le (f _)
 split
 ·exact Nat.le_succ _
 ·exact Nat.le_succ_of_le (f _)
theorem Aep {w:World}(h:A1 C2 w s m)(hm:AU m)(hN:m.length<=100000000)(lo hi:ByteArray){K:TR [.sc (.i .i64),.sc (.i .i64)]->Pr}(k:∀w',Aa [] w w'->K ((Ba (λp:Pa=>C1 p.k lo) m:Int),((if seq hi (BA [])then m.length else Ba (λp:Pa=>C1 p.k hi) m:Nat):Int),()) w'):
  Cl Pg 296 [.slice s.p s.len s.cap,.agg #[.string lo,.string hi]] true [.sc (.i .i64),.sc (.i .i64)] K w:=by
 have hl:=h.len;refine Xq _ _ _ ?_;unfold AbG;dsimp only[Ls,Vs,Vt];refine Ad λa w1 h1 n1 k1=>?_;simp only[sb,h1];refine Qj (h.Ab k1) hm hN lo λw2 k2=>?_;have h1:=k2.Aw h1;have k02:=Aj k1 k2;simp only[Jp,sb,h1];cases hs:seq hi (BA [])with
 |true=>
  rw[hs]at k;simp only[Bool.not_true,Ae,hl];exact k w2 k02
 |false=>
  rw[hs]at k;simp only[Bool.not_false,sb,h1];refine Qj (h.Ab k02) hm hN hi λw3 k3=>?_;exact k w3 (Aj k02 k3)
theorem AdW (h:AU m){lo hi:ByteArray}(hr:Da lo hi=true)(i j:Nat)(hi0:i=Ba (λp:Pa=>C1 p.k lo) m)(hj0:j=if seq hi (BA [])then m.length else Ba (λp:Pa=>C1 p.k hi) m):
  i<=j/\j<=m.length/\(m.drop i).take (j-i)=m.filter (inM lo hi)/\m.take i++m.drop j=m.filter (λp=>!inM lo hi p):=by
 have hi1:i<=m.length:=by rw[hi0];exact Dv _ _
 have hj:j<=m.length:=by rw[hj0];split;exact Nat.le_refl _;exact Dv _ _
 have hL:=h.bs lo;rw[<-hi0]at hL;have hH:=h.bs hi;have hij:i<=j:=by
  rw[hj0];split
  ·exact hi1
  ·rename_i hs;rw[Bool.not_eq_true]at hs;have hlt:slt lo hi=true:=by
    unfold Da at hr;rw[hs]at hr;simp at hr;exact hr.2
   have e1:i=(m.filter (λp=>slt p.k lo)).length:=by rw[<-hL.1,List.length_take];omega
   have e2:Ba (λp:Pa=>C1 p.k hi) m=(m.filter (λp=>slt p.k hi)).length:=by
    rw[<-hH.1,List.length_take];have:=Dv (λp:Pa=>C1 p.k hi) m;omega
   rw[e1,e2];have e3:m.filter (λp=>slt p.k lo)=(m.filter (λp=>slt p.k hi)).filter (λp=>slt p.k lo):=by
    rw[List.filter_filter];refine List.filter_congr λx _=>?_;cases hx:slt x.k lo with
    |false=>rfl
    |true=>rw[CB hx hlt];rfl
   rw[e3];exact List.length_filter_le _ _
 have hJ:m.take j=m.filter (λp=>seq hi (BA [])||slt p.k hi)/\m.drop j=m.filter (λp=>!(seq hi (BA [])||slt p.k hi)):=by
  rw[hj0];cases hs:seq hi (BA [])with
  |true=>
   simp only[if_true,Bool.true_or,Bool.not_true,List.take_length,List.drop_length];exact⟨(List.filter_eq_self.2 λ_ _=>rfl).symm,(List.filter_eq_nil_iff.2 λ_ _=>by simp).symm⟩
  |false=>
   simp only[Bool.false_eq_true,if_false,Bool.false_or];exact hH
 refine⟨hij,hj,?_,?_⟩
 ·have:(m.drop i).take (j-i)=(m.take j).drop i:=by rw[List.drop_take]
  rw[this,hJ.1];have e:m.filter (inM lo hi)=((m.filter (λp=>seq hi (BA [])||slt p.k hi))).filter (λp=>!slt p.k lo):=by
   rw[List.filter_filter];rfl
  rw[e,<-hJ.1]
  conv=>rhs;rw[<-List.take_append_drop i (m.take j),List.filter_append]
  have h1:(m.take j).take i=m.filter (λp=>slt p.k lo):=by rw[List.take_take,Nat.min_eq_left hij];exact hL.1
  have h2:∀x∈(m.take j).drop i,(!slt x.k lo)=true:=by
   intro x hx;have:x∈m.drop i:=(List.Sublist.drop (List.take_sublist _ _) _).subset hx;rw[hL.2]at this;exact(List.mem_filter.1 this).2
  rw[h1,List.filter_eq_self.2 h2,List.filter_eq_nil_iff.2 (λx hx=>by rw[(List.mem_filter.1 hx).2];simp),List.nil_append]
 ·rw[hL.1,hJ.2]
  conv=>rhs;rw[<-List.take_append_drop i m,List.filter_append,hL.1,hL.2,List.filter_filter,List.filter_filter]
  congr 1
  ·refine(List.filter_congr λx _=>?_);unfold inM;cases slt x.k lo<;>simp
  ·refine List.filter_congr λx hx=>?_;unfold inM;cases h1:slt x.k lo with
   |false=>simp
   |true=>
    have hlt:(seq hi (BA [])||slt x.k hi)=true:=by
     cases hs:seq hi (BA [])with
     |true=>rfl
     |false=>
      have hlt:slt lo hi=true:=by
       unfold Da at hr;rw[hs]at hr;simp at hr;exact hr.2
      rw[CB h1 hlt];rfl
    rw[hlt];rfl
def DoK (o:Op)(m:List Pa)(s:Sl)(w:World)(K:TR [.sc .sl,.ag [.b,.s,.sl]]->Pr):Prop:=
 ∀(r:Sl) (x:Rs) (w':World),Bh C2 w' r (RU m o).1->x.p=(RU m o).2->A1 C2 w' x.sp x.LL->(∀b∈rb x.sp,w.heap.size<=b)->(∀b∈rb x.sp,b∉Ai r)->(∀b∈Ai r,b∈Ai s\/w.heap.size<=b)->Aa (Ai s) w w'->K (r,(x.found,x.value,x.sp,()),()) w'
theorem Aio {w:World}{b:Nat}{t:TypeId}{u0 u1 u2:Value}{x:Bool}{y:ByteArray}{z:Sl}{K:Bool->ByteArray->Sl->Pr}(h:w.heap[b]?=some (.cells #[u0,u1,u2] t (0,0)))(k:∀w',Aa [b] w w'->K x y z w'):
  St (Addr.add ⟨b,0,none⟩ 0) (.bool x) (St (Addr.add ⟨b,0,none⟩ 1) (.string y) (St (Addr.add ⟨b,0,none⟩ 2) (.slice z.p z.len z.cap) (E7 (Addr.add ⟨b,0,none⟩ 0) λx'=>BU (Addr.add ⟨b,0,none⟩ 1) λy'=>DN (Addr.add ⟨b,0,none⟩ 2) λz'=>K x' y' z'))) w:=by
 refine Mf h rfl rfl rfl λw' h' k'=>?_;simp only[sb,h'];exact k w' k'
theorem NR {w:World}{b:Nat}{t:TypeId}{u0 u1 u2:Value}{x:Bool}{y:ByteArray}{K:Bool->ByteArray->Sl->Pr}(h:w.heap[b]?=some (.cells #[u0,u1,u2] t (0,0)))(k:∀w',Aa [b] w w'->K x y ⟨none,0,0⟩ w'):
  St (Addr.add ⟨b,0,none⟩ 0) (.bool x) (St (Addr.add ⟨b,0,none⟩ 1) (.string y) (St (Addr.add ⟨b,0,none⟩ 2) (.slice none 0 0) (E7 (Addr.add ⟨b,0,none⟩ 0) λx'=>BU (Addr.add ⟨b,0,none⟩ 1) λy'=>DN (Addr.add ⟨b,0,none⟩ 2) λz'=>K x' y' z'))) w:=Aio (z:=⟨none,0,0⟩) h k
theorem kpb {m:List Nat}{b:Nat}{a d:World}(h:Aa m a c)(k:Aa [b] c d)(hb:a.heap.size<=b):Aa m a d:=h.trans k (by intro x hx;rw[List.mem_singleton.1 hx];exact .inr hb)
theorem kpm {m:List Nat}{a d:World}(h:Aa m a c)(k:Aa [] c d):Aa m a d:=h.trans k (by simp)
theorem k0m {m:List Nat}{a d:World}(h:Aa [] a c)(k:Aa m c d):Aa m a d:=(h.mono (by simp)).trans k (λ_ h=>.inl h)
section
variable {w:World}{s:Sl}{m:List Pa}(h:Bh C2 w s m)(hm:AU m)(hN:m.length<=1000000)(o:Op)(ho:ER o=0)
include h hm hN ho
theorem Akf (hk:o.kind=1){K:TR [.sc .sl,.ag [.b,.s,.sl]]->Pr}(k:DoK o m s w K):Cl Pg 265 [.slice s.p s.len s.cap,.agg #[.int .i64 o.kind,.string o.key,.string o.value,.string o.lo,.string o.hi,.int .i64 o.AD]] true [.sc .sl,.ag [.b,.s,.sl]] K w:=by
 refine ZB _ _ _ _ _ _ _ ?_;unfold Af4;dsimp only[Ar,HX,Ls,Tb,Tt,Vs,Vt,Nw];refine Ad λa w1 h1 n1 k1=>?_;refine Ad λb w2 h2 n2 k2=>?_;have h1:=k2.Aw h1;have k02:=Aj k1 k2;have n2':w.heap.size<=b:=by have:=k1.size;omega
 simp only[sb,h1];refine Qj (h.C6.Ab k02) hm (by omega) o.key λw3 k3=>?_;have h2:=k3.Aw h2;have k03:=Aj k02 k3;have nb:b∉Ai s:=λhb=>by have:=h.lt b hb;omega
 have hd:RU m o=(m,match Hm m o.key with|some v=>⟨true,v,[]⟩|none=>Y6):=by unfold RU;rw[if_pos hk]
 unfold DoK at k;rw[hd]at k;cases hi:Ee (λp:Pa=>C1 p.k o.key) m with
 |false=>
  rw[AcA (hm.AhU hi)]at k;simp only[Bool.not_false,Af];refine NR h2 λw4 k4=>?_;exact k s ⟨false,BA [],⟨none,0,0⟩,[]⟩ w4 ((h.Ab k03).keeps k4 (λx hx=>by simp;exact λe=>nb (e▸hx))) rfl (A1.nil _) (by simp[rb]) (by simp[rb]) (λx hx=>.inl hx) ((BT k03 k4 n2').mono (by simp))
 |true=>
  obtain⟨p,hp,hpk⟩:=hm.is o.key hi;rw[<-hpk,hm.Agn (List.mem_of_getElem? hp)]at k;simp only[Bool.not_true,Ae,Dr];have h2d:w3.drew.heap[b]?=_:=h2;have k03d:=k03.drew;have hs3:=h.C6.Ab k03d;obtain⟨q,hq,hqc⟩:=hs3.at hp;have hi2:=(List.getElem?_eq_some_iff.1 hp).1;have hl:=h.BY;unfold Ix;rw[hq];refine⟨by omega,by omega,?_⟩;rw[Int.toNat_natCast];refine⟨p.v,hqc 1 _ rfl,?_⟩;refine NR h2d λw4 k4=>?_;exact k s ⟨true,p.v,⟨none,0,0⟩,[]⟩ w4 ((h.Ab k03d).keeps k4 (λx hx=>by simp;exact λe=>nb (e▸hx))) rfl (A1.nil _) (by simp[rb]) (by simp[rb]) (λx hx=>.inl hx) ((BT k03d k4 n2').mono (by simp))
theorem AjT (hk:o.kind=2){K:TR [.sc .sl,.ag [.b,.s,.sl]]->Pr}(k:DoK o m s w K):Cl Pg 266 [.slice s.p s.len s.cap,.agg #[.int .i64 o.kind,.string o.key,.string o.value,.string o.lo,.string o.hi,.int .i64 o.AD]] true [.sc .sl,.ag [.b,.s,.sl]] K w:=by
 refine ZQ _ _ _ _ _ _ _ ?_;unfold Afd;dsimp only[Ar,HX,Ls,Tb,Tt,Vi,Vs,Vt,Nw];refine Ad λa w1 h1 n1 k1=>?_;refine Ad λb w2 h2 n2 k2=>?_;have h1:=k2.Aw h1;have k02:=Aj k1 k2;have n2':w.heap.size<=b:=by have:=k1.size;omega
 simp only[sb,h1];refine Qj (h.C6.Ab k02) hm (by omega) o.key λw3 k3=>?_;have h1:=k3.Aw h1;have h2:=k3.Aw h2;have k03:=Aj k02 k3;have nb:b∉Ai s:=λhb=>by have:=h.lt b hb;omega
 have hd:RU m o=(S7 m o.key o.value,Y6):=by unfold RU;rw[if_neg (by rw[hk];decide),if_pos hk]
 unfold DoK at k;rw[hd]at k;have hbs:=hm.bs o.key;have hle:=Dv (λp:Pa=>C1 p.k o.key) m;cases hi:Ee (λp:Pa=>C1 p.k o.key) m with
 |false=>
  simp only[Bool.not_false,sb,h1];refine Ad λc w4 h4 n4 k4=>?_;have h2:=k4.Aw h2;have k04:=Aj k03 k4;have nc:c∉Ai s:=λhc=>by have:=h.lt c hc;have:=k03.size;omega
  refine VQ (x:=⟨o.key,o.value⟩) (h.Ab k04) h4 nc hle (by omega) ?_;intro r w5 h5 f5 k5;have h2:=k5.at h2 nb;rw[hbs.1,hbs.2,AU.Ako (hm.AhU hi)]at h5;have br:b∉Ai r:=λhb=>by
   rcases f5 b hb with h'|h'
   ·exact nb h'
   ·have:=Av h2;have:=Av (k4.Aw (k3.Aw (show w2.heap[b]?=_ from by assumption)));omega
  refine NR h2 λw6 k6=>?_;refine k r ⟨false,BA [],⟨none,0,0⟩,[]⟩ w6 (h5.keeps k6 (λx hx=>by simp;exact λe=>br (e▸hx))) rfl (A1.nil _) (by simp[rb]) (by simp[rb]) (λx hx=>?_) (kpb (k0m k04 k5) k6 n2');rcases f5 x hx with h'|h'
  ·exact .inl h'
  ·have:=k04.size;exact .inr (by omega)
 |true=>
  obtain⟨p,hp,hpk⟩:=hm.is o.key hi;have hi2:=(List.getElem?_eq_some_iff.1 hp).1;simp only[Bool.not_true,sb,h1];have hs3:=h.Ab k03;have hl:=h.BY;obtain⟨bb,oo,hpp,hbb⟩:=hs3.base (by omega);rw[G5 hpp (by omega) (by omega),Int.toNat_natCast,Cr];have e2:(Ba (λp:Pa=>C1 p.k o.key) m+1)*2<=m.length*2:=Nat.mul_le_mul_right _ hi2;have hfl:(m.flatMap C2.c).length=m.length*2:=AP C2.len m;refine hs3.Abh hpp (Ba (λp:Pa=>C1 p.k o.key) m*2+1) (by omega) (by omega) rfl ?_;intro w4 h4 k4;rw[Nf (size:=2) C2.len m _ 1 p ⟨o.key,o.value⟩ (.string o.value) hp (by decide) (by rw[<-hpk];rfl)]at h4;have e3:m.set (Ba (λp:Pa=>C1 p.k o.key) m) ⟨o.key,o.value⟩=S7 m o.key o.value:=by
   unfold S7;rw[List.set_eq_take_append_cons_drop,if_pos hi2,hbs.1,hm.Ahj hp hpk]
  rw[e3]at h4;have k4':Aa (Ai s) w3 w4:=by rw[hbb];exact k4
  have h2:=k4'.at h2 nb;refine NR h2 λw5 k5=>?_;exact k s ⟨false,BA [],⟨none,0,0⟩,[]⟩ w5 (h4.keeps k5 (λx hx=>by simp;exact λe=>nb (e▸hx))) rfl (A1.nil _) (by simp[rb]) (by simp[rb]) (λx hx=>.inl hx) (kpb (k0m k03 k4') k5 n2')
theorem AjM (hk:o.kind=3){K:TR [.sc .sl,.ag [.b,.s,.sl]]->Pr}(k:DoK o m s w K):Cl Pg 267 [.slice s.p s.len s.cap,.agg #[.int .i64 o.kind,.string o.key,.string o.value,.string o.lo,.string o.hi,.int .i64 o.AD]] true [.sc .sl,.ag [.b,.s,.sl]] K w:=by
 refine ZL _ _ _ _ _ _ _ ?_;unfold Ae7;dsimp only[Ar,HX,Ls,Tb,Vi,Vs,Vt,Nw];refine Ad λa w1 h1 n1 k1=>?_;refine Ad λb w2 h2 n2 k2=>?_;have h1:=k2.Aw h1;have k02:=Aj k1 k2;have n2':w.heap.size<=b:=by have:=k1.size;omega
 have nb:b∉Ai s:=λhb=>by have:=h.lt b hb;omega
 have hd:RU m o=(m.filter (λp=>!seq p.k o.key),Y6):=by unfold RU;rw[if_neg (by rw[hk];decide),if_neg (by rw[hk];decide),if_pos hk]
 unfold DoK at k;rw[hd]at k;have hbs:=hm.bs o.key;have hle:=Dv (λp:Pa=>C1 p.k o.key) m;refine AG (λst w'=>Bh C2 w' st.1 (m.filter (λp=>!seq p.k o.key))/\(∀x∈Ai st.1,x∈Ai s)/\Aa (Ai s) w2 w') (λJ hJ=>?_) ?_
 ·simp only[sb,h1];refine Qj (h.C6.Ab k02) hm (by omega) o.key λw3 k3=>?_;cases hi:Ee (λp:Pa=>C1 p.k o.key) m with
  |false=>
   refine hJ (s,()) _ ⟨?_,λ_ hx=>hx,k3.mono (by simp)⟩;rw[List.filter_eq_self.2 (λp hp=>by rw[seq_eq];simpa using hm.AhU hi p hp)];exact(h.Ab k02).Ab k3
  |true=>
   obtain⟨p,hp,hpk⟩:=hm.is o.key hi;have hi2:=(List.getElem?_eq_some_iff.1 hp).1;simp only[Af];refine NS ((h.Ab k02).Ab k3) (Nat.le_succ _) hi2 (by omega) rfl (AK (by omega)) ?_;intro r w4 h4 f4 k4;refine hJ (r,()) _ ⟨?_,f4,k0m k3 k4⟩;rw[hbs.1,hm.Ahj hp hpk,<-Ahb hm]at h4;exact h4
 ·rintro⟨r,_⟩ w3 ⟨h3,f3,k3⟩;dsimp only at h3 f3;have h2:=k3.at h2 nb;refine NR h2 λw4 k4=>?_;exact k r ⟨false,BA [],⟨none,0,0⟩,[]⟩ w4 (h3.keeps k4 (λx hx=>by simp;exact λe=>nb (e▸f3 x hx))) rfl (A1.nil _) (by simp[rb]) (by simp[rb]) (λx hx=>.inl (f3 x hx)) (kpb (k0m k02 k3) k4 n2')
theorem Ai2 (hk:o.kind=4){K:TR [.sc .sl,.ag [.b,.s,.sl]]->Pr}(k:DoK o m s w K):Cl Pg 268 [.slice s.p s.len s.cap,.agg #[.int .i64 o.kind,.string o.key,.string o.value,.string o.lo,.string o.hi,.int .i64 o.AD]] true [.sc .sl,.ag [.b,.s,.sl]] K w:=by
 obtain⟨_,_,_,hr,hmo⟩:=Ri ho;have hr:=hr (by rw[hk];rfl);have hmo:=hmo (by rw[hk];rfl);refine XS _ _ _ _ _ _ _ ?_;unfold Acl;dsimp only[Ar,HX,Li,AN,Tb,Ts,Vs,Vt,Nw];refine Ad λa w1 h1 n1 k1=>?_;refine Ad λb w2 h2 n2 k2=>?_;have h1:=k2.Aw h1;have k02:=Aj k1 k2;have n2':w.heap.size<=b:=by have:=k1.size;omega
 have nb:b∉Ai s:=λhb=>by have:=h.lt b hb;omega
 have hd:RU m o=(m,⟨false,BA [],(m.filter (inM o.lo o.hi)).take o.AD.toNat⟩):=by unfold RU;rw[if_neg (by rw[hk];decide),if_neg (by rw[hk];decide),if_neg (by rw[hk];decide),if_pos hk]
 unfold DoK at k;rw[hd]at k;simp only[sb,h1];refine AdN o λw3 k3=>?_;have k03:=Aj k02 k3;refine Aep (h.C6.Ab k03) hm (by omega) o.lo o.hi λw4 k4=>?_;have h1:=k4.Aw (k3.Aw h1);have h2:=k4.Aw (k3.Aw h2);have k04:=Aj k03 k4;obtain⟨i,hi⟩:∃i,i=Ba (λp:Pa=>C1 p.k o.lo) m:=⟨_,rfl⟩;obtain⟨j,hj⟩:∃j,j=if seq o.hi (BA [])then m.length else Ba (λp:Pa=>C1 p.k o.hi) m:=⟨_,rfl⟩;obtain⟨e1,e2,e3,_⟩:=AdW hm hr i j hi hj;rw[<-hi,<-hj];obtain⟨q,hq⟩:∃q:Nat,o.AD=q:=⟨o.AD.toNat,by omega⟩;have hl:=h.BY;have hcap:=h.cap;simp only[sb,h1];rw[hq,Oq rfl rfl (by omega)];have hmin:(if((i+q:Nat):Int)<((j:Nat):Int)then((i+q:Nat):Int)else((j:Nat):Int))=((min (i+q) j:Nat):Int):=by split<;>omega
 rw[hmin];have hz:min (i+q) j<=j:=Nat.min_le_right _ _;have hz2:i<=min (i+q) j:=Nat.le_min.2 ⟨Nat.le_add_right _ _,e1⟩;have hz3:min (min (i+q) j-i) (j-i)=min q (j-i):=by omega
 generalize min (i+q) j=z at *;refine⟨⟨by omega,by omega⟩,?_⟩;simp only[Int.toNat_natCast];refine⟨⟨Int.natCast_nonneg _,Int.ofNat_le.2 hz2⟩,?_⟩;have hmid:=(h.C6.Ab k04).drop (lo:=i) (hi:=z) (by omega) (by omega);refine Qb hmid (by rw[List.length_take,List.length_drop];omega) ?_;intro r w5 h5 f5 k5;have h2:=k5.Aw h2;have k05:=Aj k04 k5;refine Aio h2 λw6 k6=>?_;have s04:=k04.size;have br:b∉Ai r:=λhb=>by
  have:=f5 b hb;have:=Av (k4.Aw (k3.Aw (show w2.heap[b]?=_ from by assumption)));omega
 have hpairs:(m.drop i).take (z-i)=(m.filter (inM o.lo o.hi)).take o.AD.toNat:=by
  rw[<-e3,List.take_take,hq,Int.toNat_natCast,<-hz3,Nat.min_eq_left (by omega)]
 refine k s ⟨false,BA [],r,_⟩ w6 ((h.Ab k05).keeps k6 (λx hx=>by simp;exact λe=>nb (e▸hx))) ?_ (h5.C6.keeps k6 (λx hx=>by simp;exact λe=>br (e▸h5.rb x hx))) (λx hx=>?_) (λx hx hs=>?_) (λx hx=>.inl hx) ((BT k05 k6 n2').mono (by simp))
 ·unfold Rs.p;rw[<-hpairs]
 ·have:=f5 x (h5.rb x hx);omega
 ·have:=f5 x (h5.rb x hx);have:=h.lt x hs;omega
theorem Agl (hk:o.kind=5){K:TR [.sc .sl,.ag [.b,.s,.sl]]->Pr}(k:DoK o m s w K):Cl Pg 269 [.slice s.p s.len s.cap,.agg #[.int .i64 o.kind,.string o.key,.string o.value,.string o.lo,.string o.hi,.int .i64 o.AD]] true [.sc .sl,.ag [.b,.s,.sl]] K w:=by
 obtain⟨_,_,_,hr,_⟩:=Ri ho;have hr:=hr (by rw[hk];rfl);refine Wg _ _ _ _ _ _ _ ?_;unfold Zb;dsimp only[Ar,HX,AN,Tb,Vi,Vs,Vt,Nw];refine Ad λa w1 h1 n1 k1=>?_;refine Ad λb w2 h2 n2 k2=>?_;have h1:=k2.Aw h1;have k02:=Aj k1 k2;have n2':w.heap.size<=b:=by have:=k1.size;omega
 have nb:b∉Ai s:=λhb=>by have:=h.lt b hb;omega
 have hd:RU m o=(m.filter (λp=>!inM o.lo o.hi p),Y6):=by unfold RU;rw[if_neg (by rw[hk];decide),if_neg (by rw[hk];decide),if_neg (by rw[hk];decide),if_neg (by rw[hk];decide)]
 unfold DoK at k;rw[hd]at k;simp only[sb,h1];refine AdN o λw3 k3=>?_;have k03:=Aj k02 k3;refine Aep (h.C6.Ab k03) hm (by omega) o.lo o.hi λw4 k4=>?_;have h2:=k4.Aw (k3.Aw h2);have k04:=Aj k03 k4;obtain⟨e1,e2,_,e4⟩:=AdW hm hr _ _ rfl rfl;refine NS (h.Ab k04) e1 e2 (by omega) rfl rfl ?_;intro r w5 h5 f5 k5;rw[e4]at h5;have h2:=k5.at h2 nb;refine NR h2 λw6 k6=>?_;exact k r ⟨false,BA [],⟨none,0,0⟩,[]⟩ w6 (h5.keeps k6 (λx hx=>by simp;exact λe=>nb (e▸f5 x hx))) rfl (A1.nil _) (by simp[rb]) (by simp[rb]) (λx hx=>.inl (f5 x hx)) (kpb (k0m k04 k5) k6 n2')
theorem Alf {K:TR [.sc .sl,.ag [.b,.s,.sl]]->Pr}(k:DoK o m s w K):AB Pg (Zk o.kind) [.slice s.p s.len s.cap,.agg #[.int .i64 o.kind,.string o.key,.string o.value,.string o.lo,.string o.hi,.int .i64 o.AD]] true [.sc .sl,.ag [.b,.s,.sl]] K w:=by
 rcases PZ (Ri ho).1 with e|e|e|e|e
 ·rw[show Zk o.kind=.func (.func 265) #[] #[]from by rw[e];rfl];exact Ap (by kernel_rfl) (Akf h hm hN o ho e k)
 ·rw[show Zk o.kind=.func (.func 266) #[] #[]from by rw[e];rfl];exact Ap (by kernel_rfl) (AjT h hm hN o ho e k)
 ·rw[show Zk o.kind=.func (.func 267) #[] #[]from by rw[e];rfl];exact Ap (by kernel_rfl) (AjM h hm hN o ho e k)
 ·rw[show Zk o.kind=.func (.func 268) #[] #[]from by rw[e];rfl];exact Ap (by kernel_rfl) (Ai2 h hm hN o ho e k)
 ·rw[show Zk o.kind=.func (.func 269) #[] #[]from by rw[e];rfl];exact Ap (by kernel_rfl) (Agl h hm hN o ho e k)
end
open Go Go.Sx
def RsD (w:World)(x:Rs):Prop:=A1 C2 w x.sp x.LL
theorem Fq (m:List Pa)(l:List Op)(o:Op):Bd m (l++[o])=((RU (Bd m l).1 o).1,(Bd m l).2++[(RU (Bd m l).1 o).2]):=by
 induction l generalizing m with
 |nil=>rfl
 |cons x l ih=>simp only[List.cons_append,Bd,ih]
theorem He (m:List Pa)(l:List Op):(Bd m l).1.length<=m.length+l.length/\(Bd m l).2.length=l.length:=by
 induction l generalizing m with
 |nil=>simp[Bd]
 |cons x l ih=>
  obtain⟨h1,h2⟩:=ih (RU m x).1;have:=AfP m x;simp only[Bd,List.length_cons];omega
theorem Ab5 {w:World}{sm sl:Sl}{l:List Op}(h:A1 C2 w sm m)(hl:A1 BQ w sl l)(hN:m.length<=500000)(hL:l.length<=400000){K:TR [.sc .sl,.sc .sl,.sc (.i .i64)]->Pr}(k:AU m->A9 l=0->∀(r1 r2:Sl) (rs:List Rs) (w':World),Bh C2 w' r1 (Bd m l).1->Bh Xg w' r2 rs->rs.map Rs.p=(Bd m l).2->(∀x∈rs,RsD w' x/\∀b∈rb x.sp,w.heap.size<=b/\b∉Ai r1/\b∉Ai r2) ->
   (∀b∈Ai r1,w.heap.size<=b/\b∉Ai r2)->(∀b∈Ai r2,w.heap.size<=b)->Aa [] w w'->K (r1,r2,0,()) w')(k':∀e w',(¬AU m\/A9 l≠0)->e≠0->Aa [] w w'->K (⟨none,0,0⟩,⟨none,0,0⟩,e,()) w'):Cl Pg 208 [.slice sm.p sm.len sm.cap,.slice sl.p sl.len sl.cap] true [.sc .sl,.sc .sl,.sc (.i .i64)] K w:=by
 have hll:=hl.len;refine VD _ _ ?_;unfold Zn;dsimp only[Aat,Ar,K6',HX,Li,AN,Ls,AgV,Gh,Vi,Vs,Nw,Gx];refine Aax h (by omega) λw1 k1=>?_;dsimp only;by_cases hm:SJ (BA []) m=0
 ·rw[show(SJ (BA []) m !=0)=false from by rw[hm];rfl];simp only[Ae];refine Ah1 (hl.Ab k1) (by omega) λw2 k2=>?_;dsimp only;have k02:=Aj k1 k2;by_cases ho:A9 l=0
  ·rw[show(A9 l !=0)=false from by rw[ho];rfl];simp only[Ae];have hmo:=ZF.1 hm;refine Qb (h.Ab k02) (by omega) ?_;intro r0 w3 h3 f3 k3;have k03:=Aj k02 k3;have s03:=k03.size;dsimp only
   refine⟨λn st w'=>∃(r1 r2:Sl) (rs:List Rs) (i:Nat),st=(r1,r2,(i:Int),())/\n=l.length-i/\i<=l.length/\Bh C2 w' r1 (Bd m (l.take i)).1/\Bh Xg w' r2 rs/\rs.map Rs.p=(Bd m (l.take i)).2/\(∀x∈rs,RsD w' x/\∀b∈rb x.sp,w.heap.size<=b/\b∉Ai r1/\b∉Ai r2) /\
    (∀b∈Ai r1,w.heap.size<=b/\b∉Ai r2)/\(∀b∈Ai r2,w.heap.size<=b)/\Aa [] w w',⟨_,r0,⟨none,0,0⟩,[],0,rfl,rfl,by omega,h3,AE.nil _ _,rfl,by simp,λb hb=>⟨by have:=f3 b hb;have:=k02.size;omega,by simp[Ai]⟩,by simp[Ai],k03⟩,?_⟩
   rintro n _ w4 ⟨r1,r2,rs,i,rfl,rfl,hi,g1,g2,g3,g4,g5,g6,k4⟩;dsimp only;by_cases hlt:i<l.length
   ·rw[decide_eq_true (by omega)];simp only[Af];obtain⟨x,hx⟩:∃x,l[i]?=some x:=⟨_,List.getElem?_eq_getElem hlt⟩;have hxo:ER x=0:=Bu.1 ho x (List.mem_of_getElem? hx);have htk:l.take (i+1)=l.take i++[x]:=by rw[List.take_add_one,hx];rfl
    have hmi:AU (Bd m (l.take i)).1:=Nq hmo (Bu.2 λy hy=>Bu.1 ho y (List.mem_of_mem_take hy));obtain⟨hal1,hal2⟩:=He m (l.take i);rw[List.length_take]at hal1 hal2;refine Sn (hl.Ab k4) hx ?_;refine Sq x λb w5 h5 n5 k5=>?_;refine Ad λc w6 h6 n6 k6=>?_;have h5:=k6.Aw h5;have h5d:w6.drew.heap[b]?=_:=h5;have k46:Aa [] w4 w6.drew:=(Aj k5 k6).drew;simp only[sb,h5];refine Abw λw7 k7=>?_;have h5:=k7.Aw h5d;have h6:=k7.Aw (show w6.drew.heap[c]?=_ from h6);have k47:=Aj k46 k7;have k07:=Aj k4 k47;simp only[sb,h5];refine⟨by trivial,by trivial,?_⟩;refine ZO (Ri hxo).1 ?_;dsimp only[Zd];have cw:w4.heap.size<=c:=by have:=k5.size;omega
    refine Alf (g1.Ab k47) hmi (by omega) x hxo ?_;intro r y w8 e1 e2 e3 e4 e5 e6 k8;have k08:Aa [] w w8:=Ky k07 k8 (λz hz=>(g5 z hz).1);have c1:c∉Ai r1:=λhc=>by have:=g1.lt c hc;omega
    have c2:c∉Ai r2:=λhc=>by have:=g2.lt c hc;omega
    have c3:c<w7.heap.size:=Av h6;have h6:=k8.at h6 c1;refine Mf h6 rfl rfl rfl λw9 h9 k9=>?_;simp only[sb,h9];refine Ad λd w10 Q8 n10 k10=>?_;have sz7:=k47.size;have sz8:=k8.size;have k79:Aa (Ai r1) w4 w10:=kpm (kpb (k0m k47 k8) k9 cw) k10;have g2':Bh Xg w10 r2 rs:=g2.keeps k79 (λz hz hz'=>(g5 z hz').2 hz);have hrl:=g2'.BY;have hrm:rs.length=min i l.length:=by rw[<-hal2,<-g3,List.length_map]
    refine AE.app (ρ:=Xg) (new:=[y]) g2' (by rw[List.flatMap_singleton];exact BI (ρ:=Xg) (x:=y) Q8) rfl (by rw[WI];rfl) (by omega) (by omega) ?_;intro r' w11 h11 k11 hb11;have s0:=k4.size;have crb:c∉Ai r:=λhc=>by
     rcases e6 c hc with h'|h'
     ·exact c1 h'
     ·omega
    have e1':Bh C2 w10 r (RU (Bd m (l.take i)).1 x).1:=(e1.keeps k9 (λz hz=>by simp;exact λe=>crb (e▸hz))).Ab k10;have rr2:∀b∈Ai r,b∉Ai r2:=by
     intro z hz hz2;rcases e6 z hz with h'|h'
     ·exact(g5 z h').2 hz2
     ·have:=g2.lt z hz2;omega
    have cy:∀b∈rb y.sp,b≠c:=λz hz e=>by have:=e4 z hz;omega
    have ysz:∀b∈rb y.sp,b<w10.heap.size:=λz hz=>by
     have:=e3.lt z hz;have:=k9.size;have:=k10.size;omega
    have s1:w8.heap.size<=w10.heap.size:=Nat.le_trans k9.size k10.size;refine⟨l.length-(i+1),by omega,r,r',rs++[y],i+1,by rw[AK (by omega)],rfl,by omega,?_,h11,?_,?_,?_,?_,?_⟩
    ·rw[htk,Fq];exact e1'.keeps k11 rr2
    ·rw[htk,Fq,List.map_append,g3];show _++[y.p]=_;rw[e2]
    ·intro z hz;rcases List.mem_append.1 hz with hz|hz
     ·obtain⟨q1,q2⟩:=g4 z hz;refine⟨A1.keeps (A1.keeps q1 k79 (λb hb=>(q2 b hb).2.1)) k11 (λb hb=>(q2 b hb).2.2),λb hb=>⟨(q2 b hb).1,λhr=>?_,λhr=>?_⟩⟩
      ·have hlt4:=q1.lt b hb;rcases e6 b hr with h'|h'
       ·exact(q2 b hb).2.1 h'
       ·omega
      ·have hlt4:=q1.lt b hb;rcases hb11 b hr with h'|h'
       ·exact(q2 b hb).2.2 h'
       ·omega
     ·rw[List.mem_singleton]at hz;subst hz;refine⟨A1.keeps ((A1.keeps e3 k9 (λb hb=>by simpa using cy b hb)).Ab k10) k11 (λb hb hr=>?_),λb hb=>⟨by have:=e4 b hb;omega,e5 b hb,λhr=>?_⟩⟩
      ·have:=e4 b hb;have:=g2.lt b hr;omega
      ·rcases hb11 b hr with h'|h'
       ·have:=e4 b hb;have:=g2.lt b h';omega
       ·have:=ysz b hb;omega
    ·intro b hb;refine⟨?_,λhr=>?_⟩
     ·rcases e6 b hb with h'|h'
      ·exact(g5 b h').1
      ·omega
     ·rcases hb11 b hr with h'|h'
      ·exact rr2 b hb h'
      ·have:=e1'.lt b hb;omega
    ·intro b hb;rcases hb11 b hb with h'|h'
     ·exact g6 b h'
     ·omega
    ·exact Ky (Ky k4 k79 (λz hz=>(g5 z hz).1)) k11 g6
   ·rw[decide_eq_false (by omega)];rw[List.take_of_length_le (by omega)]at g1 g3;exact k hmo ho r1 r2 rs w4 g1 g2 g3 g4 g5 g6 k4
  ·rw[show(A9 l !=0)=true from by simpa using ho];exact k' _ _ (.inr ho) ho k02
 ·rw[show(SJ (BA []) m !=0)=true from by simpa using hm];exact k' _ _ (.inl λh=>hm (ZF.2 h)) hm k1
open Go Go.Sx
theorem OK:∀(k:Nat) (x:List UInt8),x.length<=k->¬x<List.replicate k 255->x=List.replicate k 255
 |0,x,h,_=>List.eq_nil_of_length_eq_zero (by omega)
 |k+1,x,h,hn=>by
  rw[List.replicate_succ]at hn ⊢;cases x with
  |nil=>exact absurd (List.nil_lt_cons _ _) hn
  |cons d x=>
   rw[List.cons_lt_cons_iff]at hn;have hd:d=255:=by
    by_cases h1:d<255
    ·exact absurd (.inl h1) hn
    ·have h2:=UInt8.not_lt.1 h1;have h3:d.toNat<=255:=by have:=d.toNat_lt;omega
     have h4:(255:UInt8).toNat<=d.toNat:=h2;exact UInt8.toNat_inj.1 (by have:(255:UInt8).toNat=255:=rfl;omega)
   subst hd;rw[OK k x (by simpa using h) (λh1=>hn (.inr ⟨rfl,h1⟩))]
theorem Sa {c:UInt8}(hc:c≠255)(k:Nat):∀(p x:List UInt8),x.length<=p.length+1+k->¬x<p++c::List.replicate k 255->x<p++[c+1]->x=p++c::List.replicate k 255
 |[],x,hl,h1,h2=>by
  simp only[List.nil_append]at h1 h2 ⊢;cases x with
  |nil=>exact absurd (List.nil_lt_cons _ _) h1
  |cons d x=>
   rw[List.cons_lt_cons_iff]at h1 h2;have hcn:(c+1).toNat=c.toNat+1:=by
    rw[UInt8.toNat_add];have:c.toNat≠255:=λh=>hc (UInt8.toNat_inj.1 h);have:=c.toNat_lt;show(c.toNat+1) % 256=_;omega
   have hd:d=c:=by
    rcases h2 with h2|⟨_,h2⟩
    ·have e1:d.toNat<(c+1).toNat:=h2;have e2:¬d.toNat<c.toNat:=λh=>h1 (.inl h);exact UInt8.toNat_inj.1 (by omega)
    ·exact absurd h2 (List.not_lt_nil _)
   subst hd;rw[OK k x (by simp at hl;omega) (λh=>h1 (.inr ⟨rfl,h⟩))]
 |e::p,x,hl,h1,h2=>by
  simp only[List.cons_append]at h1 h2 ⊢;cases x with
  |nil=>exact absurd (List.nil_lt_cons _ _) h1
  |cons d x=>
   rw[List.cons_lt_cons_iff]at h1 h2;have hd:d=e:=by
    rcases h2 with h2|⟨h2,_⟩
    ·exact absurd (.inl h2) h1
    ·exact h2
   subst hd;rcases h2 with h2|⟨_,h2⟩
   ·exact absurd h2 (UInt8.lt_irrefl _)
   rw[Sa hc k p x (by simp at hl;omega) (λh=>h1 (.inr ⟨rfl,h⟩)) h2]
theorem Xw {c:UInt8}(hc:c≠255)(r:List UInt8):∀p:List UInt8,p++c::r<p++[c+1]
 |[]=>by
  simp only[List.nil_append];rw[List.cons_lt_cons_iff];left;show c.toNat<(c+1).toNat;rw[UInt8.toNat_add];have:c.toNat≠255:=λh=>hc (UInt8.toNat_inj.1 h);have:=c.toNat_lt;show c.toNat<(c.toNat+1) % 256;omega
 |e::p=>by
  simp only[List.cons_append];rw[List.cons_lt_cons_iff];exact .inr ⟨rfl,Xw hc r p⟩
theorem Pn:∀(a x:List UInt8),¬x<a->x<a++[0]->x=a
 |[],x,_,h=>by
  cases x with
  |nil=>rfl
  |cons d x=>
   simp only[List.nil_append]at h;rw[List.cons_lt_cons_iff]at h;rcases h with h|⟨_,h⟩
   ·exact absurd h (by show ¬d.toNat<0;omega)
   ·exact absurd h (List.not_lt_nil _)
 |e::a,x,h1,h2=>by
  simp only[List.cons_append]at h2;cases x with
  |nil=>exact absurd (List.nil_lt_cons _ _) h1
  |cons d x=>
   rw[List.cons_lt_cons_iff]at h1 h2;have hd:d=e:=by
    rcases h2 with h2|⟨h2,_⟩
    ·exact absurd (.inl h2) h1
    ·exact h2
   subst hd;rcases h2 with h2|⟨_,h2⟩
   ·exact absurd h2 (UInt8.lt_irrefl _)
   rw[Pn a x (λh=>h1 (.inr ⟨rfl,h⟩)) h2]
theorem XY:∀a:List UInt8,a<a++[0]
 |[]=>List.nil_lt_cons _ _
 |e::a=>by rw[List.cons_append,List.cons_lt_cons_iff];exact .inr ⟨rfl,XY a⟩
theorem Zx (l:List UInt8):∃k,(strip l=[]/\l=List.replicate k 255)\/∃p c,c≠255/\strip l=p++[c]/\l=p++c::List.replicate k 255:=by
 unfold strip;have e:l.reverse=l.reverse.takeWhile (· == 255)++l.reverse.dropWhile (· == 255):=(List.takeWhile_append_dropWhile).symm;have ht:l.reverse.takeWhile (· == 255)=List.replicate (l.reverse.takeWhile (· == 255)).length 255:=by
  refine List.eq_replicate_of_mem λb hb=>?_;have:=List.all_eq_true.1 (List.all_takeWhile (p:=(· == (255:UInt8))) (l:=l.reverse)) b hb;simpa using this
 refine⟨(l.reverse.takeWhile (· == 255)).length,?_⟩;have e2:l=(l.reverse.dropWhile (· == 255)).reverse++List.replicate (l.reverse.takeWhile (· == 255)).length 255:=by
  have h3:=congrArg List.reverse e;rw[List.reverse_reverse,List.reverse_append,ht,List.reverse_replicate]at h3;exact h3
 cases hd:l.reverse.dropWhile (· == 255)with
 |nil=>
  left;rw[hd]at e2;exact⟨rfl,by simpa using e2⟩
 |cons c r=>
  right;have hc:(c==255)=false:=by
   have:=List.head_dropWhile_not (p:=(· == (255:UInt8))) (l:=l.reverse) (by rw[hd];simp);simp only[hd,List.head_cons]at this;simpa using this
  refine⟨r.reverse,c,by simpa using hc,by simp,?_⟩;rw[hd]at e2;simpa using e2
theorem DL (a:ByteArray):a.data.toList.length=a.size:=by rw[Array.length_toList];rfl
theorem GU (a b:ByteArray):slt a b=decide (a.data.toList<b.data.toList):=by rw[Mz,ByteArray.toList_eq,ByteArray.toList_eq]
theorem AeD (h:Kx key=true):Da key (M9 key)=true/\∀x,Kx x=true->(!slt x key&&(seq (M9 key) (BA [])||slt x (M9 key)))=seq x key:=by
 obtain⟨z1,z2⟩:=Pc h;have e0:∀b:ByteArray,seq b (BA [])=decide (b.data.toList=[]):=by
  intro b;rw[seq_eq];refine decide_eq_decide.2 ⟨λh=>by rw[h];rfl,λh=>ByteArray.ext (Array.toList_inj.1 h)⟩
 have es:∀a b:ByteArray,seq a b=decide (a.data.toList=b.data.toList):=by
  intro a b;rw[seq_eq];refine decide_eq_decide.2 ⟨λh=>by rw[h],λh=>ByteArray.ext (Array.toList_inj.1 h)⟩
 have self:∀l:List UInt8,¬l<l:=λl=>List.lt_irrefl l;unfold M9;by_cases h12:key.size<12
 ·rw[if_pos h12];have ed:(key++BA [0]).data.toList=key.data.toList++[0]:=by
   rw[ByteArray.data_append,Array.toList_append];rfl
  have esz:(key++BA [0]).size=key.size+1:=by rw[<-DL,ed,List.length_append,DL];rfl
  constructor
  ·unfold Da;rw[decide_eq_false (by omega),decide_eq_false (by omega),e0,ed,GU,ed,decide_eq_true (XY _)];simp
  ·intro x hx;rw[e0,ed,GU,GU,ed,es,decide_eq_false (p:=key.data.toList++[0]=[]) (by simp),Bool.false_or];by_cases he:x.data.toList=key.data.toList
   ·rw[he,decide_eq_true rfl,decide_eq_false (self _),decide_eq_true (XY _)];rfl
   ·rw[decide_eq_false he];by_cases h1:x.data.toList<key.data.toList
    ·rw[decide_eq_true h1];rfl
    ·by_cases h2:x.data.toList<key.data.toList++[0]
     ·exact absurd (Pn _ _ h1 h2) he
     ·rw[decide_eq_false h2,Bool.and_false]
 ·rw[if_neg h12];have hl:key.data.toList.length=12:=by rw[DL];omega
  obtain⟨k,⟨hs,hk⟩|⟨p,c,hc,hs,hk⟩⟩:=Zx key.data.toList
  ·have eb:(⟨(S0 (strip key.data.toList)).toArray⟩:ByteArray)=BA []:=by rw[hs];rfl
   rw[eb];constructor
   ·unfold Da;rw[decide_eq_false (by omega),decide_eq_false (by decide),seq_eq,decide_eq_true rfl];rfl
   ·intro x hx;obtain⟨x1,x2⟩:=Pc hx;rw[show seq (BA []) (BA [])=true from by rw[seq_eq];simp,Bool.true_or,Bool.and_true,GU,es];have hk12:k=12:=by rw[hk,List.length_replicate]at hl;exact hl
    by_cases he:x.data.toList=key.data.toList
    ·rw[he,decide_eq_true rfl,decide_eq_false (self _)];rfl
    ·rw[decide_eq_false he];by_cases h1:x.data.toList<key.data.toList
     ·rw[decide_eq_true h1];rfl
     ·refine absurd ?_ he;rw[hk]at h1 ⊢;exact OK k _ (by rw[DL];omega) h1
  ·have eb:S0 (strip key.data.toList)=p++[c+1]:=by rw[hs];unfold S0;simp
   rw[eb];have hpl:p.length+1+k=12:=by rw[hk]at hl;simp at hl;omega
   have ed:(⟨(p++[c+1]).toArray⟩:ByteArray).data.toList=p++[c+1]:=rfl;have esz:(⟨(p++[c+1]).toArray⟩:ByteArray).size=p.length+1:=by rw[<-DL,ed,List.length_append];rfl
   constructor
   ·unfold Da;rw[decide_eq_false (by omega),decide_eq_false (by omega),e0,ed,GU,ed,hk,decide_eq_true (Xw hc _ p)];simp
   ·intro x hx;obtain⟨x1,x2⟩:=Pc hx;rw[e0,ed,GU,GU,ed,es,decide_eq_false (p:=p++[c+1]=[]) (by simp),Bool.false_or];by_cases he:x.data.toList=key.data.toList
    ·rw[he,decide_eq_true rfl,decide_eq_false (self _),hk,decide_eq_true (Xw hc _ p)];rfl
    ·rw[decide_eq_false he];by_cases h1:x.data.toList<key.data.toList
     ·rw[decide_eq_true h1];rfl
     ·by_cases h2:x.data.toList<p++[c+1]
      ·refine absurd ?_ he;rw[hk]at h1 ⊢;exact Sa hc k p _ (by rw[DL];omega) h1 h2
      ·rw[decide_eq_false h2,Bool.and_false]
open Go Go.Sx
def DP (lo hi key:ByteArray):Bool:=Da lo hi&&(Kx key&&(!slt key lo&&(seq hi (BA [])||slt key hi)))
theorem Akx (c:Bool):((if c then(0:Int)else 20)==0)=c:=by cases c<;>rfl
theorem Ahv (lo hi key:ByteArray){w:World}{K:TR [.sc .b]->Pr}(k:∀w',Aa [] w w'->K (DP lo hi key,()) w'):Cl Pg 42 [.agg #[.string lo,.string hi],.string key] false [.sc .b] K w:=by
 refine LY _ _ _ ?_;unfold JB;dsimp only[Ls,Vt];refine Ad λa w1 h1 n1 k1=>?_;simp only[sb,h1];refine WA _ _ λw2 k2=>?_;have h1:=k2.Aw h1;have k02:=Aj k1 k2;have k:=k w2 k02;unfold DP at k;dsimp only;rw[ok0];cases c1:Da lo hi<;>rw[c1]at k<;>simp only[sb]
 ·exact k
 refine Ih _ ?_;dsimp only;rw[Akx];cases c2:Kx key<;>rw[c2]at k<;>simp only[sb,h1]
 ·exact k
 cases c3:slt key lo<;>rw[c3]at k<;>simp only[sb,h1,Bool.not_true,Bool.not_false]
 ·cases c4:seq hi (BA [])<;>rw[c4]at k<;>simp only[sb,h1]<;>exact k
 ·exact k
theorem ZT {s:ByteArray}{c:UInt8}(h:s.data.toList[j]?=some c){K:Int->Pr}{w:World}(k:K (c.toNat:Int) w):IxS s (j:Int) K w:=by
 refine⟨by omega,c,?_,k⟩;rw[Int.toNat_natCast];obtain⟨hj,he⟩:=List.getElem?_eq_some_iff.1 h;rw[DL]at hj;rw[getElem?_pos s j hj];rw[<-he];rfl
theorem ZW (key:ByteArray){w:World}{K:TR [.ag [.s,.s],.sc (.i .i64)]->Pr}(k:∀w',Aa [] w w'->K (if Kx key then((key,M9 key,()),0,())else((BA [],BA [],()),20,())) w'):Cl Pg 85 [.string key] true [.ag [.s,.s],.sc (.i .i64)] K w:=by
 refine Ku _ ?_;unfold HK;dsimp only[N6,Ls,Tt,Vt];refine Ad λa w1 h1 n1 k1=>?_;refine Ih _ ?_;dsimp only;rw[AcG];cases hk:Kx key with
 |false=>
  rw[hk]at k;simp only[Bool.not_false,Af];exact KI h1 λw2 k2=>k w2 (BT k1 k2 n1)
 |true=>
 rw[hk]at k;obtain⟨z1,z2⟩:=Pc hk;simp only[Bool.not_true,Ae];by_cases h12:key.size<12
 ·rw[decide_eq_true (by omega)];simp only[Af];refine⟨by have:(BA [0]).size=1:=rfl;omega,?_⟩;refine KI h1 λw2 k2=>?_;have:=k w2 (BT k1 k2 n1);unfold M9 at this;rw[if_pos h12]at this;exact this
 ·rw[decide_eq_false (by omega)];simp only[Ae];have hlen:=DL key;refine⟨λn st w'=>∃m:Nat,st=((m:Int),())/\n=m/\m<=key.size/\(∀j,m<=j->j<key.size->key.data.toList[j]?=some 255)/\w1=w',⟨_,key.size,by rw[show key.size=12 from by omega];rfl,rfl,Nat.le_refl _,λj h1 h2=>by omega,rfl⟩,?_⟩;rintro n _ _ ⟨m,rfl,rfl,hm,h255,rfl⟩;dsimp only;refine AG (λst w'=>st=(decide (n≠0)&&(key.data.toList[n-1]?==some 255),())/\w1=w') (λJ hJ=>?_) ?_
  ·by_cases h0:n=0
   ·rw[decide_eq_false (by omega)];exact hJ _ _ ⟨by rw[h0];rfl,rfl⟩
   ·rw[decide_eq_true (by omega)];simp only[Af];rw[Ew (by omega) (by omega)];obtain⟨c,hc⟩:∃c,key.data.toList[n-1]?=some c:=⟨_,List.getElem?_eq_getElem (by omega)⟩;refine ZT hc ?_;refine hJ _ _ ⟨?_,rfl⟩;rw[hc,decide_eq_true h0,Bool.true_and]
    congr 1
    rw[Bool.eq_iff_iff];simp only[beq_iff_eq,Option.some.injEq];constructor
    ·intro h;have:c.toNat=255:=by omega
     exact UInt8.toNat_inj.1 this
    ·intro h;rw[h];rfl
  ·rintro _ _ ⟨rfl,rfl⟩;dsimp only;cases hq:(decide (n≠0)&&(key.data.toList[n-1]?==some 255))with
   |true=>
    simp only[Bool.and_eq_true,decide_eq_true_iff,beq_iff_eq]at hq;simp only[Af];rw[Ew (by omega) (by omega)];refine⟨n-1,by omega,n-1,rfl,rfl,by omega,λj h3 h4=>?_,by trivial⟩;by_cases h5:j=n-1
    ·rw[h5];exact hq.2
    ·exact h255 j (by omega) h4
   |false=>
    have hst:strip key.data.toList=key.data.toList.take n:=by
     refine Vc (by omega) (λj h3 h4=>h255 j h3 (by omega)) ?_;by_cases h0:n=0
     ·exact .inl h0
     ·rw[decide_eq_true h0,Bool.true_and,beq_eq_false_iff_ne]at hq;exact .inr hq
    have hpt:M9 key=⟨(S0 (key.data.toList.take n)).toArray⟩:=by unfold M9;rw[if_neg h12,hst]
    rw[hpt]at k;simp only[Ae];by_cases h0:n=0
    ·subst h0;simp only[show(((0:Nat):Int)==0)=true from rfl,Af];exact KI h1 λw2 k2=>k w2 (BT k1 k2 n1)
    ·rw[show(((n:Nat):Int)==0)=false from by simpa using h0];simp only[Ae,Dr];rw[Ew (by omega) (by omega)];obtain⟨c,hc⟩:∃c,key.data.toList[n-1]?=some c:=⟨_,List.getElem?_eq_getElem (by omega)⟩;refine⟨⟨by omega,by omega⟩,?_⟩;refine ZT hc ?_;rw[show((c.toNat:Int)+1)=((c.toNat+1:Nat):Int)from by omega,MR,show(c.toNat+1) % 256=(c+1).toNat from by rw[UInt8.toNat_add];rfl];refine Ad λb w2 h2 n2 k2=>?_;have h1:=k2.Aw (show w1.drew.heap[a]?=_ from h1);have k02:=Aj k1.drew k2;refine TC (bs:=[c+1]) ⟨rfl,λj b' hj=>?_⟩ ?_
     ·cases j with
      |zero=>cases hj;exact⟨_,rfl,by rw[Cr,cell_of h2];rfl⟩
      |succ j=>simp at hj
     rw[Int.toNat_natCast];have hed:(key.extract 0 (n-1)).data.toList=key.data.toList.take (n-1):=by
      rw[ByteArray.data_extract,Array.toList_extract];simp[List.extract]
     refine⟨?_,?_⟩
     ·have e1:(key.extract 0 (n-1)).size=n-1:=by rw[<-DL,hed,List.length_take];omega
      have e2:(⟨[c+1].toArray⟩:ByteArray).size=1:=rfl;rw[e1,e2];omega
     ·have e3:key.extract 0 (n-1)++(⟨[c+1].toArray⟩:ByteArray)=⟨(S0 (key.data.toList.take n)).toArray⟩:=by
       have hct:(key.data.toList.take n)[n-1]?=some c:=by rw[List.getElem?_take,if_pos (by omega),hc]
       have hbs:=YW (n:=n-1) (c:=c) (l:=key.data.toList.take n) (by rw[List.length_take];omega) hct;have hL:(key.data.toList.take n).set (n-1) (c+1)=key.data.toList.take (n-1)++[c+1]:=by
        have hle:n<=key.data.toList.length:=by omega
        rw[List.set_eq_take_append_cons_drop,if_pos (by rw[List.length_take,Nat.min_eq_left hle];omega),List.take_take,List.drop_of_length_le (by rw[List.length_take,Nat.min_eq_left hle];omega),Nat.min_eq_left (by omega)]
       rw[hbs,hL,<-hed];rfl
      rw[e3];exact KI h1 λw3 k3=>k w3 (BT k02 k3 n1)
theorem jb {J:Bool×Unit->Pr}{w:World}{b b':Bool}(h:J (b,()) w)(e:b=b'):J (b',()) w:=by rw[<-e];exact h
set_option maxHeartbeats 1000000 in
theorem V4 (o:Op){w:World}{K:TR [.sc (.i .i64)]->Pr}(k:∀w',Aa [] w w'->K (ER o,()) w'):Cl Pg 43 [.agg #[.int .i64 o.kind,.string o.key,.string o.value,.string o.lo,.string o.hi,.int .i64 o.AD]] false [.sc (.i .i64)] K w:=by
 obtain⟨E,hE⟩:∃E,E=ER o:=⟨_,rfl⟩;rw[<-hE]at k;unfold ER at hE;have hkd:Na o.kind=(Fx o.kind||FH o.kind):=by
  unfold Na Fx FH;rw[Bool.eq_iff_iff];simp;omega
 refine HV _ _ _ _ _ _ ?_;unfold Fu;dsimp only[Ar,Li,Ls,Vt];refine Ad λa w1 h1 n1 k1=>?_;refine BR (Fx o.kind) (λJ hJ=>?_) λw2 k2=>?_
 ·have ifJ:∀(c x y:Bool) (w':World),(if c=true then J (x,()) w' else J (y,()) w')=J (bif c then x else y,()) w':=by intro c x y w';cases c<;>rfl
  simp only[AbW,sb,h1,ifJ];refine jb (hJ _ (Aa.refl _ _)) ?_;unfold Fx;cases o.kind==1<;>cases o.kind==2<;>rfl
 have h1:=k2.Aw h1;dsimp only;refine BR (FH o.kind) (λJ hJ=>?_) λw3 k3=>?_
 ·have ifJ:∀(c x y:Bool) (w':World),(if c=true then J (x,()) w' else J (y,()) w')=J (bif c then x else y,()) w':=by intro c x y w';cases c<;>rfl
  simp only[AbW,sb,h1,ifJ];refine jb (hJ _ (Aa.refl _ _)) ?_;unfold FH;cases o.kind==4<;>rfl
 have h1:=k3.Aw h1;have k03:=Aj (Aj k1 k2) k3;dsimp only;refine BR ((!Na o.kind)||((!Fx o.kind&&!(seq o.key (BA [])))||((!SO o.kind&&!(seq o.value (BA [])))||((!FH o.kind&&!(seq o.lo (BA [])&&(seq o.hi (BA [])&&true)))||(!FD o.kind&&o.AD !=0))))) (λJ hJ=>?_) λw4 k4=>?_
 ·have ifJ:∀(c x y:Bool) (w':World),(if c=true then J (x,()) w' else J (y,()) w')=J (bif c then x else y,()) w':=by intro c x y w';cases c<;>rfl
  simp only[AbW,sb,h1,ifJ];refine jb (hJ _ (Aa.refl _ _)) ?_;rw[hkd];have e1:(o.kind !=2)=!SO o.kind:=rfl;have e2:(o.kind !=4)=!FD o.kind:=rfl;have e3:Fx o.kind=true->FH o.kind=false:=by
   unfold Fx FH;intro h;simp at h;simp;omega
  rw[e1,e2];generalize Fx o.kind=b1 at *;generalize FH o.kind=b2 at *;generalize SO o.kind=b3 at *;generalize FD o.kind=b4 at *;generalize seq o.key (BA [])=b5 at *;generalize seq o.value (BA [])=b6 at *;generalize seq o.lo (BA [])=b7 at *;generalize seq o.hi (BA [])=b8 at *;generalize (o.AD !=0)=b9 at *;clear hJ hE k ifJ hkd e1 e2
  revert e3 b1 b2 b3 b4 b5 b6 b7 b8 b9
  decide
 have h1:=k4.Aw h1;have k04:=Aj k03 k4;dsimp only;split at hE
 ·rename_i hc;rw[hc];subst hE;exact k _ k04
 rename_i hc;rw[Bool.not_eq_true]at hc;rw[hc];simp only[Ae];refine BR (Fx o.kind&&!Kx o.key) (λJ hJ=>?_) λw5 k5=>?_
 ·cases hq:Fx o.kind<;>rw[hq]at hJ<;>simp only[Bool.false_and,Bool.true_and,sb,h1]at hJ ⊢
  ·exact hJ _ (Aa.refl _ _)
  ·refine Ih _ ?_;rw[AcG];exact hJ _ (Aa.refl _ _)
 have h1:=k5.Aw h1;have k05:=Aj k04 k5;split at hE
 ·rename_i hc;rw[hc];subst hE;exact k _ k05
 rename_i hc;rw[Bool.not_eq_true]at hc;rw[hc];simp only[sb,h1];rw[show decide (((o.value.size:Nat):Int)>16)=decide (o.value.size>16)from decide_eq_decide.2 (by omega)];split at hE
 ·rename_i hc;rw[hc];subst hE;exact k _ k05
 rename_i hc;rw[Bool.not_eq_true]at hc;rw[hc];simp only[Ae];refine BR (FH o.kind&&!Da o.lo o.hi) (λJ hJ=>?_) λw6 k6=>?_
 ·cases hq:FH o.kind<;>rw[hq]at hJ<;>simp only[Bool.false_and,Bool.true_and,sb,h1]at hJ ⊢
  ·exact hJ _ (Aa.refl _ _)
  ·refine WA _ _ λw8 k8=>?_;rw[ok1];exact hJ _ k8
 have h1:=k6.Aw h1;have k06:=Aj k05 k6;split at hE
 ·rename_i hc;rw[hc];subst hE;exact k _ k06
 rename_i hc;rw[Bool.not_eq_true]at hc;rw[hc];simp only[Ae];refine BR (FD o.kind&&(decide (o.AD<1)||decide (o.AD>4))) (λJ hJ=>?_) λw7 k7=>?_
 ·have ifJ:∀(c x y:Bool) (w':World),(if c=true then J (x,()) w' else J (y,()) w')=J (bif c then x else y,()) w':=by intro c x y w';cases c<;>rfl
  simp only[AbW,sb,h1,ifJ];refine jb (hJ _ (Aa.refl _ _)) ?_;unfold FD;cases o.kind==4<;>cases decide (o.AD<1)<;>rfl
 have k07:=Aj k06 k7;split at hE
 ·rename_i hc;rw[hc];subst hE;exact k _ k07
 rename_i hc;rw[Bool.not_eq_true]at hc;rw[hc];subst hE;exact k _ k07
open Go Go.Sx
theorem AdL {w:World}{l:List Op}(h:A1 BQ w s l)(hN:l.length<=100000000){K:TR [.sc (.i .i64)]->Pr}(k:∀w',Aa [] w w'->K (A9 l,()) w'):Cl Pg 21 [.slice s.p s.len s.cap] false [.sc (.i .i64)] K w:=by
 have hl:=h.len;refine LU _ ?_;unfold Kb;dsimp only[Ar,AN,Gh,Gx];refine⟨λn st w'=>∃(q:Int) (i:Nat),st=(q,(i:Int),())/\n=l.length-i/\i<=l.length/\A9 (l.drop i)=A9 l/\Aa [] w w',⟨_,0,0,rfl,rfl,by omega,rfl,Aa.refl _ _⟩,?_⟩;rintro n _ w1 ⟨q,i,rfl,rfl,hi,he,k1⟩;dsimp only;by_cases hlt:i<l.length
 ·rw[decide_eq_true (by omega)];simp only[Af];obtain⟨x,hx⟩:∃x,l[i]?=some x:=⟨_,List.getElem?_eq_getElem hlt⟩;have hd:l.drop i=x::l.drop (i+1):=by rw[List.drop_eq_getElem_cons hlt,(List.getElem?_eq_some_iff.1 hx).2]
  rw[hd,A9]at he;refine Sn (h.Ab k1) hx ?_;refine Sq x λb w2 h2 n2 k2=>?_;simp only[sb,h2];refine V4 x λw3 k3=>?_;have k13:=Aj (Aj k1 k2) k3;dsimp only;cases hc:(ER x !=0)with
  |true=>rw[if_pos hc]at he;rw[he];exact k _ k13
  |false=>
   rw[if_neg (by rw[hc];simp)]at he;exact⟨l.length-(i+1),by omega,q,i+1,by rw[AK (by omega)],rfl,by omega,he,k13⟩
 ·rw[decide_eq_false (by omega)];rw[List.drop_of_length_le (by omega),A9]at he;rw[<-he]at k;exact k _ k1
theorem RE {w:World}{l:List Pa}(h:A1 C2 w s l)(hN:l.length<=8796093022208){K:TR [.sc (.i .i64)]->Pr}(k:∀e w',(e=0↔AU l)->Aa [] w w'->K (e,()) w'):Cl Pg 13 [.slice s.p s.len s.cap] false [.sc (.i .i64)] K w:=by
 have hl:=h.len;refine HD _ ?_;unfold EZ;dsimp only[Ls,Tt,Vt];refine⟨λn st w'=>∃(q:Int) (i:Nat),st=(q,(i:Int),())/\n=l.length-i/\i<=l.length/\AU (l.take i)/\Aa [] w w',⟨_,0,0,rfl,rfl,by omega,⟨by simp,by simp⟩,Aa.refl _ _⟩,?_⟩;rintro n _ w1 ⟨q,i,rfl,rfl,hi,hm,k1⟩;dsimp only;by_cases hlt:i<l.length
 ·rw[decide_eq_true (by omega)];simp only[Af];obtain⟨x,hx⟩:∃x,l[i]?=some x:=⟨_,List.getElem?_eq_getElem hlt⟩;have hxm:=List.mem_of_getElem? hx;refine KH (h.Ab k1) hx ?_;refine KC x λb w2 h2 n2 k2=>?_;simp only[sb,h2];refine Ih _ ?_;have k02:=Aj k1 k2;dsimp only;rw[AcG];cases hc:Kx x.k with
  |false=>exact k _ _ ⟨(by intro h;cases h),λhm=>by rw[(hm.ok x hxm).1]at hc;cases hc⟩ k02
  |true=>
  simp only[sb,h2,Bool.not_true];rw[show decide (((x.v.size:Nat):Int)>16)=decide (x.v.size>16)from decide_eq_decide.2 (by omega)];by_cases hv:x.v.size>16
  ·rw[decide_eq_true hv];exact k _ _ ⟨(by intro h;cases h),λhm=>by have:=(hm.ok x hxm).2;omega⟩ k02
  rw[decide_eq_false hv];simp only[Ae];refine AG (λst w'=>st=(decide (0<i)&&(match l[i-1]? with|some y=>!slt y.k x.k|none=>false),())/\Aa [] w1 w') (λJ hJ=>?_) ?_
  ·simp only[Dr];by_cases h0:0<i
   ·rw[decide_eq_true (by omega)];simp only[Af];obtain⟨y,hy⟩:∃y,l[i-1]?=some y:=⟨_,List.getElem?_eq_getElem (by omega)⟩;rw[Ew h0 (by omega)];have hr:=h.Ab (Aj k1 k2).drew;obtain⟨a,ha,hcell⟩:=hr.at hy;unfold Ix;rw[ha];refine⟨by omega,by omega,?_⟩;rw[Int.toNat_natCast];refine⟨y.k,hcell 0 _ rfl,?_⟩;simp only[sb,h2];exact hJ _ _ ⟨by rw[decide_eq_true h0,hy];rfl,k2.drew⟩
   ·rw[decide_eq_false (by omega)];exact hJ _ _ ⟨by rw[decide_eq_false h0];rfl,k2.drew⟩
  ·rintro _ w3 ⟨rfl,k3⟩;have k03:=Aj k1 k3;dsimp only;cases hb:(decide (0<i)&&(match l[i-1]? with|some y=>!slt y.k x.k|none=>false))with
   |true=>
    refine k _ _ ⟨(by intro h;cases h),λhm=>?_⟩ k03;simp only[Bool.and_eq_true,decide_eq_true_iff]at hb;obtain⟨h0,hb⟩:=hb;obtain⟨y,hy⟩:∃y,l[i-1]?=some y:=⟨_,List.getElem?_eq_getElem (by omega)⟩;rw[hy]at hb;have:=List.pairwise_iff_getElem.1 hm.up (i-1) i (by omega) hlt (by omega);rw[(List.getElem?_eq_some_iff.1 hy).2,(List.getElem?_eq_some_iff.1 hx).2]at this;simp[this]at hb
   |false=>
    simp only[Ae];refine⟨l.length-(i+1),by omega,q,i+1,by rw[AK (by omega)],rfl,by omega,?_,k03⟩;rw[List.take_add_one,hx];refine⟨λp hp=>?_,?_⟩
    ·rcases List.mem_append.1 hp with hp|hp
     ·exact hm.ok p hp
     ·simp at hp;subst hp;exact⟨hc,by omega⟩
    ·rw[List.pairwise_append];refine⟨hm.up,by simp,λp hp z hz=>?_⟩;simp at hz;subst hz;by_cases h0:0<i
     ·obtain⟨y,hy⟩:∃y,l[i-1]?=some y:=⟨_,List.getElem?_eq_getElem (by omega)⟩;rw[decide_eq_true h0,hy]at hb;simp at hb;obtain⟨j,hj,rfl⟩:=List.mem_take_iff_getElem.1 hp;by_cases hji:j=i-1
      ·subst hji;rw[(List.getElem?_eq_some_iff.1 hy).2];exact hb
      ·have h3:=List.pairwise_iff_getElem.1 hm.up j (i-1) (by rw[List.length_take];omega) (by rw[List.length_take];omega) (by omega);rw[List.getElem_take,List.getElem_take,(List.getElem?_eq_some_iff.1 hy).2]at h3;exact CB h3 hb
     ·have:i=0:=by omega
      subst this;simp at hp
 ·rw[decide_eq_false (by omega)];rw[List.take_of_length_le (by omega)]at hm;exact k _ _ ⟨λ_=>hm,λ_=>rfl⟩ k1
theorem AfI {w:World}(h:A1 C2 w s m)(hN:m.length<=100000000)(key:ByteArray){K:TR [.sc .s,.sc .b]->Pr}(k:∀w',Aa [] w w'->K ((match Hm m key with|some v=>v|none=>BA []),(Hm m key).isSome,()) w'):Cl Pg 83 [.slice s.p s.len s.cap,.string key] true [.sc .s,.sc .b] K w:=by
 have hl:=h.len;refine Lg _ _ ?_;unfold II;dsimp only[Ls,Tt,Vt];refine⟨λn st w'=>∃(q1:ByteArray) (q2:Bool) (i:Nat),st=(q1,q2,(i:Int),())/\n=m.length-i/\i<=m.length/\Hm (m.drop i) key=Hm m key/\Aa [] w w',⟨_,BA [],false,0,rfl,rfl,by omega,rfl,Aa.refl _ _⟩,?_⟩;rintro n _ w1 ⟨q1,q2,i,rfl,rfl,hi,he,k1⟩;dsimp only;by_cases hlt:i<m.length
 ·rw[decide_eq_true (by omega)];simp only[Af];obtain⟨x,hx⟩:∃x,m[i]?=some x:=⟨_,List.getElem?_eq_getElem hlt⟩;have hd:m.drop i=x::m.drop (i+1):=by rw[List.drop_eq_getElem_cons hlt,(List.getElem?_eq_some_iff.1 hx).2]
  rw[hd]at he;unfold Hm at he;rw[List.find?_cons]at he;refine KH (h.Ab k1) hx ?_;refine KC x λb w2 h2 n2 k2=>?_;simp only[sb,h2];have k02:=Aj k1 k2;cases hs:seq x.k key with
  |true=>
   rw[hs]at he;simp only[sb,h2];have:=k _ k02;unfold Hm at this;rw[<-he]at this;exact this
  |false=>
   rw[hs]at he;simp only[Ae];exact⟨m.length-(i+1),by omega,q1,q2,i+1,by rw[AK (by omega)],rfl,by omega,he,k02⟩
 ·rw[decide_eq_false (by omega)];rw[List.drop_of_length_le (by omega)]at he;have:=k _ k1;rw[<-he]at this;exact this
theorem U6 {w:World}(h:A1 C2 w s m)(hN:m.length<=100000000)(lo hi:ByteArray){K:TR [.sc .sl]->Pr}(k:∀r w',Bh C2 w' r (m.filter (λp=>!DP lo hi p.k))->(∀x∈Ai r,w.heap.size<=x)->Aa [] w w'->K (r,()) w'):
  Cl Pg 86 [.slice s.p s.len s.cap,.agg #[.string lo,.string hi]] false [.sc .sl] K w:=by
 have hl:=h.len;refine HT _ _ _ ?_;unfold Fs;dsimp only[Ls,Tt,Vt];refine Ad λa w0 h0 n0 k0=>?_;refine⟨λn st w'=>∃(r:Sl) (i:Nat),st=(r,(i:Int),())/\n=m.length-i/\i<=m.length/\Bh C2 w' r ((m.take i).filter (λp=>!DP lo hi p.k))/\(∀x∈Ai r,w0.heap.size<=x)/\Aa [] w0 w',⟨_,⟨none,0,0⟩,0,rfl,rfl,by omega,AE.nil _ _,by simp[Ai],Aa.refl _ _⟩,?_⟩;rintro n _ w1 ⟨r,i,rfl,rfl,hib,hr,fr,k1⟩;have k01:=Aj k0 k1;have h0:=k1.Aw h0;dsimp only;by_cases hlt:i<m.length
 ·rw[decide_eq_true (by omega)];simp only[Af];obtain⟨x,hx⟩:∃x,m[i]?=some x:=⟨_,List.getElem?_eq_getElem hlt⟩;have hrl:=hr.BY;have hrl2:((m.take i).filter (λp=>!DP lo hi p.k)).length<=m.length:=Nat.le_trans (List.length_filter_le _ _) (by rw[List.length_take];omega);have htk:(m.take (i+1)).filter (λp=>!DP lo hi p.k)=(m.take i).filter (λp=>!DP lo hi p.k)++(if DP lo hi x.k then []else [x]):=by
   rw[List.take_add_one,hx,List.filter_append];cases hq:DP lo hi x.k<;>simp[hq]
  refine AG (λst w'=>Bh C2 w' st.1 ((m.take (i+1)).filter (λp=>!DP lo hi p.k))/\(∀x∈Ai st.1,w0.heap.size<=x)/\Aa [] w0 w') (λJ hJ=>?_) ?_
  ·refine KH (h.Ab k01) hx ?_;refine KC x λb w2 h2 n2 k2=>?_;have h0:=k2.Aw h0;simp only[sb,h0,h2];refine Ahv _ _ _ λw3 k3=>?_;have h2:=k3.Aw h2;dsimp only;cases hq:DP lo hi x.k with
   |true=>
    refine hJ (r,()) _ ⟨?_,fr,Aj k1 (Aj k2 k3)⟩;rw[htk,hq,if_pos rfl,List.append_nil];exact hr.Ab (Aj k2 k3)
   |false=>
    simp only[Bool.not_false,sb,h2];refine Ad λc w4 h4 n4 k4=>?_;have k14:=Aj (Aj k2 k3) k4;refine AE.app (ρ:=C2) (new:=[x]) (hr.Ab k14) (by rw[List.flatMap_singleton];exact BI (ρ:=C2) (x:=x) h4) rfl (by rw[Fm];rfl) (by omega) (by omega) ?_;intro r' w5 h5 k5 f5;refine hJ (r',()) _ ⟨?_,λy hy=>?_,Ky (Aj k1 k14) k5 fr⟩
    ·rw[htk,hq];exact h5
    ·rcases f5 y hy with h'|h'
     ·exact fr y h'
     ·have:=(Aj k1 k14).size;omega
  ·rintro⟨r',_⟩ w2 ⟨h2,f2,k2⟩;exact⟨m.length-(i+1),by omega,r',i+1,by rw[AK (by omega)],rfl,by omega,h2,f2,k2⟩
 ·rw[decide_eq_false (by omega)];rw[List.take_of_length_le (by omega)]at hr;exact k r _ hr (λx hx=>Nat.le_trans k0.size (fr x hx)) k01
def BM (m:List Pa)(lo hi:ByteArray)(AD:Int):List Pa:=if AD<0 then m.filter (λp=>DP lo hi p.k)else(m.filter (λp=>DP lo hi p.k)).take AD.toNat
theorem Zj {w:World}(h:A1 C2 w s m)(hN:m.length<=100000000)(lo hi:ByteArray)(AD:Int){K:TR [.sc .sl]->Pr}(k:∀r w',Bh C2 w' r (BM m lo hi AD)->(∀x∈Ai r,w.heap.size<=x)->Aa [] w w'->K (r,()) w'):
  Cl Pg 20 [.slice s.p s.len s.cap,.agg #[.string lo,.string hi],.int .i64 AD] false [.sc .sl] K w:=by
 have hl:=h.len;refine IM _ _ _ _ ?_;unfold Gr;dsimp only[Ls,Tt,Vt];refine Ad λa w0 h0 n0 k0=>?_;refine⟨λn st w'=>∃(r:Sl) (i:Nat),st=(r,(i:Int),())/\n=m.length-i/\i<=m.length/\Bh C2 w' r (BM (m.take i) lo hi AD)/\(∀x∈Ai r,w0.heap.size<=x)/\Aa [] w0 w',⟨_,⟨none,0,0⟩,0,rfl,rfl,by omega,by unfold BM;rw[List.take_zero,List.filter_nil,List.take_nil,ite_self];exact AE.nil _ _,by simp[Ai],Aa.refl _ _⟩,?_⟩;rintro n _ w1 ⟨r,i,rfl,rfl,hib,hr,fr,k1⟩;have k01:=Aj k0 k1;have h0:=k1.Aw h0;dsimp only;by_cases hlt:i<m.length
 ·rw[decide_eq_true (by omega)];simp only[Af];obtain⟨x,hx⟩:∃x,m[i]?=some x:=⟨_,List.getElem?_eq_getElem hlt⟩;have hrl:=hr.BY;have hfl:((m.take i).filter (λp=>DP lo hi p.k)).length<=m.length:=Nat.le_trans (List.length_filter_le _ _) (by rw[List.length_take];omega);have hrl2:(BM (m.take i) lo hi AD).length<=m.length:=by
   unfold BM;split
   ·exact hfl
   ·rw[List.length_take];omega
  have hff:(m.take (i+1)).filter (λp=>DP lo hi p.k)=(m.take i).filter (λp=>DP lo hi p.k)++(if DP lo hi x.k then [x]else []):=by
   rw[List.take_add_one,hx,List.filter_append];cases hq:DP lo hi x.k<;>simp[hq]
  have htk:BM (m.take (i+1)) lo hi AD=BM (m.take i) lo hi AD++(if DP lo hi x.k&&(decide (AD<0)||decide (((r.len:Nat):Int)<AD))then [x]else []):=by
   rw[hrl];unfold BM;rw[hff];by_cases hm:AD<0
   ·rw[if_pos hm,if_pos hm,decide_eq_true hm];simp
   ·rw[if_neg hm,if_neg hm,decide_eq_false hm];have e:decide ((((((m.take i).filter (λp=>DP lo hi p.k)).take AD.toNat).length:Nat):Int)<AD)=decide (((m.take i).filter (λp=>DP lo hi p.k)).length<AD.toNat):=by
     refine decide_eq_decide.2 ?_;rw[List.length_take];omega
    rw[e];generalize (m.take i).filter (λp=>DP lo hi p.k)=F;generalize AD.toNat=q;cases DP lo hi x.k with
    |false=>simp
    |true=>
     by_cases hlt:F.length<q
     ·rw[decide_eq_true hlt];simp only[if_true,Bool.false_or,Bool.and_self];rw[List.take_of_length_le (by simp;omega),List.take_of_length_le (by omega)]
     ·rw[decide_eq_false hlt];simp only[if_true,Bool.false_or,Bool.and_false,Bool.false_eq_true,if_false,List.append_nil];rw[List.take_append_of_le_length (by omega)]
  refine AG (λst w'=>Bh C2 w' st.1 (BM (m.take (i+1)) lo hi AD)/\(∀x∈Ai st.1,w0.heap.size<=x)/\Aa [] w0 w') (λJ hJ=>?_) ?_
  ·refine KH (h.Ab k01) hx ?_;refine KC x λb w2 h2 n2 k2=>?_;have h0:=k2.Aw h0;refine BR (DP lo hi x.k&&(decide (AD<0)||decide (((r.len:Nat):Int)<AD))) (λJ2 hJ2=>?_) λw3 k3=>?_
   ·simp only[sb,h0,h2];refine Ahv _ _ _ λw3 k3=>?_;dsimp only;cases hq:DP lo hi x.k<;>rw[hq]at hJ2<;>simp only[Af,Ae]
    ·exact hJ2 _ k3
    ·cases hm:decide (AD<0)<;>rw[hm]at hJ2<;>exact hJ2 _ k3
   have h2:=k3.Aw h2;dsimp only;cases hq:(DP lo hi x.k&&(decide (AD<0)||decide (((r.len:Nat):Int)<AD)))with
   |false=>
    refine hJ (r,()) _ ⟨?_,fr,Aj k1 (Aj k2 k3)⟩;rw[htk,hq];simpa using hr.Ab (Aj k2 k3)
   |true=>
    simp only[sb,h2];refine Ad λc w4 h4 n4 k4=>?_;have k14:=Aj (Aj k2 k3) k4;refine AE.app (ρ:=C2) (new:=[x]) (hr.Ab k14) (by rw[List.flatMap_singleton];exact BI (ρ:=C2) (x:=x) h4) rfl (by rw[Fm];rfl) (by omega) (by omega) ?_;intro r' w5 h5 k5 f5;refine hJ (r',()) _ ⟨?_,λy hy=>?_,Ky (Aj k1 k14) k5 fr⟩
    ·rw[htk,hq];exact h5
    ·rcases f5 y hy with h'|h'
     ·exact fr y h'
     ·have:=(Aj k1 k14).size;omega
  ·rintro⟨r',_⟩ w2 ⟨h2,f2,k2⟩;exact⟨m.length-(i+1),by omega,r',i+1,by rw[AK (by omega)],rfl,by omega,h2,f2,k2⟩
 ·rw[decide_eq_false (by omega)];rw[List.take_of_length_le (by omega)]at hr;exact k r _ hr (λx hx=>Nat.le_trans k0.size (fr x hx)) k01
open Go Go.Sx
def Ga (x:Pa)(m:List Pa):List Pa×Bool:=(m.filter (λp=>slt p.k x.k)++(if m.any (λp=>!slt p.k x.k)then x::m.filter (λp=>slt x.k p.k)else []),m.any (λp=>!slt p.k x.k))
theorem Af3 {x:Pa}:(if(Ga x m).2 then(Ga x m).1 else(Ga x m).1++[x])=S7 m x.k x.v:=by
 unfold Ga S7;cases h:m.any (λp=>!slt p.k x.k)with
 |true=>simp
 |false=>
  have:m.filter (λp=>slt x.k p.k)=[]:=by
   refine List.filter_eq_nil_iff.2 λp hp=>?_;have:=List.any_eq_false.1 h p hp;simp at this;rw[Ct this];simp
  simp[this]
theorem AcE {x p:Pa}(hm:AU (m++[p])):Ga x (m++[p])=((if(!(Ga x m).2&&!slt p.k x.k)then(Ga x m).1++[x]else(Ga x m).1)++(if !(seq p.k x.k)then [p]else []),(Ga x m).2||!slt p.k x.k):=by
 unfold Ga;dsimp only;rw[List.any_append,List.filter_append,List.filter_append,seq_eq];have hlt:∀y∈m,slt y.k p.k=true:=λy hy=>(List.pairwise_append.1 hm.up).2.2 y hy p (by simp);cases h1:m.any (λp=>!slt p.k x.k)with
 |true=>
  obtain⟨y,hy,hyx⟩:=List.any_eq_true.1 h1;have h2:slt x.k p.k=true:=by
   simp at hyx;exact Yl hyx (hlt y hy)
  have h3:=Ct h2;have h4:=(Oz h2).symm;simp[h2,h3,h4]
 |false=>
  cases h2:slt p.k x.k with
  |true=>
   have h4:=Oz h2;simp[h2,h4]
  |false=>
   have hnil:m.filter (λp=>slt x.k p.k)=[]:=by
    refine List.filter_eq_nil_iff.2 λq hq=>?_;have:=List.any_eq_false.1 h1 q hq;simp at this;rw[Ct this];simp
   by_cases h3:p.k=x.k
   ·simp[h2,h3,hnil,KF]
   ·have h5:slt x.k p.k=true:=by
     cases h6:slt x.k p.k with
     |true=>rfl
     |false=>exact absurd (Ek h2 h6) h3
    simp[h2,h3,h5,hnil]
theorem AeB (x:Pa)(m:List Pa):(Ga x m).1.length<=m.length+1:=by
 unfold Ga;dsimp only;have e:(m.filter (λp=>slt p.k x.k)).length+(m.filter (λp=>slt x.k p.k)).length<=m.length:=by
  induction m with
  |nil=>simp
  |cons y m ih=>
   simp only[List.filter_cons,List.length_cons];cases h1:slt y.k x.k with
   |true=>rw[Ct h1];simp only[if_true,Bool.false_eq_true,if_false,List.length_cons];omega
   |false=>cases h2:slt x.k y.k<;>simp only[if_true,Bool.false_eq_true,if_false,List.length_cons]<;>omega
 rw[List.length_append];split<;>simp only[List.length_cons,List.length_nil]<;>omega
theorem AhY {w:World}(h:A1 C2 w s m)(hm:AU m)(hN:m.length<=1000000)(x:Pa){K:TR [.sc .sl]->Pr}(k:∀r w',Bh C2 w' r (S7 m x.k x.v)->(∀y∈Ai r,w.heap.size<=y)->Aa [] w w'->K (r,()) w'):
  Cl Pg 84 [.slice s.p s.len s.cap,.agg #[.string x.k,.string x.v]] false [.sc .sl] K w:=by
 have hl:=h.len;refine LV _ _ _ ?_;unfold Ka;dsimp only[Ls,Tt,Vt];refine Ad λa w0 h0 n0 k0=>?_;refine⟨λn st w'=>∃(r:Sl) (i:Nat),st=(r,(Ga x (m.take i)).2,(i:Int),())/\n=m.length-i/\i<=m.length/\Bh C2 w' r (Ga x (m.take i)).1/\(∀y∈Ai r,w0.heap.size<=y)/\Aa [] w0 w',⟨_,⟨none,0,0⟩,0,rfl,rfl,by omega,AE.nil _ _,by simp[Ai],Aa.refl _ _⟩,?_⟩;rintro n _ w1 ⟨r,i,rfl,rfl,hib,hr,fr,k1⟩;have k01:=Aj k0 k1;have h0:=k1.Aw h0;have hgl:=AeB x (m.take i);rw[List.length_take]at hgl;dsimp only
 have add:∀{w1 w2:World} {r:Sl} {l:List Pa} {y:Pa} {c:Nat} {J:Sl->Pr},Bh C2 w1 r l->l.length<=2000000->(∀z∈Ai r,w0.heap.size<=z)->Aa [] w0 w1->Aa [] w1 w2->w2.heap[c]?=some (.cells #[.string y.k,.string y.v] 111 (0,0)) ->
   (∀r' w3,Bh C2 w3 r' (l++[y])->(∀z∈Ai r',w0.heap.size<=z)->Aa [] w0 w3->Aa (Ai r) w2 w3->J r' w3)->App 111 2 32 (zc Pg 111) r 1 (BH (some ⟨c,0,none⟩) 1 2) J w2:=by
  intro w1 w2 r l y c J hr hN fr k1 k2 hc hJ;have hrl:=hr.BY;refine AE.app (ρ:=C2) (new:=[y]) (hr.Ab k2) (by rw[List.flatMap_singleton];exact BI (ρ:=C2) (x:=y) hc) rfl (by rw[Fm];rfl) (by omega) (by omega) ?_;intro r' w3 h3 k3 f3;refine hJ r' w3 h3 (λz hz=>?_) (Ky (Aj k1 k2) k3 fr) k3;rcases f3 z hz with h'|h'
  ·exact fr z h'
  ·have:=(Aj k1 k2).size;omega
 by_cases hlt:i<m.length
 ·rw[decide_eq_true (by omega)];simp only[Af];obtain⟨p,hp⟩:∃p,m[i]?=some p:=⟨_,List.getElem?_eq_getElem hlt⟩;have htk:m.take (i+1)=m.take i++[p]:=by rw[List.take_add_one,hp];rfl
  have hst:=AcE (x:=x) (p:=p) (m:=m.take i) (by rw[<-htk];exact hm.sub (List.take_sublist _ _));rw[<-htk]at hst;refine AG (λst w'=>st.2.1=(Ga x (m.take (i+1))).2/\Bh C2 w' st.1 (Ga x (m.take (i+1))).1/\(∀y∈Ai st.1,w0.heap.size<=y)/\Aa [] w0 w') (λJ hJ=>?_) ?_
  ·refine KH (h.Ab k01) hp ?_;refine KC p λb w2 h2 n2 k2=>?_;have h0:=k2.Aw h0;refine AG (λst w'=>∃r',st=(r',(Ga x (m.take (i+1))).2,())/\Bh C2 w' r' (if(!(Ga x (m.take i)).2&&!slt p.k x.k)then(Ga x (m.take i)).1++[x]else(Ga x (m.take i)).1)/\(∀y∈Ai r',w0.heap.size<=y)/\Aa [] w0 w'/\Aa (Ai r) w2 w') (λJ2 hJ2=>?_) ?_
   ·refine BR (!(Ga x (m.take i)).2&&!slt p.k x.k) (λJ3 hJ3=>?_) λw3 k3=>?_
    ·cases hg:(Ga x (m.take i)).2<;>rw[hg]at hJ3<;>simp only[Bool.not_true,Bool.not_false,sb,h2,h0]
     ·exact hJ3 _ (Aa.refl _ _)
     ·exact hJ3 _ (Aa.refl _ _)
    have h0:=k3.Aw h0;have h2:=k3.Aw h2;dsimp only;cases hc:(!(Ga x (m.take i)).2&&!slt p.k x.k)with
    |true=>
     simp only[sb,h0];refine Ad λc w4 h4 n4 k4=>?_;refine add (y:=x) hr (by omega) fr k1 (Aj (Aj k2 k3) k4) h4 ?_;intro r' w5 h5 f5 k5 kk5;refine hJ2 _ _ ⟨r',?_,by rw[hc,if_pos rfl];exact h5,f5,k5,k0m (Aj k3 k4) kk5⟩;rw[hst];simp only[Bool.and_eq_true,Bool.not_eq_true']at hc;rw[hc.1,hc.2];rfl
    |false=>
     refine hJ2 _ _ ⟨r,?_,by rw[hc,if_neg (by simp)];exact hr.Ab (Aj k2 k3),fr,Aj k1 (Aj k2 k3),k3.mono (by simp)⟩;rw[hst];cases hg:(Ga x (m.take i)).2 with
     |true=>rfl
     |false=>
      rw[hg]at hc;simp only[Bool.not_false,Bool.true_and,Bool.not_eq_false']at hc;rw[hc];rfl
   ·rintro _ w3 ⟨r',rfl,h3,f3,k3,kk3⟩;have na:a∉Ai r:=λhh=>by have:=fr a hh;have:=Av (show w0.heap[a]?=_ from by assumption);omega
    have nb:b∉Ai r:=λhh=>by have:=hr.lt b hh;omega
    have h0:=kk3.at h0 na;have h2:=kk3.at h2 nb;simp only[sb,h0,h2];cases hs:seq p.k x.k with
    |true=>
     refine hJ _ _ ⟨rfl,?_,f3,k3⟩;rw[hst,hs];simpa using h3
    |false=>
     simp only[Bool.not_false,sb,h2];refine Ad λc w4 h4 n4 k4=>?_;refine add (y:=p) h3 ?_ f3 k3 k4 h4 ?_
     ·split<;>(try rw[List.length_append])<;>(try simp only[List.length_cons,List.length_nil])<;>omega
     intro r'' w5 h5 f5 k5 _;refine hJ _ _ ⟨rfl,?_,f5,k5⟩;rw[hst,hs];exact h5
  ·rintro⟨r',d',_⟩ w2 ⟨e,h2,f2,k2⟩;dsimp only at e;subst e;exact⟨m.length-(i+1),by omega,r',i+1,by rw[AK (by omega)],rfl,by omega,h2,f2,k2⟩
 ·rw[decide_eq_false (by omega)];have htk:m.take i=m:=List.take_of_length_le (by omega);have hend:=Af3 (x:=x) (m:=m);rw[htk]at hr ⊢;simp only[Ae];refine AG (λst w'=>Bh C2 w' st.1 (S7 m x.k x.v)/\(∀y∈Ai st.1,w0.heap.size<=y)/\Aa [] w0 w') (λJ hJ=>?_) ?_
  ·cases hg:(Ga x m).2 with
   |true=>
    rw[hg,if_pos rfl]at hend;rw[hend]at hr;exact hJ (r,()) _ ⟨hr,fr,k1⟩
   |false=>
    rw[hg]at hend;simp only[Bool.false_eq_true,if_false]at hend;simp only[Bool.not_false,sb,h0];refine Ad λc w4 h4 n4 k4=>?_;refine add (y:=x) hr (by rw[htk]at hgl;omega) fr k1 k4 h4 ?_;intro r' w5 h5 f5 k5 _;rw[hend]at h5;exact hJ (r',()) _ ⟨h5,f5,k5⟩
  ·rintro⟨r',_⟩ w2 ⟨h2,f2,k2⟩;exact k r' _ h2 (λy hy=>Nat.le_trans k0.size (f2 y hy)) (Aj k0 k2)
theorem AeH (h:AU m){lo hi:ByteArray}(hr:Da lo hi=true):∀p∈m,DP lo hi p.k=inM lo hi p:=by
 intro p hp;unfold DP inM;rw[hr,(h.ok p hp).1];rfl
theorem AjE {w:World}(h:A1 C2 w s m)(hm:AU m)(hN:m.length<=1000000)(o:Op)(ho:ER o=0){K:TR [.sc .sl,.ag [.b,.s,.sl]]->Pr}(k:∀(r:Sl) (x:Rs) (w':World),A1 C2 w' r (RU m o).1->x.p=(RU m o).2->A1 C2 w' x.sp x.LL->(r=s\/∀b∈rb r,w.heap.size<=b)->(∀b∈rb x.sp,w.heap.size<=b)->Aa [] w w'->K (r,(x.found,x.value,x.sp,()),()) w'):
  Cl Pg 34 [.slice s.p s.len s.cap,.agg #[.int .i64 o.kind,.string o.key,.string o.value,.string o.lo,.string o.hi,.int .i64 o.AD]] true [.sc .sl,.ag [.b,.s,.sl]] K w:=by
 obtain⟨g1,g2,g3,g4,g5⟩:=Ri ho;refine MT _ _ _ _ _ _ _ ?_;unfold LF;dsimp only[Ar,N6,HX,Li,Ls,Tb,Ts,Tt,Vi,Vs,Vt,Nw];refine Ad λa w1 h1 n1 k1=>?_;refine Ad λb w2 h2 n2 k2=>?_;have h1:=k2.Aw h1;simp only[sb,h1];refine bx2 rfl rfl rfl λc w3 h3 n3 k3=>?_;have h1:=k3.Aw h1;have h2:=k3.Aw h2;have k03:=Aj (Aj k1 k2) k3;have nb:w.heap.size<=b:=by have:=k1.size;omega
 have lb:b<w3.heap.size:=Av h2;simp only[sb,h1];unfold RU at k;by_cases e1:o.kind=1
 ·rw[if_pos e1]at k;rw[show(o.kind==1)=true from by rw[e1];rfl];simp only[sb,h1];refine AfI (h.Ab k03) (by omega) o.key λw4 k4=>?_;have h2:=k4.Aw h2;refine NR h2 λw5 k5=>?_;have k05:=BT (Aj k03 k4) k5 nb;refine k s ⟨(Hm m o.key).isSome,(match Hm m o.key with|some v=>v|none=>BA []),⟨none,0,0⟩,[]⟩ w5 (h.Ab k05) ?_ (A1.nil _) (.inl rfl) (by simp[rb]) k05;cases Hm m o.key<;>rfl
 rw[if_neg e1]at k;rw[show(o.kind==1)=false from by simpa using e1];simp only[Ae];by_cases e2:o.kind=2
 ·rw[if_pos e2]at k;rw[show(o.kind==2)=true from by rw[e2];rfl];simp only[sb,h1];refine AhY (h.Ab k03) hm hN ⟨o.key,o.value⟩ ?_;intro r w4 h4 f4 k4;have h2:=k4.Aw h2;refine NR h2 λw5 k5=>?_;have k05:=BT (Aj k03 k4) k5 nb;have br:b∉Ai r:=λhb=>by have:=f4 b hb;omega
  exact k r ⟨false,BA [],⟨none,0,0⟩,[]⟩ w5 (h4.keeps k5 (λx hx=>by simp;exact λe=>br (e▸hx))).C6 rfl (A1.nil _) (.inr λx hx=>by have:=f4 x (h4.rb x hx);have:=k03.size;omega) (by simp[rb]) k05
 rw[if_neg e2]at k;rw[show(o.kind==2)=false from by simpa using e2];simp only[Ae];by_cases e3:o.kind=3
 ·rw[if_pos e3]at k;rw[show(o.kind==3)=true from by rw[e3];rfl];simp only[sb,h1];have hkey:=g2 (by rw[e3];rfl);refine ZW _ λw4 k4=>?_;rw[if_pos hkey];have h2:=k4.Aw h2;refine bx2 rfl rfl rfl λd w5 h5 n5 k5=>?_;have h2:=k5.Aw h2;simp only[sb,h5];have k05:=Aj (Aj k03 k4) k5;refine U6 (h.Ab k05) (by omega) _ _ ?_;intro r w6 h6 f6 k6;have h2:=k6.Aw h2;have hf:m.filter (λp=>!DP o.key (M9 o.key) p.k)=m.filter (λp=>!seq p.k o.key):=by
   refine List.filter_congr λp hp=>?_;unfold DP;rw[(AeD hkey).1,(hm.ok p hp).1,Bool.true_and,Bool.true_and,(AeD hkey).2 p.k (hm.ok p hp).1]
  rw[hf]at h6;refine NR h2 λw7 k7=>?_;have k07:=BT (Aj k05 k6) k7 nb;have br:b∉Ai r:=λhb=>by have:=f6 b hb;have:=(Aj k4 k5).size;omega
  exact k r ⟨false,BA [],⟨none,0,0⟩,[]⟩ w7 (h6.keeps k7 (λx hx=>by simp;exact λe=>br (e▸hx))).C6 rfl (A1.nil _) (.inr λx hx=>by have:=f6 x (h6.rb x hx);have:=k05.size;omega) (by simp[rb]) k07
 rw[if_neg e3]at k;rw[show(o.kind==3)=false from by simpa using e3];simp only[Ae];by_cases e4:o.kind=4
 ·rw[if_pos e4]at k;rw[show(o.kind==4)=true from by rw[e4];rfl];have hr:=g4 (by rw[e4];rfl);have hmo:=g5 (by rw[e4];rfl);simp only[sb,h1,h3];refine Zj (h.Ab k03) (by omega) _ _ _ ?_;intro r w4 h4 f4 k4;have h2:=k4.Aw h2;have hf:BM m o.lo o.hi o.AD=(m.filter (inM o.lo o.hi)).take o.AD.toNat:=by
   unfold BM;rw[if_neg (by omega),List.filter_congr (AeH hm hr)]
  have h4:Bh C2 w4 r ((m.filter (inM o.lo o.hi)).take o.AD.toNat):=by rw[<-hf];exact h4
  refine Aio h2 λw5 k5=>?_;have k05:=BT (Aj k03 k4) k5 nb;have br:b∉Ai r:=λhb=>by have:=f4 b hb;omega
  exact k s ⟨false,BA [],r,_⟩ w5 (h.Ab k05) rfl (h4.keeps k5 (λx hx=>by simp;exact λe=>br (e▸hx))).C6 (.inl rfl) (λx hx=>by have:=f4 x (h4.rb x hx);have:=k03.size;omega) k05
 rw[if_neg e4]at k;rw[show(o.kind==4)=false from by simpa using e4];have e5:o.kind=5:=by
  rcases PZ g1 with e|e|e|e|e<;>first|exact e|exact absurd e (by assumption)
 have hr:=g4 (by rw[e5];rfl);simp only[sb,h3];refine U6 (h.Ab k03) (by omega) _ _ ?_;intro r w4 h4 f4 k4;have h2:=k4.Aw h2;have hf:m.filter (λp=>!DP o.lo o.hi p.k)=m.filter (λp=>!inM o.lo o.hi p):=List.filter_congr λp hp=>congrArg not (AeH hm hr p hp);rw[hf]at h4;refine NR h2 λw5 k5=>?_;have k05:=BT (Aj k03 k4) k5 nb;have br:b∉Ai r:=λhb=>by have:=f4 b hb;omega
 exact k r ⟨false,BA [],⟨none,0,0⟩,[]⟩ w5 (h4.keeps k5 (λx hx=>by simp;exact λe=>br (e▸hx))).C6 rfl (A1.nil _) (.inr λx hx=>by have:=f4 x (h4.rb x hx);have:=k03.size;omega) (by simp[rb]) k05
theorem Af5 {w:World}{sm sl:Sl}{l:List Op}(h:A1 C2 w sm m)(hl:A1 BQ w sl l)(hN:m.length<=500000)(hL:l.length<=400000){K:TR [.sc .sl,.sc .sl,.sc (.i .i64)]->Pr}(k:AU m->A9 l=0->∀(r1 r2:Sl) (rs:List Rs) (w':World),A1 C2 w' r1 (Bd m l).1->Bh Xg w' r2 rs->rs.map Rs.p=(Bd m l).2->(∀x∈rs,RsD w' x)->(∀b∈rb r1,w.heap.size<=b)->Aa [] w w'->K (r1,r2,0,()) w')(k':∀e w',(¬AU m\/A9 l≠0)->e≠0->Aa [] w w'->K (⟨none,0,0⟩,⟨none,0,0⟩,e,()) w'):Cl Pg 12 [.slice sm.p sm.len sm.cap,.slice sl.p sl.len sl.cap] true [.sc .sl,.sc .sl,.sc (.i .i64)] K w:=by
 have hll:=hl.len;have hml:=h.len;refine JW _ _ ?_;unfold HB;dsimp only[Aat,Ar,HX,AN,AgV,Gh,Vs,Nw,Gx];refine RE h (by omega) λe w1 he k1=>?_;dsimp only;by_cases hm:e=0
 ·rw[show(e !=0)=false from by rw[hm];rfl];simp only[Ae];refine AdL (hl.Ab k1) (by omega) λw2 k2=>?_;dsimp only;have k02:=Aj k1 k2;by_cases ho:A9 l=0
  ·rw[show(A9 l !=0)=false from by rw[ho];rfl];simp only[Ae];have hmo:=he.1 hm;refine AE.app (ρ:=C2) (l:=[]) (new:=m) (AE.nil _ _) (h.Ab k02).rd hml (by rw[Fm];rfl) (by dsimp only;omega) (by dsimp only;omega) ?_;intro r0 w3 h3 k3 f3;have k3:Aa [] w2 w3:=k3;have k03:=Aj k02 k3;have f3:∀x∈Ai r0,w2.heap.size<=x:=λx hx=>by rcases f3 x hx with h'|h';simp[Ai]at h';exact h'
   refine⟨λn st w'=>∃(r1 r2:Sl) (rs:List Rs) (i:Nat),st=(r1,r2,(i:Int),())/\n=l.length-i/\i<=l.length/\A1 C2 w' r1 (Bd m (l.take i)).1/\Bh Xg w' r2 rs/\rs.map Rs.p=(Bd m (l.take i)).2/\(∀x∈rs,RsD w' x/\∀b∈rb x.sp,b∉Ai r2) /\
    (∀b∈rb r1,w.heap.size<=b/\b∉Ai r2)/\(∀b∈Ai r2,w.heap.size<=b)/\Aa [] w w',⟨_,r0,⟨none,0,0⟩,[],0,rfl,rfl,by omega,h3.C6,AE.nil _ _,rfl,by simp,λb hb=>⟨by have:=f3 b (h3.rb b hb);have:=k02.size;omega,by simp[Ai]⟩,by simp[Ai],k03⟩,?_⟩
   rintro n _ w4 ⟨r1,r2,rs,i,rfl,rfl,hi,g1,g2,g3,g4,g5,g6,k4⟩;dsimp only;by_cases hlt:i<l.length
   ·rw[decide_eq_true (by omega)];simp only[Af];obtain⟨x,hx⟩:∃x,l[i]?=some x:=⟨_,List.getElem?_eq_getElem hlt⟩;have hxo:ER x=0:=Bu.1 ho x (List.mem_of_getElem? hx);have htk:l.take (i+1)=l.take i++[x]:=by rw[List.take_add_one,hx];rfl
    have hmi:AU (Bd m (l.take i)).1:=Nq hmo (Bu.2 λy hy=>Bu.1 ho y (List.mem_of_mem_take hy));obtain⟨hal1,hal2⟩:=He m (l.take i);rw[List.length_take]at hal1 hal2;refine Sn (hl.Ab k4) hx ?_;refine Sq x λb w5 h5 n5 k5=>?_;simp only[sb,h5];refine AjE (g1.Ab k5) hmi (by omega) x hxo ?_;intro r y w6 e1 e2 e3 e4 e5 k6;refine bx3 rfl rfl rfl rfl λc w7 h7 n7 k7=>?_;simp only[sb,h7];refine Ad λd w8 h8 n8 k8=>?_;have k48:=Aj (Aj (Aj k5 k6) k7) k8;have k68:=Aj k7 k8;have s56:=k5.size;have g2':=g2.Ab k48;have hrl:=g2'.BY;have hrm:rs.length=min i l.length:=by rw[<-hal2,<-g3,List.length_map]
    refine AE.app (ρ:=Xg) (new:=[y]) g2' (by rw[List.flatMap_singleton];exact BI (ρ:=Xg) (x:=y) h8) rfl (by rw[WI];rfl) (by omega) (by omega) ?_;intro r' w9 h9 k9 hb9;have e1':=e1.Ab k68;have e3':=e3.Ab k68;have rr:∀b∈rb r,w.heap.size<=b/\b∉Ai r2:=by
     intro z hz;rcases e4 with rfl|e4
     ·exact g5 z hz
     ·have:=e4 z hz;have:=k4.size;exact⟨by omega,λh2=>by have:=g2.lt z h2;omega⟩
    have yy:∀b∈rb y.sp,b∉Ai r2:=λz hz h2=>by have:=e5 z hz;have:=g2.lt z h2;omega
    have new:∀{b:Nat},b∉Ai r2->b<w8.heap.size->b∉Ai r':=λh1 h2 h3=>by
     rcases hb9 _ h3 with h'|h'
     ·exact h1 h'
     ·omega
    refine⟨l.length-(i+1),by omega,r,r',rs++[y],i+1,by rw[AK (by omega)],rfl,by omega,?_,h9,?_,?_,?_,?_,?_⟩
    ·rw[htk,Fq];exact e1'.keeps k9 (λb hb=>(rr b hb).2)
    ·rw[htk,Fq,List.map_append,g3];show _++[y.p]=_;rw[e2]
    ·intro z hz;rcases List.mem_append.1 hz with hz|hz
     ·obtain⟨q1,q2⟩:=g4 z hz;have q1':=A1.Ab q1 k48;exact⟨A1.keeps q1' k9 q2,λb hb=>new (q2 b hb) (q1'.lt b hb)⟩
     ·rw[List.mem_singleton]at hz;subst hz;exact⟨e3'.keeps k9 yy,λb hb=>new (yy b hb) (e3'.lt b hb)⟩
    ·intro b hb;exact⟨(rr b hb).1,new (rr b hb).2 (e1'.lt b hb)⟩
    ·intro b hb;rcases hb9 b hb with h'|h'
     ·exact g6 b h'
     ·have:=(Aj k4 k48).size;omega
    ·exact Ky (Aj k4 k48) k9 g6
   ·rw[decide_eq_false (by omega)];rw[List.take_of_length_le (by omega)]at g1 g3;exact k hmo ho r1 r2 rs w4 g1 g2 g3 (λx hx=>(g4 x hx).1) (λb hb=>(g5 b hb).1) k4
  ·rw[show(A9 l !=0)=true from by simpa using ho];exact k' _ _ (.inr ho) ho k02
 ·rw[show(e !=0)=true from by simpa using hm];exact k' _ _ (.inl λh=>hm (he.2 h)) hm k1
end Go.Proofs.YthkdehgfdllpoaaGreat
