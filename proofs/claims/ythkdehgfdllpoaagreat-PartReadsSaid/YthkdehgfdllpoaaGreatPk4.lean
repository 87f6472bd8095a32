/- The parts of the proof, 4: words of the program, and what they do. Conditions: none. -/
import Derived.Test.YthkdehgfdllpoaaGreatPk3
import Derived.Sort.LotD3
import Derived.Sort.LotA
import Derived.Sort.LotB
import Derived.Sort.LotC
import Derived.Sort.LotD1
import Derived.Lib.Bytealg
set_option maxRecDepth 100000
set_option linter.unusedVariables false
set_option linter.unusedSimpArgs false
namespace Go.Proofs.YthkdehgfdllpoaaGreat
open Go Go.Sx
def cU (l:List Int):List Value:=l.map (Value.int .u64)
theorem cU_len (l:List Int):(cU l).length=l.length:=by simp [cU]
theorem cU_one (l:List Int):∀ v∈cU l,v.oneCell'=true:=by simp [cU,Value.oneCell']
theorem cU_slen {w:World} {s:Sl} {l:List Int} (h:SlC w s 1 (cU l)):s.len=l.length:=by have:=h.len;rw [cU_len] at this;omega
abbrev Rw (w:World) (s:Sl) (d:Array Int):Prop:=SlC w s 1 (cU d.toList)
section
variable {w:World} {s:Sl} {d:Array Int} (h:Rw w s d)
include h
theorem Rw.rd {x:Int} {j:Nat} (hx:x=(j:Int)) (hj:j < d.size) {K:Int→Pr} (k:K d[j]! w):Ix s x 1 (fun a=>LdI .u64 a K) w:=by
 subst hx
 have hl:=cU_slen h
 rw [Array.length_toList] at hl
 obtain ⟨b,o,hp,_⟩:=h.base (by omega)
 rw [Ix_base hp (by omega) (by omega),Int.toNat_natCast,Nat.mul_one,LdI_c,h.read hp (by rw [cU_len,Array.length_toList];exact hj),cU,List.getElem?_map,Array.getElem?_toList,Array.getElem?_eq_getElem hj]
 simp only [Option.map_some,sx]
 rw [getElem!_pos d j hj] at k
 exact k
theorem Rw.wr {x:Int} {j:Nat} (hx:x=(j:Int)) (hj:j < d.size) (v:Int) {K:Pr} (k:∀ w',Rw w' s (d.setIfInBounds j v)→Keeps (blk s) w w'→K w'):Ix s x 1 (fun a=>St a (.int .u64 v) K) w:=by
 subst hx
 have hl:=cU_slen h
 rw [Array.length_toList] at hl
 obtain ⟨b,o,hp,hb⟩:=h.base (by omega)
 rw [Ix_base hp (by omega) (by omega),Int.toNat_natCast,Nat.mul_one]
 refine h.write hp (by rw [cU_len,Array.length_toList];exact hj) rfl ?_
 intro w' h1 h2
 refine k w' ?_ (by rw [hb];exact h2)
 unfold Rw
 rw [Array.toList_setIfInBounds,cU,List.map_set]
 exact h1
theorem Rw.keeps {w':World} (hk:Keeps [] w w'):Rw w' s d:=SlC.keeps h hk (by simp)
theorem Rw.dr:Rw w.drew s d:=Rw.keeps h ((Keeps.refl _ _).drew)
theorem Rw.sw {x y:Int} {i j:Nat} (hx:x=(i:Int)) (hy:y=(j:Int)) (hi:i < d.size) (hj:j < d.size) {K:Pr} (k:∀ w',Rw w' s (Sort.swp d i j)→Keeps (blk s) w w'→K w') :
  Dr (Ix s y 1 fun a3=>LdI .u64 a3 fun x4=>Ix s x 1 fun a5=>LdI .u64 a5 fun x6=>Ix s x 1 fun a7=>St a7 (.int .u64 x4) <| Ix s y 1 fun a8=>St a8 (.int .u64 x6) K) w:=by
 have hkd:Keeps [] w w.drew:=(Keeps.refl _ _).drew
 refine Rw.rd (w:=w.drew) (Rw.dr h) hy hj ?_
 refine Rw.rd (w:=w.drew) (Rw.dr h) hx hi ?_
 refine Rw.wr (w:=w.drew) (Rw.dr h) hx hi _ ?_
 intro w1 h1 k1
 refine Rw.wr h1 hy (by simpa using hj) _ ?_
 intro w2 h2 k2
 exact k w2 h2 (((hkd.mono (m':=blk s) (by simp)).trans k1 (fun _ hx=>.inl hx)).trans k2 (fun _ hx=>.inl hx))
end
theorem w64a {x y:Int} {i j:Nat} (hx:x=(i:Int)) (hy:y=(j:Int)) (h:i + j < 4611686018427387904):w64 (x + y)=((i + j:Nat):Int):=by subst hx hy;rw [w64_in (by omega) (by omega)];omega
theorem w64s {x y:Int} {i j:Nat} (hx:x=(i:Int)) (hy:y=(j:Int)) (h:j≤i) (h2:i < 4611686018427387904):w64 (x - y)=((i - j:Nat):Int):=by subst hx hy;rw [w64_in (by omega) (by omega)];omega
theorem w64p {i:Nat} (h:i < 4611686018427387904):w64 ((i:Int) + 1)=((i + 1:Nat):Int):=by rw [w64_in (by omega) (by omega)];omega
theorem w64m {i:Nat} (h:1≤i) (h2:i < 4611686018427387904):w64 ((i:Int) - 1)=((i - 1:Nat):Int):=by rw [w64_in (by omega) (by omega)];omega
abbrev lt:=Sort.ltInt
theorem Less_ok {w:World} (x y:Int):Cl Pg i_cmp_Less_uint64 [.int .u64 x,.int .u64 y] false [.sc .b] (fun r w'=>w=w'∧r.1=lt x y) w:=by
 have hn:∀ z:Int,∀ {K:TR [.sc .b]→Pr},K (false,()) w→Cl Pg i_cmp_isNaN_uint64 [.int .u64 z] false [.sc .b] K w:=fun z K h=>by
  apply cmp_isNaN_uint64_call
  unfold cmp_isNaN_uint64
  rw [show (z != z)=false from by simp]
  exact h
 refine Cl_gen fun R hR=>?_
 apply cmp_Less_uint64_call
 unfold cmp_Less_uint64
 refine hn x ?_
 exact hR _ _ ⟨rfl,rfl⟩
theorem size_swp (d:Array Int) (i j:Nat):(Sort.swp d i j).size=d.size:=Sort.size_swp d i j
theorem scan_loop {w:World} {A:(Bool × Unit→Pr)→Int × Unit→Pr} {K:Int × Unit→Pr} {stp:Int→Int} (Inv:Nat→World→Prop) (enc:Nat→Int) (cond:Nat→Bool) (nxt:Nat→Nat) (ms:Nat→Nat)
  (hc:∀ i w',Inv i w'→∀ J:Bool × Unit→Pr,(∀ w'',Inv i w''→J (cond i,()) w'')→A J (enc i,()) w')
  (hn:∀ i w',Inv i w'→cond i=true→stp (enc i)=enc (nxt i)∧ms (nxt i) < ms i∧Inv (nxt i) w')
  (he:∀ i w',Inv i w'→cond i=false→K (enc i,()) w') {i0:Nat} (h0:Inv i0 w) :
  Lp (σ:=Int × Unit) (fun L7 s8=>Jp (σ:=Bool × Unit) (fun s10=>Br s10.1 (L7 (stp s8.1,())) (K s8)) fun J9=>A J9 s8) (enc i0,()) w:=by
 refine ⟨fun m st w'=>∃ i,st=(enc i,())∧m=ms i∧Inv i w',⟨_,i0,rfl,rfl,h0⟩,?_⟩
 rintro _ _ w1 ⟨i,rfl,rfl,hI⟩
 refine Jp_of (fun st w'=>st=(cond i,())∧Inv i w') (fun J hJ=>hc i w1 hI J fun w'' h=>hJ _ _ ⟨rfl,h⟩) ?_
 rintro _ w2 ⟨rfl,hI2⟩
 cases hb:cond i with
 | true=>
  obtain ⟨h1,h2,h3⟩:=hn i w2 hI2 hb
  exact ⟨_,h2,nxt i,by rw [h1],rfl,h3⟩
 | false=>exact he i w2 hI2 hb
theorem insertion_ok {w:World} {s:Sl} {d:Array Int} (h:Rw w s d) {a b:Nat} (hb:b≤d.size) (hN:d.size≤65000) (hab:a≤b) :
  Cl Pg i_slices_insertionSortOrdered_uint64 [.slice s.p s.len s.cap,.int .i64 (a:Int),.int .i64 (b:Int)] true [] (fun _ w'=>Rw w' s (Sort.insertionSort lt d a b)∧Keeps (blk s) w w') w:=by
 refine Cl_gen fun R hR=>?_
 apply slices_insertionSortOrdered_uint64_call
 unfold slices_insertionSortOrdered_uint64
 rw [w64p (by omega)]
 refine ⟨fun m st w'=>∃ (i:Nat) (d':Array Int),st=((i:Int),())∧m=b + 1 - i∧a + 1≤i∧d'.size=d.size∧Sort.insOuter lt a b i d'=Sort.insOuter lt a b (a + 1) d∧Rw w' s d'∧Keeps (blk s) w w',⟨_,a + 1,d,rfl,rfl,Nat.le_refl _,rfl,rfl,h,Keeps.refl _ _⟩,?_⟩
 rintro _ _ w1 ⟨i,d1,rfl,rfl,hi,hz1,he1,hd1,hk1⟩
 dsimp only
 by_cases hib:i < b
 ·rw [decide_eq_true (by omega)]
  simp only [Br]
  rw [Sort.insOuter,if_pos hib] at he1
  refine ⟨fun m st w'=>∃ (j:Nat) (d':Array Int),st=((j:Int),())∧m=j∧j≤i∧d'.size=d.size∧Sort.insInner lt a j d'=Sort.insInner lt a i d1∧Rw w' s d'∧Keeps (blk s) w w',⟨_,i,d1,rfl,rfl,Nat.le_refl _,hz1,rfl,hd1,hk1⟩,?_⟩
  rintro j _ w2 ⟨_,d2,rfl,rfl,hj,hz2,he2,hd2,hk2⟩
  dsimp only
  have hkd:Keeps (blk s) w2 w2.drew:=(Keeps.refl _ _).drew
  refine Jp_of (fun st w'=>st=(decide (j > a) && lt d2[j]! d2[j - 1]!,())∧Rw w' s d2∧Keeps (blk s) w w') ?_ ?_
  ·intro J hJ
   simp only [Dr]
   by_cases hja:j > a
   ·rw [decide_eq_true (by omega)]
    rw [decide_eq_true hja,Bool.true_and] at hJ
    simp only [Br]
    rw [w64m (by omega) (by omega)]
    refine Rw.rd (w:=w2.drew) hd2.dr rfl (by omega) ?_
    refine Rw.rd (w:=w2.drew) hd2.dr rfl (by omega) ?_
    refine Cl.mono (Less_ok _ _) ?_
    rintro ⟨r,_⟩ _ ⟨rfl,hr⟩
    simp only at hr
    refine hJ _ _ ⟨by rw [hr],hd2.dr,hk2.trans hkd (fun _ hx=>.inl hx)⟩
   ·rw [decide_eq_false (by omega)]
    rw [decide_eq_false hja,Bool.false_and] at hJ
    exact hJ _ _ ⟨rfl,hd2.dr,hk2.trans hkd (fun _ hx=>.inl hx)⟩
  ·rintro _ w3 ⟨rfl,hd3,hk3⟩
   cases hc:(decide (j > a) && lt d2[j]! d2[j - 1]!) with
   | true=>
    simp only [Br]
    simp only [Bool.and_eq_true,decide_eq_true_eq] at hc
    obtain ⟨k,rfl⟩:∃ k,j=k + 1:=⟨j - 1,by omega⟩
    rw [Nat.add_sub_cancel] at hc
    rw [w64m (by omega) (by omega),Nat.add_sub_cancel]
    refine hd3.sw rfl rfl (by omega) (by omega) ?_
    intro w4 hd4 hk4
    refine ⟨k,by omega,k,_,rfl,rfl,by omega,by rw [size_swp];exact hz2,?_,hd4,hk3.trans hk4 (fun _ hx=>.inl hx)⟩
    rw [← he2,Sort.insInner,if_pos (by simp [hc])]
   | false=>
    simp only [Br]
    refine ⟨b + 1 - (i + 1),by omega,i + 1,d2,by rw [w64p (by omega)],rfl,by omega,hz2,?_,hd3,hk3⟩
    rw [← he1,← he2]
    cases j with
    | zero=>rfl
    | succ k=>
     rw [Nat.add_sub_cancel] at hc
     rw [Sort.insInner,if_neg (by rw [hc];simp)]
 ·rw [decide_eq_false (by omega)]
  rw [Sort.insOuter,if_neg hib] at he1
  refine hR _ _ ⟨?_,hk1⟩
  unfold Sort.insertionSort
  rw [← he1]
  exact hd1
theorem sift_ok {w:World} {s:Sl} {d:Array Int} (h:Rw w s d) {lo hi first:Nat} (hb:first + hi≤d.size) (hN:d.size≤65000) (hlo:lo≤hi) :
  Cl Pg i_slices_siftDownOrdered_uint64 [.slice s.p s.len s.cap,.int .i64 (lo:Int),.int .i64 (hi:Int),.int .i64 (first:Int)] true [] (fun _ w'=>Rw w' s (Sort.siftDown lt hi first lo d)∧Keeps (blk s) w w') w:=by
 refine Cl_gen fun R hR=>?_
 apply slices_siftDownOrdered_uint64_call
 unfold slices_siftDownOrdered_uint64
 refine ⟨fun m st w'=>∃ (root:Nat) (d':Array Int),st=((root:Int),())∧m=hi - root∧root≤hi∧d'.size=d.size∧Sort.siftDown lt hi first root d'=Sort.siftDown lt hi first lo d∧Rw w' s d'∧Keeps (blk s) w w',⟨_,lo,d,rfl,rfl,hlo,rfl,rfl,h,Keeps.refl _ _⟩,?_⟩
 rintro _ _ w1 ⟨root,d1,rfl,rfl,hr,hz1,he1,hd1,hk1⟩
 dsimp only
 have e2:w64 (2 * (root:Int))=((2 * root:Nat):Int):=by rw [w64_in (by omega) (by omega)];omega
 rw [e2,w64p (by omega),w64p (by omega)]
 by_cases hch:2 * root + 1 ≥ hi
 ·rw [decide_eq_true (by omega)]
  rw [Sort.siftDown,dif_pos hch] at he1
  simp only [Br]
  refine hR _ _ ⟨?_,hk1⟩
  rw [← he1]
  exact hd1
 ·rw [decide_eq_false (by omega)]
  simp only [Br]
  rw [Sort.siftDown,dif_neg hch] at he1
  have kt:∀ {a b c:World},Keeps (blk s) a b→Keeps (blk s) b c→Keeps (blk s) a c:=fun h k=>h.trans k (fun _ hx=>.inl hx)
  refine Jp_of (fun st w'=>∃ c:Nat,st=((c:Int),())∧(c=2 * root + 1∨c=2 * root + 2)∧c < hi∧Rw w' s d1∧Keeps (blk s) w w'∧(if !lt d1[first + root]! d1[first + c]! then d1 else Sort.siftDown lt hi first c (Sort.swp d1 (first + root) (first + c)))=Sort.siftDown lt hi first lo d) ?_ ?_
  ·intro J3 hJ3
   refine Jp_of (fun st w'=>st=(decide (2 * root + 1 + 1 < hi) && lt d1[first + (2 * root + 1)]! d1[first + (2 * root + 1) + 1]!,())∧Rw w' s d1∧Keeps (blk s) w w') ?_ ?_
   ·intro J hJ
    have hkd:Keeps (blk s) w1 w1.drew:=(Keeps.refl _ _).drew
    simp only [Dr]
    by_cases hc2:2 * root + 1 + 1 < hi
    ·rw [decide_eq_true (by omega)]
     rw [decide_eq_true hc2,Bool.true_and] at hJ
     simp only [Br]
     rw [w64a rfl rfl (by omega),w64p (by omega)]
     refine Rw.rd (w:=w1.drew) hd1.dr rfl (by omega) ?_
     refine Rw.rd (w:=w1.drew) hd1.dr rfl (by omega) ?_
     refine Cl.mono (Less_ok _ _) ?_
     rintro ⟨r,_⟩ _ ⟨rfl,hr⟩
     simp only at hr
     exact hJ _ _ ⟨by rw [hr],hd1.dr,kt hk1 hkd⟩
    ·rw [decide_eq_false (by omega)]
     rw [decide_eq_false hc2,Bool.false_and] at hJ
     exact hJ _ _ ⟨rfl,hd1.dr,kt hk1 hkd⟩
   ·rintro _ w2 ⟨rfl,hd2,hk2⟩
    cases hc:(decide (2 * root + 1 + 1 < hi) && lt d1[first + (2 * root + 1)]! d1[first + (2 * root + 1) + 1]!) with
    | true=>
     simp only [Br]
     rw [if_pos hc] at he1
     simp only [Bool.and_eq_true,decide_eq_true_eq] at hc
     refine hJ3 _ _ ⟨2 * root + 2,rfl,.inr rfl,by omega,hd2,hk2,?_⟩
     rw [← he1,dif_pos (show 2 * root + 2 < hi by omega)]
    | false=>
     simp only [Br]
     rw [if_neg (by rw [hc];simp)] at he1
     exact hJ3 _ _ ⟨2 * root + 1,rfl,.inl rfl,by omega,hd2,hk2,he1⟩
  ·rintro _ w2 ⟨c,rfl,hc12,hci,hd2,hk2,he2⟩
   simp only [Dr]
   rw [w64a rfl rfl (by omega),w64a rfl rfl (by omega)]
   have hkd:Keeps (blk s) w2 w2.drew:=(Keeps.refl _ _).drew
   refine Rw.rd (w:=w2.drew) hd2.dr rfl (by omega) ?_
   refine Rw.rd (w:=w2.drew) hd2.dr rfl (by omega) ?_
   refine Cl.mono (Less_ok _ _) ?_
   rintro ⟨r,_⟩ _ ⟨rfl,hr⟩
   simp only at hr
   cases hl:lt d1[first + root]! d1[first + c]! with
   | false=>
    rw [hl] at hr he2
    subst hr
    simp only [Bool.not_false,Br]
    refine hR _ _ ⟨?_,kt hk2 hkd⟩
    rw [← he2]
    exact hd2.dr
   | true=>
    rw [hl] at hr he2
    subst hr
    simp only [Bool.not_true,Br]
    refine Rw.sw (w:=w2.drew) hd2.dr rfl rfl (by omega) (by omega) ?_
    intro w3 hd3 hk3
    exact ⟨hi - c,by omega,c,_,rfl,rfl,by omega,by rw [size_swp];exact hz1,by simpa using he2,hd3,kt (kt hk2 hkd) hk3⟩
theorem sift_size (hi first:Nat):∀ (n root:Nat) (d:Array Int),hi - root≤n→(Sort.siftDown lt hi first root d).size=d.size
 | n,root,d,hn=>by
  rw [Sort.siftDown]
  split
  ·rfl
  ·rename_i h1
   split
   ·split
    ·rfl
    ·split
     ·cases n with
      | zero=>omega
      | succ n=>rw [sift_size hi first n _ _ (by omega),size_swp]
     ·rfl
   ·split
    ·rfl
    ·cases n with
     | zero=>omega
     | succ n=>rw [sift_size hi first n _ _ (by omega),size_swp]
theorem heapSort_ok {w:World} {s:Sl} {d:Array Int} (h:Rw w s d) {a b:Nat} (hb:b≤d.size) (hN:d.size≤65000) (hab:a < b) :
  Cl Pg i_slices_heapSortOrdered_uint64 [.slice s.p s.len s.cap,.int .i64 (a:Int),.int .i64 (b:Int)] true [] (fun _ w'=>Rw w' s (Sort.heapSort lt d a b)∧Keeps (blk s) w w') w:=by
 refine Cl_gen fun R hR=>?_
 have kt:∀ {a b c:World},Keeps (blk s) a b→Keeps (blk s) b c→Keeps (blk s) a c:=fun h k=>h.trans k (fun _ hx=>.inl hx)
 apply slices_heapSortOrdered_uint64_call
 unfold slices_heapSortOrdered_uint64
 refine ⟨by decide,?_⟩
 rw [w64s rfl rfl (by omega) (by omega)]
 rw [w64m (i:=b - a) (by omega) (by omega)]
 have e2:w64 ((((b - a - 1:Nat):Int)).tdiv 2)=(((b - a - 1) / 2:Nat):Int):=by
  rw [show ((b - a - 1:Nat):Int).tdiv 2=(((b - a - 1) / 2:Nat):Int) from tdiv_nat _ 2]
  exact w64_nat (by omega)
 rw [e2]
 refine ⟨fun m st w'=>∃ (k:Nat) (d':Array Int),st=((k:Int) - 1,())∧m=k∧k≤(b - a - 1) / 2 + 1∧d'.size=d.size∧Sort.heapBuild lt (b - a) a k d'=Sort.heapBuild lt (b - a) a ((b - a - 1) / 2 + 1) d∧Rw w' s d'∧Keeps (blk s) w w',⟨_,(b - a - 1) / 2 + 1,d,by simp,rfl,Nat.le_refl _,rfl,rfl,h,Keeps.refl _ _⟩,?_⟩
 rintro k _ w1 ⟨_,d1,rfl,rfl,hk,hz1,he1,hd1,hk1⟩
 dsimp only
 cases k with
 | succ k=>
  rw [decide_eq_true (by omega)]
  simp only [Br]
  rw [show ((k + 1:Nat):Int) - 1=(k:Int) from by omega]
  refine Cl.mono (sift_ok hd1 (lo:=k) (hi:=b - a) (first:=a) (by omega) (by omega) (by omega)) ?_
  rintro _ w2 ⟨hd2,hk2⟩
  refine ⟨k,by omega,k,_,by rw [w64_in (by omega) (by omega)],rfl,by omega,by rw [sift_size (b - a) a _ _ _ (Nat.le_refl _)];exact hz1,?_,hd2,kt hk1 hk2⟩
  rw [← he1]
  rfl
 | zero=>
  rw [decide_eq_false (by omega)]
  simp only [Br]
  have hd0:Sort.heapBuild lt (b - a) a ((b - a - 1) / 2 + 1) d=d1:=by rw [← he1];rfl
  refine ⟨fun m st w'=>∃ (k:Nat) (d':Array Int),st=((k:Int) - 1,())∧m=k∧k≤b - a∧d'.size=d.size∧Sort.heapPop lt a k d'=Sort.heapPop lt a (b - a) d1∧Rw w' s d'∧Keeps (blk s) w w',⟨_,b - a,d1,by congr 1;omega,rfl,Nat.le_refl _,hz1,rfl,hd1,hk1⟩,?_⟩
  rintro k _ w2 ⟨_,d2,rfl,rfl,hk,hz2,he2,hd2,hk2⟩
  dsimp only
  cases k with
  | succ k=>
   rw [decide_eq_true (by omega)]
   simp only [Br]
   rw [show ((k + 1:Nat):Int) - 1=(k:Int) from by omega,w64a rfl rfl (by omega)]
   refine Rw.sw hd2 rfl rfl (by omega) (by omega) ?_
   intro w3 hd3 hk3
   refine Cl.mono (sift_ok hd3 (lo:=0) (hi:=k) (first:=a) (by rw [size_swp];omega) (by rw [size_swp];omega) (by omega)) ?_
   rintro _ w4 ⟨hd4,hk4⟩
   refine ⟨k,by omega,k,_,by rw [w64_in (by omega) (by omega)],rfl,by omega,by rw [sift_size k a _ _ _ (Nat.le_refl _),size_swp];exact hz2,?_,hd4,kt (kt hk2 hk3) hk4⟩
   rw [← he2]
   rfl
  | zero=>
   rw [decide_eq_false (by omega)]
   refine hR _ _ ⟨?_,hk2⟩
   unfold Sort.heapSort
   rw [hd0,← he2]
   exact hd2
theorem reverse_ok {w:World} {s:Sl} {d:Array Int} (h:Rw w s d) {a b:Nat} (hb:b≤d.size) (hN:d.size≤65000) (hab:a < b) :
  Cl Pg i_slices_reverseRangeOrdered_uint64 [.slice s.p s.len s.cap,.int .i64 (a:Int),.int .i64 (b:Int)] true [] (fun _ w'=>Rw w' s (Sort.reverseRange d a b)∧Keeps (blk s) w w') w:=by
 refine Cl_gen fun R hR=>?_
 have kt:∀ {a b c:World},Keeps (blk s) a b→Keeps (blk s) b c→Keeps (blk s) a c:=fun h k=>h.trans k (fun _ hx=>.inl hx)
 apply slices_reverseRangeOrdered_uint64_call
 unfold slices_reverseRangeOrdered_uint64
 rw [w64m (by omega) (by omega)]
 refine ⟨fun m st w'=>∃ (i j:Nat) (d':Array Int),st=((i:Int),(j:Int),())∧m=j - i∧j < b∧d'.size=d.size∧Sort.reverseLoop i j d'=Sort.reverseLoop a (b - 1) d∧Rw w' s d'∧Keeps (blk s) w w',⟨_,a,b - 1,d,rfl,rfl,by omega,rfl,rfl,h,Keeps.refl _ _⟩,?_⟩
 rintro _ _ w1 ⟨i,j,d1,rfl,rfl,hj,hz1,he1,hd1,hk1⟩
 dsimp only
 rw [Sort.reverseLoop] at he1
 by_cases hij:i < j
 ·rw [decide_eq_true (by omega)]
  simp only [Br]
  rw [if_pos hij] at he1
  refine Rw.sw hd1 rfl rfl (by omega) (by omega) ?_
  intro w2 hd2 hk2
  exact ⟨j - 1 - (i + 1),by omega,i + 1,j - 1,_,by rw [w64p (by omega),w64m (by omega) (by omega)],rfl,by omega,by rw [size_swp];exact hz1,he1,hd2,kt hk1 hk2⟩
 ·rw [decide_eq_false (by omega)]
  rw [if_neg hij] at he1
  refine hR _ _ ⟨?_,hk1⟩
  unfold Sort.reverseRange
  rw [← he1]
  exact hd1
end Go.Proofs.YthkdehgfdllpoaaGreat
set_option linter.unusedVariables false
set_option linter.unusedSimpArgs false
namespace Go.Proofs.YthkdehgfdllpoaaGreat
open Go Go.Sx
theorem kt {s:Sl} {a b c:World} (h:Keeps (blk s) a b) (k:Keeps (blk s) b c):Keeps (blk s) a c:=h.trans k (fun _ hx=>.inl hx)
theorem up_loop {w w0:World} {s:Sl} {d:Array Int} (hN:d.size≤65000) (hd:Rw w s d) (hk0:Keeps (blk s) w0 w) (p:Int→Bool) {j i0:Nat} (hj:j < d.size) {A:(Bool × Unit→Pr)→Int × Unit→Pr} {K:Int × Unit→Pr}
  (hA:∀ (i:Nat) (w1:World) (J:Bool × Unit→Pr),Rw w1 s d→i≤65001→(∀ w2,Rw w2 s d→Keeps (blk s) w1 w2→J (decide (i≤j) && p d[i]!,()) w2)→A J ((i:Int),()) w1)
  (hi0:i0≤65001) (hK:∀ w1,Rw w1 s d→Keeps (blk s) w0 w1→K ((Sort.scanUp p d j i0:Int),()) w1) :
  Lp (σ:=Int × Unit) (fun L7 s8=>Jp (σ:=Bool × Unit) (fun s10=>Br s10.1 (L7 (w64 (s8.1 + 1),())) (K s8)) fun J9=>A J9 s8) ((i0:Int),()) w:=by
 refine scan_loop (stp:=fun x=>w64 (x + 1)) (fun i w'=>i≤65001∧Sort.scanUp p d j i=Sort.scanUp p d j i0∧Rw w' s d∧Keeps (blk s) w0 w') (fun i=>(i:Int)) (fun i=>decide (i≤j) && p d[i]!) (fun i=>i + 1) (fun i=>j + 1 - i) ?_ ?_ ?_ ⟨hi0,rfl,hd,hk0⟩
 ·rintro i w1 ⟨h1,h2,h3,h4⟩ J hJ
  exact hA i w1 J h3 h1 fun w2 h5 h6=>hJ w2 ⟨h1,h2,h5,kt h4 h6⟩
 ·rintro i w1 ⟨h1,h2,h3,h4⟩ hc
  have hij:i≤j:=by simp at hc;exact hc.1
  refine ⟨w64p (by omega),by omega,by omega,?_,h3,h4⟩
  rw [← h2]
  conv=>rhs;rw [Sort.scanUp,if_pos hc]
 ·rintro i w1 ⟨h1,h2,h3,h4⟩ hc
  have:Sort.scanUp p d j i=i:=by rw [Sort.scanUp,if_neg (by rw [hc];simp)]
  rw [this] at h2
  rw [h2]
  exact hK w1 h3 h4
theorem down_loop {w w0:World} {s:Sl} {d:Array Int} (hN:d.size≤65000) (hd:Rw w s d) (hk0:Keeps (blk s) w0 w) (p:Int→Bool) {i j0:Nat} (hi:1≤i) (hj:j0 < d.size) {A:(Bool × Unit→Pr)→Int × Unit→Pr} {K:Int × Unit→Pr}
  (hA:∀ (j:Nat) (w1:World) (J:Bool × Unit→Pr),Rw w1 s d→j < d.size→(∀ w2,Rw w2 s d→Keeps (blk s) w1 w2→J (decide (i≤j) && p d[j]!,()) w2)→A J ((j:Int),()) w1)
  (hK:∀ w1,Rw w1 s d→Keeps (blk s) w0 w1→K ((Sort.scanDown p d i j0:Int),()) w1) :
  Lp (σ:=Int × Unit) (fun L7 s8=>Jp (σ:=Bool × Unit) (fun s10=>Br s10.1 (L7 (w64 (s8.1 - 1),())) (K s8)) fun J9=>A J9 s8) ((j0:Int),()) w:=by
 refine scan_loop (stp:=fun x=>w64 (x - 1)) (fun j w'=>j < d.size∧Sort.scanDown p d i j=Sort.scanDown p d i j0∧Rw w' s d∧Keeps (blk s) w0 w') (fun j=>(j:Int)) (fun j=>decide (i≤j) && p d[j]!) (fun j=>j - 1) (fun j=>j) ?_ ?_ ?_ ⟨hj,rfl,hd,hk0⟩
 ·rintro j w1 ⟨h1,h2,h3,h4⟩ J hJ
  exact hA j w1 J h3 h1 fun w2 h5 h6=>hJ w2 ⟨h1,h2,h5,kt h4 h6⟩
 ·rintro j w1 ⟨h1,h2,h3,h4⟩ hc
  have hij:i≤j:=by simp at hc;exact hc.1
  obtain ⟨k,rfl⟩:∃ k,j=k + 1:=⟨j - 1,by omega⟩
  refine ⟨w64m (by omega) (by omega),by simp,by simp;omega,?_,h3,h4⟩
  rw [← h2]
  conv=>rhs;rw [Sort.scanDown,if_pos hc]
  rfl
 ·rintro j w1 ⟨h1,h2,h3,h4⟩ hc
  have:Sort.scanDown p d i j=j:=by
   cases j with
   | zero=>rfl
   | succ k=>rw [Sort.scanDown,if_neg (by rw [hc];simp)]
  rw [this] at h2
  rw [h2]
  exact hK w1 h3 h4
theorem test_ok {w:World} {s:Sl} {d:Array Int} (hd:Rw w s d) {c:Bool} {x y:Int} {i j:Nat} {J:Bool × Unit→Pr} (f:Bool→Bool) {b:Bool} (hx:x=(i:Int)) (hy:y=(j:Int)) (hi:c=true→i < d.size) (hj:c=true→j < d.size) (hb:(c && f (lt d[i]! d[j]!))=b)
  (hJ:∀ w2,Rw w2 s d→Keeps (blk s) w w2→J (b,()) w2) :
  Dr (Br c (Ix s x 1 fun a64=>LdI .u64 a64 fun x65=>Ix s y 1 fun a66=>LdI .u64 a66 fun x67=>Cl Pg i_cmp_Less_uint64 [(.int .u64 x65),(.int .u64 x67)] false [.sc .b] fun r68=>J (f r68.1,())) (J (false,()))) w:=by
 have hkd:Keeps (blk s) w w.drew:=(Keeps.refl _ _).drew
 simp only [Dr]
 cases c with
 | false=>
  rw [Bool.false_and] at hb
  subst hb
  exact hJ _ hd.dr hkd
 | true=>
  rw [Bool.true_and] at hb
  refine Rw.rd (w:=w.drew) hd.dr hx (hi rfl) ?_
  refine Rw.rd (w:=w.drew) hd.dr hy (hj rfl) ?_
  refine Cl.mono (Less_ok _ _) ?_
  rintro ⟨r,_⟩ _ ⟨rfl,hr⟩
  simp only at hr
  rw [hr]
  subst hb
  exact hJ _ hd.dr hkd
theorem partition_ok {w:World} {s:Sl} {d:Array Int} (h:Rw w s d) {a b pivot:Nat} (hb:b≤d.size) (hN:d.size≤65000) (hap:a≤pivot) (hpb:pivot < b) :
  Cl Pg i_slices_partitionOrdered_uint64 [.slice s.p s.len s.cap,.int .i64 (a:Int),.int .i64 (b:Int),.int .i64 (pivot:Int)] true [.sc (.i .i64),.sc .b]
   (fun r w'=>r.1=((Sort.partition lt d a b pivot).1:Int)∧Rw w' s (Sort.partition lt d a b pivot).2.2∧Keeps (blk s) w w') w:=by
 refine Cl_gen fun R hR=>?_
 apply slices_partitionOrdered_uint64_call
 unfold slices_partitionOrdered_uint64
 refine Rw.sw h rfl rfl (by omega) (by omega) ?_
 intro w1 hd1 hk1
 unfold Sort.partition at hR
 simp only at hR
 generalize hd:Sort.swp d a pivot=d1 at hd1 hR
 have hz1:d1.size=d.size:=by rw [← hd,size_swp]
 rw [w64m (by omega) (by omega),w64p (by omega)]
 refine up_loop (by omega) hd1 hk1 (fun x=>lt x d1[a]!) (j:=b - 1) (by omega) ?_ (by omega) ?_
 ·intro i w2 J h2 hi hJ
  exact test_ok h2 (fun b=>b) rfl rfl (by simp;omega) (by simp;omega) (by congr 1;exact decide_eq_decide.2 (by omega)) hJ
 intro w2 hd2 hk2
 generalize hi2:Sort.scanUp (fun x=>lt x d1[a]!) d1 (b - 1) (a + 1)=i2 at hR
 have hi2a:a + 1≤i2:=by rw [← hi2];exact Sort.scanUp_ge _ _ _ _
 refine down_loop (by omega) hd2 hk2 (fun x=>!lt x d1[a]!) (i:=i2) (by omega) (by omega) ?_ ?_
 ·intro j w3 J h3 hj hJ
  exact test_ok h3 (fun b=>!b) rfl rfl (by simp;omega) (by simp;omega) (by congr 1;exact decide_eq_decide.2 (by omega)) hJ
 intro w3 hd3 hk3
 generalize hj2:Sort.scanDown (fun x=>!lt x d1[a]!) d1 i2 (b - 1)=j2 at hR
 have hj2b:j2≤b - 1:=by rw [← hj2];exact Sort.scanDown_le _ _ _ _
 by_cases hij:i2 > j2
 ·rw [decide_eq_true (by omega)]
  simp only [if_pos hij] at hR
  simp only [Br]
  refine Rw.sw hd3 rfl rfl (by omega) (by omega) ?_
  intro w4 hd4 hk4
  exact hR _ _ ⟨rfl,hd4,kt hk3 hk4⟩
 ·rw [decide_eq_false (by omega)]
  simp only [if_neg hij] at hR
  simp only [Br]
  refine Rw.sw hd3 rfl rfl (by omega) (by omega) ?_
  intro w4 hd4 hk4
  generalize hdd:Sort.swp d1 i2 j2=d2 at hd4 hR
  have hz2:d2.size=d.size:=by rw [← hdd,size_swp];exact hz1
  rw [w64p (by omega),w64m (by omega) (by omega)]
  have hk04:=kt hk3 hk4
  refine ⟨fun m st w'=>∃ (i j:Nat) (d':Array Int),st=((i:Int),(j:Int),())∧m=j + 1 - i∧a < i∧i≤65001∧j < b∧d'.size=d.size∧Sort.partLoop lt a i j d'=Sort.partLoop lt a (i2 + 1) (j2 - 1) d2∧Rw w' s d'∧Keeps (blk s) w w',⟨_,i2 + 1,j2 - 1,d2,rfl,rfl,by omega,by omega,by omega,hz2,rfl,hd4,hk04⟩,?_⟩
  rintro _ _ w5 ⟨i,j,e1,rfl,rfl,hai,hi65,hjb,hze,hpe,he5,hk5⟩
  dsimp only
  rw [Sort.partLoop_eq] at hpe
  refine up_loop (by omega) he5 hk5 (fun x=>lt x e1[a]!) (j:=j) (by omega) ?_ (by omega) ?_
  ·intro i w2 J h2 hi hJ
   exact test_ok h2 (fun b=>b) rfl rfl (by simp;omega) (by simp;omega) (by congr 1;exact decide_eq_decide.2 (by omega)) hJ
  intro w6 he6 hk6
  generalize hi3:Sort.scanUp (fun x=>lt x e1[a]!) e1 j i=i3 at hpe
  have hi3a:i≤i3:=by rw [← hi3];exact Sort.scanUp_ge _ _ _ _
  refine down_loop (by omega) he6 hk6 (fun x=>!lt x e1[a]!) (i:=i3) (by omega) (by omega) ?_ ?_
  ·intro j w3 J h3 hj hJ
   exact test_ok h3 (fun b=>!b) rfl rfl (by simp;omega) (by simp;omega) (by congr 1;exact decide_eq_decide.2 (by omega)) hJ
  intro w7 he7 hk7
  generalize hj3:Sort.scanDown (fun x=>!lt x e1[a]!) e1 i3 j=j3 at hpe
  have hj3b:j3≤j:=by rw [← hj3];exact Sort.scanDown_le _ _ _ _
  by_cases hij3:i3 > j3
  ·rw [decide_eq_true (by omega)]
   rw [if_pos hij3] at hpe
   simp only [Br]
   refine Rw.sw he7 rfl rfl (by omega) (by omega) ?_
   intro w8 he8 hk8
   rw [← hpe] at hR
   exact hR _ _ ⟨rfl,he8,kt hk7 hk8⟩
  ·rw [decide_eq_false (by omega)]
   rw [if_neg hij3] at hpe
   simp only [Br]
   refine Rw.sw he7 rfl rfl (by omega) (by omega) ?_
   intro w8 he8 hk8
   rw [w64p (by omega),w64m (by omega) (by omega)]
   exact ⟨(j3 - 1) + 1 - (i3 + 1),by omega,i3 + 1,j3 - 1,_,rfl,rfl,by omega,by omega,by omega,by rw [size_swp];exact hze,hpe,he8,kt hk7 hk8⟩
theorem partitionEqual_ok {w:World} {s:Sl} {d:Array Int} (h:Rw w s d) {a b pivot:Nat} (hb:b≤d.size) (hN:d.size≤65000) (hap:a≤pivot) (hpb:pivot < b) :
  Cl Pg i_slices_partitionEqualOrdered_uint64 [.slice s.p s.len s.cap,.int .i64 (a:Int),.int .i64 (b:Int),.int .i64 (pivot:Int)] false [.sc (.i .i64)]
   (fun r w'=>r.1=((Sort.partitionEqual lt d a b pivot).1:Int)∧Rw w' s (Sort.partitionEqual lt d a b pivot).2∧Keeps (blk s) w w') w:=by
 refine Cl_gen fun R hR=>?_
 apply slices_partitionEqualOrdered_uint64_call
 unfold slices_partitionEqualOrdered_uint64
 refine Rw.sw h rfl rfl (by omega) (by omega) ?_
 intro w1 hd1 hk1
 unfold Sort.partitionEqual at hR
 generalize hd:Sort.swp d a pivot=d1 at hd1 hR
 have hz1:d1.size=d.size:=by rw [← hd,size_swp]
 rw [w64m (by omega) (by omega),w64p (by omega)]
 refine ⟨fun m st w'=>∃ (i j:Nat) (d':Array Int),st=((i:Int),(j:Int),())∧m=j + 1 - i∧a < i∧i≤65001∧j < b∧d'.size=d.size∧Sort.partEqLoop lt a i j d'=Sort.partEqLoop lt a (a + 1) (b - 1) d1∧Rw w' s d'∧Keeps (blk s) w w',⟨_,a + 1,b - 1,d1,rfl,rfl,by omega,by omega,by omega,hz1,rfl,hd1,hk1⟩,?_⟩
 rintro _ _ w5 ⟨i,j,e1,rfl,rfl,hai,hi65,hjb,hze,hpe,he5,hk5⟩
 dsimp only
 rw [Sort.partEqLoop_eq] at hpe
 refine up_loop (by omega) he5 hk5 (fun x=>!lt e1[a]! x) (j:=j) (by omega) ?_ (by omega) ?_
 ·intro i w2 J h2 hi hJ
  exact test_ok h2 (fun b=>!b) rfl rfl (by simp;omega) (by simp;omega) (by congr 1;exact decide_eq_decide.2 (by omega)) hJ
 intro w6 he6 hk6
 generalize hi3:Sort.scanUp (fun x=>!lt e1[a]! x) e1 j i=i3 at hpe
 have hi3a:i≤i3:=by rw [← hi3];exact Sort.scanUp_ge _ _ _ _
 refine down_loop (by omega) he6 hk6 (fun x=>lt e1[a]! x) (i:=i3) (by omega) (by omega) ?_ ?_
 ·intro j w3 J h3 hj hJ
  exact test_ok h3 (fun b=>b) rfl rfl (by simp;omega) (by simp;omega) (by congr 1;exact decide_eq_decide.2 (by omega)) hJ
 intro w7 he7 hk7
 generalize hj3:Sort.scanDown (fun x=>lt e1[a]! x) e1 i3 j=j3 at hpe
 have hj3b:j3≤j:=by rw [← hj3];exact Sort.scanDown_le _ _ _ _
 by_cases hij3:i3 > j3
 ·rw [decide_eq_true (by omega)]
  rw [if_pos hij3] at hpe
  rw [← hpe] at hR
  exact hR _ _ ⟨rfl,he7,hk7⟩
 ·rw [decide_eq_false (by omega)]
  rw [if_neg hij3] at hpe
  simp only [Br]
  refine Rw.sw he7 rfl rfl (by omega) (by omega) ?_
  intro w8 he8 hk8
  rw [w64p (by omega),w64m (by omega) (by omega)]
  exact ⟨(j3 - 1) + 1 - (i3 + 1),by omega,i3 + 1,j3 - 1,_,rfl,rfl,by omega,by omega,by omega,by rw [size_swp];exact hze,hpe,he8,kt hk7 hk8⟩
theorem partialInsertion_ok {w:World} {s:Sl} {d:Array Int} (h:Rw w s d) {a b:Nat} (hb:b≤d.size) (hN:d.size≤65000) (hab:a < b) :
  Cl Pg i_slices_partialInsertionSortOrdered_uint64 [.slice s.p s.len s.cap,.int .i64 (a:Int),.int .i64 (b:Int)] false [.sc .b]
   (fun r w'=>r.1=(Sort.partialInsertionSort lt d a b).2∧Rw w' s (Sort.partialInsertionSort lt d a b).1∧Keeps (blk s) w w') w:=by
 refine Cl_gen fun R hR=>?_
 apply slices_partialInsertionSortOrdered_uint64_call
 unfold slices_partialInsertionSortOrdered_uint64
 rw [w64p (by omega)]
 unfold Sort.partialInsertionSort at hR
 refine ⟨fun m st w'=>∃ (i t:Nat) (d':Array Int),st=(false,(i:Int),((5 - t:Nat):Int),())∧m=t∧t≤5∧a + 1≤i∧i≤b∧d'.size=d.size∧Sort.partialIns lt a b t i d'=Sort.partialIns lt a b 5 (a + 1) d∧Rw w' s d'∧Keeps (blk s) w w',⟨_,a + 1,5,d,rfl,rfl,Nat.le_refl _,Nat.le_refl _,by omega,rfl,rfl,h,Keeps.refl _ _⟩,?_⟩
 rintro t _ w1 ⟨i,_,d1,rfl,rfl,ht,hai,hib,hz1,he1,hd1,hk1⟩
 dsimp only
 cases t with
 | zero=>
  rw [decide_eq_false (by omega)]
  refine hR _ _ ⟨?_,?_,hk1⟩
  ·rw [← he1];rfl
  ·rw [← he1];exact hd1
 | succ t=>
  rw [decide_eq_true (by omega)]
  simp only [Br]
  rw [Sort.partialIns] at he1
  refine Jp_of (fun st w'=>∃ (i':Nat) (d':Array Int),st=(false,(i':Int),())∧a + 1≤i'∧i'≤b∧d'.size=d.size∧Sort.partialIns lt a b t i' d'=Sort.partialIns lt a b 5 (a + 1) d∧Rw w' s d'∧Keeps (blk s) w w') ?_ ?_
  ·intro J3 hJ3
   refine scan_loop (stp:=fun x=>w64 (x + 1)) (fun k w'=>i≤k∧k≤b∧Sort.scanSorted lt d1 b k=Sort.scanSorted lt d1 b i∧Rw w' s d1∧Keeps (blk s) w w') (fun k=>(k:Int)) (fun k=>decide (k < b) && !lt d1[k]! d1[k - 1]!) (fun k=>k + 1) (fun k=>b - k) ?_ ?_ ?_ ⟨Nat.le_refl _,hib,rfl,hd1,hk1⟩
   ·rintro k w2 ⟨h1,h2,h3,h4,h5⟩ J hJ
    rw [w64m (by omega) (by omega)]
    exact test_ok h4 (fun b=>!b) rfl rfl (by simp;omega) (by simp;omega) (by congr 1;exact decide_eq_decide.2 (by omega)) fun w3 h6 h7=>hJ w3 ⟨h1,h2,h3,h6,kt h5 h7⟩
   ·rintro k w2 ⟨h1,h2,h3,h4,h5⟩ hc
    have hkb:k < b:=by simp at hc;exact hc.1
    refine ⟨w64p (by omega),by omega,by omega,by omega,?_,h4,h5⟩
    rw [← h3]
    conv=>rhs;rw [Sort.scanSorted,if_pos hc]
   ·rintro k w2 ⟨h1,h2,h3,h4,h5⟩ hc
    have hk:Sort.scanSorted lt d1 b k=k:=by rw [Sort.scanSorted,if_neg (by rw [hc];simp)]
    rw [hk] at h3
    simp only [← h3] at he1
    by_cases hkb:k=b
    ·rw [show (((k:Int)) == (b:Int))=true from by simp [hkb]]
     rw [if_pos hkb] at he1
     rw [← he1] at hR
     exact hR _ _ ⟨rfl,h4,h5⟩
    ·rw [show (((k:Int)) == (b:Int))=false from by simp;omega]
     rw [if_neg hkb] at he1
     simp only [Br]
     rw [w64s rfl rfl (by omega) (by omega)]
     by_cases h50:b - a < 50
     ·rw [decide_eq_true (by omega)]
      rw [if_pos h50] at he1
      rw [← he1] at hR
      exact hR _ _ ⟨rfl,h4,h5⟩
     ·rw [decide_eq_false (by omega)]
      rw [if_neg h50] at he1
      simp only [Br]
      rw [w64m (by omega) (by omega)]
      refine Rw.sw h4 rfl rfl (by omega) (by omega) ?_
      intro w3 hd3 hk3
      generalize hdd:Sort.swp d1 k (k - 1)=d2 at hd3 he1
      have hz2:d2.size=d.size:=by rw [← hdd,size_swp];exact hz1
      refine Jp_of (fun _ w'=>∃ d3,d3.size=d.size∧(if k - a ≥ 2 then Sort.shiftDown lt (k - 1) d2 else d2)=d3∧Rw w' s d3∧Keeps (blk s) w w') ?_ ?_
      ·intro J15 hJ15
       rw [w64s rfl rfl (by omega) (by omega)]
       by_cases hka:k - a ≥ 2
       ·rw [decide_eq_true (by omega)]
        rw [if_pos hka] at hJ15
        simp only [Br]
        refine ⟨fun m st w'=>∃ (j:Nat) (d':Array Int),st=((j:Int),())∧m=j∧j < b∧d'.size=d.size∧Sort.shiftDown lt j d'=Sort.shiftDown lt (k - 1) d2∧Rw w' s d'∧Keeps (blk s) w w',⟨_,k - 1,d2,rfl,rfl,by omega,hz2,rfl,hd3,kt h5 hk3⟩,?_⟩
        rintro j _ w4 ⟨_,d3,rfl,rfl,hjb,hz3,hs3,hd4,hk4⟩
        dsimp only
        cases j with
        | zero=>
         rw [decide_eq_false (by omega)]
         exact hJ15 _ _ ⟨d3,hz3,hs3.symm,hd4,hk4⟩
        | succ j=>
         rw [decide_eq_true (by omega)]
         simp only [Br,Dr]
         rw [w64m (by omega) (by omega),Nat.add_sub_cancel]
         have hkd:Keeps (blk s) w4 w4.drew:=(Keeps.refl _ _).drew
         refine Rw.rd (w:=w4.drew) hd4.dr rfl (by omega) ?_
         refine Rw.rd (w:=w4.drew) hd4.dr rfl (by omega) ?_
         refine Cl.mono (Less_ok _ _) ?_
         rintro ⟨r,_⟩ _ ⟨rfl,hr⟩
         simp only at hr
         rw [Sort.shiftDown] at hs3
         cases hl:lt d3[j + 1]! d3[j]! with
         | false=>
          rw [hl] at hr hs3
          subst hr
          exact hJ15 _ _ ⟨d3,hz3,by rw [← hs3];rfl,hd4.dr,kt hk4 hkd⟩
         | true=>
          rw [hl] at hr hs3
          subst hr
          simp only [Bool.not_true]
          refine Rw.sw (w:=w4.drew) hd4.dr rfl rfl (by omega) (by omega) ?_
          intro w5 hd5 hk5
          exact ⟨j,by omega,j,_,rfl,rfl,by omega,by rw [size_swp];exact hz3,by simpa using hs3,hd5,kt (kt hk4 hkd) hk5⟩
       ·rw [decide_eq_false (by omega)]
        rw [if_neg hka] at hJ15
        exact hJ15 _ _ ⟨d2,hz2,rfl,hd3,kt h5 hk3⟩
      ·rintro _ w4 ⟨d3,hz3,hs3,hd4,hk4⟩
       simp only [hs3] at he1
       rw [w64s rfl rfl (by omega) (by omega)]
       by_cases hkb2:b - k ≥ 2
       ·rw [decide_eq_true (by omega)]
        rw [if_pos hkb2] at he1
        simp only [Br]
        rw [w64p (by omega)]
        refine ⟨fun m st w'=>∃ (j:Nat) (d':Array Int),st=((j:Int),())∧m=b - j∧k + 1≤j∧j≤b∧d'.size=d.size∧Sort.shiftUp lt b j d'=Sort.shiftUp lt b (k + 1) d3∧Rw w' s d'∧Keeps (blk s) w w',⟨_,k + 1,d3,rfl,rfl,by omega,by omega,hz3,rfl,hd4,hk4⟩,?_⟩
        rintro _ _ w5 ⟨j,d4,rfl,rfl,hkj,hjb,hz4,hs4,hd5,hk5⟩
        dsimp only
        rw [Sort.shiftUp] at hs4
        by_cases hjb2:j < b
        ·rw [decide_eq_true (by omega)]
         rw [if_pos hjb2] at hs4
         simp only [Br,Dr]
         rw [w64m (by omega) (by omega)]
         have hkd:Keeps (blk s) w5 w5.drew:=(Keeps.refl _ _).drew
         refine Rw.rd (w:=w5.drew) hd5.dr rfl (by omega) ?_
         refine Rw.rd (w:=w5.drew) hd5.dr rfl (by omega) ?_
         refine Cl.mono (Less_ok _ _) ?_
         rintro ⟨r,_⟩ _ ⟨rfl,hr⟩
         simp only at hr
         cases hl:lt d4[j]! d4[j - 1]! with
         | false=>
          rw [hl] at hr hs4
          subst hr
          refine hJ3 _ _ ⟨k,d4,rfl,by omega,by omega,hz4,?_,hd5.dr,kt hk5 hkd⟩
          rw [← he1,← hs4];rfl
         | true=>
          rw [hl] at hr hs4
          subst hr
          simp only [Bool.not_true]
          refine Rw.sw (w:=w5.drew) hd5.dr rfl rfl (by omega) (by omega) ?_
          intro w6 hd6 hk6
          exact ⟨b - (j + 1),by omega,j + 1,_,by rw [w64p (by omega)],rfl,by omega,by omega,by rw [size_swp];exact hz4,by simpa using hs4,hd6,kt (kt hk5 hkd) hk6⟩
        ·rw [decide_eq_false (by omega)]
         rw [if_neg hjb2] at hs4
         refine hJ3 _ _ ⟨k,d4,rfl,by omega,by omega,hz4,?_,hd5,hk5⟩
         rw [← he1,← hs4]
       ·rw [decide_eq_false (by omega)]
        rw [if_neg hkb2] at he1
        exact hJ3 _ _ ⟨k,d3,rfl,by omega,by omega,hz3,he1,hd4,hk4⟩
  ·rintro _ w2 ⟨i',d',rfl,h1,h2,h3,h4,h5,h6⟩
   refine ⟨t,by omega,i',t,d',?_,rfl,by omega,h1,h2,h3,h4,h5,h6⟩
   rw [w64_in (by omega) (by omega)]
   congr 3
   omega
end Go.Proofs.YthkdehgfdllpoaaGreat
set_option linter.unusedVariables false
set_option linter.unusedSimpArgs false
namespace Go.Proofs.YthkdehgfdllpoaaGreat
open Go Go.Sx
theorem wrapu (z:Int):∃ n:Nat,IntKind.u64.wrap z=(n:Int)∧n < 18446744073709551616:=by
 refine ⟨(z % 18446744073709551616).toNat,?_,?_⟩
 ·simp [IntKind.wrap,IntKind.signed,IntKind.bits]
  omega
 ·omega
def tabB (s:ByteArray):Bool:=(List.range 256).all fun i=>match s[i]? with
 | some b=>decide (b.toNat≤8) && (decide (i=0) || decide (2 ^ b.toNat≤2 * i))
 | none=>false
theorem IxS_tab {w:World} {s:ByteArray} (h:tabB s=true) {i:Nat} (hi:i < 256) {K:Int→Pr} (k:∀ b:Nat,b≤8→(1≤i→2 ^ b≤2 * i)→K (b:Int) w):IxS s (i:Int) K w:=by
 have:=(List.all_eq_true.1 h) i (List.mem_range.2 hi)
 refine ⟨by omega,?_⟩
 rw [Int.toNat_natCast]
 split at this
 ·rename_i b hb
  simp only [Bool.and_eq_true,Bool.or_eq_true,decide_eq_true_eq] at this
  exact ⟨b,hb,k b.toNat this.1 (fun h1=>by rcases this.2 with h' | h';omega;exact h')⟩
 ·cases this
theorem Len_ok {w:World} {x:Nat} (hx:x < 65536):Cl Pg i_math_bits_Len [.int .u64 (x:Int)] false [.sc (.i .i64)] (fun r w'=>∃ n:Nat,r.1=(n:Int)∧n≤16∧(1≤x→2 ^ n≤2 * x)∧w=w') w:=by
 refine Cl_gen fun R hR=>?_
 apply math_bits_Len_call
 unfold math_bits_Len
 refine Cl.mono (K:=fun (r:TR [.sc (.i .i64)]) w'=>∃ n:Nat,r.1=(n:Int)∧n≤16∧(1≤x→2 ^ n≤2 * x)∧w=w') ?_ (fun r w' h=>hR _ _ h)
 refine Cl_gen fun R' hR'=>?_
 apply math_bits_Len64_call
 unfold math_bits_Len64
 refine Jp_of (fun st w'=>st=((x:Int),0,())∧w=w') (fun J hJ=>?_) ?_
 ·rw [decide_eq_false (by omega)]
  exact hJ _ _ ⟨rfl,rfl⟩
 rintro _ _ ⟨rfl,rfl⟩
 refine Jp_of (fun st w'=>st=((x:Int),0,())∧w=w') (fun J hJ=>?_) ?_
 ·dsimp only
  rw [decide_eq_false (by omega)]
  exact hJ _ _ ⟨rfl,rfl⟩
 rintro _ _ ⟨rfl,rfl⟩
 refine Jp_of (fun st w'=>∃ y m:Nat,st=((y:Int),(m:Int),())∧w=w'∧y < 256∧m≤8∧(1≤x→1≤y∧2 ^ m * y≤x)) (fun J hJ=>?_) ?_
 ·dsimp only
  by_cases h:x ≥ 256
  ·rw [decide_eq_true (by omega)]
   simp only [Br]
   refine ⟨by decide,?_⟩
   rw [show ishr .u64 (x:Int) 8=((x >>> 8:Nat):Int) from ishr_nat .u64 x 8 (by decide)]
   rw [Nat.shiftRight_eq_div_pow]
   exact hJ _ _ ⟨x / 2 ^ 8,8,by rw [w64_in (by omega) (by omega)];rfl,rfl,by omega,by omega,fun _=>⟨by omega,by omega⟩⟩
  ·rw [decide_eq_false (by omega)]
   exact hJ _ _ ⟨x,0,rfl,rfl,by omega,by omega,fun h=>⟨h,by omega⟩⟩
 ·rintro _ _ ⟨y,m,rfl,rfl,hy,hm,hxy⟩
  dsimp only
  rw [wrap_u8_nat,Nat.mod_eq_of_lt hy]
  refine IxS_tab (by kernel_rfl) hy ?_
  intro b hb hpb
  rw [w64_in (n:=(b:Int)) (by omega) (by omega),w64a rfl rfl (by omega)]
  refine hR' _ _ ⟨m + b,rfl,by omega,fun h=>?_,rfl⟩
  obtain ⟨h1,h2⟩:=hxy h
  have h3:=hpb h1
  rw [Nat.pow_add]
  calc 2 ^ m * 2 ^ b≤2 ^ m * (2 * y):=Nat.mul_le_mul_left _ h3
   _=2 * (2 ^ m * y):=by rw [Nat.mul_left_comm]
   _≤2 * x:=Nat.mul_le_mul_left _ h2
theorem Pow_ok {w:World} {x:Nat} (hx:x < 65536) (h0:1≤x):Cl Pg i_slices_nextPowerOfTwo [.int .i64 (x:Int)] false [.sc (.i .u64)] (fun r w'=>∃ n:Nat,r.1=(n:Int)∧1≤n∧n≤2 * x∧w=w') w:=by
 refine Cl_gen fun R hR=>?_
 apply slices_nextPowerOfTwo_call
 unfold slices_nextPowerOfTwo
 rw [wrap_u64_nat (by omega)]
 refine Cl.mono (Len_ok hx) ?_
 rintro ⟨r,_⟩ _ ⟨n,hr,hn,hp,rfl⟩
 simp only at hr
 subst hr
 refine ⟨by omega,?_⟩
 rw [show ishl .u64 (1:Int) (n:Int)=((1 <<< n % 2 ^ 64:Nat):Int) from ishl_u64 1 n (by omega)]
 rw [Nat.shiftLeft_eq,Nat.one_mul]
 have h2:2 ^ n≤2 ^ 16:=Nat.pow_le_pow_right (by omega) hn
 have h3:1≤2 ^ n:=Nat.one_le_two_pow
 rw [Nat.mod_eq_of_lt (by omega)]
 exact hR _ _ ⟨2 ^ n,rfl,h3,hp h0,rfl⟩
theorem Next_ok {w:World} {c:Nat} {t:TypeId} {x:Int} (h:w.heap[c]?=some (.cells #[.int .u64 x] t (0,0))) :
  Cl Pg i_slices_xorshift_Next [.pointer (some ⟨c,0,none⟩)] false [.sc (.i .u64)] (fun r w'=>(∃ n:Nat,r.1=(n:Int)∧n < 18446744073709551616)∧(∃ y:Int,w'.heap[c]?=some (.cells #[.int .u64 y] t (0,0)))∧Keeps [c] w w') w:=by
 refine Cl_gen fun R hR=>?_
 apply slices_xorshift_Next_call
 unfold slices_xorshift_Next
 simp only [Dr,Nn]
 have k0:Keeps [c] w w.drew:=(Keeps.refl _ _).drew
 refine LdI_of (i:=0) (w:=w.drew) h rfl ?_
 refine LdI_of (i:=0) (w:=w.drew) h rfl ?_
 refine ⟨by decide,?_⟩
 refine set_box (w:=w.drew) h 0 _ rfl (by simp) ?_
 intro w1 h1 k1
 have k1d:Keeps [c] w w1.drew:=(k0.trans k1 (by simp)).drew
 refine LdI_of (i:=0) (w:=w1.drew) h1 rfl ?_
 refine LdI_of (i:=0) (w:=w1.drew) h1 rfl ?_
 refine ⟨by decide,?_⟩
 refine set_box (w:=w1.drew) h1 0 _ rfl (by simp) ?_
 intro w2 h2 k2
 have k2d:Keeps [c] w w2.drew:=(k1d.trans k2 (by simp)).drew
 refine LdI_of (i:=0) (w:=w2.drew) h2 rfl ?_
 refine LdI_of (i:=0) (w:=w2.drew) h2 rfl ?_
 refine ⟨by decide,?_⟩
 refine set_box (w:=w2.drew) h2 0 _ rfl (by simp) ?_
 intro w3 h3 k3
 refine LdI_of (i:=0) h3 rfl ?_
 refine hR _ _ ⟨?_,⟨_,h3⟩,k2d.trans k3 (by simp)⟩
 obtain ⟨n,hn,hl⟩:=wrapu (((BitVec.ofInt IntKind.u64.bits _) ^^^ (BitVec.ofInt IntKind.u64.bits _)).toNat:Int)
 exact ⟨n,hn,hl⟩
theorem breakPatterns_ok {w:World} {s:Sl} {d:Array Int} (h:Rw w s d) {a b:Nat} (hb:b≤d.size) (hN:d.size≤65000) (hab:a + 12 < b) :
  Cl Pg i_slices_breakPatternsOrdered_uint64 [.slice s.p s.len s.cap,.int .i64 (a:Int),.int .i64 (b:Int)] true [] (fun _ w'=>∃ d',Sort.PermIn a b d d'∧Rw w' s d'∧Keeps (blk s) w w') w:=by
 refine Cl_gen fun R hR=>?_
 apply slices_breakPatternsOrdered_uint64_call
 unfold slices_breakPatternsOrdered_uint64
 rw [w64s rfl rfl (by omega) (by omega),decide_eq_true (by omega)]
 simp only [Br,New]
 generalize hc:w.heap.size=c
 generalize hw1:w.alloc _=w1
 have h1:w1.heap[c]?=some (.cells #[.int .u64 0] 315 (0,0)):=by rw [← hw1,← hc];exact hp_alloc_new w _
 have k1:Keeps [] w w1:=by rw [← hw1];exact (Keeps.refl _ _).alloc _
 have hcs:c ∉ blk s:=fun hh=>by have:=SlC.lt h c hh;omega
 refine set_box h1 0 _ rfl (by simp) ?_
 intro w2 h2 k2
 have k02:Keeps [] w w2:=k1.trans k2 (by simp;omega)
 have hd2:Rw w2 s d:=SlC.keeps h k02 (by simp)
 refine Cl.mono (Pow_ok (x:=b - a) (by omega) (by omega)) ?_
 rintro ⟨m,_⟩ _ ⟨m,hm,hm1,hm2,rfl⟩
 simp only at hm
 subst hm
 refine ⟨by decide,?_⟩
 rw [show ((b - a:Nat):Int).tdiv 4=(((b - a) / 4:Nat):Int) from tdiv_nat _ 4]
 rw [w64_nat (n:=(b - a) / 4) (by omega)]
 rw [show w64 ((((b - a) / 4:Nat):Int) * 2)=(((b - a) / 4 * 2:Nat):Int) from by rw [w64_in (by omega) (by omega)];omega]
 rw [w64a rfl rfl (by omega),w64m (by omega) (by omega),w64p (by omega)]
 generalize hq:(b - a) / 4 * 2=q
 have hqa:q ≥ 6:=by omega
 have hqb:a + q + 1 < b:=by omega
 have hwm:IntKind.u64.wrap ((m:Int) - 1)=((m - 1:Nat):Int):=by
  rw [show (m:Int) - 1=((m - 1:Nat):Int) from by omega]
  exact wrap_u64_nat (by omega)
 rw [hwm]
 have k02':Keeps (c :: blk s) w w2:=k02.mono (by simp)
 refine ⟨fun n st w'=>∃ (i:Nat) (d':Array Int),st=((i:Int),())∧n=a + q + 2 - i∧a + q - 1≤i∧i≤a + q + 2∧Sort.PermIn a b d d'∧Rw w' s d'∧(∃ y:Int,w'.heap[c]?=some (.cells #[.int .u64 y] 315 (0,0)))∧Keeps (c :: blk s) w w',⟨_,a + q - 1,d,rfl,rfl,Nat.le_refl _,by omega,Sort.permIn_refl _ _ _,hd2,⟨_,by simpa using h2⟩,k02'⟩,?_⟩
 rintro _ _ w3 ⟨i,d1,rfl,rfl,hi1,hi2,hp1,hd3,⟨y,hy⟩,hk3⟩
 dsimp only
 have hz1:d1.size=d.size:=hp1.1
 refine ⟨by decide,?_⟩
 by_cases hi:i≤a + q + 1
 ·rw [decide_eq_true (by omega)]
  simp only [Br]
  refine Cl.mono (Next_ok hy) ?_
  rintro ⟨r,_⟩ w4 ⟨⟨r,hr,hrl⟩,hy4,hk4⟩
  simp only at hr
  subst hr
  have hd4:Rw w4 s d1:=SlC.keeps hd3 hk4 (fun x hx=>by simp;rintro rfl;exact hcs hx)
  have hk04:Keeps (c :: blk s) w w4:=hk3.trans hk4 (by simp)
  rw [iand_u64 (by omega) (by omega)]
  have hand:r &&& (m - 1)≤m - 1:=Nat.and_le_right
  rw [w64_nat (by omega)]
  refine Jp_of (fun st w'=>∃ o:Nat,st=((o:Int),())∧o < b - a∧w4=w') ?_ ?_
  ·intro J hJ
   by_cases ho:(r &&& (m - 1)) ≥ b - a
   ·rw [decide_eq_true (by omega)]
    refine hJ _ _ ⟨_,by rw [w64s rfl rfl (by omega) (by omega)],by omega,rfl⟩
   ·rw [decide_eq_false (by omega)]
    exact hJ _ _ ⟨_,rfl,by omega,rfl⟩
  ·rintro _ _ ⟨o,rfl,ho,rfl⟩
   rw [w64a rfl rfl (by omega)]
   refine Rw.sw hd4 rfl rfl (by omega) (by omega) ?_
   intro w5 hd5 hk5
   refine ⟨a + q + 2 - (i + 1),by omega,i + 1,_,by rw [w64p (by omega)],rfl,by omega,by omega,Sort.permIn_trans _ _ _ _ _ hp1 (Sort.swp_permIn _ _ _ _ _ (by omega) (by omega) (by omega) (by omega) (by omega)),hd5,?_,hk04.trans hk5 (fun x hx=>.inl (by simp [hx]))⟩
   obtain ⟨y4,hy4⟩:=hy4
   exact ⟨y4,hk5.at hy4 hcs⟩
 ·rw [decide_eq_false (by omega)]
  refine hR _ _ ⟨d1,hp1,hd3,hk3.mono (fun x hx=>?_)⟩
  rcases List.mem_cons.1 hx with rfl | hx
  ·right;omega
  ·exact .inl hx
def Cnt (w:World) (c:Nat):Prop:=∃ y:Int,w.heap[c]?=some (.cells #[.int .i64 y] 3 (0,0))
theorem order2_ok {w:World} {s:Sl} {d:Array Int} (h:Rw w s d) {c:Nat} (hc:Cnt w c) (hcs:c ∉ blk s) {a b:Nat} (ha:a < d.size) (hb:b < d.size) :
  Cl Pg i_slices_order2Ordered_uint64 [.slice s.p s.len s.cap,.int .i64 (a:Int),.int .i64 (b:Int),.pointer (some ⟨c,0,none⟩)] true [.sc (.i .i64),.sc (.i .i64)]
   (fun r w'=>(r=((a:Int),(b:Int),())∨r=((b:Int),(a:Int),()))∧Cnt w' c∧Rw w' s d∧Keeps [c] w w') w:=by
 refine Cl_gen fun R hR=>?_
 apply slices_order2Ordered_uint64_call
 unfold slices_order2Ordered_uint64
 obtain ⟨y,hy⟩:=hc
 simp only [Dr]
 have k0:Keeps [c] w w.drew:=(Keeps.refl _ _).drew
 refine Rw.rd (w:=w.drew) h.dr rfl hb ?_
 refine Rw.rd (w:=w.drew) h.dr rfl ha ?_
 refine Cl.mono (Less_ok _ _) ?_
 rintro ⟨r,_⟩ _ ⟨rfl,hr⟩
 simp only at hr
 cases hl:lt d[b]! d[a]! with
 | false=>
  rw [hl] at hr
  subst hr
  exact hR _ _ ⟨.inl rfl,⟨y,hy⟩,h.dr,k0⟩
 | true=>
  rw [hl] at hr
  subst hr
  simp only [Br,Nn]
  refine LdI_of (i:=0) (w:=w.drew) hy rfl ?_
  refine set_box (w:=w.drew) hy 0 _ rfl (by simp) ?_
  intro w1 h1 k1
  have k01:Keeps [c] w w1:=k0.trans k1 (by simp)
  exact hR _ _ ⟨.inr rfl,⟨_,h1⟩,SlC.keeps h k01 (fun x hx=>by simp;rintro rfl;exact hcs hx),k01⟩
theorem median_ok {w:World} {s:Sl} {d:Array Int} (h:Rw w s d) {c:Nat} (hc:Cnt w c) (hcs:c ∉ blk s) {i j k:Nat} (hi:i < d.size) (hj:j < d.size) (hk:k < d.size) :
  Cl Pg i_slices_medianOrdered_uint64 [.slice s.p s.len s.cap,.int .i64 (i:Int),.int .i64 (j:Int),.int .i64 (k:Int),.pointer (some ⟨c,0,none⟩)] false [.sc (.i .i64)]
   (fun r w'=>(∃ p:Nat,r.1=(p:Int)∧(p=i∨p=j∨p=k))∧Cnt w' c∧Rw w' s d∧Keeps [c] w w') w:=by
 refine Cl_gen fun R hR=>?_
 apply slices_medianOrdered_uint64_call
 unfold slices_medianOrdered_uint64
 refine Cl.mono (order2_ok h hc hcs hi hj) ?_
 rintro r1 w1 ⟨hr1,hc1,hd1,hk1⟩
 obtain ⟨p,q,rfl,hpq⟩:∃ p q:Nat,r1=((p:Int),(q:Int),())∧((p=i∧q=j)∨(p=j∧q=i)):=by
  rcases hr1 with rfl | rfl
  ·exact ⟨i,j,rfl,.inl ⟨rfl,rfl⟩⟩
  ·exact ⟨j,i,rfl,.inr ⟨rfl,rfl⟩⟩
 dsimp only
 refine Cl.mono (order2_ok hd1 hc1 hcs (a:=q) (b:=k) (by omega) hk) ?_
 rintro r2 w2 ⟨hr2,hc2,hd2,hk2⟩
 obtain ⟨u,v,rfl,huv⟩:∃ u v:Nat,r2=((u:Int),(v:Int),())∧((u=q∧v=k)∨(u=k∧v=q)):=by
  rcases hr2 with rfl | rfl
  ·exact ⟨q,k,rfl,.inl ⟨rfl,rfl⟩⟩
  ·exact ⟨k,q,rfl,.inr ⟨rfl,rfl⟩⟩
 dsimp only
 refine Cl.mono (order2_ok hd2 hc2 hcs (a:=p) (b:=u) (by omega) (by omega)) ?_
 rintro r3 w3 ⟨hr3,hc3,hd3,hk3⟩
 refine hR _ _ ⟨?_,hc3,hd3,(hk1.trans hk2 (by simp)).trans hk3 (by simp)⟩
 rcases hr3 with rfl | rfl
 ·exact ⟨u,rfl,by omega⟩
 ·exact ⟨p,rfl,by omega⟩
theorem adj_ok {w:World} {s:Sl} {d:Array Int} (h:Rw w s d) (hN:d.size≤65000) {c:Nat} (hc:Cnt w c) (hcs:c ∉ blk s) {i:Nat} (hi:1≤i) (hi1:i + 1 < d.size) :
  Cl Pg i_slices_medianAdjacentOrdered_uint64 [.slice s.p s.len s.cap,.int .i64 (i:Int),.pointer (some ⟨c,0,none⟩)] false [.sc (.i .i64)]
   (fun r w'=>(∃ p:Nat,r.1=(p:Int)∧i - 1≤p∧p≤i + 1)∧Cnt w' c∧Rw w' s d∧Keeps [c] w w') w:=by
 refine Cl_gen fun R hR=>?_
 apply slices_medianAdjacentOrdered_uint64_call
 unfold slices_medianAdjacentOrdered_uint64
 rw [w64m (by omega) (by omega),w64p (by omega)]
 refine Cl.mono (median_ok h hc hcs (by omega) (by omega) (by omega)) ?_
 rintro ⟨r,_⟩ w1 ⟨⟨p,hp,hpp⟩,h2,h3,h4⟩
 exact hR _ _ ⟨⟨p,hp,by omega,by omega⟩,h2,h3,h4⟩
theorem choosePivot_ok {w:World} {s:Sl} {d:Array Int} (h:Rw w s d) {a b:Nat} (hb:b≤d.size) (hN:d.size≤65000) (hab:a + 12 < b) :
  Cl Pg i_slices_choosePivotOrdered_uint64 [.slice s.p s.len s.cap,.int .i64 (a:Int),.int .i64 (b:Int)] true [.sc (.i .i64),.sc (.i .i64)]
   (fun r w'=>(∃ p:Nat,r.1=(p:Int)∧a≤p∧p < b)∧Rw w' s d∧Keeps [] w w') w:=by
 refine Cl_gen fun R hR=>?_
 apply slices_choosePivotOrdered_uint64_call
 unfold slices_choosePivotOrdered_uint64
 simp only [New]
 generalize hc:w.heap.size=c
 generalize hw1:w.alloc _=w1
 have h1:Cnt w1 c:=⟨0,by rw [← hw1,← hc];exact hp_alloc_new w _⟩
 have k1:Keeps [] w w1:=by rw [← hw1];exact (Keeps.refl _ _).alloc _
 have hcs:c ∉ blk s:=fun hh=>by have:=SlC.lt h c hh;omega
 have hd1:Rw w1 s d:=h.keeps k1
 refine ⟨by decide,by decide,by decide,?_⟩
 rw [w64s rfl rfl (by omega) (by omega)]
 rw [show ((b - a:Nat):Int).tdiv 4=(((b - a) / 4:Nat):Int) from tdiv_nat _ 4]
 rw [w64_nat (n:=(b - a) / 4) (by omega)]
 generalize hq:(b - a) / 4=q
 have hq3:3≤q:=by omega
 have hq4:a + q * 3 + 1 < b:=by omega
 rw [show w64 ((q:Int) * 1)=((q:Nat):Int) from by rw [w64_in (by omega) (by omega)];omega]
 rw [show w64 ((q:Int) * 2)=((q * 2:Nat):Int) from by rw [w64_in (by omega) (by omega)];omega]
 rw [show w64 ((q:Int) * 3)=((q * 3:Nat):Int) from by rw [w64_in (by omega) (by omega)];omega]
 rw [w64a (i:=a) (j:=q) rfl rfl (by omega),w64a (i:=a) (j:=q * 2) rfl rfl (by omega),w64a (i:=a) (j:=q * 3) rfl rfl (by omega)]
 have kc:∀ {w':World},Keeps [c] w1 w'→Keeps [] w w':=fun k=>k1.trans k (by simp;omega)
 refine Jp_of (fun st w'=>(∃ p:Nat,st=((p:Int),())∧a≤p∧p < b)∧Cnt w' c∧Rw w' s d∧Keeps [] w w') ?_ ?_
 ·intro J2 hJ2
  rw [decide_eq_true (by omega)]
  simp only [Br]
  refine Jp_of (fun st w'=>(∃ i j k:Nat,st=((i:Int),(j:Int),(k:Int),())∧a≤i∧i < b∧a≤j∧j < b∧a≤k∧k < b)∧Cnt w' c∧Rw w' s d∧Keeps [c] w1 w') ?_ ?_
  ·intro J5 hJ5
   by_cases h50:b - a ≥ 50
   ·rw [decide_eq_true (by omega)]
    simp only [Br]
    refine Cl.mono (adj_ok hd1 hN h1 hcs (by omega) (by omega)) ?_
    rintro ⟨r8,_⟩ w2 ⟨⟨i,hi,hi1,hi2⟩,hc2,hd2,hk2⟩
    simp only at hi
    subst hi
    refine Cl.mono (adj_ok hd2 hN hc2 hcs (by omega) (by omega)) ?_
    rintro ⟨r9,_⟩ w3 ⟨⟨j,hj,hj1,hj2⟩,hc3,hd3,hk3⟩
    simp only at hj
    subst hj
    refine Cl.mono (adj_ok hd3 hN hc3 hcs (by omega) (by omega)) ?_
    rintro ⟨r10,_⟩ w4 ⟨⟨k,hk,hk1,hk2'⟩,hc4,hd4,hk4⟩
    simp only at hk
    subst hk
    exact hJ5 _ _ ⟨⟨i,j,k,rfl,by omega,by omega,by omega,by omega,by omega,by omega⟩,hc4,hd4,(hk2.trans hk3 (by simp)).trans hk4 (by simp)⟩
   ·rw [decide_eq_false (by omega)]
    exact hJ5 _ _ ⟨⟨_,_,_,rfl,by omega,by omega,by omega,by omega,by omega,by omega⟩,h1,hd1,Keeps.refl _ _⟩
  ·rintro _ w2 ⟨⟨i,j,k,rfl,hi1,hi2,hj1,hj2,hk1,hk2⟩,hc2,hd2,hk⟩
   dsimp only
   refine Cl.mono (median_ok hd2 hc2 hcs (by omega) (by omega) (by omega)) ?_
   rintro ⟨r,_⟩ w3 ⟨⟨p,hp,hpp⟩,hc3,hd3,hk3⟩
   simp only at hp
   subst hp
   exact hJ2 _ _ ⟨⟨p,rfl,by omega,by omega⟩,hc3,hd3,kc (hk.trans hk3 (by simp))⟩
 ·rintro _ w2 ⟨⟨p,rfl,hp1,hp2⟩,⟨y,hy⟩,hd2,hk2⟩
  refine LdI_of (i:=0) hy rfl ?_
  refine Br_of (fun _=>?_) (fun _=>Br_of (fun _=>?_) (fun _=>?_)) <;> exact hR _ _ ⟨⟨p,rfl,hp1,hp2⟩,hd2,hk2⟩
theorem pdq_ok {s:Sl}:∀ (n:Nat) {w:World} {d:Array Int} (_h:Rw w s d) {a b lim:Nat} (_hb:b≤d.size) (_hN:d.size≤65000) (_hab:a≤b) (_hn:b - a≤n) (_hl:lim≤65000) (_hB:Sort.Below lt a b d),
  Cl Pg i_slices_pdqsortOrdered_uint64 [.slice s.p s.len s.cap,.int .i64 (a:Int),.int .i64 (b:Int),.int .i64 (lim:Int)] true [] (fun _ w'=>∃ d',Sort.PermIn a b d d'∧Sort.SortedIn lt a b d'∧Rw w' s d'∧Keeps (blk s) w w') w:=by
 intro n
 induction n using Nat.strongRecOn with
 | _ n ih=>
 intro w d h a b lim hb hN hab hn hl hB
 have hS:=Sort.swo_ltInt
 refine Cl_gen fun R hR=>?_
 apply slices_pdqsortOrdered_uint64_call
 unfold slices_pdqsortOrdered_uint64
 refine ⟨fun m st w'=>∃ (a' b' l':Nat) (wb wp:Bool) (d':Array Int),st=((a':Int),(b':Int),(l':Int),wb,wp,())∧m=b' - a'∧m≤n∧a'≤b'∧b'≤d.size∧l'≤65000∧d'.size=d.size∧Sort.Below lt a' b' d'∧(∀ R,Sort.PermIn a' b' d' R→Sort.SortedIn lt a' b' R→Sort.PermIn a b d R∧Sort.SortedIn lt a b R)∧Rw w' s d'∧Keeps (blk s) w w',⟨_,a,b,lim,true,true,d,rfl,rfl,hn,hab,hb,hl,rfl,hB,fun R h1 h2=>⟨h1,h2⟩,h,Keeps.refl _ _⟩,?_⟩
 rintro _ _ w1 ⟨a,b,lim,wb,wp,d1,rfl,rfl,hmn,hab,hbd,hlim,hz1,hB1,hend,hd1,hk1⟩
 dsimp only
 rw [w64s rfl rfl hab (by omega)]
 by_cases h12:b - a≤12
 ·rw [decide_eq_true (by omega)]
  simp only [Br]
  refine Cl.mono (insertion_ok hd1 (by omega) (by omega) hab) ?_
  rintro _ w2 ⟨hd2,hk2⟩
  obtain ⟨p1,p2⟩:=Sort.insertionSort_holds hS d1 a b hab (by omega)
  obtain ⟨e1,e2⟩:=hend _ p1 p2
  exact hR _ _ ⟨_,e1,e2,hd2,kt hk1 hk2⟩
 rw [decide_eq_false (by omega)]
 simp only [Br]
 by_cases hl0:lim=0
 ·rw [show ((lim:Int) == 0)=true from by simp [hl0]]
  simp only
  refine Cl.mono (heapSort_ok hd1 (by omega) (by omega) (by omega)) ?_
  rintro _ w2 ⟨hd2,hk2⟩
  obtain ⟨p1,p2⟩:=Sort.heapSort_holds hS d1 a b hab (by omega)
  obtain ⟨e1,e2⟩:=hend _ p1 p2
  exact hR _ _ ⟨_,e1,e2,hd2,kt hk1 hk2⟩
 rw [show ((lim:Int) == 0)=false from by simp;omega]
 simp only
 refine Jp_of (fun st w'=>∃ (l':Nat) (d':Array Int),st=((l':Int),())∧l'≤65000∧Sort.PermIn a b d1 d'∧Rw w' s d'∧Keeps (blk s) w w') ?_ ?_
 ·intro J hJ
  cases wb with
  | true=>exact hJ _ _ ⟨lim,d1,rfl,hlim,Sort.permIn_refl _ _ _,hd1,hk1⟩
  | false=>
   simp only [Bool.not_false]
   refine Cl.mono (breakPatterns_ok hd1 (by omega) (by omega) (by omega)) ?_
   rintro _ w2 ⟨d2,hp2,hd2,hk2⟩
   exact hJ _ _ ⟨lim - 1,d2,by rw [w64m (by omega) (by omega)],by omega,hp2,hd2,kt hk1 hk2⟩
 rintro _ w2 ⟨l2,d2,rfl,hl2,hp2,hd2,hk2⟩
 have hz2:d2.size=d.size:=by rw [hp2.1];exact hz1
 dsimp only
 refine Cl.mono (choosePivot_ok hd2 (by omega) (by omega) (by omega)) ?_
 rintro ⟨r7,hint,_⟩ w3 ⟨⟨p,hp,hpa,hpb⟩,hd3,hk3⟩
 simp only at hp
 subst hp
 have hk03:Keeps (blk s) w w3:=hk2.trans hk3 (by simp)
 refine Jp_of (fun st w'=>∃ (p':Nat) (hint':Int) (d':Array Int),st=((p':Int),hint',())∧a≤p'∧p' < b∧Sort.PermIn a b d1 d'∧Rw w' s d'∧Keeps (blk s) w w') ?_ ?_
 ·intro J hJ
  dsimp only
  refine Br_of (fun _=>?_) (fun _=>hJ _ _ ⟨p,hint,d2,rfl,hpa,hpb,hp2,hd3,hk03⟩)
  refine Cl.mono (reverse_ok hd3 (by omega) (by omega) (by omega)) ?_
  rintro _ w4 ⟨hd4,hk4⟩
  refine hJ _ _ ⟨b - 1 - (p - a),1,_,?_,by omega,by omega,Sort.permIn_trans _ _ _ _ _ hp2 (Sort.reverseRange_holds d2 a b hab (by omega)),hd4,kt hk03 hk4⟩
  rw [w64m (by omega) (by omega),w64s (i:=p) rfl rfl (by omega) (by omega),w64s rfl rfl (by omega) (by omega)]
 rintro _ w4 ⟨p4,hint4,d4,rfl,hp4a,hp4b,hp4,hd4,hk4⟩
 have hz4:d4.size=d.size:=by rw [hp4.1];exact hz1
 dsimp only
 refine Jp_of (fun _ w'=>∃ (d':Array Int),Sort.PermIn a b d1 d'∧Rw w' s d'∧Keeps (blk s) w w') ?_ ?_
 ·intro J10 hJ10
  refine Jp_of (fun st w'=>∃ c:Bool,st=(c,())∧w4=w') ?_ ?_
  ·intro J hJ
   cases wb with
   | false=>exact hJ _ _ ⟨_,rfl,rfl⟩
   | true=>
    cases wp with
    | false=>exact hJ _ _ ⟨_,rfl,rfl⟩
    | true=>exact hJ _ _ ⟨_,rfl,rfl⟩
  ·rintro _ _ ⟨c,rfl,rfl⟩
   cases c with
   | false=>exact hJ10 _ _ ⟨d4,hp4,hd4,hk4⟩
   | true=>
    simp only
    refine Cl.mono (partialInsertion_ok hd4 (by omega) (by omega) (by omega)) ?_
    rintro ⟨r,_⟩ w5 ⟨hr,hd5,hk5⟩
    simp only at hr
    obtain ⟨e1,e2⟩:=Sort.partialInsertionSort_holds hS d4 a b (by omega) (by omega) (Sort.Below.perm hB1 (by omega) hp4)
    have hp5:=Sort.permIn_trans _ _ _ _ _ hp4 e1
    cases r with
    | true=>
     obtain ⟨f1,f2⟩:=hend _ hp5 (e2 hr.symm)
     exact hR _ _ ⟨_,f1,f2,hd5,kt hk4 hk5⟩
    | false=>exact hJ10 _ _ ⟨_,hp5,hd5,kt hk4 hk5⟩
 rintro _ w5 ⟨d5,hp5,hd5,hk5⟩
 have hz5:d5.size=d.size:=by rw [hp5.1];exact hz1
 have hB5:=Sort.Below.perm hB1 (by omega) hp5
 have hend5:∀ R,Sort.PermIn a b d5 R→Sort.SortedIn lt a b R→Sort.PermIn _ _ d R∧Sort.SortedIn lt _ _ R:=fun R h1 h2=>hend R (Sort.permIn_trans _ _ _ _ _ hp5 h1) h2
 refine Jp_of (fun st w'=>st=(decide (a > 0) && !lt d5[a - 1]! d5[p4]!,())∧Rw w' s d5∧Keeps (blk s) w w') ?_ ?_
 ·intro J hJ
  by_cases ha0:a > 0
  ·rw [w64m (by omega) (by omega)]
   exact test_ok hd5 (fun b=>!b) rfl rfl (by omega) (by omega) (by congr 1;exact decide_eq_decide.2 (by omega)) fun w6 h6 k6=>hJ _ _ ⟨rfl,h6,kt hk5 k6⟩
  ·rw [decide_eq_false (show ¬ ((a:Int) > 0) by omega)]
   rw [decide_eq_false ha0,Bool.false_and] at hJ
   simp only [Dr]
   exact hJ _ _ ⟨rfl,hd5.dr,kt hk5 ((Keeps.refl _ _).drew)⟩
 rintro _ w6 ⟨rfl,hd6,hk6⟩
 cases hc:(decide (a > 0) && !lt d5[a - 1]! d5[p4]!) with
 | true=>
  simp only [Bool.and_eq_true,decide_eq_true_eq,Bool.not_eq_true'] at hc
  simp only
  refine Cl.mono (partitionEqual_ok hd6 (by omega) (by omega) hp4a hp4b) ?_
  rintro ⟨r,_⟩ w7 ⟨hr,hd7,hk7⟩
  simp only at hr
  cases hpe:Sort.partitionEqual lt d5 a b p4 with
  | mk mid d7=>
  rw [hpe] at hr hd7
  subst hr
  obtain ⟨g1,g2,g3,g4,g5⟩:=Sort.round_eq hS (Sort.partitionEqual_holds lt) hc.1 hp4a hp4b (by omega) hB5 hc.2 hpe
  exact ⟨b - mid,by omega,mid,b,l2,wb,wp,d7,rfl,rfl,by omega,g2,hbd,hl2,by rw [g3];exact hz5,g4,fun R h1 h2=>by obtain ⟨e1,e2⟩:=g5 R h1 h2;exact hend5 R e1 e2,hd7,kt hk6 hk7⟩
 | false=>
  simp only
  refine Cl.mono (partition_ok hd6 (by omega) (by omega) hp4a hp4b) ?_
  rintro ⟨r,ap,_⟩ w7 ⟨hr,hd7,hk7⟩
  simp only at hr
  cases hpt:Sort.partition lt d5 a b p4 with
  | mk mid q=>
  obtain ⟨ap',d7⟩:=q
  rw [hpt] at hr hd7
  subst hr
  obtain ⟨g1,g2,g3,g4,g5,g6,g7⟩:=Sort.round_part hS (Sort.partition_holds lt) hp4a hp4b (by omega) hB5 hpt
  dsimp only at hd7 ⊢
  refine ⟨by decide,?_⟩
  rw [w64s rfl rfl g1 (by omega),w64s rfl rfl (by omega) (by omega),w64p (by omega)]
  have hk07:=kt hk6 hk7
  by_cases hlt:mid - a < b - mid
  ·rw [decide_eq_true (by omega)]
   simp only [Br]
   refine Cl.mono (ih (mid - a) (by omega) hd7 (lim:=l2) (by omega) (by omega) g1 (Nat.le_refl _) hl2 g4) ?_
   rintro _ w8 ⟨d8,e1,e2,hd8,hk8⟩
   obtain ⟨f1,f2⟩:=g6 d8 e1 e2
   exact ⟨b - (mid + 1),by omega,mid + 1,b,l2,_,ap,d8,rfl,rfl,by omega,by omega,hbd,hl2,by rw [e1.1,g3];exact hz5,f1,fun R h1 h2=>by obtain ⟨e1,e2⟩:=f2 R h1 h2;exact hend5 R e1 e2,hd8,kt hk07 hk8⟩
  ·rw [decide_eq_false (by omega)]
   simp only [Br]
   refine Cl.mono (ih (b - (mid + 1)) (by omega) hd7 (lim:=l2) (by omega) (by omega) (by omega) (Nat.le_refl _) hl2 g5) ?_
   rintro _ w8 ⟨d8,e1,e2,hd8,hk8⟩
   obtain ⟨f1,f2⟩:=g7 d8 e1 e2
   exact ⟨mid - a,by omega,a,mid,l2,_,ap,d8,rfl,rfl,by omega,g1,by omega,hl2,by rw [e1.1,g3];exact hz5,f1,fun R h1 h2=>by obtain ⟨e1,e2⟩:=f2 R h1 h2;exact hend5 R e1 e2,hd8,kt hk07 hk8⟩
theorem Sort_ok {w:World} {s:Sl} {l:List Int} (h:SlC w s 1 (cU l)) (hN:l.length≤65000) :
  Cl Pg i_slices_Sort_uint64 [.slice s.p s.len s.cap] true [] (fun _ w'=>∃ l',l'.Perm l∧l'.Pairwise (·≤·)∧SlC w' s 1 (cU l')∧Keeps (blk s) w w') w:=by
 refine Cl_gen fun R hR=>?_
 have hl:=cU_slen h
 apply slices_Sort_uint64_call
 unfold slices_Sort_uint64
 rw [hl,wrap_u64_nat (by omega)]
 refine Cl.mono (Len_ok (by omega)) ?_
 rintro ⟨r,_⟩ _ ⟨n,hr,hn,_,rfl⟩
 simp only at hr
 subst hr
 have h':Rw w s l.toArray:=h
 have:=pdq_ok (s:=s) l.length h' (a:=0) (b:=l.length) (lim:=n) (by simp) (by simpa using hN) (by omega) (by omega) (by omega) (.inl rfl)
 rw [hl] at this
 refine Cl.mono this ?_
 rintro _ w1 ⟨d',hp,hs,hd,hk⟩
 have hz:d'.size=l.length:=by rw [hp.1];simp
 refine hR _ _ ⟨d'.toList,?_,?_,hd,hk⟩
 ·have:=hp.2.2
  rw [Array.toList_extract,Array.toList_extract] at this
  simp only [List.extract_eq_take_drop,List.drop_zero,Nat.sub_zero] at this
  rw [List.take_of_length_le (by simp [hz]),List.take_of_length_le (by simp)] at this
  exact this
 ·rw [List.pairwise_iff_getElem]
  intro i j hi hj hij
  rw [Array.length_toList,hz] at hi hj
  have:=hs i j (by omega) hij (by omega)
  rw [getElem!_pos d' j (by omega),getElem!_pos d' i (by omega)] at this
  simp [lt,Sort.ltInt] at this
  simpa using this
end Go.Proofs.YthkdehgfdllpoaaGreat
set_option linter.unusedVariables false
set_option linter.unusedSimpArgs false
namespace Go.Proofs.YthkdehgfdllpoaaGreat
open Go Go.Sx
theorem Ix_cu {w:World} {s:Sl} {l:List Int} (h:SlC w s 1 (cU l)) {j:Nat} {x:Int} (hj:l[j]?=some x) {K:Int→Pr} (k:K x w):Ix s (j:Int) 1 (fun a=>LdI .u64 a K) w:=by
 have hlt:=(List.getElem?_eq_some_iff.1 hj).1
 have hl:=cU_slen h
 obtain ⟨b,o,hp,_⟩:=h.base (by omega)
 rw [Ix_base hp (by omega) (by omega),Int.toNat_natCast,Nat.mul_one,LdI_c,h.read hp (by rw [cU_len];exact hlt),cU,List.getElem?_map,hj]
 simp only [Option.map_some,sx]
 exact k
theorem Ix_su {w:World} {s:Sl} {l:List Int} (h:SlC w s 1 (cU l)) {j:Nat} (hj:j < l.length) (x:Int) {K:Pr} (k:∀ w',SlC w' s 1 (cU (l.set j x))→Keeps (blk s) w w'→K w'):Ix s (j:Int) 1 (fun a=>St a (.int .u64 x) K) w:=by
 have hl:=cU_slen h
 obtain ⟨b,o,hp,hb⟩:=h.base (by omega)
 rw [Ix_base hp (by omega) (by omega),Int.toNat_natCast,Nat.mul_one]
 refine h.write hp (by rw [cU_len];exact hj) rfl ?_
 intro w' h1 h2
 refine k w' ?_ (by rw [hb];exact h2)
 rw [cU,List.map_set]
 exact h1
theorem rising_unique:∀ {a b:List Int},a.Pairwise (· < ·)→b.Pairwise (· < ·)→(∀ x,x∈a ↔ x∈b)→a=b:=by
 intro a b ha hb h
 have pa:a.Nodup:=ha.imp (fun h=>by omega)
 have pb:b.Nodup:=hb.imp (fun h=>by omega)
 have hp:a.Perm b:=(List.perm_ext_iff_of_nodup pa pb).2 h
 exact hp.eq_of_pairwise (fun x y _ _ h1 h2=>by omega) ha hb
theorem Compact_ok {w:World} {s:Sl} {l:List Int} (h:SlC w s 1 (cU l)) (hs:l.Pairwise (·≤·)) (hN:l.length≤65000) :
  Cl Pg i_slices_Compact_uint64 [.slice s.p s.len s.cap] false [.sc .sl] (fun r w'=>∃ l',SlC w' r.1 1 (cU l')∧l'.Pairwise (· < ·)∧(∀ x,x∈l' ↔ x∈l)∧(∀ x∈blk r.1,x∈blk s)∧Keeps (blk s) w w') w:=by
 refine Cl_gen fun R hR=>?_
 have hl:=cU_slen h
 have hc:=h.cap
 apply slices_Compact_uint64_call
 unfold slices_Compact_uint64
 by_cases h2:s.len < 2
 ·rw [decide_eq_true (by omega)]
  refine hR (s,()) _ ⟨l,h,?_,fun _=>Iff.rfl,fun _ hx=>hx,Keeps.refl _ _⟩
  match l,hl with
  | [],_=>simp
  | [a],_=>simp
  | a :: b :: t,hl=>simp at hl;omega
 rw [decide_eq_false (by omega)]
 simp only [Br_false]
 have get:∀ j,j < l.length→∃ x,l[j]?=some x:=fun j hj=>⟨_,List.getElem?_eq_getElem hj⟩
 have le_of:∀ {i j:Nat} {x y:Int},i < j→l[i]?=some x→l[j]?=some y→x≤y:=by
  intro i j x y hij hx hy
  obtain ⟨h1,e1⟩:=List.getElem?_eq_some_iff.1 hx
  obtain ⟨h2,e2⟩:=List.getElem?_eq_some_iff.1 hy
  have:=List.pairwise_iff_getElem.1 hs i j h1 h2 hij
  rw [e1,e2] at this
  exact this
 have step:∀ {j:Nat} {x y:Int} {p:List Int},0 < j→l[j - 1]?=some x→l[j]?=some y→p.Pairwise (· < ·)→(∀ z,z∈p ↔ z∈l.take j)→x ≠ y→(p ++ [y]).Pairwise (· < ·)∧∀ z,z∈p ++ [y] ↔ z∈l.take (j + 1):=by
  intro j x y p hj hx hy hp hm hne
  refine ⟨?_,fun z=>?_⟩
  ·rw [List.pairwise_append]
   refine ⟨hp,by simp,fun a ha b hb=>?_⟩
   simp at hb
   subst hb
   obtain ⟨i,hi⟩:=List.getElem?_of_mem ((hm a).1 ha)
   rw [List.getElem?_take] at hi
   split at hi
   ·rename_i hij
    have h1:=le_of (show j - 1 < j by omega) hx hy
    by_cases h3:i=j - 1
    ·subst h3
     rw [hx] at hi
     injection hi with hi
     omega
    ·have h4:=le_of (show i < j - 1 by omega) hi hx
     omega
   ·cases hi
  ·rw [List.mem_append,hm,List.take_add_one,hy]
   simp
 have skip:∀ {j:Nat} {x y:Int} {p:List Int},0 < j→l[j - 1]?=some x→l[j]?=some y→(∀ z,z∈p ↔ z∈l.take j)→x=y→∀ z,z∈p ↔ z∈l.take (j + 1):=by
  intro j x y p hj hx hy hm e z
  subst e
  rw [hm,List.take_add_one,hy]
  simp
  rintro rfl
  refine List.mem_of_getElem? (i:=j - 1) ?_
  rw [List.getElem?_take,if_pos (by omega)]
  exact hx
 refine ⟨fun n st w'=>∃ (q:Sl) (j:Nat),st=(q,(j:Int),())∧n=l.length - j∧1≤j∧j≤l.length∧(l.take j).Pairwise (· < ·)∧Keeps [] w w',⟨_,⟨none,0,0⟩,1,rfl,rfl,by omega,by omega,?_,Keeps.refl _ _⟩,?_⟩
 ·obtain ⟨x,hx⟩:=get 0 (by omega)
  rw [List.take_add_one,hx]
  simp
 rintro n _ w1 ⟨q,j,rfl,rfl,hj1,hj,hpw,k1⟩
 dsimp only
 have h1:=h.keeps k1 (by simp)
 by_cases hlt:j < l.length
 ·rw [decide_eq_true (by omega)]
  simp only [Br_true,Dr]
  have kd:Keeps [] w w1.drew:=k1.drew
  have hd:=h.keeps kd (by simp)
  obtain ⟨y,hy⟩:=get j hlt
  obtain ⟨x,hx⟩:=get (j - 1) (by omega)
  refine Ix_cu hd hy ?_
  rw [w64m (by omega) (by omega)]
  refine Ix_cu hd hx ?_
  by_cases hxy:x=y
  ·rw [show (y == x)=true from by simp [hxy]]
   simp only [Br_true]
   refine ⟨⟨by omega,by omega⟩,?_⟩
   simp only [Int.toNat_natCast]
   refine ⟨fun n st w'=>∃ (i k:Nat) (cur:List Int),st=((i:Int),(k:Int),())∧n=l.length - (j + k)∧1≤k∧j + k≤l.length∧i < j + k∧cur.length=l.length∧(cur.take i).Pairwise (· < ·)∧(∀ z,z∈cur.take i ↔ z∈l.take (j + k))∧cur.drop (j + k - 1)=l.drop (j + k - 1)∧SlC w' s 1 (cU cur)∧Keeps (blk s) w w',
    ⟨_,j,1,l,rfl,rfl,by omega,by omega,by omega,rfl,hpw,skip hj1 hx hy (fun _=>Iff.rfl) hxy,rfl,hd,kd.mono (by simp)⟩,?_⟩
   rintro n _ w2 ⟨i,k,cur,rfl,rfl,hk1,hjk,hik,hcl,hcp,hcm,hcd,h2,k2⟩
   dsimp only
   by_cases hlt2:j + k < l.length
   ·rw [decide_eq_true (by omega)]
    simp only [Br_true]
    have hcur:∀ m,j + k - 1≤m→cur[m]?=l[m]?:=by
     intro m hm
     have e:=congrArg (fun q=>q[m - (j + k - 1)]?) hcd
     simp only [List.getElem?_drop] at e
     rwa [show j + k - 1 + (m - (j + k - 1))=m from by omega] at e
    obtain ⟨y2,hy2⟩:=get (j + k) hlt2
    obtain ⟨x2,hx2⟩:=get (j + k - 1) (by omega)
    refine Jp_of (fun st w'=>∃ (i':Nat) (cur':List Int),st=((i':Int),())∧i' < j + k + 1∧cur'.length=l.length∧(cur'.take i').Pairwise (· < ·)∧(∀ z,z∈cur'.take i' ↔ z∈l.take (j + k + 1))∧cur'.drop (j + k)=l.drop (j + k)∧SlC w' s 1 (cU cur')∧Keeps (blk s) w w') (fun J hJ=>?_) ?_
    rotate_left
    ·rintro _ w3 ⟨i',cur',rfl,g1,g2,g3,g4,g5,g6,g7⟩
     exact ⟨l.length - (j + (k + 1)),by omega,i',k + 1,cur',by rw [w64p (by omega)],rfl,by omega,by omega,by omega,g2,g3,g4,by rw [show j + (k + 1) - 1=j + k from by omega];exact g5,g6,g7⟩
    simp only [Dr]
    have kd2:Keeps [] w2 w2.drew:=(Keeps.refl _ _).drew
    have h2d:=h2.keeps kd2 (by simp)
    have hsub:SlC w2.drew ⟨slOff s.p s.cap j 1,s.len - j,s.cap - j⟩ 1 (cU (cur.drop j)):=by
     have:=h2d.sub (lo:=j) (hi:=s.len) (by omega) (Nat.le_refl _)
     rwa [Nat.mul_one,Nat.mul_one,cU,← List.map_drop,List.take_of_length_le (by simp;omega)] at this
    have hcj:(cur.drop j)[k]?=some y2:=by rw [List.getElem?_drop,hcur _ (by omega),hy2]
    have hcj1:(cur.drop j)[k - 1]?=some x2:=by rw [List.getElem?_drop,show j + (k - 1)=j + k - 1 from by omega,hcur _ (by omega),hx2]
    refine Ix_cu hsub hcj ?_
    rw [w64m (by omega) (by omega)]
    refine Ix_cu hsub hcj1 ?_
    have hcd':cur.drop (j + k)=l.drop (j + k):=by
     have e:=congrArg (List.drop 1) hcd
     rwa [List.drop_drop,List.drop_drop,show j + k - 1 + 1=j + k from by omega] at e
    by_cases hne:x2=y2
    ·rw [show (y2 != x2)=false from by simp [hne]]
     simp only [Br_false]
     exact hJ _ _ ⟨i,cur,rfl,by omega,hcl,hcp,skip (by omega) hx2 hy2 hcm hne,hcd',h2d,k2.trans kd2 (by simp)⟩
    ·rw [show (y2 != x2)=true from by simp;exact fun e=>hne e.symm]
     simp only [Br_true]
     refine Ix_cu hsub hcj ?_
     refine Ix_su h2d (by omega) y2 ?_
     intro w3 h3 k3
     have htk:(cur.set i y2).take (i + 1)=cur.take i ++ [y2]:=by
      rw [List.take_add_one,List.take_set_of_le (by omega),List.getElem?_set_self (by omega)]
      rfl
     obtain ⟨g1,g2⟩:=step (by omega) hx2 hy2 hcp hcm hne
     refine hJ _ _ ⟨i + 1,cur.set i y2,by rw [w64p (by omega)],by omega,by simp [hcl],by rw [htk];exact g1,by rw [htk];exact g2,by rw [List.drop_set_of_lt (by omega),hcd'],h3,(k2.trans kd2 (by simp)).trans k3 (fun _ hx=>.inl hx)⟩
   ·rw [decide_eq_false (by omega)]
    simp only [Br_false]
    have hjl:j + k=l.length:=by omega
    refine ⟨⟨by omega,by omega⟩,?_⟩
    simp only [Int.toNat_natCast]
    refine ClrS_front h2 (by kernel_rfl) zc26 (by omega) ?_
    intro w3 h3 k3 _
    refine ⟨⟨by omega,by omega⟩,?_⟩
    rw [slOff_zero]
    refine hR (⟨s.p,i - 0,s.cap - 0⟩,()) _ ⟨cur.take i,?_,hcp,?_,fun _ hx=>hx,k2.trans k3 (fun _ hx=>.inl hx)⟩
    ·rw [Nat.mul_one,cU,← List.map_take] at h3
     exact h3
    ·intro z
     rw [hcm,List.take_of_length_le (by omega)]
  ·rw [show (y == x)=false from by simp;exact fun e=>hxy e.symm]
   simp only [Br_false]
   refine ⟨l.length - (j + 1),by omega,q,j + 1,by rw [w64p (by omega)],rfl,by omega,by omega,?_,kd⟩
   rw [List.take_add_one,hy]
   exact (step hj1 hx hy hpw (fun _=>Iff.rfl) hxy).1
 ·rw [decide_eq_false (by omega)]
  rw [List.take_of_length_le (by omega)] at hpw
  exact hR (s,()) _ ⟨l,h1,hpw,fun _=>Iff.rfl,fun _ hx=>hx,k1.mono (by simp)⟩
theorem set_ok {w:World} {s:Sl} {l:List Int} (h:SlC w s 1 (cU l)) (hN:l.length≤65000) :
  Cl Pg i_locks_set [.slice s.p s.len s.cap] false [.sc .sl] (fun r w'=>∃ l',SlC w' r.1 1 (cU l')∧l'.Pairwise (· < ·)∧(∀ x,x∈l' ↔ x∈l)∧(∀ x∈blk r.1,x∈blk s)∧Keeps (blk s) w w') w:=by
 refine Cl_gen fun R hR=>?_
 apply locks_set_call
 unfold locks_set
 refine Cl.mono (Sort_ok h hN) ?_
 rintro _ w1 ⟨l1,hp,hs,h1,k1⟩
 refine Cl.mono (Compact_ok h1 hs (by rw [hp.length_eq];exact hN)) ?_
 rintro ⟨r,_⟩ w2 ⟨l2,h2,g1,g2,g3,k2⟩
 exact hR (r,()) _ ⟨l2,h2,g1,fun x=>(g2 x).trans hp.mem_iff,g3,k1.trans k2 (fun _ hx=>.inl hx)⟩
end Go.Proofs.YthkdehgfdllpoaaGreat
set_option linter.unusedVariables false
set_option linter.unusedSimpArgs false
namespace Go.Proofs.YthkdehgfdllpoaaGreat
open Go Go.Sx
def cmpI (x y:Int):Int:=if x < y then -1 else if y < x then 1 else 0
theorem isNaN_k (z:Int) {w:World} {K:TR [.sc .b]→Pr} (hK:K (false,()) w):Cl Pg i_cmp_isNaN_uint64 [.int .u64 z] false [.sc .b] K w:=by
 apply cmp_isNaN_uint64_call
 unfold cmp_isNaN_uint64
 rw [show (z != z)=false from by simp]
 exact hK
theorem Compare_k (x y:Int) {w:World} {K:TR [.sc (.i .i64)]→Pr} (hK:K (cmpI x y,()) w):Cl Pg i_cmp_Compare_uint64 [.int .u64 x,.int .u64 y] false [.sc (.i .i64)] K w:=by
 apply cmp_Compare_uint64_call
 unfold cmp_Compare_uint64
 refine isNaN_k x ?_
 refine isNaN_k y ?_
 simp only [Br_false]
 unfold cmpI at hK
 by_cases h1:x < y
 ·rw [decide_eq_true h1]
  rwa [if_pos h1] at hK
 ·rw [decide_eq_false h1]
  rw [if_neg h1] at hK
  simp only [Br_false]
  by_cases h2:y < x
  ·rw [decide_eq_true (show x > y from h2)]
   rwa [if_pos h2] at hK
  ·rw [decide_eq_false (show ¬ x > y from h2)]
   rwa [if_neg h2] at hK
theorem cmpI_lt {x y:Int}:cmpI x y < 0 ↔ x < y:=by unfold cmpI;split <;> (try split) <;> omega
theorem cmpI_eq {x y:Int}:(cmpI x y == 0)=decide (x=y):=by
 unfold cmpI
 split
 ·rw [decide_eq_false (by omega)];rfl
 ·split
  ·rw [decide_eq_false (by omega)];rfl
  ·rw [decide_eq_true (by omega)];rfl
theorem bs_split {α:Type} {l:List α} {f:α→Int} (hs:l.Pairwise (fun a b=>f a < f b)) (t:Int):(∀ y∈l.take (bsAt (fun x=>cmpI (f x) t) l),f y < t)∧(∀ y∈l.drop (bsAt (fun x=>cmpI (f x) t) l),t≤f y):=by
 have hp:l.Pairwise (fun a b=>cmpI (f b) t < 0→cmpI (f a) t < 0):=hs.imp fun h=>by rw [cmpI_lt,cmpI_lt];omega
 constructor
 ·intro y hy
  obtain ⟨j,hj,rfl⟩:=List.mem_take_iff_getElem.1 hy
  exact cmpI_lt.1 (bsAt_lt (c:=fun x=>cmpI (f x) t) (l:=l) (j:=j) (List.getElem?_eq_getElem (by omega)) (by omega))
 ·intro y hy
  obtain ⟨j,hj⟩:=List.getElem?_of_mem hy
  rw [List.getElem?_drop] at hj
  have h2:=bsAt_ge hp hj (Nat.le_add_right _ _)
  have h3:¬ (cmpI (f y) t < 0):=by omega
  rw [cmpI_lt] at h3
  omega
theorem Search_ok {w:World} {s:Sl} {l:List Ak} (h:As w s l) (hs:l.Pairwise (fun a b=>a.n < b.n)) (t:Int) (hN:l.length≤1000) :
  Cl Pg i_slices_BinarySearchFunc_Ask [.slice s.p s.len s.cap,.int .u64 t,.func (.func 70) #[] #[]] true [.sc (.i .i64),.sc .b] (fun r w'=>∃ i:Nat,r.1=(i:Int)∧i≤l.length∧(∀ y∈l.take i,y.n < t)∧(∀ y∈l.drop i,t≤y.n)∧Keeps [] w w') w:=by
 refine Cl_gen fun R hR=>?_
 apply slices_BinarySearchFunc_Ask_call
 refine BinarySearchFunc_of (c:=fun x:Ak=>cmpI x.n t) (ldA_ok akR) h.rde ?_ ?_ (by omega) ?_
 ·intro w1 k1 x _ K hK
  refine CallV_fn0 (g:=i_locks_Table_Ask_1) (by kernel_rfl) ?_
  refine locks_Table_Ask_1_call x.n x.lo x.hi x.wr t ?_
  unfold locks_Table_Ask_1
  refine New_bx fun b w2 h2 n2 k2=>?_
  simp only [sxn,h2,sxl,Nat.reduceAdd]
  exact Compare_k _ _ (hK _ k2)
 ·exact hs.imp fun h=>by rw [cmpI_lt,cmpI_lt];omega
 ·intro w' k
  exact hR _ _ ⟨_,rfl,bsAt_le _ _,(bs_split hs t).1,(bs_split hs t).2,k⟩
structure TS where
 held:List Ak
 wait:List Ak
deriving DecidableEq
structure TOk (s:TS):Prop where
 wt:s.wait.Pairwise (fun a b=>a.n < b.n)
 few:s.held.length + s.wait.length≤192
structure TAtX (w:World) (t:Nat) (H:Nat→Prop) (s:TS) (sh sw:Sl):Prop where
 hd:w.heap[t]?=some (.cells #[.slice sh.p sh.len sh.cap,.slice sw.p sw.len sw.cap] 141 (0,0))
 h:As w sh s.held
 w:As w sw s.wait
 th:t ∉ blk sh
 tw:t ∉ blk sw
 hw:∀ x∈blk sh,x ∉ blk sw
 own:∀ x,H x ↔ x=t∨x∈blk sh∨x∈blk sw
def TAt (w:World) (t:Nat) (H:Nat→Prop) (s:TS):Prop:=∃ sh sw,TAtX w t H s sh sw
theorem TAtX.bl {w:World} {t:Nat} {H:Nat→Prop} {s:TS} {sh sw:Sl} (h:TAtX w t H s sh sw):Bl H w:=by
 intro x hx
 rcases (h.own x).1 hx with rfl | hx | hx
 ·exact hp_lt h.hd
 ·exact h.h.lt x hx
 ·exact h.w.lt x hx
theorem TAt.bl {w:World} {t:Nat} {H:Nat→Prop} {s:TS} (h:TAt w t H s):Bl H w:=by
 obtain ⟨sh,sw,h⟩:=h
 exact h.bl
theorem TAtX.keeps {w w':World} {t:Nat} {H F:Nat→Prop} {s:TS} {sh sw:Sl} (h:TAtX w t H s sh sw) (hk:KeepsP F w w') (hd:Dj H F):TAtX w' t H s sh sw:=
 ⟨hk.at h.hd (hd t ((h.own t).2 (.inl rfl))),h.h.keepsP hk (fun x hx=>hd x ((h.own x).2 (.inr (.inl hx)))),h.w.keepsP hk (fun x hx=>hd x ((h.own x).2 (.inr (.inr hx)))),h.th,h.tw,h.hw,h.own⟩
theorem TAt.keeps {w w':World} {t:Nat} {H F:Nat→Prop} {s:TS} (h:TAt w t H s) (hk:KeepsP F w w') (hd:Dj H F):TAt w' t H s:=by
 obtain ⟨sh,sw,h⟩:=h
 exact ⟨sh,sw,h.keeps hk hd⟩
theorem TAtX.keeps0 {w w':World} {t:Nat} {H:Nat→Prop} {s:TS} {sh sw:Sl} (h:TAtX w t H s sh sw) (hk:Keeps [] w w'):TAtX w' t H s sh sw:=h.keeps (hk.toP (F:=fun _=>False) (by simp)) (fun _ _ h=>h)
theorem TAt.keeps0 {w w':World} {t:Nat} {H:Nat→Prop} {s:TS} (h:TAt w t H s) (hk:Keeps [] w w'):TAt w' t H s:=h.keeps (hk.toP (F:=fun _=>False) (by simp)) (fun _ _ h=>h)
theorem TAtX.setH {w w1 w2:World} {t:Nat} {H:Nat→Prop} {s:TS} {sh sw r:Sl} {l:List Ak} (h:TAtX w t H s sh sw) (k1:Keeps (blk sh) w w1) (hr:As w1 r l) (hb:∀ x∈blk r,x∈blk sh∨w.heap.size≤x) (k2:Keeps [t] w1 w2)
  (hd:w2.heap[t]?=some (.cells #[.slice r.p r.len r.cap,.slice sw.p sw.len sw.cap] 141 (0,0))) :
  ∃ H',TAtX w2 t H' ⟨l,s.wait⟩ r sw∧Fr H H' w∧KeepsP H w w2:=by
 have htl:=hp_lt h.hd
 have tr:t ∉ blk r:=fun hx=>by rcases hb t hx with h' | h';exact h.th h';omega
 have rw':∀ x∈blk r,x ∉ blk sw:=fun x hx hx2=>by rcases hb x hx with h' | h';exact h.hw x h' hx2;have:=h.w.lt x hx2;omega
 refine ⟨fun x=>x=t∨x∈blk r∨x∈blk sw,⟨hd,hr.keeps k2 (fun x hx=>by simp;rintro rfl;exact tr hx),(h.w.keeps k1 (fun x hx h'=>h.hw x h' hx)).keeps k2 (fun x hx=>by simp;rintro rfl;exact h.tw hx),tr,h.tw,rw',fun _=>Iff.rfl⟩,?_,?_⟩
 ·rintro x (rfl | hx | hx)
  ·exact .inl ((h.own _).2 (.inl rfl))
  ·rcases hb x hx with h' | h'
   ·exact .inl ((h.own _).2 (.inr (.inl h')))
   ·exact .inr h'
  ·exact .inl ((h.own _).2 (.inr (.inr hx)))
 ·exact (k1.toP (F:=H) (fun x hx=>.inl ((h.own _).2 (.inr (.inl hx))))).step k2 (by simp;exact .inl ((h.own _).2 (.inl rfl)))
theorem TAtX.setW {w w1 w2:World} {t:Nat} {H:Nat→Prop} {s:TS} {sh sw r:Sl} {l:List Ak} (h:TAtX w t H s sh sw) (k1:Keeps (blk sw) w w1) (hr:As w1 r l) (hb:∀ x∈blk r,x∈blk sw∨w.heap.size≤x) (k2:Keeps [t] w1 w2)
  (hd:w2.heap[t]?=some (.cells #[.slice sh.p sh.len sh.cap,.slice r.p r.len r.cap] 141 (0,0))) :
  ∃ H',TAtX w2 t H' ⟨s.held,l⟩ sh r∧Fr H H' w∧KeepsP H w w2:=by
 have htl:=hp_lt h.hd
 have tr:t ∉ blk r:=fun hx=>by rcases hb t hx with h' | h';exact h.tw h';omega
 have rw':∀ x∈blk sh,x ∉ blk r:=fun x hx hx2=>by rcases hb x hx2 with h' | h';exact h.hw x hx h';have:=h.h.lt x hx;omega
 refine ⟨fun x=>x=t∨x∈blk sh∨x∈blk r,⟨hd,(h.h.keeps k1 (fun x hx h'=>h.hw x hx h')).keeps k2 (fun x hx=>by simp;rintro rfl;exact h.th hx),hr.keeps k2 (fun x hx=>by simp;rintro rfl;exact tr hx),h.th,tr,rw',fun _=>Iff.rfl⟩,?_,?_⟩
 ·rintro x (rfl | hx | hx)
  ·exact .inl ((h.own _).2 (.inl rfl))
  ·exact .inl ((h.own _).2 (.inr (.inl hx)))
  ·rcases hb x hx with h' | h'
   ·exact .inl ((h.own _).2 (.inr (.inr h')))
   ·exact .inr h'
 ·exact (k1.toP (F:=H) (fun x hx=>.inl ((h.own _).2 (.inr (.inr hx))))).step k2 (by simp;exact .inl ((h.own _).2 (.inl rfl)))
def dropA (n:Int) (s:TS):TS:=⟨s.held.filter (fun x=>!(x.n == n)),s.wait.filter (fun x=>!(x.n == n))⟩
theorem TOk.drop {s:TS} (h:TOk s) (n:Int):TOk (dropA n s):=by
 refine ⟨h.wt.filter _,?_⟩
 have h1:=List.length_filter_le (fun x:Ak=>!(x.n == n)) s.held
 have h2:=List.length_filter_le (fun x:Ak=>!(x.n == n)) s.wait
 have:=h.few
 unfold dropA
 dsimp only
 omega
def TSt (w w':World) (t:Nat) (H:Nat→Prop) (s':TS):Prop:=∃ H',TAt w' t H' s'∧Fr H H' w∧KeepsP H w w'
theorem drop_ok {w:World} {t:Nat} {H:Nat→Prop} {s:TS} (h:TAt w t H s) (ho:TOk s) (n:Int) :
  Cl Pg i_locks_Table_drop [.pointer (some ⟨t,0,none⟩),.int .u64 n] true [] (fun _ w'=>TSt w w' t H (dropA n s)) w:=by
 obtain ⟨sh,sw,h⟩:=h
 have hfew:=ho.few
 refine Cl_gen fun R hR=>?_
 apply locks_Table_drop_call
 unfold locks_Table_drop
 simp only [sxn,h.hd,sxl,Nat.reduceAdd]
 have kd:Keeps [] w w.drew:=(Keeps.refl _ _).drew
 refine Cl.mono (of_ok n _) ?_
 rintro ⟨f,_⟩ w1 ⟨e,n1,hf,k1⟩
 dsimp only at hf ⊢
 have k01:=kp0 kd k1
 have g1:=h.keeps0 k01
 have hne:e ∉ blk sh:=fun hx=>by have:=h.h.lt e hx;have:e < w.drew.heap.size:=this;omega
 simp only [sxn,g1.hd,sxl,Nat.reduceAdd]
 refine ⟨by trivial,?_⟩
 refine Cl.mono (DeleteFunc_ok g1.h (hf _ hne) (by omega)) ?_
 rintro ⟨r,_⟩ w2 ⟨h2,hb2,k2⟩
 dsimp only at h2 hb2 ⊢
 have hd2:=k2.at g1.hd g1.th
 refine set_box hd2 0 _ rfl (by simp) fun w3 hd3 k3=>?_
 obtain ⟨H3,g3,f3,kp3⟩:=g1.setH k2 h2 (fun x hx=>.inl (hb2 x hx)) k3 hd3
 simp only [sxn,g3.hd,sxl,Nat.reduceAdd]
 refine Cl.mono (of_ok n _) ?_
 rintro ⟨f,_⟩ w4 ⟨e,n4,hf,k4⟩
 dsimp only at hf ⊢
 have g4:=g3.keeps0 (kp0 ((Keeps.refl [] w3).drew) k4)
 have hne:e ∉ blk sw:=fun hx=>by have:=g3.w.lt e hx;have:e < w3.drew.heap.size:=this;omega
 simp only [sxn,g4.hd,sxl,Nat.reduceAdd]
 refine ⟨by trivial,?_⟩
 refine Cl.mono (DeleteFunc_ok g4.w (hf _ hne) (by dsimp only;omega)) ?_
 rintro ⟨r2,_⟩ w5 ⟨h5,hb5,k5⟩
 dsimp only at h5 hb5 ⊢
 have hd5:=k5.at g4.hd g4.tw
 refine set_box hd5 1 _ rfl (by simp) fun w6 hd6 k6=>?_
 obtain ⟨H6,g6,f6,kp6⟩:=g4.setW k5 h5 (fun x hx=>.inl (hb5 x hx)) k6 hd6
 have s1:w.heap.size≤w1.heap.size:=k01.size
 have s3:w1.heap.size≤w3.heap.size:=kp3.size
 have s4:w3.heap.size≤w4.heap.size:=k4.size
 refine hR _ _ ⟨H6,⟨_,_,g6⟩,?_,?_⟩
 ·intro x hx
  rcases f6 x hx with h' | h'
  ·rcases f3 x h' with h'' | h''
   ·exact .inl h''
   ·exact .inr (by omega)
  ·exact .inr (by omega)
 ·have q1:KeepsP H w w3:=(k01.toP (F:=H) (by simp)).same kp3
  have q2:KeepsP H w w4:=q1.step (kp0 ((Keeps.refl [] w3).drew) k4) (by simp)
  exact q2.trans kp6 (fun x hx=>by
   rcases f3 x hx with h' | h'
   ·exact .inl h'
   ·exact .inr (by omega))
end Go.Proofs.YthkdehgfdllpoaaGreat
set_option linter.unusedVariables false
set_option linter.unusedSimpArgs false
namespace Go.Proofs.YthkdehgfdllpoaaGreat
open Go Go.Sx
def killed (x:Ak) (wt:List Ak):List Int:=(wt.filter (fun w=>decide (x.n < w.n) && wayA x w)).map (·.n)
def dropAll (d:List Int) (s:TS):TS:=d.foldl (fun s n=>dropA n s) s
def grantA (x:Ak) (s:TS):List Int × TS:=(killed x s.wait,dropAll (killed x s.wait) ⟨s.held ++ [x],s.wait⟩)
theorem TOk.dropAll {d:List Int} {s:TS} (h:TOk s):TOk (dropAll d s):=by
 unfold YthkdehgfdllpoaaGreat.dropAll
 induction d generalizing s with
 | nil=>exact h
 | cons n d ih=>exact ih (h.drop n)
theorem killed_len (x:Ak) (l:List Ak):(killed x l).length≤l.length:=by
 unfold killed
 rw [List.length_map]
 exact List.length_filter_le _ _
theorem killed_succ (x:Ak) (l:List Ak) {i:Nat} {y:Ak} (hy:l[i]?=some y):killed x (l.take (i + 1))=killed x (l.take i) ++ (if decide (x.n < y.n) && wayA x y then [y.n] else []):=by
 unfold killed
 rw [List.take_add_one,hy,List.filter_append,List.map_append]
 congr 1
 cases hc:decide (x.n < y.n) && wayA x y <;> simp [hc]
theorem grant_ok {w:World} {t:Nat} {H:Nat→Prop} {s:TS} (h:TAt w t H s) {x:Ak} (ho:TOk ⟨s.held ++ [x],s.wait⟩) :
  Cl Pg i_locks_Table_grant [.pointer (some ⟨t,0,none⟩),vA x] false [.sc .sl] (fun r w'=>∃ H',TAt w' t H' (grantA x s).2∧Fr H H' w∧KeepsP H w w'∧SlC w' r.1 1 (cU (grantA x s).1)∧(∀ y∈blk r.1,w.heap.size≤y∧¬ H' y)) w:=by
 obtain ⟨sh,sw,h⟩:=h
 have hfew:=ho.few
 rw [List.length_append] at hfew
 simp only [List.length_singleton] at hfew
 have hlh:=as_len h.h
 have hlw:=as_len h.w
 refine Cl_gen fun R hR=>?_
 apply locks_Table_grant_call
 unfold locks_Table_grant
 have ltH:∀ y,H y→y < w.heap.size:=h.bl
 refine New_bx fun a w1 ha na k1=>?_
 have g1:=h.keeps0 k1
 simp only [sxn,g1.hd,ha,sxl,Nat.reduceAdd]
 have la:=hp_lt ha
 refine New_bx fun c w2 hc nc k2=>?_
 have g2:=(h.keeps0 k1.drew).keeps0 k2
 have ha:=k2.at (w:=w1.drew) ha (by simp)
 simp only [sxn,g2.hd,sxl,Nat.reduceAdd]
 refine ⟨by trivial,?_⟩
 refine SlC.app (ρ:=akR) (new:=[x]) g2.h (by rw [List.flatMap_singleton];exact box_src (ρ:=akR) (x:=x) hc) rfl (by rw [zcA];rfl) (by omega) (by omega) ?_
 intro r w3 h3' k3 hb3
 have hd3:=k3.at g2.hd g2.th
 have hash:a ∉ blk sh:=fun hx=>by have:=h.h.lt a hx;omega
 have hat:a ≠ t:=fun e=>by have:=hp_lt h.hd;omega
 have ha:=k3.at ha hash
 refine set_box hd3 0 _ rfl (by simp) fun w4 hd4 k4=>?_
 obtain ⟨H4,g4,f4,kp4⟩:=g2.setH k3 h3' hb3 k4 hd4
 have ha:=k4.at ha (by simpa using hat)
 have hd4':=g4.hd
 simp only [sxn,ha,sxl,Nat.reduceAdd]
 refine Cl.mono (against_ok x _) ?_
 rintro ⟨f,_⟩ w5 ⟨e,ne,hf,k5⟩
 dsimp only at hf ⊢
 have g5:=g4.keeps0 k5
 have ha:=k5.at ha (by simp)
 have hbl5:∀ y,H4 y→y < w5.heap.size:=g5.bl
 simp only [sxn,g5.hd,sxl,Nat.reduceAdd]
 have size02:w.heap.size≤w2.heap.size:=by have:=k1.size;have:=k2.size;have:w1.drew.heap.size=w1.heap.size:=rfl;omega
 have size05:w.heap.size≤w5.heap.size:=by have:=k3.size;have:=k4.size;have:=k5.size;omega
 refine ⟨fun n st w'=>∃ (i:Nat) (ds:Sl),st=(ds,(i:Int),())∧n=s.wait.length - i∧i≤s.wait.length∧SlC w' ds 1 (cU (killed x (s.wait.take i)))∧(∀ y∈blk ds,w5.heap.size≤y)∧Keeps [] w5 w',⟨_,0,⟨none,0,0⟩,rfl,rfl,by omega,SlC.nil _ 1,by simp [blk],Keeps.refl _ _⟩,?_⟩
 rintro n _ w6 ⟨i,ds,rfl,rfl,hi,h6,hb6,k6⟩
 dsimp only
 have g6:=g5.keeps0 k6
 have ha:=k6.at ha (by simp)
 have hl6:=cU_slen h6
 have hkl:=killed_len x (s.wait.take i)
 rw [List.length_take] at hkl
 by_cases hlt:i < s.wait.length
 ·rw [decide_eq_true (by omega)]
  simp only [Br_true]
  obtain ⟨y,hy⟩:∃ y,s.wait[i]?=some y:=⟨_,List.getElem?_eq_getElem hlt⟩
  refine Jp_of (fun st w'=>∃ ds',st=(ds',())∧SlC w' ds' 1 (cU (killed x (s.wait.take (i + 1))))∧(∀ y∈blk ds',w5.heap.size≤y)∧Keeps [] w5 w') (fun J hJ=>?_) ?_
  rotate_left
  ·rintro _ w7 ⟨ds',rfl,h7,hb7,k7⟩
   exact ⟨s.wait.length - (i + 1),by omega,i + 1,ds',by rw [w64p (by omega)],rfl,by omega,h7,hb7,k7⟩
  refine as_ld g6.w hy ?_
  refine bx4 fun b w7 hb n7 k7=>?_
  have ha:=k7.at ha (by simp)
  refine Jp_of (fun st w'=>st=(decide (x.n < y.n) && wayA x y,())∧w'.heap[b]?=some (.cells #[.int .u64 y.n,.string y.lo,.string y.hi,.bool y.wr] 146 (0,0))∧Keeps [] w7 w') (fun J2 hJ2=>?_) ?_
  ·simp only [sxn,ha,hb,sxl,Nat.reduceAdd]
   by_cases hlt2:x.n < y.n
   ·rw [decide_eq_true (show y.n > x.n from hlt2)]
    simp only [sxn,hb,sxl,Nat.reduceAdd]
    refine CallV.mono ((hf [] (by simp)).to k6 w7 k7 y) ?_
    rintro ⟨q,_⟩ w8 ⟨e8,k8⟩
    dsimp only at e8
    subst e8
    exact hJ2 _ _ ⟨by rw [decide_eq_true hlt2];rfl,k8.at hb (by simp),k8⟩
   ·rw [decide_eq_false (show ¬ y.n > x.n from hlt2)]
    exact hJ2 _ _ ⟨by rw [decide_eq_false hlt2];rfl,hb,Keeps.refl _ _⟩
  ·rintro _ w8 ⟨rfl,hb8,k8⟩
   dsimp only
   have k58:=kp0 (kp0 k6 k7) k8
   have h8:=h6.keeps (kp0 k7 k8) (by simp)
   cases hcond:decide (x.n < y.n) && wayA x y with
   | true=>
    simp only [sxn,hb8,sxl,Nat.reduceAdd]
    refine NewApp_of (bytes:=8) (new:=[.int .u64 y.n]) h8 (by simp) (by simp [Value.oneCell']) (by kernel_rfl) (by omega) (by omega) ?_
    intro r9 w9 h9 _ k9 hb9
    refine hJ (r9,()) _ ⟨r9,rfl,?_,fun z hz=>?_,kpx k58 k9 (fun z hz=>hb6 z hz)⟩
    ·rw [killed_succ x s.wait hy,hcond,if_pos rfl,cU,List.map_append]
     exact h9
    ·rcases hb9 z hz with h' | h'
     ·exact hb6 z h'
     ·have:=k58.size;omega
   | false=>
    refine hJ (ds,()) _ ⟨ds,rfl,?_,hb6,k58⟩
    rw [killed_succ x s.wait hy,hcond,if_neg (by simp),List.append_nil]
    exact h8
 ·rw [decide_eq_false (by omega)]
  simp only [Br_false]
  rw [List.take_of_length_le (by omega)] at h6
  generalize hd:killed x s.wait=d at h6
  have hdl:d.length≤192:=by rw [← hd];have:=killed_len x s.wait;omega
  have hdl':=cU_slen h6
  have hnH:∀ y∈blk ds,¬ H4 y:=fun y hy hH=>by have:=hb6 y hy;have:=hbl5 y hH;omega
  refine ⟨fun n st w'=>∃ (i:Nat) (H':Nat→Prop),st=((i:Int),())∧n=d.length - i∧i≤d.length∧TAt w' t H' (dropAll (d.take i) ⟨s.held ++ [x],s.wait⟩)∧Fr H4 H' w6∧KeepsP H4 w6 w'∧SlC w' ds 1 (cU d)∧(∀ y∈blk ds,¬ H' y),⟨_,0,H4,rfl,rfl,by omega,⟨_,_,g6⟩,Fr.refl _ _,KeepsP.refl _ _,h6,hnH⟩,?_⟩
  rintro n _ w7 ⟨i,H',rfl,rfl,hi,h7,f7,k7,hds,hn7⟩
  dsimp only
  by_cases hlt2:i < d.length
  ·rw [decide_eq_true (by omega)]
   simp only [Br_true]
   obtain ⟨y,hy⟩:∃ y,d[i]?=some y:=⟨_,List.getElem?_eq_getElem hlt2⟩
   refine Ix_cu hds hy ?_
   refine Cl.mono (drop_ok h7 (TOk.dropAll ho) y) ?_
   rintro _ w8 ⟨H8,h8,f8,k8⟩
   refine ⟨d.length - (i + 1),by omega,i + 1,H8,by rw [w64p (by omega)],rfl,by omega,?_,f7.trans f8 k7.size,k7.trans k8 (fun z hz=>f7 z hz),hds.keepsP k8 hn7,fun z hz hH=>?_⟩
   ·rw [List.take_add_one,hy]
    unfold dropAll at h8 ⊢
    rw [List.foldl_append]
    exact h8
   ·rcases f8 z hH with h' | h'
    ·exact hn7 z hz h'
    ·have:=hds.lt z hz;omega
  ·rw [decide_eq_false (by omega)]
   rw [List.take_of_length_le (by omega)] at h7
   have e1:(grantA x s).1=d:=hd
   have e2:(grantA x s).2=dropAll d ⟨s.held ++ [x],s.wait⟩:=by rw [← hd];rfl
   have size26:w2.heap.size≤w6.heap.size:=by have:=k3.size;have:=k4.size;have:=k5.size;have:=k6.size;omega
   refine hR (ds,()) _ ⟨H',by rw [e2];exact h7,?_,?_,by rw [e1];exact hds,fun z hz=>⟨by have:=hb6 z hz;omega,hn7 z hz⟩⟩
   ·intro z hz
    rcases f7 z hz with h' | h'
    ·rcases f4 z h' with h'' | h''
     ·exact .inl h''
     ·exact .inr (by omega)
    ·exact .inr (by omega)
   ·have q1:KeepsP H w w4:=((kp0 k1.drew k2).toP (F:=H) (by simp)).same kp4
    have q2:KeepsP H w w6:=q1.step (kp0 k5 k6) (by simp)
    refine q2.trans k7 (fun z hz=>?_)
    rcases f4 z hz with h' | h'
    ·exact .inl h'
    ·exact .inr (by omega)
end Go.Proofs.YthkdehgfdllpoaaGreat
set_option linter.unusedVariables false
set_option linter.unusedSimpArgs false
namespace Go.Proofs.YthkdehgfdllpoaaGreat
open Go Go.Sx
def addA:List Int→Int→List Int
 | [],n=>[n]
 | x :: t,n=>if x < n then x :: addA t n else if x=n then x :: t else n :: x :: t
def setA (l:List Int):List Int:=l.foldl addA []
theorem addA_mem {x n:Int}:∀ {l:List Int},x∈addA l n ↔ x=n∨x∈l
 | []=>by simp [addA]
 | y :: t=>by
  unfold addA
  split
  ·simp only [List.mem_cons,addA_mem (l:=t)]
   constructor <;> (rintro (h | h | h) <;> simp [h])
  ·split
   ·rename_i h
    subst h
    simp
   ·simp
theorem addA_rising {n:Int}:∀ {l:List Int},l.Pairwise (· < ·)→(addA l n).Pairwise (· < ·)
 | [],_=>by simp [addA]
 | y :: t,h=>by
  have h1:=List.pairwise_cons.1 h
  unfold addA
  split
  ·rename_i hy
   refine List.pairwise_cons.2 ⟨fun z hz=>?_,addA_rising h1.2⟩
   rcases addA_mem.1 hz with rfl | hz
   ·exact hy
   ·exact h1.1 z hz
  ·split
   ·exact h
   ·rename_i hy1 hy2
    refine List.pairwise_cons.2 ⟨fun z hz=>?_,h⟩
    rcases List.mem_cons.1 hz with rfl | hz
    ·omega
    ·have:=h1.1 z hz;omega
theorem foldA_rising:∀ {l acc:List Int},acc.Pairwise (· < ·)→(l.foldl addA acc).Pairwise (· < ·)
 | [],_,h=>h
 | x :: l,_,h=>foldA_rising (l:=l) (addA_rising h)
theorem foldA_mem {x:Int}:∀ {l acc:List Int},x∈l.foldl addA acc ↔ x∈acc∨x∈l
 | [],_=>by simp
 | y :: l,acc=>by
  rw [List.foldl_cons,foldA_mem (l:=l),addA_mem,List.mem_cons]
  constructor
  ·rintro ((h | h) | h) <;> simp [h]
  ·rintro (h | h | h) <;> simp [h]
theorem setA_rising (l:List Int):(setA l).Pairwise (· < ·):=foldA_rising (by simp)
theorem setA_mem {x:Int} {l:List Int}:x∈setA l ↔ x∈l:=by unfold setA;rw [foldA_mem];simp
theorem setA_eq {l r:List Int} (h:r.Pairwise (· < ·)) (hm:∀ x,x∈r ↔ x∈l):r=setA l:=rising_unique h (setA_rising l) (fun x=>(hm x).trans setA_mem.symm)
def freeA (s:TS) (y:Ak):Bool:=!(s.held.any (fun h=>wayA y h))
def pickA (x:Ak) (s:TS):List Int × TS:=grantA x ⟨s.held,s.wait.filter (fun y=>!(y.n == x.n))⟩
def settleA:Nat→TS→List Int→List Int→TS × List Int × List Int
 | 0,s,g,d=>(s,g,d)
 | k + 1,s,g,d=>match s.wait.find? (freeA s) with
  | none=>(s,g,d)
  | some x=>settleA k (pickA x s).2 (g ++ [x.n]) (d ++ (pickA x s).1)
theorem filter_short {l:List Ak} {x:Ak} (h:x∈l):(l.filter (fun y=>!(y.n == x.n))).length < l.length:=by
 have h1:=List.length_filter_le (fun y:Ak=>!(y.n == x.n)) l
 rcases Nat.lt_or_eq_of_le h1 with h2 | h2
 ·exact h2
 ·have:=List.length_filter_eq_length_iff.1 h2 x h
  simp at this
theorem pick_ok {s:TS} (ho:TOk s) {x:Ak} (hx:x∈s.wait):TOk ⟨s.held ++ [x],s.wait.filter (fun y=>!(y.n == x.n))⟩:=by
 refine ⟨ho.wt.filter _,?_⟩
 have h1:=filter_short hx
 have:=ho.few
 simp only [List.length_append,List.length_singleton]
 omega
theorem dropAll_wait_le (d:List Int):∀ (s:TS),(dropAll d s).wait.length≤s.wait.length:=by
 unfold dropAll
 induction d with
 | nil=>intro s;exact Nat.le_refl _
 | cons n d ih=>
  intro s
  refine Nat.le_trans (ih _) ?_
  exact List.length_filter_le _ _
theorem pick_wait {s:TS} {x:Ak} (hx:x∈s.wait):(pickA x s).2.wait.length < s.wait.length:=
 Nat.lt_of_le_of_lt (dropAll_wait_le _ _) (filter_short hx)
theorem TOk.pick {s:TS} (ho:TOk s) {x:Ak} (hx:x∈s.wait):TOk (pickA x s).2:=TOk.dropAll (pick_ok ho hx)
theorem TOk.settle:∀ {k:Nat} {s:TS} {g d:List Int},TOk s→TOk (settleA k s g d).1
 | 0,s,g,d,h=>h
 | k + 1,s,g,d,h=>by
  unfold settleA
  split
  ·exact h
  ·rename_i x hx
   exact TOk.settle (h.pick (List.mem_of_find?_eq_some hx))
theorem erase_filter {l:List Ak} (hs:l.Pairwise (fun a b=>a.n < b.n)) {i:Nat} {x:Ak} (hx:l[i]?=some x):l.eraseIdx i=l.filter (fun y=>!(y.n == x.n)):=by
 induction l generalizing i with
 | nil=>simp at hx
 | cons y t ih=>
  have h1:=List.pairwise_cons.1 hs
  cases i with
  | zero=>
   simp only [List.getElem?_cons_zero,Option.some.injEq] at hx
   subst hx
   rw [List.eraseIdx_cons_zero,List.filter_cons_of_neg (by simp),List.filter_eq_self.2]
   intro z hz
   have:=h1.1 z hz
   have:¬ z.n=y.n:=by omega
   simp [this]
  | succ i=>
   rw [List.getElem?_cons_succ] at hx
   have hm:=h1.1 x (List.mem_of_getElem? hx)
   have hne:¬ y.n=x.n:=by omega
   rw [List.eraseIdx_cons_succ,List.filter_cons_of_pos (by simp [hne]),ih h1.2 hx]
theorem settle1_ok {w:World} {e t:Nat} {H:Nat→Prop} {s:TS} {sh sw:Sl} (he:w.heap[e]?=some (.cells #[.pointer (some ⟨t,0,none⟩)] 88 (0,0))) (h:TAtX w t H s sh sw) (ho:TOk s) :
  IsP (.func (.func 106) #[] #[.pointer (some ⟨e,0,none⟩)]) (freeA s) [] w:=by
 intro w1 k1 y
 have he:=k1.at he (by simp)
 have g1:=h.keeps0 k1
 have hfew:=ho.few
 refine CallV_fn (by kernel_rfl) ?_
 refine Cl_gen fun R hR=>?_
 apply locks_Table_settle_1_call
 unfold locks_Table_settle_1
 refine New_bx fun a w2 ha na k2=>?_
 have he:=k2.at he (by simp)
 have g2:=g1.keeps0 k2
 simp only [sxn,he,g2.hd,ha,sxl,Nat.reduceAdd]
 refine Cl.mono (against_ok y _) ?_
 rintro ⟨f,_⟩ w3 ⟨c,nc,hf,k3⟩
 dsimp only at hf ⊢
 have he:=k3.at (w:=w2.drew) he (by simp)
 have g3:=(g1.keeps0 k2.drew).keeps0 k3
 simp only [sxn,he,g3.hd,sxl,Nat.reduceAdd]
 refine ⟨by trivial,by trivial,?_⟩
 refine Cl.mono (ContainsFunc_ok g3.h (hf [] (by simp)) (by omega)) ?_
 rintro ⟨q,_⟩ w4 ⟨e4,k4⟩
 dsimp only at e4
 subst e4
 exact hR _ _ ⟨rfl,kp0 (kp0 k2.drew k3) k4⟩
theorem find_of {l:List Ak} {p:Ak→Bool} {i:Nat} {x:Ak} (hx:l[i]?=some x) (hp:p x=true) (hn:∀ y∈l.take i,p y=false):l.find? p=some x:=by
 induction l generalizing i with
 | nil=>simp at hx
 | cons y t ih=>
  cases i with
  | zero=>
   simp only [List.getElem?_cons_zero,Option.some.injEq] at hx
   subst hx
   exact List.find?_cons_of_pos hp
  | succ i=>
   rw [List.find?_cons_of_neg (by rw [hn y (by simp)];simp)]
   exact ih hx (fun z hz=>hn z (by simp [hz]))
theorem settle_ok {w:World} {t:Nat} {H:Nat→Prop} {s:TS} (h:TAt w t H s) (ho:TOk s) {pd:Sl} {d0:List Int} (hd:SlC w pd 1 (cU d0)) (hdn:∀ y∈blk pd,¬ H y) (hd0:d0.length + s.wait.length * 200≤40000) :
  Cl Pg i_locks_Table_settle [.pointer (some ⟨t,0,none⟩),.slice pd.p pd.len pd.cap] true [.sc .sl,.sc .sl] (fun r w'=>∃ H',TAt w' t H' (settleA s.wait.length s [] d0).1∧Fr H H' w∧KeepsP (fun x=>H x∨x∈blk pd) w w' ∧
   SlC w' r.1 1 (cU (setA (settleA s.wait.length s [] d0).2.1))∧SlC w' r.2.1 1 (cU (setA (settleA s.wait.length s [] d0).2.2))∧(∀ y∈blk r.1,w.heap.size≤y∧¬ H' y)∧(∀ y∈blk r.2.1,(y∈blk pd∨w.heap.size≤y)∧¬ H' y)∧(∀ y∈blk r.1,y ∉ blk r.2.1)) w:=by
 refine Cl_gen fun R hR=>?_
 apply locks_Table_settle_call
 unfold locks_Table_settle
 have hfew0:=ho.few
 refine New_bx fun e w1 he ne k1=>?_
 have heH:¬ H e:=fun hx=>by have:=h.bl e hx;omega
 have hepd:e ∉ blk pd:=fun hx=>by have:=hd.lt e hx;omega
 have le:=hp_lt he
 obtain ⟨D,hD⟩:∃ D,D=settleA s.wait.length s [] d0:=⟨_,rfl⟩
 rw [← hD] at hR
 refine ⟨fun n st w'=>∃ (s':TS) (H':Nat→Prop) (ds gs q1 q2:Sl) (g d:List Int),st=(ds,q1,q2,gs,())∧s'.wait.length≤n∧settleA n s' g d=D∧TAt w' t H' s'∧TOk s'∧Fr H H' w1∧KeepsP (fun x=>H x∨x∈blk pd) w1 w' ∧
   SlC w' ds 1 (cU d)∧SlC w' gs 1 (cU g)∧(∀ y∈blk ds,(y∈blk pd∨w1.heap.size≤y)∧¬ H' y)∧(∀ y∈blk gs,w1.heap.size≤y∧¬ H' y)∧(∀ y∈blk gs,y ∉ blk ds)∧d.length + s'.wait.length * 200≤40000∧g.length + s'.wait.length≤200,
  ⟨_,s,H,pd,⟨none,0,0⟩,⟨none,0,0⟩,⟨none,0,0⟩,[],d0,rfl,Nat.le_refl _,hD.symm,h.keeps0 k1,ho,Fr.refl _ _,KeepsP.refl _ _,hd.keeps k1 (by simp),SlC.nil _ 1,fun y hy=>⟨.inl hy,hdn y hy⟩,by simp [blk],by simp [blk],hd0,by simp;omega⟩,?_⟩
 rintro n _ w2 ⟨s',H',ds,gs,q1,q2,g,d,rfl,hn,hset,h2,ho2,f2,kp2,hds,hgs,hnd,hng,hdg,hb1,hb2⟩
 dsimp only
 have he2:w2.heap[e]?=_:=kp2.at he (fun hx=>hx.elim heH hepd)
 have heH':¬ H' e:=fun hx=>by rcases f2 e hx with h' | h';exact heH h';omega
 have hed:e ∉ blk ds:=fun hx=>by rcases (hnd e hx).1 with h' | h';exact hepd h';omega
 have heg:e ∉ blk gs:=fun hx=>by have:=(hng e hx).1;omega
 obtain ⟨sh,sw,h2⟩:=h2
 have hfew:=ho2.few
 have hlw:=as_len h2.w
 simp only [sxn,he2,h2.hd,sxl,Nat.reduceAdd]
 refine Cl.mono (IndexFunc_ok h2.w (settle1_ok he2 h2 ho2) (by omega)) ?_
 rintro ⟨r,_⟩ w3 ⟨hr,k3⟩
 dsimp only at hr ⊢
 have g3:=h2.keeps0 k3
 have he3:=k3.at he2 (by simp)
 have hds3:=hds.keeps k3 (by simp)
 have hgs3:=hgs.keeps k3 (by simp)
 have s12:=kp2.size
 have s23:=k3.size
 have s01:=k1.size
 rcases hr with ⟨i,x,rfl,hx,hfx,hpre⟩ | ⟨rfl,hnone⟩
 ·
  have hfind:s'.wait.find? (freeA s')=some x:=find_of hx hfx hpre
  have hxm:x∈s'.wait:=List.mem_of_getElem? hx
  have hwl:=pick_wait hxm
  obtain ⟨k,rfl⟩:∃ k,n=k + 1:=⟨n - 1,by omega⟩
  rw [settleA,hfind] at hset
  dsimp only at hset
  have hi:=(List.getElem?_eq_some_iff.1 hx).1
  rw [show decide ((i:Int) < 0)=false from decide_eq_false (by omega)]
  simp only [sxn,he3,g3.hd,sxl,Nat.reduceAdd]
  refine as_ld g3.w hx ?_
  refine bx4 fun b w4 hb n4 k4=>?_
  have g4:=g3.keeps0 k4
  have he4:=k4.at he3 (by simp)
  simp only [sxn,he4,g4.hd,sxl,Nat.reduceAdd]
  have kd:Keeps [] w4 w4.drew:=(Keeps.refl _ _).drew
  have g4':=g4.keeps0 kd
  rw [w64p (by omega)]
  refine Cl.mono (Delete_ok g4'.w hi (by omega) rfl rfl) ?_
  rintro ⟨r5,_⟩ w5 ⟨h5,hb5,k5⟩
  dsimp only at h5 hb5 ⊢
  rw [erase_filter ho2.wt hx] at h5
  have hesw:e ∉ blk sw:=fun hx=>heH' ((h2.own e).2 (.inr (.inr hx)))
  have he5:=k5.at (show w4.drew.heap[e]?=_ from he4) hesw
  simp only [sxn,he5,sxl,Nat.reduceAdd]
  refine ⟨by trivial,?_⟩
  have hd5:=k5.at g4'.hd g4'.tw
  refine set_box hd5 1 _ rfl (by simp) fun w6 hd6 k6=>?_
  obtain ⟨H6,g6,f6,kp6⟩:=g4'.setW k5 h5 (fun z hz=>.inl (hb5 z hz)) k6 hd6
  have het:e ∉ [t]:=by simp;rintro rfl;exact heH' ((h2.own e).2 (.inl rfl))
  have he6:=k6.at he5 het
  have hbsw:b ∉ blk sw:=fun hx=>by have:=g3.w.lt b hx;omega
  have hbt:b ∉ [t]:=by simp;rintro rfl;have:=hp_lt g3.hd;omega
  have hb6:=k6.at (k5.at (show w4.drew.heap[b]?=_ from hb) hbsw) hbt
  have notH:∀ z,¬ H' z→z ∉ blk sw∧z ∉ [t]:=fun z hz=>⟨fun hx=>hz ((h2.own z).2 (.inr (.inr hx))),by simp;rintro rfl;exact hz ((h2.own z).2 (.inl rfl))⟩
  have hds6:SlC w6 ds 1 (cU d):=(((hds3.keeps k4 (by simp)).keeps kd (by simp)).keeps k5 (fun z hz=>(notH z (hnd z hz).2).1)).keeps k6 (fun z hz=>(notH z (hnd z hz).2).2)
  have hgs6:SlC w6 gs 1 (cU g):=(((hgs3.keeps k4 (by simp)).keeps kd (by simp)).keeps k5 (fun z hz=>(notH z (hng z hz).2).1)).keeps k6 (fun z hz=>(notH z (hng z hz).2).2)
  have s34:=k4.size
  have s45:w4.heap.size≤w5.heap.size:=k5.size
  have s56:=k6.size
  have Hsub:∀ z,H6 z→z < w4.heap.size→H' z:=fun z hz hlt=>(f6 z hz).elim id (fun h=>by have h:w4.heap.size≤z:=h;omega)
  have nH6:∀ z,z < w2.heap.size→¬ H' z→¬ H6 z:=fun z hl hz hx=>hz (Hsub z hx (by omega))
  simp only [sxn,hb6,sxl,Nat.reduceAdd]
  have hgl:=cU_slen hgs6
  refine NewApp_of (bytes:=8) (new:=[.int .u64 x.n]) hgs6 (by simp) (by simp [Value.oneCell']) (by kernel_rfl) (by omega) (by omega) ?_
  intro r7 w7 h7 _ k7 hb7
  have hgnH:∀ z∈blk gs,¬ H6 z:=fun z hz=>nH6 z (hgs.lt z hz) (hng z hz).2
  have g7:TAt w7 t H6 ⟨s'.held,s'.wait.filter (fun y=>!(y.n == x.n))⟩:=TAt.keeps ⟨_,_,g6⟩ (k7.toP (F:=fun z=>z∈blk gs) (fun z hz=>.inl hz)) (fun z hz hz'=>hgnH z hz' hz)
  have he7:=k7.at he6 heg
  have hbgs:b ∉ blk gs:=fun hx=>by have:=hgs3.lt b hx;omega
  have hb7':=k7.at hb6 hbgs
  have hds7:=hds6.keeps k7 (fun z hz hz'=>hdg z hz' hz)
  simp only [sxn,he7,hb7',sxl,Nat.reduceAdd]
  refine Cl.mono (grant_ok g7 (pick_ok ho2 hxm)) ?_
  rintro ⟨r8,_⟩ w8 ⟨H8,h8,f8,k8,hr8,hn8⟩
  dsimp only at hr8 hn8 ⊢
  have s67:=k7.size
  have s78:=k8.size
  have hds8:=hds7.keepsP k8 (fun z hz=>nH6 z (hds.lt z hz) (hnd z hz).2)
  have hr7n:∀ z∈blk r7,¬ H6 z:=fun z hz=>by
   rcases hb7 z hz with h' | h'
   ·exact hgnH z h'
   ·intro hx
    have:=g6.bl z hx
    omega
  have h7':SlC w7 r7 1 (cU (g ++ [x.n])):=by rw [cU,List.map_append];exact h7
  have hr7:=h7'.keepsP k8 hr7n
  have hl8:=cU_slen hr8
  have hdl:=cU_slen hds8
  have hkl:(pickA x s').1.length≤192:=by
   have:(pickA x s').1.length≤(s'.wait.filter (fun y=>!(y.n == x.n))).length:=killed_len x (s'.wait.filter (fun y=>!(y.n == x.n)))
   have h1:=filter_short hxm
   omega
  have hrl:r8.len=(pickA x s').1.length:=hl8
  refine App_of hds8 hr8.rdc (by rw [cU_len,Nat.mul_one];exact hl8.symm) (cU_one _) (by kernel_rfl) (by omega) (by omega) ?_
  intro r9 w9 h9 _ k9 hb9
  have F8:∀ z,z < w2.heap.size→¬ H' z→¬ H8 z:=fun z hl hz hx=>by
   rcases f8 z hx with h' | h'
   ·exact nH6 z hl hz h'
   ·omega
  have hdn8:∀ z∈blk ds,¬ H8 z:=fun z hz=>F8 z (hds.lt z hz) (hnd z hz).2
  have s89:=k9.size
  refine ⟨k,by omega,(pickA x s').2,H8,r9,r7,q1,q2,g ++ [x.n],d ++ (pickA x s').1,rfl,by omega,hset,h8.keeps (k9.toP (F:=fun z=>z∈blk ds) (fun z hz=>.inl hz)) (fun z hz hz'=>hdn8 z hz' hz),ho2.pick hxm,?_,?_,?_,?_,?_,?_,?_,?_,?_⟩
  ·intro z hz
   rcases f8 z hz with h' | h'
   ·rcases f6 z h' with h'' | h''
    ·rcases f2 z h'' with h3 | h3
     ·exact .inl h3
     ·exact .inr (by omega)
    ·have h'':w4.heap.size≤z:=h''
     exact .inr (by omega)
   ·exact .inr (by omega)
  ·have a1:KeepsP (fun x=>H x∨x∈blk pd) w1 w4.drew:=kp2.step (kp0 (kp0 k3 k4) kd) (by simp)
   have a2:KeepsP (fun x=>H x∨x∈blk pd) w1 w6:=a1.trans kp6 (fun z hz=>(f2 z hz).elim (fun h=>.inl (.inl h)) .inr)
   have a3:KeepsP (fun x=>H x∨x∈blk pd) w1 w7:=a2.step k7 (fun z hz=>.inr (hng z hz).1)
   have a4:KeepsP (fun x=>H x∨x∈blk pd) w1 w8:=a3.trans k8 (fun z hz=>by
    rcases f6 z hz with h' | h'
    ·exact (f2 z h').elim (fun h=>.inl (.inl h)) .inr
    ·have h':w4.heap.size≤z:=h'
     exact .inr (by omega))
   exact a4.step k9 (fun z hz=>(hnd z hz).1.elim (fun h=>.inl (.inr h)) .inr)
  ·have e1:cU (d ++ (pickA x s').1)=cU d ++ cU (pickA x s').1:=by rw [cU,List.map_append];rfl
   rw [e1]
   exact h9
  ·exact hr7.keeps k9 (fun z hz hz'=>by
    rcases hb7 z hz with h' | h'
    ·exact hdg z h' hz'
    ·have:=hds6.lt z hz';omega)
  ·intro z hz
   rcases hb9 z hz with h' | h'
   ·exact ⟨(hnd z h').1,hdn8 z h'⟩
   ·exact ⟨.inr (by omega),fun hx=>by have:=h8.bl z hx;omega⟩
  ·intro z hz
   have hz6:=hr7n z hz
   refine ⟨?_,fun hx=>?_⟩
   ·rcases hb7 z hz with h' | h'
    ·exact (hng z h').1
    ·omega
   ·rcases f8 z hx with h' | h'
    ·exact hz6 h'
    ·have:=h7.lt z hz;omega
  ·intro z hz hz9
   rcases hb9 z hz9 with h' | h'
   ·rcases hb7 z hz with h3 | h3
    ·exact hdg z h3 h'
    ·have:=hds6.lt z h';omega
   ·have:=hr7.lt z hz;omega
  ·rw [List.length_append];omega
  ·rw [List.length_append,List.length_singleton];omega
 ·
  have hfind:s'.wait.find? (freeA s')=none:=List.find?_eq_none.2 (fun y hy=>by rw [hnone y hy];simp)
  have hDe:D=(s',g,d):=by
   rw [← hset]
   cases n with
   | zero=>rfl
   | succ n=>rw [settleA,hfind]
  rw [show decide ((-1:Int) < 0)=true from rfl]
  simp only [Br_true]
  refine Cl.mono (set_ok hgs3 (by omega)) ?_
  rintro ⟨r4,_⟩ w4 ⟨l4,h4,hp4,hm4,hb4,k4⟩
  dsimp only at h4 hb4 ⊢
  refine Cl.mono (set_ok (hds3.keeps k4 (fun z hz hz'=>hdg z hz' hz)) (by omega)) ?_
  rintro ⟨r5,_⟩ w5 ⟨l5,h5,hp5,hm5,hb5,k5⟩
  dsimp only at h5 hb5 ⊢
  refine hR (r4,r5,()) _ ?_
  rw [hDe]
  dsimp only
  rw [← setA_eq hp4 hm4,← setA_eq hp5 hm5]
  have s45:=k4.size
  refine ⟨H',?_,fun z hz=>(f2 z hz).elim .inl (fun h=>.inr (by omega)),?_,h4.keeps k5 (fun z hz hz'=>hdg z (hb4 z hz) hz'),h5,fun z hz=>?_,fun z hz=>?_,fun z hz hz'=>hdg z (hb4 z hz) (hb5 z hz')⟩
  ·have a1:TAt w4 t H' s':=TAt.keeps ⟨_,_,g3⟩ (k4.toP (F:=fun z=>z∈blk gs) (fun z hz=>.inl hz)) (fun z hz hz'=>(hng z hz').2 hz)
   exact a1.keeps (k5.toP (F:=fun z=>z∈blk ds) (fun z hz=>.inl hz)) (fun z hz hz'=>(hnd z hz').2 hz)
  ·have a0:KeepsP (fun x=>H x∨x∈blk pd) w w2:=(k1.toP (F:=fun x=>H x∨x∈blk pd) (by simp)).same kp2
   have a1:=a0.step k3 (by simp)
   have a2:=a1.step k4 (fun z hz=>.inr (by have:=(hng z hz).1;omega))
   exact a2.step k5 (fun z hz=>(hnd z hz).1.elim (fun h=>.inl (.inr h)) (fun h=>.inr (by omega)))
  ·obtain ⟨h',h''⟩:=hng z (hb4 z hz)
   exact ⟨by omega,h''⟩
  ·obtain ⟨h',h''⟩:=hnd z (hb5 z hz)
   exact ⟨h'.elim .inl (fun h=>.inr (by omega)),h''⟩
end Go.Proofs.YthkdehgfdllpoaaGreat
set_option linter.unusedVariables false
set_option linter.unusedSimpArgs false
namespace Go.Proofs.YthkdehgfdllpoaaGreat
open Go Go.Sx
def covA (x y:Ak):Bool:=y.n == x.n && (coversR y.lo y.hi x.lo x.hi && (y.wr || !x.wr))
def insA (x:Ak) (l:List Ak):List Ak:=l.filter (fun y=>decide (y.n < x.n)) ++ x :: l.filter (fun y=>!decide (y.n < x.n))
def firstA (x:Ak) (l:List Ak):Bool:=l.all (fun y=>!wayA x y || decide (x.n < y.n))
def askA (x:Ak) (s:TS):(Int × List Int × List Int × Int) × TS:=
 if okR x.lo x.hi=false then ((0,[],[],21),s)
 else if s.wait.any (fun y=>y.n == x.n) then ((0,[],[],4),s)
 else if s.held.any (covA x) then ((1,[],[],0),s)
 else if 192≤s.held.length + s.wait.length then ((3,[],[],0),s)
 else if s.held.any (wayA x)=false then
  let q:=settleA (grantA x s).2.wait.length (grantA x s).2 [] (grantA x s).1
  ((1,setA q.2.1,setA q.2.2,0),q.1)
 else if firstA x s.held then ((2,[],[],0),⟨s.held,insA x s.wait⟩)
 else ((3,[],[],0),s)
def relA (n:Int) (s:TS):(List Int × List Int) × TS:=
 let q:=settleA (dropA n s).wait.length (dropA n s) [] []
 ((setA q.2.1,setA q.2.2),q.1)
theorem insA_at {x:Ak} {l:List Ak} {i:Nat} (h1:∀ y∈l.take i,y.n < x.n) (h2:∀ y∈l.drop i,x.n≤y.n):insA x l=l.take i ++ x :: l.drop i:=by
 unfold insA
 have e:l.filter (fun y=>decide (y.n < x.n))=l.take i:=by
  conv=>lhs;rw [← List.take_append_drop i l]
  rw [List.filter_append,List.filter_eq_self.2 (fun y hy=>by simpa using h1 y hy),List.filter_eq_nil_iff.2 (fun y hy=>by simpa using h2 y hy),List.append_nil]
 have e2:l.filter (fun y=>!decide (y.n < x.n))=l.drop i:=by
  conv=>lhs;rw [← List.take_append_drop i l]
  rw [List.filter_append,List.filter_eq_nil_iff.2 (fun y hy=>by simpa using h1 y hy),List.filter_eq_self.2 (fun y hy=>by simpa using h2 y hy),List.nil_append]
 rw [e,e2]
theorem filter_len2 (p:Ak→Bool) (l:List Ak):(l.filter p).length + (l.filter (fun y=>!p y)).length=l.length:=by
 induction l with
 | nil=>rfl
 | cons y t ih=>
  cases h:p y <;> simp [h] <;> omega
theorem insA_len (x:Ak) (l:List Ak):(insA x l).length=l.length + 1:=by
 unfold insA
 rw [List.length_append,List.length_cons]
 have:=filter_len2 (fun y:Ak=>decide (y.n < x.n)) l
 omega
theorem insA_ok {x:Ak} {s:TS} (ho:TOk s) (hn:s.wait.any (fun y=>y.n == x.n)=false) (hf:s.held.length + s.wait.length < 192):TOk ⟨s.held,insA x s.wait⟩:=by
 refine ⟨?_,by show s.held.length + (insA x s.wait).length≤192;rw [insA_len];omega⟩
 show (insA x s.wait).Pairwise _
 unfold insA
 rw [List.pairwise_append,List.pairwise_cons]
 refine ⟨ho.wt.filter _,⟨fun y hy=>?_,ho.wt.filter _⟩,fun a ha b hb=>?_⟩
 ·rw [List.mem_filter] at hy
  have h1:¬ y.n=x.n:=by simpa using List.any_eq_false.1 hn y hy.1
  have h2:¬ y.n < x.n:=by simpa using hy.2
  omega
 ·have h1:a.n < x.n:=by simpa using (List.mem_filter.1 ha).2
  rcases List.mem_cons.1 hb with rfl | hb
  ·exact h1
  ·have h2:¬ b.n < x.n:=by simpa using (List.mem_filter.1 hb).2
   omega
theorem askA_ok {x:Ak} {s:TS} (ho:TOk s):TOk (askA x s).2:=by
 unfold askA
 split
 ·exact ho
 split
 ·exact ho
 rename_i hw
 split
 ·exact ho
 split
 ·exact ho
 rename_i hf
 split
 ·refine TOk.settle (TOk.dropAll ⟨ho.wt,?_⟩)
  show (s.held ++ [x]).length + s.wait.length≤192
  rw [List.length_append,List.length_singleton]
  omega
 split
 ·exact insA_ok ho (by simpa using hw) (by omega)
 ·exact ho
theorem relA_ok {n:Int} {s:TS} (ho:TOk s):TOk (relA n s).2:=TOk.settle (ho.drop n)
def Left (w w':World) (t:Nat) (H:Nat→Prop) (s':TS) (a b:Sl) (g d:List Int):Prop:=∃ H',TAt w' t H' s'∧Fr H H' w∧KeepsP H w w'∧SlC w' a 1 (cU g)∧SlC w' b 1 (cU d) ∧
 (∀ y∈blk a,w.heap.size≤y∧¬ H' y)∧(∀ y∈blk b,w.heap.size≤y∧¬ H' y)∧(∀ y∈blk a,y ∉ blk b)
theorem Left.none {w w':World} {t:Nat} {H:Nat→Prop} {s:TS} (h:TAt w t H s) (k:Keeps [] w w'):Left w w' t H s ⟨none,0,0⟩ ⟨none,0,0⟩ [] []:=
 ⟨H,h.keeps0 k,Fr.refl _ _,k.toP (by simp),SlC.nil _ 1,SlC.nil _ 1,by simp [blk],by simp [blk],by simp [blk]⟩
theorem Left.pre {w0 w w':World} {t:Nat} {H:Nat→Prop} {s:TS} {a b:Sl} {g d:List Int} (k:Keeps [] w0 w) (h:Left w w' t H s a b g d):Left w0 w' t H s a b g d:=by
 obtain ⟨H',h1,h2,h3,h4,h5,h6,h7,h8⟩:=h
 have:=k.size
 exact ⟨H',h1,fun x hx=>(h2 x hx).elim .inl (fun h=>.inr (by omega)),(k.toP (F:=H) (by simp)).same h3,h4,h5,fun y hy=>⟨by have:=(h6 y hy).1;omega,(h6 y hy).2⟩,fun y hy=>⟨by have:=(h7 y hy).1;omega,(h7 y hy).2⟩,h8⟩
theorem New_ok (w:World):Cl Pg i_locks_New [] false [.sc .p] (fun r w'=>∃ (t:Nat) (H:Nat→Prop),r.1=some ⟨t,0,none⟩∧TAt w' t H ⟨[],[]⟩∧(∀ x,H x→w.heap.size≤x)∧Keeps [] w w') w:=by
 refine Cl_gen fun R hR=>?_
 apply locks_New_call
 unfold locks_New
 refine New_bx fun t w1 h1 n1 k1=>?_
 refine hR _ _ ⟨t,fun x=>x=t,rfl,⟨⟨none,0,0⟩,⟨none,0,0⟩,h1,SlC.nil _ 4,SlC.nil _ 4,by simp [blk],by simp [blk],by simp [blk],fun x=>by simp [blk]⟩,fun x hx=>by rw [hx];exact n1,k1⟩
theorem Release_ok {w:World} {t:Nat} {H:Nat→Prop} {s:TS} (h:TAt w t H s) (ho:TOk s) (n:Int) :
  Cl Pg i_locks_Table_Release [.pointer (some ⟨t,0,none⟩),.int .u64 n] true [.sc .sl,.sc .sl] (fun r w'=>Left w w' t H (relA n s).2 r.1 r.2.1 (relA n s).1.1 (relA n s).1.2) w:=by
 unfold relA
 dsimp only
 obtain ⟨Q,hQ⟩:∃ Q,Q=settleA (dropA n s).wait.length (dropA n s) [] []:=⟨_,rfl⟩
 rw [← hQ]
 refine Cl_gen fun R hR=>?_
 apply locks_Table_Release_call
 unfold locks_Table_Release
 refine Cl.mono (drop_ok h ho n) ?_
 rintro _ w1 ⟨H1,h1,f1,k1⟩
 have hfew:=(ho.drop n).few
 have hb0:([]:List Int).length + (dropA n s).wait.length * 200≤40000:=by rw [List.length_nil];omega
 have hnil:SlC w1 ⟨none,0,0⟩ 1 (cU []):=SlC.nil _ 1
 have hset:=settle_ok h1 (ho.drop n) hnil (fun y hy=>by cases hy) hb0
 rw [← hQ] at hset
 have hnb:∀ y∈blk ⟨none,0,0⟩,¬ H1 y:=fun y hy=>by cases hy
 refine Cl.mono hset ?_
 rintro ⟨a,b,_⟩ w2 ⟨H2,h2,f2,k2,ha,hb,na,nb,hab⟩
 dsimp only at ha hb na nb hab ⊢
 have s1:=k1.size
 have k2':KeepsP H1 w1 w2:=k2.mono (fun x hx=>hx.elim .inl (fun h=>by simp [blk] at h))
 refine hR (a,b,()) _ ⟨H2,h2,f1.trans f2 s1,k1.trans k2' (fun x hx=>f1 x hx),ha,hb,fun y hy=>⟨by have:=(na y hy).1;omega,(na y hy).2⟩,fun y hy=>⟨?_,(nb y hy).2⟩,hab⟩
 rcases (nb y hy).1 with h' | h'
 ·simp [blk] at h'
 ·omega
end Go.Proofs.YthkdehgfdllpoaaGreat
set_option linter.unusedVariables false
set_option linter.unusedSimpArgs false
namespace Go.Proofs.YthkdehgfdllpoaaGreat
open Go Go.Sx
theorem any_take_none {p:Ak→Bool} {l:List Ak} (h:∀ y∈l,p y=false):l.any p=false:=List.any_eq_false.2 (fun y hy=>by rw [h y hy];simp)
theorem Ask_ok {w:World} {t:Nat} {H:Nat→Prop} {s:TS} (h:TAt w t H s) (ho:TOk s) (x:Ak) :
  Cl Pg i_locks_Table_Ask [.pointer (some ⟨t,0,none⟩),.int .u64 x.n,.agg #[.string x.lo,.string x.hi,.bool x.wr]] true [.sc (.i .i64),.sc .sl,.sc .sl,.sc (.i .i64)]
   (fun r w'=>r.1=(askA x s).1.1∧r.2.2.2.1=(askA x s).1.2.2.2∧Left w w' t H (askA x s).2 r.2.1 r.2.2.1 (askA x s).1.2.1 (askA x s).1.2.2.1) w:=by
 obtain ⟨A,hA⟩:∃ A,A=askA x s:=⟨_,rfl⟩
 rw [← hA]
 unfold askA at hA
 have h0:=h
 obtain ⟨sh,sw,h⟩:=h
 have hfew:=ho.few
 have hlh:=as_len h.h
 have hlw:=as_len h.w
 refine Cl_gen fun R hR=>?_
 apply locks_Table_Ask_call
 unfold locks_Table_Ask
 refine New_bx fun a w1 ha na k1=>?_
 simp only [sxn,ha,sxl,Nat.reduceAdd]
 refine Cl.mono (Check_ok _ _ _) ?_
 rintro ⟨r,_⟩ w2 ⟨e,k2⟩
 dsimp only at e
 subst e
 simp only [ok1]
 have k02:=kp0 k1 k2
 have ha2:=k2.at ha (by simp)
 cases hok:okR x.lo x.hi with
 | false=>
  rw [if_pos hok] at hA
  rw [hA] at hR
  exact hR (0,⟨none,0,0⟩,⟨none,0,0⟩,21,()) _ ⟨rfl,rfl,Left.none h0 k02⟩
 | true=>
 rw [if_neg (by rw [hok];simp)] at hA
 have g2:=h.keeps0 k02
 simp only [sxn,g2.hd,sxl,Nat.reduceAdd,Bool.not_true]
 refine Cl.mono (of_ok x.n _) ?_
 rintro ⟨f,_⟩ w3 ⟨e,ne,hf,k3⟩
 dsimp only at hf ⊢
 have k03:=kp0 k02.drew k3
 have g3:=h.keeps0 k03
 have ha3:=k3.at (show w2.drew.heap[a]?=_ from ha2) (by simp)
 simp only [sxn,g3.hd,sxl,Nat.reduceAdd]
 refine ⟨by trivial,?_⟩
 refine Cl.mono (ContainsFunc_ok g3.w (hf [] (by simp)) (by omega)) ?_
 rintro ⟨r,_⟩ w4 ⟨e4,k4⟩
 dsimp only at e4
 subst e4
 have k04:=kp0 k03 k4
 cases hany:s.wait.any (fun y=>y.n == x.n) with
 | true=>
  rw [if_pos hany] at hA
  rw [hA] at hR
  exact hR (0,⟨none,0,0⟩,⟨none,0,0⟩,4,()) _ ⟨rfl,rfl,Left.none h0 k04⟩
 | false=>
 rw [if_neg (by rw [hany];simp)] at hA
 have ha4:=k4.at ha3 (by simp)
 simp only [sxn,ha4,sxl,Nat.reduceAdd]
 refine bx4 fun c w5 hc nc k5=>?_
 have k05:=kp0 k04 k5
 have ha5:=k5.at ha4 (by simp)
 have g5:=h.keeps0 k05
 simp only [sxn,g5.hd,sxl,Nat.reduceAdd]
 refine ⟨fun n st w'=>∃ (q1:Int) (q2 q3:Sl) (q4:Int) (i:Nat),st=(q1,q2,q3,q4,(((s.held.take i).filter (wayA x)).length:Int),firstA x (s.held.take i),(i:Int),())∧n=s.held.length - i∧i≤s.held.length∧(∀ y∈s.held.take i,covA x y=false)∧Keeps [] w5 w',⟨_,0,⟨none,0,0⟩,⟨none,0,0⟩,0,0,rfl,rfl,by omega,by simp,Keeps.refl _ _⟩,?_⟩
 rintro n _ w6 ⟨q1,q2,q3,q4,i,rfl,rfl,hi,hcov,k6⟩
 dsimp only
 have g6:=g5.keeps0 k6
 have ha6:=k6.at ha5 (by simp)
 have hc6:=k6.at hc (by simp)
 have k06:=kp0 k05 k6
 by_cases hlt:i < s.held.length
 ·rw [decide_eq_true (by omega)]
  simp only [Br_true]
  obtain ⟨y,hy⟩:∃ y,s.held[i]?=some y:=⟨_,List.getElem?_eq_getElem hlt⟩
  have hfl:((s.held.take (i + 1)).filter (wayA x)).length=((s.held.take i).filter (wayA x)).length + (if wayA x y then 1 else 0):=by
   rw [List.take_add_one,hy,List.filter_append,List.length_append]
   congr 1
   cases hw:wayA x y <;> simp [hw]
  have hfi:firstA x (s.held.take (i + 1))=(firstA x (s.held.take i) && (!wayA x y || decide (x.n < y.n))):=by
   unfold firstA
   rw [List.take_add_one,hy,List.all_append]
   simp
  refine Jp_of (fun st w'=>st=(q1,q2,q3,q4,(((s.held.take (i + 1)).filter (wayA x)).length:Int),firstA x (s.held.take (i + 1)),())∧covA x y=false∧Keeps [] w5 w') (fun J hJ=>?_) ?_
  rotate_left
  ·rintro _ w7 ⟨rfl,hcy,k7⟩
   refine ⟨s.held.length - (i + 1),by omega,q1,q2,q3,q4,i + 1,by rw [w64p (by omega)],rfl,by omega,?_,k7⟩
   intro z hz
   rw [List.take_add_one,hy] at hz
   simp at hz
   rcases hz with hz | rfl
   ·exact hcov z hz
   ·exact hcy
  refine as_ld g6.h hy ?_
  refine bx4 fun b w7 hb nb k7=>?_
  have ha7:=k7.at ha6 (by simp)
  have hc7:=k7.at hc6 (by simp)
  refine Jp_of (fun st w'=>st=(covA x y,())∧Keeps [] w7 w') (fun J2 hJ2=>?_) ?_
  ·simp only [sxn,hb,sxl,Nat.reduceAdd]
   cases hn:y.n == x.n with
   | false=>exact hJ2 _ _ ⟨by unfold covA;rw [hn];rfl,Keeps.refl _ _⟩
   | true=>
   simp only [sxn,hb,ha7,sxl,Nat.reduceAdd]
   refine Cl.mono (Covers_ok _ _ _ _ _) ?_
   rintro ⟨q,_⟩ w8 ⟨e8,k8⟩
   dsimp only at e8
   subst e8
   cases hcv:coversR y.lo y.hi x.lo x.hi with
   | false=>exact hJ2 _ _ ⟨by unfold covA;rw [hn,hcv];rfl,k8⟩
   | true=>
   have hb8:=k8.at hb (by simp)
   have ha8:=k8.at ha7 (by simp)
   simp only [sxn,hb8,ha8,sxl,Nat.reduceAdd]
   cases hwr:y.wr with
   | true=>exact hJ2 _ _ ⟨by unfold covA;rw [hn,hcv,hwr];rfl,k8⟩
   | false=>
   simp only [sxn,ha8,sxl,Nat.reduceAdd]
   exact hJ2 _ _ ⟨by unfold covA;rw [hn,hcv,hwr];rfl,k8⟩
  ·rintro _ w8 ⟨rfl,k8⟩
   dsimp only
   have k78:=kp0 k7 k8
   have k08:=kp0 k06 k78
   cases hcy:covA x y with
   | true=>
    have hany2:s.held.any (covA x)=true:=List.any_eq_true.2 ⟨y,List.mem_of_getElem? hy,hcy⟩
    rw [if_pos hany2] at hA
    rw [hA] at hR
    exact hR (1,⟨none,0,0⟩,⟨none,0,0⟩,0,()) _ ⟨rfl,rfl,Left.none h0 k08⟩
   | false=>
    have hb8:=k8.at hb (by simp)
    have hc8:=k8.at hc7 (by simp)
    simp only [sxn,hb8,hc8,sxl,Nat.reduceAdd]
    refine Cl.mono (against_ok x _) ?_
    rintro ⟨f2,_⟩ w9 ⟨e9,n9,hf9,k9⟩
    dsimp only at hf9 ⊢
    have hb9:=k9.at (show w8.drew.heap[b]?=_ from hb8) (by simp)
    simp only [sxn,hb9,sxl,Nat.reduceAdd]
    refine ⟨by trivial,?_⟩
    refine CallV.mono (hf9 [] (by simp) w9 (Keeps.refl _ _) y) ?_
    rintro ⟨q,_⟩ w10 ⟨e10,k10⟩
    dsimp only at e10
    subst e10
    have hb10:=k10.at hb9 (by simp)
    have k510:Keeps [] w5 w10:=kp0 (kp0 (kp0 k6 k78).drew k9) k10
    cases hw:wayA x y with
    | false=>
     refine hJ _ _ ⟨?_,hcy,k510⟩
     rw [hfl,hfi,hw]
     simp
    | true=>
     have hwl:(((s.held.take i).filter (wayA x)).length)≤i:=Nat.le_trans (List.length_filter_le _ _) (by rw [List.length_take];omega)
     simp only [Br_true]
     rw [w64p (by omega)]
     cases hfs:firstA x (s.held.take i) with
     | false=>
      refine hJ _ _ ⟨?_,hcy,k510⟩
      rw [hfl,hfi,hw,hfs]
      simp
     | true=>
      simp only [sxn,hb10,sxl,Nat.reduceAdd]
      refine hJ _ _ ⟨?_,hcy,k510⟩
      rw [hfl,hfi,hw,hfs]
      simp
 ·have hil:i=s.held.length:=by omega
  have htk:s.held.take i=s.held:=List.take_of_length_le (by omega)
  rw [decide_eq_false (by omega)]
  rw [htk] at hcov ⊢
  rw [if_neg (by rw [any_take_none hcov];simp)] at hA
  simp only [Br_false]
  have kd:Keeps [] w6 w6.drew:=(Keeps.refl _ _).drew
  simp only [sxn,g6.hd,sxl,Nat.reduceAdd]
  rw [hlh,hlw,w64a rfl rfl (by omega)]
  have k06d:=kp0 k06 kd
  by_cases hmax:192≤s.held.length + s.wait.length
  ·rw [if_pos hmax] at hA
   rw [hA] at hR
   rw [decide_eq_true (by omega)]
   exact hR (3,⟨none,0,0⟩,⟨none,0,0⟩,0,()) _ ⟨rfl,rfl,Left.none h0 k06d⟩
  ·rw [if_neg hmax] at hA
   rw [decide_eq_false (by omega)]
   simp only [Br_false]
   have hnone:((((s.held.filter (wayA x)).length:Nat):Int) == 0)=!(s.held.any (wayA x)):=by
    cases hv:s.held.any (wayA x) with
    | false=>
     have:s.held.filter (wayA x)=[]:=List.filter_eq_nil_iff.2 (fun y hy=>by have:=List.any_eq_false.1 hv y hy;exact this)
     rw [this];rfl
    | true=>
     obtain ⟨y,hy,hwy⟩:=List.any_eq_true.1 hv
     have:0 < (s.held.filter (wayA x)).length:=List.length_pos_of_mem (List.mem_filter.2 ⟨hy,hwy⟩)
     simp
     exact ⟨y,hy,hwy⟩
   rw [hnone]
   have g6':=g6.keeps0 kd
   have hc6':w6.drew.heap[c]?=_:=hc6
   cases hv:s.held.any (wayA x) with
   | false=>
    rw [if_pos hv] at hA
    simp only [sxn,hc6,sxl,Nat.reduceAdd,Bool.not_false]
    have hog:TOk ⟨s.held ++ [x],s.wait⟩:=⟨ho.wt,by show (s.held ++ [x]).length + s.wait.length≤192;rw [List.length_append,List.length_singleton];omega⟩
    refine Cl.mono (grant_ok ⟨_,_,g6'⟩ hog) ?_
    rintro ⟨r7,_⟩ w7 ⟨H7,h7,f7,k7,hr7,hn7⟩
    dsimp only at hr7 hn7 ⊢
    have hog2:TOk (grantA x s).2:=TOk.dropAll hog
    have hkl:(grantA x s).1.length≤s.wait.length:=killed_len x s.wait
    have hwl:(grantA x s).2.wait.length≤s.wait.length:=dropAll_wait_le _ _
    have hb0:(grantA x s).1.length + (grantA x s).2.wait.length * 200≤40000:=by omega
    have hset:=settle_ok h7 hog2 hr7 (fun y hy=>(hn7 y hy).2) hb0
    obtain ⟨Q,hQ⟩:∃ Q,Q=settleA (grantA x s).2.wait.length (grantA x s).2 [] (grantA x s).1:=⟨_,rfl⟩
    rw [← hQ] at hset
    refine Cl.mono hset ?_
    rintro ⟨a8,b8,_⟩ w8 ⟨H8,h8,f8,k8,ha8,hb8,na8,nb8,hab⟩
    dsimp only at ha8 hb8 na8 nb8 hab ⊢
    have hA':A=((1,setA Q.2.1,setA Q.2.2,0),Q.1):=by rw [hA,hQ]
    rw [hA'] at hR
    have s07:=k06d.size
    have s7:=k7.size
    refine hR (1,a8,b8,0,()) _ ⟨rfl,rfl,Left.pre k06d ⟨H8,h8,?_,?_,ha8,hb8,?_,?_,hab⟩⟩
    ·exact f7.trans f8 s7
    ·refine k7.trans k8 (fun z hz=>?_)
     rcases hz with hz | hz
     ·exact f7 z hz
     ·exact .inr (hn7 z hz).1
    ·exact fun y hy=>⟨by have:=(na8 y hy).1;omega,(na8 y hy).2⟩
    ·intro y hy
     refine ⟨?_,(nb8 y hy).2⟩
     rcases (nb8 y hy).1 with h' | h'
     ·exact (hn7 y h').1
     ·omega
   | true=>
    rw [if_neg (by rw [hv];simp)] at hA
    simp only [Bool.not_true,Br_false]
    cases hfs:firstA x s.held with
    | false=>
     rw [if_neg (by rw [hfs];simp)] at hA
     rw [hA] at hR
     exact hR (3,⟨none,0,0⟩,⟨none,0,0⟩,0,()) _ ⟨rfl,rfl,Left.none h0 k06d⟩
    | true=>
     rw [if_pos hfs] at hA
     rw [hA] at hR
     simp only [sxn,g6.hd,sxl,Nat.reduceAdd]
     refine Cl.mono (Search_ok g6'.w ho.wt x.n (by omega)) ?_
     rintro ⟨r7,r7b,_⟩ w7 ⟨j,hj,hjl,hj1,hj2,k7⟩
     dsimp only at hj ⊢
     have g7:=g6'.keeps0 k7
     have hc7:=k7.at hc6' (by simp)
     simp only [sxn,g7.hd,hc7,sxl,Nat.reduceAdd]
     have kd7:Keeps [] w7 w7.drew:=(Keeps.refl _ _).drew
     have g7':=g7.keeps0 kd7
     refine New_bx fun d w8 hd nd k8=>?_
     have g8:=g7'.keeps0 k8
     simp only [sxn,g8.hd,sxl,Nat.reduceAdd]
     refine ⟨by trivial,?_⟩
     have hdsw:d ∉ blk sw:=fun hx=>by have:=g7'.w.lt d hx;omega
     subst hj
     refine Cl.mono (Insert_ok g8.w hd hdsw hjl (by omega)) ?_
     rintro ⟨r9,_⟩ w9 ⟨h9,hb9,k9⟩
     dsimp only at h9 hb9 ⊢
     rw [← insA_at hj1 hj2] at h9
     have hd9:=k9.at g8.hd g8.tw
     refine set_box hd9 1 _ rfl (by simp) fun w10 hd10 k10=>?_
     obtain ⟨H10,g10,f10,kp10⟩:=g8.setW k9 h9 hb9 k10 hd10
     have k08:Keeps [] w w8:=kp0 (kp0 (kp0 k06d k7) kd7) k8
     refine hR (2,⟨none,0,0⟩,⟨none,0,0⟩,0,()) _ ⟨rfl,rfl,Left.pre k08 ⟨H10,⟨_,_,g10⟩,f10,kp10,SlC.nil _ 1,SlC.nil _ 1,by simp [blk],by simp [blk],by simp [blk]⟩⟩
end Go.Proofs.YthkdehgfdllpoaaGreat
set_option linter.unusedVariables false
set_option linter.unusedSimpArgs false
namespace Go.Proofs.YthkdehgfdllpoaaGreat
open Go Go.Sx
def fKey (k:Int):Bool:=k == 1 || (k == 2 || k == 3)
def fVal (k:Int):Bool:=k == 2
def fRng (k:Int):Bool:=k == 4 || k == 5
def fMost (k:Int):Bool:=k == 4
def fWr (k:Int):Bool:=k == 2 || (k == 3 || k == 5)
def fDo (k:Int):Value:=if k=1 then .func (.func 265) #[] #[] else if k=2 then .func (.func 266) #[] #[] else if k=3 then .func (.func 267) #[] #[] else if k=4 then .func (.func 268) #[] #[] else if k=5 then .func (.func 269) #[] #[] else .nilFunc
theorem fDo_one (k:Int):(fDo k).oneCell'=true:=by unfold fDo;(repeat' split) <;> rfl
abbrev fK:List Kd:=[.b,.b,.b,.b,.b,.v]
abbrev fK6:List Kd:=[.b,.b,.b,.b,.b,.v,.b,.b,.b,.b,.b,.v,.b,.b,.b,.b,.b,.v,.b,.b,.b,.b,.b,.v,.b,.b,.b,.b,.b,.v,.b,.b,.b,.b,.b,.v]
def formT (k:Int):Tup fK:=(fKey k,fVal k,fRng k,fMost k,fWr k,fDo k,())
def formsT:Tup fK6:=(false,false,false,false,false,Value.nilFunc,true,false,false,false,false,fDo 1,true,true,false,false,true,fDo 2,true,false,false,false,true,fDo 3,false,false,true,true,false,fDo 4,false,false,true,false,true,fDo 5,())
theorem forms_one:∀ v∈encs fK6 formsT,v.oneCell'=true:=by
 intro v hv
 simp only [formsT,encs,Kd.enc,List.mem_cons,List.not_mem_nil,or_false] at hv
 rcases hv with rfl | rfl | rfl | rfl | rfl | rfl | rfl | rfl | rfl | rfl | rfl | rfl | rfl | rfl | rfl | rfl | rfl | rfl | rfl | rfl | rfl | rfl | rfl | rfl | rfl | rfl | rfl | rfl | rfl | rfl | rfl | rfl | rfl | rfl | rfl | rfl <;> first | rfl | exact fDo_one _
theorem forms_k {w:World} {K:TR [.ag fK6]→Pr} (k:∀ w',Keeps [] w w'→K (formsT,()) w'):Cl Pg i_op_forms [] false [.ag fK6] K w:=by
 refine op_forms_call ?_
 unfold op_forms
 refine New_bx fun a w1 h1 n1 k1=>?_
 refine ⟨rfl,rfl,rfl,rfl,rfl,?_⟩
 refine put_box (vs:=encs fK6 formsT) h1 rfl forms_one fun w2 h2 k2=>?_
 show LdT fK6 ⟨a,0,none⟩ 0 (fun y=>K (y,())) w2
 refine LdT_of (y:=formsT) (fun j u hj=>?_) (k w2 (kp1 k1 k2 n1))
 rw [add_of,cell_of h2,Nat.zero_add,Nat.zero_add,List.getElem?_toArray]
 exact hj
def okKd (k:Int):Bool:=decide (1≤k) && decide (k≤5)
theorem kd_cases {k:Int} (h:okKd k=true):k=1∨k=2∨k=3∨k=4∨k=5:=by
 unfold okKd at h
 simp at h
 omega
theorem kd_none {k:Int} (h:okKd k=false):formT k=(false,false,false,false,false,Value.nilFunc,()):=by
 unfold okKd at h
 simp at h
 have e:∀ n:Int,1≤n→n≤5→¬ k=n:=by omega
 simp [formT,fKey,fVal,fRng,fMost,fWr,fDo,e 1 (by decide) (by decide),e 2 (by decide) (by decide),e 3 (by decide) (by decide),e 4 (by decide) (by decide),e 5 (by decide) (by decide)]
theorem forms_at {k:Int} (h:okKd k=true) {K:Tup fK→Pr} {w:World} (hk:K (formT k) w):IxA (encs fK6 formsT) 6 k 6 (fun g=>TyA fK g K) w:=by
 rcases kd_cases h with rfl | rfl | rfl | rfl | rfl <;> exact ⟨by decide,by decide,TyA_of _ rfl hk⟩
theorem formOf_k (kind:Int) {w:World} {K:TR [.ag fK,.sc .b]→Pr} (k:∀ w',Keeps [] w w'→K (formT kind,okKd kind,()) w'):Cl Pg i_op_formOf [.int .i64 kind] true [.ag fK,.sc .b] K w:=by
 refine op_formOf_call _ ?_
 unfold op_formOf
 refine New_bx fun a w1 h1 n1 k1=>?_
 refine Jp_b (!okKd kind) (fun J hJ=>?_) fun w2 k2=>?_
 ·unfold okKd at hJ
  by_cases hc:kind < 1
  ·rw [decide_eq_true hc]
   rw [decide_eq_false (by omega)] at hJ
   exact hJ _ (Keeps.refl _ _)
  ·rw [decide_eq_false hc]
   rw [decide_eq_true (by omega),show decide (kind≤5)=!decide (kind > 5) from by rw [← decide_not];exact decide_eq_decide.2 (by omega)] at hJ
   simp only [Bool.true_and,Bool.not_not] at hJ
   exact hJ _ (Keeps.refl _ _)
 ·have h1:=k2.at0 h1
  have k02:=kp0 k1 k2
  cases ho:okKd kind with
  | false=>
   simp only [Bool.not_false,Br_true]
   refine put6 h1 rfl rfl rfl rfl rfl rfl fun w3 h3 k3=>?_
   simp only [sb,h3]
   have:=k w3 (kp1 k02 k3 n1)
   rw [kd_none ho,ho] at this
   exact this
  | true=>
   simp only [Bool.not_true,Br_false]
   refine forms_k fun w3 k3=>?_
   have h1:=k3.at0 h1
   have k03:=kp0 k02 k3
   refine forms_at ho ?_
   refine put6 h1 rfl rfl rfl rfl rfl (fDo_one kind) fun w4 h4 k4=>?_
   simp only [sb,h4]
   have:=k w4 (kp1 k03 k4 n1)
   rw [ho] at this
   exact this
theorem of_k (o:Op) {w:World} {K:TR [.ag [.s,.s]]→Pr} (k:∀ w',Keeps [] w w'→K ((o.lo,o.hi,()),()) w'):Cl Pg i_op_of [.agg #[.int .i64 o.kind,.string o.key,.string o.value,.string o.lo,.string o.hi,.int .i64 o.most]] false [.ag [.s,.s]] K w:=by
 refine op_of_call _ _ _ _ _ _ ?_
 unfold op_of
 refine New_bx fun a w1 h1 n1 k1=>?_
 refine New_bx fun b w2 h2 n2 k2=>?_
 have h1:=k2.at0 h1
 simp only [sb,h1]
 refine put2 h2 rfl rfl fun w3 h3 k3=>?_
 simp only [sb,h3]
 exact k w3 (kp1 (kp0 k1 k2) k3 (by have:=k1.size;omega))
def opE (o:Op):Int:=
 if (!okKd o.kind) || ((!fKey o.kind && !(seq o.key (BA []))) || ((!fVal o.kind && !(seq o.value (BA []))) || ((!fRng o.kind && !(seq o.lo (BA []) && (seq o.hi (BA []) && true))) || (!fMost o.kind && o.most != 0)))) then 40
 else if fKey o.kind && !okK o.key then 20
 else if decide (o.value.size > 16) then 2
 else if fRng o.kind && !okR o.lo o.hi then 21
 else if fMost o.kind && (decide (o.most < 1) || decide (o.most > 4)) then 1 else 0
theorem ok20 (c:Bool):((if c then (0:Int) else 20) != 0)=!c:=by cases c <;> rfl
theorem CheckOp_k (o:Op) {w:World} {K:TR [.sc (.i .i64)]→Pr} (k:∀ w',Keeps [] w w'→K (opE o,()) w'):Cl Pg i_op_CheckOp [.agg #[.int .i64 o.kind,.string o.key,.string o.value,.string o.lo,.string o.hi,.int .i64 o.most]] false [.sc (.i .i64)] K w:=by
 obtain ⟨E,hE⟩:∃ E,E=opE o:=⟨_,rfl⟩
 rw [← hE] at k
 unfold opE at hE
 refine op_CheckOp_call _ _ _ _ _ _ ?_
 unfold op_CheckOp
 refine New_bx fun a w1 h1 n1 k1=>?_
 simp only [sb,h1]
 refine formOf_k o.kind fun w2 k2=>?_
 have h1:=k2.at0 h1
 refine bx6 rfl rfl rfl rfl rfl rfl (fDo_one o.kind) fun b w3 h3 n3 k3=>?_
 have h1:=k3.at0 h1
 have k03:=kp0 (kp0 k1 k2) k3
 change w3.heap[b]?=some (.cells #[.bool (fKey o.kind),.bool (fVal o.kind),.bool (fRng o.kind),.bool (fMost o.kind),.bool (fWr o.kind),fDo o.kind] _ (0,0)) at h3
 dsimp only
 refine Jp_b ((!okKd o.kind) || ((!fKey o.kind && !(seq o.key (BA []))) || ((!fVal o.kind && !(seq o.value (BA []))) || ((!fRng o.kind && !(seq o.lo (BA []) && (seq o.hi (BA []) && true))) || (!fMost o.kind && o.most != 0))))) (fun J hJ=>?_) fun w4 k4=>?_
 ·cases h0:okKd o.kind with
  | false=>
   rw [h0] at hJ
   exact hJ _ (Keeps.refl _ _)
  | true=>
  rw [h0] at hJ
  simp only [Bool.not_true,Br_false,Bool.false_or] at hJ ⊢
  refine Jp_b (!fKey o.kind && !(seq o.key (BA []))) (fun J1 hJ1=>?_) fun w5 k5=>?_
  ·simp only [sb,h1,h3]
   cases hq:fKey o.kind <;> rw [hq] at hJ1 <;> simp only [Bool.not_true,Bool.not_false,Bool.false_and,Bool.true_and,sb,h1] at hJ1 ⊢ <;> exact hJ1 _ (Keeps.refl _ _)
  have h1:=k5.at0 h1
  have h3:=k5.at0 h3
  cases hb1:(!fKey o.kind && !(seq o.key (BA []))) with
  | true=>
   rw [hb1] at hJ
   simp only [Br_true]
   exact hJ _ k5
  | false=>
  rw [hb1] at hJ
  simp only [Br_false,Bool.false_or] at hJ ⊢
  refine Jp_b (!fVal o.kind && !(seq o.value (BA []))) (fun J1 hJ1=>?_) fun w6 k6=>?_
  ·simp only [sb,h1,h3]
   cases hq:fVal o.kind <;> rw [hq] at hJ1 <;> simp only [Bool.not_true,Bool.not_false,Bool.false_and,Bool.true_and,sb,h1] at hJ1 ⊢ <;> exact hJ1 _ (Keeps.refl _ _)
  have h1:=k6.at0 h1
  have h3:=k6.at0 h3
  have k36:=kp0 k5 k6
  cases hb2:(!fVal o.kind && !(seq o.value (BA []))) with
  | true=>
   rw [hb2] at hJ
   simp only [Br_true]
   exact hJ _ k36
  | false=>
  rw [hb2] at hJ
  simp only [Br_false,Bool.false_or] at hJ ⊢
  refine Jp_b (!fRng o.kind && !(seq o.lo (BA []) && (seq o.hi (BA []) && true))) (fun J1 hJ1=>?_) fun w7 k7=>?_
  ·simp only [sb,h1,h3]
   cases hq:fRng o.kind <;> rw [hq] at hJ1 <;> simp only [Bool.not_true,Bool.not_false,Bool.false_and,Bool.true_and,sb,h1] at hJ1 ⊢
   ·exact of_k o fun w8 k8=>hJ1 _ k8
   ·exact hJ1 _ (Keeps.refl _ _)
  have h1:=k7.at0 h1
  have h3:=k7.at0 h3
  have k37:=kp0 k36 k7
  cases hb3:(!fRng o.kind && !(seq o.lo (BA []) && (seq o.hi (BA []) && true))) with
  | true=>
   rw [hb3] at hJ
   simp only [Br_true]
   exact hJ _ k37
  | false=>
  rw [hb3] at hJ
  simp only [Br_false,Bool.false_or,sb,h3] at hJ ⊢
  cases hq:fMost o.kind <;> rw [hq] at hJ <;> simp only [Bool.not_true,Bool.not_false,Bool.false_and,Bool.true_and,sb,h1] at hJ ⊢ <;> exact hJ _ k37
 ·have h1:=k4.at0 h1
  have h3:=k4.at0 h3
  have k04:=kp0 k03 k4
  split at hE
  ·rename_i hc
   rw [hc]
   subst hE
   exact k _ k04
  rename_i hc
  rw [Bool.not_eq_true] at hc
  rw [hc]
  simp only [Br_false]
  refine Jp_b (fKey o.kind && !okK o.key) (fun J hJ=>?_) fun w5 k5=>?_
  ·simp only [sb,h3]
   cases hq:fKey o.kind <;> rw [hq] at hJ <;> simp only [Bool.false_and,Bool.true_and,sb,h1] at hJ ⊢
   ·exact hJ _ (Keeps.refl _ _)
   ·refine CheckKey_k _ ?_
    rw [ok20]
    exact hJ _ (Keeps.refl _ _)
  have h1:=k5.at0 h1
  have h3:=k5.at0 h3
  have k05:=kp0 k04 k5
  split at hE
  ·rename_i hc
   rw [hc]
   subst hE
   exact k _ k05
  rename_i hc
  rw [Bool.not_eq_true] at hc
  rw [hc]
  simp only [sb,h1]
  rw [show decide (((o.value.size:Nat):Int) > 16)=decide (o.value.size > 16) from decide_eq_decide.2 (by omega)]
  split at hE
  ·rename_i hc
   rw [hc]
   subst hE
   exact k _ k05
  rename_i hc
  rw [Bool.not_eq_true] at hc
  rw [hc]
  simp only [Br_false]
  refine Jp_b (fRng o.kind && !okR o.lo o.hi) (fun J hJ=>?_) fun w6 k6=>?_
  ·simp only [sb,h3]
   cases hq:fRng o.kind <;> rw [hq] at hJ <;> simp only [Bool.false_and,Bool.true_and,sb,h1] at hJ ⊢
   ·exact hJ _ (Keeps.refl _ _)
   ·refine of_k o fun w7 k7=>?_
    refine SCheck_k _ _ fun w8 k8=>?_
    rw [ok1]
    exact hJ _ (kp0 k7 k8)
  have h1:=k6.at0 h1
  have h3:=k6.at0 h3
  have k06:=kp0 k05 k6
  split at hE
  ·rename_i hc
   rw [hc]
   subst hE
   exact k _ k06
  rename_i hc
  rw [Bool.not_eq_true] at hc
  rw [hc]
  simp only [Br_false]
  refine Jp_b (fMost o.kind && (decide (o.most < 1) || decide (o.most > 4))) (fun J hJ=>?_) fun w7 k7=>?_
  ·simp only [sb,h3]
   cases hq:fMost o.kind <;> rw [hq] at hJ <;> simp only [Bool.false_and,Bool.true_and,sb,h1] at hJ ⊢
   ·exact hJ _ (Keeps.refl _ _)
   ·cases hd:decide (o.most < 1) <;> rw [hd] at hJ <;> simp only [sb,h1,Bool.true_or,Bool.false_or] at hJ ⊢ <;> exact hJ _ (Keeps.refl _ _)
  have k07:=kp0 k06 k7
  split at hE
  ·rename_i hc
   rw [hc]
   subst hE
   exact k _ k07
  rename_i hc
  rw [Bool.not_eq_true] at hc
  rw [hc]
  subst hE
  exact k _ k07
end Go.Proofs.YthkdehgfdllpoaaGreat
set_option linter.unusedVariables false
set_option linter.unusedSimpArgs false
namespace Go.Proofs.YthkdehgfdllpoaaGreat
open Go Go.Sx
def cmpS (a b:ByteArray):Int:=Lib.compareBytes a.data.toList b.data.toList
theorem compareBytes_lt:∀ a b:List UInt8,Lib.compareBytes a b < 0 ↔ a < b
 | [],[]=>by simp [Lib.compareBytes]
 | [],_ :: _=>by simp [Lib.compareBytes]
 | _ :: _,[]=>by simp [Lib.compareBytes]
 | a :: xs,b :: bs=>by
  simp only [Lib.compareBytes,List.cons_lt_cons_iff]
  by_cases h1:a < b
  ·simp [h1]
  ·rw [if_neg h1]
   by_cases h2:b < a
   ·rw [if_pos h2]
    simp only [h1,false_or]
    constructor
    ·intro h;omega
    ·rintro ⟨rfl,_⟩;exact absurd h2 h1
   ·rw [if_neg h2]
    have e:a=b:=UInt8.le_antisymm (UInt8.not_lt.1 h2) (UInt8.not_lt.1 h1)
    subst e
    rw [compareBytes_lt xs bs]
    simp [h1]
theorem compareBytes_eq:∀ a b:List UInt8,Lib.compareBytes a b=0 ↔ a=b
 | [],[]=>by simp [Lib.compareBytes]
 | [],_ :: _=>by simp [Lib.compareBytes]
 | _ :: _,[]=>by simp [Lib.compareBytes]
 | a :: xs,b :: bs=>by
  simp only [Lib.compareBytes]
  by_cases h1:a < b
  ·rw [if_pos h1]
   constructor
   ·intro h;omega
   ·intro h;cases h;exact absurd h1 (UInt8.lt_irrefl _)
  ·rw [if_neg h1]
   by_cases h2:b < a
   ·rw [if_pos h2]
    constructor
    ·intro h;omega
    ·intro h;cases h;exact absurd h2 (UInt8.lt_irrefl _)
   ·rw [if_neg h2]
    have e:a=b:=UInt8.le_antisymm (UInt8.not_lt.1 h2) (UInt8.not_lt.1 h1)
    subst e
    rw [compareBytes_eq xs bs]
    simp
theorem cmpS_lt {a b:ByteArray}:cmpS a b < 0 ↔ slt a b=true:=by
 rw [slt_lt,decide_eq_true_iff,ByteArray.toList_eq,ByteArray.toList_eq]
 exact compareBytes_lt _ _
theorem cmpS_eq {a b:ByteArray}:(cmpS a b == 0)=decide (a=b):=by
 rw [Bool.eq_iff_iff,beq_iff_eq,decide_eq_true_iff]
 refine (compareBytes_eq _ _).trans ⟨fun h=>ByteArray.ext (Array.toList_inj.1 h),fun h=>by rw [h]⟩
theorem slt_trans {a b c:ByteArray} (h:slt a b=true) (k:slt b c=true):slt a c=true:=by
 rw [slt_lt,decide_eq_true_iff] at *
 exact List.lt_trans h k
theorem sle_lt_trans {a b c:ByteArray} (h:slt b a=false) (k:slt b c=true):slt a c=true:=by
 cases h2:slt a b with
 | true=>exact slt_trans h2 k
 | false=>rw [slt_total h2 h];exact k
theorem slt_ne {a b:ByteArray} (h:slt a b=true):a ≠ b:=fun e=>by rw [e,slt_irrefl] at h;cases h
theorem empty_slt (b:ByteArray):slt (BA []) b=!(seq b (BA [])):=by
 rw [slt_lt,seq_eq]
 by_cases h:b=BA []
 ·rw [decide_eq_true h,h];simp [List.lt_irrefl]
 ·rw [decide_eq_false h,Bool.not_false,decide_eq_true_iff,ByteArray.toList_eq,ByteArray.toList_eq]
  cases hb:b.data.toList with
  | nil=>exact absurd (ByteArray.ext (Array.toList_inj.1 (by rw [hb];rfl))) h
  | cons x r=>show [] < x :: r;exact List.nil_lt_cons _ _
theorem Compare_str_k (a b:ByteArray) {w:World} {K:TR [.sc (.i .i64)]→Pr} (k:K (cmpS a b,()) w):Cl Pg i_strings_Compare [.string a,.string b] false [.sc (.i .i64)] K w:=by
 refine strings_Compare_call _ _ ?_
 unfold strings_Compare
 refine internal_bytealg_CompareString_call _ _ ?_
 unfold internal_bytealg_CompareString
 refine ⟨(cmpS a b,()),w,?_,k⟩
 rw [show ([Value.string a,.string b]:List Value).toArray=#[.string a,.string b] from rfl,
  run_callFunc_extern Tryz.func310 (by kernel_rfl) (by kernel_rfl) (by kernel_rfl) (e:=Extern.BytealgCompare.compare) (by kernel_rfl),Lib.run_compareString]
 rfl
def strip (l:List UInt8):List UInt8:=(l.reverse.dropWhile (· == 255)).reverse
def bump (l:List UInt8):List UInt8:=match l.reverse with | []=>[] | c :: r=>((c + 1) :: r).reverse
def ptHi (k:ByteArray):ByteArray:=if k.size < 12 then k ++ BA [0] else ⟨(bump (strip k.data.toList)).toArray⟩
theorem strip_take {l:List UInt8} {n:Nat} (hn:n≤l.length) (h:∀ j,n≤j→j < l.length→l[j]?=some 255) (h2:n=0∨l[n - 1]? ≠ some 255):strip l=l.take n:=by
 unfold strip
 have e:l.reverse=(l.drop n).reverse ++ (l.take n).reverse:=by rw [← List.reverse_append,List.take_append_drop]
 have h3:∀ x∈(l.drop n).reverse,(x == 255)=true:=by
  intro x hx
  rw [List.mem_reverse] at hx
  obtain ⟨j,hj⟩:=List.getElem?_of_mem hx
  rw [List.getElem?_drop] at hj
  have hlt:=(List.getElem?_eq_some_iff.1 hj).1
  rw [h _ (Nat.le_add_right _ _) hlt] at hj
  cases hj
  rfl
 rw [e,List.dropWhile_append_of_pos h3]
 rcases h2 with rfl | h2
 ·simp
 ·have hn0:0 < n∨n=0:=by omega
  rcases hn0 with hn0 | rfl
  ·obtain ⟨c,hc⟩:∃ c,l[n - 1]?=some c:=⟨_,List.getElem?_eq_getElem (by omega)⟩
   have e2:l.take n=l.take (n - 1) ++ [c]:=by
    rw [show n=n - 1 + 1 from by omega,List.take_add_one,hc]
    simp
   rw [e2,List.reverse_append]
   have hc2:(c == 255)=false:=by
    rw [hc] at h2
    simp at h2
    simpa using h2
   simp [List.dropWhile_cons,hc2]
  ·simp
theorem bump_set {l:List UInt8} {n:Nat} {c:UInt8} (hn:l.length=n + 1) (hc:l[n]?=some c):bump l=l.set n (c + 1):=by
 unfold bump
 have e:l=l.take n ++ [c]:=by
  conv=>lhs;rw [← List.take_of_length_le (i:=n + 1) (l:=l) (by omega),List.take_add_one,hc]
  simp
 have hl:(l.take n).length=n:=by rw [List.length_take];omega
 rw [e,List.reverse_append]
 simp only [List.reverse_cons,List.reverse_nil,List.nil_append,List.cons_append,List.reverse_reverse]
 rw [List.set_append_right _ _ (by omega),hl,Nat.sub_self,List.set_cons_zero]
theorem Point_k (key:ByteArray) {w:World} {K:TR [.ag [.s,.s],.sc (.i .i64)]→Pr} (k:∀ w',Keeps [] w w'→K (if okK key then ((key,ptHi key,()),0,()) else ((BA [],BA [],()),20,())) w'):Cl Pg i_span_Point [.string key] true [.ag [.s,.s],.sc (.i .i64)] K w:=by
 refine span_Point_call _ ?_
 unfold span_Point
 refine New_bx fun a w1 h1 n1 k1=>?_
 refine CheckKey_k _ ?_
 dsimp only
 rw [ok20]
 cases hk:okK key with
 | false=>
  rw [hk] at k
  simp only [Bool.not_false,Br_true]
  refine out2 h1 fun w2 k2=>?_
  exact k w2 (kp1 k1 k2 n1)
 | true=>
 rw [hk] at k
 obtain ⟨z1,z2⟩:=okK_sz hk
 simp only [Bool.not_true,Br_false]
 by_cases h12:key.size < 12
 ·rw [decide_eq_true (by omega)]
  simp only [Br_true]
  refine ⟨by have:(BA [0]).size=1:=rfl;omega,?_⟩
  refine out2 h1 fun w2 k2=>?_
  have:=k w2 (kp1 k1 k2 n1)
  unfold ptHi at this
  rw [if_pos h12] at this
  exact this
 ·rw [decide_eq_false (by omega)]
  simp only [Br_false]
  have hlen:key.data.toList.length=key.size:=by rw [Array.length_toList];rfl
  refine StoB_own ?_
  intro r w2 s2 k2 f2 l2
  have h2:=k2.at0 h1
  have k02:=kp0 k1 k2
  have n02:=k1.size
  have na:a ∉ blk r:=fun hx=>by have:=f2 a hx;have:=hp_lt h1;omega
  refine ⟨fun n st w'=>∃ m:Nat,st=(⟨r.p,m,r.cap⟩,())∧n=m∧m≤key.size∧(∀ j,m≤j→j < key.size→key.data.toList[j]?=some 255)∧w2=w',⟨_,key.size,by rw [← l2],rfl,Nat.le_refl _,fun j h1 h2=>by omega,rfl⟩,?_⟩
  rintro n _ _ ⟨m,rfl,rfl,hm,h255,rfl⟩
  dsimp only
  have sf:SlC w2 ⟨r.p,n,r.cap⟩ 1 (cB (key.data.toList.take n)):=by
   have:=slc_front s2 (i:=n) (by omega)
   rwa [Nat.mul_one,cB,← List.map_take] at this
  have hcap:=s2.cap
  refine Jp_of (fun st w'=>st=(decide (n ≠ 0) && (key.data.toList[n - 1]? == some 255),())∧w2=w') (fun J hJ=>?_) ?_
  ·by_cases h0:n=0
   ·rw [decide_eq_false (by omega)]
    exact hJ _ _ ⟨by rw [h0];rfl,rfl⟩
   ·rw [decide_eq_true (by omega)]
    simp only [Br_true]
    rw [w64m (by omega) (by omega)]
    obtain ⟨c,hc⟩:∃ c,key.data.toList[n - 1]?=some c:=⟨_,List.getElem?_eq_getElem (by omega)⟩
    refine Ix_cb sf (j:=n - 1) (x:=c) (by rw [List.getElem?_take,if_pos (by omega),hc]) ?_
    refine hJ _ _ ⟨?_,rfl⟩
    rw [hc,decide_eq_true h0,Bool.true_and]
    congr 1
    rw [Bool.eq_iff_iff]
    simp only [beq_iff_eq,Option.some.injEq]
    constructor
    ·intro h
     have:c.toNat=255:=by omega
     exact UInt8.toNat_inj.1 this
    ·intro h
     rw [h]
     rfl
  ·rintro _ _ ⟨rfl,rfl⟩
   dsimp only
   cases hq:(decide (n ≠ 0) && (key.data.toList[n - 1]? == some 255)) with
   | true=>
    simp only [Bool.and_eq_true,decide_eq_true_iff,beq_iff_eq] at hq
    simp only [Br_true]
    rw [w64m (by omega) (by omega)]
    refine ⟨⟨by omega,by omega⟩,?_⟩
    simp only [Int.toNat_natCast,slOff_zero,Nat.sub_zero]
    refine ⟨n - 1,by omega,n - 1,rfl,rfl,by omega,fun j h3 h4=>?_,by trivial⟩
    by_cases h5:j=n - 1
    ·rw [h5];exact hq.2
    ·exact h255 j (by omega) h4
   | false=>
    have hst:strip key.data.toList=key.data.toList.take n:=by
     refine strip_take (by omega) (fun j h3 h4=>h255 j h3 (by omega)) ?_
     by_cases h0:n=0
     ·exact .inl h0
     ·rw [decide_eq_true h0,Bool.true_and,beq_eq_false_iff_ne] at hq
      exact .inr hq
    simp only [Br_false]
    refine Jp_of (fun st w'=>SlC w' ⟨r.p,n,r.cap⟩ 1 (cB (bump (strip key.data.toList)))∧w'.heap[a]?=some (.cells #[.string (BA []),.string (BA [])] 37 (0,0))∧Keeps (blk r) w2 w') (fun J hJ=>?_) ?_
    ·by_cases h0:n=0
     ·subst h0
      rw [decide_eq_false (by omega)]
      refine hJ _ _ ⟨?_,h2,Keeps.refl _ _⟩
      rw [hst,List.take_zero]
      exact sf
     ·rw [decide_eq_true (by omega)]
      simp only [Br_true]
      rw [w64m (by omega) (by omega)]
      obtain ⟨c,hc⟩:∃ c,key.data.toList[n - 1]?=some c:=⟨_,List.getElem?_eq_getElem (by omega)⟩
      have hct:(key.data.toList.take n)[n - 1]?=some c:=by rw [List.getElem?_take,if_pos (by omega),hc]
      refine Ix_cb sf (j:=n - 1) (x:=c) hct ?_
      rw [show ((c.toNat:Int) + 1)=((c.toNat + 1:Nat):Int) from by omega,wrap_u8_nat,show (c.toNat + 1) % 256=(c + 1).toNat from by rw [UInt8.toNat_add];rfl]
      refine Ix_sb sf (j:=n - 1) (by rw [List.length_take];omega) (c + 1) ?_
      intro w3 s3 k3
      refine hJ _ _ ⟨?_,k3.at h2 na,k3⟩
      rw [hst,bump_set (n:=n - 1) (c:=c) (by rw [List.length_take];omega) hct]
      exact s3
    ·rintro _ w3 ⟨s3,h3,k3⟩
     refine BtoS_of s3.rdb ?_
     refine out2 h3 fun w4 k4=>?_
     have:=k w4 (kp1 (kpx k02 k3 (fun x hx=>Nat.le_trans n02 (f2 x hx))) k4 n1)
     unfold ptHi at this
     rw [if_neg h12] at this
     exact this
end Go.Proofs.YthkdehgfdllpoaaGreat
set_option linter.unusedVariables false
set_option linter.unusedSimpArgs false
namespace Go.Proofs.YthkdehgfdllpoaaGreat
open Go Go.Sx
def opsE:List Op→Int
 | []=>0
 | o :: l=>if opE o != 0 then opE o else opsE l
theorem opsE_all {l:List Op}:opsE l=0 ↔ ∀ o∈l,opE o=0:=by
 induction l with
 | nil=>simp [opsE]
 | cons o l ih=>
  simp only [opsE,List.mem_cons,forall_eq_or_imp]
  by_cases h:opE o=0
  ·simp [h,ih]
  ·simp [h]
theorem all_k {w:World} {s:Sl} {l:List Op} (h:RdE opR w s l) (hN:l.length≤100000000) {K:TR [.sc (.i .i64)]→Pr} (k:∀ w',Keeps [] w w'→K (opsE l,()) w'):Cl Pg i_op_all [.slice s.p s.len s.cap] false [.sc (.i .i64)] K w:=by
 have hl:=h.len
 refine op_all_call _ ?_
 unfold op_all
 refine ⟨fun n st w'=>∃ (q:Int) (i:Nat),st=(q,(i:Int),())∧n=l.length - i∧i≤l.length∧opsE (l.drop i)=opsE l∧Keeps [] w w',⟨_,0,0,rfl,rfl,by omega,rfl,Keeps.refl _ _⟩,?_⟩
 rintro n _ w1 ⟨q,i,rfl,rfl,hi,he,k1⟩
 dsimp only
 by_cases hlt:i < l.length
 ·rw [decide_eq_true (by omega)]
  simp only [Br_true]
  obtain ⟨x,hx⟩:∃ x,l[i]?=some x:=⟨_,List.getElem?_eq_getElem hlt⟩
  have hd:l.drop i=x :: l.drop (i + 1):=by rw [List.drop_eq_getElem_cons hlt,(List.getElem?_eq_some_iff.1 hx).2]
  rw [hd,opsE] at he
  refine ld_Op (h.keeps0 k1) hx ?_
  refine bx_Op x fun b w2 h2 n2 k2=>?_
  simp only [sb,h2]
  refine CheckOp_k x fun w3 k3=>?_
  have k13:=kp0 (kp0 k1 k2) k3
  dsimp only
  cases hc:(opE x != 0) with
  | true=>rw [if_pos hc] at he;rw [he];exact k _ k13
  | false=>
   rw [if_neg (by rw [hc];simp)] at he
   exact ⟨l.length - (i + 1),by omega,q,i + 1,by rw [w64p (by omega)],rfl,by omega,he,k13⟩
 ·rw [decide_eq_false (by omega)]
  rw [List.drop_of_length_le (by omega),opsE] at he
  rw [← he] at k
  exact k _ k1
theorem Writes_k (o:Op) {w:World} {K:TR [.sc .b]→Pr} (k:∀ w',Keeps [] w w'→K (fWr o.kind,()) w'):Cl Pg i_op_Writes [.agg #[.int .i64 o.kind,.string o.key,.string o.value,.string o.lo,.string o.hi,.int .i64 o.most]] false [.sc .b] K w:=by
 refine op_Writes_call _ _ _ _ _ _ ?_
 unfold op_Writes
 refine New_bx fun a w1 h1 n1 k1=>?_
 simp only [sb,h1]
 refine formOf_k o.kind fun w2 k2=>?_
 refine bx6 rfl rfl rfl rfl rfl rfl (fDo_one o.kind) fun b w3 h3 n3 k3=>?_
 change w3.heap[b]?=some (.cells #[.bool (fKey o.kind),.bool (fVal o.kind),.bool (fRng o.kind),.bool (fMost o.kind),.bool (fWr o.kind),fDo o.kind] _ (0,0)) at h3
 simp only [sb,h3]
 exact k w3 (kp0 (kp0 k1 k2) k3)
def spanO (o:Op):ByteArray × ByteArray:=if seq o.key (BA []) then (o.lo,o.hi) else (o.key,ptHi o.key)
theorem opE_key {o:Op} (h:opE o=0) (hk:seq o.key (BA [])=false):okK o.key=true:=by
 unfold opE at h
 split at h
 ·cases h
 ·rename_i h1
  split at h
  ·cases h
  ·rename_i h2
   cases hf:fKey o.kind with
   | true=>rw [hf] at h2;simpa using h2
   | false=>rw [hf,hk] at h1;simp at h1
theorem Span_k (o:Op) {w:World} {K:TR [.ag [.s,.s],.sc (.i .i64)]→Pr} (k:∀ w',Keeps [] w w'→K (if opE o=0 then (((spanO o).1,(spanO o).2,()),0,()) else ((BA [],BA [],()),opE o,())) w'):Cl Pg i_op_Span [.agg #[.int .i64 o.kind,.string o.key,.string o.value,.string o.lo,.string o.hi,.int .i64 o.most]] true [.ag [.s,.s],.sc (.i .i64)] K w:=by
 refine op_Span_call _ _ _ _ _ _ ?_
 unfold op_Span
 refine New_bx fun a w1 h1 n1 k1=>?_
 refine New_bx fun b w2 h2 n2 k2=>?_
 have h1:=k2.at0 h1
 have n02:w.heap.size≤b:=by have:=k1.size;omega
 simp only [sb,h1]
 refine CheckOp_k o fun w3 k3=>?_
 have h1:=k3.at0 h1
 have h2:=k3.at0 h2
 have k03:=kp0 (kp0 k1 k2) k3
 dsimp only
 by_cases he:opE o=0
 ·rw [if_pos he] at k
  rw [show (opE o != 0)=false from by rw [he];rfl]
  simp only [sb,h1]
  cases hs:seq o.key (BA []) with
  | true=>
   simp only [sb,h1]
   refine of_k o fun w4 k4=>?_
   have h2:=k4.at0 h2
   refine out2 h2 fun w5 k5=>?_
   have:=k w5 (kp1 (kp0 k03 k4) k5 n02)
   rw [show spanO o=(o.lo,o.hi) from by unfold spanO;rw [hs];rfl] at this
   exact this
  | false=>
   simp only [sb,h1]
   refine Point_k _ fun w4 k4=>?_
   have h2:=k4.at0 h2
   rw [if_pos (opE_key he hs)]
   refine out2 h2 fun w5 k5=>?_
   have:=k w5 (kp1 (kp0 k03 k4) k5 n02)
   rw [show spanO o=(o.key,ptHi o.key) from by unfold spanO;rw [hs];rfl] at this
   exact this
 ·rw [if_neg he] at k
  rw [show (opE o != 0)=true from by simpa using he]
  simp only [Br_true]
  refine out2 h2 fun w4 k4=>?_
  exact k w4 (kp1 k03 k4 n02)
def lockO (o:Op):Lk:=⟨(spanO o).1,(spanO o).2,fWr o.kind⟩
theorem Locks_k {w:World} {s:Sl} {l:List Op} (h:RdE opR w s l) (hN:l.length≤100000000) {K:TR [.sc .sl,.sc (.i .i64)]→Pr}
  (k:opsE l=0→∀ r w',SlE lkR w' r (l.map lockO)→(∀ x∈blk r,w.heap.size≤x)→Keeps [] w w'→K (r,0,()) w') (k':opsE l ≠ 0→∀ w',Keeps [] w w'→K (⟨none,0,0⟩,opsE l,()) w'):Cl Pg i_op_Locks [.slice s.p s.len s.cap] true [.sc .sl,.sc (.i .i64)] K w:=by
 have hl:=h.len
 refine op_Locks_call _ ?_
 unfold op_Locks
 refine ⟨fun n st w'=>∃ (q1:Sl) (q2:Int) (r:Sl) (i:Nat),st=(q1,q2,r,(i:Int),())∧n=l.length - i∧i≤l.length∧opsE (l.drop i)=opsE l∧SlE lkR w' r ((l.take i).map lockO)∧(∀ x∈blk r,w.heap.size≤x)∧Keeps [] w w',
  ⟨_,⟨none,0,0⟩,0,⟨none,0,0⟩,0,rfl,rfl,by omega,rfl,SlC.nil _ _,by simp [blk],Keeps.refl _ _⟩,?_⟩
 rintro n _ w1 ⟨q1,q2,r,i,rfl,rfl,hi,he,hr,fr,k1⟩
 dsimp only
 by_cases hlt:i < l.length
 ·rw [decide_eq_true (by omega)]
  simp only [Br_true]
  obtain ⟨x,hx⟩:∃ x,l[i]?=some x:=⟨_,List.getElem?_eq_getElem hlt⟩
  have hd:l.drop i=x :: l.drop (i + 1):=by rw [List.drop_eq_getElem_cons hlt,(List.getElem?_eq_some_iff.1 hx).2]
  rw [hd,opsE] at he
  refine ld_Op (h.keeps0 k1) hx ?_
  refine bx_Op x fun b w2 h2 n2 k2=>?_
  simp only [sb,h2]
  refine Span_k x fun w3 k3=>?_
  have h2:=k3.at0 h2
  have k03:=kp0 (kp0 k1 k2) k3
  by_cases hc:opE x=0
  ·rw [if_pos hc]
   rw [if_neg (by rw [hc];simp)] at he
   refine bx2 rfl rfl rfl fun c w4 h4 n4 k4=>?_
   have h2:=k4.at0 h2
   simp only [show ((0:Int) != 0)=false from rfl,sb,h2,h4]
   have h2d:w4.drew.heap[b]?=_:=h2
   have h4d:w4.drew.heap[c]?=_:=h4
   refine Writes_k x fun w5 k5=>?_
   have h4:=k5.at0 h4d
   have k05:=kp0 (kp0 k03 k4).drew k5
   simp only [sb,h4]
   refine ⟨by trivial,?_⟩
   refine New_bx fun d w6 h6 n6 k6=>?_
   have k06:=kp0 k05 k6
   have k16:Keeps [] w1 w6:=kp0 (kp0 (kp0 (kp0 k2 k3) k4).drew k5) k6
   have hr6:=hr.keeps0 k16
   have hrl:=hr6.len'
   rw [List.length_map,List.length_take] at hrl
   refine SlC.app (ρ:=lkR) (new:=[lockO x]) hr6 (by rw [List.flatMap_singleton];exact box_src (ρ:=lkR) (x:=lockO x) h6) rfl (by rw [zc_Lock];rfl) (by omega) (by omega) ?_
   intro r' w7 h7 k7 hb7
   refine ⟨l.length - (i + 1),by omega,q1,q2,r',i + 1,by rw [w64p (by omega)],rfl,by omega,he,?_,fun y hy=>?_,kpx k06 k7 fr⟩
   ·rw [List.take_add_one,hx,List.map_append]
    exact h7
   ·rcases hb7 y hy with h' | h'
    ·exact fr y h'
    ·have:=k06.size;omega
  ·rw [if_neg hc]
   rw [if_pos (by simpa using hc)] at he
   refine bx2 rfl rfl rfl fun c w4 h4 n4 k4=>?_
   dsimp only
   rw [show (opE x != 0)=true from by simpa using hc,he]
   exact k' (by rw [← he];exact hc) _ (kp0 k03 k4)
 ·rw [decide_eq_false (by omega)]
  rw [List.drop_of_length_le (by omega),opsE] at he
  rw [List.take_of_length_le (by omega)] at hr
  exact k he.symm _ _ hr fr k1
def mapE:ByteArray→List Pa→Int
 | _,[]=>0
 | last,p :: m=>if !okK p.k then 20 else if decide (p.v.size > 16) then 2 else if slt p.k last || seq p.k last then 1 else mapE p.k m
theorem CheckMap_k {w:World} {s:Sl} {l:List Pa} (h:RdE paR w s l) (hN:l.length≤100000000) {K:TR [.sc (.i .i64)]→Pr} (k:∀ w',Keeps [] w w'→K (mapE (BA []) l,()) w'):Cl Pg i_op_CheckMap [.slice s.p s.len s.cap] false [.sc (.i .i64)] K w:=by
 have hl:=h.len
 refine op_CheckMap_call _ ?_
 unfold op_CheckMap
 refine ⟨fun n st w'=>∃ (q:Int) (z:ByteArray) (i:Nat),st=(q,z,(i:Int),())∧n=l.length - i∧i≤l.length∧mapE z (l.drop i)=mapE (BA []) l∧Keeps [] w w',⟨_,0,BA [],0,rfl,rfl,by omega,rfl,Keeps.refl _ _⟩,?_⟩
 rintro n _ w1 ⟨q,z,i,rfl,rfl,hi,he,k1⟩
 dsimp only
 by_cases hlt:i < l.length
 ·rw [decide_eq_true (by omega)]
  simp only [Br_true]
  obtain ⟨x,hx⟩:∃ x,l[i]?=some x:=⟨_,List.getElem?_eq_getElem hlt⟩
  have hd:l.drop i=x :: l.drop (i + 1):=by rw [List.drop_eq_getElem_cons hlt,(List.getElem?_eq_some_iff.1 hx).2]
  rw [hd,mapE] at he
  refine ld_Pair (h.keeps0 k1) hx ?_
  refine bx_Pair x fun b w2 h2 n2 k2=>?_
  simp only [sb,h2]
  refine CheckKey_k _ ?_
  have k02:=kp0 k1 k2
  dsimp only
  rw [ok20]
  cases hc:okK x.k with
  | false=>rw [hc] at he;rw [← he] at k;exact k _ k02
  | true=>
  rw [hc] at he
  simp only [Bool.not_true,Bool.false_eq_true,if_false] at he
  simp only [sb,h2,Bool.not_true]
  rw [show decide (((x.v.size:Nat):Int) > 16)=decide (x.v.size > 16) from decide_eq_decide.2 (by omega)]
  cases hv:decide (x.v.size > 16) with
  | true=>rw [hv] at he;rw [← he] at k;exact k _ k02
  | false=>
  rw [hv] at he
  simp only [Bool.false_eq_true,if_false] at he
  simp only [sb,h2]
  cases hs:(slt x.k z || seq x.k z) with
  | true=>rw [hs] at he;rw [← he] at k;exact k _ k02
  | false=>
  rw [hs] at he
  simp only [Bool.false_eq_true,if_false] at he
  simp only [sb,h2]
  exact ⟨l.length - (i + 1),by omega,q,x.k,i + 1,by rw [w64p (by omega)],rfl,by omega,he,k02⟩
 ·rw [decide_eq_false (by omega)]
  rw [List.drop_of_length_le (by omega),mapE] at he
  rw [← he] at k
  exact k _ k1
structure MapOk (m:List Pa):Prop where
 ok:∀ p∈m,okK p.k=true∧p.v.size≤16
 up:m.Pairwise (fun a b=>slt a.k b.k=true)
theorem mapE_ok {m:List Pa} {z:ByteArray}:mapE z m=0 ↔ MapOk m∧∀ p∈m,slt z p.k=true:=by
 induction m generalizing z with
 | nil=>exact ⟨fun _=>⟨⟨by simp,by simp⟩,by simp⟩,fun _=>rfl⟩
 | cons p m ih=>
  rw [mapE]
  constructor
  ·intro h
   split at h
   ·cases h
   rename_i h1
   split at h
   ·cases h
   rename_i h2
   split at h
   ·cases h
   rename_i h3
   obtain ⟨g1,g2⟩:=ih.1 h
   have h1':okK p.k=true:=by simpa using h1
   have h2':p.v.size≤16:=by simpa using h2
   have h4:slt z p.k=true:=by
    simp only [Bool.or_eq_true,not_or,Bool.not_eq_true] at h3
    cases hz:slt z p.k with
    | true=>rfl
    | false=>
     have:=slt_total h3.1 hz
     rw [this,seq_eq] at h3
     simp at h3
   refine ⟨⟨fun x hx=>?_,List.pairwise_cons.2 ⟨g2,g1.up⟩⟩,fun x hx=>?_⟩
   ·rcases List.mem_cons.1 hx with rfl | hx
    ·exact ⟨h1',h2'⟩
    ·exact g1.ok x hx
   ·rcases List.mem_cons.1 hx with rfl | hx
    ·exact h4
    ·exact slt_trans h4 (g2 x hx)
  ·rintro ⟨⟨g1,g2⟩,g3⟩
   rw [List.pairwise_cons] at g2
   have h1:=g1 p List.mem_cons_self
   have h3:=g3 p List.mem_cons_self
   rw [if_neg (by rw [h1.1];simp),if_neg (by simpa using h1.2),if_neg (by rw [slt_asymm h3,seq_eq,decide_eq_false (slt_ne h3).symm];simp)]
   exact ih.2 ⟨⟨fun x hx=>g1 x (List.mem_cons_of_mem _ hx),g2.2⟩,g2.1⟩
theorem mapE_ok0 {m:List Pa}:mapE (BA []) m=0 ↔ MapOk m:=by
 rw [mapE_ok]
 refine ⟨fun h=>h.1,fun h=>⟨h,fun p hp=>?_⟩⟩
 rw [empty_slt]
 have:=(h.ok p hp).1
 unfold okK at this
 simp at this
 simpa using this.1
theorem at_call {w:World} {s:Sl} {m:List Pa} (h:RdE paR w s m) (hm:MapOk m) (hN:m.length≤100000000) (key:ByteArray) {K:TR [.sc (.i .i64),.sc .b]→Pr} (k:∀ w',Keeps [] w w'→K ((bsAt (fun p:Pa=>cmpS p.k key) m:Int),bsIs (fun p:Pa=>cmpS p.k key) m,()) w') :
  Cl Pg i_op_at [.slice s.p s.len s.cap,.string key] true [.sc (.i .i64),.sc .b] K w:=by
 refine op_at_call _ _ ?_
 unfold op_at
 refine Search_Pair_k (c:=fun p:Pa=>cmpS p.k key) h ?_ ?_ hN fun w' k'=>k w' k'
 ·intro w1 k1 x _ K1 hK
  refine CallV_fn0 (by kernel_rfl) ?_
  refine op_at_1_call _ _ _ ?_
  unfold op_at_1
  refine New_bx fun b w2 h2 n2 k2=>?_
  simp only [sb,h2]
  exact Compare_str_k _ _ (hK _ k2)
 ·exact hm.up.imp fun h=>by rw [cmpS_lt,cmpS_lt];exact slt_trans h
theorem bs_split_f {α:Type} {c:α→Int} {l:List α} (hp:l.Pairwise (fun a b=>c b < 0→c a < 0)):l.take (bsAt c l)=l.filter (fun x=>decide (c x < 0))∧l.drop (bsAt c l)=l.filter (fun x=>!decide (c x < 0)):=by
 have h1:∀ y∈l.take (bsAt c l),c y < 0:=by
  intro y hy
  obtain ⟨j,hj,rfl⟩:=List.mem_take_iff_getElem.1 hy
  exact bsAt_lt (List.getElem?_eq_getElem (by omega)) (by omega)
 have h2:∀ y∈l.drop (bsAt c l),¬ c y < 0:=by
  intro y hy
  obtain ⟨j,hj⟩:=List.getElem?_of_mem hy
  rw [List.getElem?_drop] at hj
  have:=bsAt_ge hp hj (Nat.le_add_right _ _)
  omega
 constructor
 ·conv=>rhs;rw [← List.take_append_drop (bsAt c l) l]
  rw [List.filter_append,List.filter_eq_self.2 (fun y hy=>by simpa using h1 y hy),List.filter_eq_nil_iff.2 (fun y hy=>by simpa using h2 y hy),List.append_nil]
 ·conv=>rhs;rw [← List.take_append_drop (bsAt c l) l]
  rw [List.filter_append,List.filter_eq_nil_iff.2 (fun y hy=>by simpa using h1 y hy),List.filter_eq_self.2 (fun y hy=>by simpa using h2 y hy),List.nil_append]
theorem MapOk.bs {m:List Pa} (h:MapOk m) (key:ByteArray):m.take (bsAt (fun p:Pa=>cmpS p.k key) m)=m.filter (fun p=>slt p.k key)∧m.drop (bsAt (fun p:Pa=>cmpS p.k key) m)=m.filter (fun p=>!slt p.k key):=by
 have:=bs_split_f (c:=fun p:Pa=>cmpS p.k key) (l:=m) (h.up.imp fun h=>by rw [cmpS_lt,cmpS_lt];exact slt_trans h)
 have e:(fun p:Pa=>decide (cmpS p.k key < 0))=fun p=>slt p.k key:=by
  funext p
  rw [Bool.eq_iff_iff,decide_eq_true_iff,cmpS_lt]
 have e2:(fun p:Pa=>!decide (cmpS p.k key < 0))=fun p=>!slt p.k key:=by
  funext p
  exact congrArg not (congrFun e p)
 rw [e,e2] at this
 exact this
theorem MapOk.sub {m m':List Pa} (h:MapOk m) (hs:List.Sublist m' m):MapOk m':=⟨fun p hp=>h.ok p (hs.subset hp),h.up.sublist hs⟩
end Go.Proofs.YthkdehgfdllpoaaGreat
set_option linter.unusedVariables false
set_option linter.unusedSimpArgs false
set_option linter.unusedSectionVars false
namespace Go.Proofs.YthkdehgfdllpoaaGreat
open Go Go.Sx
structure Rp where
 found:Bool
 value:ByteArray
 pairs:List Pa
deriving DecidableEq
def Rs.p (x:Rs):Rp:=⟨x.found,x.value,x.pairs⟩
def noRp:Rp:=⟨false,BA [],[]⟩
def findM (m:List Pa) (key:ByteArray):Option ByteArray:=(m.find? (fun p=>seq p.k key)).map (·.v)
def putM (m:List Pa) (key value:ByteArray):List Pa:=m.filter (fun p=>slt p.k key) ++ ⟨key,value⟩ :: m.filter (fun p=>slt key p.k)
def inM (lo hi:ByteArray) (p:Pa):Bool:=!slt p.k lo && (seq hi (BA []) || slt p.k hi)
def doM (m:List Pa) (o:Op):List Pa × Rp:=
 if o.kind=1 then (m,match findM m o.key with | some v=>⟨true,v,[]⟩ | none=>noRp)
 else if o.kind=2 then (putM m o.key o.value,noRp)
 else if o.kind=3 then (m.filter (fun p=>!seq p.k o.key),noRp)
 else if o.kind=4 then (m,⟨false,BA [],(m.filter (inM o.lo o.hi)).take o.most.toNat⟩)
 else (m.filter (fun p=>!inM o.lo o.hi p),noRp)
def applyM (m:List Pa):List Op→List Pa × List Rp
 | []=>(m,[])
 | o :: l=>((applyM (doM m o).1 l).1,(doM m o).2 :: (applyM (doM m o).1 l).2)
theorem MapOk.is {m:List Pa} (h:MapOk m) (key:ByteArray):bsIs (fun p:Pa=>cmpS p.k key) m=true→∃ p,m[bsAt (fun p:Pa=>cmpS p.k key) m]?=some p∧p.k=key:=by
 intro hi
 unfold bsIs at hi
 split at hi
 ·rename_i p hp
  rw [cmpS_eq,decide_eq_true_iff] at hi
  exact ⟨p,hp,hi⟩
 ·cases hi
theorem MapOk.isnt {m:List Pa} (h:MapOk m) {key:ByteArray} (hi:bsIs (fun p:Pa=>cmpS p.k key) m=false):∀ p∈m,p.k ≠ key:=by
 intro p hp e
 obtain ⟨j,hj⟩:=List.getElem?_of_mem hp
 have hpw:m.Pairwise (fun a b=>cmpS b.k key < 0→cmpS a.k key < 0):=h.up.imp fun h=>by rw [cmpS_lt,cmpS_lt];exact slt_trans h
 have h0:¬ cmpS p.k key < 0:=by rw [cmpS_lt,e,slt_irrefl];simp
 have h1:bsAt (fun p:Pa=>cmpS p.k key) m≤j:=by
  rcases Nat.lt_or_ge j (bsAt (fun p:Pa=>cmpS p.k key) m) with h' | h'
  ·exact absurd (bsAt_lt hj h') h0
  ·exact h'
 have hjl:=(List.getElem?_eq_some_iff.1 hj).1
 obtain ⟨x,hx⟩:∃ x,m[bsAt (fun p:Pa=>cmpS p.k key) m]?=some x:=⟨_,List.getElem?_eq_getElem (by omega)⟩
 unfold bsIs at hi
 rw [hx] at hi
 dsimp only at hi
 rw [cmpS_eq,decide_eq_false_iff_not] at hi
 have h2:=bsAt_ge hpw hx (Nat.le_refl _)
 rcases Nat.lt_or_ge (bsAt (fun p:Pa=>cmpS p.k key) m) j with h' | h'
 ·have h3:=List.pairwise_iff_getElem.1 h.up _ _ (by omega) hjl h'
  rw [(List.getElem?_eq_some_iff.1 hx).2,(List.getElem?_eq_some_iff.1 hj).2,e] at h3
  rw [← cmpS_lt] at h3
  omega
 ·have:j=bsAt (fun p:Pa=>cmpS p.k key) m:=by omega
  rw [← this,hj] at hx
  injection hx with hx
  rw [hx] at e
  exact hi e
theorem MapOk.uniq {m:List Pa} (h:MapOk m) {p q:Pa} (hp:p∈m) (hq:q∈m) (e:p.k=q.k):p=q:=by
 induction m with
 | nil=>cases hp
 | cons x m ih=>
  have hu:=List.pairwise_cons.1 h.up
  have ht:MapOk m:=h.sub (List.sublist_cons_self _ _)
  rcases List.mem_cons.1 hp with hp1 | hp1 <;> rcases List.mem_cons.1 hq with hq1 | hq1
  ·rw [hp1,hq1]
  ·rw [hp1] at e;exact absurd e (slt_ne (hu.1 q hq1))
  ·rw [hq1] at e;exact absurd e.symm (slt_ne (hu.1 p hp1))
  ·exact ih ht hp1 hq1
theorem MapOk.find_is {m:List Pa} (h:MapOk m) {p:Pa} (hp:p∈m):findM m p.k=some p.v:=by
 unfold findM
 cases hf:m.find? (fun q=>seq q.k p.k) with
 | none=>
  have:=List.find?_eq_none.1 hf p hp
  rw [seq_eq] at this
  simp at this
 | some q=>
  have h1:=List.find?_some hf
  rw [seq_eq,decide_eq_true_iff] at h1
  rw [h.uniq (List.mem_of_find?_eq_some hf) hp h1]
  rfl
theorem find_none {m:List Pa} {key:ByteArray} (h:∀ p∈m,p.k ≠ key):findM m key=none:=by
 unfold findM
 rw [List.find?_eq_none.2 (fun p hp=>by rw [seq_eq];simpa using h p hp)]
 rfl
theorem MapOk.drop1 {m:List Pa} (h:MapOk m) {key:ByteArray} {p:Pa} (hp:m[bsAt (fun p:Pa=>cmpS p.k key) m]?=some p) (hk:p.k=key):m.drop (bsAt (fun p:Pa=>cmpS p.k key) m + 1)=m.filter (fun p=>slt key p.k):=by
 have hlt:=(List.getElem?_eq_some_iff.1 hp).1
 have h2:=(h.bs key).2
 rw [List.drop_eq_getElem_cons hlt,(List.getElem?_eq_some_iff.1 hp).2] at h2
 have h3:(m.filter (fun p=>!slt p.k key)).filter (fun p=>slt key p.k)=m.filter (fun p=>slt key p.k):=by
  rw [List.filter_filter]
  refine List.filter_congr fun x _=>?_
  cases hx:slt key x.k with
  | false=>simp
  | true=>rw [slt_asymm hx];rfl
 rw [← h2,List.filter_cons,hk,slt_irrefl] at h3
 rw [← h3]
 simp only [Bool.false_eq_true,if_false]
 refine (List.filter_eq_self.2 fun x hx=>?_).symm
 have h4:(p :: m.drop (bsAt (fun p:Pa=>cmpS p.k key) m + 1)).Pairwise (fun a b=>slt a.k b.k=true):=by
  have:=h.up.sublist (List.drop_sublist (bsAt (fun p:Pa=>cmpS p.k key) m) m)
  rwa [List.drop_eq_getElem_cons hlt,(List.getElem?_eq_some_iff.1 hp).2] at this
 rw [← hk]
 exact (List.pairwise_cons.1 h4).1 x hx
theorem MapOk.drop0 {m:List Pa} {key:ByteArray} (h:∀ p∈m,p.k ≠ key):m.filter (fun p=>!slt p.k key)=m.filter (fun p=>slt key p.k):=by
 refine List.filter_congr fun x hx=>?_
 cases h1:slt key x.k with
 | true=>rw [slt_asymm h1];rfl
 | false=>
  cases h2:slt x.k key with
  | true=>rfl
  | false=>exact absurd (slt_total h2 h1) (h x hx)
theorem filt_ne {m:List Pa} (h:MapOk m) (key:ByteArray):m.filter (fun p=>!seq p.k key)=m.filter (fun p=>slt p.k key) ++ m.filter (fun p=>slt key p.k):=by
 have h1:=(h.bs key).1
 have h2:=(h.bs key).2
 conv=>lhs;rw [← List.take_append_drop (bsAt (fun p:Pa=>cmpS p.k key) m) m,List.filter_append,h1,h2,List.filter_filter,List.filter_filter]
 congr 1
 ·refine List.filter_congr fun x _=>?_
  rw [seq_eq]
  cases h3:slt x.k key with
  | true=>rw [decide_eq_false (slt_ne h3)];rfl
  | false=>simp
 ·refine List.filter_congr fun x _=>?_
  rw [seq_eq]
  cases h3:slt key x.k with
  | true=>rw [slt_asymm h3,decide_eq_false (slt_ne h3).symm];rfl
  | false=>
   cases h4:slt x.k key with
   | true=>simp
   | false=>rw [slt_total h4 h3];simp
theorem MapOk.put {m:List Pa} (h:MapOk m) {key value:ByteArray} (h1:okK key=true) (h2:value.size≤16):MapOk (putM m key value):=by
 constructor
 ·intro p hp
  unfold putM at hp
  rcases List.mem_append.1 hp with hp | hp
  ·exact h.ok p (List.mem_filter.1 hp).1
  ·rcases List.mem_cons.1 hp with rfl | hp
   ·exact ⟨h1,h2⟩
   ·exact h.ok p (List.mem_filter.1 hp).1
 ·unfold putM
  rw [List.pairwise_append]
  refine ⟨h.up.sublist List.filter_sublist,List.pairwise_cons.2 ⟨fun x hx=>(List.mem_filter.1 hx).2,h.up.sublist List.filter_sublist⟩,fun x hx y hy=>?_⟩
  have hx:=(List.mem_filter.1 hx).2
  rcases List.mem_cons.1 hy with rfl | hy
  ·exact hx
  ·exact slt_trans hx (List.mem_filter.1 hy).2
theorem opE_ok {o:Op} (h:opE o=0):okKd o.kind=true∧(fKey o.kind=true→okK o.key=true)∧o.value.size≤16∧(fRng o.kind=true→okR o.lo o.hi=true)∧(fMost o.kind=true→1≤o.most∧o.most≤4):=by
 unfold opE at h
 repeat' split at h
 all_goals first | (cases h;done) | skip
 rename_i h1 h2 h3 h4 h5
 refine ⟨?_,?_,?_,?_,?_⟩
 ·simp only [Bool.or_eq_true,not_or,Bool.not_eq_true,Bool.not_eq_false'] at h1
  exact h1.1
 ·intro e;rw [e] at h2;simpa using h2
 ·simpa using h3
 ·intro e;rw [e] at h4;simpa using h4
 ·intro e
  rw [e] at h5
  simp at h5
  omega
theorem doM_ok {m:List Pa} (h:MapOk m) {o:Op} (ho:opE o=0):MapOk (doM m o).1:=by
 obtain ⟨h1,h2,h3,_⟩:=opE_ok ho
 unfold doM
 split
 ·exact h
 split
 ·rename_i e
  exact h.put (h2 (by rw [e];rfl)) h3
 split
 ·exact h.sub List.filter_sublist
 split
 ·exact h
 ·exact h.sub List.filter_sublist
theorem applyM_ok {l:List Op}:∀ {m:List Pa},MapOk m→opsE l=0→MapOk (applyM m l).1:=by
 induction l with
 | nil=>intro m h _;exact h
 | cons o l ih=>
  intro m h hl
  rw [opsE_all] at hl
  exact ih (doM_ok h (hl o List.mem_cons_self)) (opsE_all.2 fun x hx=>hl x (List.mem_cons_of_mem _ hx))
theorem doM_len (m:List Pa) (o:Op):(doM m o).1.length≤m.length + 1:=by
 have f:∀ p:Pa→Bool,(m.filter p).length≤m.length:=fun p=>List.length_filter_le _ _
 unfold doM
 split
 ·exact Nat.le_succ _
 split
 ·unfold putM
  rw [List.length_append,List.length_cons]
  have e:(m.filter (fun p=>slt p.k o.key)).length + (m.filter (fun p=>slt o.key p.k)).length≤m.length:=by
   clear f
   induction m with
   | nil=>simp
   | cons x m ih=>
    simp only [List.filter_cons,List.length_cons]
    cases h1:slt x.k o.key with
    | true=>rw [slt_asymm h1];simp only [if_true,Bool.false_eq_true,if_false,List.length_cons];omega
    | false=>cases h2:slt o.key x.k <;> simp only [if_true,Bool.false_eq_true,if_false,List.length_cons] <;> omega
  omega
 split
 ·exact Nat.le_succ_of_le (f _)
 split
 ·exact Nat.le_succ _
 ·exact Nat.le_succ_of_le (f _)
theorem ends_k {w:World} {s:Sl} {m:List Pa} (h:RdE paR w s m) (hm:MapOk m) (hN:m.length≤100000000) (lo hi:ByteArray) {K:TR [.sc (.i .i64),.sc (.i .i64)]→Pr}
  (k:∀ w',Keeps [] w w'→K ((bsAt (fun p:Pa=>cmpS p.k lo) m:Int),((if seq hi (BA []) then m.length else bsAt (fun p:Pa=>cmpS p.k hi) m:Nat):Int),()) w') :
  Cl Pg i_op_ends [.slice s.p s.len s.cap,.agg #[.string lo,.string hi]] true [.sc (.i .i64),.sc (.i .i64)] K w:=by
 have hl:=h.len
 refine op_ends_call _ _ _ ?_
 unfold op_ends
 refine New_bx fun a w1 h1 n1 k1=>?_
 simp only [sb,h1]
 refine at_call (h.keeps0 k1) hm hN lo fun w2 k2=>?_
 have h1:=k2.at0 h1
 have k02:=kp0 k1 k2
 simp only [Jp,sb,h1]
 cases hs:seq hi (BA []) with
 | true=>
  rw [hs] at k
  simp only [Bool.not_true,Br_false,hl]
  exact k w2 k02
 | false=>
  rw [hs] at k
  simp only [Bool.not_false,sb,h1]
  refine at_call (h.keeps0 k02) hm hN hi fun w3 k3=>?_
  exact k w3 (kp0 k02 k3)
theorem mid_eq {m:List Pa} (h:MapOk m) {lo hi:ByteArray} (hr:okR lo hi=true) (i j:Nat) (hi0:i=bsAt (fun p:Pa=>cmpS p.k lo) m) (hj0:j=if seq hi (BA []) then m.length else bsAt (fun p:Pa=>cmpS p.k hi) m) :
  i≤j∧j≤m.length∧(m.drop i).take (j - i)=m.filter (inM lo hi)∧m.take i ++ m.drop j=m.filter (fun p=>!inM lo hi p):=by
 have hi1:i≤m.length:=by rw [hi0];exact bsAt_le _ _
 have hj:j≤m.length:=by rw [hj0];split;exact Nat.le_refl _;exact bsAt_le _ _
 have hL:=h.bs lo
 rw [← hi0] at hL
 have hH:=h.bs hi
 have hij:i≤j:=by
  rw [hj0]
  split
  ·exact hi1
  ·rename_i hs
   rw [Bool.not_eq_true] at hs
   have hlt:slt lo hi=true:=by
    unfold okR at hr
    rw [hs] at hr
    simp at hr
    exact hr.2
   have e1:i=(m.filter (fun p=>slt p.k lo)).length:=by rw [← hL.1,List.length_take];omega
   have e2:bsAt (fun p:Pa=>cmpS p.k hi) m=(m.filter (fun p=>slt p.k hi)).length:=by
    rw [← hH.1,List.length_take]
    have:=bsAt_le (fun p:Pa=>cmpS p.k hi) m
    omega
   rw [e1,e2]
   have e3:m.filter (fun p=>slt p.k lo)=(m.filter (fun p=>slt p.k hi)).filter (fun p=>slt p.k lo):=by
    rw [List.filter_filter]
    refine List.filter_congr fun x _=>?_
    cases hx:slt x.k lo with
    | false=>rfl
    | true=>rw [slt_trans hx hlt];rfl
   rw [e3]
   exact List.length_filter_le _ _
 have hJ:m.take j=m.filter (fun p=>seq hi (BA []) || slt p.k hi)∧m.drop j=m.filter (fun p=>!(seq hi (BA []) || slt p.k hi)):=by
  rw [hj0]
  cases hs:seq hi (BA []) with
  | true=>
   simp only [if_true,Bool.true_or,Bool.not_true,List.take_length,List.drop_length]
   exact ⟨(List.filter_eq_self.2 fun _ _=>rfl).symm,(List.filter_eq_nil_iff.2 fun _ _=>by simp).symm⟩
  | false=>
   simp only [Bool.false_eq_true,if_false,Bool.false_or]
   exact hH
 refine ⟨hij,hj,?_,?_⟩
 ·have:(m.drop i).take (j - i)=(m.take j).drop i:=by rw [List.drop_take]
  rw [this,hJ.1]
  have e:m.filter (inM lo hi)=((m.filter (fun p=>seq hi (BA []) || slt p.k hi))).filter (fun p=>!slt p.k lo):=by
   rw [List.filter_filter]
   rfl
  rw [e,← hJ.1]
  conv=>rhs;rw [← List.take_append_drop i (m.take j),List.filter_append]
  have h1:(m.take j).take i=m.filter (fun p=>slt p.k lo):=by rw [List.take_take,Nat.min_eq_left hij];exact hL.1
  have h2:∀ x∈(m.take j).drop i,(!slt x.k lo)=true:=by
   intro x hx
   have:x∈m.drop i:=(List.Sublist.drop (List.take_sublist _ _) _).subset hx
   rw [hL.2] at this
   exact (List.mem_filter.1 this).2
  rw [h1,List.filter_eq_self.2 h2,List.filter_eq_nil_iff.2 (fun x hx=>by rw [(List.mem_filter.1 hx).2];simp),List.nil_append]
 ·rw [hL.1,hJ.2]
  conv=>rhs;rw [← List.take_append_drop i m,List.filter_append,hL.1,hL.2,List.filter_filter,List.filter_filter]
  congr 1
  ·refine (List.filter_congr fun x _=>?_)
   unfold inM
   cases slt x.k lo <;> simp
  ·refine List.filter_congr fun x hx=>?_
   unfold inM
   cases h1:slt x.k lo with
   | false=>simp
   | true=>
    have hlt:(seq hi (BA []) || slt x.k hi)=true:=by
     cases hs:seq hi (BA []) with
     | true=>rfl
     | false=>
      have hlt:slt lo hi=true:=by
       unfold okR at hr
       rw [hs] at hr
       simp at hr
       exact hr.2
      rw [slt_trans h1 hlt]
      rfl
    rw [hlt]
    rfl
def DoK (o:Op) (m:List Pa) (s:Sl) (w:World) (K:TR [.sc .sl,.ag [.b,.s,.sl]]→Pr):Prop:=
 ∀ (r:Sl) (x:Rs) (w':World),SlE paR w' r (doM m o).1→x.p=(doM m o).2→RdE paR w' x.sp x.pairs→(∀ b∈rb x.sp,w.heap.size≤b)→(∀ b∈rb x.sp,b ∉ blk r)→(∀ b∈blk r,b∈blk s∨w.heap.size≤b)→Keeps (blk s) w w'→K (r,(x.found,x.value,x.sp,()),()) w'
theorem outR {w:World} {b:Nat} {t:TypeId} {u0 u1 u2:Value} {x:Bool} {y:ByteArray} {z:Sl} {K:Bool→ByteArray→Sl→Pr} (h:w.heap[b]?=some (.cells #[u0,u1,u2] t (0,0))) (k:∀ w',Keeps [b] w w'→K x y z w') :
  St (Addr.add ⟨b,0,none⟩ 0) (.bool x) (St (Addr.add ⟨b,0,none⟩ 1) (.string y) (St (Addr.add ⟨b,0,none⟩ 2) (.slice z.p z.len z.cap) (LdB (Addr.add ⟨b,0,none⟩ 0) fun x'=>LdS (Addr.add ⟨b,0,none⟩ 1) fun y'=>LdL (Addr.add ⟨b,0,none⟩ 2) fun z'=>K x' y' z'))) w:=by
 refine put3 h rfl rfl rfl fun w' h' k'=>?_
 simp only [sb,h']
 exact k w' k'
theorem outR0 {w:World} {b:Nat} {t:TypeId} {u0 u1 u2:Value} {x:Bool} {y:ByteArray} {K:Bool→ByteArray→Sl→Pr} (h:w.heap[b]?=some (.cells #[u0,u1,u2] t (0,0))) (k:∀ w',Keeps [b] w w'→K x y ⟨none,0,0⟩ w') :
  St (Addr.add ⟨b,0,none⟩ 0) (.bool x) (St (Addr.add ⟨b,0,none⟩ 1) (.string y) (St (Addr.add ⟨b,0,none⟩ 2) (.slice none 0 0) (LdB (Addr.add ⟨b,0,none⟩ 0) fun x'=>LdS (Addr.add ⟨b,0,none⟩ 1) fun y'=>LdL (Addr.add ⟨b,0,none⟩ 2) fun z'=>K x' y' z'))) w:=outR (z:=⟨none,0,0⟩) h k
theorem kpb {m:List Nat} {b:Nat} {a c d:World} (h:Keeps m a c) (k:Keeps [b] c d) (hb:a.heap.size≤b):Keeps m a d:=h.trans k (by intro x hx;rw [List.mem_singleton.1 hx];exact .inr hb)
theorem kpm {m:List Nat} {a c d:World} (h:Keeps m a c) (k:Keeps [] c d):Keeps m a d:=h.trans k (by simp)
theorem k0m {m:List Nat} {a c d:World} (h:Keeps [] a c) (k:Keeps m c d):Keeps m a d:=(h.mono (by simp)).trans k (fun _ h=>.inl h)
section
variable {w:World} {s:Sl} {m:List Pa} (h:SlE paR w s m) (hm:MapOk m) (hN:m.length≤1000000) (o:Op) (ho:opE o=0)
include h hm hN ho
theorem get_k (hk:o.kind=1) {K:TR [.sc .sl,.ag [.b,.s,.sl]]→Pr} (k:DoK o m s w K):Cl Pg i_op_get [.slice s.p s.len s.cap,.agg #[.int .i64 o.kind,.string o.key,.string o.value,.string o.lo,.string o.hi,.int .i64 o.most]] true [.sc .sl,.ag [.b,.s,.sl]] K w:=by
 refine op_get_call _ _ _ _ _ _ _ ?_
 unfold op_get
 refine New_bx fun a w1 h1 n1 k1=>?_
 refine New_bx fun b w2 h2 n2 k2=>?_
 have h1:=k2.at0 h1
 have k02:=kp0 k1 k2
 have n2':w.heap.size≤b:=by have:=k1.size;omega
 simp only [sb,h1]
 refine at_call (h.rde.keeps0 k02) hm (by omega) o.key fun w3 k3=>?_
 have h2:=k3.at0 h2
 have k03:=kp0 k02 k3
 have nb:b ∉ blk s:=fun hb=>by have:=h.lt b hb;omega
 have hd:doM m o=(m,match findM m o.key with | some v=>⟨true,v,[]⟩ | none=>noRp):=by unfold doM;rw [if_pos hk]
 unfold DoK at k
 rw [hd] at k
 cases hi:bsIs (fun p:Pa=>cmpS p.k o.key) m with
 | false=>
  rw [find_none (hm.isnt hi)] at k
  simp only [Bool.not_false,Br_true]
  refine outR0 h2 fun w4 k4=>?_
  exact k s ⟨false,BA [],⟨none,0,0⟩,[]⟩ w4 ((h.keeps0 k03).keeps k4 (fun x hx=>by simp;exact fun e=>nb (e ▸ hx))) rfl (RdE.nil _) (by simp [rb]) (by simp [rb]) (fun x hx=>.inl hx) ((kp1 k03 k4 n2').mono (by simp))
 | true=>
  obtain ⟨p,hp,hpk⟩:=hm.is o.key hi
  rw [← hpk,hm.find_is (List.mem_of_getElem? hp)] at k
  simp only [Bool.not_true,Br_false,Dr]
  have h2d:w3.drew.heap[b]?=_:=h2
  have k03d:=k03.drew
  have hs3:=h.rde.keeps0 k03d
  obtain ⟨q,hq,hqc⟩:=hs3.at hp
  have hi2:=(List.getElem?_eq_some_iff.1 hp).1
  have hl:=h.len'
  unfold Ix
  rw [hq]
  refine ⟨by omega,by omega,?_⟩
  rw [Int.toNat_natCast]
  refine ⟨p.v,hqc 1 _ rfl,?_⟩
  refine outR0 h2d fun w4 k4=>?_
  exact k s ⟨true,p.v,⟨none,0,0⟩,[]⟩ w4 ((h.keeps0 k03d).keeps k4 (fun x hx=>by simp;exact fun e=>nb (e ▸ hx))) rfl (RdE.nil _) (by simp [rb]) (by simp [rb]) (fun x hx=>.inl hx) ((kp1 k03d k4 n2').mono (by simp))
theorem put_k (hk:o.kind=2) {K:TR [.sc .sl,.ag [.b,.s,.sl]]→Pr} (k:DoK o m s w K):Cl Pg i_op_put [.slice s.p s.len s.cap,.agg #[.int .i64 o.kind,.string o.key,.string o.value,.string o.lo,.string o.hi,.int .i64 o.most]] true [.sc .sl,.ag [.b,.s,.sl]] K w:=by
 refine op_put_call _ _ _ _ _ _ _ ?_
 unfold op_put
 refine New_bx fun a w1 h1 n1 k1=>?_
 refine New_bx fun b w2 h2 n2 k2=>?_
 have h1:=k2.at0 h1
 have k02:=kp0 k1 k2
 have n2':w.heap.size≤b:=by have:=k1.size;omega
 simp only [sb,h1]
 refine at_call (h.rde.keeps0 k02) hm (by omega) o.key fun w3 k3=>?_
 have h1:=k3.at0 h1
 have h2:=k3.at0 h2
 have k03:=kp0 k02 k3
 have nb:b ∉ blk s:=fun hb=>by have:=h.lt b hb;omega
 have hd:doM m o=(putM m o.key o.value,noRp):=by unfold doM;rw [if_neg (by rw [hk];decide),if_pos hk]
 unfold DoK at k
 rw [hd] at k
 have hbs:=hm.bs o.key
 have hle:=bsAt_le (fun p:Pa=>cmpS p.k o.key) m
 cases hi:bsIs (fun p:Pa=>cmpS p.k o.key) m with
 | false=>
  simp only [Bool.not_false,sb,h1]
  refine New_bx fun c w4 h4 n4 k4=>?_
  have h2:=k4.at0 h2
  have k04:=kp0 k03 k4
  have nc:c ∉ blk s:=fun hc=>by have:=h.lt c hc;have:=k03.size;omega
  refine Insert_Pair_k (x:=⟨o.key,o.value⟩) (h.keeps0 k04) h4 nc hle (by omega) ?_
  intro r w5 h5 f5 k5
  have h2:=k5.at h2 nb
  rw [hbs.1,hbs.2,MapOk.drop0 (hm.isnt hi)] at h5
  have br:b ∉ blk r:=fun hb=>by
   rcases f5 b hb with h' | h'
   ·exact nb h'
   ·have:=hp_lt h2;have:=hp_lt (k4.at0 (k3.at0 (show w2.heap[b]?=_ from by assumption)));omega
  refine outR0 h2 fun w6 k6=>?_
  refine k r ⟨false,BA [],⟨none,0,0⟩,[]⟩ w6 (h5.keeps k6 (fun x hx=>by simp;exact fun e=>br (e ▸ hx))) rfl (RdE.nil _) (by simp [rb]) (by simp [rb]) (fun x hx=>?_) (kpb (k0m k04 k5) k6 n2')
  rcases f5 x hx with h' | h'
  ·exact .inl h'
  ·have:=k04.size;exact .inr (by omega)
 | true=>
  obtain ⟨p,hp,hpk⟩:=hm.is o.key hi
  have hi2:=(List.getElem?_eq_some_iff.1 hp).1
  simp only [Bool.not_true,sb,h1]
  have hs3:=h.keeps0 k03
  have hl:=h.len'
  obtain ⟨bb,oo,hpp,hbb⟩:=hs3.base (by omega)
  rw [Ix_base hpp (by omega) (by omega),Int.toNat_natCast,add_of]
  have e2:(bsAt (fun p:Pa=>cmpS p.k o.key) m + 1) * 2≤m.length * 2:=Nat.mul_le_mul_right _ hi2
  have hfl:(m.flatMap paR.c).length=m.length * 2:=flat_length paR.len m
  refine hs3.write' hpp (bsAt (fun p:Pa=>cmpS p.k o.key) m * 2 + 1) (by omega) (by omega) rfl ?_
  intro w4 h4 k4
  rw [flat_set1 (size:=2) paR.len m _ 1 p ⟨o.key,o.value⟩ (.string o.value) hp (by decide) (by rw [← hpk];rfl)] at h4
  have e3:m.set (bsAt (fun p:Pa=>cmpS p.k o.key) m) ⟨o.key,o.value⟩=putM m o.key o.value:=by
   unfold putM
   rw [List.set_eq_take_append_cons_drop,if_pos hi2,hbs.1,hm.drop1 hp hpk]
  rw [e3] at h4
  have k4':Keeps (blk s) w3 w4:=by rw [hbb];exact k4
  have h2:=k4'.at h2 nb
  refine outR0 h2 fun w5 k5=>?_
  exact k s ⟨false,BA [],⟨none,0,0⟩,[]⟩ w5 (h4.keeps k5 (fun x hx=>by simp;exact fun e=>nb (e ▸ hx))) rfl (RdE.nil _) (by simp [rb]) (by simp [rb]) (fun x hx=>.inl hx) (kpb (k0m k03 k4') k5 n2')
theorem del_k (hk:o.kind=3) {K:TR [.sc .sl,.ag [.b,.s,.sl]]→Pr} (k:DoK o m s w K):Cl Pg i_op_del [.slice s.p s.len s.cap,.agg #[.int .i64 o.kind,.string o.key,.string o.value,.string o.lo,.string o.hi,.int .i64 o.most]] true [.sc .sl,.ag [.b,.s,.sl]] K w:=by
 refine op_del_call _ _ _ _ _ _ _ ?_
 unfold op_del
 refine New_bx fun a w1 h1 n1 k1=>?_
 refine New_bx fun b w2 h2 n2 k2=>?_
 have h1:=k2.at0 h1
 have k02:=kp0 k1 k2
 have n2':w.heap.size≤b:=by have:=k1.size;omega
 have nb:b ∉ blk s:=fun hb=>by have:=h.lt b hb;omega
 have hd:doM m o=(m.filter (fun p=>!seq p.k o.key),noRp):=by unfold doM;rw [if_neg (by rw [hk];decide),if_neg (by rw [hk];decide),if_pos hk]
 unfold DoK at k
 rw [hd] at k
 have hbs:=hm.bs o.key
 have hle:=bsAt_le (fun p:Pa=>cmpS p.k o.key) m
 refine Jp_of (fun st w'=>SlE paR w' st.1 (m.filter (fun p=>!seq p.k o.key))∧(∀ x∈blk st.1,x∈blk s)∧Keeps (blk s) w2 w') (fun J hJ=>?_) ?_
 ·simp only [sb,h1]
  refine at_call (h.rde.keeps0 k02) hm (by omega) o.key fun w3 k3=>?_
  cases hi:bsIs (fun p:Pa=>cmpS p.k o.key) m with
  | false=>
   refine hJ (s,()) _ ⟨?_,fun _ hx=>hx,k3.mono (by simp)⟩
   rw [List.filter_eq_self.2 (fun p hp=>by rw [seq_eq];simpa using hm.isnt hi p hp)]
   exact (h.keeps0 k02).keeps0 k3
  | true=>
   obtain ⟨p,hp,hpk⟩:=hm.is o.key hi
   have hi2:=(List.getElem?_eq_some_iff.1 hp).1
   simp only [Br_true]
   refine Delete_Pair_k ((h.keeps0 k02).keeps0 k3) (Nat.le_succ _) hi2 (by omega) rfl (w64p (by omega)) ?_
   intro r w4 h4 f4 k4
   refine hJ (r,()) _ ⟨?_,f4,k0m k3 k4⟩
   rw [hbs.1,hm.drop1 hp hpk,← filt_ne hm] at h4
   exact h4
 ·rintro ⟨r,_⟩ w3 ⟨h3,f3,k3⟩
  dsimp only at h3 f3
  have h2:=k3.at h2 nb
  refine outR0 h2 fun w4 k4=>?_
  exact k r ⟨false,BA [],⟨none,0,0⟩,[]⟩ w4 (h3.keeps k4 (fun x hx=>by simp;exact fun e=>nb (e ▸ f3 x hx))) rfl (RdE.nil _) (by simp [rb]) (by simp [rb]) (fun x hx=>.inl (f3 x hx)) (kpb (k0m k02 k3) k4 n2')
theorem scan_k (hk:o.kind=4) {K:TR [.sc .sl,.ag [.b,.s,.sl]]→Pr} (k:DoK o m s w K):Cl Pg i_op_scan [.slice s.p s.len s.cap,.agg #[.int .i64 o.kind,.string o.key,.string o.value,.string o.lo,.string o.hi,.int .i64 o.most]] true [.sc .sl,.ag [.b,.s,.sl]] K w:=by
 obtain ⟨_,_,_,hr,hmo⟩:=opE_ok ho
 have hr:=hr (by rw [hk];rfl)
 have hmo:=hmo (by rw [hk];rfl)
 refine op_scan_call _ _ _ _ _ _ _ ?_
 unfold op_scan
 refine New_bx fun a w1 h1 n1 k1=>?_
 refine New_bx fun b w2 h2 n2 k2=>?_
 have h1:=k2.at0 h1
 have k02:=kp0 k1 k2
 have n2':w.heap.size≤b:=by have:=k1.size;omega
 have nb:b ∉ blk s:=fun hb=>by have:=h.lt b hb;omega
 have hd:doM m o=(m,⟨false,BA [],(m.filter (inM o.lo o.hi)).take o.most.toNat⟩):=by unfold doM;rw [if_neg (by rw [hk];decide),if_neg (by rw [hk];decide),if_neg (by rw [hk];decide),if_pos hk]
 unfold DoK at k
 rw [hd] at k
 simp only [sb,h1]
 refine of_k o fun w3 k3=>?_
 have k03:=kp0 k02 k3
 refine ends_k (h.rde.keeps0 k03) hm (by omega) o.lo o.hi fun w4 k4=>?_
 have h1:=k4.at0 (k3.at0 h1)
 have h2:=k4.at0 (k3.at0 h2)
 have k04:=kp0 k03 k4
 obtain ⟨i,hi⟩:∃ i,i=bsAt (fun p:Pa=>cmpS p.k o.lo) m:=⟨_,rfl⟩
 obtain ⟨j,hj⟩:∃ j,j=if seq o.hi (BA []) then m.length else bsAt (fun p:Pa=>cmpS p.k o.hi) m:=⟨_,rfl⟩
 obtain ⟨e1,e2,e3,_⟩:=mid_eq hm hr i j hi hj
 rw [← hi,← hj]
 obtain ⟨q,hq⟩:∃ q:Nat,o.most=q:=⟨o.most.toNat,by omega⟩
 have hl:=h.len'
 have hcap:=h.cap
 simp only [sb,h1]
 rw [hq,w64a rfl rfl (by omega)]
 have hmin:(if ((i + q:Nat):Int) < ((j:Nat):Int) then ((i + q:Nat):Int) else ((j:Nat):Int))=((min (i + q) j:Nat):Int):=by split <;> omega
 rw [hmin]
 have hz:min (i + q) j≤j:=Nat.min_le_right _ _
 have hz2:i≤min (i + q) j:=Nat.le_min.2 ⟨Nat.le_add_right _ _,e1⟩
 have hz3:min (min (i + q) j - i) (j - i)=min q (j - i):=by omega
 generalize min (i + q) j=z at *
 refine ⟨⟨by omega,by omega⟩,?_⟩
 simp only [Int.toNat_natCast]
 refine ⟨⟨Int.natCast_nonneg _,Int.ofNat_le.2 hz2⟩,?_⟩
 have hmid:=(h.rde.keeps0 k04).drop (lo:=i) (hi:=z) (by omega) (by omega)
 refine Clone_Pair_k hmid (by rw [List.length_take,List.length_drop];omega) ?_
 intro r w5 h5 f5 k5
 have h2:=k5.at0 h2
 have k05:=kp0 k04 k5
 refine outR h2 fun w6 k6=>?_
 have s04:=k04.size
 have br:b ∉ blk r:=fun hb=>by
  have:=f5 b hb
  have:=hp_lt (k4.at0 (k3.at0 (show w2.heap[b]?=_ from by assumption)))
  omega
 have hpairs:(m.drop i).take (z - i)=(m.filter (inM o.lo o.hi)).take o.most.toNat:=by
  rw [← e3,List.take_take,hq,Int.toNat_natCast,← hz3,Nat.min_eq_left (by omega)]
 refine k s ⟨false,BA [],r,_⟩ w6 ((h.keeps0 k05).keeps k6 (fun x hx=>by simp;exact fun e=>nb (e ▸ hx))) ?_ (h5.rde.keeps k6 (fun x hx=>by simp;exact fun e=>br (e ▸ h5.rb x hx))) (fun x hx=>?_) (fun x hx hs=>?_) (fun x hx=>.inl hx) ((kp1 k05 k6 n2').mono (by simp))
 ·unfold Rs.p
  rw [← hpairs]
 ·have:=f5 x (h5.rb x hx);omega
 ·have:=f5 x (h5.rb x hx);have:=h.lt x hs;omega
theorem clear_k (hk:o.kind=5) {K:TR [.sc .sl,.ag [.b,.s,.sl]]→Pr} (k:DoK o m s w K):Cl Pg i_op_clear [.slice s.p s.len s.cap,.agg #[.int .i64 o.kind,.string o.key,.string o.value,.string o.lo,.string o.hi,.int .i64 o.most]] true [.sc .sl,.ag [.b,.s,.sl]] K w:=by
 obtain ⟨_,_,_,hr,_⟩:=opE_ok ho
 have hr:=hr (by rw [hk];rfl)
 refine op_clear_call _ _ _ _ _ _ _ ?_
 unfold op_clear
 refine New_bx fun a w1 h1 n1 k1=>?_
 refine New_bx fun b w2 h2 n2 k2=>?_
 have h1:=k2.at0 h1
 have k02:=kp0 k1 k2
 have n2':w.heap.size≤b:=by have:=k1.size;omega
 have nb:b ∉ blk s:=fun hb=>by have:=h.lt b hb;omega
 have hd:doM m o=(m.filter (fun p=>!inM o.lo o.hi p),noRp):=by unfold doM;rw [if_neg (by rw [hk];decide),if_neg (by rw [hk];decide),if_neg (by rw [hk];decide),if_neg (by rw [hk];decide)]
 unfold DoK at k
 rw [hd] at k
 simp only [sb,h1]
 refine of_k o fun w3 k3=>?_
 have k03:=kp0 k02 k3
 refine ends_k (h.rde.keeps0 k03) hm (by omega) o.lo o.hi fun w4 k4=>?_
 have h2:=k4.at0 (k3.at0 h2)
 have k04:=kp0 k03 k4
 obtain ⟨e1,e2,_,e4⟩:=mid_eq hm hr _ _ rfl rfl
 refine Delete_Pair_k (h.keeps0 k04) e1 e2 (by omega) rfl rfl ?_
 intro r w5 h5 f5 k5
 rw [e4] at h5
 have h2:=k5.at h2 nb
 refine outR0 h2 fun w6 k6=>?_
 exact k r ⟨false,BA [],⟨none,0,0⟩,[]⟩ w6 (h5.keeps k6 (fun x hx=>by simp;exact fun e=>nb (e ▸ f5 x hx))) rfl (RdE.nil _) (by simp [rb]) (by simp [rb]) (fun x hx=>.inl (f5 x hx)) (kpb (k0m k04 k5) k6 n2')
theorem do_k {K:TR [.sc .sl,.ag [.b,.s,.sl]]→Pr} (k:DoK o m s w K):CallV Pg (fDo o.kind) [.slice s.p s.len s.cap,.agg #[.int .i64 o.kind,.string o.key,.string o.value,.string o.lo,.string o.hi,.int .i64 o.most]] true [.sc .sl,.ag [.b,.s,.sl]] K w:=by
 rcases kd_cases (opE_ok ho).1 with e | e | e | e | e
 ·rw [show fDo o.kind=.func (.func i_op_get) #[] #[] from by rw [e];rfl]
  exact CallV_fn0 (by kernel_rfl) (get_k h hm hN o ho e k)
 ·rw [show fDo o.kind=.func (.func i_op_put) #[] #[] from by rw [e];rfl]
  exact CallV_fn0 (by kernel_rfl) (put_k h hm hN o ho e k)
 ·rw [show fDo o.kind=.func (.func i_op_del) #[] #[] from by rw [e];rfl]
  exact CallV_fn0 (by kernel_rfl) (del_k h hm hN o ho e k)
 ·rw [show fDo o.kind=.func (.func i_op_scan) #[] #[] from by rw [e];rfl]
  exact CallV_fn0 (by kernel_rfl) (scan_k h hm hN o ho e k)
 ·rw [show fDo o.kind=.func (.func i_op_clear) #[] #[] from by rw [e];rfl]
  exact CallV_fn0 (by kernel_rfl) (clear_k h hm hN o ho e k)
end
end Go.Proofs.YthkdehgfdllpoaaGreat
set_option linter.unusedVariables false
set_option linter.unusedSimpArgs false
namespace Go.Proofs.YthkdehgfdllpoaaGreat
open Go Go.Sx
def RsD (w:World) (x:Rs):Prop:=RdE paR w x.sp x.pairs
theorem applyM_append (m:List Pa) (l:List Op) (o:Op):applyM m (l ++ [o])=((doM (applyM m l).1 o).1,(applyM m l).2 ++ [(doM (applyM m l).1 o).2]):=by
 induction l generalizing m with
 | nil=>rfl
 | cons x l ih=>simp only [List.cons_append,applyM,ih]
theorem applyM_len (m:List Pa) (l:List Op):(applyM m l).1.length≤m.length + l.length∧(applyM m l).2.length=l.length:=by
 induction l generalizing m with
 | nil=>simp [applyM]
 | cons x l ih=>
  obtain ⟨h1,h2⟩:=ih (doM m x).1
  have:=doM_len m x
  simp only [applyM,List.length_cons]
  omega
theorem Apply_k {w:World} {sm sl:Sl} {m:List Pa} {l:List Op} (h:RdE paR w sm m) (hl:RdE opR w sl l) (hN:m.length≤500000) (hL:l.length≤400000) {K:TR [.sc .sl,.sc .sl,.sc (.i .i64)]→Pr}
  (k:MapOk m→opsE l=0→∀ (r1 r2:Sl) (rs:List Rs) (w':World),SlE paR w' r1 (applyM m l).1→SlE rsR w' r2 rs→rs.map Rs.p=(applyM m l).2→(∀ x∈rs,RsD w' x∧∀ b∈rb x.sp,w.heap.size≤b∧b ∉ blk r1∧b ∉ blk r2) →
   (∀ b∈blk r1,w.heap.size≤b∧b ∉ blk r2)→(∀ b∈blk r2,w.heap.size≤b)→Keeps [] w w'→K (r1,r2,0,()) w')
  (k':∀ e w',(¬ MapOk m∨opsE l ≠ 0)→e ≠ 0→Keeps [] w w'→K (⟨none,0,0⟩,⟨none,0,0⟩,e,()) w'):Cl Pg i_op_Apply [.slice sm.p sm.len sm.cap,.slice sl.p sl.len sl.cap] true [.sc .sl,.sc .sl,.sc (.i .i64)] K w:=by
 have hll:=hl.len
 refine op_Apply_call _ _ ?_
 unfold op_Apply
 refine CheckMap_k h (by omega) fun w1 k1=>?_
 dsimp only
 by_cases hm:mapE (BA []) m=0
 ·rw [show (mapE (BA []) m != 0)=false from by rw [hm];rfl]
  simp only [Br_false]
  refine all_k (hl.keeps0 k1) (by omega) fun w2 k2=>?_
  dsimp only
  have k02:=kp0 k1 k2
  by_cases ho:opsE l=0
  ·rw [show (opsE l != 0)=false from by rw [ho];rfl]
   simp only [Br_false]
   have hmo:=mapE_ok0.1 hm
   refine Clone_Pair_k (h.keeps0 k02) (by omega) ?_
   intro r0 w3 h3 f3 k3
   have k03:=kp0 k02 k3
   have s03:=k03.size
   dsimp only
   refine ⟨fun n st w'=>∃ (r1 r2:Sl) (rs:List Rs) (i:Nat),st=(r1,r2,(i:Int),())∧n=l.length - i∧i≤l.length∧SlE paR w' r1 (applyM m (l.take i)).1∧SlE rsR w' r2 rs∧rs.map Rs.p=(applyM m (l.take i)).2∧(∀ x∈rs,RsD w' x∧∀ b∈rb x.sp,w.heap.size≤b∧b ∉ blk r1∧b ∉ blk r2) ∧
    (∀ b∈blk r1,w.heap.size≤b∧b ∉ blk r2)∧(∀ b∈blk r2,w.heap.size≤b)∧Keeps [] w w',⟨_,r0,⟨none,0,0⟩,[],0,rfl,rfl,by omega,h3,SlC.nil _ _,rfl,by simp,fun b hb=>⟨by have:=f3 b hb;have:=k02.size;omega,by simp [blk]⟩,by simp [blk],k03⟩,?_⟩
   rintro n _ w4 ⟨r1,r2,rs,i,rfl,rfl,hi,g1,g2,g3,g4,g5,g6,k4⟩
   dsimp only
   by_cases hlt:i < l.length
   ·rw [decide_eq_true (by omega)]
    simp only [Br_true]
    obtain ⟨x,hx⟩:∃ x,l[i]?=some x:=⟨_,List.getElem?_eq_getElem hlt⟩
    have hxo:opE x=0:=opsE_all.1 ho x (List.mem_of_getElem? hx)
    have htk:l.take (i + 1)=l.take i ++ [x]:=by rw [List.take_add_one,hx];rfl
    have hmi:MapOk (applyM m (l.take i)).1:=applyM_ok hmo (opsE_all.2 fun y hy=>opsE_all.1 ho y (List.mem_of_mem_take hy))
    obtain ⟨hal1,hal2⟩:=applyM_len m (l.take i)
    rw [List.length_take] at hal1 hal2
    refine ld_Op (hl.keeps0 k4) hx ?_
    refine bx_Op x fun b w5 h5 n5 k5=>?_
    refine New_bx fun c w6 h6 n6 k6=>?_
    have h5:=k6.at0 h5
    have h5d:w6.drew.heap[b]?=_:=h5
    have k46:Keeps [] w4 w6.drew:=(kp0 k5 k6).drew
    simp only [sb,h5]
    refine forms_k fun w7 k7=>?_
    have h5:=k7.at0 h5d
    have h6:=k7.at0 (show w6.drew.heap[c]?=_ from h6)
    have k47:=kp0 k46 k7
    have k07:=kp0 k4 k47
    simp only [sb,h5]
    refine ⟨by trivial,by trivial,?_⟩
    refine forms_at (opE_ok hxo).1 ?_
    dsimp only [formT]
    have cw:w4.heap.size≤c:=by have:=k5.size;omega
    refine do_k (g1.keeps0 k47) hmi (by omega) x hxo ?_
    intro r y w8 e1 e2 e3 e4 e5 e6 k8
    have k08:Keeps [] w w8:=kpx k07 k8 (fun z hz=>(g5 z hz).1)
    have c1:c ∉ blk r1:=fun hc=>by have:=g1.lt c hc;omega
    have c2:c ∉ blk r2:=fun hc=>by have:=g2.lt c hc;omega
    have c3:c < w7.heap.size:=hp_lt h6
    have h6:=k8.at h6 c1
    refine put3 h6 rfl rfl rfl fun w9 h9 k9=>?_
    simp only [sb,h9]
    refine New_bx fun d w10 h10 n10 k10=>?_
    have sz7:=k47.size
    have sz8:=k8.size
    have k79:Keeps (blk r1) w4 w10:=kpm (kpb (k0m k47 k8) k9 cw) k10
    have g2':SlE rsR w10 r2 rs:=g2.keeps k79 (fun z hz hz'=>(g5 z hz').2 hz)
    have hrl:=g2'.len'
    have hrm:rs.length=min i l.length:=by rw [← hal2,← g3,List.length_map]
    refine SlC.app (ρ:=rsR) (new:=[y]) g2' (by rw [List.flatMap_singleton];exact box_src (ρ:=rsR) (x:=y) h10) rfl (by rw [zc_Result];rfl) (by omega) (by omega) ?_
    intro r' w11 h11 k11 hb11
    have s0:=k4.size
    have crb:c ∉ blk r:=fun hc=>by
     rcases e6 c hc with h' | h'
     ·exact c1 h'
     ·omega
    have e1':SlE paR w10 r (doM (applyM m (l.take i)).1 x).1:=(e1.keeps k9 (fun z hz=>by simp;exact fun e=>crb (e ▸ hz))).keeps0 k10
    have rr2:∀ b∈blk r,b ∉ blk r2:=by
     intro z hz hz2
     rcases e6 z hz with h' | h'
     ·exact (g5 z h').2 hz2
     ·have:=g2.lt z hz2;omega
    have cy:∀ b∈rb y.sp,b ≠ c:=fun z hz e=>by have:=e4 z hz;omega
    have ysz:∀ b∈rb y.sp,b < w10.heap.size:=fun z hz=>by
     have:=e3.lt z hz
     have:=k9.size
     have:=k10.size
     omega
    have s1:w8.heap.size≤w10.heap.size:=Nat.le_trans k9.size k10.size
    refine ⟨l.length - (i + 1),by omega,r,r',rs ++ [y],i + 1,by rw [w64p (by omega)],rfl,by omega,?_,h11,?_,?_,?_,?_,?_⟩
    ·rw [htk,applyM_append]
     exact e1'.keeps k11 rr2
    ·rw [htk,applyM_append,List.map_append,g3]
     show _ ++ [y.p]=_
     rw [e2]
    ·intro z hz
     rcases List.mem_append.1 hz with hz | hz
     ·obtain ⟨q1,q2⟩:=g4 z hz
      refine ⟨RdE.keeps (RdE.keeps q1 k79 (fun b hb=>(q2 b hb).2.1)) k11 (fun b hb=>(q2 b hb).2.2),fun b hb=>⟨(q2 b hb).1,fun hr=>?_,fun hr=>?_⟩⟩
      ·have hlt4:=q1.lt b hb
       rcases e6 b hr with h' | h'
       ·exact (q2 b hb).2.1 h'
       ·omega
      ·have hlt4:=q1.lt b hb
       rcases hb11 b hr with h' | h'
       ·exact (q2 b hb).2.2 h'
       ·omega
     ·rw [List.mem_singleton] at hz
      subst hz
      refine ⟨RdE.keeps ((RdE.keeps e3 k9 (fun b hb=>by simpa using cy b hb)).keeps0 k10) k11 (fun b hb hr=>?_),fun b hb=>⟨by have:=e4 b hb;omega,e5 b hb,fun hr=>?_⟩⟩
      ·have:=e4 b hb
       have:=g2.lt b hr
       omega
      ·rcases hb11 b hr with h' | h'
       ·have:=e4 b hb
        have:=g2.lt b h'
        omega
       ·have:=ysz b hb
        omega
    ·intro b hb
     refine ⟨?_,fun hr=>?_⟩
     ·rcases e6 b hb with h' | h'
      ·exact (g5 b h').1
      ·omega
     ·rcases hb11 b hr with h' | h'
      ·exact rr2 b hb h'
      ·have:=e1'.lt b hb;omega
    ·intro b hb
     rcases hb11 b hb with h' | h'
     ·exact g6 b h'
     ·omega
    ·exact kpx (kpx k4 k79 (fun z hz=>(g5 z hz).1)) k11 g6
   ·rw [decide_eq_false (by omega)]
    rw [List.take_of_length_le (by omega)] at g1 g3
    exact k hmo ho r1 r2 rs w4 g1 g2 g3 g4 g5 g6 k4
  ·rw [show (opsE l != 0)=true from by simpa using ho]
   exact k' _ _ (.inr ho) ho k02
 ·rw [show (mapE (BA []) m != 0)=true from by simpa using hm]
  exact k' _ _ (.inl fun h=>hm (mapE_ok0.2 h)) hm k1
end Go.Proofs.YthkdehgfdllpoaaGreat
set_option linter.unusedVariables false
set_option linter.unusedSimpArgs false
namespace Go.Proofs.YthkdehgfdllpoaaGreat
open Go Go.Sx
theorem not_lt_rep:∀ (k:Nat) (x:List UInt8),x.length≤k→¬ x < List.replicate k 255→x=List.replicate k 255
 | 0,x,h,_=>List.eq_nil_of_length_eq_zero (by omega)
 | k + 1,x,h,hn=>by
  rw [List.replicate_succ] at hn ⊢
  cases x with
  | nil=>exact absurd (List.nil_lt_cons _ _) hn
  | cons d x=>
   rw [List.cons_lt_cons_iff] at hn
   have hd:d=255:=by
    by_cases h1:d < 255
    ·exact absurd (.inl h1) hn
    ·have h2:=UInt8.not_lt.1 h1
     have h3:d.toNat≤255:=by have:=d.toNat_lt;omega
     have h4:(255:UInt8).toNat≤d.toNat:=h2
     exact UInt8.toNat_inj.1 (by have:(255:UInt8).toNat=255:=rfl;omega)
   subst hd
   rw [not_lt_rep k x (by simpa using h) (fun h1=>hn (.inr ⟨rfl,h1⟩))]
theorem between_rep {c:UInt8} (hc:c ≠ 255) (k:Nat):∀ (p x:List UInt8),x.length≤p.length + 1 + k→¬ x < p ++ c :: List.replicate k 255→x < p ++ [c + 1]→x=p ++ c :: List.replicate k 255
 | [],x,hl,h1,h2=>by
  simp only [List.nil_append] at h1 h2 ⊢
  cases x with
  | nil=>exact absurd (List.nil_lt_cons _ _) h1
  | cons d x=>
   rw [List.cons_lt_cons_iff] at h1 h2
   have hcn:(c + 1).toNat=c.toNat + 1:=by
    rw [UInt8.toNat_add]
    have:c.toNat ≠ 255:=fun h=>hc (UInt8.toNat_inj.1 h)
    have:=c.toNat_lt
    show (c.toNat + 1) % 256=_
    omega
   have hd:d=c:=by
    rcases h2 with h2 | ⟨_,h2⟩
    ·have e1:d.toNat < (c + 1).toNat:=h2
     have e2:¬ d.toNat < c.toNat:=fun h=>h1 (.inl h)
     exact UInt8.toNat_inj.1 (by omega)
    ·exact absurd h2 (List.not_lt_nil _)
   subst hd
   rw [not_lt_rep k x (by simp at hl;omega) (fun h=>h1 (.inr ⟨rfl,h⟩))]
 | e :: p,x,hl,h1,h2=>by
  simp only [List.cons_append] at h1 h2 ⊢
  cases x with
  | nil=>exact absurd (List.nil_lt_cons _ _) h1
  | cons d x=>
   rw [List.cons_lt_cons_iff] at h1 h2
   have hd:d=e:=by
    rcases h2 with h2 | ⟨h2,_⟩
    ·exact absurd (.inl h2) h1
    ·exact h2
   subst hd
   rcases h2 with h2 | ⟨_,h2⟩
   ·exact absurd h2 (UInt8.lt_irrefl _)
   rw [between_rep hc k p x (by simp at hl;omega) (fun h=>h1 (.inr ⟨rfl,h⟩)) h2]
theorem lt_bump {c:UInt8} (hc:c ≠ 255) (r:List UInt8):∀ p:List UInt8,p ++ c :: r < p ++ [c + 1]
 | []=>by
  simp only [List.nil_append]
  rw [List.cons_lt_cons_iff]
  left
  show c.toNat < (c + 1).toNat
  rw [UInt8.toNat_add]
  have:c.toNat ≠ 255:=fun h=>hc (UInt8.toNat_inj.1 h)
  have:=c.toNat_lt
  show c.toNat < (c.toNat + 1) % 256
  omega
 | e :: p=>by
  simp only [List.cons_append]
  rw [List.cons_lt_cons_iff]
  exact .inr ⟨rfl,lt_bump hc r p⟩
theorem between_zero:∀ (a x:List UInt8),¬ x < a→x < a ++ [0]→x=a
 | [],x,_,h=>by
  cases x with
  | nil=>rfl
  | cons d x=>
   simp only [List.nil_append] at h
   rw [List.cons_lt_cons_iff] at h
   rcases h with h | ⟨_,h⟩
   ·exact absurd h (by show ¬ d.toNat < 0;omega)
   ·exact absurd h (List.not_lt_nil _)
 | e :: a,x,h1,h2=>by
  simp only [List.cons_append] at h2
  cases x with
  | nil=>exact absurd (List.nil_lt_cons _ _) h1
  | cons d x=>
   rw [List.cons_lt_cons_iff] at h1 h2
   have hd:d=e:=by
    rcases h2 with h2 | ⟨h2,_⟩
    ·exact absurd (.inl h2) h1
    ·exact h2
   subst hd
   rcases h2 with h2 | ⟨_,h2⟩
   ·exact absurd h2 (UInt8.lt_irrefl _)
   rw [between_zero a x (fun h=>h1 (.inr ⟨rfl,h⟩)) h2]
theorem lt_zero:∀ a:List UInt8,a < a ++ [0]
 | []=>List.nil_lt_cons _ _
 | e :: a=>by rw [List.cons_append,List.cons_lt_cons_iff];exact .inr ⟨rfl,lt_zero a⟩
theorem strip_cases (l:List UInt8):∃ k,(strip l=[]∧l=List.replicate k 255)∨∃ p c,c ≠ 255∧strip l=p ++ [c]∧l=p ++ c :: List.replicate k 255:=by
 unfold strip
 have e:l.reverse=l.reverse.takeWhile (· == 255) ++ l.reverse.dropWhile (· == 255):=(List.takeWhile_append_dropWhile).symm
 have ht:l.reverse.takeWhile (· == 255)=List.replicate (l.reverse.takeWhile (· == 255)).length 255:=by
  refine List.eq_replicate_of_mem fun b hb=>?_
  have:=List.all_eq_true.1 (List.all_takeWhile (p:=(· == (255:UInt8))) (l:=l.reverse)) b hb
  simpa using this
 refine ⟨(l.reverse.takeWhile (· == 255)).length,?_⟩
 have e2:l=(l.reverse.dropWhile (· == 255)).reverse ++ List.replicate (l.reverse.takeWhile (· == 255)).length 255:=by
  have h3:=congrArg List.reverse e
  rw [List.reverse_reverse,List.reverse_append,ht,List.reverse_replicate] at h3
  exact h3
 cases hd:l.reverse.dropWhile (· == 255) with
 | nil=>
  left
  rw [hd] at e2
  exact ⟨rfl,by simpa using e2⟩
 | cons c r=>
  right
  have hc:(c == 255)=false:=by
   have:=List.head_dropWhile_not (p:=(· == (255:UInt8))) (l:=l.reverse) (by rw [hd];simp)
   simp only [hd,List.head_cons] at this
   simpa using this
  refine ⟨r.reverse,c,by simpa using hc,by simp,?_⟩
  rw [hd] at e2
  simpa using e2
theorem size_list (a:ByteArray):a.data.toList.length=a.size:=by rw [Array.length_toList];rfl
theorem slt_list (a b:ByteArray):slt a b=decide (a.data.toList < b.data.toList):=by rw [slt_lt,ByteArray.toList_eq,ByteArray.toList_eq]
theorem pt_ok {key:ByteArray} (h:okK key=true):okR key (ptHi key)=true∧∀ x,okK x=true→(!slt x key && (seq (ptHi key) (BA []) || slt x (ptHi key)))=seq x key:=by
 obtain ⟨z1,z2⟩:=okK_sz h
 have e0:∀ b:ByteArray,seq b (BA [])=decide (b.data.toList=[]):=by
  intro b
  rw [seq_eq]
  refine decide_eq_decide.2 ⟨fun h=>by rw [h];rfl,fun h=>ByteArray.ext (Array.toList_inj.1 h)⟩
 have es:∀ a b:ByteArray,seq a b=decide (a.data.toList=b.data.toList):=by
  intro a b
  rw [seq_eq]
  refine decide_eq_decide.2 ⟨fun h=>by rw [h],fun h=>ByteArray.ext (Array.toList_inj.1 h)⟩
 have self:∀ l:List UInt8,¬ l < l:=fun l=>List.lt_irrefl l
 unfold ptHi
 by_cases h12:key.size < 12
 ·rw [if_pos h12]
  have ed:(key ++ BA [0]).data.toList=key.data.toList ++ [0]:=by
   rw [ByteArray.data_append,Array.toList_append];rfl
  have esz:(key ++ BA [0]).size=key.size + 1:=by rw [← size_list,ed,List.length_append,size_list];rfl
  constructor
  ·unfold okR
   rw [decide_eq_false (by omega),decide_eq_false (by omega),e0,ed,slt_list,ed,decide_eq_true (lt_zero _)]
   simp
  ·intro x hx
   rw [e0,ed,slt_list,slt_list,ed,es,decide_eq_false (p:=key.data.toList ++ [0]=[]) (by simp),Bool.false_or]
   by_cases he:x.data.toList=key.data.toList
   ·rw [he,decide_eq_true rfl,decide_eq_false (self _),decide_eq_true (lt_zero _)];rfl
   ·rw [decide_eq_false he]
    by_cases h1:x.data.toList < key.data.toList
    ·rw [decide_eq_true h1];rfl
    ·by_cases h2:x.data.toList < key.data.toList ++ [0]
     ·exact absurd (between_zero _ _ h1 h2) he
     ·rw [decide_eq_false h2,Bool.and_false]
 ·rw [if_neg h12]
  have hl:key.data.toList.length=12:=by rw [size_list];omega
  obtain ⟨k,⟨hs,hk⟩ | ⟨p,c,hc,hs,hk⟩⟩:=strip_cases key.data.toList
  ·have eb:(⟨(bump (strip key.data.toList)).toArray⟩:ByteArray)=BA []:=by rw [hs];rfl
   rw [eb]
   constructor
   ·unfold okR
    rw [decide_eq_false (by omega),decide_eq_false (by decide),seq_eq,decide_eq_true rfl]
    rfl
   ·intro x hx
    obtain ⟨x1,x2⟩:=okK_sz hx
    rw [show seq (BA []) (BA [])=true from by rw [seq_eq];simp,Bool.true_or,Bool.and_true,slt_list,es]
    have hk12:k=12:=by rw [hk,List.length_replicate] at hl;exact hl
    by_cases he:x.data.toList=key.data.toList
    ·rw [he,decide_eq_true rfl,decide_eq_false (self _)];rfl
    ·rw [decide_eq_false he]
     by_cases h1:x.data.toList < key.data.toList
     ·rw [decide_eq_true h1];rfl
     ·refine absurd ?_ he
      rw [hk] at h1 ⊢
      exact not_lt_rep k _ (by rw [size_list];omega) h1
  ·have eb:bump (strip key.data.toList)=p ++ [c + 1]:=by rw [hs];unfold bump;simp
   rw [eb]
   have hpl:p.length + 1 + k=12:=by rw [hk] at hl;simp at hl;omega
   have ed:(⟨(p ++ [c + 1]).toArray⟩:ByteArray).data.toList=p ++ [c + 1]:=rfl
   have esz:(⟨(p ++ [c + 1]).toArray⟩:ByteArray).size=p.length + 1:=by rw [← size_list,ed,List.length_append];rfl
   constructor
   ·unfold okR
    rw [decide_eq_false (by omega),decide_eq_false (by omega),e0,ed,slt_list,ed,hk,decide_eq_true (lt_bump hc _ p)]
    simp
   ·intro x hx
    obtain ⟨x1,x2⟩:=okK_sz hx
    rw [e0,ed,slt_list,slt_list,ed,es,decide_eq_false (p:=p ++ [c + 1]=[]) (by simp),Bool.false_or]
    by_cases he:x.data.toList=key.data.toList
    ·rw [he,decide_eq_true rfl,decide_eq_false (self _),hk,decide_eq_true (lt_bump hc _ p)];rfl
    ·rw [decide_eq_false he]
     by_cases h1:x.data.toList < key.data.toList
     ·rw [decide_eq_true h1];rfl
     ·by_cases h2:x.data.toList < p ++ [c + 1]
      ·refine absurd ?_ he
       rw [hk] at h1 ⊢
       exact between_rep hc k p _ (by rw [size_list];omega) h1 h2
      ·rw [decide_eq_false h2,Bool.and_false]
end Go.Proofs.YthkdehgfdllpoaaGreat
set_option linter.unusedVariables false
set_option linter.unusedSimpArgs false
namespace Go.Proofs.YthkdehgfdllpoaaGreat
open Go Go.Sx
def hasM (lo hi key:ByteArray):Bool:=okR lo hi && (okK key && (!slt key lo && (seq hi (BA []) || slt key hi)))
theorem ok20z (c:Bool):((if c then (0:Int) else 20) == 0)=c:=by cases c <;> rfl
theorem Has_k (lo hi key:ByteArray) {w:World} {K:TR [.sc .b]→Pr} (k:∀ w',Keeps [] w w'→K (hasM lo hi key,()) w'):Cl Pg i_sumpterref02_Has [.agg #[.string lo,.string hi],.string key] false [.sc .b] K w:=by
 refine sumpterref02_Has_call _ _ _ ?_
 unfold sumpterref02_Has
 refine New_bx fun a w1 h1 n1 k1=>?_
 simp only [sb,h1]
 refine RSCheck_k _ _ fun w2 k2=>?_
 have h1:=k2.at0 h1
 have k02:=kp0 k1 k2
 have k:=k w2 k02
 unfold hasM at k
 dsimp only
 rw [ok0]
 cases c1:okR lo hi <;> rw [c1] at k <;> simp only [sb]
 ·exact k
 refine RCheckKey_k _ ?_
 dsimp only
 rw [ok20z]
 cases c2:okK key <;> rw [c2] at k <;> simp only [sb,h1]
 ·exact k
 cases c3:slt key lo <;> rw [c3] at k <;> simp only [sb,h1,Bool.not_true,Bool.not_false]
 ·cases c4:seq hi (BA []) <;> rw [c4] at k <;> simp only [sb,h1] <;> exact k
 ·exact k
theorem IxS_data {s:ByteArray} {j:Nat} {c:UInt8} (h:s.data.toList[j]?=some c) {K:Int→Pr} {w:World} (k:K (c.toNat:Int) w):IxS s (j:Int) K w:=by
 refine ⟨by omega,c,?_,k⟩
 rw [Int.toNat_natCast]
 obtain ⟨hj,he⟩:=List.getElem?_eq_some_iff.1 h
 rw [size_list] at hj
 rw [getElem?_pos s j hj]
 rw [← he]
 rfl
theorem RPoint_k (key:ByteArray) {w:World} {K:TR [.ag [.s,.s],.sc (.i .i64)]→Pr} (k:∀ w',Keeps [] w w'→K (if okK key then ((key,ptHi key,()),0,()) else ((BA [],BA [],()),20,())) w'):Cl Pg i_sumpterref02_Point [.string key] true [.ag [.s,.s],.sc (.i .i64)] K w:=by
 refine sumpterref02_Point_call _ ?_
 unfold sumpterref02_Point
 refine New_bx fun a w1 h1 n1 k1=>?_
 refine RCheckKey_k _ ?_
 dsimp only
 rw [ok20]
 cases hk:okK key with
 | false=>
  rw [hk] at k
  simp only [Bool.not_false,Br_true]
  exact out2 h1 fun w2 k2=>k w2 (kp1 k1 k2 n1)
 | true=>
 rw [hk] at k
 obtain ⟨z1,z2⟩:=okK_sz hk
 simp only [Bool.not_true,Br_false]
 by_cases h12:key.size < 12
 ·rw [decide_eq_true (by omega)]
  simp only [Br_true]
  refine ⟨by have:(BA [0]).size=1:=rfl;omega,?_⟩
  refine out2 h1 fun w2 k2=>?_
  have:=k w2 (kp1 k1 k2 n1)
  unfold ptHi at this
  rw [if_pos h12] at this
  exact this
 ·rw [decide_eq_false (by omega)]
  simp only [Br_false]
  have hlen:=size_list key
  refine ⟨fun n st w'=>∃ m:Nat,st=((m:Int),())∧n=m∧m≤key.size∧(∀ j,m≤j→j < key.size→key.data.toList[j]?=some 255)∧w1=w',⟨_,key.size,by rw [show key.size=12 from by omega];rfl,rfl,Nat.le_refl _,fun j h1 h2=>by omega,rfl⟩,?_⟩
  rintro n _ _ ⟨m,rfl,rfl,hm,h255,rfl⟩
  dsimp only
  refine Jp_of (fun st w'=>st=(decide (n ≠ 0) && (key.data.toList[n - 1]? == some 255),())∧w1=w') (fun J hJ=>?_) ?_
  ·by_cases h0:n=0
   ·rw [decide_eq_false (by omega)]
    exact hJ _ _ ⟨by rw [h0];rfl,rfl⟩
   ·rw [decide_eq_true (by omega)]
    simp only [Br_true]
    rw [w64m (by omega) (by omega)]
    obtain ⟨c,hc⟩:∃ c,key.data.toList[n - 1]?=some c:=⟨_,List.getElem?_eq_getElem (by omega)⟩
    refine IxS_data hc ?_
    refine hJ _ _ ⟨?_,rfl⟩
    rw [hc,decide_eq_true h0,Bool.true_and]
    congr 1
    rw [Bool.eq_iff_iff]
    simp only [beq_iff_eq,Option.some.injEq]
    constructor
    ·intro h
     have:c.toNat=255:=by omega
     exact UInt8.toNat_inj.1 this
    ·intro h
     rw [h]
     rfl
  ·rintro _ _ ⟨rfl,rfl⟩
   dsimp only
   cases hq:(decide (n ≠ 0) && (key.data.toList[n - 1]? == some 255)) with
   | true=>
    simp only [Bool.and_eq_true,decide_eq_true_iff,beq_iff_eq] at hq
    simp only [Br_true]
    rw [w64m (by omega) (by omega)]
    refine ⟨n - 1,by omega,n - 1,rfl,rfl,by omega,fun j h3 h4=>?_,by trivial⟩
    by_cases h5:j=n - 1
    ·rw [h5];exact hq.2
    ·exact h255 j (by omega) h4
   | false=>
    have hst:strip key.data.toList=key.data.toList.take n:=by
     refine strip_take (by omega) (fun j h3 h4=>h255 j h3 (by omega)) ?_
     by_cases h0:n=0
     ·exact .inl h0
     ·rw [decide_eq_true h0,Bool.true_and,beq_eq_false_iff_ne] at hq
      exact .inr hq
    have hpt:ptHi key=⟨(bump (key.data.toList.take n)).toArray⟩:=by unfold ptHi;rw [if_neg h12,hst]
    rw [hpt] at k
    simp only [Br_false]
    by_cases h0:n=0
    ·subst h0
     simp only [show (((0:Nat):Int) == 0)=true from rfl,Br_true]
     exact out2 h1 fun w2 k2=>k w2 (kp1 k1 k2 n1)
    ·rw [show (((n:Nat):Int) == 0)=false from by simpa using h0]
     simp only [Br_false,Dr]
     rw [w64m (by omega) (by omega)]
     obtain ⟨c,hc⟩:∃ c,key.data.toList[n - 1]?=some c:=⟨_,List.getElem?_eq_getElem (by omega)⟩
     refine ⟨⟨by omega,by omega⟩,?_⟩
     refine IxS_data hc ?_
     rw [show ((c.toNat:Int) + 1)=((c.toNat + 1:Nat):Int) from by omega,wrap_u8_nat,show (c.toNat + 1) % 256=(c + 1).toNat from by rw [UInt8.toNat_add];rfl]
     refine New_bx fun b w2 h2 n2 k2=>?_
     have h1:=k2.at0 (show w1.drew.heap[a]?=_ from h1)
     have k02:=kp0 k1.drew k2
     refine BtoS_of (bs:=[c + 1]) ⟨rfl,fun j b' hj=>?_⟩ ?_
     ·cases j with
      | zero=>cases hj;exact ⟨_,rfl,by rw [add_of,cell_of h2];rfl⟩
      | succ j=>simp at hj
     rw [Int.toNat_natCast]
     have hed:(key.extract 0 (n - 1)).data.toList=key.data.toList.take (n - 1):=by
      rw [ByteArray.data_extract,Array.toList_extract]
      simp [List.extract]
     refine ⟨?_,?_⟩
     ·have e1:(key.extract 0 (n - 1)).size=n - 1:=by rw [← size_list,hed,List.length_take];omega
      have e2:(⟨[c + 1].toArray⟩:ByteArray).size=1:=rfl
      rw [e1,e2]
      omega
     ·have e3:key.extract 0 (n - 1) ++ (⟨[c + 1].toArray⟩:ByteArray)=⟨(bump (key.data.toList.take n)).toArray⟩:=by
       have hct:(key.data.toList.take n)[n - 1]?=some c:=by rw [List.getElem?_take,if_pos (by omega),hc]
       have hbs:=bump_set (n:=n - 1) (c:=c) (l:=key.data.toList.take n) (by rw [List.length_take];omega) hct
       have hL:(key.data.toList.take n).set (n - 1) (c + 1)=key.data.toList.take (n - 1) ++ [c + 1]:=by
        have hle:n≤key.data.toList.length:=by omega
        rw [List.set_eq_take_append_cons_drop,if_pos (by rw [List.length_take,Nat.min_eq_left hle];omega),List.take_take,List.drop_of_length_le (by rw [List.length_take,Nat.min_eq_left hle];omega),Nat.min_eq_left (by omega)]
       rw [hbs,hL,← hed]
       rfl
      rw [e3]
      exact out2 h1 fun w3 k3=>k w3 (kp1 k02 k3 n1)
theorem jb {J:Bool × Unit→Pr} {w:World} {b b':Bool} (h:J (b,()) w) (e:b=b'):J (b',()) w:=by rw [← e];exact h
set_option maxHeartbeats 1000000 in
theorem RCheckOp_k (o:Op) {w:World} {K:TR [.sc (.i .i64)]→Pr} (k:∀ w',Keeps [] w w'→K (opE o,()) w'):Cl Pg i_sumpterref04_CheckOp [.agg #[.int .i64 o.kind,.string o.key,.string o.value,.string o.lo,.string o.hi,.int .i64 o.most]] false [.sc (.i .i64)] K w:=by
 obtain ⟨E,hE⟩:∃ E,E=opE o:=⟨_,rfl⟩
 rw [← hE] at k
 unfold opE at hE
 have hkd:okKd o.kind=(fKey o.kind || fRng o.kind):=by
  unfold okKd fKey fRng
  rw [Bool.eq_iff_iff]
  simp
  omega
 refine sumpterref04_CheckOp_call _ _ _ _ _ _ ?_
 unfold sumpterref04_CheckOp
 refine New_bx fun a w1 h1 n1 k1=>?_
 refine Jp_b (fKey o.kind) (fun J hJ=>?_) fun w2 k2=>?_
 ·have ifJ:∀ (c x y:Bool) (w':World),(if c=true then J (x,()) w' else J (y,()) w')=J (bif c then x else y,()) w':=by intro c x y w';cases c <;> rfl
  simp only [Br_if,sb,h1,ifJ]
  refine jb (hJ _ (Keeps.refl _ _)) ?_
  unfold fKey
  cases o.kind == 1 <;> cases o.kind == 2 <;> rfl
 have h1:=k2.at0 h1
 dsimp only
 refine Jp_b (fRng o.kind) (fun J hJ=>?_) fun w3 k3=>?_
 ·have ifJ:∀ (c x y:Bool) (w':World),(if c=true then J (x,()) w' else J (y,()) w')=J (bif c then x else y,()) w':=by intro c x y w';cases c <;> rfl
  simp only [Br_if,sb,h1,ifJ]
  refine jb (hJ _ (Keeps.refl _ _)) ?_
  unfold fRng
  cases o.kind == 4 <;> rfl
 have h1:=k3.at0 h1
 have k03:=kp0 (kp0 k1 k2) k3
 dsimp only
 refine Jp_b ((!okKd o.kind) || ((!fKey o.kind && !(seq o.key (BA []))) || ((!fVal o.kind && !(seq o.value (BA []))) || ((!fRng o.kind && !(seq o.lo (BA []) && (seq o.hi (BA []) && true))) || (!fMost o.kind && o.most != 0))))) (fun J hJ=>?_) fun w4 k4=>?_
 ·have ifJ:∀ (c x y:Bool) (w':World),(if c=true then J (x,()) w' else J (y,()) w')=J (bif c then x else y,()) w':=by intro c x y w';cases c <;> rfl
  simp only [Br_if,sb,h1,ifJ]
  refine jb (hJ _ (Keeps.refl _ _)) ?_
  rw [hkd]
  have e1:(o.kind != 2)=!fVal o.kind:=rfl
  have e2:(o.kind != 4)=!fMost o.kind:=rfl
  have e3:fKey o.kind=true→fRng o.kind=false:=by
   unfold fKey fRng
   intro h
   simp at h
   simp
   omega
  rw [e1,e2]
  generalize fKey o.kind=b1 at *
  generalize fRng o.kind=b2 at *
  generalize fVal o.kind=b3 at *
  generalize fMost o.kind=b4 at *
  generalize seq o.key (BA [])=b5 at *
  generalize seq o.value (BA [])=b6 at *
  generalize seq o.lo (BA [])=b7 at *
  generalize seq o.hi (BA [])=b8 at *
  generalize (o.most != 0)=b9 at *
  clear hJ hE k ifJ hkd e1 e2
  revert e3 b1 b2 b3 b4 b5 b6 b7 b8 b9
  decide
 have h1:=k4.at0 h1
 have k04:=kp0 k03 k4
 dsimp only
 split at hE
 ·rename_i hc
  rw [hc]
  subst hE
  exact k _ k04
 rename_i hc
 rw [Bool.not_eq_true] at hc
 rw [hc]
 simp only [Br_false]
 refine Jp_b (fKey o.kind && !okK o.key) (fun J hJ=>?_) fun w5 k5=>?_
 ·cases hq:fKey o.kind <;> rw [hq] at hJ <;> simp only [Bool.false_and,Bool.true_and,sb,h1] at hJ ⊢
  ·exact hJ _ (Keeps.refl _ _)
  ·refine RCheckKey_k _ ?_
   rw [ok20]
   exact hJ _ (Keeps.refl _ _)
 have h1:=k5.at0 h1
 have k05:=kp0 k04 k5
 split at hE
 ·rename_i hc
  rw [hc]
  subst hE
  exact k _ k05
 rename_i hc
 rw [Bool.not_eq_true] at hc
 rw [hc]
 simp only [sb,h1]
 rw [show decide (((o.value.size:Nat):Int) > 16)=decide (o.value.size > 16) from decide_eq_decide.2 (by omega)]
 split at hE
 ·rename_i hc
  rw [hc]
  subst hE
  exact k _ k05
 rename_i hc
 rw [Bool.not_eq_true] at hc
 rw [hc]
 simp only [Br_false]
 refine Jp_b (fRng o.kind && !okR o.lo o.hi) (fun J hJ=>?_) fun w6 k6=>?_
 ·cases hq:fRng o.kind <;> rw [hq] at hJ <;> simp only [Bool.false_and,Bool.true_and,sb,h1] at hJ ⊢
  ·exact hJ _ (Keeps.refl _ _)
  ·refine RSCheck_k _ _ fun w8 k8=>?_
   rw [ok1]
   exact hJ _ k8
 have h1:=k6.at0 h1
 have k06:=kp0 k05 k6
 split at hE
 ·rename_i hc
  rw [hc]
  subst hE
  exact k _ k06
 rename_i hc
 rw [Bool.not_eq_true] at hc
 rw [hc]
 simp only [Br_false]
 refine Jp_b (fMost o.kind && (decide (o.most < 1) || decide (o.most > 4))) (fun J hJ=>?_) fun w7 k7=>?_
 ·have ifJ:∀ (c x y:Bool) (w':World),(if c=true then J (x,()) w' else J (y,()) w')=J (bif c then x else y,()) w':=by intro c x y w';cases c <;> rfl
  simp only [Br_if,sb,h1,ifJ]
  refine jb (hJ _ (Keeps.refl _ _)) ?_
  unfold fMost
  cases o.kind == 4 <;> cases decide (o.most < 1) <;> rfl
 have k07:=kp0 k06 k7
 split at hE
 ·rename_i hc
  rw [hc]
  subst hE
  exact k _ k07
 rename_i hc
 rw [Bool.not_eq_true] at hc
 rw [hc]
 subst hE
 exact k _ k07
end Go.Proofs.YthkdehgfdllpoaaGreat
set_option linter.unusedVariables false
set_option linter.unusedSimpArgs false
namespace Go.Proofs.YthkdehgfdllpoaaGreat
open Go Go.Sx
theorem RAll_k {w:World} {s:Sl} {l:List Op} (h:RdE opR w s l) (hN:l.length≤100000000) {K:TR [.sc (.i .i64)]→Pr} (k:∀ w',Keeps [] w w'→K (opsE l,()) w'):Cl Pg i_sumpterref04_All [.slice s.p s.len s.cap] false [.sc (.i .i64)] K w:=by
 have hl:=h.len
 refine sumpterref04_All_call _ ?_
 unfold sumpterref04_All
 refine ⟨fun n st w'=>∃ (q:Int) (i:Nat),st=(q,(i:Int),())∧n=l.length - i∧i≤l.length∧opsE (l.drop i)=opsE l∧Keeps [] w w',⟨_,0,0,rfl,rfl,by omega,rfl,Keeps.refl _ _⟩,?_⟩
 rintro n _ w1 ⟨q,i,rfl,rfl,hi,he,k1⟩
 dsimp only
 by_cases hlt:i < l.length
 ·rw [decide_eq_true (by omega)]
  simp only [Br_true]
  obtain ⟨x,hx⟩:∃ x,l[i]?=some x:=⟨_,List.getElem?_eq_getElem hlt⟩
  have hd:l.drop i=x :: l.drop (i + 1):=by rw [List.drop_eq_getElem_cons hlt,(List.getElem?_eq_some_iff.1 hx).2]
  rw [hd,opsE] at he
  refine ld_Op (h.keeps0 k1) hx ?_
  refine bx_Op x fun b w2 h2 n2 k2=>?_
  simp only [sb,h2]
  refine RCheckOp_k x fun w3 k3=>?_
  have k13:=kp0 (kp0 k1 k2) k3
  dsimp only
  cases hc:(opE x != 0) with
  | true=>rw [if_pos hc] at he;rw [he];exact k _ k13
  | false=>
   rw [if_neg (by rw [hc];simp)] at he
   exact ⟨l.length - (i + 1),by omega,q,i + 1,by rw [w64p (by omega)],rfl,by omega,he,k13⟩
 ·rw [decide_eq_false (by omega)]
  rw [List.drop_of_length_le (by omega),opsE] at he
  rw [← he] at k
  exact k _ k1
theorem RCheckMap_k {w:World} {s:Sl} {l:List Pa} (h:RdE paR w s l) (hN:l.length≤8796093022208) {K:TR [.sc (.i .i64)]→Pr} (k:∀ e w',(e=0 ↔ MapOk l)→Keeps [] w w'→K (e,()) w'):Cl Pg i_sumpterref04_CheckMap [.slice s.p s.len s.cap] false [.sc (.i .i64)] K w:=by
 have hl:=h.len
 refine sumpterref04_CheckMap_call _ ?_
 unfold sumpterref04_CheckMap
 refine ⟨fun n st w'=>∃ (q:Int) (i:Nat),st=(q,(i:Int),())∧n=l.length - i∧i≤l.length∧MapOk (l.take i)∧Keeps [] w w',⟨_,0,0,rfl,rfl,by omega,⟨by simp,by simp⟩,Keeps.refl _ _⟩,?_⟩
 rintro n _ w1 ⟨q,i,rfl,rfl,hi,hm,k1⟩
 dsimp only
 by_cases hlt:i < l.length
 ·rw [decide_eq_true (by omega)]
  simp only [Br_true]
  obtain ⟨x,hx⟩:∃ x,l[i]?=some x:=⟨_,List.getElem?_eq_getElem hlt⟩
  have hxm:=List.mem_of_getElem? hx
  refine ld_Pair (h.keeps0 k1) hx ?_
  refine bx_Pair x fun b w2 h2 n2 k2=>?_
  simp only [sb,h2]
  refine RCheckKey_k _ ?_
  have k02:=kp0 k1 k2
  dsimp only
  rw [ok20]
  cases hc:okK x.k with
  | false=>exact k _ _ ⟨(by intro h;cases h),fun hm=>by rw [(hm.ok x hxm).1] at hc;cases hc⟩ k02
  | true=>
  simp only [sb,h2,Bool.not_true]
  rw [show decide (((x.v.size:Nat):Int) > 16)=decide (x.v.size > 16) from decide_eq_decide.2 (by omega)]
  by_cases hv:x.v.size > 16
  ·rw [decide_eq_true hv]
   exact k _ _ ⟨(by intro h;cases h),fun hm=>by have:=(hm.ok x hxm).2;omega⟩ k02
  rw [decide_eq_false hv]
  simp only [Br_false]
  refine Jp_of (fun st w'=>st=(decide (0 < i) && (match l[i - 1]? with | some y=>!slt y.k x.k | none=>false),())∧Keeps [] w1 w') (fun J hJ=>?_) ?_
  ·simp only [Dr]
   by_cases h0:0 < i
   ·rw [decide_eq_true (by omega)]
    simp only [Br_true]
    obtain ⟨y,hy⟩:∃ y,l[i - 1]?=some y:=⟨_,List.getElem?_eq_getElem (by omega)⟩
    rw [w64m h0 (by omega)]
    have hr:=h.keeps0 (kp0 k1 k2).drew
    obtain ⟨a,ha,hcell⟩:=hr.at hy
    unfold Ix
    rw [ha]
    refine ⟨by omega,by omega,?_⟩
    rw [Int.toNat_natCast]
    refine ⟨y.k,hcell 0 _ rfl,?_⟩
    simp only [sb,h2]
    exact hJ _ _ ⟨by rw [decide_eq_true h0,hy];rfl,k2.drew⟩
   ·rw [decide_eq_false (by omega)]
    exact hJ _ _ ⟨by rw [decide_eq_false h0];rfl,k2.drew⟩
  ·rintro _ w3 ⟨rfl,k3⟩
   have k03:=kp0 k1 k3
   dsimp only
   cases hb:(decide (0 < i) && (match l[i - 1]? with | some y=>!slt y.k x.k | none=>false)) with
   | true=>
    refine k _ _ ⟨(by intro h;cases h),fun hm=>?_⟩ k03
    simp only [Bool.and_eq_true,decide_eq_true_iff] at hb
    obtain ⟨h0,hb⟩:=hb
    obtain ⟨y,hy⟩:∃ y,l[i - 1]?=some y:=⟨_,List.getElem?_eq_getElem (by omega)⟩
    rw [hy] at hb
    have:=List.pairwise_iff_getElem.1 hm.up (i - 1) i (by omega) hlt (by omega)
    rw [(List.getElem?_eq_some_iff.1 hy).2,(List.getElem?_eq_some_iff.1 hx).2] at this
    simp [this] at hb
   | false=>
    simp only [Br_false]
    refine ⟨l.length - (i + 1),by omega,q,i + 1,by rw [w64p (by omega)],rfl,by omega,?_,k03⟩
    rw [List.take_add_one,hx]
    refine ⟨fun p hp=>?_,?_⟩
    ·rcases List.mem_append.1 hp with hp | hp
     ·exact hm.ok p hp
     ·simp at hp;subst hp;exact ⟨hc,by omega⟩
    ·rw [List.pairwise_append]
     refine ⟨hm.up,by simp,fun p hp z hz=>?_⟩
     simp at hz
     subst hz
     by_cases h0:0 < i
     ·obtain ⟨y,hy⟩:∃ y,l[i - 1]?=some y:=⟨_,List.getElem?_eq_getElem (by omega)⟩
      rw [decide_eq_true h0,hy] at hb
      simp at hb
      obtain ⟨j,hj,rfl⟩:=List.mem_take_iff_getElem.1 hp
      by_cases hji:j=i - 1
      ·subst hji
       rw [(List.getElem?_eq_some_iff.1 hy).2]
       exact hb
      ·have h3:=List.pairwise_iff_getElem.1 hm.up j (i - 1) (by rw [List.length_take];omega) (by rw [List.length_take];omega) (by omega)
       rw [List.getElem_take,List.getElem_take,(List.getElem?_eq_some_iff.1 hy).2] at h3
       exact slt_trans h3 hb
     ·have:i=0:=by omega
      subst this
      simp at hp
 ·rw [decide_eq_false (by omega)]
  rw [List.take_of_length_le (by omega)] at hm
  exact k _ _ ⟨fun _=>hm,fun _=>rfl⟩ k1
theorem RFind_k {w:World} {s:Sl} {m:List Pa} (h:RdE paR w s m) (hN:m.length≤100000000) (key:ByteArray) {K:TR [.sc .s,.sc .b]→Pr} (k:∀ w',Keeps [] w w'→K ((match findM m key with | some v=>v | none=>BA []),(findM m key).isSome,()) w'):Cl Pg i_sumpterref04_Find [.slice s.p s.len s.cap,.string key] true [.sc .s,.sc .b] K w:=by
 have hl:=h.len
 refine sumpterref04_Find_call _ _ ?_
 unfold sumpterref04_Find
 refine ⟨fun n st w'=>∃ (q1:ByteArray) (q2:Bool) (i:Nat),st=(q1,q2,(i:Int),())∧n=m.length - i∧i≤m.length∧findM (m.drop i) key=findM m key∧Keeps [] w w',⟨_,BA [],false,0,rfl,rfl,by omega,rfl,Keeps.refl _ _⟩,?_⟩
 rintro n _ w1 ⟨q1,q2,i,rfl,rfl,hi,he,k1⟩
 dsimp only
 by_cases hlt:i < m.length
 ·rw [decide_eq_true (by omega)]
  simp only [Br_true]
  obtain ⟨x,hx⟩:∃ x,m[i]?=some x:=⟨_,List.getElem?_eq_getElem hlt⟩
  have hd:m.drop i=x :: m.drop (i + 1):=by rw [List.drop_eq_getElem_cons hlt,(List.getElem?_eq_some_iff.1 hx).2]
  rw [hd] at he
  unfold findM at he
  rw [List.find?_cons] at he
  refine ld_Pair (h.keeps0 k1) hx ?_
  refine bx_Pair x fun b w2 h2 n2 k2=>?_
  simp only [sb,h2]
  have k02:=kp0 k1 k2
  cases hs:seq x.k key with
  | true=>
   rw [hs] at he
   simp only [sb,h2]
   have:=k _ k02
   unfold findM at this
   rw [← he] at this
   exact this
  | false=>
   rw [hs] at he
   simp only [Br_false]
   exact ⟨m.length - (i + 1),by omega,q1,q2,i + 1,by rw [w64p (by omega)],rfl,by omega,he,k02⟩
 ·rw [decide_eq_false (by omega)]
  rw [List.drop_of_length_le (by omega)] at he
  have:=k _ k1
  rw [← he] at this
  exact this
theorem Rwithout_k {w:World} {s:Sl} {m:List Pa} (h:RdE paR w s m) (hN:m.length≤100000000) (lo hi:ByteArray) {K:TR [.sc .sl]→Pr} (k:∀ r w',SlE paR w' r (m.filter (fun p=>!hasM lo hi p.k))→(∀ x∈blk r,w.heap.size≤x)→Keeps [] w w'→K (r,()) w') :
  Cl Pg i_sumpterref04_without [.slice s.p s.len s.cap,.agg #[.string lo,.string hi]] false [.sc .sl] K w:=by
 have hl:=h.len
 refine sumpterref04_without_call _ _ _ ?_
 unfold sumpterref04_without
 refine New_bx fun a w0 h0 n0 k0=>?_
 refine ⟨fun n st w'=>∃ (r:Sl) (i:Nat),st=(r,(i:Int),())∧n=m.length - i∧i≤m.length∧SlE paR w' r ((m.take i).filter (fun p=>!hasM lo hi p.k))∧(∀ x∈blk r,w0.heap.size≤x)∧Keeps [] w0 w',⟨_,⟨none,0,0⟩,0,rfl,rfl,by omega,SlC.nil _ _,by simp [blk],Keeps.refl _ _⟩,?_⟩
 rintro n _ w1 ⟨r,i,rfl,rfl,hib,hr,fr,k1⟩
 have k01:=kp0 k0 k1
 have h0:=k1.at0 h0
 dsimp only
 by_cases hlt:i < m.length
 ·rw [decide_eq_true (by omega)]
  simp only [Br_true]
  obtain ⟨x,hx⟩:∃ x,m[i]?=some x:=⟨_,List.getElem?_eq_getElem hlt⟩
  have hrl:=hr.len'
  have hrl2:((m.take i).filter (fun p=>!hasM lo hi p.k)).length≤m.length:=Nat.le_trans (List.length_filter_le _ _) (by rw [List.length_take];omega)
  have htk:(m.take (i + 1)).filter (fun p=>!hasM lo hi p.k)=(m.take i).filter (fun p=>!hasM lo hi p.k) ++ (if hasM lo hi x.k then [] else [x]):=by
   rw [List.take_add_one,hx,List.filter_append]
   cases hq:hasM lo hi x.k <;> simp [hq]
  refine Jp_of (fun st w'=>SlE paR w' st.1 ((m.take (i + 1)).filter (fun p=>!hasM lo hi p.k))∧(∀ x∈blk st.1,w0.heap.size≤x)∧Keeps [] w0 w') (fun J hJ=>?_) ?_
  ·refine ld_Pair (h.keeps0 k01) hx ?_
   refine bx_Pair x fun b w2 h2 n2 k2=>?_
   have h0:=k2.at0 h0
   simp only [sb,h0,h2]
   refine Has_k _ _ _ fun w3 k3=>?_
   have h2:=k3.at0 h2
   dsimp only
   cases hq:hasM lo hi x.k with
   | true=>
    refine hJ (r,()) _ ⟨?_,fr,kp0 k1 (kp0 k2 k3)⟩
    rw [htk,hq,if_pos rfl,List.append_nil]
    exact hr.keeps0 (kp0 k2 k3)
   | false=>
    simp only [Bool.not_false,sb,h2]
    refine New_bx fun c w4 h4 n4 k4=>?_
    have k14:=kp0 (kp0 k2 k3) k4
    refine SlC.app (ρ:=paR) (new:=[x]) (hr.keeps0 k14) (by rw [List.flatMap_singleton];exact box_src (ρ:=paR) (x:=x) h4) rfl (by rw [zc_Pair];rfl) (by omega) (by omega) ?_
    intro r' w5 h5 k5 f5
    refine hJ (r',()) _ ⟨?_,fun y hy=>?_,kpx (kp0 k1 k14) k5 fr⟩
    ·rw [htk,hq]
     exact h5
    ·rcases f5 y hy with h' | h'
     ·exact fr y h'
     ·have:=(kp0 k1 k14).size;omega
  ·rintro ⟨r',_⟩ w2 ⟨h2,f2,k2⟩
   exact ⟨m.length - (i + 1),by omega,r',i + 1,by rw [w64p (by omega)],rfl,by omega,h2,f2,k2⟩
 ·rw [decide_eq_false (by omega)]
  rw [List.take_of_length_le (by omega)] at hr
  exact k r _ hr (fun x hx=>Nat.le_trans k0.size (fr x hx)) k01
def withinM (m:List Pa) (lo hi:ByteArray) (most:Int):List Pa:=if most < 0 then m.filter (fun p=>hasM lo hi p.k) else (m.filter (fun p=>hasM lo hi p.k)).take most.toNat
theorem Within_k {w:World} {s:Sl} {m:List Pa} (h:RdE paR w s m) (hN:m.length≤100000000) (lo hi:ByteArray) (most:Int) {K:TR [.sc .sl]→Pr} (k:∀ r w',SlE paR w' r (withinM m lo hi most)→(∀ x∈blk r,w.heap.size≤x)→Keeps [] w w'→K (r,()) w') :
  Cl Pg i_sumpterref04_Within [.slice s.p s.len s.cap,.agg #[.string lo,.string hi],.int .i64 most] false [.sc .sl] K w:=by
 have hl:=h.len
 refine sumpterref04_Within_call _ _ _ _ ?_
 unfold sumpterref04_Within
 refine New_bx fun a w0 h0 n0 k0=>?_
 refine ⟨fun n st w'=>∃ (r:Sl) (i:Nat),st=(r,(i:Int),())∧n=m.length - i∧i≤m.length∧SlE paR w' r (withinM (m.take i) lo hi most)∧(∀ x∈blk r,w0.heap.size≤x)∧Keeps [] w0 w',⟨_,⟨none,0,0⟩,0,rfl,rfl,by omega,by unfold withinM;rw [List.take_zero,List.filter_nil,List.take_nil,ite_self];exact SlC.nil _ _,by simp [blk],Keeps.refl _ _⟩,?_⟩
 rintro n _ w1 ⟨r,i,rfl,rfl,hib,hr,fr,k1⟩
 have k01:=kp0 k0 k1
 have h0:=k1.at0 h0
 dsimp only
 by_cases hlt:i < m.length
 ·rw [decide_eq_true (by omega)]
  simp only [Br_true]
  obtain ⟨x,hx⟩:∃ x,m[i]?=some x:=⟨_,List.getElem?_eq_getElem hlt⟩
  have hrl:=hr.len'
  have hfl:((m.take i).filter (fun p=>hasM lo hi p.k)).length≤m.length:=Nat.le_trans (List.length_filter_le _ _) (by rw [List.length_take];omega)
  have hrl2:(withinM (m.take i) lo hi most).length≤m.length:=by
   unfold withinM
   split
   ·exact hfl
   ·rw [List.length_take];omega
  have hff:(m.take (i + 1)).filter (fun p=>hasM lo hi p.k)=(m.take i).filter (fun p=>hasM lo hi p.k) ++ (if hasM lo hi x.k then [x] else []):=by
   rw [List.take_add_one,hx,List.filter_append]
   cases hq:hasM lo hi x.k <;> simp [hq]
  have htk:withinM (m.take (i + 1)) lo hi most=withinM (m.take i) lo hi most ++ (if hasM lo hi x.k && (decide (most < 0) || decide (((r.len:Nat):Int) < most)) then [x] else []):=by
   rw [hrl]
   unfold withinM
   rw [hff]
   by_cases hm:most < 0
   ·rw [if_pos hm,if_pos hm,decide_eq_true hm]
    simp
   ·rw [if_neg hm,if_neg hm,decide_eq_false hm]
    have e:decide ((((((m.take i).filter (fun p=>hasM lo hi p.k)).take most.toNat).length:Nat):Int) < most)=decide (((m.take i).filter (fun p=>hasM lo hi p.k)).length < most.toNat):=by
     refine decide_eq_decide.2 ?_
     rw [List.length_take]
     omega
    rw [e]
    generalize (m.take i).filter (fun p=>hasM lo hi p.k)=F
    generalize most.toNat=q
    cases hasM lo hi x.k with
    | false=>simp
    | true=>
     by_cases hlt:F.length < q
     ·rw [decide_eq_true hlt]
      simp only [if_true,Bool.false_or,Bool.and_self]
      rw [List.take_of_length_le (by simp;omega),List.take_of_length_le (by omega)]
     ·rw [decide_eq_false hlt]
      simp only [if_true,Bool.false_or,Bool.and_false,Bool.false_eq_true,if_false,List.append_nil]
      rw [List.take_append_of_le_length (by omega)]
  refine Jp_of (fun st w'=>SlE paR w' st.1 (withinM (m.take (i + 1)) lo hi most)∧(∀ x∈blk st.1,w0.heap.size≤x)∧Keeps [] w0 w') (fun J hJ=>?_) ?_
  ·refine ld_Pair (h.keeps0 k01) hx ?_
   refine bx_Pair x fun b w2 h2 n2 k2=>?_
   have h0:=k2.at0 h0
   refine Jp_b (hasM lo hi x.k && (decide (most < 0) || decide (((r.len:Nat):Int) < most))) (fun J2 hJ2=>?_) fun w3 k3=>?_
   ·simp only [sb,h0,h2]
    refine Has_k _ _ _ fun w3 k3=>?_
    dsimp only
    cases hq:hasM lo hi x.k <;> rw [hq] at hJ2 <;> simp only [Br_true,Br_false]
    ·exact hJ2 _ k3
    ·cases hm:decide (most < 0) <;> rw [hm] at hJ2 <;> exact hJ2 _ k3
   have h2:=k3.at0 h2
   dsimp only
   cases hq:(hasM lo hi x.k && (decide (most < 0) || decide (((r.len:Nat):Int) < most))) with
   | false=>
    refine hJ (r,()) _ ⟨?_,fr,kp0 k1 (kp0 k2 k3)⟩
    rw [htk,hq]
    simpa using hr.keeps0 (kp0 k2 k3)
   | true=>
    simp only [sb,h2]
    refine New_bx fun c w4 h4 n4 k4=>?_
    have k14:=kp0 (kp0 k2 k3) k4
    refine SlC.app (ρ:=paR) (new:=[x]) (hr.keeps0 k14) (by rw [List.flatMap_singleton];exact box_src (ρ:=paR) (x:=x) h4) rfl (by rw [zc_Pair];rfl) (by omega) (by omega) ?_
    intro r' w5 h5 k5 f5
    refine hJ (r',()) _ ⟨?_,fun y hy=>?_,kpx (kp0 k1 k14) k5 fr⟩
    ·rw [htk,hq]
     exact h5
    ·rcases f5 y hy with h' | h'
     ·exact fr y h'
     ·have:=(kp0 k1 k14).size;omega
  ·rintro ⟨r',_⟩ w2 ⟨h2,f2,k2⟩
   exact ⟨m.length - (i + 1),by omega,r',i + 1,by rw [w64p (by omega)],rfl,by omega,h2,f2,k2⟩
 ·rw [decide_eq_false (by omega)]
  rw [List.take_of_length_le (by omega)] at hr
  exact k r _ hr (fun x hx=>Nat.le_trans k0.size (fr x hx)) k01
end Go.Proofs.YthkdehgfdllpoaaGreat
set_option linter.unusedVariables false
set_option linter.unusedSimpArgs false
namespace Go.Proofs.YthkdehgfdllpoaaGreat
open Go Go.Sx
def gath (x:Pa) (m:List Pa):List Pa × Bool:=(m.filter (fun p=>slt p.k x.k) ++ (if m.any (fun p=>!slt p.k x.k) then x :: m.filter (fun p=>slt x.k p.k) else []),m.any (fun p=>!slt p.k x.k))
theorem gath_end {x:Pa} {m:List Pa}:(if (gath x m).2 then (gath x m).1 else (gath x m).1 ++ [x])=putM m x.k x.v:=by
 unfold gath putM
 cases h:m.any (fun p=>!slt p.k x.k) with
 | true=>simp
 | false=>
  have:m.filter (fun p=>slt x.k p.k)=[]:=by
   refine List.filter_eq_nil_iff.2 fun p hp=>?_
   have:=List.any_eq_false.1 h p hp
   simp at this
   rw [slt_asymm this]
   simp
  simp [this]
theorem gath_step {x p:Pa} {m:List Pa} (hm:MapOk (m ++ [p])):gath x (m ++ [p])=((if (!(gath x m).2 && !slt p.k x.k) then (gath x m).1 ++ [x] else (gath x m).1) ++ (if !(seq p.k x.k) then [p] else []),(gath x m).2 || !slt p.k x.k):=by
 unfold gath
 dsimp only
 rw [List.any_append,List.filter_append,List.filter_append,seq_eq]
 have hlt:∀ y∈m,slt y.k p.k=true:=fun y hy=>(List.pairwise_append.1 hm.up).2.2 y hy p (by simp)
 cases h1:m.any (fun p=>!slt p.k x.k) with
 | true=>
  obtain ⟨y,hy,hyx⟩:=List.any_eq_true.1 h1
  have h2:slt x.k p.k=true:=by
   simp at hyx
   exact sle_lt_trans hyx (hlt y hy)
  have h3:=slt_asymm h2
  have h4:=(slt_ne h2).symm
  simp [h2,h3,h4]
 | false=>
  cases h2:slt p.k x.k with
  | true=>
   have h4:=slt_ne h2
   simp [h2,h4]
  | false=>
   have hnil:m.filter (fun p=>slt x.k p.k)=[]:=by
    refine List.filter_eq_nil_iff.2 fun q hq=>?_
    have:=List.any_eq_false.1 h1 q hq
    simp at this
    rw [slt_asymm this]
    simp
   by_cases h3:p.k=x.k
   ·simp [h2,h3,hnil,slt_irrefl]
   ·have h5:slt x.k p.k=true:=by
     cases h6:slt x.k p.k with
     | true=>rfl
     | false=>exact absurd (slt_total h2 h6) h3
    simp [h2,h3,h5,hnil]
theorem gath_len (x:Pa) (m:List Pa):(gath x m).1.length≤m.length + 1:=by
 unfold gath
 dsimp only
 have e:(m.filter (fun p=>slt p.k x.k)).length + (m.filter (fun p=>slt x.k p.k)).length≤m.length:=by
  induction m with
  | nil=>simp
  | cons y m ih=>
   simp only [List.filter_cons,List.length_cons]
   cases h1:slt y.k x.k with
   | true=>rw [slt_asymm h1];simp only [if_true,Bool.false_eq_true,if_false,List.length_cons];omega
   | false=>cases h2:slt x.k y.k <;> simp only [if_true,Bool.false_eq_true,if_false,List.length_cons] <;> omega
 rw [List.length_append]
 split <;> simp only [List.length_cons,List.length_nil] <;> omega
theorem Rput_k {w:World} {s:Sl} {m:List Pa} (h:RdE paR w s m) (hm:MapOk m) (hN:m.length≤1000000) (x:Pa) {K:TR [.sc .sl]→Pr} (k:∀ r w',SlE paR w' r (putM m x.k x.v)→(∀ y∈blk r,w.heap.size≤y)→Keeps [] w w'→K (r,()) w') :
  Cl Pg i_sumpterref04_put [.slice s.p s.len s.cap,.agg #[.string x.k,.string x.v]] false [.sc .sl] K w:=by
 have hl:=h.len
 refine sumpterref04_put_call _ _ _ ?_
 unfold sumpterref04_put
 refine New_bx fun a w0 h0 n0 k0=>?_
 refine ⟨fun n st w'=>∃ (r:Sl) (i:Nat),st=(r,(gath x (m.take i)).2,(i:Int),())∧n=m.length - i∧i≤m.length∧SlE paR w' r (gath x (m.take i)).1∧(∀ y∈blk r,w0.heap.size≤y)∧Keeps [] w0 w',⟨_,⟨none,0,0⟩,0,rfl,rfl,by omega,SlC.nil _ _,by simp [blk],Keeps.refl _ _⟩,?_⟩
 rintro n _ w1 ⟨r,i,rfl,rfl,hib,hr,fr,k1⟩
 have k01:=kp0 k0 k1
 have h0:=k1.at0 h0
 have hgl:=gath_len x (m.take i)
 rw [List.length_take] at hgl
 dsimp only
 have add:∀ {w1 w2:World} {r:Sl} {l:List Pa} {y:Pa} {c:Nat} {J:Sl→Pr},SlE paR w1 r l→l.length≤2000000→(∀ z∈blk r,w0.heap.size≤z)→Keeps [] w0 w1→Keeps [] w1 w2→w2.heap[c]?=some (.cells #[.string y.k,.string y.v] 111 (0,0)) →
   (∀ r' w3,SlE paR w3 r' (l ++ [y])→(∀ z∈blk r',w0.heap.size≤z)→Keeps [] w0 w3→Keeps (blk r) w2 w3→J r' w3)→App 111 2 32 (zc Pg 111) r 1 (srcS (some ⟨c,0,none⟩) 1 2) J w2:=by
  intro w1 w2 r l y c J hr hN fr k1 k2 hc hJ
  have hrl:=hr.len'
  refine SlC.app (ρ:=paR) (new:=[y]) (hr.keeps0 k2) (by rw [List.flatMap_singleton];exact box_src (ρ:=paR) (x:=y) hc) rfl (by rw [zc_Pair];rfl) (by omega) (by omega) ?_
  intro r' w3 h3 k3 f3
  refine hJ r' w3 h3 (fun z hz=>?_) (kpx (kp0 k1 k2) k3 fr) k3
  rcases f3 z hz with h' | h'
  ·exact fr z h'
  ·have:=(kp0 k1 k2).size;omega
 by_cases hlt:i < m.length
 ·rw [decide_eq_true (by omega)]
  simp only [Br_true]
  obtain ⟨p,hp⟩:∃ p,m[i]?=some p:=⟨_,List.getElem?_eq_getElem hlt⟩
  have htk:m.take (i + 1)=m.take i ++ [p]:=by rw [List.take_add_one,hp];rfl
  have hst:=gath_step (x:=x) (p:=p) (m:=m.take i) (by rw [← htk];exact hm.sub (List.take_sublist _ _))
  rw [← htk] at hst
  refine Jp_of (fun st w'=>st.2.1=(gath x (m.take (i + 1))).2∧SlE paR w' st.1 (gath x (m.take (i + 1))).1∧(∀ y∈blk st.1,w0.heap.size≤y)∧Keeps [] w0 w') (fun J hJ=>?_) ?_
  ·refine ld_Pair (h.keeps0 k01) hp ?_
   refine bx_Pair p fun b w2 h2 n2 k2=>?_
   have h0:=k2.at0 h0
   refine Jp_of (fun st w'=>∃ r',st=(r',(gath x (m.take (i + 1))).2,())∧SlE paR w' r' (if (!(gath x (m.take i)).2 && !slt p.k x.k) then (gath x (m.take i)).1 ++ [x] else (gath x (m.take i)).1)∧(∀ y∈blk r',w0.heap.size≤y)∧Keeps [] w0 w'∧Keeps (blk r) w2 w') (fun J2 hJ2=>?_) ?_
   ·refine Jp_b (!(gath x (m.take i)).2 && !slt p.k x.k) (fun J3 hJ3=>?_) fun w3 k3=>?_
    ·cases hg:(gath x (m.take i)).2 <;> rw [hg] at hJ3 <;> simp only [Bool.not_true,Bool.not_false,sb,h2,h0]
     ·exact hJ3 _ (Keeps.refl _ _)
     ·exact hJ3 _ (Keeps.refl _ _)
    have h0:=k3.at0 h0
    have h2:=k3.at0 h2
    dsimp only
    cases hc:(!(gath x (m.take i)).2 && !slt p.k x.k) with
    | true=>
     simp only [sb,h0]
     refine New_bx fun c w4 h4 n4 k4=>?_
     refine add (y:=x) hr (by omega) fr k1 (kp0 (kp0 k2 k3) k4) h4 ?_
     intro r' w5 h5 f5 k5 kk5
     refine hJ2 _ _ ⟨r',?_,by rw [hc,if_pos rfl];exact h5,f5,k5,k0m (kp0 k3 k4) kk5⟩
     rw [hst]
     simp only [Bool.and_eq_true,Bool.not_eq_true'] at hc
     rw [hc.1,hc.2]
     rfl
    | false=>
     refine hJ2 _ _ ⟨r,?_,by rw [hc,if_neg (by simp)];exact hr.keeps0 (kp0 k2 k3),fr,kp0 k1 (kp0 k2 k3),k3.mono (by simp)⟩
     rw [hst]
     cases hg:(gath x (m.take i)).2 with
     | true=>rfl
     | false=>
      rw [hg] at hc
      simp only [Bool.not_false,Bool.true_and,Bool.not_eq_false'] at hc
      rw [hc]
      rfl
   ·rintro _ w3 ⟨r',rfl,h3,f3,k3,kk3⟩
    have na:a ∉ blk r:=fun hh=>by have:=fr a hh;have:=hp_lt (show w0.heap[a]?=_ from by assumption);omega
    have nb:b ∉ blk r:=fun hh=>by have:=hr.lt b hh;omega
    have h0:=kk3.at h0 na
    have h2:=kk3.at h2 nb
    simp only [sb,h0,h2]
    cases hs:seq p.k x.k with
    | true=>
     refine hJ _ _ ⟨rfl,?_,f3,k3⟩
     rw [hst,hs]
     simpa using h3
    | false=>
     simp only [Bool.not_false,sb,h2]
     refine New_bx fun c w4 h4 n4 k4=>?_
     refine add (y:=p) h3 ?_ f3 k3 k4 h4 ?_
     ·split <;> (try rw [List.length_append]) <;> (try simp only [List.length_cons,List.length_nil]) <;> omega
     intro r'' w5 h5 f5 k5 _
     refine hJ _ _ ⟨rfl,?_,f5,k5⟩
     rw [hst,hs]
     exact h5
  ·rintro ⟨r',d',_⟩ w2 ⟨e,h2,f2,k2⟩
   dsimp only at e
   subst e
   exact ⟨m.length - (i + 1),by omega,r',i + 1,by rw [w64p (by omega)],rfl,by omega,h2,f2,k2⟩
 ·rw [decide_eq_false (by omega)]
  have htk:m.take i=m:=List.take_of_length_le (by omega)
  have hend:=gath_end (x:=x) (m:=m)
  rw [htk] at hr ⊢
  simp only [Br_false]
  refine Jp_of (fun st w'=>SlE paR w' st.1 (putM m x.k x.v)∧(∀ y∈blk st.1,w0.heap.size≤y)∧Keeps [] w0 w') (fun J hJ=>?_) ?_
  ·cases hg:(gath x m).2 with
   | true=>
    rw [hg,if_pos rfl] at hend
    rw [hend] at hr
    exact hJ (r,()) _ ⟨hr,fr,k1⟩
   | false=>
    rw [hg] at hend
    simp only [Bool.false_eq_true,if_false] at hend
    simp only [Bool.not_false,sb,h0]
    refine New_bx fun c w4 h4 n4 k4=>?_
    refine add (y:=x) hr (by rw [htk] at hgl;omega) fr k1 k4 h4 ?_
    intro r' w5 h5 f5 k5 _
    rw [hend] at h5
    exact hJ (r',()) _ ⟨h5,f5,k5⟩
  ·rintro ⟨r',_⟩ w2 ⟨h2,f2,k2⟩
   exact k r' _ h2 (fun y hy=>Nat.le_trans k0.size (f2 y hy)) (kp0 k0 k2)
theorem has_in {m:List Pa} (h:MapOk m) {lo hi:ByteArray} (hr:okR lo hi=true):∀ p∈m,hasM lo hi p.k=inM lo hi p:=by
 intro p hp
 unfold hasM inM
 rw [hr,(h.ok p hp).1]
 rfl
theorem RDo_k {w:World} {s:Sl} {m:List Pa} (h:RdE paR w s m) (hm:MapOk m) (hN:m.length≤1000000) (o:Op) (ho:opE o=0) {K:TR [.sc .sl,.ag [.b,.s,.sl]]→Pr}
  (k:∀ (r:Sl) (x:Rs) (w':World),RdE paR w' r (doM m o).1→x.p=(doM m o).2→RdE paR w' x.sp x.pairs→(r=s∨∀ b∈rb r,w.heap.size≤b)→(∀ b∈rb x.sp,w.heap.size≤b)→Keeps [] w w'→K (r,(x.found,x.value,x.sp,()),()) w') :
  Cl Pg i_sumpterref04_Do [.slice s.p s.len s.cap,.agg #[.int .i64 o.kind,.string o.key,.string o.value,.string o.lo,.string o.hi,.int .i64 o.most]] true [.sc .sl,.ag [.b,.s,.sl]] K w:=by
 obtain ⟨g1,g2,g3,g4,g5⟩:=opE_ok ho
 refine sumpterref04_Do_call _ _ _ _ _ _ _ ?_
 unfold sumpterref04_Do
 refine New_bx fun a w1 h1 n1 k1=>?_
 refine New_bx fun b w2 h2 n2 k2=>?_
 have h1:=k2.at0 h1
 simp only [sb,h1]
 refine bx2 rfl rfl rfl fun c w3 h3 n3 k3=>?_
 have h1:=k3.at0 h1
 have h2:=k3.at0 h2
 have k03:=kp0 (kp0 k1 k2) k3
 have nb:w.heap.size≤b:=by have:=k1.size;omega
 have lb:b < w3.heap.size:=hp_lt h2
 simp only [sb,h1]
 unfold doM at k
 by_cases e1:o.kind=1
 ·rw [if_pos e1] at k
  rw [show (o.kind == 1)=true from by rw [e1];rfl]
  simp only [sb,h1]
  refine RFind_k (h.keeps0 k03) (by omega) o.key fun w4 k4=>?_
  have h2:=k4.at0 h2
  refine outR0 h2 fun w5 k5=>?_
  have k05:=kp1 (kp0 k03 k4) k5 nb
  refine k s ⟨(findM m o.key).isSome,(match findM m o.key with | some v=>v | none=>BA []),⟨none,0,0⟩,[]⟩ w5 (h.keeps0 k05) ?_ (RdE.nil _) (.inl rfl) (by simp [rb]) k05
  cases findM m o.key <;> rfl
 rw [if_neg e1] at k
 rw [show (o.kind == 1)=false from by simpa using e1]
 simp only [Br_false]
 by_cases e2:o.kind=2
 ·rw [if_pos e2] at k
  rw [show (o.kind == 2)=true from by rw [e2];rfl]
  simp only [sb,h1]
  refine Rput_k (h.keeps0 k03) hm hN ⟨o.key,o.value⟩ ?_
  intro r w4 h4 f4 k4
  have h2:=k4.at0 h2
  refine outR0 h2 fun w5 k5=>?_
  have k05:=kp1 (kp0 k03 k4) k5 nb
  have br:b ∉ blk r:=fun hb=>by have:=f4 b hb;omega
  exact k r ⟨false,BA [],⟨none,0,0⟩,[]⟩ w5 (h4.keeps k5 (fun x hx=>by simp;exact fun e=>br (e ▸ hx))).rde rfl (RdE.nil _) (.inr fun x hx=>by have:=f4 x (h4.rb x hx);have:=k03.size;omega) (by simp [rb]) k05
 rw [if_neg e2] at k
 rw [show (o.kind == 2)=false from by simpa using e2]
 simp only [Br_false]
 by_cases e3:o.kind=3
 ·rw [if_pos e3] at k
  rw [show (o.kind == 3)=true from by rw [e3];rfl]
  simp only [sb,h1]
  have hkey:=g2 (by rw [e3];rfl)
  refine RPoint_k _ fun w4 k4=>?_
  rw [if_pos hkey]
  have h2:=k4.at0 h2
  refine bx2 rfl rfl rfl fun d w5 h5 n5 k5=>?_
  have h2:=k5.at0 h2
  simp only [sb,h5]
  have k05:=kp0 (kp0 k03 k4) k5
  refine Rwithout_k (h.keeps0 k05) (by omega) _ _ ?_
  intro r w6 h6 f6 k6
  have h2:=k6.at0 h2
  have hf:m.filter (fun p=>!hasM o.key (ptHi o.key) p.k)=m.filter (fun p=>!seq p.k o.key):=by
   refine List.filter_congr fun p hp=>?_
   unfold hasM
   rw [(pt_ok hkey).1,(hm.ok p hp).1,Bool.true_and,Bool.true_and,(pt_ok hkey).2 p.k (hm.ok p hp).1]
  rw [hf] at h6
  refine outR0 h2 fun w7 k7=>?_
  have k07:=kp1 (kp0 k05 k6) k7 nb
  have br:b ∉ blk r:=fun hb=>by have:=f6 b hb;have:=(kp0 k4 k5).size;omega
  exact k r ⟨false,BA [],⟨none,0,0⟩,[]⟩ w7 (h6.keeps k7 (fun x hx=>by simp;exact fun e=>br (e ▸ hx))).rde rfl (RdE.nil _) (.inr fun x hx=>by have:=f6 x (h6.rb x hx);have:=k05.size;omega) (by simp [rb]) k07
 rw [if_neg e3] at k
 rw [show (o.kind == 3)=false from by simpa using e3]
 simp only [Br_false]
 by_cases e4:o.kind=4
 ·rw [if_pos e4] at k
  rw [show (o.kind == 4)=true from by rw [e4];rfl]
  have hr:=g4 (by rw [e4];rfl)
  have hmo:=g5 (by rw [e4];rfl)
  simp only [sb,h1,h3]
  refine Within_k (h.keeps0 k03) (by omega) _ _ _ ?_
  intro r w4 h4 f4 k4
  have h2:=k4.at0 h2
  have hf:withinM m o.lo o.hi o.most=(m.filter (inM o.lo o.hi)).take o.most.toNat:=by
   unfold withinM
   rw [if_neg (by omega),List.filter_congr (has_in hm hr)]
  have h4:SlE paR w4 r ((m.filter (inM o.lo o.hi)).take o.most.toNat):=by rw [← hf];exact h4
  refine outR h2 fun w5 k5=>?_
  have k05:=kp1 (kp0 k03 k4) k5 nb
  have br:b ∉ blk r:=fun hb=>by have:=f4 b hb;omega
  exact k s ⟨false,BA [],r,_⟩ w5 (h.keeps0 k05) rfl (h4.keeps k5 (fun x hx=>by simp;exact fun e=>br (e ▸ hx))).rde (.inl rfl) (fun x hx=>by have:=f4 x (h4.rb x hx);have:=k03.size;omega) k05
 rw [if_neg e4] at k
 rw [show (o.kind == 4)=false from by simpa using e4]
 have e5:o.kind=5:=by
  rcases kd_cases g1 with e | e | e | e | e <;> first | exact e | exact absurd e (by assumption)
 have hr:=g4 (by rw [e5];rfl)
 simp only [sb,h3]
 refine Rwithout_k (h.keeps0 k03) (by omega) _ _ ?_
 intro r w4 h4 f4 k4
 have h2:=k4.at0 h2
 have hf:m.filter (fun p=>!hasM o.lo o.hi p.k)=m.filter (fun p=>!inM o.lo o.hi p):=List.filter_congr fun p hp=>congrArg not (has_in hm hr p hp)
 rw [hf] at h4
 refine outR0 h2 fun w5 k5=>?_
 have k05:=kp1 (kp0 k03 k4) k5 nb
 have br:b ∉ blk r:=fun hb=>by have:=f4 b hb;omega
 exact k r ⟨false,BA [],⟨none,0,0⟩,[]⟩ w5 (h4.keeps k5 (fun x hx=>by simp;exact fun e=>br (e ▸ hx))).rde rfl (RdE.nil _) (.inr fun x hx=>by have:=f4 x (h4.rb x hx);have:=k03.size;omega) (by simp [rb]) k05
theorem RApply_k {w:World} {sm sl:Sl} {m:List Pa} {l:List Op} (h:RdE paR w sm m) (hl:RdE opR w sl l) (hN:m.length≤500000) (hL:l.length≤400000) {K:TR [.sc .sl,.sc .sl,.sc (.i .i64)]→Pr}
  (k:MapOk m→opsE l=0→∀ (r1 r2:Sl) (rs:List Rs) (w':World),RdE paR w' r1 (applyM m l).1→SlE rsR w' r2 rs→rs.map Rs.p=(applyM m l).2→(∀ x∈rs,RsD w' x)→(∀ b∈rb r1,w.heap.size≤b)→Keeps [] w w'→K (r1,r2,0,()) w')
  (k':∀ e w',(¬ MapOk m∨opsE l ≠ 0)→e ≠ 0→Keeps [] w w'→K (⟨none,0,0⟩,⟨none,0,0⟩,e,()) w'):Cl Pg i_sumpterref04_Apply [.slice sm.p sm.len sm.cap,.slice sl.p sl.len sl.cap] true [.sc .sl,.sc .sl,.sc (.i .i64)] K w:=by
 have hll:=hl.len
 have hml:=h.len
 refine sumpterref04_Apply_call _ _ ?_
 unfold sumpterref04_Apply
 refine RCheckMap_k h (by omega) fun e w1 he k1=>?_
 dsimp only
 by_cases hm:e=0
 ·rw [show (e != 0)=false from by rw [hm];rfl]
  simp only [Br_false]
  refine RAll_k (hl.keeps0 k1) (by omega) fun w2 k2=>?_
  dsimp only
  have k02:=kp0 k1 k2
  by_cases ho:opsE l=0
  ·rw [show (opsE l != 0)=false from by rw [ho];rfl]
   simp only [Br_false]
   have hmo:=he.1 hm
   refine SlC.app (ρ:=paR) (l:=[]) (new:=m) (SlC.nil _ _) (h.keeps0 k02).rd hml (by rw [zc_Pair];rfl) (by dsimp only;omega) (by dsimp only;omega) ?_
   intro r0 w3 h3 k3 f3
   have k3:Keeps [] w2 w3:=k3
   have k03:=kp0 k02 k3
   have f3:∀ x∈blk r0,w2.heap.size≤x:=fun x hx=>by rcases f3 x hx with h' | h';simp [blk] at h';exact h'
   refine ⟨fun n st w'=>∃ (r1 r2:Sl) (rs:List Rs) (i:Nat),st=(r1,r2,(i:Int),())∧n=l.length - i∧i≤l.length∧RdE paR w' r1 (applyM m (l.take i)).1∧SlE rsR w' r2 rs∧rs.map Rs.p=(applyM m (l.take i)).2∧(∀ x∈rs,RsD w' x∧∀ b∈rb x.sp,b ∉ blk r2) ∧
    (∀ b∈rb r1,w.heap.size≤b∧b ∉ blk r2)∧(∀ b∈blk r2,w.heap.size≤b)∧Keeps [] w w',⟨_,r0,⟨none,0,0⟩,[],0,rfl,rfl,by omega,h3.rde,SlC.nil _ _,rfl,by simp,fun b hb=>⟨by have:=f3 b (h3.rb b hb);have:=k02.size;omega,by simp [blk]⟩,by simp [blk],k03⟩,?_⟩
   rintro n _ w4 ⟨r1,r2,rs,i,rfl,rfl,hi,g1,g2,g3,g4,g5,g6,k4⟩
   dsimp only
   by_cases hlt:i < l.length
   ·rw [decide_eq_true (by omega)]
    simp only [Br_true]
    obtain ⟨x,hx⟩:∃ x,l[i]?=some x:=⟨_,List.getElem?_eq_getElem hlt⟩
    have hxo:opE x=0:=opsE_all.1 ho x (List.mem_of_getElem? hx)
    have htk:l.take (i + 1)=l.take i ++ [x]:=by rw [List.take_add_one,hx];rfl
    have hmi:MapOk (applyM m (l.take i)).1:=applyM_ok hmo (opsE_all.2 fun y hy=>opsE_all.1 ho y (List.mem_of_mem_take hy))
    obtain ⟨hal1,hal2⟩:=applyM_len m (l.take i)
    rw [List.length_take] at hal1 hal2
    refine ld_Op (hl.keeps0 k4) hx ?_
    refine bx_Op x fun b w5 h5 n5 k5=>?_
    simp only [sb,h5]
    refine RDo_k (g1.keeps0 k5) hmi (by omega) x hxo ?_
    intro r y w6 e1 e2 e3 e4 e5 k6
    refine bx3 rfl rfl rfl rfl fun c w7 h7 n7 k7=>?_
    simp only [sb,h7]
    refine New_bx fun d w8 h8 n8 k8=>?_
    have k48:=kp0 (kp0 (kp0 k5 k6) k7) k8
    have k68:=kp0 k7 k8
    have s56:=k5.size
    have g2':=g2.keeps0 k48
    have hrl:=g2'.len'
    have hrm:rs.length=min i l.length:=by rw [← hal2,← g3,List.length_map]
    refine SlC.app (ρ:=rsR) (new:=[y]) g2' (by rw [List.flatMap_singleton];exact box_src (ρ:=rsR) (x:=y) h8) rfl (by rw [zc_Result];rfl) (by omega) (by omega) ?_
    intro r' w9 h9 k9 hb9
    have e1':=e1.keeps0 k68
    have e3':=e3.keeps0 k68
    have rr:∀ b∈rb r,w.heap.size≤b∧b ∉ blk r2:=by
     intro z hz
     rcases e4 with rfl | e4
     ·exact g5 z hz
     ·have:=e4 z hz
      have:=k4.size
      exact ⟨by omega,fun h2=>by have:=g2.lt z h2;omega⟩
    have yy:∀ b∈rb y.sp,b ∉ blk r2:=fun z hz h2=>by have:=e5 z hz;have:=g2.lt z h2;omega
    have new:∀ {b:Nat},b ∉ blk r2→b < w8.heap.size→b ∉ blk r':=fun h1 h2 h3=>by
     rcases hb9 _ h3 with h' | h'
     ·exact h1 h'
     ·omega
    refine ⟨l.length - (i + 1),by omega,r,r',rs ++ [y],i + 1,by rw [w64p (by omega)],rfl,by omega,?_,h9,?_,?_,?_,?_,?_⟩
    ·rw [htk,applyM_append]
     exact e1'.keeps k9 (fun b hb=>(rr b hb).2)
    ·rw [htk,applyM_append,List.map_append,g3]
     show _ ++ [y.p]=_
     rw [e2]
    ·intro z hz
     rcases List.mem_append.1 hz with hz | hz
     ·obtain ⟨q1,q2⟩:=g4 z hz
      have q1':=RdE.keeps0 q1 k48
      exact ⟨RdE.keeps q1' k9 q2,fun b hb=>new (q2 b hb) (q1'.lt b hb)⟩
     ·rw [List.mem_singleton] at hz
      subst hz
      exact ⟨e3'.keeps k9 yy,fun b hb=>new (yy b hb) (e3'.lt b hb)⟩
    ·intro b hb
     exact ⟨(rr b hb).1,new (rr b hb).2 (e1'.lt b hb)⟩
    ·intro b hb
     rcases hb9 b hb with h' | h'
     ·exact g6 b h'
     ·have:=(kp0 k4 k48).size;omega
    ·exact kpx (kp0 k4 k48) k9 g6
   ·rw [decide_eq_false (by omega)]
    rw [List.take_of_length_le (by omega)] at g1 g3
    exact k hmo ho r1 r2 rs w4 g1 g2 g3 (fun x hx=>(g4 x hx).1) (fun b hb=>(g5 b hb).1) k4
  ·rw [show (opsE l != 0)=true from by simpa using ho]
   exact k' _ _ (.inr ho) ho k02
 ·rw [show (e != 0)=true from by simpa using hm]
  exact k' _ _ (.inl fun h=>hm (he.2 h)) hm k1
end Go.Proofs.YthkdehgfdllpoaaGreat
set_option linter.unusedVariables false
set_option linter.unusedSimpArgs false
namespace Go.Proofs.YthkdehgfdllpoaaGreat
open Go Go.Sx
structure Bx where
 move:Int
 n:Int
 lo:ByteArray
 hi:ByteArray
 peer:Int
 closes:Bool
 under:Bool
 all:Bool
 sl:Sl
 sr:Sl
 whr:ByteArray
 load:List Op
 row:List Op
def bxC (b:Bx):List Value:=[.int .u64 b.move,.int .u64 b.n,.string b.lo,.string b.hi,.int .i64 b.peer,.bool b.closes,.bool b.under,.bool b.all,.slice b.sl.p b.sl.len b.sl.cap,.slice b.sr.p b.sr.len b.sr.cap,.string b.whr]
structure Sc where
 id:Int
 boot:Int
 ver:Int
 epoch:Int
 move:Int
 low:Int
 frozen:Int
 clo:ByteArray
 chi:ByteArray
 imove:Int
 iatt:Int
 inext:Int
 ilo:ByteArray
 ihi:ByteArray
 lasts:Bool
 e:Int
structure Co where
 so:Sl
 sh:Sl
 sf:Sl
 sw:Sl
 tb:Nat
 bx:Option Nat
 stb:Nat
 sout:Sl
 swr:Sl
 sln:Sl
 owners:List Ow
 held:List Hd
 fin:List Int
 wait:List Wt
 tab:TS
 tH:Nat→Prop
 out:List Mg
 writes:List Op
 line:List Ev
 box:Bx
 sM:Sl
 M:List Pa
structure Mc where
 c:Sc
 d:Co
def stV (stb:Nat):Value:=.iface 24 (.pointer (some ⟨stb,0,none⟩))
def mcC (X:Mc):List Value:=[.int .i64 X.c.id,.int .u64 X.c.boot,.int .u64 X.c.ver,.int .u64 X.c.epoch,.int .u64 X.c.move,.slice X.d.so.p X.d.so.len X.d.so.cap,.slice X.d.sh.p X.d.sh.len X.d.sh.cap,.slice X.d.sf.p X.d.sf.len X.d.sf.cap,.int .u64 X.c.low,.int .u64 X.c.frozen,.string X.c.clo,.string X.c.chi,.int .u64 X.c.imove,.int .u64 X.c.iatt,.int .u64 X.c.inext,.string X.c.ilo,.string X.c.ihi,
 .slice X.d.sw.p X.d.sw.len X.d.sw.cap,.pointer (some ⟨X.d.tb,0,none⟩),.pointer (X.d.bx.map fun b=>⟨b,0,none⟩),stV X.d.stb,.slice X.d.sout.p X.d.sout.len X.d.sout.cap,.slice X.d.swr.p X.d.swr.len X.d.swr.cap,.bool X.c.lasts,.slice X.d.sln.p X.d.sln.len X.d.sln.cap,.int .i64 X.c.e]
def RsDs (sr:Sl) (rs:List Rs) (w:World):Prop:=RdE rsR w sr rs∧∀ y∈rs,RsD w y
def MgD (x:Mg) (w:World):Prop:=RdE opR w x.so x.ops∧RsDs x.sr x.results w∧RdE owR w x.sw x.owners
def WtD (x:Wt) (w:World):Prop:=RdE opR w x.so x.ops∧RdE lkR w x.sk x.locks
def StD (X:Co) (w:World):Prop:=w.heap[X.stb]?=some (.cells #[.slice X.sM.p X.sM.len X.sM.cap] 27 (0,0))∧RdE paR w X.sM X.M
def BoxD (X:Co) (w:World):Prop:=∀ b,X.bx=some b→w.heap[b]?=some (.cells (bxC X.box).toArray 118 (0,0))
structure Rest (w:World) (T:Nat→Nat) (X:Co):Prop where
 ow:Imm T (fun w=>RdE owR w X.so X.owners) w
 he:Comp T 2 (·∈blk X.sh) (fun w=>SlE hdR w X.sh X.held) w
 heD:∀ x∈X.held,Imm T (fun w=>RdE opR w x.so x.ops) w
 fi:Comp T 3 (·∈blk X.sf) (fun w=>SlE nmR w X.sf X.fin) w
 wa:Comp T 4 (·∈blk X.sw) (fun w=>SlE wtR w X.sw X.wait) w
 waD:∀ x∈X.wait,Imm T (WtD x) w
 ta:Comp T 5 X.tH (fun w=>TAt w X.tb X.tH X.tab) w
 ou:Comp T 6 (·∈blk X.sout) (fun w=>SlE mgR w X.sout X.out) w
 ouD:∀ x∈X.out,Imm T (MgD x) w
 wr:Comp T 7 (·∈blk X.swr) (fun w=>SlE opR w X.swr X.writes) w
 li:Comp T 8 (·∈blk X.sln) (fun w=>SlE evR w X.sln X.line) w
 bo:Comp T 9 (fun b=>X.bx=some b) (BoxD X) w
 ro:Comp T 10 (·∈blk X.box.sr) (fun w=>SlE opR w X.box.sr X.box.row) w
 lo:Imm T (fun w=>RdE opR w X.box.sl X.box.load) w
 sto:Comp T 12 (·=X.stb) (StD X) w
 bd:∀ b,T b ≠ 0→b < w.heap.size
structure MAt (w:World) (m:Nat) (T:Nat→Nat) (X:Mc):Prop where
 hd:w.heap[m]?=some (.cells (mcC X).toArray 94 (0,0))
 t1:T m=1
 r:Rest w T X.d
theorem Rest.k1 {w w':World} {T:Nat→Nat} {X:Co} (h:Rest w T X) (s:Stp 1 T T w w'):Rest w' T X:=
 ⟨h.ow.kt (by decide) s,h.he.kt (by decide) (by decide) s,fun x hx=>(h.heD x hx).kt (by decide) s,h.fi.kt (by decide) (by decide) s,h.wa.kt (by decide) (by decide) s,fun x hx=>(h.waD x hx).kt (by decide) s,h.ta.kt (by decide) (by decide) s,h.ou.kt (by decide) (by decide) s,fun x hx=>(h.ouD x hx).kt (by decide) s,h.wr.kt (by decide) (by decide) s,h.li.kt (by decide) (by decide) s,h.bo.kt (by decide) (by decide) s,h.ro.kt (by decide) (by decide) s,h.lo.kt (by decide) s,h.sto.kt (by decide) (by decide) s,fun b hb=>Nat.lt_of_lt_of_le (h.bd b hb) s.kp.size⟩
theorem Rest.keeps0 {w w':World} {T:Nat→Nat} {X:Co} (h:Rest w T X) (k:Keeps [] w w'):Rest w' T X:=h.k1 (Stp.k0 k)
theorem MAt.keeps0 {w w':World} {m:Nat} {T:Nat→Nat} {X:Mc} (h:MAt w m T X) (k:Keeps [] w w'):MAt w' m T X:=⟨k.at0 h.hd,h.t1,h.r.keeps0 k⟩
theorem MAt.lt {w:World} {m:Nat} {T:Nat→Nat} {X:Mc} (h:MAt w m T X):m < w.heap.size:=hp_lt h.hd
theorem MAt.new {w:World} {m:Nat} {T:Nat→Nat} {X:Mc} (h:MAt w m T X) {b:Nat} (hb:w.heap.size≤b):T b=0:=by
 rcases Nat.eq_zero_or_pos (T b) with h0 | h0
 ·exact h0
 ·have:=h.r.bd b (by omega)
  omega
theorem MAt.set {w:World} {m:Nat} {T:Nat→Nat} {X X':Mc} (hd:w.heap[m]?=some (.cells (mcC X).toArray 94 (0,0))) (t1:T m=1) (hr:Rest w T X'.d) {i:Nat} {v:Value} (hi:i < 26) (h1:v.oneCell'=true) (he:(mcC X).set i v=mcC X') {K:Pr}
  (k:∀ w',MAt w' m T X'→Stp 1 T T w w'→K w'):St ⟨m,i,none⟩ v K w:=by
 refine set_box hd i v h1 (by simpa [mcC] using hi) fun w' hd' k'=>?_
 have s:Stp 1 T T w w':=⟨k'.toP fun b hb=>.inl (by simp at hb;rw [hb];exact t1),fun _ _ _=>rfl⟩
 refine k w' ⟨?_,t1,hr.k1 s⟩ s
 rw [hd',← he]
 simp
theorem tagL_m {w:World} {m k:Nat} {T:Nat→Nat} {s r:Sl} (hm:m < w.heap.size) (t1:T m=1) (hk:k ≠ 1) (hs:∀ b∈blk s,T b=k) (fr:∀ b∈blk r,b∈blk s∨w.heap.size≤b):tagL k r T m=1:=by
 unfold tagL
 rw [if_neg]
 ·exact t1
 ·intro h
  rcases fr m h with h' | h'
  ·have:=hs m h';omega
  ·omega
theorem Rest.uHe {w w':World} {T:Nat→Nat} {X:Co} (h:Rest w T X) {r:Sl} {l:List Hd} (hk:Keeps (blk X.sh) w w') (hr:SlE hdR w' r l) (fr:∀ b∈blk r,b∈blk X.sh∨w.heap.size≤b) (hD:∀ x∈l,Imm (tagL 2 r T) (fun w=>RdE opR w x.so x.ops) w'):Rest w' (tagL 2 r T) { X with sh:=r,held:=l }:=by
 have s:Stp 2 T (tagL 2 r T) w w':=Stp.row hk (fun b hb=>(h.he.tag b hb).2) fr
 exact ⟨h.ow.kt (by decide) s,.of hr tagL_mem,hD,h.fi.kt (by decide) (by decide) s,h.wa.kt (by decide) (by decide) s,fun x hx=>(h.waD x hx).kt (by decide) s,h.ta.kt (by decide) (by decide) s,h.ou.kt (by decide) (by decide) s,fun x hx=>(h.ouD x hx).kt (by decide) s,h.wr.kt (by decide) (by decide) s,h.li.kt (by decide) (by decide) s,h.bo.kt (by decide) (by decide) s,h.ro.kt (by decide) (by decide) s,h.lo.kt (by decide) s,h.sto.kt (by decide) (by decide) s,tagL_bd hr hk.size h.bd⟩
theorem MAt.uHe {w w':World} {m:Nat} {T:Nat→Nat} {X:Mc} (h:MAt w m T X) {r:Sl} {l:List Hd} (hk:Keeps (blk X.d.sh) w w') (hr:SlE hdR w' r l) (fr:∀ b∈blk r,b∈blk X.d.sh∨w.heap.size≤b) (hD:∀ x∈l,Imm (tagL 2 r T) (fun w=>RdE opR w x.so x.ops) w') {K:Pr}
  (k:∀ w2,MAt w2 m (tagL 2 r T) { X with d:={ X.d with sh:=r,held:=l } }→Evo T (tagL 2 r T) w w2→K w2):St ⟨m,6,none⟩ (.slice r.p r.len r.cap) K w':=by
 have s:Stp 2 T (tagL 2 r T) w w':=Stp.row hk (fun b hb=>(h.r.he.tag b hb).2) fr
 have hm:w'.heap[m]?=_:=hk.at h.hd (fun hm=>by have:=(h.r.he.tag m hm).2;have:=h.t1;omega)
 refine MAt.set (X':={ X with d:={ X.d with sh:=r,held:=l } }) hm (tagL_m h.lt h.t1 (by decide) (fun b hb=>(h.r.he.tag b hb).2) fr) (h.r.uHe hk hr fr hD) (by decide) rfl rfl fun w2 h2 s2=>?_
 exact k w2 h2 ((s.evo (by decide)).trans (s2.evo (by decide)))
theorem Rest.uFi {w w':World} {T:Nat→Nat} {X:Co} (h:Rest w T X) {r:Sl} {l:List Int} (hk:Keeps (blk X.sf) w w') (hr:SlE nmR w' r l) (fr:∀ b∈blk r,b∈blk X.sf∨w.heap.size≤b):Rest w' (tagL 3 r T) { X with sf:=r,fin:=l }:=by
 have s:Stp 3 T (tagL 3 r T) w w':=Stp.row hk (fun b hb=>(h.fi.tag b hb).2) fr
 exact ⟨h.ow.kt (by decide) s,h.he.kt (by decide) (by decide) s,fun x hx=>(h.heD x hx).kt (by decide) s,.of hr tagL_mem,h.wa.kt (by decide) (by decide) s,fun x hx=>(h.waD x hx).kt (by decide) s,h.ta.kt (by decide) (by decide) s,h.ou.kt (by decide) (by decide) s,fun x hx=>(h.ouD x hx).kt (by decide) s,h.wr.kt (by decide) (by decide) s,h.li.kt (by decide) (by decide) s,h.bo.kt (by decide) (by decide) s,h.ro.kt (by decide) (by decide) s,h.lo.kt (by decide) s,h.sto.kt (by decide) (by decide) s,tagL_bd hr hk.size h.bd⟩
theorem MAt.uFi {w w':World} {m:Nat} {T:Nat→Nat} {X:Mc} (h:MAt w m T X) {r:Sl} {l:List Int} (hk:Keeps (blk X.d.sf) w w') (hr:SlE nmR w' r l) (fr:∀ b∈blk r,b∈blk X.d.sf∨w.heap.size≤b) {K:Pr}
  (k:∀ w2,MAt w2 m (tagL 3 r T) { X with d:={ X.d with sf:=r,fin:=l } }→Evo T (tagL 3 r T) w w2→K w2):St ⟨m,7,none⟩ (.slice r.p r.len r.cap) K w':=by
 have s:Stp 3 T (tagL 3 r T) w w':=Stp.row hk (fun b hb=>(h.r.fi.tag b hb).2) fr
 have hm:w'.heap[m]?=_:=hk.at h.hd (fun hm=>by have:=(h.r.fi.tag m hm).2;have:=h.t1;omega)
 refine MAt.set (X':={ X with d:={ X.d with sf:=r,fin:=l } }) hm (tagL_m h.lt h.t1 (by decide) (fun b hb=>(h.r.fi.tag b hb).2) fr) (h.r.uFi hk hr fr) (by decide) rfl rfl fun w2 h2 s2=>?_
 exact k w2 h2 ((s.evo (by decide)).trans (s2.evo (by decide)))
theorem Rest.uWa {w w':World} {T:Nat→Nat} {X:Co} (h:Rest w T X) {r:Sl} {l:List Wt} (hk:Keeps (blk X.sw) w w') (hr:SlE wtR w' r l) (fr:∀ b∈blk r,b∈blk X.sw∨w.heap.size≤b) (hD:∀ x∈l,Imm (tagL 4 r T) (WtD x) w'):Rest w' (tagL 4 r T) { X with sw:=r,wait:=l }:=by
 have s:Stp 4 T (tagL 4 r T) w w':=Stp.row hk (fun b hb=>(h.wa.tag b hb).2) fr
 exact ⟨h.ow.kt (by decide) s,h.he.kt (by decide) (by decide) s,fun x hx=>(h.heD x hx).kt (by decide) s,h.fi.kt (by decide) (by decide) s,.of hr tagL_mem,hD,h.ta.kt (by decide) (by decide) s,h.ou.kt (by decide) (by decide) s,fun x hx=>(h.ouD x hx).kt (by decide) s,h.wr.kt (by decide) (by decide) s,h.li.kt (by decide) (by decide) s,h.bo.kt (by decide) (by decide) s,h.ro.kt (by decide) (by decide) s,h.lo.kt (by decide) s,h.sto.kt (by decide) (by decide) s,tagL_bd hr hk.size h.bd⟩
theorem MAt.uWa {w w':World} {m:Nat} {T:Nat→Nat} {X:Mc} (h:MAt w m T X) {r:Sl} {l:List Wt} (hk:Keeps (blk X.d.sw) w w') (hr:SlE wtR w' r l) (fr:∀ b∈blk r,b∈blk X.d.sw∨w.heap.size≤b) (hD:∀ x∈l,Imm (tagL 4 r T) (WtD x) w') {K:Pr}
  (k:∀ w2,MAt w2 m (tagL 4 r T) { X with d:={ X.d with sw:=r,wait:=l } }→Evo T (tagL 4 r T) w w2→K w2):St ⟨m,17,none⟩ (.slice r.p r.len r.cap) K w':=by
 have s:Stp 4 T (tagL 4 r T) w w':=Stp.row hk (fun b hb=>(h.r.wa.tag b hb).2) fr
 have hm:w'.heap[m]?=_:=hk.at h.hd (fun hm=>by have:=(h.r.wa.tag m hm).2;have:=h.t1;omega)
 refine MAt.set (X':={ X with d:={ X.d with sw:=r,wait:=l } }) hm (tagL_m h.lt h.t1 (by decide) (fun b hb=>(h.r.wa.tag b hb).2) fr) (h.r.uWa hk hr fr hD) (by decide) rfl rfl fun w2 h2 s2=>?_
 exact k w2 h2 ((s.evo (by decide)).trans (s2.evo (by decide)))
theorem Rest.uOu {w w':World} {T:Nat→Nat} {X:Co} (h:Rest w T X) {r:Sl} {l:List Mg} (hk:Keeps (blk X.sout) w w') (hr:SlE mgR w' r l) (fr:∀ b∈blk r,b∈blk X.sout∨w.heap.size≤b) (hD:∀ x∈l,Imm (tagL 6 r T) (MgD x) w'):Rest w' (tagL 6 r T) { X with sout:=r,out:=l }:=by
 have s:Stp 6 T (tagL 6 r T) w w':=Stp.row hk (fun b hb=>(h.ou.tag b hb).2) fr
 exact ⟨h.ow.kt (by decide) s,h.he.kt (by decide) (by decide) s,fun x hx=>(h.heD x hx).kt (by decide) s,h.fi.kt (by decide) (by decide) s,h.wa.kt (by decide) (by decide) s,fun x hx=>(h.waD x hx).kt (by decide) s,h.ta.kt (by decide) (by decide) s,.of hr tagL_mem,hD,h.wr.kt (by decide) (by decide) s,h.li.kt (by decide) (by decide) s,h.bo.kt (by decide) (by decide) s,h.ro.kt (by decide) (by decide) s,h.lo.kt (by decide) s,h.sto.kt (by decide) (by decide) s,tagL_bd hr hk.size h.bd⟩
theorem MAt.uOu {w w':World} {m:Nat} {T:Nat→Nat} {X:Mc} (h:MAt w m T X) {r:Sl} {l:List Mg} (hk:Keeps (blk X.d.sout) w w') (hr:SlE mgR w' r l) (fr:∀ b∈blk r,b∈blk X.d.sout∨w.heap.size≤b) (hD:∀ x∈l,Imm (tagL 6 r T) (MgD x) w') {K:Pr}
  (k:∀ w2,MAt w2 m (tagL 6 r T) { X with d:={ X.d with sout:=r,out:=l } }→Evo T (tagL 6 r T) w w2→K w2):St ⟨m,21,none⟩ (.slice r.p r.len r.cap) K w':=by
 have s:Stp 6 T (tagL 6 r T) w w':=Stp.row hk (fun b hb=>(h.r.ou.tag b hb).2) fr
 have hm:w'.heap[m]?=_:=hk.at h.hd (fun hm=>by have:=(h.r.ou.tag m hm).2;have:=h.t1;omega)
 refine MAt.set (X':={ X with d:={ X.d with sout:=r,out:=l } }) hm (tagL_m h.lt h.t1 (by decide) (fun b hb=>(h.r.ou.tag b hb).2) fr) (h.r.uOu hk hr fr hD) (by decide) rfl rfl fun w2 h2 s2=>?_
 exact k w2 h2 ((s.evo (by decide)).trans (s2.evo (by decide)))
theorem Rest.uWr {w w':World} {T:Nat→Nat} {X:Co} (h:Rest w T X) {r:Sl} {l:List Op} (hk:Keeps (blk X.swr) w w') (hr:SlE opR w' r l) (fr:∀ b∈blk r,b∈blk X.swr∨w.heap.size≤b):Rest w' (tagL 7 r T) { X with swr:=r,writes:=l }:=by
 have s:Stp 7 T (tagL 7 r T) w w':=Stp.row hk (fun b hb=>(h.wr.tag b hb).2) fr
 exact ⟨h.ow.kt (by decide) s,h.he.kt (by decide) (by decide) s,fun x hx=>(h.heD x hx).kt (by decide) s,h.fi.kt (by decide) (by decide) s,h.wa.kt (by decide) (by decide) s,fun x hx=>(h.waD x hx).kt (by decide) s,h.ta.kt (by decide) (by decide) s,h.ou.kt (by decide) (by decide) s,fun x hx=>(h.ouD x hx).kt (by decide) s,.of hr tagL_mem,h.li.kt (by decide) (by decide) s,h.bo.kt (by decide) (by decide) s,h.ro.kt (by decide) (by decide) s,h.lo.kt (by decide) s,h.sto.kt (by decide) (by decide) s,tagL_bd hr hk.size h.bd⟩
theorem MAt.uWr {w w':World} {m:Nat} {T:Nat→Nat} {X:Mc} (h:MAt w m T X) {r:Sl} {l:List Op} (hk:Keeps (blk X.d.swr) w w') (hr:SlE opR w' r l) (fr:∀ b∈blk r,b∈blk X.d.swr∨w.heap.size≤b) {K:Pr}
  (k:∀ w2,MAt w2 m (tagL 7 r T) { X with d:={ X.d with swr:=r,writes:=l } }→Evo T (tagL 7 r T) w w2→K w2):St ⟨m,22,none⟩ (.slice r.p r.len r.cap) K w':=by
 have s:Stp 7 T (tagL 7 r T) w w':=Stp.row hk (fun b hb=>(h.r.wr.tag b hb).2) fr
 have hm:w'.heap[m]?=_:=hk.at h.hd (fun hm=>by have:=(h.r.wr.tag m hm).2;have:=h.t1;omega)
 refine MAt.set (X':={ X with d:={ X.d with swr:=r,writes:=l } }) hm (tagL_m h.lt h.t1 (by decide) (fun b hb=>(h.r.wr.tag b hb).2) fr) (h.r.uWr hk hr fr) (by decide) rfl rfl fun w2 h2 s2=>?_
 exact k w2 h2 ((s.evo (by decide)).trans (s2.evo (by decide)))
theorem Rest.uLi {w w':World} {T:Nat→Nat} {X:Co} (h:Rest w T X) {r:Sl} {l:List Ev} (hk:Keeps (blk X.sln) w w') (hr:SlE evR w' r l) (fr:∀ b∈blk r,b∈blk X.sln∨w.heap.size≤b):Rest w' (tagL 8 r T) { X with sln:=r,line:=l }:=by
 have s:Stp 8 T (tagL 8 r T) w w':=Stp.row hk (fun b hb=>(h.li.tag b hb).2) fr
 exact ⟨h.ow.kt (by decide) s,h.he.kt (by decide) (by decide) s,fun x hx=>(h.heD x hx).kt (by decide) s,h.fi.kt (by decide) (by decide) s,h.wa.kt (by decide) (by decide) s,fun x hx=>(h.waD x hx).kt (by decide) s,h.ta.kt (by decide) (by decide) s,h.ou.kt (by decide) (by decide) s,fun x hx=>(h.ouD x hx).kt (by decide) s,h.wr.kt (by decide) (by decide) s,.of hr tagL_mem,h.bo.kt (by decide) (by decide) s,h.ro.kt (by decide) (by decide) s,h.lo.kt (by decide) s,h.sto.kt (by decide) (by decide) s,tagL_bd hr hk.size h.bd⟩
theorem MAt.uLi {w w':World} {m:Nat} {T:Nat→Nat} {X:Mc} (h:MAt w m T X) {r:Sl} {l:List Ev} (hk:Keeps (blk X.d.sln) w w') (hr:SlE evR w' r l) (fr:∀ b∈blk r,b∈blk X.d.sln∨w.heap.size≤b) {K:Pr}
  (k:∀ w2,MAt w2 m (tagL 8 r T) { X with d:={ X.d with sln:=r,line:=l } }→Evo T (tagL 8 r T) w w2→K w2):St ⟨m,24,none⟩ (.slice r.p r.len r.cap) K w':=by
 have s:Stp 8 T (tagL 8 r T) w w':=Stp.row hk (fun b hb=>(h.r.li.tag b hb).2) fr
 have hm:w'.heap[m]?=_:=hk.at h.hd (fun hm=>by have:=(h.r.li.tag m hm).2;have:=h.t1;omega)
 refine MAt.set (X':={ X with d:={ X.d with sln:=r,line:=l } }) hm (tagL_m h.lt h.t1 (by decide) (fun b hb=>(h.r.li.tag b hb).2) fr) (h.r.uLi hk hr fr) (by decide) rfl rfl fun w2 h2 s2=>?_
 exact k w2 h2 ((s.evo (by decide)).trans (s2.evo (by decide)))
theorem TAt.heap {w w':World} {t:Nat} {H:Nat→Prop} {s:TS} (h:TAt w t H s) (hw:∀ b,H b→w'.heap[b]?=w.heap[b]?):TAt w' t H s:=by
 obtain ⟨sh,sw,h⟩:=h
 exact ⟨sh,sw,(hw t ((h.own t).2 (.inl rfl))).trans h.hd,h.h.heap fun b hb=>hw b ((h.own b).2 (.inr (.inl hb))),h.w.heap fun b hb=>hw b ((h.own b).2 (.inr (.inr hb))),h.th,h.tw,h.hw,h.own⟩
theorem Rest.uTa {w w':World} {T:Nat→Nat} {X:Co} (h:Rest w T X) {H':Nat→Prop} {s':TS} (ht:TAt w' X.tb H' s') (fr:Fr X.tH H' w) (hk:KeepsP X.tH w w'):Stp 5 T (tagP 5 H' T) w w'∧Rest w' (tagP 5 H' T) { X with tH:=H',tab:=s' }:=by
 classical
 have hbl:∀ b,H' b→b < w'.heap.size:=by
  obtain ⟨sh,sw,h2⟩:=ht
  exact h2.bl
 have s:Stp 5 T (tagP 5 H' T) w w':=by
  refine ⟨hk.mono fun b hb=>.inl (h.ta.tag b hb).2,fun b hb hn=>?_⟩
  unfold tagP
  rw [if_neg]
  intro h'
  rcases fr b h' with h1 | h1
  ·exact hn (h.ta.tag b h1).2
  ·omega
 refine ⟨s,h.ow.kt (by decide) s,h.he.kt (by decide) (by decide) s,fun x hx=>(h.heD x hx).kt (by decide) s,h.fi.kt (by decide) (by decide) s,h.wa.kt (by decide) (by decide) s,fun x hx=>(h.waD x hx).kt (by decide) s,⟨ht,fun w2 _ hw=>ht.heap fun b hb=>hw b (hbl b hb) (.inl (if_pos hb)),fun b hb=>⟨hbl b hb,if_pos hb⟩⟩,h.ou.kt (by decide) (by decide) s,fun x hx=>(h.ouD x hx).kt (by decide) s,h.wr.kt (by decide) (by decide) s,h.li.kt (by decide) (by decide) s,h.bo.kt (by decide) (by decide) s,h.ro.kt (by decide) (by decide) s,h.lo.kt (by decide) s,h.sto.kt (by decide) (by decide) s,fun b hb=>?_⟩
 unfold tagP at hb
 split at hb
 ·exact hbl b (by assumption)
 ·exact Nat.lt_of_lt_of_le (h.bd b hb) hk.size
theorem MAt.uTa {w w':World} {m:Nat} {T:Nat→Nat} {X:Mc} (h:MAt w m T X) {H':Nat→Prop} {s':TS} (ht:TAt w' X.d.tb H' s') (fr:Fr X.d.tH H' w) (hk:KeepsP X.d.tH w w'):MAt w' m (tagP 5 H' T) { X with d:={ X.d with tH:=H',tab:=s' } }∧Evo T (tagP 5 H' T) w w':=by
 obtain ⟨s,hr⟩:=h.r.uTa ht fr hk
 refine ⟨⟨hk.at h.hd fun hm=>?_,?_,hr⟩,s.evo (by decide)⟩
 ·have:=(h.r.ta.tag m hm).2
  have:=h.t1
  omega
 ·exact (s.tg m h.lt (by rw [h.t1];decide)).trans h.t1
end Go.Proofs.YthkdehgfdllpoaaGreat
set_option linter.unusedVariables false
set_option linter.unusedSimpArgs false
namespace Go.Proofs.YthkdehgfdllpoaaGreat
open Go Go.Sx
theorem drewK (w:World):Keeps [] w w.drew:=(Keeps.refl _ _).drew
theorem add00 (b i n:Nat):Addr.add ⟨b,i,none⟩ n=⟨b,i + n,none⟩:=add_of b i n
theorem send_k {w:World} {m:Nat} {T:Nat→Nat} {X:Mc} (h:MAt w m T X) (x:Mg) (hx:Imm T (MgD x) w) (hN:X.d.out.length≤100000) {K:TR []→Pr}
  (k:∀ so T' w',MAt w' m T' { X with d:={ X.d with sout:=so,out:=X.d.out ++ [{ x with src:=X.c.id }] } }→Evo T T' w w'→K () w') :
  Cl Pg i_part_Machine_send [.pointer (some ⟨m,0,none⟩),.agg #[.int .i64 x.kind,.int .i64 x.src,.int .i64 x.dst,.int .i64 x.client,.int .i64 x.code,.int .i64 x.peer,.int .u64 x.req,.int .u64 x.boot,.int .u64 x.txn,.int .u64 x.low,.int .u64 x.ver,.int .u64 x.epoch,.int .u64 x.move,.int .u64 x.attempt,.int .u64 x.n,.bool x.flag,.string x.rlo,.string x.rhi,.slice x.so.p x.so.len x.so.cap,.slice x.sr.p x.sr.len x.sr.cap,.slice x.sw.p x.sw.len x.sw.cap]] true [] K w:=by
 refine part_Machine_send_call _ _ _ _ _ _ _ _ _ _ _ _ _ _ _ _ _ _ _ x.so x.sr x.sw ?_
 unfold part_Machine_send
 refine New_bx fun a w1 h1 n1 k1=>?_
 have g1:=h.keeps0 k1
 simp only [sb,g1.hd,mcC,add00,Nat.reduceAdd]
 refine set_box h1 1 _ rfl (by simp) fun w2 h2 k2=>?_
 have ma:m ≠ a:=fun e=>by have:=h.lt;omega
 have k02:=kp1 k1 k2 n1
 have g2:=h.keeps0 k02
 simp only [sxl] at h2
 simp only [sb,g2.hd,mcC,add00,Nat.reduceAdd,h2]
 refine New_bx fun c w3 h3 n3 k3=>?_
 have k03:=kp0 k02.drew k3
 have g3:=h.keeps0 k03
 simp only [sb,g3.hd,mcC,add00,Nat.reduceAdd]
 refine ⟨by trivial,?_⟩
 have hs:=g3.r.ou.ok
 have hl:=hs.len'
 refine SlC.app (ρ:=mgR) (new:=[{ x with src:=X.c.id }]) hs (by rw [List.flatMap_singleton];exact box_src (ρ:=mgR) (x:={ x with src:=X.c.id }) h3) rfl (by rw [zc_Msg];rfl) (by omega) (by omega) ?_
 intro r w4 h4 k4 f4
 have s4:Stp 6 T (tagL 6 r T) w3 w4:=Stp.row k4 (fun b hb=>(g3.r.ou.tag b hb).2) f4
 refine g3.uOu k4 h4 f4 (fun y hy=>?_) fun w5 h5 e5=>?_
 ·rcases List.mem_append.1 hy with hy | hy
  ·exact (g3.r.ouD y hy).kt (by decide) s4
  ·rw [List.mem_singleton] at hy
   subst hy
   exact (hx.keeps0 k03).kt (by decide) s4
 ·exact k r _ w5 h5 ((Evo.k0 k03).trans e5)
theorem vote_k {w:World} {m:Nat} {T:Nat→Nat} {X:Mc} (h:MAt w m T X) (txn code:Int) (sr:Sl) (rs:List Rs) (hr:Imm T (RsDs sr rs) w) (hN:X.d.out.length≤100000) {K:TR []→Pr}
  (k:∀ so T' w',MAt w' m T' { X with d:={ X.d with sout:=so,out:=X.d.out ++ [⟨4,X.c.id,0,0,code,0,0,0,txn,0,0,0,0,0,0,false,BA [],BA [],⟨none,0,0⟩,sr,⟨none,0,0⟩,[],rs,[]⟩] } }→Evo T T' w w'→K () w') :
  Cl Pg i_part_Machine_vote [.pointer (some ⟨m,0,none⟩),.int .u64 txn,.int .i64 code,.slice sr.p sr.len sr.cap] true [] K w:=by
 refine part_Machine_vote_call _ _ _ _ ?_
 unfold part_Machine_vote
 refine send_k h ⟨4,0,0,0,code,0,0,0,txn,0,0,0,0,0,0,false,BA [],BA [],⟨none,0,0⟩,sr,⟨none,0,0⟩,[],rs,[]⟩ ?_ hN k
 exact (Imm.triv fun w=>RdE.nil w).and (hr.and (Imm.triv fun w=>RdE.nil w))
theorem waiting_k {w:World} {m:Nat} {T:Nat→Nat} {X:Mc} (h:MAt w m T X) (hs:X.d.wait.Pairwise (fun a b=>a.txn < b.txn)) (hN:X.d.wait.length≤100000) (t:Int) {K:TR [.sc (.i .i64),.sc .b]→Pr}
  (k:∀ w',Keeps [] w w'→K ((bsAt (fun x:Wt=>cmpI x.txn t) X.d.wait:Int),bsIs (fun x:Wt=>cmpI x.txn t) X.d.wait,()) w'):Cl Pg i_part_Machine_waiting [.pointer (some ⟨m,0,none⟩),.int .u64 t] true [.sc (.i .i64),.sc .b] K w:=by
 refine part_Machine_waiting_call _ _ ?_
 unfold part_Machine_waiting
 simp only [sb,h.hd,mcC]
 refine Search_wait_k (c:=fun x:Wt=>cmpI x.txn t) h.r.wa.ok.rde ?_ ?_ (by omega) fun w' k'=>k w' k'
 ·intro w1 k1 x _ K1 hK
  refine CallV_fn0 (by kernel_rfl) ?_
  refine part_Machine_waiting_1_call _ x.so x.sk _ _ ?_
  unfold part_Machine_waiting_1
  refine New_bx fun b w2 h2 n2 k2=>?_
  simp only [sb,h2]
  exact Compare_k _ _ (hK _ k2)
 ·exact hs.imp fun h=>by rw [cmpI_lt,cmpI_lt];omega
theorem held_k {w:World} {m:Nat} {T:Nat→Nat} {X:Mc} (h:MAt w m T X) (hs:X.d.held.Pairwise (fun a b=>a.txn < b.txn)) (hN:X.d.held.length≤100000) (t:Int) {K:TR [.sc (.i .i64),.sc .b]→Pr}
  (k:∀ w',Keeps [] w w'→K ((bsAt (fun x:Hd=>cmpI x.txn t) X.d.held:Int),bsIs (fun x:Hd=>cmpI x.txn t) X.d.held,()) w'):Cl Pg i_part_Machine_held [.pointer (some ⟨m,0,none⟩),.int .u64 t] true [.sc (.i .i64),.sc .b] K w:=by
 refine part_Machine_held_call _ _ ?_
 unfold part_Machine_held
 simp only [sb,h.hd,mcC]
 refine Search_Hold_k (c:=fun x:Hd=>cmpI x.txn t) h.r.he.ok.rde ?_ ?_ (by omega) fun w' k'=>k w' k'
 ·intro w1 k1 x _ K1 hK
  refine CallV_fn0 (by kernel_rfl) ?_
  refine part_Machine_held_1_call _ x.so _ ?_
  unfold part_Machine_held_1
  refine New_bx fun b w2 h2 n2 k2=>?_
  simp only [sb,h2]
  exact Compare_k _ _ (hK _ k2)
 ·exact hs.imp fun h=>by rw [cmpI_lt,cmpI_lt];omega
def evs (b:Bool) (l:List Int):List Ev:=l.map (⟨·,b⟩)
theorem told_k {w:World} {m:Nat} {T:Nat→Nat} {X:Mc} (h:MAt w m T X) {sg sd:Sl} {g d:List Int} (hg:Imm T (fun w=>SlC w sg 1 (cU g)) w) (hd:Imm T (fun w=>SlC w sd 1 (cU d)) w) (hN:X.d.line.length + g.length + d.length≤100000) {K:TR []→Pr}
  (k:∀ sl T' w',MAt w' m T' { X with d:={ X.d with sln:=sl,line:=X.d.line ++ evs true d ++ evs false g } }→Evo T T' w w'→K () w') :
  Cl Pg i_part_Machine_told [.pointer (some ⟨m,0,none⟩),.slice sg.p sg.len sg.cap,.slice sd.p sd.len sd.cap] true [] K w:=by
 have hlg:=cU_slen hg.ok
 have hld:=cU_slen hd.ok
 have add:∀ {w1:World} {T1:Nat→Nat} {X1:Mc} (y:Ev) {J:Pr},MAt w1 m T1 X1→X1.d.line.length≤100000→(∀ sl T' w',MAt w' m T' { X1 with d:={ X1.d with sln:=sl,line:=X1.d.line ++ [y] } }→Evo T1 T' w1 w'→J w') →
   (Nn (some ⟨m,0,none⟩) fun a5=>LdL (a5.add 24) fun x6=>New #[(.int .u64 y.txn),(.bool y.dead)] 282 fun a7=>App 282 2 16 (zc Pg 282) x6 1 (srcS (some a7) 1 2) fun r8=>Nn (some ⟨m,0,none⟩) fun a9=>St (a9.add 24) (.slice r8.p r8.len r8.cap) J) w1:=by
  intro w1 T1 X1 y J h1 hN hJ
  simp only [sb,h1.hd,mcC]
  refine New_bx fun c w2 h2 n2 k2=>?_
  have g2:=h1.keeps0 k2
  have hs:=g2.r.li.ok
  have hl:=hs.len'
  refine SlC.app (ρ:=evR) (new:=[y]) hs (by rw [List.flatMap_singleton];exact box_src (ρ:=evR) (x:=y) h2) rfl (by rw [zc_event];rfl) (by omega) (by omega) ?_
  intro r w3 h3 k3 f3
  refine g2.uLi k3 h3 f3 fun w4 h4 e4=>?_
  exact hJ r _ w4 h4 ((Evo.k0 k2).trans e4)
 refine part_Machine_told_call _ _ _ ?_
 unfold part_Machine_told
 refine ⟨fun n st w'=>∃ (i:Nat) (sl:Sl) (T':Nat→Nat),st=((i:Int),())∧n=d.length - i∧i≤d.length∧MAt w' m T' { X with d:={ X.d with sln:=sl,line:=X.d.line ++ evs true (d.take i) } }∧Evo T T' w w',⟨_,0,X.d.sln,T,rfl,rfl,by omega,by rw [List.take_zero,evs,List.map_nil,List.append_nil];exact h,Evo.refl _ _⟩,?_⟩
 rintro n _ w1 ⟨i,sl,T1,rfl,rfl,hi,h1,e1⟩
 dsimp only
 by_cases hlt:i < d.length
 ·rw [decide_eq_true (by omega)]
  simp only [Br_true]
  obtain ⟨y,hy⟩:∃ y,d[i]?=some y:=⟨_,List.getElem?_eq_getElem hlt⟩
  refine Ix_cu (hd.evo e1).ok hy ?_
  refine add ⟨y,true⟩ h1 (by dsimp only;rw [List.length_append,evs,List.length_map,List.length_take];omega) ?_
  intro sl' T' w2 h2 e2
  refine ⟨d.length - (i + 1),by omega,i + 1,sl',T',by rw [w64p (by omega)],rfl,by omega,?_,e1.trans e2⟩
  dsimp only at h2
  rw [List.append_assoc] at h2
  rw [List.take_add_one,hy,evs,List.map_append]
  exact h2
 ·rw [decide_eq_false (by omega)]
  rw [List.take_of_length_le (by omega)] at h1
  simp only [Br_false]
  refine ⟨fun n st w'=>∃ (i:Nat) (sl:Sl) (T':Nat→Nat),st=((i:Int),())∧n=g.length - i∧i≤g.length∧MAt w' m T' { X with d:={ X.d with sln:=sl,line:=X.d.line ++ evs true d ++ evs false (g.take i) } }∧Evo T T' w w',⟨_,0,sl,T1,rfl,rfl,by omega,by rw [List.take_zero,show evs false []=[] from rfl,List.append_nil];exact h1,e1⟩,?_⟩
  rintro n _ w2 ⟨i,sl,T2,rfl,rfl,hi,h2,e2⟩
  dsimp only
  by_cases hlt:i < g.length
  ·rw [decide_eq_true (by omega)]
   simp only [Br_true]
   obtain ⟨y,hy⟩:∃ y,g[i]?=some y:=⟨_,List.getElem?_eq_getElem hlt⟩
   refine Ix_cu (hg.evo e2).ok hy ?_
   refine add ⟨y,false⟩ h2 (by dsimp only;rw [List.length_append,List.length_append,evs,evs,List.length_map,List.length_map,List.length_take];omega) ?_
   intro sl' T' w3 h3 e3
   refine ⟨g.length - (i + 1),by omega,i + 1,sl',T',by rw [w64p (by omega)],rfl,by omega,?_,e2.trans e3⟩
   dsimp only at h3
   rw [List.append_assoc] at h3
   rw [List.take_add_one,hy,show evs false (g.take i ++ (some y).toList)=evs false (g.take i) ++ [⟨y,false⟩] from by rw [evs,List.map_append];rfl]
   exact h3
  ·rw [decide_eq_false (by omega)]
   rw [List.take_of_length_le (by omega)] at h2
   exact k sl T2 w2 h2 e2
end Go.Proofs.YthkdehgfdllpoaaGreat
set_option linter.unusedVariables false
set_option linter.unusedSimpArgs false
namespace Go.Proofs.YthkdehgfdllpoaaGreat
open Go Go.Sx
theorem split_len {α:Type} (p:α→Bool) (l:List α):l.length=(l.filter p).length + (l.filter (fun x=>!p x)).length:=by
 induction l with
 | nil=>rfl
 | cons a l ih=>simp only [List.filter_cons,List.length_cons];cases p a <;> simp <;> omega
theorem addA_len (l:List Int) (n:Int):(addA l n).length≤l.length + 1:=by
 induction l with
 | nil=>simp [addA]
 | cons a l ih=>
  unfold addA
  repeat' split
  all_goals simp only [List.length_cons]
  all_goals omega
theorem setA_len (l:List Int):(setA l).length≤l.length:=by
 have:∀ (l acc:List Int),(l.foldl addA acc).length≤acc.length + l.length:=by
  intro l
  induction l with
  | nil=>intro acc;simp
  | cons a l ih=>
   intro acc
   have h1:=ih (addA acc a)
   have h2:=addA_len acc a
   simp only [List.foldl_cons,List.length_cons]
   omega
 have h:=this l []
 simp only [List.length_nil,Nat.zero_add] at h
 exact h
theorem dropAll_wt (d:List Int):∀ s:TS,(dropAll d s).wait=s.wait.filter (fun y=>!d.contains y.n):=by
 induction d with
 | nil=>intro s;exact (List.filter_eq_self.2 fun _ _=>rfl).symm
 | cons n d ih=>
  intro s
  show (dropAll d (dropA n s)).wait=_
  rw [ih]
  simp only [dropA,List.filter_filter]
  refine List.filter_congr fun y _=>?_
  rw [List.contains_cons]
  cases y.n == n <;> simp
theorem killed_wt (x:Ak) (l:List Ak):(l.filter (fun y=>!(killed x l).contains y.n)).length + (killed x l).length≤l.length:=by
 unfold killed
 rw [List.length_map]
 have h1:=split_len (fun w=>decide (x.n < w.n) && wayA x w) l
 have h2:(l.filter (fun y=>!((l.filter (fun w=>decide (x.n < w.n) && wayA x w)).map (·.n)).contains y.n)).length≤(l.filter (fun w=>!(decide (x.n < w.n) && wayA x w))).length:=by
  refine List.Sublist.length_le ?_
  have:l.filter (fun y=>!((l.filter (fun w=>decide (x.n < w.n) && wayA x w)).map (·.n)).contains y.n)=(l.filter (fun w=>!(decide (x.n < w.n) && wayA x w))).filter (fun y=>!((l.filter (fun w=>decide (x.n < w.n) && wayA x w)).map (·.n)).contains y.n):=by
   rw [List.filter_filter]
   refine List.filter_congr fun y hy=>?_
   cases hq:(decide (x.n < y.n) && wayA x y) with
   | false=>simp
   | true=>
    have:((l.filter (fun w=>decide (x.n < w.n) && wayA x w)).map (·.n)).contains y.n=true:=by
     rw [List.contains_iff_mem]
     exact List.mem_map.2 ⟨y,List.mem_filter.2 ⟨hy,hq⟩,rfl⟩
    rw [this]
    rfl
  rw [this]
  exact List.filter_sublist
 omega
theorem settle_tell:∀ (k:Nat) (s:TS) (g d:List Int),(settleA k s g d).2.1.length + (settleA k s g d).2.2.length + (settleA k s g d).1.wait.length≤g.length + d.length + s.wait.length
 | 0,s,g,d=>Nat.le_refl _
 | k + 1,s,g,d=>by
  unfold settleA
  cases hf:s.wait.find? (freeA s) with
  | none=>exact Nat.le_refl _
  | some x=>
   dsimp only
   have h1:=settle_tell k (pickA x s).2 (g ++ [x.n]) (d ++ (pickA x s).1)
   have h2:(pickA x s).2.wait.length + (pickA x s).1.length + 1≤s.wait.length:=by
    unfold pickA grantA
    dsimp only
    rw [dropAll_wt]
    have h3:=killed_wt x (s.wait.filter (fun y=>!(y.n == x.n)))
    have h4:=filter_short (List.mem_of_find?_eq_some hf)
    dsimp only
    omega
   rw [List.length_append,List.length_append,List.length_singleton] at h1
   omega
theorem rel_tell (n:Int) (s:TS):(relA n s).1.1.length + (relA n s).1.2.length + (relA n s).2.wait.length≤s.wait.length:=by
 unfold relA
 dsimp only
 have h1:=settle_tell (dropA n s).wait.length (dropA n s) [] []
 have h2:(dropA n s).wait.length≤s.wait.length:=List.length_filter_le _ _
 have h3:=setA_len (settleA (dropA n s).wait.length (dropA n s) [] []).2.1
 have h4:=setA_len (settleA (dropA n s).wait.length (dropA n s) [] []).2.2
 simp only [List.length_nil] at h1
 omega
theorem ask_tell (x:Ak) (s:TS):(askA x s).1.2.1.length + (askA x s).1.2.2.1.length + (askA x s).2.wait.length≤s.wait.length + 1:=by
 unfold askA
 repeat' split
 all_goals (try (simp;done))
 ·have h1:=settle_tell (grantA x s).2.wait.length (grantA x s).2 [] (grantA x s).1
  have h3:=setA_len (settleA (grantA x s).2.wait.length (grantA x s).2 [] (grantA x s).1).2.1
  have h4:=setA_len (settleA (grantA x s).2.wait.length (grantA x s).2 [] (grantA x s).1).2.2
  have h5:(grantA x s).2.wait.length + (grantA x s).1.length≤s.wait.length:=by
   unfold grantA
   dsimp only
   rw [dropAll_wt]
   exact killed_wt x s.wait
  simp only [List.length_nil] at h1
  dsimp only
  omega
 ·have:(insA x s.wait).length=s.wait.length + 1:=by
   unfold insA
   have h1:=split_len (fun y=>decide (y.n < x.n)) s.wait
   rw [List.length_append,List.length_cons]
   omega
  simp [this]
theorem Imm.cu {T:Nat→Nat} {w:World} {s:Sl} {l:List Int} (h:SlC w s 1 (cU l)) (ht:∀ b∈blk s,T b=0):Imm T (fun w=>SlC w s 1 (cU l)) w:=
 ⟨h,fun w' _ hw=>h.heap fun b hb=>hw b (h.lt b hb) (ht b hb)⟩
theorem left_k {w w':World} {m:Nat} {T:Nat→Nat} {X:Mc} (h:MAt w m T X) {s':TS} {a b:Sl} {g d:List Int} (hl:Left w w' X.d.tb X.d.tH s' a b g d) :
  ∃ T' H',MAt w' m T' { X with d:={ X.d with tH:=H',tab:=s' } }∧Evo T T' w w'∧Imm T' (fun w=>SlC w a 1 (cU g)) w'∧Imm T' (fun w=>SlC w b 1 (cU d)) w':=by
 obtain ⟨H',h1,f1,k1,ha,hb,na,nb,_⟩:=hl
 obtain ⟨h2,e2⟩:=h.uTa h1 f1 k1
 refine ⟨_,H',h2,e2,Imm.cu ha fun y hy=>?_,Imm.cu hb fun y hy=>?_⟩
 ·unfold tagP
  rw [if_neg (na y hy).2]
  exact h.new (na y hy).1
 ·unfold tagP
  rw [if_neg (nb y hy).2]
  exact h.new (nb y hy).1
theorem ask_k {w:World} {m:Nat} {T:Nat→Nat} {X:Mc} (h:MAt w m T X) (ho:TOk X.d.tab) (x:Ak) {K:TR [.sc (.i .i64),.sc .sl,.sc .sl,.sc (.i .i64)]→Pr}
  (k:∀ sg sd T' H' w',MAt w' m T' { X with d:={ X.d with tH:=H',tab:=(askA x X.d.tab).2 } }→Evo T T' w w'→Imm T' (fun w=>SlC w sg 1 (cU (askA x X.d.tab).1.2.1)) w'→Imm T' (fun w=>SlC w sd 1 (cU (askA x X.d.tab).1.2.2.1)) w' →
   K ((askA x X.d.tab).1.1,sg,sd,(askA x X.d.tab).1.2.2.2,()) w') :
  Cl Pg i_locks_Table_Ask [.pointer (some ⟨X.d.tb,0,none⟩),.int .u64 x.n,.agg #[.string x.lo,.string x.hi,.bool x.wr]] true [.sc (.i .i64),.sc .sl,.sc .sl,.sc (.i .i64)] K w:=by
 refine Cl.mono (Ask_ok h.r.ta.ok ho x) ?_
 rintro ⟨r,sg,sd,e,_⟩ w' ⟨h1,h2,h3⟩
 dsimp only at h1 h2 h3
 obtain ⟨T',H',g1,g2,g3,g4⟩:=left_k h h3
 rw [h1,h2]
 exact k sg sd T' H' w' g1 g2 g3 g4
theorem release_k {w:World} {m:Nat} {T:Nat→Nat} {X:Mc} (h:MAt w m T X) (ho:TOk X.d.tab) (n:Int) (hN:X.d.line.length≤90000) {K:TR []→Pr}
  (k:∀ sl T' H' w',MAt w' m T' { X with d:={ X.d with tH:=H',tab:=(relA n X.d.tab).2,sln:=sl,line:=X.d.line ++ evs true (relA n X.d.tab).1.2 ++ evs false (relA n X.d.tab).1.1 } }→Evo T T' w w'→K () w') :
  Cl Pg i_part_Machine_release [.pointer (some ⟨m,0,none⟩),.int .u64 n] true [] K w:=by
 refine part_Machine_release_call _ _ ?_
 unfold part_Machine_release
 simp only [sb,h.hd,mcC]
 refine Cl.mono (Release_ok h.r.ta.ok ho n) ?_
 rintro ⟨sg,sd,_⟩ w1 h1
 dsimp only at h1
 obtain ⟨T1,H1,g1,g2,g3,g4⟩:=left_k h h1
 have ht:=rel_tell n X.d.tab
 have hf:=ho.few
 refine told_k g1 g3 g4 (by dsimp only;omega) ?_
 intro sl T2 w2 h2 e2
 exact k sl T2 H1 w2 h2 (g2.trans e2)
theorem within_all {m:List Pa} (h:MapOk m):withinM m (BA []) (BA []) (-1)=m:=by
 unfold withinM
 rw [if_pos (by decide)]
 refine List.filter_eq_self.2 fun p hp=>?_
 unfold hasM
 rw [(h.ok p hp).1]
 have e1:okR (BA []) (BA [])=true:=by unfold okR;rw [seq_eq,decide_eq_true rfl];rfl
 have e2:slt p.k (BA [])=false:=by
  cases hs:slt p.k (BA []) with
  | false=>rfl
  | true=>
   have:=slt_asymm hs
   rw [empty_slt] at this
   have hk:=(h.ok p hp).1
   unfold okK at hk
   simp at this
   rw [this] at hk
   simp at hk
 rw [e1,e2,seq_eq]
 rfl
theorem scan_all {w:World} {stb:Nat} {sM:Sl} {M:List Pa} (h:w.heap[stb]?=some (.cells #[.slice sM.p sM.len sM.cap] 27 (0,0))∧RdE paR w sM M) (hN:M.length≤1000000) (lo hi:ByteArray) (most:Int) {K:TR [.sc .sl,.sc (.i .i64)]→Pr}
  (k : ∀ r w', SlE paR w' r (withinM M lo hi most) → (∀ x ∈ blk r, w.heap.size ≤ x) → Keeps [] w w' → K (r, 0, ()) w') : Inv Pg (stV stb) "Scan" [.agg #[.string lo, .string hi], .int .i64 most] true [.sc .sl, .sc (.i .i64)] K w := by
 refine Inv_of (f:=i_sumpterlaw20_Store_Scan) (by kernel_rfl) ?_
 refine sumpterlaw20_Store_Scan_call _ _ _ _ ?_
 unfold sumpterlaw20_Store_Scan
 refine New_bx fun a w1 h1 n1 k1=>?_
 have hs:=k1.at0 h.1
 simp only [sb,h1,hs]
 refine Within_k (h.2.keeps0 k1.drew) (by omega) lo hi most ?_
 intro r w2 h2 f2 k2
 have hl:=h2.len'
 have hwl:(withinM M lo hi most).length≤M.length:=by
  have:=List.length_filter_le (fun p:Pa=>hasM lo hi p.k) M
  unfold withinM
  split
  ·exact this
  ·rw [List.length_take];omega
 refine SlC.app (ρ:=paR) (l:=[]) (new:=withinM M lo hi most) (SlC.nil _ _) h2.rde.rd hl (by rw [zc_Pair];rfl) (by dsimp only;omega) (by dsimp only;omega) ?_
 intro r' w3 h3 k3 f3
 have k3:Keeps [] w2 w3:=k3
 have k02:=kp0 k1.drew k2
 refine k r' w3 h3 (fun x hx=>?_) (kp0 k02 k3)
 rcases f3 x hx with h' | h'
 ·simp [blk] at h'
 ·have:=k02.size;omega
theorem results_k {w:World} {m:Nat} {T:Nat→Nat} {X:Mc} (h:MAt w m T X) (hM:MapOk X.d.M) (hMN:X.d.M.length≤300000) (hw:opsE X.d.writes=0) (hwN:X.d.writes.length≤100000) {so:Sl} {ops:List Op} (hop:RdE opR w so ops) (ho:opsE ops=0) (hoN:ops.length≤100000) {K:TR [.sc .sl]→Pr}
  (k:∀ sr rs w',Keeps [] w w'→Imm T (RsDs sr rs) w'→rs.map Rs.p=(applyM (applyM X.d.M X.d.writes).1 ops).2→K (sr,()) w'):Cl Pg i_part_Machine_results [.pointer (some ⟨m,0,none⟩),.slice so.p so.len so.cap] false [.sc .sl] K w:=by
 refine part_Machine_results_call _ _ ?_
 unfold part_Machine_results
 simp only [sb,h.hd,mcC]
 refine scan_all h.r.sto.ok (by omega) _ _ _ ?_
 intro r1 w1 h1 f1 k1
 rw [within_all hM] at h1
 have g1:=h.keeps0 k1
 simp only [show ((0:Int) != 0)=false from rfl,sb,g1.hd,mcC,add00,Nat.reduceAdd]
 refine Apply_k h1.rde g1.r.wr.ok.rde (by omega) (by omega) ?_ ?_
 ·intro _ _ r2 r3 rs2 w2 h2 h3 h4 h5 h6 h7 k2
  have k02:=kp0 k1 k2
  simp only [show ((0:Int) != 0)=false from rfl,sb]
  obtain ⟨l1,_⟩:=applyM_len X.d.M X.d.writes
  refine Apply_k h2.rde (hop.keeps0 k02) (by omega) (by omega) ?_ ?_
  ·intro _ _ r4 r5 rs5 w3 q2 q3 q4 q5 q6 q7 k3
   have k03:=kp0 k02 k3
   have s02:=k02.size
   refine k r5 rs5 w3 k03 ?_ q4
   have hz:∀ b,w2.heap.size≤b→T b=0:=fun b hb=>h.new (by omega)
   refine ⟨⟨q3.rde,fun y hy=>(q5 y hy).1⟩,fun w4 hs4 hw4=>⟨q3.rde.heap fun b hb=>hw4 b (q3.rde.lt b hb) (hz b (q7 b (q3.rb b hb))),fun y hy=>RdE.heap (q5 y hy).1 fun b hb=>hw4 b (RdE.lt (q5 y hy).1 b hb) (hz b ((q5 y hy).2 b hb).1)⟩⟩
  ·intro e w3 he
   rcases he with he | he
   ·exact absurd (applyM_ok hM hw) he
   ·exact absurd ho he
 ·intro e w2 he
  rcases he with he | he
  ·exact absurd hM he
  ·exact absurd hw he
end Go.Proofs.YthkdehgfdllpoaaGreat
