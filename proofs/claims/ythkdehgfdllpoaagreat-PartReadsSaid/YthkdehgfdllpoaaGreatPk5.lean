/- The parts of the proof, 5: words of the program, and what they do. Conditions: none. -/
import Derived.Test.YthkdehgfdllpoaaGreatPk4
set_option maxRecDepth 100000
set_option linter.unusedVariables false
set_option linter.unusedSimpArgs false
namespace Go.Proofs.YthkdehgfdllpoaaGreat
open Go Go.Sx
structure PW where
 txn:Int
 ops:List Op
 locks:List Lk
 next:Int
deriving DecidableEq
structure PH where
 txn:Int
 ops:List Op
deriving DecidableEq
structure PM where
 kind:Int
 src:Int
 dst:Int
 client:Int
 code:Int
 peer:Int
 req:Int
 boot:Int
 txn:Int
 low:Int
 ver:Int
 epoch:Int
 move:Int
 attempt:Int
 n:Int
 flag:Bool
 rlo:ByteArray
 rhi:ByteArray
 ops:List Op
 results:List Rp
 owners:List Ow
deriving DecidableEq
structure PB where
 move:Int
 n:Int
 lo:ByteArray
 hi:ByteArray
 peer:Int
 closes:Bool
 under:Bool
 all:Bool
 whr:ByteArray
 load:List Op
 row:List Op
structure PS where
 c:Sc
 owners:List Ow
 held:List PH
 fin:List Int
 wait:List PW
 tab:TS
 out:List PM
 writes:List Op
 line:List Ev
 box:Option PB
 M:List Pa
def Wt.p (x:Wt):PW:=⟨x.txn,x.ops,x.locks,x.next⟩
def Hd.p (x:Hd):PH:=⟨x.txn,x.ops⟩
def Mg.p (x:Mg):PM:=⟨x.kind,x.src,x.dst,x.client,x.code,x.peer,x.req,x.boot,x.txn,x.low,x.ver,x.epoch,x.move,x.attempt,x.n,x.flag,x.rlo,x.rhi,x.ops,x.results.map Rs.p,x.owners⟩
def Bx.p (b:Bx):PB:=⟨b.move,b.n,b.lo,b.hi,b.peer,b.closes,b.under,b.all,b.whr,b.load,b.row⟩
def Mc.p (X:Mc):PS:=⟨X.c,X.d.owners,X.d.held.map Hd.p,X.d.fin,X.d.wait.map Wt.p,X.d.tab,X.d.out.map Mg.p,X.d.writes,X.d.line,X.d.bx.map fun _=>X.d.box.p,X.d.M⟩
def PM.zero:PM:=⟨0,0,0,0,0,0,0,0,0,0,0,0,0,0,0,false,BA [],BA [],[],[],[]⟩
namespace PS
def send (P:PS) (x:PM):PS:={ P with out:=P.out ++ [{ x with src:=P.c.id }] }
def vote (P:PS) (txn code:Int) (rs:List Rp):PS:=P.send { PM.zero with kind:=4,txn:=txn,code:=code,results:=rs }
def told (P:PS) (g d:List Int):PS:={ P with line:=P.line ++ evs true d ++ evs false g }
def release (P:PS) (n:Int):PS:=({ P with tab:=(relA n P.tab).2 }).told (relA n P.tab).1.1 (relA n P.tab).1.2
def results (P:PS) (ops:List Op):List Rp:=(applyM (applyM P.M P.writes).1 ops).2
def wat (P:PS) (t:Int):Nat:=bsAt (fun x:PW=>cmpI x.txn t) P.wait
def hat (P:PS) (t:Int):Nat:=bsAt (fun x:PH=>cmpI x.txn t) P.held
def wis (P:PS) (t:Int):Bool:=bsIs (fun x:PW=>cmpI x.txn t) P.wait
def his (P:PS) (t:Int):Bool:=bsIs (fun x:PH=>cmpI x.txn t) P.held
def unwait (P:PS) (i:Nat):PS:={ P with wait:=P.wait.take i ++ P.wait.drop (i + 1) }
def hold (P:PS) (t:Int) (ops:List Op):PS:={ P with held:=P.held.take (P.hat t) ++ ⟨t,ops⟩ :: P.held.drop (P.hat t) }
def ask1 (P:PS) (i:Nat) (x:PW) (lk:Lk):PS:=({ P with tab:=(askA ⟨x.txn,lk.lo,lk.hi,lk.wr⟩ P.tab).2,wait:=P.wait.set i { x with next:=x.next + 1 } }).told (askA ⟨x.txn,lk.lo,lk.hi,lk.wr⟩ P.tab).1.2.1 (askA ⟨x.txn,lk.lo,lk.hi,lk.wr⟩ P.tab).1.2.2.1
def goes:Nat→PS→Int→PS
 | 0,P,_=>P
 | f + 1,P,t=>
  if !P.wis t then P
  else match P.wait[P.wat t]? with
   | none=>P
   | some x=>
    if x.next=x.locks.length then (((P.unwait (P.wat t)).hold t x.ops).vote t 3 (((P.unwait (P.wat t)).hold t x.ops).results x.ops))
    else match x.locks[x.next.toNat]? with
     | none=>P
     | some lk=>
      if (askA ⟨x.txn,lk.lo,lk.hi,lk.wr⟩ P.tab).1.1=2 then P.ask1 (P.wat t) x lk
      else if (askA ⟨x.txn,lk.lo,lk.hi,lk.wr⟩ P.tab).1.1=3 then (((P.ask1 (P.wat t) x lk).unwait (P.wat t)).vote t 5 []).release t
      else goes f (P.ask1 (P.wat t) x lk) t
def rem1 (x:PW):Nat:=x.locks.length - x.next.toNat
def left (P:PS):Nat:=2 * (P.wait.map rem1).sum + P.tab.wait.length + P.line.length + P.wait.length
def event (P:PS) (ev:Ev):PS:=if !ev.dead then P.goes 30 ev.txn else if P.wis ev.txn then (P.unwait (P.wat ev.txn)).vote ev.txn 5 [] else P
def through:Nat→PS→PS
 | 0,P=>P
 | f + 1,P=>match P.line with
  | []=>P
  | ev :: l=>through f (({ P with line:=l }:PS).event ev)
end PS
structure POk (P:PS):Prop where
 wt:P.wait.Pairwise (fun a b=>a.txn < b.txn)
 hd:P.held.Pairwise (fun a b=>a.txn < b.txn)
 dj:∀ x∈P.wait,∀ y∈P.held,x.txn ≠ y.txn
 fn:P.fin.Pairwise (· < ·)
 tb:TOk P.tab
 wv:∀ x∈P.wait,opsE x.ops=0∧x.ops.length≤24∧x.locks=x.ops.map lockO∧0≤x.next∧x.next≤x.locks.length
 hv:∀ x∈P.held,opsE x.ops=0∧x.ops.length≤24
 mp:MapOk P.M
 mn:P.M.length≤200000
 wr:opsE P.writes=0
 wn:P.writes.length≤1000
 er:P.c.e=0
 bd:P.out.length + P.left≤20000
 hn:P.held.length + P.wait.length≤1000
 fl:P.fin.length≤100000
theorem bs_at {α:Type} {f:α→Int} {l:List α} (hs:l.Pairwise (fun a b=>f a < f b)) {t:Int} (h:bsIs (fun x=>cmpI (f x) t) l=true):∃ x,l[bsAt (fun x=>cmpI (f x) t) l]?=some x∧f x=t:=by
 unfold bsIs at h
 split at h
 ·rename_i x hx
  rw [cmpI_eq,decide_eq_true_iff] at h
  exact ⟨x,hx,h⟩
 ·cases h
theorem bs_not {α:Type} {f:α→Int} {l:List α} (hs:l.Pairwise (fun a b=>f a < f b)) {t:Int} (h:bsIs (fun x=>cmpI (f x) t) l=false):∀ x∈l,f x ≠ t:=by
 intro x hx e
 obtain ⟨h1,h2⟩:=bs_split hs t
 obtain ⟨j,hj⟩:=List.getElem?_of_mem hx
 have hjl:=(List.getElem?_eq_some_iff.1 hj).1
 have hle:bsAt (fun x=>cmpI (f x) t) l≤j:=by
  rcases Nat.lt_or_ge j (bsAt (fun x=>cmpI (f x) t) l) with h' | h'
  ·have:=h1 x (List.mem_of_getElem? (by rw [List.getElem?_take,if_pos h',hj]))
   omega
  ·exact h'
 obtain ⟨y,hy⟩:∃ y,l[bsAt (fun x=>cmpI (f x) t) l]?=some y:=⟨_,List.getElem?_eq_getElem (by omega)⟩
 have hy2:=h2 y (List.mem_of_getElem? (i:=0) (by rw [List.getElem?_drop];exact hy))
 unfold bsIs at h
 rw [hy] at h
 dsimp only at h
 rw [cmpI_eq,decide_eq_false_iff_not] at h
 rcases Nat.lt_or_ge (bsAt (fun x=>cmpI (f x) t) l) j with h' | h'
 ·have h3:=List.pairwise_iff_getElem.1 hs _ _ (by omega) hjl h'
  rw [(List.getElem?_eq_some_iff.1 hy).2,(List.getElem?_eq_some_iff.1 hj).2] at h3
  omega
 ·have:j=bsAt (fun x=>cmpI (f x) t) l:=by omega
  rw [← this,hj] at hy
  injection hy with hy
  rw [hy] at e
  exact h e
theorem ins_up {α:Type} {f:α→Int} {l:List α} (hs:l.Pairwise (fun a b=>f a < f b)) {x:α} (hn:∀ y∈l,f y ≠ f x):(l.take (bsAt (fun y=>cmpI (f y) (f x)) l) ++ x :: l.drop (bsAt (fun y=>cmpI (f y) (f x)) l)).Pairwise (fun a b=>f a < f b):=by
 obtain ⟨h1,h2⟩:=bs_split hs (f x)
 rw [List.pairwise_append]
 refine ⟨hs.sublist (List.take_sublist _ _),List.pairwise_cons.2 ⟨fun y hy=>?_,hs.sublist (List.drop_sublist _ _)⟩,fun a ha b hb=>?_⟩
 ·have:=h2 y hy
  have:=hn y (List.mem_of_mem_drop hy)
  omega
 ·have:=h1 a ha
  rcases List.mem_cons.1 hb with rfl | hb
  ·exact this
  ·have:=h2 b hb;omega
theorem take_drop_sub {α:Type} (l:List α) (i:Nat):List.Sublist (l.take i ++ l.drop (i + 1)) l:=by
 rw [← List.eraseIdx_eq_take_drop_succ]
 exact List.eraseIdx_sublist l i
theorem sum_erase (l:List PW) (i:Nat) (x:PW) (hx:l[i]?=some x):(l.map PS.rem1).sum=((l.take i ++ l.drop (i + 1)).map PS.rem1).sum + PS.rem1 x:=by
 have hlt:=(List.getElem?_eq_some_iff.1 hx).1
 conv=>lhs;rw [← List.take_append_drop i l,List.drop_eq_getElem_cons hlt,(List.getElem?_eq_some_iff.1 hx).2]
 simp only [List.map_append,List.sum_append,List.map_cons,List.sum_cons]
 omega
theorem sum_set (l:List PW) (i:Nat) (x y:PW) (hx:l[i]?=some x):((l.set i y).map PS.rem1).sum + PS.rem1 x=(l.map PS.rem1).sum + PS.rem1 y:=by
 have hlt:=(List.getElem?_eq_some_iff.1 hx).1
 rw [sum_erase l i x hx,List.set_eq_take_append_cons_drop,if_pos hlt]
 simp only [List.map_append,List.sum_append,List.map_cons,List.sum_cons]
 omega
theorem len_erase {α:Type} (l:List α) (i:Nat) (hi:i < l.length):(l.take i ++ l.drop (i + 1)).length + 1=l.length:=by
 rw [List.length_append,List.length_take,List.length_drop];omega
theorem evs_len (b:Bool) (l:List Int):(evs b l).length=l.length:=by simp [evs]
theorem POk.unwait {P:PS} (h:POk P) {i:Nat} {x:PW} (hx:P.wait[i]?=some x):POk (P.unwait i)∧(P.unwait i).out.length + (P.unwait i).left + 1≤P.out.length + P.left:=by
 have hi:=(List.getElem?_eq_some_iff.1 hx).1
 have hs:=take_drop_sub P.wait i
 have h1:=sum_erase P.wait i x hx
 have h2:=len_erase P.wait i hi
 have hb:(P.unwait i).out.length + (P.unwait i).left + 1≤P.out.length + P.left:=by
  unfold PS.unwait PS.left
  dsimp only
  omega
 refine ⟨⟨h.wt.sublist hs,h.hd,fun y hy=>h.dj y (hs.subset hy),h.fn,h.tb,fun y hy=>h.wv y (hs.subset hy),h.hv,h.mp,h.mn,h.wr,h.wn,h.er,?_,?_,h.fl⟩,hb⟩
 ·have:=h.bd
  omega
 ·show P.held.length + (P.wait.take i ++ P.wait.drop (i + 1)).length≤1000
  have:=h.hn
  omega
theorem POk.vote {P:PS} (h:POk P) (t code:Int) (rs:List Rp) (hb:P.out.length + 1 + P.left≤20000):POk (P.vote t code rs):=
 ⟨h.wt,h.hd,h.dj,h.fn,h.tb,h.wv,h.hv,h.mp,h.mn,h.wr,h.wn,h.er,by
  show (P.out ++ [_]).length + P.left≤20000
  rw [List.length_append,List.length_singleton]
  exact hb,h.hn,h.fl⟩
theorem POk.release {P:PS} (h:POk P) (t:Int):POk (P.release t)∧(P.release t).out.length + (P.release t).left≤P.out.length + P.left:=by
 have h1:=rel_tell t P.tab
 have hb:(P.release t).out.length + (P.release t).left≤P.out.length + P.left:=by
  unfold PS.release PS.told PS.left
  dsimp only
  rw [List.length_append,List.length_append,evs_len,evs_len]
  omega
 exact ⟨⟨h.wt,h.hd,h.dj,h.fn,relA_ok h.tb,h.wv,h.hv,h.mp,h.mn,h.wr,h.wn,h.er,Nat.le_trans hb h.bd,h.hn,h.fl⟩,hb⟩
theorem POk.hold {P:PS} (h:POk P) {t:Int} {ops:List Op} (ho:opsE ops=0) (hl:ops.length≤24) (hw:∀ x∈P.wait,x.txn ≠ t) (hn:∀ x∈P.held,x.txn ≠ t) (hc:P.held.length + P.wait.length < 1000):POk (P.hold t ops):=by
 have hmem:∀ y,y∈P.held.take (P.hat t) ++ ⟨t,ops⟩ :: P.held.drop (P.hat t)→y=⟨t,ops⟩∨y∈P.held:=by
  intro y hy
  rcases List.mem_append.1 hy with hy | hy
  ·exact .inr (List.mem_of_mem_take hy)
  ·rcases List.mem_cons.1 hy with hy | hy
   ·exact .inl hy
   ·exact .inr (List.mem_of_mem_drop hy)
 refine ⟨h.wt,ins_up (f:=PH.txn) (x:=⟨t,ops⟩) h.hd hn,fun x hx y hy=>?_,h.fn,h.tb,h.wv,fun y hy=>?_,h.mp,h.mn,h.wr,h.wn,h.er,h.bd,?_,h.fl⟩
 ·rcases hmem y hy with rfl | hy
  ·exact hw x hx
  ·exact h.dj x hx y hy
 ·rcases hmem y hy with rfl | hy
  ·exact ⟨ho,hl⟩
  ·exact h.hv y hy
 ·show (P.held.take (P.hat t) ++ ⟨t,ops⟩ :: P.held.drop (P.hat t)).length + P.wait.length≤1000
  rw [List.length_append,List.length_cons,List.length_take,List.length_drop]
  have:P.hat t≤P.held.length:=bsAt_le _ _
  omega
theorem POk.ask1 {P:PS} (h:POk P) {i:Nat} {x:PW} {lk:Lk} (hx:P.wait[i]?=some x) (hlk:x.locks[x.next.toNat]?=some lk):POk (P.ask1 i x lk)∧(P.ask1 i x lk).out.length + (P.ask1 i x lk).left + 1≤P.out.length + P.left:=by
 have hxm:=List.mem_of_getElem? hx
 have hi:=(List.getElem?_eq_some_iff.1 hx).1
 obtain ⟨v1,v2,v3,v4,v5⟩:=h.wv x hxm
 have hlt:=(List.getElem?_eq_some_iff.1 hlk).1
 have h1:=ask_tell ⟨x.txn,lk.lo,lk.hi,lk.wr⟩ P.tab
 have h2:=sum_set P.wait i x { x with next:=x.next + 1 } hx
 have hr:PS.rem1 { x with next:=x.next + 1 } + 1=PS.rem1 x:=by unfold PS.rem1;dsimp only;omega
 have hb:(P.ask1 i x lk).out.length + (P.ask1 i x lk).left + 1≤P.out.length + P.left:=by
  unfold PS.ask1 PS.told PS.left
  dsimp only
  rw [List.length_append,List.length_append,evs_len,evs_len,List.length_set]
  omega
 have hmem:∀ y∈P.wait.set i { x with next:=x.next + 1 },y={ x with next:=x.next + 1 }∨y∈P.wait:=by
  intro y hy
  rcases List.mem_or_eq_of_mem_set hy with hy | hy
  ·exact .inr hy
  ·exact .inl hy
 refine ⟨⟨?_,h.hd,fun y hy=>?_,h.fn,askA_ok h.tb,fun y hy=>?_,h.hv,h.mp,h.mn,h.wr,h.wn,h.er,by have:=h.bd;omega,by show P.held.length + (P.wait.set i _).length≤1000;rw [List.length_set];exact h.hn,h.fl⟩,hb⟩
 ·show (P.wait.set i _).Pairwise _
  have e:(P.wait.set i { x with next:=x.next + 1 }).map PW.txn=P.wait.map PW.txn:=by
   rw [List.map_set]
   apply List.ext_getElem?
   intro j
   by_cases hj:i=j
   ·subst hj
    rw [List.getElem?_set_self (by simpa using hi),List.getElem?_map,hx]
    rfl
   ·rw [List.getElem?_set_ne hj]
  have hp:=List.pairwise_map.2 h.wt
  rw [← e] at hp
  exact List.pairwise_map.1 hp
 ·rcases hmem y hy with rfl | hy
  ·exact h.dj x hxm
  ·exact h.dj y hy
 ·rcases hmem y hy with rfl | hy
  ·exact ⟨v1,v2,v3,by dsimp only;omega,by dsimp only;omega⟩
  ·exact h.wv y hy
theorem wis_at {P:PS} (h:POk P) {t:Int} (hw:P.wis t=true):∃ x,P.wait[P.wat t]?=some x∧x.txn=t:=bs_at (f:=PW.txn) h.wt hw
theorem wis_not {P:PS} (h:POk P) {t:Int} (hw:P.wis t=false):∀ x∈P.wait,x.txn ≠ t:=bs_not (f:=PW.txn) h.wt hw
theorem his_at {P:PS} (h:POk P) {t:Int} (hw:P.his t=true):∃ x,P.held[P.hat t]?=some x∧x.txn=t:=bs_at (f:=PH.txn) h.hd hw
theorem his_not {P:PS} (h:POk P) {t:Int} (hw:P.his t=false):∀ x∈P.held,x.txn ≠ t:=bs_not (f:=PH.txn) h.hd hw
theorem unwait_gone {P:PS} (h:POk P) {i:Nat} {x:PW} (hx:P.wait[i]?=some x):∀ y∈(P.unwait i).wait,y.txn ≠ x.txn:=by
 intro y hy e
 have hi:=(List.getElem?_eq_some_iff.1 hx).1
 rcases List.mem_append.1 hy with hy | hy
 ·obtain ⟨j,hj,rfl⟩:=List.mem_take_iff_getElem.1 hy
  have:=List.pairwise_iff_getElem.1 h.wt j i (by omega) hi (by omega)
  rw [(List.getElem?_eq_some_iff.1 hx).2] at this
  omega
 ·obtain ⟨j,hj⟩:=List.getElem?_of_mem hy
  rw [List.getElem?_drop] at hj
  obtain ⟨h1,h2⟩:=List.getElem?_eq_some_iff.1 hj
  have:=List.pairwise_iff_getElem.1 h.wt i (i + 1 + j) hi h1 (by omega)
  rw [(List.getElem?_eq_some_iff.1 hx).2,h2] at this
  omega
theorem len_unwait {P:PS} {i:Nat} (hi:i < P.wait.length):(P.unwait i).wait.length + 1=P.wait.length:=len_erase _ _ hi
theorem POk.goes:∀ (f:Nat) {P:PS} {t:Int},POk P→POk (P.goes f t)∧(P.goes f t).out.length + (P.goes f t).left≤P.out.length + P.left
 | 0,P,t,h=>⟨h,Nat.le_refl _⟩
 | f + 1,P,t,h=>by
  unfold PS.goes
  cases hw:P.wis t with
  | false=>exact ⟨h,Nat.le_refl _⟩
  | true=>
   obtain ⟨x,hx,hxt⟩:=wis_at h hw
   rw [hx]
   simp only [Bool.not_true,Bool.false_eq_true,if_false]
   obtain ⟨v1,v2,v3,v4,v5⟩:=h.wv x (List.mem_of_getElem? hx)
   have hi:=(List.getElem?_eq_some_iff.1 hx).1
   obtain ⟨u1,u2⟩:=h.unwait hx
   split
   ·have hu:=len_unwait hi
    have hb:=h.bd
    have hn:=h.hn
    have hh:POk ((P.unwait (P.wat t)).hold t x.ops):=u1.hold v1 v2 (fun y hy=>hxt ▸ unwait_gone h hx y hy) (fun y hy e=>h.dj x (List.mem_of_getElem? hx) y hy (hxt.trans e.symm)) (by show P.held.length + _ < _;omega)
    have e1:((P.unwait (P.wat t)).hold t x.ops).left=(P.unwait (P.wat t)).left:=rfl
    have e2:((P.unwait (P.wat t)).hold t x.ops).out=(P.unwait (P.wat t)).out:=rfl
    refine ⟨hh.vote _ _ _ (by rw [e1,e2];omega),?_⟩
    show (((P.unwait (P.wat t)).hold t x.ops).out ++ [_]).length + ((P.unwait (P.wat t)).hold t x.ops).left≤_
    rw [List.length_append,List.length_singleton,e1,e2]
    omega
   ·rename_i hne
    obtain ⟨lk,hlk⟩:∃ lk,x.locks[x.next.toNat]?=some lk:=⟨_,List.getElem?_eq_getElem (by omega)⟩
    rw [hlk]
    dsimp only
    obtain ⟨a1,a2⟩:=h.ask1 hx hlk
    split
    ·exact ⟨a1,by omega⟩
    split
    ·have hx2:(P.ask1 (P.wat t) x lk).wait[P.wat t]?=some { x with next:=x.next + 1 }:=List.getElem?_set_self hi
     obtain ⟨b1,b2⟩:=a1.unwait hx2
     have hb:=h.bd
     obtain ⟨c1,c2⟩:=POk.release (P:=((P.ask1 (P.wat t) x lk).unwait (P.wat t)).vote t 5 []) (b1.vote _ _ _ (by omega)) t
     have e3:(((P.ask1 (P.wat t) x lk).unwait (P.wat t)).vote t 5 []).out.length + (((P.ask1 (P.wat t) x lk).unwait (P.wat t)).vote t 5 []).left=((P.ask1 (P.wat t) x lk).unwait (P.wat t)).out.length + 1 + ((P.ask1 (P.wat t) x lk).unwait (P.wat t)).left:=by
      show (((P.ask1 (P.wat t) x lk).unwait (P.wat t)).out ++ [_]).length + ((P.ask1 (P.wat t) x lk).unwait (P.wat t)).left=_
      rw [List.length_append,List.length_singleton]
     exact ⟨c1,by omega⟩
    ·obtain ⟨c1,c2⟩:=POk.goes f (t:=t) a1
     exact ⟨c1,by omega⟩
theorem POk.pop {P:PS} (h:POk P) {ev:Ev} {l:List Ev} (hl:P.line=ev :: l):POk { P with line:=l }∧({ P with line:=l }:PS).out.length + ({ P with line:=l }:PS).left + 1≤P.out.length + P.left:=by
 have hb:({ P with line:=l }:PS).out.length + ({ P with line:=l }:PS).left + 1≤P.out.length + P.left:=by
  unfold PS.left
  rw [hl,List.length_cons]
  dsimp only
  omega
 exact ⟨⟨h.wt,h.hd,h.dj,h.fn,h.tb,h.wv,h.hv,h.mp,h.mn,h.wr,h.wn,h.er,by have:=h.bd;omega,h.hn,h.fl⟩,hb⟩
theorem through_cons {f:Nat} {P:PS} {ev:Ev} {l:List Ev} (hl:P.line=ev :: l):P.through (f + 1)=(({ P with line:=l }:PS).event ev).through f:=by
 conv=>lhs;unfold PS.through
 rw [hl]
theorem POk.event {P:PS} (h:POk P) (ev:Ev):POk (P.event ev)∧(P.event ev).out.length + (P.event ev).left≤P.out.length + P.left:=by
 unfold PS.event
 split
 ·exact h.goes 30
 ·split
  ·rename_i hw
   obtain ⟨x,hx,_⟩:=wis_at h hw
   obtain ⟨b1,b2⟩:=h.unwait hx
   have hb:=h.bd
   refine ⟨b1.vote _ _ _ (by omega),?_⟩
   show ((P.unwait _).out ++ [_]).length + (P.unwait _).left≤_
   rw [List.length_append,List.length_singleton]
   omega
  ·exact ⟨h,Nat.le_refl _⟩
theorem POk.through:∀ (f:Nat) {P:PS},POk P→POk (P.through f)∧(P.through f).out.length + (P.through f).left≤P.out.length + P.left
 | 0,P,h=>⟨h,Nat.le_refl _⟩
 | f + 1,P,h=>by
  cases hl:P.line with
  | nil=>
   unfold PS.through
   rw [hl]
   exact ⟨h,Nat.le_refl _⟩
  | cons ev l=>
   rw [through_cons hl]
   obtain ⟨h1,b1⟩:=h.pop hl
   obtain ⟨h2,b2⟩:=h1.event ev
   obtain ⟨h3,b3⟩:=POk.through f h2
   exact ⟨h3,by omega⟩
theorem through_end:∀ (f:Nat) {P:PS},POk P→P.out.length + P.left < f→(P.through f).line=[]
 | 0,P,h,hf=>by omega
 | f + 1,P,h,hf=>by
  cases hl:P.line with
  | nil=>
   unfold PS.through
   rw [hl]
   exact hl
  | cons ev l=>
   rw [through_cons hl]
   obtain ⟨h1,b1⟩:=h.pop hl
   obtain ⟨h2,b2⟩:=h1.event ev
   exact through_end f h2 (by omega)
end Go.Proofs.YthkdehgfdllpoaaGreat
set_option linter.unusedVariables false
set_option linter.unusedSimpArgs false
namespace Go.Proofs.YthkdehgfdllpoaaGreat
open Go Go.Sx
theorem bsAt_map {α β:Type} (f:α→β) (c:β→Int) (l:List α):bsAt c (l.map f)=bsAt (fun x=>c (f x)) l:=by
 induction l with
 | nil=>rfl
 | cons a l ih=>
  unfold bsAt at *
  simp only [List.map_cons,List.takeWhile_cons]
  split <;> simp_all
theorem bsIs_map {α β:Type} (f:α→β) (c:β→Int) (l:List α):bsIs c (l.map f)=bsIs (fun x=>c (f x)) l:=by
 unfold bsIs
 rw [bsAt_map,List.getElem?_map]
 cases l[bsAt (fun x=>c (f x)) l]? <;> rfl
theorem wat_eq (X:Mc) (t:Int):X.p.wat t=bsAt (fun x:Wt=>cmpI x.txn t) X.d.wait:=bsAt_map Wt.p (fun x:PW=>cmpI x.txn t) X.d.wait
theorem wis_eq (X:Mc) (t:Int):X.p.wis t=bsIs (fun x:Wt=>cmpI x.txn t) X.d.wait:=bsIs_map Wt.p (fun x:PW=>cmpI x.txn t) X.d.wait
theorem hat_eq (X:Mc) (t:Int):X.p.hat t=bsAt (fun x:Hd=>cmpI x.txn t) X.d.held:=bsAt_map Hd.p (fun x:PH=>cmpI x.txn t) X.d.held
theorem his_eq (X:Mc) (t:Int):X.p.his t=bsIs (fun x:Hd=>cmpI x.txn t) X.d.held:=bsIs_map Hd.p (fun x:PH=>cmpI x.txn t) X.d.held
theorem POk.wtX {X:Mc} (h:POk X.p):X.d.wait.Pairwise (fun a b=>a.txn < b.txn):=(List.pairwise_map (f:=Wt.p)).1 h.wt
theorem POk.hdX {X:Mc} (h:POk X.p):X.d.held.Pairwise (fun a b=>a.txn < b.txn):=(List.pairwise_map (f:=Hd.p)).1 h.hd
theorem POk.lenX {X:Mc} (h:POk X.p):X.d.held.length + X.d.wait.length≤1000:=by
 have:=h.hn
 simpa [Mc.p] using this
theorem POk.outX {X:Mc} (h:POk X.p):X.d.out.length≤20000:=by
 have:=h.bd
 simp only [Mc.p,List.length_map] at this
 omega
theorem POk.lineX {X:Mc} (h:POk X.p):X.d.line.length≤20000:=by
 have:=h.bd
 simp only [Mc.p,PS.left,List.length_map] at this
 omega
theorem mem_set_ne {α:Type} {l:List α} {i:Nat} {y z:α} (h:y∈l.set i z):y=z∨∃ j,j ≠ i∧l[j]?=some y:=by
 obtain ⟨j,hj⟩:=List.getElem?_of_mem h
 by_cases hji:i=j
 ·subst hji
  have hl:=(List.getElem?_eq_some_iff.1 hj).1
  rw [List.length_set] at hl
  rw [List.getElem?_set_self hl] at hj
  injection hj with hj
  exact .inl hj.symm
 ·rw [List.getElem?_set_ne hji] at hj
  exact .inr ⟨j,Ne.symm hji,hj⟩
theorem wt_ne {l:List PW} (hs:l.Pairwise (fun a b=>a.txn < b.txn)) {i j:Nat} {x y:PW} (hx:l[i]?=some x) (hy:l[j]?=some y) (h:i ≠ j):x.txn ≠ y.txn:=by
 obtain ⟨h1,e1⟩:=List.getElem?_eq_some_iff.1 hx
 obtain ⟨h2,e2⟩:=List.getElem?_eq_some_iff.1 hy
 rcases Nat.lt_or_gt_of_ne h with h' | h'
 ·have:=List.pairwise_iff_getElem.1 hs i j h1 h2 h'
  rw [e1,e2] at this
  omega
 ·have:=List.pairwise_iff_getElem.1 hs j i h2 h1 h'
  rw [e1,e2] at this
  omega
structure Fix (X X':Mc):Prop where
 stb:X'.d.stb=X.d.stb
 sM:X'.d.sM=X.d.sM
 bx:X'.d.bx=X.d.bx
 box:X'.d.box=X.d.box
theorem Fix.refl (X:Mc):Fix X X:=⟨rfl,rfl,rfl,rfl⟩
theorem Fix.trans {X Y Z:Mc} (h:Fix X Y) (k:Fix Y Z):Fix X Z:=⟨k.stb.trans h.stb,k.sM.trans h.sM,k.bx.trans h.bx,k.box.trans h.box⟩
theorem MAt.uWa0 {w w':World} {m:Nat} {T:Nat→Nat} {X:Mc} (h:MAt w m T X) {l:List Wt} (hk:Keeps (blk X.d.sw) w w') (hr:SlE wtR w' X.d.sw l) (hD:∀ x∈l,Imm (tagL 4 X.d.sw T) (WtD x) w') :
  MAt w' m (tagL 4 X.d.sw T) { X with d:={ X.d with wait:=l } }∧Evo T (tagL 4 X.d.sw T) w w':=by
 have s:Stp 4 T (tagL 4 X.d.sw T) w w':=Stp.row hk (fun b hb=>(h.r.wa.tag b hb).2) (fun b hb=>.inl hb)
 refine ⟨⟨hk.at h.hd (fun hm=>by have:=(h.r.wa.tag m hm).2;have:=h.t1;omega),tagL_m h.lt h.t1 (by decide) (fun b hb=>(h.r.wa.tag b hb).2) (fun b hb=>.inl hb),?_⟩,s.evo (by decide)⟩
 exact h.r.uWa hk hr (fun b hb=>.inl hb) hD
theorem unwait_k {w:World} {m:Nat} {T:Nat→Nat} {X:Mc} (h:MAt w m T X) (hN:X.d.wait.length≤100000) {i:Nat} (hi:i < X.d.wait.length) {y:Int} (hy:y=i) {J:Pr}
  (k:∀ r T' w',MAt w' m T' { X with d:={ X.d with sw:=r,wait:=X.d.wait.take i ++ X.d.wait.drop (i + 1) } }→Evo T T' w w'→J w') :
  (Cl Pg i_slices_Delete_wait [.slice X.d.sw.p X.d.sw.len X.d.sw.cap,.int .i64 y,.int .i64 (w64 (y + 1))] false [.sc .sl] fun r=>St ⟨m,17,none⟩ (.slice r.1.p r.1.len r.1.cap) J) w:=by
 subst hy
 refine Delete_wait_k h.r.wa.ok (Nat.le_succ i) hi (by omega) rfl (w64p (by omega)) ?_
 intro r w1 h1 f1 k1
 have s:Stp 4 T (tagL 4 r T) w w1:=Stp.row k1 (fun b hb=>(h.r.wa.tag b hb).2) (fun b hb=>.inl (f1 b hb))
 refine h.uWa k1 h1 (fun b hb=>.inl (f1 b hb)) (fun x hx=>(h.r.waD x ((take_drop_sub _ _).subset hx)).kt (by decide) s) fun w2 h2 e2=>?_
 exact k r _ w2 h2 e2
theorem Ix_add {s:Sl} {b o:Nat} (hp:s.p=some ⟨b,o,none⟩) {i:Nat} (h:i < s.len) (size:Nat) {K:Addr→Pr} {w:World} (k:K ⟨b,o + i * size,none⟩ w):Ix s (i:Int) size K w:=by
 rw [Ix_base hp (by omega) (by omega),Int.toNat_natCast]
 exact k
theorem goes_k {w:World} {m:Nat} {T:Nat→Nat} {X:Mc} (h:MAt w m T X) (hp:POk X.p) (t:Int) {K:TR []→Pr}
  (k:∀ X' T' w',MAt w' m T' X'→X'.p=X.p.goes 30 t→Fix X X'→Evo T T' w w'→K () w'):Cl Pg i_part_Machine_goes [.pointer (some ⟨m,0,none⟩),.int .u64 t] true [] K w:=by
 refine part_Machine_goes_call _ _ ?_
 unfold part_Machine_goes
 refine ⟨fun n st w'=>∃ X1 T1,MAt w' m T1 X1∧POk X1.p∧X1.p.goes n t=X.p.goes 30 t∧(∀ x∈X1.p.wait,x.txn=t→PS.rem1 x < n)∧Fix X X1∧Evo T T1 w w',⟨30,X,T,h,hp,rfl,fun x hx _=>?_,Fix.refl _,Evo.refl _ _⟩,?_⟩
 ·obtain ⟨_,v2,v3,_,_⟩:=hp.wv x hx
  unfold PS.rem1
  rw [v3,List.length_map]
  omega
 rintro n _ w1 ⟨X1,T1,h1,p1,eq1,hn,x1,e1⟩
 simp only [sb,h1.hd,mcC,p1.er]
 have er:X1.c.e=0:=p1.er
 rw [er]
 simp only [show ((0:Int) == 0)=true from rfl,sb]
 have lx:=p1.lenX
 refine waiting_k h1 p1.wtX (by omega) t fun w2 k2=>?_
 have g2:=h1.keeps0 k2
 have e2:=e1.trans (Evo.k0 k2)
 rw [← wat_eq,← wis_eq]
 dsimp only
 cases hw:X1.p.wis t with
 | false=>
  refine k X1 T1 w2 g2 ?_ x1 e2
  rw [← eq1]
  cases n with
  | zero=>rfl
  | succ n=>unfold PS.goes;rw [hw];rfl
 | true=>
 obtain ⟨xp,hxp,hxt⟩:=wis_at p1 hw
 generalize hi:X1.p.wat t=i at *
 have hxp':(X1.d.wait.map Wt.p)[i]?=some xp:=hxp
 rw [List.getElem?_map,Option.map_eq_some_iff] at hxp'
 obtain ⟨x,hx,rfl⟩:=hxp'
 have hlt:=(List.getElem?_eq_some_iff.1 hx).1
 have hxm:=List.mem_of_getElem? hx
 obtain ⟨v1,v2,v3,v4,v5⟩:=p1.wv x.p (List.mem_map.2 ⟨x,hxm,rfl⟩)
 have hnx:=hn x.p (List.mem_map.2 ⟨x,hxm,rfl⟩) hxt
 obtain ⟨f,rfl⟩:∃ f,n=f + 1:=⟨n - 1,by omega⟩
 have hxt:x.txn=t:=hxt
 have v1:opsE x.ops=0:=v1
 have v2:x.ops.length≤24:=v2
 have v3:x.locks=x.ops.map lockO:=v3
 have v4:0≤x.next:=v4
 have v5:x.next≤x.locks.length:=v5
 have hnx:x.locks.length - x.next.toNat < f + 1:=hnx
 have hgo:X1.p.goes (f + 1) t=if x.next=x.locks.length then (((X1.p.unwait i).hold t x.ops).vote t 3 (((X1.p.unwait i).hold t x.ops).results x.ops))
   else match x.locks[x.next.toNat]? with
    | none=>X1.p
    | some lk=>
     if (askA ⟨x.txn,lk.lo,lk.hi,lk.wr⟩ X1.p.tab).1.1=2 then X1.p.ask1 i x.p lk
     else if (askA ⟨x.txn,lk.lo,lk.hi,lk.wr⟩ X1.p.tab).1.1=3 then (((X1.p.ask1 i x.p lk).unwait i).vote t 5 []).release t
     else (X1.p.ask1 i x.p lk).goes f t:=by
  conv=>lhs;unfold PS.goes
  rw [hw,hi,hxp]
  rfl
 rw [hgo] at eq1
 have hwl:=g2.r.wa.ok.len'
 obtain ⟨b,o,hpp,hbb⟩:=g2.r.wa.ok.base (by omega)
 have hd2:=(g2.r.waD x hxm).ok
 have hsk:x.sk.len=x.locks.length:=hd2.2.len
 simp only [Bool.not_true,sb,g2.hd,mcC]
 refine Ix_add hpp (by omega) 4 ?_
 have it:=fun j hj=>SlC.item wtR.len g2.r.wa.ok hpp hx j hj
 simp only [sb,add00]
 have i1:cellO w2.heap[b]? (o + i * 4 + 1)=some (.slice x.so.p x.so.len x.so.cap):=it 1 (by decide)
 have i2:cellO w2.heap[b]? (o + i * 4 + 2)=some (.slice x.sk.p x.sk.len x.sk.cap):=it 2 (by decide)
 have i3:cellO w2.heap[b]? (o + i * 4 + 3)=some (.int .i64 x.next):=it 3 (by decide)
 rw [i3]
 simp only [sb]
 rw [i2]
 simp only [sb]
 rw [hsk]
 by_cases hend:x.next=x.locks.length
 ·rw [if_pos hend] at eq1
  rw [show (x.next == ((x.locks.length:Nat):Int))=true from by simpa using hend]
  simp only [sb]
  rw [i1]
  have g2d:=g2.keeps0 (drewK w2)
  simp only [sb,g2.hd,mcC]
  refine unwait_k g2d (by omega) hlt rfl ?_
  intro r3 T3 w3 h3 e3
  obtain ⟨X3,hX3⟩:∃ X3:Mc,X3={ X1 with d:={ X1.d with sw:=r3,wait:=X1.d.wait.take i ++ X1.d.wait.drop (i + 1) } }:=⟨_,rfl⟩
  rw [← hX3] at h3
  have q3:X3.p=X1.p.unwait i:=by rw [hX3];unfold Mc.p PS.unwait;dsimp only;rw [List.map_append,List.map_take,List.map_drop]
  obtain ⟨p3,b3⟩:=p1.unwait hxp
  have hu3:=unwait_gone p1 hxp
  rw [← q3] at p3 hu3 b3
  have l3:=p3.lenX
  refine held_k h3 p3.hdX (by omega) t fun w4 k4=>?_
  rw [← hat_eq]
  have g4:=h3.keeps0 k4
  simp only [sb,g4.hd,mcC,add00,Nat.reduceAdd]
  refine New_bx fun c w5 h5 n5 k5=>?_
  have g5:=g4.keeps0 k5
  have hcn:c ∉ blk X3.d.sh:=fun hc=>by have:=(g4.r.he.tag c hc).1;omega
  have hle:X3.p.hat t≤X3.d.held.length:=by rw [hat_eq];exact bsAt_le _ _
  refine Insert_Hold_k (x:=⟨t,x.so,x.ops⟩) g5.r.he.ok h5 hcn hle (by omega) ?_
  intro r6 w6 h6 f6 k6
  have s6:Stp 2 T3 (tagL 2 r6 T3) w5 w6:=Stp.row k6 (fun b hb=>(g5.r.he.tag b hb).2) f6
  have e5:Evo T1 T3 w2 w5:=((Evo.k0 (drewK w2)).trans e3).trans (Evo.k0 (kp0 k4 k5))
  have io5:Imm T3 (fun w=>RdE opR w x.so x.ops) w5:=((g2.r.waD x hxm).map fun _ h=>h.1).evo e5
  simp only [sb,add00,Nat.reduceAdd]
  refine g5.uHe k6 h6 f6 (fun y hy=>?_) fun w7 h7 e7=>?_
  ·rcases List.mem_append.1 hy with hy | hy
   ·exact (g5.r.heD y (List.mem_of_mem_take hy)).kt (by decide) s6
   ·rcases List.mem_cons.1 hy with rfl | hy
    ·exact io5.kt (by decide) s6
    ·exact (g5.r.heD y (List.mem_of_mem_drop hy)).kt (by decide) s6
  obtain ⟨X7,hX7⟩:∃ X7:Mc,X7={ X3 with d:={ X3.d with sh:=r6,held:=X3.d.held.take (X3.p.hat t) ++ ⟨t,x.so,x.ops⟩ :: X3.d.held.drop (X3.p.hat t) } }:=⟨_,rfl⟩
  rw [← hX7] at h7
  have q7:X7.p=X3.p.hold t x.ops:=by
   rw [hX7]
   unfold PS.hold
   show Mc.p _=_
   unfold Mc.p
   dsimp only
   rw [List.map_append,List.map_cons,List.map_take,List.map_drop]
   rfl
  have hdj:∀ y∈X3.p.held,y.txn ≠ t:=by
   intro y hy e
   have:y∈X1.p.held:=by rw [q3] at hy;exact hy
   exact p1.dj x.p (List.mem_map.2 ⟨x,hxm,rfl⟩) y this (hxt.trans e.symm)
  have hlu:=len_unwait (P:=X1.p) (i:=i) (by rw [show X1.p.wait=X1.d.wait.map Wt.p from rfl,List.length_map];exact hlt)
  rw [← q3] at hlu
  have hhn:=p1.hn
  have p7:POk X7.p:=by
   rw [q7]
   refine p3.hold v1 v2 (fun y hy=>hxt ▸ hu3 y hy) hdj ?_
   have:X3.p.held=X1.p.held:=by rw [q3];rfl
   rw [this]
   omega
  have io7:=(io5.evo e7).ok
  have M7:X7.d.M=X7.p.M:=rfl
  refine results_k h7 p7.mp (Nat.le_trans p7.mn (by omega)) p7.wr (Nat.le_trans p7.wn (by omega)) io7 v1 (by omega) ?_
  intro sr rs w8 k8 ir8 hrs
  have g8:=h7.keeps0 k8
  have o7:=p7.outX
  refine vote_k g8 t 3 sr rs ir8 (by omega) ?_
  intro so' T9 w9 h9 e9
  have efin:X3.p.out.length + X3.p.left + 1≤X1.p.out.length + X1.p.left:=b3
  refine k _ T9 w9 h9 ?_ ?_ ((((e1.trans (Evo.k0 k2)).trans e5).trans e7).trans ((Evo.k0 k8).trans e9))
  ·rw [← eq1,← q3,← q7]
   show Mc.p _=X7.p.vote t 3 (X7.p.results x.ops)
   unfold PS.vote PS.send PS.results
   rw [show (applyM (applyM X7.p.M X7.p.writes).1 x.ops).2=rs.map Rs.p from hrs.symm]
   unfold Mc.p
   dsimp only
   rw [List.map_append]
   rfl
  ·exact x1.trans (by rw [hX7,hX3];exact ⟨rfl,rfl,rfl,rfl⟩)
 ·rw [if_neg hend] at eq1
  rw [show (x.next == ((x.locks.length:Nat):Int))=false from by simpa using hend]
  obtain ⟨lk,hlk⟩:∃ lk,x.locks[x.next.toNat]?=some lk:=⟨_,List.getElem?_eq_getElem (by omega)⟩
  rw [hlk] at eq1
  dsimp only at eq1
  have kdd:Keeps [] w2 w2.drew.drew:=kp0 (drewK w2) (drewK _)
  have g2d:=g2.keeps0 kdd
  simp only [sb,g2.hd,mcC]
  rw [i2]
  simp only [sb]
  rw [i3]
  simp only [sb]
  have hnn:x.next=((x.next.toNat:Nat):Int):=by omega
  have hlkd:RdE lkR w2.drew.drew x.sk x.locks:=hd2.2.keeps0 kdd
  rw [hnn]
  refine ld_Lock hlkd hlk ?_
  have ho1:TOk X1.d.tab:=p1.tb
  rw [← hxt]
  refine ask_k g2d ho1 ⟨x.txn,lk.lo,lk.hi,lk.wr⟩ ?_
  intro sg sd T3 H3 w3 h3 e3 ig id
  have hq3:SlE wtR w3 X1.d.sw X1.d.wait:=h3.r.wa.ok
  have i3':cellO w3.heap[b]? (o + i * 4 + 3)=some (.int .i64 x.next):=SlC.item wtR.len hq3 hpp hx 3 (by decide)
  simp only [sb]
  rw [i3']
  simp only [sb]
  have hfl:(X1.d.wait.flatMap wtR.c).length=X1.d.wait.length * 4:=flat_length wtR.len _
  have hmul:(i + 1) * 4≤X1.d.wait.length * 4:=Nat.mul_le_mul_right _ hlt
  refine hq3.write' hpp (i * 4 + 3) (by omega) (by omega) rfl ?_
  intro w4 h4 k4
  have hll:x.locks.length≤24:=by rw [v3,List.length_map];exact v2
  have hnw:w64 (x.next + 1)=x.next + 1:=by rw [w64_in (by omega) (by omega)]
  have h4':SlE wtR w4 X1.d.sw (X1.d.wait.set i { x with next:=x.next + 1 }):=by
   have:=flat_set1 (size:=4) wtR.len X1.d.wait i 3 x { x with next:=x.next + 1 } (.int .i64 (w64 (x.next + 1))) hx (by decide) (by rw [hnw];rfl)
   show SlC _ _ _ _
   rw [← this]
   exact h4
  have k4':Keeps (blk X1.d.sw) w3 w4:=by rw [hbb];exact k4
  have s4:Stp 4 T3 (tagL 4 X1.d.sw T3) w3 w4:=Stp.row k4' (fun b hb=>(h3.r.wa.tag b hb).2) (fun b hb=>.inl hb)
  obtain ⟨h5,e5⟩:=h3.uWa0 k4' h4' (fun y hy=>by
   rcases List.mem_or_eq_of_mem_set hy with hy | rfl
   ·exact (h3.r.waD y hy).kt (by decide) s4
   ·exact (h3.r.waD x hxm).kt (by decide) s4)
  have lx1:=p1.lineX
  have ht:=ask_tell ⟨x.txn,lk.lo,lk.hi,lk.wr⟩ X1.d.tab
  have hf:=ho1.few
  refine told_k h5 (ig.evo e5) (id.evo e5) (by show X1.d.line.length + _ + _≤_;omega) ?_
  intro sl T6 w6 h6 e6
  obtain ⟨X6,hX6⟩:∃ X6:Mc,X6={ X1 with d:={ X1.d with tH:=H3,tab:=(askA ⟨x.txn,lk.lo,lk.hi,lk.wr⟩ X1.d.tab).2,wait:=X1.d.wait.set i { x with next:=x.next + 1 },sln:=sl,line:=X1.d.line ++ evs true (askA ⟨x.txn,lk.lo,lk.hi,lk.wr⟩ X1.d.tab).1.2.2.1 ++ evs false (askA ⟨x.txn,lk.lo,lk.hi,lk.wr⟩ X1.d.tab).1.2.1 } }:=⟨_,rfl⟩
  have h6:MAt w6 m T6 X6:=by rw [hX6];exact h6
  have q6:X6.p=X1.p.ask1 i x.p lk:=by
   rw [hX6]
   unfold PS.ask1 PS.told Mc.p
   dsimp only
   rw [List.map_set]
   rfl
  have f6:Fix X1 X6:=by rw [hX6];exact ⟨rfl,rfl,rfl,rfl⟩
  have ev6:Evo T T6 w w6:=((((e2.trans (Evo.k0 kdd)).trans e3).trans e5).trans e6)
  obtain ⟨p6,b6⟩:=p1.ask1 hxp hlk
  rw [← q6] at p6 b6
  rw [← q6] at eq1
  have htab:(askA ⟨x.txn,lk.lo,lk.hi,lk.wr⟩ X1.p.tab).1.1=(askA ⟨x.txn,lk.lo,lk.hi,lk.wr⟩ X1.d.tab).1.1:=rfl
  rw [htab] at eq1
  by_cases hs2:(askA ⟨x.txn,lk.lo,lk.hi,lk.wr⟩ X1.d.tab).1.1=2
  ·rw [if_pos hs2] at eq1
   rw [show ((askA ⟨x.txn,lk.lo,lk.hi,lk.wr⟩ X1.d.tab).1.1 == 2)=true from by simpa using hs2]
   simp only [sb]
   exact k X6 T6 w6 h6 eq1 (x1.trans f6) ev6
  rw [if_neg hs2] at eq1
  rw [show ((askA ⟨x.txn,lk.lo,lk.hi,lk.wr⟩ X1.d.tab).1.1 == 2)=false from by simpa using hs2]
  simp only [sb]
  by_cases hs3:(askA ⟨x.txn,lk.lo,lk.hi,lk.wr⟩ X1.d.tab).1.1=3
  ·rw [if_pos hs3] at eq1
   rw [show ((askA ⟨x.txn,lk.lo,lk.hi,lk.wr⟩ X1.d.tab).1.1 == 3)=true from by simpa using hs3]
   have hl6:X6.d.wait.length=X1.d.wait.length:=by rw [hX6];simp
   simp only [sb,h6.hd,mcC]
   refine unwait_k h6 (by omega) (i:=i) (by omega) rfl ?_
   intro r7 T7 w7 h7 e7
   have hx6:X6.p.wait[i]?=some { x.p with next:=x.next + 1 }:=by
    rw [q6]
    exact List.getElem?_set_self (by rw [show X1.p.wait=X1.d.wait.map Wt.p from rfl,List.length_map];exact hlt)
   obtain ⟨p7,b7⟩:=p6.unwait hx6
   have q7:({ X6 with d:={ X6.d with sw:=r7,wait:=X6.d.wait.take i ++ X6.d.wait.drop (i + 1) } }:Mc).p=X6.p.unwait i:=by unfold Mc.p PS.unwait;dsimp only;rw [List.map_append,List.map_take,List.map_drop]
   have o6:=p6.outX
   refine vote_k h7 x.txn 5 ⟨none,0,0⟩ [] (Imm.triv fun w=>⟨RdE.nil w,by simp⟩) (by show X6.d.out.length≤_;omega) ?_
   intro so8 T8 w8 h8 e8
   refine release_k h8 (by exact p6.tb) x.txn (by have:=p6.lineX;show X6.d.line.length≤_;omega) ?_
   intro sl9 T9 H9 w9 h9 e9
   refine k _ T9 w9 h9 ?_ ?_ (((ev6.trans e7).trans e8).trans e9)
   ·rw [← eq1,← q7,← hxt]
    unfold PS.release PS.vote PS.send PS.told Mc.p
    dsimp only
    simp only [List.map_append]
    rfl
   ·exact (x1.trans f6).trans ⟨rfl,rfl,rfl,rfl⟩
  ·rw [if_neg hs3] at eq1
   rw [show ((askA ⟨x.txn,lk.lo,lk.hi,lk.wr⟩ X1.d.tab).1.1 == 3)=false from by simpa using hs3]
   simp only [sb]
   refine ⟨f,by omega,X6,T6,h6,p6,by rw [hxt];exact eq1,fun y hy hyt=>?_,x1.trans f6,ev6⟩
   rw [q6] at hy
   rcases mem_set_ne hy with rfl | ⟨j,hji,hj⟩
   rotate_left
   ·exact absurd hyt (wt_ne p1.wt hj hxp hji)
   ·show x.locks.length - (x.next + 1).toNat < f
    omega
def fuelT:Nat:=20001
theorem through_k {w:World} {m:Nat} {T:Nat→Nat} {X:Mc} (h:MAt w m T X) (hp:POk X.p) {K:TR []→Pr}
  (k:∀ X' T' w',MAt w' m T' X'→X'.p=X.p.through fuelT→Fix X X'→Evo T T' w w'→K () w'):Cl Pg i_part_Machine_through [.pointer (some ⟨m,0,none⟩)] true [] K w:=by
 refine part_Machine_through_call _ ?_
 unfold part_Machine_through
 refine ⟨fun n st w'=>∃ X1 T1,MAt w' m T1 X1∧POk X1.p∧X1.p.through n=X.p.through fuelT∧X1.p.out.length + X1.p.left < n∧Fix X X1∧Evo T T1 w w',⟨fuelT,X,T,h,hp,rfl,by have:=hp.bd;unfold fuelT;omega,Fix.refl _,Evo.refl _ _⟩,?_⟩
 rintro n _ w1 ⟨X1,T1,h1,p1,eq1,hn,x1,e1⟩
 obtain ⟨f,rfl⟩:∃ f,n=f + 1:=⟨n - 1,by omega⟩
 have hll:=h1.r.li.ok.len'
 have lx:=p1.lenX
 simp only [sb,h1.hd,mcC]
 cases hl:X1.d.line with
 | nil=>
  rw [hl] at hll
  have hln:X1.p.line=[]:=hl
  rw [show X1.d.sln.len=0 from hll,decide_eq_false (by decide)]
  simp only [sb]
  have hnil:SlE evR w1 ⟨none,0,0⟩ []:=SlC.nil _ _
  refine h1.uLi (r:=⟨none,0,0⟩) (l:=[]) (Keeps.refl _ _) hnil (by simp [blk]) fun w2 h2 e2=>?_
  refine k _ _ w2 h2 ?_ (x1.trans ⟨rfl,rfl,rfl,rfl⟩) (e1.trans e2)
  rw [← eq1]
  unfold PS.through
  rw [hln]
  show Mc.p _=X1.p
  unfold Mc.p
  dsimp only
  rw [hl]
 | cons ev l=>
  have hln:X1.p.line=ev :: l:=hl
  rw [through_cons hln] at eq1
  obtain ⟨p2,b2⟩:=p1.pop hln
  rw [hl,List.length_cons] at hll
  rw [decide_eq_true (by omega)]
  have h0:X1.d.line[0]?=some ev:=by rw [hl];rfl
  simp only [sb,h1.hd,mcC]
  refine ld_event h1.r.li.ok.rde (i:=0) h0 ?_
  refine bx2 rfl rfl rfl fun a w2 h2 n2 k2=>?_
  have g2:=h1.keeps0 k2
  simp only [sb,g2.hd,mcC]
  refine ⟨⟨by decide,by omega⟩,?_⟩
  have hcut:SlE evR w2 ⟨slOff X1.d.sln.p X1.d.sln.cap 1 2,X1.d.sln.len - 1,X1.d.sln.cap - 1⟩ l:=by
   have:=g2.r.li.ok.sub (lo:=1) (hi:=X1.d.sln.len) (by omega) (Nat.le_refl _)
   have e:((X1.d.line.flatMap evR.c).drop (1 * evR.n)).take ((X1.d.sln.len - 1) * evR.n)=l.flatMap evR.c:=by
    rw [flat_drop evR.len,hl,List.drop_succ_cons,List.drop_zero,List.take_of_length_le]
    rw [flat_length evR.len]
    exact Nat.mul_le_mul_right _ (by omega)
   rw [e] at this
   exact this
  refine g2.uLi (r:=⟨slOff X1.d.sln.p X1.d.sln.cap 1 2,X1.d.sln.len - 1,X1.d.sln.cap - 1⟩) (l:=l) (Keeps.refl _ _) hcut (fun b hb=>.inl (blk_slOff _ _ _ _ _ (Nat.sub_le _ _) b hb)) fun w3 h3 e3=>?_
  have T2a:T1 a=0:=h1.new n2
  obtain ⟨ha,Ta⟩:=e3.at h2 T2a
  have e03:Evo T _ w w3:=(e1.trans (Evo.k0 k2)).trans e3
  generalize tagL 8 _ T1=T3 at *
  obtain ⟨X3,hX3⟩:∃ X3:Mc,X3={ X1 with d:={ X1.d with sln:=⟨slOff X1.d.sln.p X1.d.sln.cap 1 2,X1.d.sln.len - 1,X1.d.sln.cap - 1⟩,line:=l } }:=⟨_,rfl⟩
  rw [← hX3] at h3
  have q3:X3.p={ X1.p with line:=l }:=by rw [hX3];rfl
  have x3:Fix X1 X3:=by rw [hX3];exact ⟨rfl,rfl,rfl,rfl⟩
  rw [← q3] at p2 b2 eq1
  have back:∀ (X5:Mc) (T5:Nat→Nat) (w5:World),MAt w5 m T5 X5→X5.p=X3.p.event ev→Fix X3 X5→Evo T3 T5 w3 w5→∃ m' ,m' < f + 1∧∃ X1 T1,MAt w5 m T1 X1∧POk X1.p∧X1.p.through m'=X.p.through fuelT∧X1.p.out.length + X1.p.left < m'∧Fix X X1∧Evo T T1 w w5:=by
   intro X5 T5 w5 h5 q5 x5 e5
   obtain ⟨p5,b5⟩:=p2.event ev
   rw [← q5] at p5 b5 eq1
   exact ⟨f,by omega,X5,T5,h5,p5,eq1,by omega,(x1.trans x3).trans x5,e03.trans e5⟩
  simp only [sb,ha]
  cases hdead:ev.dead with
  | false=>
   simp only [Bool.not_false,sb,ha]
   refine goes_k h3 p2 ev.txn fun X5 T5 w5 h5 q5 x5 e5=>?_
   refine back X5 T5 w5 h5 ?_ x5 e5
   rw [q5]
   unfold PS.event
   rw [hdead]
   rfl
  | true=>
   simp only [Bool.not_true,sb,ha]
   have hlx:X3.d.wait.length=X1.d.wait.length:=by rw [hX3]
   refine waiting_k h3 p2.wtX (by omega) ev.txn fun w4 k4=>?_
   have g4:=h3.keeps0 k4
   have ha:=k4.at0 ha
   rw [← wat_eq,← wis_eq]
   dsimp only
   cases hw:X3.p.wis ev.txn with
   | false=>
    refine back X3 T3 w4 g4 ?_ (Fix.refl _) (Evo.k0 k4)
    unfold PS.event
    rw [hdead,hw]
    rfl
   | true=>
    obtain ⟨xp,hxp,hxt⟩:=wis_at p2 hw
    have hlt:X3.p.wat ev.txn < X3.d.wait.length:=by
     have:=(List.getElem?_eq_some_iff.1 hxp).1
     rw [show X3.p.wait=X3.d.wait.map Wt.p from rfl,List.length_map] at this
     exact this
    simp only [sb,g4.hd,mcC]
    refine unwait_k g4 (by omega) hlt rfl ?_
    intro r5 T5 w5 h5 e5
    obtain ⟨ha5,_⟩:=e5.at ha Ta
    simp only [sb,ha5]
    have o2:=p2.outX
    refine vote_k h5 ev.txn 5 ⟨none,0,0⟩ [] (Imm.triv fun w=>⟨RdE.nil w,by simp⟩) (by show X3.d.out.length≤_;omega) ?_
    intro so6 T6 w6 h6 e6
    refine back _ T6 w6 h6 ?_ ⟨rfl,rfl,rfl,rfl⟩ (((Evo.k0 k4).trans e5).trans e6)
    unfold PS.event
    rw [hdead,hw]
    unfold PS.unwait PS.vote PS.send Mc.p
    dsimp only
    simp only [List.map_append,List.map_take,List.map_drop]
    rfl
end Go.Proofs.YthkdehgfdllpoaaGreat
set_option linter.unusedVariables false
set_option linter.unusedSimpArgs false
namespace Go.Proofs.YthkdehgfdllpoaaGreat
open Go Go.Sx
theorem ld1 {α:Type} {ρ:Rec α} {w:World} {s:Sl} {l:List α} (h:RdE ρ w s l) {i:Nat} {x:α} (hx:l[i]?=some x) (j:Nat) (k:Kd) (y:k.T) (hj:(ρ.c x)[j]?=some (k.enc y)) {K:k.T→Pr} (hK:K y w):Ix s (i:Int) ρ.n (fun a=>Ld k (a.add j) K) w:=by
 obtain ⟨a,ha,hc⟩:=h.at hx
 have hi:=(List.getElem?_eq_some_iff.1 hx).1
 have hl:=h.len
 unfold Ix
 rw [ha]
 refine ⟨by omega,by omega,?_⟩
 rw [Int.toNat_natCast]
 exact Ld_of (hc j _ hj) hK
theorem ldn {w:World} {s:Sl} {l:List Int} (h:RdE nmR w s l) {i:Nat} {x:Int} (hx:l[i]?=some x) {K:Int→Pr} (k:K x w):Ix s (i:Int) 1 (fun a=>LdI .u64 a K) w:=by
 obtain ⟨a,ha,hc⟩:=h.at hx
 have hi:=(List.getElem?_eq_some_iff.1 hx).1
 have hl:s.len=l.length:=h.len
 unfold Ix
 rw [ha]
 refine ⟨by omega,by omega,?_⟩
 rw [Int.toNat_natCast]
 have h0:=hc 0 (.int .u64 x) rfl
 rw [add_add,Nat.add_zero] at h0
 exact Ld_of (k:=.i .u64) (x:=x) h0 k
theorem sNaN_k (z:Int) {w:World} {K:TR [.sc .b]→Pr} (hK:K (false,()) w):Cl Pg i_slices_isNaN_uint64 [.int .u64 z] false [.sc .b] K w:=by
 apply slices_isNaN_uint64_call
 unfold slices_isNaN_uint64
 rw [show (z != z)=false from by simp]
 exact hK
theorem nm_len {w:World} {s:Sl} {l:List Int} (h:RdE nmR w s l):s.len=l.length:=by have:=h.len;exact this
set_option maxHeartbeats 1000000 in
theorem Bin_k {w:World} {s:Sl} {l:List Int} (h:RdE nmR w s l) (hs:l.Pairwise (· < ·)) (t:Int) (hN:l.length≤1000000) {K:TR [.sc (.i .i64),.sc .b]→Pr} (k:K ((bsAt (fun x:Int=>cmpI x t) l:Int),bsIs (fun x:Int=>cmpI x t) l,()) w):Cl Pg i_slices_BinarySearch_uint64 [.slice s.p s.len s.cap,.int .u64 t] true [.sc (.i .i64),.sc .b] K w:=by
 have hl:=nm_len h
 have hle:=bsAt_le (fun x:Int=>cmpI x t) l
 have hp:l.Pairwise (fun a b=>cmpI b t < 0→cmpI a t < 0):=hs.imp fun h=>by rw [cmpI_lt,cmpI_lt];omega
 refine slices_BinarySearch_uint64_call _ _ ?_
 unfold slices_BinarySearch_uint64
 refine ⟨fun n st w'=>∃ (i j:Nat),st=((i:Int),(j:Int),())∧n=j - i∧i≤bsAt (fun x:Int=>cmpI x t) l∧bsAt (fun x:Int=>cmpI x t) l≤j∧j≤l.length∧w'=w,⟨_,0,l.length,by rw [hl];rfl,rfl,by omega,by omega,by omega,rfl⟩,?_⟩
 rintro n _ w1 ⟨i,j,rfl,rfl,hi,hij,hj,rfl⟩
 dsimp only
 by_cases hlt:i < j
 ·rw [decide_eq_true (by omega)]
  simp only [Br_true]
  refine ⟨by decide,?_⟩
  have e:w64 (ishr .u64 (IntKind.u64.wrap (w64 ((i:Int) + (j:Int)))) 1)=(((i + j) / 2:Nat):Int):=by
   rw [w64a rfl rfl (by omega),wrap_u64_nat (by omega),show ishr .u64 ((i + j:Nat):Int) 1=(((i + j) >>> 1:Nat):Int) from ishr_nat .u64 (i + j) 1 (by decide),Nat.shiftRight_eq_div_pow,w64_in (by omega) (by omega)]
  rw [e]
  generalize hm:(i + j) / 2=m
  have hm1:i≤m∧m < j:=by omega
  obtain ⟨x,hx⟩:∃ x,l[m]?=some x:=⟨_,List.getElem?_eq_getElem (by omega)⟩
  refine ldn h hx ?_
  refine Cl.mono (Less_ok _ _) ?_
  rintro ⟨r,_⟩ _ ⟨rfl,hr⟩
  dsimp only at hr
  subst hr
  dsimp only
  by_cases hc:x < t
  ·rw [show lt x t=true from decide_eq_true hc]
   simp only [Br_true]
   refine ⟨j - (m + 1),by omega,m + 1,j,by rw [w64p (by omega)],rfl,?_,hij,hj,by trivial⟩
   rcases Nat.lt_or_ge m (bsAt (fun x:Int=>cmpI x t) l) with h' | h'
   ·exact h'
   ·have:=bsAt_ge hp hx h'
    have h3:¬ (cmpI x t < 0):=by omega
    rw [cmpI_lt] at h3
    omega
  ·rw [show lt x t=false from decide_eq_false hc]
   simp only [Br_false]
   refine ⟨m - i,by omega,i,m,rfl,rfl,hi,?_,by omega,by trivial⟩
   rcases Nat.lt_or_ge m (bsAt (fun x:Int=>cmpI x t) l) with h' | h'
   ·have:=cmpI_lt.1 (bsAt_lt (c:=fun x:Int=>cmpI x t) hx h');omega
   ·exact h'
 ·rw [decide_eq_false (by omega)]
  simp only [Br_false]
  have hb:i=bsAt (fun x:Int=>cmpI x t) l:=by omega
  unfold bsIs at k
  by_cases h3:i < l.length
  ·rw [decide_eq_true (by omega)]
   simp only [Br_true]
   obtain ⟨x,hx⟩:∃ x,l[i]?=some x:=⟨_,List.getElem?_eq_getElem (by omega)⟩
   refine ldn h hx ?_
   rw [← hb,hx] at k
   dsimp only at k
   rw [cmpI_eq] at k
   by_cases hxt:x=t
   ·rw [show ((x:Int) == t)=true from by simpa using hxt]
    rw [decide_eq_true hxt] at k
    exact k
   ·rw [show ((x:Int) == t)=false from by simpa using hxt]
    rw [decide_eq_false hxt] at k
    simp only [Br_false]
    refine ldn h hx ?_
    refine sNaN_k _ ?_
    exact k
  ·rw [decide_eq_false (by omega)]
   rw [← hb,List.getElem?_eq_none (by omega)] at k
   exact k
theorem Contains_k {w:World} {s:Sl} {l:List Int} (h:RdE nmR w s l) (t:Int) (hN:l.length≤1000000) {K:TR [.sc .b]→Pr} (k:K (l.contains t,()) w):Cl Pg i_slices_Contains_uint64 [.slice s.p s.len s.cap,.int .u64 t] false [.sc .b] K w:=by
 have hl:=nm_len h
 refine slices_Contains_uint64_call _ _ ?_
 unfold slices_Contains_uint64
 refine slices_Index_uint64_call _ _ ?_
 unfold slices_Index_uint64
 refine ⟨fun n st w'=>∃ (i:Nat),st=(0,(i:Int),())∧n=l.length - i∧i≤l.length∧(l.drop i).contains t=l.contains t∧w'=w,⟨_,0,rfl,rfl,by omega,rfl,rfl⟩,?_⟩
 rintro n _ w1 ⟨i,rfl,rfl,hi,he,rfl⟩
 dsimp only
 by_cases hlt:i < l.length
 ·rw [decide_eq_true (by omega)]
  simp only [Br_true]
  obtain ⟨x,hx⟩:∃ x,l[i]?=some x:=⟨_,List.getElem?_eq_getElem hlt⟩
  have hd:l.drop i=x :: l.drop (i + 1):=by rw [List.drop_eq_getElem_cons hlt,(List.getElem?_eq_some_iff.1 hx).2]
  rw [hd,List.contains_cons] at he
  refine ldn h hx ?_
  cases hc:(t == x) with
  | true=>
   rw [hc] at he
   simp only [Br_true]
   rw [show decide ((i:Int) ≥ 0)=true from decide_eq_true (by omega),show true=l.contains t from by rw [← he];rfl]
   exact k
  | false=>
   rw [hc] at he
   simp only [Br_false]
   exact ⟨l.length - (i + 1),by omega,i + 1,by rw [w64p (by omega)],rfl,by omega,by rw [← he,Bool.false_or],by trivial⟩
 ·rw [decide_eq_false (by omega)]
  rw [List.drop_of_length_le (by omega)] at he
  simp only [Br_false]
  rw [← he] at k
  exact k
def owsOk (p:ByteArray):List Ow→Bool
 | []=>true
 | x :: l=>decide (1≤x.shard) && decide (x.shard≤4) && (okK x.lo && slt p x.lo) && owsOk x.lo l
def ownOk:List Ow→Bool
 | []=>false
 | x :: l=>seq x.lo (BA []) && decide (1≤x.shard) && decide (x.shard≤4) && owsOk x.lo l && decide (l.length≤5)
def ownAt (l:List Ow) (i:Nat):ByteArray × ByteArray:=((l[i]?.getD ⟨BA [],0⟩).lo,match l[i + 1]? with | some x=>x.lo | none=>BA [])
def owns (l:List Ow) (n:Int) (lo hi:ByteArray):Bool:=ownOk l && (List.range l.length).any (fun i=>decide ((l[i]?.getD ⟨BA [],0⟩).shard=n) && coversR (ownAt l i).1 (ownAt l i).2 lo hi)
theorem OCheck_k {w:World} {s:Sl} {l:List Ow} (h:RdE owR w s l) (hN:l.length≤1000000) {K:TR [.sc (.i .i64)]→Pr} (k:∀ w',Keeps [] w w'→K (if ownOk l then 0 else 170,()) w'):Cl Pg i_owner_Check [.slice s.p s.len s.cap] false [.sc (.i .i64)] K w:=by
 have hl:=h.len
 refine owner_Check_call _ ?_
 unfold owner_Check
 dsimp only [Jp]
 cases l with
 | nil=>
  rw [show ((((s.len:Nat):Int):Int) == 0)=true from by rw [hl];rfl]
  exact k w (Keeps.refl _ _)
 | cons y q=>
  rw [show ((((s.len:Nat):Int):Int) == 0)=false from by rw [hl];rfl]
  simp only [Br_false]
  by_cases h6:q.length≤5
  ·rw [decide_eq_false (by rw [hl,List.length_cons];omega)]
   simp only [Br_false]
   refine ld1 (i:=0) h rfl 0 .s y.lo rfl ?_
   cases hy:seq y.lo (BA []) with
   | false=>
    simp only [Bool.not_false,Br_true]
    have:=k w (Keeps.refl _ _)
    rw [ownOk,hy] at this
    exact this
   | true=>
    simp only [Bool.not_true,Br_false]
    have hsz:∀ i:Nat,i≤(y :: q).length→∀ x,(y :: q)[i]?=some x→∀ w1:World,Keeps [] w w1→True:=fun _ _ _ _ _ _=>trivial
    have go:(if (decide (1≤y.shard) && decide (y.shard≤4) && owsOk y.lo q) then (0:Int) else 170)=(if ownOk (y :: q) then 0 else 170):=by
     rw [ownOk,hy,decide_eq_true h6,Bool.true_and,Bool.and_true]
    refine ⟨fun n st w'=>∃ (i:Nat),st=(0,(i:Int),())∧n=(y :: q).length - i∧i≤(y :: q).length∧(0 < i→∃ p,(y :: q)[i - 1]?=some p∧ownOk (y :: q)=owsOk p.lo ((y :: q).drop i))∧Keeps [] w w',⟨_,0,rfl,rfl,by omega,fun h=>absurd h (by omega),Keeps.refl _ _⟩,?_⟩
    rintro n _ w1 ⟨i,rfl,rfl,hi,he,k1⟩
    dsimp only
    by_cases hlt:i < (y :: q).length
    ·rw [decide_eq_true (by omega)]
     simp only [Br_true]
     obtain ⟨x,hx⟩:∃ x,(y :: q)[i]?=some x:=⟨_,List.getElem?_eq_getElem hlt⟩
     have hd:(y :: q).drop i=x :: (y :: q).drop (i + 1):=by rw [List.drop_eq_getElem_cons hlt,(List.getElem?_eq_some_iff.1 hx).2]
     refine ld_Owner (h.keeps0 k1) hx ?_
     refine bx_Owner x fun b w2 h2 n2 k2=>?_
     have k02:=kp0 k1 k2
     simp only [sb,h2]
     have bad:ownOk (y :: q)=false→K (170,()) w2:=fun hb=>by
      have:=k w2 k02
      rw [hb] at this
      exact this
     have badD:ownOk (y :: q)=false→K (170,()) w2.drew:=fun hb=>by
      have:=k _ k02.drew
      rw [hb] at this
      exact this
     have step:ownOk (y :: q)=(decide (1≤x.shard) && decide (x.shard≤4) && (if i=0 then true else okK x.lo && slt ((y :: q)[i - 1]?.getD ⟨BA [],0⟩).lo x.lo) && owsOk x.lo ((y :: q).drop (i + 1))):=by
      rcases Nat.eq_zero_or_pos i with h0 | h0
      ·subst h0
       obtain rfl:y=x:=by simpa using hx
       rw [if_pos rfl,ownOk,hy,decide_eq_true h6,Bool.true_and,Bool.and_true,Bool.and_true]
       simp
      ·obtain ⟨p,hp,he⟩:=he h0
       rw [if_neg (by omega),he,hd,owsOk,hp]
       rfl
     by_cases c1:x.shard < 1
     ·rw [decide_eq_true c1]
      simp only [Br_true]
      refine badD ?_
      rw [step,decide_eq_false (show ¬ 1≤x.shard by omega)]
      rfl
     ·rw [decide_eq_false c1]
      simp only [sb,h2]
      by_cases c2:x.shard > 4
      ·rw [decide_eq_true c2]
       simp only [Br_true]
       refine badD ?_
       rw [step,decide_eq_false (show ¬ x.shard≤4 by omega),Bool.and_false]
       rfl
      ·rw [decide_eq_false c2]
       simp only [sb,h2]
       rw [decide_eq_true (show 1≤x.shard by omega),decide_eq_true (show x.shard≤4 by omega),Bool.true_and,Bool.true_and] at step
       rcases Nat.eq_zero_or_pos i with h0 | h0
       ·subst h0
        rw [decide_eq_false (by omega)]
        rw [if_pos rfl,Bool.true_and] at step
        simp only [Br_false]
        refine ⟨(y :: q).length - 1,by simp,1,by rw [w64p (by decide)],rfl,by simp,fun _=>⟨x,hx,step⟩,k02.drew⟩
       ·rw [decide_eq_true (by omega)]
        rw [if_neg (by omega)] at step
        obtain ⟨p,hp,he⟩:=he h0
        rw [hp] at step
        simp only [sb,h2]
        refine CheckKey_k _ ?_
        dsimp only
        cases hk:okK x.lo with
        | false=>
         rw [hk] at step
         refine badD ?_
         rw [step]
         rfl
        | true=>
         rw [hk] at step
         simp only [if_true,show ((0:Int) != 0)=false from rfl,Br_false]
         have hw:w64 ((i:Int) - 1)=((i - 1:Nat):Int):=by rw [w64_in (by omega) (by rw [List.length_cons] at hlt;omega)];omega
         rw [hw]
         refine ld1 (h.keeps0 k02.drew) hp 0 .s p.lo rfl ?_
         simp only [sb,h2]
         cases hs:slt p.lo x.lo with
         | false=>
          refine badD ?_
          rw [step]
          show (true && slt p.lo x.lo && _)=false
          rw [hs]
          rfl
         | true=>
          refine ⟨(y :: q).length - (i + 1),by omega,i + 1,by rw [w64p (by rw [List.length_cons] at hlt;omega)],rfl,by omega,fun _=>⟨x,hx,?_⟩,k02.drew⟩
          rw [step]
          show (true && slt p.lo x.lo && _)=_
          rw [hs]
          rfl
    ·rw [decide_eq_false (by omega)]
     simp only [Br_false]
     obtain ⟨p,hp,he⟩:=he (by rw [List.length_cons] at *;omega)
     rw [List.drop_of_length_le (by omega),owsOk] at he
     have:=k w1 k1
     rw [he] at this
     exact this
  ·rw [decide_eq_true (by rw [hl,List.length_cons];omega)]
   have:=k w (Keeps.refl _ _)
   rw [ownOk,decide_eq_false h6,Bool.and_false] at this
   exact this
theorem keys_k {w:World} {s:Sl} {l:List Ow} (h:RdE owR w s l) {i:Nat} (hi:i < l.length) (hN:l.length≤1000000) {K:TR [.ag [.s,.s]]→Pr} (k:∀ w',Keeps [] w w'→K (((ownAt l i).1,(ownAt l i).2,()),()) w'):Cl Pg i_owner_keys [.slice s.p s.len s.cap,.int .i64 (i:Int)] false [.ag [.s,.s]] K w:=by
 have hl:=h.len
 obtain ⟨x,hx⟩:∃ x,l[i]?=some x:=⟨_,List.getElem?_eq_getElem hi⟩
 refine owner_keys_call _ _ ?_
 unfold owner_keys
 refine New_bx fun b w1 h1 n1 k1=>?_
 rw [w64p (by omega)]
 unfold ownAt at k
 rw [hx] at k
 by_cases he:i + 1=l.length
 ·rw [show (((i + 1:Nat):Int) == ((s.len:Nat):Int))=true from by rw [hl,he];exact beq_self_eq_true _]
  rw [List.getElem?_eq_none (by omega)] at k
  simp only [Br_true]
  refine ld1 (h.keeps0 k1) hx 0 .s x.lo rfl ?_
  refine out2 h1 fun w2 k2=>?_
  exact k w2 (kp1 k1 k2 n1)
 ·obtain ⟨y,hy⟩:∃ y,l[i + 1]?=some y:=⟨_,List.getElem?_eq_getElem (by omega)⟩
  rw [show (((i + 1:Nat):Int) == ((s.len:Nat):Int))=false from by rw [hl];simpa using fun h=>he (by omega)]
  rw [hy] at k
  simp only [Br_false]
  unfold Dr
  refine ld1 (h.keeps0 k1.drew) hx 0 .s x.lo rfl ?_
  refine ld1 (h.keeps0 k1.drew) hy 0 .s y.lo rfl ?_
  refine out2 (w:=w1.drew) h1 fun w2 k2=>?_
  exact k w2 (kp1 k1.drew k2 n1)
theorem Owns_k {w:World} {s:Sl} {l:List Ow} (h:RdE owR w s l) (hN:l.length≤1000000) (n:Int) (lo hi:ByteArray) {K:TR [.sc .b]→Pr} (k:∀ w',Keeps [] w w'→K (owns l n lo hi,()) w'):Cl Pg i_owner_Owns [.slice s.p s.len s.cap,.int .i64 n,.agg #[.string lo,.string hi]] false [.sc .b] K w:=by
 have hl:=h.len
 refine owner_Owns_call _ _ _ _ ?_
 unfold owner_Owns
 refine New_bx fun b w1 h1 n1 k1=>?_
 refine OCheck_k (h.keeps0 k1) hN fun w2 k2=>?_
 have k02:=kp0 k1 k2
 have h2:=k2.at0 h1
 unfold owns at k
 cases hok:ownOk l with
 | false=>
  rw [hok] at k
  exact k w2 k02
 | true=>
  rw [hok,Bool.true_and] at k
  simp only [if_true,show ((0:Int) != 0)=false from rfl,Br_false]
  refine ⟨fun m st w'=>∃ (i:Nat),st=(false,(i:Int),())∧m=l.length - i∧i≤l.length∧(List.range i).any (fun i=>decide ((l[i]?.getD ⟨BA [],0⟩).shard=n) && coversR (ownAt l i).1 (ownAt l i).2 lo hi)=false∧Keeps [] w w'∧w'.heap[b]?=some (.cells #[.string lo,.string hi] 37 (0,0)),⟨_,0,rfl,rfl,by omega,rfl,k02,h2⟩,?_⟩
  rintro m _ w3 ⟨i,rfl,rfl,hil,he,k3,h3⟩
  dsimp only
  by_cases hlt:i < l.length
  ·rw [decide_eq_true (by omega)]
   simp only [Br_true]
   obtain ⟨x,hx⟩:∃ x,l[i]?=some x:=⟨_,List.getElem?_eq_getElem hlt⟩
   have nxt:∀ (c:Bool) (w4:World),(decide (x.shard=n) && coversR (ownAt l i).1 (ownAt l i).2 lo hi)=c→Keeps [] w w4→w4.heap[b]?=some (.cells #[.string lo,.string hi] 37 (0,0))→(Br c (K (true,())) (fun w'=>∃ m',m' < l.length - i∧∃ i_1:Nat,(false,w64 ((i:Int) + 1),())=(false,(i_1:Int),())∧m'=l.length - i_1∧i_1≤l.length∧(List.range i_1).any (fun i=>decide ((l[i]?.getD ⟨BA [],0⟩).shard=n) && coversR (ownAt l i).1 (ownAt l i).2 lo hi)=false∧Keeps [] w w'∧w'.heap[b]?=some (.cells #[.string lo,.string hi] 37 (0,0)))) w4:=by
    intro c w4 hc k4 h4
    cases c with
    | true=>
     simp only [Br_true]
     have:=k w4 k4
     rw [show (List.range l.length).any (fun i=>decide ((l[i]?.getD ⟨BA [],0⟩).shard=n) && coversR (ownAt l i).1 (ownAt l i).2 lo hi)=true from List.any_eq_true.2 ⟨i,List.mem_range.2 hlt,by rw [hx];exact hc⟩] at this
     exact this
    | false=>
     simp only [Br_false]
     refine ⟨l.length - (i + 1),by omega,i + 1,by rw [w64p (by omega)],rfl,by omega,?_,k4,h4⟩
     rw [List.range_succ,List.any_append,he,List.any_cons,hx]
     simp only [Option.getD_some,hc,List.any_nil,Bool.or_false]
   dsimp only [Jp]
   unfold Dr
   refine ld1 (h.keeps0 k3.drew) hx 1 (.i .i64) x.shard rfl ?_
   by_cases hs:x.shard=n
   ·rw [show ((x.shard:Int) == n)=true from by simpa using hs]
    simp only [Br_true,sb,h3]
    refine keys_k (h.keeps0 k3.drew) hlt hN fun w4 k4=>?_
    have h4:=k4.at0 (show w3.drew.heap[b]?=_ from h3)
    simp only [sb,h4]
    refine ⟨by trivial,?_⟩
    refine Covers_k _ _ _ _ fun w5 k5=>?_
    have h5:=k5.at0 h4
    exact nxt _ w5 (by rw [decide_eq_true hs];rfl) (kp0 (kp0 k3.drew k4) k5) h5
   ·rw [show ((x.shard:Int) == n)=false from by simpa using hs]
    simp only [Br_false]
    exact nxt false w3.drew (by rw [decide_eq_false hs];rfl) k3.drew h3
  ·rw [decide_eq_false (by omega)]
   simp only [Br_false]
   obtain rfl:i=l.length:=by omega
   rw [he] at k
   exact k w3 k3
def touchO (lo hi:ByteArray) (o:Op):Bool:=decide (opE o=0) && meetsR (spanO o).1 (spanO o).2 lo hi
theorem touches_k {w:World} {s:Sl} {l:List Op} (h:RdE opR w s l) (hN:l.length≤1000000) (lo hi:ByteArray) {K:TR [.sc .b]→Pr} (k:∀ w',Keeps [] w w'→K (l.any (touchO lo hi),()) w'):Cl Pg i_part_touches [.slice s.p s.len s.cap,.agg #[.string lo,.string hi]] false [.sc .b] K w:=by
 refine part_touches_call _ _ _ ?_
 unfold part_touches
 refine New_bx fun b w1 h1 n1 k1=>?_
 refine ContainsFunc_Op_k (p:=touchO lo hi) (F:=fun _=>False) (h.keeps0 k1) ?_ (by omega) fun w2 k2=>k w2 (kp0 k1 k2)
 intro w2 k2 x _ K1 hK
 have h2:=k2.toL0.at0 h1
 refine CallV_fn (by kernel_rfl) ?_
 refine part_touches_1_call _ _ _ _ _ _ _ ?_
 unfold part_touches_1
 refine New_bx fun c w3 h3 n3 k3=>?_
 have h2:=k3.at0 h2
 simp only [sb,h3]
 refine Span_k x fun w4 k4=>?_
 have h2:=k4.at0 h2
 refine New_bx fun d w5 h5 n5 k5=>?_
 have h2:=k5.at0 h2
 have k25:=kp0 (kp0 k3 k4) k5
 have nd:d ≠ b:=fun e=>by subst e;have:=hp_lt h1;have:=k2.toL0.size;have:=k3.size;have:=k4.size;omega
 refine put2 h5 rfl rfl fun w6 h6 k6=>?_
 have h2:=k6.at1 h2 (Ne.symm nd)
 have k26:=kp1 k25 k6 (by have:=k3.size;have:=k4.size;omega)
 simp only [sb,h6,h2]
 refine Meet_k _ _ _ _ fun w7 k7=>?_
 refine New_bx fun e w8 h8 n8 k8=>?_
 have k28:=kp0 (kp0 k26 k7) k8
 refine put2 h8 rfl rfl fun w9 h9 k9=>?_
 have k29:=kp1 k28 k9 (by have:=k26.size;have:=k7.size;omega)
 have:=hK w9 k29
 unfold touchO at this
 by_cases he:opE x=0
 ·rw [decide_eq_true he,Bool.true_and] at this
  simp only [he,if_true,sb]
  exact this
 ·rw [decide_eq_false he,Bool.false_and] at this
  rw [if_neg he]
  rw [show ((opE x:Int) == 0)=false from by simpa using he]
  exact this
end Go.Proofs.YthkdehgfdllpoaaGreat
set_option linter.unusedVariables false
set_option linter.unusedSimpArgs false
namespace Go.Proofs.YthkdehgfdllpoaaGreat
open Go Go.Sx
namespace PS
def shut (P:PS) (ops:List Op):Bool:=match P.box with | some b=>b.closes && ops.any (touchO b.lo b.hi) | none=>false
def closed (P:PS) (ops:List Op):Bool:=(P.c.frozen != 0 && ops.any (touchO P.c.clo P.c.chi)) || P.shut ops
def fins (P:PS) (t:Int):Bool:=bsIs (fun x:Int=>cmpI x t) P.fin
def fat (P:PS) (t:Int):Nat:=bsAt (fun x:Int=>cmpI x t) P.fin
def fine (P:PS) (t:Int):PS:=if decide (P.c.low≤t) && !P.fins t then { P with fin:=P.fin.take (P.fat t) ++ t :: P.fin.drop (P.fat t) } else P
def finish (P:PS) (t:Int):PS:=((P.fine t).release t).through fuelT
end PS
theorem POk.fine {P:PS} (h:POk P) (t:Int) (hf:P.fin.length < 100000):POk (P.fine t)∧(P.fine t).out.length + (P.fine t).left=P.out.length + P.left∧(P.fine t).fin.length≤P.fin.length + 1:=by
 unfold PS.fine
 cases hc:(decide (P.c.low≤t) && !P.fins t) with
 | false=>exact ⟨h,rfl,Nat.le_succ _⟩
 | true=>
  rw [Bool.and_eq_true] at hc
  have hn:P.fins t=false:=by simpa using hc.2
  have hl:(P.fin.take (P.fat t) ++ t :: P.fin.drop (P.fat t)).length=P.fin.length + 1:=by
   rw [List.length_append,List.length_cons,List.length_take,List.length_drop]
   have:P.fat t≤P.fin.length:=bsAt_le _ _
   omega
  refine ⟨⟨h.wt,h.hd,h.dj,?_,h.tb,h.wv,h.hv,h.mp,h.mn,h.wr,h.wn,h.er,h.bd,h.hn,?_⟩,rfl,Nat.le_of_eq hl⟩
  ·exact ins_up (f:=id) (x:=t) h.fn (bs_not (f:=id) h.fn hn)
  ·show (P.fin.take (P.fat t) ++ t :: P.fin.drop (P.fat t)).length≤100000
   omega
theorem finish_k {w:World} {m:Nat} {T:Nat→Nat} {X:Mc} (h:MAt w m T X) (hp:POk X.p) (hf:X.d.fin.length < 100000) (t:Int) {K:TR []→Pr}
  (k:∀ X' T' w',MAt w' m T' X'→X'.p=X.p.finish t→Fix X X'→Evo T T' w w'→K () w'):Cl Pg i_part_Machine_finish [.pointer (some ⟨m,0,none⟩),.int .u64 t] true [] K w:=by
 refine part_Machine_finish_call _ _ ?_
 unfold part_Machine_finish
 dsimp only [Jp]
 have tail:∀ (X1:Mc) (T1:Nat→Nat) (w1:World),MAt w1 m T1 X1→X1.p=X.p.fine t→Fix X X1→Evo T T1 w w1→Cl Pg i_part_Machine_release [.pointer (some ⟨m,0,none⟩),.int .u64 t] true [] (fun r3=>Cl Pg i_part_Machine_through [.pointer (some ⟨m,0,none⟩)] true [] fun r4=>K ()) w1:=by
  intro X1 T1 w1 h1 q1 x1 e1
  obtain ⟨p1,b1,_⟩:=hp.fine t hf
  rw [← q1] at p1
  have l1:=p1.lineX
  refine release_k h1 p1.tb t (by omega) ?_
  intro sl T2 H2 w2 h2 e2
  obtain ⟨p2,b2⟩:=p1.release t
  refine through_k (X:={ X1 with d:={ X1.d with tH:=H2,tab:=(relA t X1.d.tab).2,sln:=sl,line:=X1.d.line ++ evs true (relA t X1.d.tab).1.2 ++ evs false (relA t X1.d.tab).1.1 } }) h2 p2 ?_
  intro X3 T3 w3 h3 q3 x3 e3
  refine k X3 T3 w3 h3 ?_ (x1.trans ⟨x3.stb,x3.sM,x3.bx,x3.box⟩) ((e1.trans e2).trans e3)
  rw [q3]
  unfold PS.finish
  rw [← q1]
  rfl
 simp only [sb,h.hd,mcC]
 refine Bin_k h.r.fi.ok.rde hp.fn t (by omega) ?_
 simp only [sb,h.hd,mcC]
 have hge:decide (t ≥ X.c.low)=decide (X.p.c.low≤t):=rfl
 cases hlow:decide (t ≥ X.c.low) with
 | false=>
  simp only [sb]
  refine tail X T w h ?_ (Fix.refl _) (Evo.refl _ _)
  unfold PS.fine
  rw [← hge,hlow]
  rfl
 | true=>
  simp only [sb]
  cases his:bsIs (fun x:Int=>cmpI x t) X.d.fin with
  | true=>
   simp only [Bool.not_true,sb]
   refine tail X T w h ?_ (Fix.refl _) (Evo.refl _ _)
   unfold PS.fine
   rw [← hge,hlow,show X.p.fins t=true from his]
   rfl
  | false=>
   simp only [Bool.not_false,sb,h.hd,mcC]
   refine New_bx fun a w1 h1 n1 k1=>?_
   have g1:=h.keeps0 k1
   refine Insert_uint64_k g1.r.fi.ok h1 (fun hb=>?_) (bsAt_le _ _) (by omega) ?_
   ·have:=g1.r.fi.ok.lt a hb
    have h':=h.r.fi.ok.lt a hb
    omega
   intro r w2 h2 f2 k2
   have g2:w2.heap[m]?=some (.cells (mcC X).toArray 94 (0,0)):=k2.at g1.hd (fun hm=>by have:=(g1.r.fi.tag m hm).2;have:=h.t1;omega)
   simp only [sb,g2,add00,Nat.reduceAdd]
   refine g1.uFi k2 h2 f2 fun w3 h3 e3=>?_
   refine tail _ _ w3 h3 ?_ ⟨rfl,rfl,rfl,rfl⟩ ((Evo.k0 k1).trans e3)
   unfold PS.fine
   rw [← hge,hlow,show X.p.fins t=false from his]
   rfl
theorem closed_k {w:World} {m:Nat} {T:Nat→Nat} {X:Mc} (h:MAt w m T X) {so:Sl} {ops:List Op} (ho:RdE opR w so ops) (hN:ops.length≤1000000) {K:TR [.sc .b]→Pr}
  (k:∀ w',Keeps [] w w'→K (X.p.closed ops,()) w'):Cl Pg i_part_Machine_closed [.pointer (some ⟨m,0,none⟩),.slice so.p so.len so.cap] false [.sc .b] K w:=by
 refine part_Machine_closed_call _ _ ?_
 unfold part_Machine_closed
 have tail:∀ (w1:World),Keeps [] w w1→(∀ w',Keeps [] w w'→K (X.p.shut ops,()) w')→
   (Nn (some ⟨m,0,none⟩) fun a19=>LdP (a19.add 19) fun x20=>Br (!(Option.isNone x20)) (Nn (some ⟨m,0,none⟩) fun a21=>LdP (a21.add 19) fun x22=>Nn x22 fun a23=>LdB (a23.add 5) fun x24=>Br x24 (
    Nn (some ⟨m,0,none⟩) fun a25=>LdP (a25.add 19) fun x26=>Nn x26 fun a27=>LdS ((a27.add 2).add 0) fun x28=>LdS ((a27.add 2).add 1) fun x29=>Cl Pg i_part_touches [(.slice so.p so.len so.cap),(.agg #[(.string x28),(.string x29)])] false [.sc .b] fun r30=>K (r30.1,())) (K (false,()))) (K (false,()))) w1:=by
  intro w1 k1 hk
  have g1:=h.keeps0 k1
  have hb:=g1.r.bo.ok
  simp only [sb,g1.hd,mcC]
  unfold PS.shut at hk
  cases hx:X.d.bx with
  | none=>
   rw [show X.p.box=none from by show X.d.bx.map _=none;rw [hx];rfl] at hk
   simp only [Option.map_none,Option.isNone_none,Bool.not_true,sb]
   exact hk w1 k1
  | some b=>
   rw [show X.p.box=some X.d.box.p from by show X.d.bx.map _=_;rw [hx];rfl] at hk
   have h1:=hb b hx
   simp only [Option.map_some,Option.isNone_some,Bool.not_false,sb,h1,bxC]
   dsimp only at hk
   cases hc:X.d.box.closes with
   | false=>
    rw [show X.d.box.p.closes=false from hc] at hk
    simp only [hc,sb,g1.hd,mcC,hx,Option.map_some,h1,bxC]
    exact hk w1 k1
   | true=>
    rw [show X.d.box.p.closes=true from hc] at hk
    simp only [hc,sb,g1.hd,mcC,hx,Option.map_some,h1,bxC,add00,Nat.reduceAdd]
    refine touches_k (ho.keeps0 k1) hN _ _ fun w2 k2=>?_
    exact hk w2 (kp0 k1 k2)
 unfold PS.closed at k
 simp only [sb,h.hd,mcC]
 cases hf:(X.c.frozen != 0) with
 | false=>
  rw [show (X.p.c.frozen != 0)=false from hf] at k
  simp only [Br_false]
  exact tail w (Keeps.refl _ _) k
 | true=>
  rw [show (X.p.c.frozen != 0)=true from hf] at k
  simp only [Br_true]
  simp only [sb,h.hd,mcC,add00,Nat.reduceAdd]
  refine touches_k ho hN _ _ fun w1 k1=>?_
  dsimp only
  rw [show X.p.c.clo=X.c.clo from rfl,show X.p.c.chi=X.c.chi from rfl] at k
  cases ht:ops.any (touchO X.c.clo X.c.chi) with
  | true=>
   rw [ht] at k
   simp only [Br_true]
   exact k w1 k1
  | false=>
   rw [ht] at k
   simp only [Br_false]
   exact tail w1 k1 k
end Go.Proofs.YthkdehgfdllpoaaGreat
set_option linter.unusedVariables false
set_option linter.unusedSimpArgs false
namespace Go.Proofs.YthkdehgfdllpoaaGreat
open Go Go.Sx
theorem MAt.uRo {w w':World} {m:Nat} {T:Nat→Nat} {X:Mc} (h:MAt w m T X) {b:Nat} (hx:X.d.bx=some b) {r:Sl} {l:List Op} (hk:Keeps (blk X.d.box.sr) w w') (hr:SlE opR w' r l) (fr:∀ b∈blk r,b∈blk X.d.box.sr∨w.heap.size≤b) {K:Pr}
  (k:∀ w2,MAt w2 m (tagL 10 r T) { X with d:={ X.d with box:={ X.d.box with sr:=r,row:=l } } }→Evo T (tagL 10 r T) w w2→K w2):St ⟨b,9,none⟩ (.slice r.p r.len r.cap) K w':=by
 have s:Stp 10 T (tagL 10 r T) w w':=Stp.row hk (fun b hb=>(h.r.ro.tag b hb).2) fr
 have hb:=h.r.bo.kt (by decide) (by decide) s
 obtain ⟨lb,tb⟩:=hb.tag b hx
 have hm:w'.heap[m]?=_:=hk.at h.hd (fun hm=>by have:=(h.r.ro.tag m hm).2;have:=h.t1;omega)
 have t1:tagL 10 r T m=1:=tagL_m h.lt h.t1 (by decide) (fun b hb=>(h.r.ro.tag b hb).2) fr
 have mb:m ≠ b:=fun e=>by rw [e,tb] at t1;cases t1
 refine set_box (hb.ok b hx) 9 _ rfl (by simp [bxC]) fun w2 h2 k2=>?_
 have s2:Stp 9 (tagL 10 r T) (tagL 10 r T) w' w2:=⟨k2.toP fun c hc=>.inl (by simp at hc;rw [hc];exact tb),fun _ _ _=>rfl⟩
 have q:=h.r
 have hro:Comp (tagL 10 r T) 10 (·∈blk r) (fun w=>SlE opR w r l) w':=.of hr tagL_mem
 refine k w2 ⟨k2.at1 hm mb,t1,?_⟩ ((s.evo (by decide)).trans (s2.evo (by decide)))
 refine ⟨(q.ow.kt (by decide) s).kt (by decide) s2,(q.he.kt (by decide) (by decide) s).kt (by decide) (by decide) s2,fun x hx=>((q.heD x hx).kt (by decide) s).kt (by decide) s2,(q.fi.kt (by decide) (by decide) s).kt (by decide) (by decide) s2,(q.wa.kt (by decide) (by decide) s).kt (by decide) (by decide) s2,fun x hx=>((q.waD x hx).kt (by decide) s).kt (by decide) s2,(q.ta.kt (by decide) (by decide) s).kt (by decide) (by decide) s2,(q.ou.kt (by decide) (by decide) s).kt (by decide) (by decide) s2,fun x hx=>((q.ouD x hx).kt (by decide) s).kt (by decide) s2,(q.wr.kt (by decide) (by decide) s).kt (by decide) (by decide) s2,(q.li.kt (by decide) (by decide) s).kt (by decide) (by decide) s2,?_,hro.kt (by decide) (by decide) s2,(q.lo.kt (by decide) s).kt (by decide) s2,(q.sto.kt (by decide) (by decide) s).kt (by decide) (by decide) s2,fun b hb=>Nat.lt_of_lt_of_le (tagL_bd hr hk.size q.bd b hb) k2.size⟩
 have hnew:w2.heap[b]?=some (.cells (bxC { X.d.box with sr:=r,row:=l }).toArray 118 (0,0)):=by
  rw [h2]
  simp [bxC]
 have e0:∀ c,X.d.bx=some c→c=b:=fun c hc=>by rw [hx] at hc;injection hc with hc;exact hc.symm
 refine ⟨fun c hc=>by rw [e0 c hc];exact hnew,fun w3 _ hw c hc=>?_,fun c hc=>?_⟩
 ·rw [e0 c hc,hw b (by have:=k2.size;omega) (.inl tb)]
  exact hnew
 ·rw [e0 c hc]
  exact ⟨by have:=k2.size;omega,tb⟩
def clip (lo hi:ByteArray) (o:Op):Op:=if o.kind=5 then { o with lo:=mLo lo hi o.lo o.hi,hi:=mHi lo hi o.lo o.hi } else o
namespace PS
def behind (P:PS) (o:Op):PS:=match P.box with
 | none=>P
 | some b=>if touchO b.lo b.hi o then { P with box:=some { b with row:=b.row ++ [clip b.lo b.hi o] } } else P
end PS
structure Fix2 (X X':Mc):Prop where
 stb:X'.d.stb=X.d.stb
 sM:X'.d.sM=X.d.sM
 bx:X'.d.bx=X.d.bx
theorem Fix2.refl (X:Mc):Fix2 X X:=⟨rfl,rfl,rfl⟩
theorem Fix.two {X X':Mc} (h:Fix X X'):Fix2 X X':=⟨h.stb,h.sM,h.bx⟩
theorem Fix2.trans {X Y Z:Mc} (h:Fix2 X Y) (k:Fix2 Y Z):Fix2 X Z:=⟨k.stb.trans h.stb,k.sM.trans h.sM,k.bx.trans h.bx⟩
theorem one_op {w:World} {b:Nat} {o:Op} (h:w.heap[b]?=some (.cells #[.int .i64 o.kind,.string o.key,.string o.value,.string o.lo,.string o.hi,.int .i64 o.most] 81 (0,0))):RdE opR w ⟨some ⟨b,0,none⟩,1,1⟩ [o]:=⟨by rw [List.flatMap_singleton];exact box_src (ρ:=opR) (x:=o) h,Nat.le_refl _⟩
def RowLe (P:PS) (n:Nat):Prop:=∀ b,P.box=some b→b.row.length≤n
theorem behind_k {w:World} {m:Nat} {T:Nat→Nat} {X:Mc} (h:MAt w m T X) (hN:RowLe X.p 1000000) (o:Op) {K:TR []→Pr}
  (k:∀ X' T' w',MAt w' m T' X'→X'.p=X.p.behind o→Fix2 X X'→Evo T T' w w'→K () w') :
  Cl Pg i_part_Machine_behind [.pointer (some ⟨m,0,none⟩),.agg #[.int .i64 o.kind,.string o.key,.string o.value,.string o.lo,.string o.hi,.int .i64 o.most]] true [] K w:=by
 refine part_Machine_behind_call _ _ _ _ _ _ _ ?_
 unfold part_Machine_behind
 refine New_bx fun a w1 h1 n1 k1=>?_
 have g1:=h.keeps0 k1
 have ma:m ≠ a:=fun e=>by have:=h.lt;omega
 unfold PS.behind at k
 cases hx:X.d.bx with
 | none=>
  rw [show X.p.box=none from by show X.d.bx.map _=none;rw [hx];rfl] at k
  refine Jp_b true (fun J hJ=>?_) fun w2 k2=>?_
  ·simp only [sb,g1.hd,mcC,hx]
   simp only [Option.map_none,Option.isNone_none,sb]
   exact hJ _ (drewK w1)
  ·simp only [sb]
   exact k X T _ (g1.keeps0 k2) rfl (Fix2.refl _) (Evo.k0 (kp0 k1 k2))
 | some b=>
  have hN:X.d.box.row.length≤1000000:=hN X.d.box.p (by show X.d.bx.map _=_;rw [hx];rfl)
  rw [show X.p.box=some X.d.box.p from by show X.d.bx.map _=_;rw [hx];rfl] at k
  dsimp only at k
  refine Jp_b (!(touchO X.d.box.lo X.d.box.hi o)) (fun J hJ=>?_) fun w2 k2=>?_
  ·have hb:=g1.r.bo.ok b hx
   simp only [sb,g1.hd,mcC,hx]
   simp only [Option.map_some,Option.isNone_some,sb,h1,g1.hd,mcC,hx,hb,bxC,add00,Nat.reduceAdd]
   refine New_bx fun c w2 h2 n2 k2=>?_
   have k02:=k1.drew
   have h12:=k2.at0 (show w1.drew.heap[a]?=_ from h1)
   have g2:=(g1.keeps0 (drewK w1)).keeps0 k2
   have hb2:=k2.at0 (show w1.drew.heap[b]?=_ from hb)
   simp only [sb,g2.hd,mcC,hb2,bxC,hx,Option.map_some,add00,Nat.reduceAdd]
   refine ⟨by trivial,by trivial,?_⟩
   refine touches_k (one_op h2) (by simp) _ _ fun w3 k3=>?_
   rw [show [o].any (touchO X.d.box.lo X.d.box.hi)=touchO X.d.box.lo X.d.box.hi o from by simp]
   exact hJ w3 (kp0 (kp0 (drewK w1) k2) k3)
  ·have g2:=g1.keeps0 k2
   have h2:=k2.at0 h1
   rw [show X.d.box.p.lo=X.d.box.lo from rfl,show X.d.box.p.hi=X.d.box.hi from rfl] at k
   cases ht:touchO X.d.box.lo X.d.box.hi o with
   | false=>
    rw [ht] at k
    simp only [Bool.not_false,sb]
    exact k X T _ g2 rfl (Fix2.refl _) (Evo.k0 (kp0 k1 k2))
   | true=>
    rw [ht] at k
    simp only [Bool.not_true,sb]
    refine Jp_of (fun _ w3=>Keeps [] w w3∧w3.heap[a]?=some (.cells #[.int .i64 (clip X.d.box.lo X.d.box.hi o).kind,.string (clip X.d.box.lo X.d.box.hi o).key,.string (clip X.d.box.lo X.d.box.hi o).value,.string (clip X.d.box.lo X.d.box.hi o).lo,.string (clip X.d.box.lo X.d.box.hi o).hi,.int .i64 (clip X.d.box.lo X.d.box.hi o).most] 81 (0,0))) (fun J hJ=>?_) ?_
    ·simp only [sb,h2]
     by_cases hk:o.kind=5
     ·rw [show ((o.kind:Int) == 5)=true from by simpa using hk]
      simp only [Br_true]
      refine Jp_of (fun s w3=>∃ c,s=(some ⟨c,0,none⟩,())∧Keeps [] w w3∧c ≠ a∧w3.heap[a]?=some (.cells #[.int .i64 o.kind,.string o.key,.string o.value,.string o.lo,.string o.hi,.int .i64 o.most] 81 (0,0))∧w3.heap[c]?=some (.cells #[.string (mLo X.d.box.lo X.d.box.hi o.lo o.hi),.string (mHi X.d.box.lo X.d.box.hi o.lo o.hi)] 37 (0,0))) (fun J2 hJ2=>?_) ?_
      ·have hb:=g2.r.bo.ok b hx
       simp only [sb,g2.hd,mcC,hx,Option.map_some,hb,bxC,h2,add00,Nat.reduceAdd]
       refine ⟨?_,?_⟩
       ·refine Meet_k _ _ _ _ fun w3 k3=>?_
        refine New_bx fun c w4 h4 n4 k4=>?_
        have k24:=kp0 (kp0 (drewK w2) k3) k4
        have g4:=g2.keeps0 k24
        have a4:=k24.at0 h2
        have b4:=g4.r.bo.ok b hx
        have nc:c ≠ a:=fun e=>by subst e;have:=hp_lt h1;have:=k2.size;have:=k3.size;have d2:w2.drew.heap.size=w2.heap.size:=rfl;omega
        have n0:w.heap.size≤c:=by have:=k1.size;have:=k2.size;have:=k3.size;have d2:w2.drew.heap.size=w2.heap.size:=rfl;omega
        simp only [sb,g4.hd,mcC,hx,Option.map_some,b4,bxC,a4,add00,Nat.reduceAdd]
        refine ⟨by trivial,by trivial,by trivial,by trivial,?_⟩
        refine put2 h4 rfl rfl fun w5 h5 k5=>?_
        exact hJ2 _ w5 ⟨c,rfl,kp1 (kp0 (kp0 k1 k2) k24) k5 n0,nc,k5.at1 a4 (Ne.symm nc),h5⟩
       ·refine New_bx fun c w3 h3 n3 k3=>?_
        have k23:=kp0 (drewK w2) k3
        have g3:=g2.keeps0 k23
        have a3:=k23.at0 h2
        have b3:=g3.r.bo.ok b hx
        have nc:c ≠ a:=fun e=>by subst e;have:=hp_lt h1;have:=k2.size;have d2:w2.drew.heap.size=w2.heap.size:=rfl;omega
        have n0:w.heap.size≤c:=by have:=k1.size;have:=k2.size;have d2:w2.drew.heap.size=w2.heap.size:=rfl;omega
        simp only [sb,g3.hd,mcC,hx,Option.map_some,b3,bxC,a3,add00,Nat.reduceAdd]
        refine ⟨by trivial,by trivial,by trivial,by trivial,?_⟩
        refine Meet_k _ _ _ _ fun w4 k4=>?_
        refine put2 (k4.at0 h3) rfl rfl fun w5 h5 k5=>?_
        exact hJ2 _ w5 ⟨c,rfl,kp1 (kp0 (kp0 k1 k2) (kp0 k23 k4)) k5 n0,nc,k5.at1 (k4.at0 a3) (Ne.symm nc),h5⟩
      ·rintro _ w3 ⟨c,rfl,k3,nc,h3,hc⟩
       have h3d:w3.drew.heap[a]?=_:=h3
       simp only [sb,hc]
       refine set_box h3d 3 _ rfl (by simp) fun w4 h4 k4=>?_
       have hc4:=k4.at1 (show w3.drew.heap[c]?=_ from hc) nc
       simp only [sxl] at h4
       simp only [sb,hc4]
       refine ⟨by trivial,?_⟩
       refine set_box h4 4 _ rfl (by simp) fun w5 h5 k5=>?_
       simp only [sxl] at h5
       refine hJ () w5 ⟨kp1 (kp1 k3.drew k4 n1) k5 n1,?_⟩
       rw [h5]
       unfold clip
       rw [if_pos hk]
     ·rw [show ((o.kind:Int) == 5)=false from by simpa using hk]
      simp only [sb]
      refine hJ () w2 ⟨kp0 k1 k2,?_⟩
      rw [show clip X.d.box.lo X.d.box.hi o=o from if_neg hk]
      exact h2
    ·rintro _ w3 ⟨k3,h3⟩
     generalize hc:clip X.d.box.lo X.d.box.hi o=o' at *
     have g3:=h.keeps0 k3
     have hb:=g3.r.bo.ok b hx
     simp only [sb,g3.hd,mcC,hx,Option.map_some,hb,bxC,h3]
     refine New_bx fun c w4 h4 n4 k4=>?_
     have g4:=(g3.keeps0 (drewK w3)).keeps0 k4
     have hb4:=g4.r.bo.ok b hx
     simp only [sb,g4.hd,mcC,hx,Option.map_some,hb4,bxC]
     refine ⟨by trivial,by trivial,by trivial,?_⟩
     have hs:=g4.r.ro.ok
     have hl:=hs.len'
     refine SlC.app (ρ:=opR) (new:=[o']) hs (by rw [List.flatMap_singleton];exact box_src (ρ:=opR) (x:=o') h4) rfl (by rw [zc_Op];rfl) (by omega) (by omega) ?_
     intro r w5 h5 k5 f5
     have gm:w5.heap[m]?=some (.cells (mcC X).toArray 94 (0,0)):=k5.at g4.hd (fun hm=>by have:=(g4.r.ro.tag m hm).2;have:=h.t1;omega)
     simp only [sb,gm,mcC,hx,Option.map_some]
     refine ⟨by trivial,?_⟩
     refine g4.uRo hx k5 h5 f5 fun w6 h6 e6=>?_
     refine k _ _ w6 h6 ?_ ⟨rfl,rfl,rfl⟩ ((Evo.k0 (kp0 k3.drew k4)).trans e6)
     rw [if_pos rfl]
     unfold Mc.p
     dsimp only
     rw [hx]
     rfl
end Go.Proofs.YthkdehgfdllpoaaGreat
set_option linter.unusedVariables false
set_option linter.unusedSimpArgs false
namespace Go.Proofs.YthkdehgfdllpoaaGreat
open Go Go.Sx
namespace PS
def unhold (P:PS) (i:Nat):PS:={ P with held:=P.held.take i ++ P.held.drop (i + 1) }
def write1 (P:PS) (o:Op):PS:=({ P with writes:=P.writes ++ [o] }:PS).behind o
def writeAll (P:PS) (ops:List Op):PS:=ops.foldl write1 P
def wrs (flag:Bool) (ops:List Op):List Op:=ops.filter (fun o=>flag && fWr o.kind)
def ack (P:PS) (t:Int):PS:=P.send { PM.zero with kind:=6,txn:=t }
def decide (P:PS) (t:Int) (flag:Bool):PS:=
 if P.his t then match P.held[P.hat t]? with
  | none=>P.ack t
  | some x=>(((P.ack t).unhold (P.hat t)).writeAll (wrs flag x.ops)).finish t
 else if P.wis t then ((P.ack t).unwait (P.wat t)).finish t
 else P.ack t
end PS
theorem behind_same (P:PS) (o:Op):P.behind o={ P with box:=(P.behind o).box }:=by
 unfold PS.behind
 split
 ·rfl
 ·split <;> rfl
theorem POk.box {P:PS} (h:POk P) (b:Option PB):POk { P with box:=b }:=⟨h.wt,h.hd,h.dj,h.fn,h.tb,h.wv,h.hv,h.mp,h.mn,h.wr,h.wn,h.er,h.bd,h.hn,h.fl⟩
theorem opsE_app {a b:List Op} (ha:opsE a=0) (hb:opsE b=0):opsE (a ++ b)=0:=by
 rw [opsE_all] at *
 intro o ho
 rcases List.mem_append.1 ho with ho | ho
 ·exact ha o ho
 ·exact hb o ho
theorem write1_same (P:PS) (o:Op):P.write1 o={ P with writes:=P.writes ++ [o],box:=(P.write1 o).box }:=behind_same _ o
theorem writeAll_same:∀ (ops:List Op) (P:PS),P.writeAll ops={ P with writes:=P.writes ++ ops,box:=(P.writeAll ops).box }
 | [],P=>by show P=_;rw [List.append_nil];rfl
 | o :: l,P=>by
  show (P.write1 o).writeAll l={ P with writes:=P.writes ++ o :: l,box:=((P.write1 o).writeAll l).box }
  have h1:=write1_same P o
  have h2:(P.write1 o).writes ++ l=P.writes ++ o :: l:=by rw [h1];simp
  generalize hb:((P.write1 o).writeAll l).box=bx
  rw [writeAll_same l (P.write1 o),h2,hb,h1]
theorem POk.writeAll {P:PS} (h:POk P) {ops:List Op} (ho:opsE ops=0) (hn:P.writes.length + ops.length≤1000):POk (P.writeAll ops):=by
 rw [writeAll_same]
 exact POk.box (P:={ P with writes:=P.writes ++ ops }) ⟨h.wt,h.hd,h.dj,h.fn,h.tb,h.wv,h.hv,h.mp,h.mn,opsE_app h.wr ho,by show (P.writes ++ ops).length≤1000;rw [List.length_append];omega,h.er,h.bd,h.hn,h.fl⟩ _
theorem POk.unhold {P:PS} (h:POk P) (i:Nat):POk (P.unhold i):=by
 have hs:=take_drop_sub P.held i
 refine ⟨h.wt,h.hd.sublist hs,fun x hx y hy=>h.dj x hx y (hs.subset hy),h.fn,h.tb,h.wv,fun y hy=>h.hv y (hs.subset hy),h.mp,h.mn,h.wr,h.wn,h.er,h.bd,?_,h.fl⟩
 show (P.held.take i ++ P.held.drop (i + 1)).length + P.wait.length≤1000
 have:=hs.length_le
 have:=h.hn
 omega
theorem POk.ack {P:PS} (h:POk P) (t:Int) (hb:P.out.length + 1 + P.left≤20000):POk (P.ack t):=
 ⟨h.wt,h.hd,h.dj,h.fn,h.tb,h.wv,h.hv,h.mp,h.mn,h.wr,h.wn,h.er,by
  show (P.out ++ [_]).length + P.left≤20000
  rw [List.length_append,List.length_singleton]
  exact hb,h.hn,h.fl⟩
theorem row_behind {P:PS} {n:Nat} (h:RowLe P n) (o:Op):RowLe (P.behind o) (n + 1):=by
 unfold PS.behind
 intro b hb
 cases hp:P.box with
 | none=>rw [hp] at hb;dsimp only at hb;rw [hp] at hb;cases hb
 | some c=>
  rw [hp] at hb
  dsimp only at hb
  have:=h c hp
  split at hb
  ·injection hb with hb
   subst hb
   simp only [List.length_append,List.length_singleton]
   omega
  ·rw [hp] at hb
   injection hb with hb
   subst hb
   omega
theorem unhold_k {w:World} {m:Nat} {T:Nat→Nat} {X:Mc} (h:MAt w m T X) (hN:X.d.held.length≤100000) {i:Nat} (hi:i < X.d.held.length) {y:Int} (hy:y=i) {J:Pr}
  (k:∀ r T' w',MAt w' m T' { X with d:={ X.d with sh:=r,held:=X.d.held.take i ++ X.d.held.drop (i + 1) } }→Evo T T' w w'→J w') :
  (Cl Pg i_slices_Delete_Hold [.slice X.d.sh.p X.d.sh.len X.d.sh.cap,.int .i64 y,.int .i64 (w64 (y + 1))] false [.sc .sl] fun r=>St ⟨m,6,none⟩ (.slice r.1.p r.1.len r.1.cap) J) w:=by
 subst hy
 refine Delete_Hold_k h.r.he.ok (Nat.le_succ i) hi (by omega) rfl (w64p (by omega)) ?_
 intro r w1 h1 f1 k1
 have s:Stp 2 T (tagL 2 r T) w w1:=Stp.row k1 (fun b hb=>(h.r.he.tag b hb).2) (fun b hb=>.inl (f1 b hb))
 refine h.uHe k1 h1 (fun b hb=>.inl (f1 b hb)) (fun x hx=>(h.r.heD x ((take_drop_sub _ _).subset hx)).kt (by decide) s) fun w2 h2 e2=>?_
 exact k r _ w2 h2 e2
theorem write1_k {w:World} {m:Nat} {T:Nat→Nat} {X:Mc} (h:MAt w m T X) (hR:RowLe X.p 100000) (hW:X.d.writes.length≤100000) (o:Op) {c:Nat} (hc:w.heap[c]?=some (.cells #[.int .i64 o.kind,.string o.key,.string o.value,.string o.lo,.string o.hi,.int .i64 o.most] 81 (0,0))) (hT:T c=0) {J:Pr}
  (k:∀ X' T' w',MAt w' m T' X'→X'.p=X.p.write1 o→Fix2 X X'→Evo T T' w w'→J w') :
  (Dr <| Nn (some ⟨m,0,none⟩) fun a28=>LdL ((a28.add 21).add 1) fun x29=>LdI .i64 ((⟨c,0,none⟩:Addr).add 0) fun x30=>LdS ((⟨c,0,none⟩:Addr).add 1) fun x31=>LdS ((⟨c,0,none⟩:Addr).add 2) fun x32=>LdS ((⟨c,0,none⟩:Addr).add 3) fun x33=>LdS ((⟨c,0,none⟩:Addr).add 4) fun x34=>LdI .i64 ((⟨c,0,none⟩:Addr).add 5) fun x35=>
   New #[(.int .i64 x30),(.string x31),(.string x32),(.string x33),(.string x34),(.int .i64 x35)] 81 fun a36=>
   Both (LdL ((a28.add 21).add 1) fun x37=>fun _=>((.slice x37.p x37.len x37.cap):Value)=(.slice x29.p x29.len x29.cap)) <|
   App 81 6 80 (zc Pg 81) x29 1 (srcS (some a36) 1 6) fun r38=>
   Nn (some ⟨m,0,none⟩) fun a39=>St ((a39.add 21).add 1) (.slice r38.p r38.len r38.cap) <|
   LdI .i64 ((⟨c,0,none⟩:Addr).add 0) fun x40=>LdS ((⟨c,0,none⟩:Addr).add 1) fun x41=>LdS ((⟨c,0,none⟩:Addr).add 2) fun x42=>LdS ((⟨c,0,none⟩:Addr).add 3) fun x43=>LdS ((⟨c,0,none⟩:Addr).add 4) fun x44=>LdI .i64 ((⟨c,0,none⟩:Addr).add 5) fun x45=>
   Cl Pg i_part_Machine_behind [(.pointer (some ⟨m,0,none⟩)),(.agg #[(.int .i64 x40),(.string x41),(.string x42),(.string x43),(.string x44),(.int .i64 x45)])] true [] fun r46=>J) w:=by
 have g0:=h.keeps0 (drewK w)
 simp only [sb,h.hd,mcC,hc,add00,Nat.reduceAdd]
 refine New_bx fun d w1 h1 n1 k1=>?_
 have g1:=g0.keeps0 k1
 simp only [sb,g1.hd,mcC,add00,Nat.reduceAdd]
 refine ⟨by trivial,?_⟩
 have hs:=g1.r.wr.ok
 have hl:=hs.len'
 refine SlC.app (ρ:=opR) (new:=[o]) hs (by rw [List.flatMap_singleton];exact box_src (ρ:=opR) (x:=o) h1) rfl (by rw [zc_Op];rfl) (by omega) (by omega) ?_
 intro r w2 h2 k2 f2
 refine g1.uWr k2 h2 f2 fun w3 h3 e3=>?_
 obtain ⟨hc3,hT3⟩:=((Evo.k0 (kp0 (drewK w) k1)).trans e3).at hc hT
 simp only [sb,hc3]
 refine behind_k h3 (fun b hb=>Nat.le_trans (hR b hb) (by decide)) o ?_
 intro X4 T4 w4 h4 q4 x4 e4
 exact k X4 T4 w4 h4 q4 ⟨x4.stb,x4.sM,x4.bx⟩ (((Evo.k0 (kp0 (drewK w) k1)).trans e3).trans e4)
theorem hat_at {X:Mc} {t:Int} (hp:POk X.p) (h:X.p.his t=true):∃ x,X.d.held[X.p.hat t]?=some x∧x.txn=t:=by
 obtain ⟨y,h1,h2⟩:=his_at hp h
 have h1':(X.d.held.map Hd.p)[X.p.hat t]?=some y:=h1
 rw [List.getElem?_map,Option.map_eq_some_iff] at h1'
 obtain ⟨x,hx,rfl⟩:=h1'
 exact ⟨x,hx,h2⟩
theorem wat_at {X:Mc} {t:Int} (hp:POk X.p) (h:X.p.wis t=true):∃ x,X.d.wait[X.p.wat t]?=some x∧x.txn=t:=by
 obtain ⟨y,h1,h2⟩:=wis_at hp h
 have h1':(X.d.wait.map Wt.p)[X.p.wat t]?=some y:=h1
 rw [List.getElem?_map,Option.map_eq_some_iff] at h1'
 obtain ⟨x,hx,rfl⟩:=h1'
 exact ⟨x,hx,h2⟩
theorem wrs_step {flag:Bool} {ops:List Op} {i:Nat} {o:Op} (ho:ops[i]?=some o) (P:PS):P.writeAll (PS.wrs flag (ops.take (i + 1)))=if flag && fWr o.kind then (P.writeAll (PS.wrs flag (ops.take i))).write1 o else P.writeAll (PS.wrs flag (ops.take i)):=by
 rw [List.take_add_one,ho]
 unfold PS.wrs
 rw [List.filter_append]
 show P.writeAll (_ ++ List.filter _ [o])=_
 rw [List.filter_cons,List.filter_nil]
 cases (flag && fWr o.kind) with
 | false=>rw [if_neg (by simp),if_neg (by simp),List.append_nil]
 | true=>
  rw [if_pos rfl,if_pos rfl]
  unfold PS.writeAll
  rw [List.foldl_append]
  rfl
theorem wrs_le (flag:Bool) (ops:List Op):(PS.wrs flag ops).length≤ops.length:=List.length_filter_le _ _
theorem wrs_ok {flag:Bool} {ops:List Op} (h:opsE ops=0):opsE (PS.wrs flag ops)=0:=by
 rw [opsE_all] at *
 exact fun o ho=>h o (List.mem_filter.1 ho).1
theorem row_all:∀ (ops:List Op) {P:PS} {n:Nat},RowLe P n→RowLe (P.writeAll ops) (n + ops.length)
 | [],P,n,h=>h
 | o :: l,P,n,h=>by
  have h1:RowLe (P.write1 o) (n + 1):=row_behind (P:={ P with writes:=P.writes ++ [o] }) h o
  have h2:=row_all l h1
  rw [List.length_cons,show n + (l.length + 1)=n + 1 + l.length by omega]
  exact h2
set_option maxHeartbeats 1000000 in
theorem decide_k {w:World} {m:Nat} {T:Nat→Nat} {X:Mc} (h:MAt w m T X) (hp:POk X.p) (hb:X.p.out.length + 1 + X.p.left≤20000) (hf:X.d.fin.length < 100000) (hw:X.d.writes.length≤900) (hR:RowLe X.p 90000) (x:Mg) {K:TR []→Pr}
  (k:∀ X' T' w',MAt w' m T' X'→X'.p=X.p.decide x.txn x.flag→Fix2 X X'→Evo T T' w w'→K () w') :
  Cl Pg i_part_Machine_decide [.pointer (some ⟨m,0,none⟩),.agg #[.int .i64 x.kind,.int .i64 x.src,.int .i64 x.dst,.int .i64 x.client,.int .i64 x.code,.int .i64 x.peer,.int .u64 x.req,.int .u64 x.boot,.int .u64 x.txn,.int .u64 x.low,.int .u64 x.ver,.int .u64 x.epoch,.int .u64 x.move,.int .u64 x.attempt,.int .u64 x.n,.bool x.flag,.string x.rlo,.string x.rhi,.slice x.so.p x.so.len x.so.cap,.slice x.sr.p x.sr.len x.sr.cap,.slice x.sw.p x.sw.len x.sw.cap]] true [] K w:=by
 refine part_Machine_decide_call _ _ _ _ _ _ _ _ _ _ _ _ _ _ _ _ _ _ _ x.so x.sr x.sw ?_
 unfold part_Machine_decide
 refine New_bx fun a w1 h1 n1 k1=>?_
 have g1:=h.keeps0 k1
 have Ta:T a=0:=h.new n1
 simp only [sb,h1]
 have o1:=hp.outX
 refine send_k g1 ⟨6,0,0,0,0,0,0,0,x.txn,0,0,0,0,0,0,false,BA [],BA [],⟨none,0,0⟩,⟨none,0,0⟩,⟨none,0,0⟩,[],[],[]⟩ (Imm.triv fun w=>⟨RdE.nil w,⟨RdE.nil w,by simp⟩,RdE.nil w⟩) (by omega) ?_
 intro so2 T2 w2 h2 e2
 obtain ⟨ha2,Ta2⟩:=e2.at h1 Ta
 have e02:Evo T T2 w w2:=(Evo.k0 k1).trans e2
 obtain ⟨X2,hX2⟩:∃ X2:Mc,X2={ X with d:={ X.d with sout:=so2,out:=X.d.out ++ [⟨6,X.c.id,0,0,0,0,0,0,x.txn,0,0,0,0,0,0,false,BA [],BA [],⟨none,0,0⟩,⟨none,0,0⟩,⟨none,0,0⟩,[],[],[]⟩] } }:=⟨_,rfl⟩
 rw [← hX2] at h2
 have q2:X2.p=X.p.ack x.txn:=by rw [hX2];unfold PS.ack PS.send Mc.p;dsimp only;rw [List.map_append];rfl
 have p2:POk X2.p:=by rw [q2];exact hp.ack _ hb
 have x2:Fix2 X X2:=by rw [hX2];exact ⟨rfl,rfl,rfl⟩
 have f2:X2.d.fin=X.d.fin:=by rw [hX2]
 have v2:X2.d.writes=X.d.writes:=by rw [hX2]
 have R2:RowLe X2.p 90000:=by rw [q2];exact hR
 have lx:=p2.lenX
 simp only [sb,ha2]
 refine held_k h2 p2.hdX (by omega) x.txn fun w3 k3=>?_
 have g3:=h2.keeps0 k3
 have ha3:=k3.at0 ha2
 have e03:=e02.trans (Evo.k0 k3)
 rw [← hat_eq,← his_eq]
 dsimp only
 have hdec:X.p.decide x.txn x.flag=if X2.p.his x.txn then match X2.p.held[X2.p.hat x.txn]? with
  | none=>X2.p
  | some y=>((X2.p.unhold (X2.p.hat x.txn)).writeAll (PS.wrs x.flag y.ops)).finish x.txn
 else if X2.p.wis x.txn then (X2.p.unwait (X2.p.wat x.txn)).finish x.txn
 else X2.p:=by rw [q2];rfl
 rw [hdec] at k
 have fin:∀ (X5:Mc) (T5:Nat→Nat) (w5:World),MAt w5 m T5 X5→POk X5.p→X5.d.fin=X.d.fin→Fix2 X X5→Evo T T5 w w5→(∀ X' T' w',MAt w' m T' X'→X'.p=X5.p.finish x.txn→Fix2 X X'→Evo T T' w w'→K () w') →
   Cl Pg i_part_Machine_finish [(.pointer (some ⟨m,0,none⟩)),(.int .u64 x.txn)] true [] (fun r64=>K ()) w5:=by
  intro X5 T5 w5 h5 p5 f5 x5 e5 hk
  refine finish_k h5 p5 (by rw [f5];exact hf) x.txn ?_
  intro X6 T6 w6 h6 q6 x6 e6
  exact hk X6 T6 w6 h6 q6 (x5.trans x6.two) (e5.trans e6)
 cases hhis:X2.p.his x.txn with
 | true=>
  obtain ⟨y,hy,hyt⟩:=hat_at p2 hhis
  have hyp:X2.p.held[X2.p.hat x.txn]?=some y.p:=by
   show (X2.d.held.map Hd.p)[X2.p.hat x.txn]?=_
   rw [List.getElem?_map,hy]
   rfl
  rw [hhis,if_pos rfl,hyp] at k
  dsimp only at k
  have hlt:=(List.getElem?_eq_some_iff.1 hy).1
  obtain ⟨v1,v2'⟩:=p2.hv y.p (List.mem_of_getElem? hyp)
  have v1:opsE y.ops=0:=v1
  have v2':y.ops.length≤24:=v2'
  have himm:=(g3.r.heD y (List.mem_of_getElem? hy))
  generalize hj:X2.p.hat x.txn=j at *
  simp only [sb,g3.hd,mcC]
  refine ld1 (ρ:=hdR) g3.r.he.ok.rde hy 1 .sl y.so rfl ?_
  simp only [sb,g3.hd,mcC]
  refine unhold_k g3 (by omega) hlt rfl ?_
  intro r4 T4 w4 h4 e4
  obtain ⟨ha4,Ta4⟩:=e4.at ha3 Ta2
  have e04:=e03.trans e4
  have himm4:=himm.evo e4
  have hyl:=himm4.ok.len
  obtain ⟨X4,hX4⟩:∃ X4:Mc,X4={ X2 with d:={ X2.d with sh:=r4,held:=X2.d.held.take j ++ X2.d.held.drop (j + 1) } }:=⟨_,rfl⟩
  rw [← hX4] at h4
  have q4:X4.p=X2.p.unhold j:=by rw [hX4];unfold PS.unhold Mc.p;dsimp only;rw [List.map_append,List.map_take,List.map_drop]
  have p4:POk X4.p:=by rw [q4];exact p2.unhold j
  have x4:Fix2 X X4:=x2.trans (by rw [hX4];exact ⟨rfl,rfl,rfl⟩)
  have f4:X4.p.fin=X.d.fin:=by rw [q4];exact f2
  have u4:X4.p.writes=X.d.writes:=by rw [q4];exact v2
  have R4:RowLe X4.p 90000:=by rw [q4];exact R2
  rw [← q4] at k
  rw [show y.p.ops=y.ops from rfl] at k
  refine ⟨fun n st w'=>∃ (i:Nat) (X1:Mc) (T1:Nat→Nat),st=((i:Int),())∧n=y.ops.length - i∧i≤y.ops.length∧MAt w' m T1 X1∧X1.p=X4.p.writeAll (PS.wrs x.flag (y.ops.take i))∧Fix2 X X1∧Evo T4 T1 w4 w',⟨_,0,X4,T4,rfl,rfl,by omega,h4,rfl,x4,Evo.refl _ _⟩,?_⟩
  rintro n _ w5 ⟨i,X5,T5,rfl,rfl,hi,h5,q5,x5,e5⟩
  obtain ⟨ha5,Ta5⟩:=e5.at ha4 Ta4
  have l1:=wrs_le x.flag (y.ops.take i)
  have l2:(y.ops.take i).length=i:=by rw [List.length_take];omega
  have ok5:opsE (PS.wrs x.flag (y.ops.take i))=0:=wrs_ok (by rw [opsE_all] at *;exact fun o ho=>v1 o (List.mem_of_mem_take ho))
  have p5:POk X5.p:=by rw [q5];exact p4.writeAll ok5 (by rw [u4];omega)
  have f5:X5.d.fin=X.d.fin:=by show X5.p.fin=_;rw [q5,writeAll_same];exact f4
  have u5:X5.d.writes=X.d.writes ++ PS.wrs x.flag (y.ops.take i):=by show X5.p.writes=_;rw [q5,writeAll_same,← u4]
  have R5:RowLe X5.p 100000:=by
   rw [q5]
   intro b hb
   have:=row_all (PS.wrs x.flag (y.ops.take i)) R4 b hb
   omega
  dsimp only
  by_cases hil:i < y.ops.length
  ·rw [decide_eq_true (by omega)]
   simp only [Br_true]
   obtain ⟨o,ho⟩:∃ o,y.ops[i]?=some o:=⟨_,List.getElem?_eq_getElem hil⟩
   have step:=wrs_step (flag:=x.flag) ho X4.p
   dsimp only [Jp]
   refine ld_Op (himm4.evo e5).ok ho ?_
   refine bx_Op o fun c w6 h6 n6 k6=>?_
   have g6:=h5.keeps0 k6
   have Tc:T5 c=0:=h5.new n6
   have ha6:=k6.at0 ha5
   simp only [sb,ha6,h6]
   have nxt:∀ (X7:Mc) (T7:Nat→Nat) (w7:World),MAt w7 m T7 X7→X7.p=X4.p.writeAll (PS.wrs x.flag (y.ops.take (i + 1)))→Fix2 X X7→Evo T4 T7 w4 w7→∃ m',m' < y.ops.length - i∧∃ (i_1:Nat) (X1:Mc) (T1:Nat→Nat),(w64 ((i:Int) + 1),())=((i_1:Int),())∧m'=y.ops.length - i_1∧i_1≤y.ops.length∧MAt w7 m T1 X1∧X1.p=X4.p.writeAll (PS.wrs x.flag (y.ops.take i_1))∧Fix2 X X1∧Evo T4 T1 w4 w7:=by
    intro X7 T7 w7 h7 q7 x7 e7
    exact ⟨y.ops.length - (i + 1),by omega,i + 1,X7,T7,by rw [w64p (by omega)],rfl,by omega,h7,q7,x7,e7⟩
   cases hfl:x.flag with
   | false=>
    simp only [sb]
    rw [hfl] at step nxt q5
    exact nxt X5 T5 w6 g6 (by rw [step];exact q5) x5 (e5.trans (Evo.k0 k6))
   | true=>
    simp only [sb,h6]
    rw [hfl] at step nxt q5
    refine Writes_k o fun w7 k7=>?_
    have g7:=g6.keeps0 k7
    have h7:=k7.at0 h6
    dsimp only
    cases hwr:fWr o.kind with
    | false=>
     rw [hwr] at step
     simp only [sb]
     exact nxt X5 T5 w7 g7 (by rw [step];exact q5) x5 (e5.trans (Evo.k0 (kp0 k6 k7)))
    | true=>
     rw [hwr] at step
     simp only [Br_true]
     refine write1_k g7 R5 (by rw [u5,List.length_append];omega) o h7 Tc ?_
     intro X8 T8 w8 h8 q8 x8 e8
     exact nxt X8 T8 w8 h8 (by rw [step,q8,q5];rfl) (x5.trans x8) ((e5.trans (Evo.k0 (kp0 k6 k7))).trans e8)
  ·rw [decide_eq_false (by omega)]
   simp only [sb,ha5]
   rw [List.take_of_length_le (by omega)] at q5
   rw [← q5] at k
   exact fin X5 T5 w5 h5 p5 f5 x5 (e04.trans e5) k
 | false=>
  rw [hhis,if_neg (by simp)] at k
  simp only [sb,ha3]
  refine waiting_k g3 p2.wtX (by omega) x.txn fun w4 k4=>?_
  have g4:=g3.keeps0 k4
  have ha4:=k4.at0 ha3
  have e04:=e03.trans (Evo.k0 k4)
  rw [← wat_eq,← wis_eq]
  dsimp only
  cases hwis:X2.p.wis x.txn with
  | false=>
   rw [hwis,if_neg (by simp)] at k
   exact k X2 T2 w4 g4 rfl x2 e04
  | true=>
   rw [hwis,if_pos rfl] at k
   obtain ⟨y,hy,hyt⟩:=wat_at p2 hwis
   have hlt:=(List.getElem?_eq_some_iff.1 hy).1
   have hyp:X2.p.wait[X2.p.wat x.txn]?=some y.p:=by
    show (X2.d.wait.map Wt.p)[X2.p.wat x.txn]?=_
    rw [List.getElem?_map,hy]
    rfl
   obtain ⟨pu,_⟩:=p2.unwait hyp
   generalize hj:X2.p.wat x.txn=j at *
   simp only [sb,g4.hd,mcC]
   refine unwait_k g4 (by omega) hlt rfl ?_
   intro r5 T5 w5 h5 e5
   obtain ⟨ha5,Ta5⟩:=e5.at ha4 Ta2
   obtain ⟨X5,hX5⟩:∃ X5:Mc,X5={ X2 with d:={ X2.d with sw:=r5,wait:=X2.d.wait.take j ++ X2.d.wait.drop (j + 1) } }:=⟨_,rfl⟩
   rw [← hX5] at h5
   have q5:X5.p=X2.p.unwait j:=by rw [hX5];unfold PS.unwait Mc.p;dsimp only;rw [List.map_append,List.map_take,List.map_drop]
   rw [← q5] at k pu
   simp only [sb,ha5]
   exact fin X5 T5 w5 h5 pu (by rw [hX5];exact f2) (x2.trans (by rw [hX5];exact ⟨rfl,rfl,rfl⟩)) (e04.trans e5) k
end Go.Proofs.YthkdehgfdllpoaaGreat
set_option linter.unusedVariables false
set_option linter.unusedSimpArgs false
namespace Go.Proofs.YthkdehgfdllpoaaGreat
open Go Go.Sx
namespace PS
def lowUp (P:PS) (low:Int):PS:=if P.c.low < low then { P with c:={ P.c with low:=low },fin:=P.fin.filter (fun n=>!(Decidable.decide (n < low))) } else P
def gone (P:PS) (t:Int):Bool:=Decidable.decide (t < P.c.low) || P.fin.contains t || P.wis t
def foreign (P:PS) (o:Op):Bool:=Decidable.decide (opE o ≠ 0) || !owns P.owners P.c.id (spanO o).1 (spanO o).2
def full (P:PS):Bool:=Decidable.decide (6≤P.held.length + P.wait.length) || Decidable.decide (64≤P.held.length + P.wait.length + P.fin.length)
def refuses (P:PS) (epoch:Int) (ops:List Op):Bool:=Decidable.decide (epoch ≠ P.c.epoch) || (P.full || (ops.any P.foreign || P.closed ops))
def await (P:PS) (t:Int) (ops:List Op):PS:={ P with wait:=P.wait.take (P.wat t) ++ ⟨t,ops,ops.map lockO,0⟩ :: P.wait.drop (P.wat t) }
def works (P:PS) (t epoch:Int) (ops:List Op):PS:=
 if P.gone t then P
 else if P.his t then match P.held[P.hat t]? with
  | none=>P
  | some x=>P.vote t 3 (P.results x.ops)
 else if P.refuses epoch ops then P.vote t 4 []
 else ((P.await t ops).goes 30 t).through fuelT
def work (P:PS) (t low epoch:Int) (ops:List Op):PS:=(P.lowUp low).works t epoch ops
end PS
theorem POk.lowUp {P:PS} (h:POk P) (low:Int):POk (P.lowUp low):=by
 unfold PS.lowUp
 split
 ·exact ⟨h.wt,h.hd,h.dj,h.fn.filter _,h.tb,h.wv,h.hv,h.mp,h.mn,h.wr,h.wn,h.er,h.bd,h.hn,Nat.le_trans (List.length_filter_le _ _) h.fl⟩
 ·exact h
theorem lowUp_out (P:PS) (low:Int):(P.lowUp low).out=P.out:=by unfold PS.lowUp;split <;> rfl
theorem lowUp_left (P:PS) (low:Int):(P.lowUp low).left=P.left:=by unfold PS.lowUp;split <;> rfl
theorem POk.await {P:PS} (h:POk P) {t:Int} {ops:List Op} (ho:opsE ops=0) (hl:ops.length≤24) (hw:∀ x∈P.wait,x.txn ≠ t) (hn:∀ x∈P.held,x.txn ≠ t) (hc:P.held.length + P.wait.length < 1000) (hb:P.out.length + P.left + 60≤20000):POk (P.await t ops)∧(P.await t ops).out.length + (P.await t ops).left≤P.out.length + P.left + 49:=by
 have hmem:∀ y,y∈P.wait.take (P.wat t) ++ ⟨t,ops,ops.map lockO,0⟩ :: P.wait.drop (P.wat t)→y=⟨t,ops,ops.map lockO,0⟩∨y∈P.wait:=by
  intro y hy
  rcases List.mem_append.1 hy with hy | hy
  ·exact .inr (List.mem_of_mem_take hy)
  ·rcases List.mem_cons.1 hy with hy | hy
   ·exact .inl hy
   ·exact .inr (List.mem_of_mem_drop hy)
 have hle:P.wat t≤P.wait.length:=bsAt_le _ _
 have hlen:(P.wait.take (P.wat t) ++ (⟨t,ops,ops.map lockO,0⟩:PW) :: P.wait.drop (P.wat t)).length=P.wait.length + 1:=by
  rw [List.length_append,List.length_cons,List.length_take,List.length_drop]
  omega
 have hsum:((P.wait.take (P.wat t) ++ (⟨t,ops,ops.map lockO,0⟩:PW) :: P.wait.drop (P.wat t)).map PS.rem1).sum=(P.wait.map PS.rem1).sum + ops.length:=by
  conv=>rhs;rw [← List.take_append_drop (P.wat t) P.wait]
  simp only [List.map_append,List.sum_append,List.map_cons,List.sum_cons]
  have:PS.rem1 ⟨t,ops,ops.map lockO,0⟩=ops.length:=by unfold PS.rem1;simp
  omega
 have hbb:(P.await t ops).out.length + (P.await t ops).left≤P.out.length + P.left + 49:=by
  unfold PS.await PS.left
  dsimp only
  rw [hsum,hlen]
  omega
 refine ⟨⟨ins_up (f:=PW.txn) (x:=⟨t,ops,ops.map lockO,0⟩) h.wt hw,h.hd,fun x hx y hy=>?_,h.fn,h.tb,fun y hy=>?_,h.hv,h.mp,h.mn,h.wr,h.wn,h.er,by omega,?_,h.fl⟩,hbb⟩
 ·rcases hmem x hx with rfl | hx
  ·exact Ne.symm (hn y hy)
  ·exact h.dj x hx y hy
 ·rcases hmem y hy with rfl | hy
  ·exact ⟨ho,hl,rfl,by simp,by simp⟩
  ·exact h.wv y hy
 ·show P.held.length + (P.wait.take (P.wat t) ++ _ :: P.wait.drop (P.wat t)).length≤1000
  rw [hlen]
  omega
end Go.Proofs.YthkdehgfdllpoaaGreat
set_option linter.unusedVariables false
set_option linter.unusedSimpArgs false
namespace Go.Proofs.YthkdehgfdllpoaaGreat
open Go Go.Sx
theorem foreign_k {w:World} {m:Nat} {T:Nat→Nat} {X:Mc} (h:MAt w m T X) {a:Nat} (ha:w.heap[a]?=some (.cells #[.pointer (some ⟨m,0,none⟩)] 28 (0,0))) (hN:X.d.owners.length≤1000000) {so:Sl} {ops:List Op} (ho:RdE opR w so ops) (hl:ops.length≤1000000) {K:TR [.sc .b]→Pr}
  (k:∀ w',Keeps [] w w'→K (ops.any X.p.foreign,()) w'):Cl Pg i_slices_ContainsFunc_Op [.slice so.p so.len so.cap,.func (.func 119) #[] #[.pointer (some ⟨a,0,none⟩)]] false [.sc .b] K w:=by
 refine ContainsFunc_Op_k (p:=X.p.foreign) (F:=fun _=>False) ho ?_ (by omega) fun w2 k2=>k w2 k2
 intro w2 k2 x _ K1 hK
 have k2:=k2.toL0
 have g2:=h.keeps0 k2
 have a2:=k2.at0 ha
 refine CallV_fn (by kernel_rfl) ?_
 refine part_Machine_work_2_call _ _ _ _ _ _ _ ?_
 unfold part_Machine_work_2
 refine New_bx fun c w3 h3 n3 k3=>?_
 simp only [sb,h3]
 refine Span_k x fun w4 k4=>?_
 refine New_bx fun d w5 h5 n5 k5=>?_
 have k25:=kp0 (kp0 k3 k4) k5
 refine put2 h5 rfl rfl fun w6 h6 k6=>?_
 have k26:=kp1 k25 k6 (by have:=k3.size;have:=k4.size;omega)
 have g6:=g2.keeps0 k26
 have a6:=k26.at0 a2
 have a6d:w6.drew.heap[a]?=_:=a6
 by_cases he:opE x=0
 ·simp only [he,if_true,sb,a6,g6.hd,mcC,h6,show ((0:Int) != 0)=false from rfl]
  refine Owns_k (g6.keeps0 (drewK w6)).r.ow.ok hN _ _ _ fun w7 k7=>?_
  have:=hK w7 (kp0 k26.drew k7)
  unfold PS.foreign at this
  rw [decide_eq_false (by simpa using he),Bool.false_or] at this
  exact this
 ·rw [if_neg he]
  simp only [sb]
  rw [show ((opE x:Int) != 0)=true from by simpa using he]
  have:=hK _ k26.drew
  unfold PS.foreign at this
  rw [decide_eq_true he,Bool.true_or] at this
  exact this
set_option maxHeartbeats 2000000 in
theorem work_k {w:World} {m:Nat} {T:Nat→Nat} {X:Mc} (h:MAt w m T X) (hp:POk X.p) (hb:X.p.out.length + X.p.left + 60≤20000) (hO:X.d.owners.length≤1000000) (x:Mg) (hx:Imm T (MgD x) w) (ho:opsE x.ops=0) (hl:x.ops.length≤24) {K:TR []→Pr}
  (k:∀ X' T' w',MAt w' m T' X'→X'.p=X.p.work x.txn x.low x.epoch x.ops→Fix2 X X'→Evo T T' w w'→K () w') :
  Cl Pg i_part_Machine_work [.pointer (some ⟨m,0,none⟩),.agg #[.int .i64 x.kind,.int .i64 x.src,.int .i64 x.dst,.int .i64 x.client,.int .i64 x.code,.int .i64 x.peer,.int .u64 x.req,.int .u64 x.boot,.int .u64 x.txn,.int .u64 x.low,.int .u64 x.ver,.int .u64 x.epoch,.int .u64 x.move,.int .u64 x.attempt,.int .u64 x.n,.bool x.flag,.string x.rlo,.string x.rhi,.slice x.so.p x.so.len x.so.cap,.slice x.sr.p x.sr.len x.sr.cap,.slice x.sw.p x.sw.len x.sw.cap]] true [] K w:=by
 refine part_Machine_work_call _ _ _ _ _ _ _ _ _ _ _ _ _ _ _ _ _ _ _ x.so x.sr x.sw ?_
 unfold part_Machine_work
 refine New_bx fun a w1 h1 n1 k1=>?_
 have g1:=h.keeps0 k1
 have Ta:T a=0:=h.new n1
 refine New_bx fun b w2 h2 n2 k2=>?_
 have g2:=g1.keeps0 k2
 have h1:=k2.at0 h1
 have Tb:T b=0:=g1.new n2
 have k02:=kp0 k1 k2
 obtain ⟨f0,hf0⟩:∃ o,o=(Obj.cells #[.int .i64 x.kind,.int .i64 x.src,.int .i64 x.dst,.int .i64 x.client,.int .i64 x.code,.int .i64 x.peer,.int .u64 x.req,.int .u64 x.boot,.int .u64 x.txn,.int .u64 x.low,.int .u64 x.ver,.int .u64 x.epoch,.int .u64 x.move,.int .u64 x.attempt,.int .u64 x.n,.bool x.flag,.string x.rlo,.string x.rhi,.slice x.so.p x.so.len x.so.cap,.slice x.sr.p x.sr.len x.sr.cap,.slice x.sw.p x.sw.len x.sw.cap] 47 (0,0)):=⟨_,rfl⟩
 refine Jp_of (fun _ w3=>∃ X3 T3,MAt w3 m T3 X3∧X3.p=X.p.lowUp x.low∧Fix2 X X3∧Evo T T3 w2 w3) (fun J hJ=>?_) ?_
 ·have hge:decide (x.low > X.c.low)=decide (X.p.c.low < x.low):=rfl
  simp only [sb,h1,h2,g2.hd,mcC]
  by_cases hlow:X.p.c.low < x.low
  ·rw [hge,decide_eq_true hlow]
   simp only [sb,h1,h2]
   have h1d:w2.drew.heap[a]?=_:=h1
   refine MAt.set (X':={ X with c:={ X.c with low:=x.low } }) (show w2.drew.heap[m]?=_ from g2.hd) g2.t1 (g2.keeps0 (drewK w2)).r (i:=8) (by decide) rfl rfl fun w3 h3 s3=>?_
   have e3:Evo T T w2 w3:=(Evo.k0 (drewK w2)).trans (s3.evo (by decide))
   obtain ⟨a3,_⟩:=e3.at h1 Ta
   obtain ⟨b3,_⟩:=e3.at h2 Tb
   simp only [sb,a3,b3,h3.hd,mcC]
   have g3:=h3.keeps0 (drewK w3)
   refine DeleteFunc_uint64_k (p:=fun n:Int=>decide (n < x.low)) g3.r.fi.ok ?_ (by have:=hp.fl;exact Nat.le_trans this (by omega)) ?_
   ·intro w4 k4 y _ K1 hK
    refine CallV_fn (by kernel_rfl) ?_
    refine part_Machine_work_1_call _ _ ?_
    unfold part_Machine_work_1
    have b4:w4.heap[b]?=_:=(k4.get b (hp_lt b3) (fun hb=>by have:=(g3.r.fi.tag b hb).2;rw [Tb] at this;cases this)).trans b3
    simp only [sb,b4]
    exact hK w4 (Keeps.refl _ _)
   ·intro r w4 h4 f4 k4
    have a4:w4.heap[a]?=_:=k4.at (show w3.drew.heap[a]?=_ from a3) (fun hb=>by have:=(g3.r.fi.tag a hb).2;rw [Ta] at this;cases this)
    have m4:w4.heap[m]?=_:=k4.at (show w3.drew.heap[m]?=_ from h3.hd) (fun hb=>by have:=(g3.r.fi.tag m hb).2;have:=h3.t1;omega)
    simp only [sb,a4]
    refine ⟨by trivial,?_⟩
    refine g3.uFi k4 h4 (fun y hy=>.inl (f4 y hy)) fun w5 h5 e5=>?_
    refine hJ () w5 ⟨_,_,h5,?_,⟨rfl,rfl,rfl⟩,(e3.trans (Evo.k0 (drewK w3))).trans e5⟩
    unfold PS.lowUp
    rw [if_pos hlow]
    rfl
  ·rw [hge,decide_eq_false hlow]
   simp only [sb]
   refine hJ () _ ⟨X,T,g2.keeps0 (drewK w2),?_,Fix2.refl _,Evo.k0 (drewK w2)⟩
   unfold PS.lowUp
   rw [if_neg hlow]
 ·rintro _ w3 ⟨X3,T3,h3,q3,x3,e3⟩
  obtain ⟨a3,Ta3⟩:=e3.at h1 Ta
  obtain ⟨b3,Tb3⟩:=e3.at h2 Tb
  have x3i:=(hx.keeps0 k02).evo e3
  have e03:Evo T T3 w w3:=(Evo.k0 k02).trans e3
  have p3:POk X3.p:=by rw [q3];exact hp.lowUp _
  have O3:X3.d.owners.length≤1000000:=by show X3.p.owners.length≤_;rw [q3];unfold PS.lowUp;split <;> exact hO
  have hb3:X3.p.out.length + X3.p.left + 60≤20000:=by rw [q3,lowUp_out,lowUp_left];exact hb
  have lx:=p3.lenX
  have ox:=p3.outX
  have k:∀ X' T' w',MAt w' m T' X'→X'.p=X3.p.works x.txn x.epoch x.ops→Fix2 X3 X'→Evo T3 T' w3 w'→K () w':=by
   intro X' T' w' h' q' x' e'
   refine k X' T' w' h' ?_ (x3.trans x') (e03.trans e')
   rw [q',q3]
   rfl
  clear hb hO hp q3 x3 e3 e03 hx
  simp only [sb,a3,b3]
  refine waiting_k h3 p3.wtX (by omega) x.txn fun w4 k4=>?_
  have g4:=h3.keeps0 k4
  have a4:=k4.at0 a3
  have b4:=k4.at0 b3
  rw [← wat_eq,← wis_eq]
  dsimp only
  refine Jp_b (X3.p.gone x.txn) (fun J hJ=>?_) fun w5 k5=>?_
  ·simp only [sb,a4,b4,g4.hd,mcC]
   have hge:decide (x.txn < X3.c.low)=decide (x.txn < X3.p.c.low):=rfl
   unfold PS.gone at hJ
   cases hlow:decide (x.txn < X3.c.low) with
   | true=>
    rw [← hge,hlow] at hJ
    simp only [sb]
    exact hJ _ (drewK w4)
   | false=>
    rw [← hge,hlow,Bool.false_or] at hJ
    simp only [sb,a4,b4,g4.hd,mcC]
    refine Contains_k (g4.keeps0 (drewK w4)).r.fi.ok.rde x.txn (by have:=p3.fl;exact Nat.le_trans this (by omega)) ?_
    dsimp only
    rw [show X3.p.fin=X3.d.fin from rfl] at hJ
    cases hc:X3.d.fin.contains x.txn with
    | true=>rw [hc,Bool.true_or] at hJ;exact hJ _ (drewK w4)
    | false=>rw [hc,Bool.false_or] at hJ;exact hJ _ (drewK w4)
  ·have g5:=g4.keeps0 k5
   have k35:=kp0 k4 k5
   have a5:=k35.at0 a3
   have b5:=k35.at0 b3
   unfold PS.works at k
   cases hg:X3.p.gone x.txn with
   | true=>
    rw [hg,if_pos rfl] at k
    exact k X3 T3 w5 g5 rfl (Fix2.refl _) (Evo.k0 k35)
   | false=>
    rw [hg,if_neg (by simp)] at k
    simp only [Br_false,sb,a5,b5]
    refine held_k g5 p3.hdX (by omega) x.txn fun w6 k6=>?_
    have g6:=g5.keeps0 k6
    have k36:=kp0 k35 k6
    have a6:=k36.at0 a3
    have b6:=k36.at0 b3
    rw [← hat_eq,← his_eq]
    dsimp only
    cases hh:X3.p.his x.txn with
    | true=>
     obtain ⟨y,hy,hyt⟩:=hat_at p3 hh
     have hyp:X3.p.held[X3.p.hat x.txn]?=some y.p:=by
      show (X3.d.held.map Hd.p)[X3.p.hat x.txn]?=_
      rw [List.getElem?_map,hy]
      rfl
     rw [hh,if_pos rfl,hyp] at k
     dsimp only at k
     obtain ⟨v1,v2⟩:=p3.hv y.p (List.mem_of_getElem? hyp)
     have v1:opsE y.ops=0:=v1
     have v2:y.ops.length≤24:=v2
     have a6d:w6.drew.heap[a]?=_:=a6
     have g6d:=g6.keeps0 (drewK w6)
     simp only [sb,a6,b6,g6.hd,mcC]
     refine ld1 (ρ:=hdR) g6d.r.he.ok.rde hy 1 .sl y.so rfl ?_
     refine results_k g6d p3.mp (Nat.le_trans p3.mn (by omega)) p3.wr (Nat.le_trans p3.wn (by omega)) (g6d.r.heD y (List.mem_of_getElem? hy)).ok v1 (by omega) ?_
     intro sr rs w7 k7 ir7 hrs
     have k37:=kp0 k36.drew k7
     have a7:=k37.at0 a3
     have b7:=k37.at0 b3
     have g7:=g6d.keeps0 k7
     simp only [sb,a7,b7]
     refine ⟨by trivial,by trivial,?_⟩
     refine vote_k g7 x.txn 3 sr rs ir7 (by omega) ?_
     intro so' T8 w8 h8 e8
     refine k _ T8 w8 h8 ?_ ⟨rfl,rfl,rfl⟩ ((Evo.k0 k37).trans e8)
     show Mc.p _=X3.p.vote x.txn 3 (X3.p.results y.ops)
     unfold PS.vote PS.send PS.results
     rw [show (applyM (applyM X3.p.M X3.p.writes).1 y.ops).2=rs.map Rs.p from hrs.symm]
     unfold Mc.p
     dsimp only
     rw [List.map_append]
     rfl
    | false=>
     rw [hh,if_neg (by simp)] at k
     have a6d:w6.drew.heap[a]?=_:=a6
     simp only [sb,a6,b6,g6.hd,mcC]
     have g6d:=g6.keeps0 (drewK w6)
     have k36:=k36.drew
     have lh:=g6d.r.he.ok.len'
     have lw:=g6d.r.wa.ok.len'
     have lf:X3.d.sf.len=X3.d.fin.length:=nm_len g6d.r.fi.ok.rde
     have xi6:=x3i.keeps0 k36
     refine Jp_b (X3.p.refuses x.epoch x.ops) (fun J hJ=>?_) fun w7 k7=>?_
     ·have hJ:∀ c w',X3.p.refuses x.epoch x.ops=c→Keeps [] w6.drew w'→J (c,()) w':=fun c w' e k=>by rw [← e];exact hJ w' k
      have kd:Keeps [] w6.drew w6.drew.drew:=drewK _
      have h4:X3.p.held.length=X3.d.held.length:=List.length_map _
      have h5:X3.p.wait.length=X3.d.wait.length:=List.length_map _
      have h6:X3.p.fin.length=X3.d.fin.length:=rfl
      have hfl:=p3.fl
      simp only [sb,a6,b6,g6.hd,mcC]
      unfold PS.refuses PS.full at hJ
      by_cases c1:x.epoch=X3.c.epoch
      ·rw [show ((x.epoch:Int) != X3.c.epoch)=false from by simpa using c1]
       rw [decide_eq_false (show ¬ (x.epoch ≠ X3.p.c.epoch) from fun h=>h c1),Bool.false_or] at hJ
       simp only [Br_false]
       rw [lh,lw,w64_in (by omega) (by omega)]
       by_cases c2:6≤X3.d.held.length + X3.d.wait.length
       ·rw [decide_eq_true (by omega)]
        simp only [Br_true]
        refine hJ _ _ ?_ kd
        rw [decide_eq_true (show 6≤X3.p.held.length + X3.p.wait.length by omega),Bool.true_or,Bool.true_or]
       ·rw [decide_eq_false (by omega)]
        rw [decide_eq_false (show ¬ 6≤X3.p.held.length + X3.p.wait.length by omega),Bool.false_or] at hJ
        simp only [sb,a6,b6,g6.hd,mcC]
        rw [lf,w64_in (by omega) (by omega)]
        by_cases c3:64≤X3.d.held.length + X3.d.wait.length + X3.d.fin.length
        ·rw [decide_eq_true (by omega)]
         simp only [Br_true]
         refine hJ _ _ ?_ kd
         rw [decide_eq_true (show 64≤X3.p.held.length + X3.p.wait.length + X3.p.fin.length by omega),Bool.true_or]
        ·rw [decide_eq_false (by omega)]
         rw [decide_eq_false (show ¬ 64≤X3.p.held.length + X3.p.wait.length + X3.p.fin.length by omega),Bool.false_or] at hJ
         simp only [sb,a6,b6,g6.hd,mcC]
         refine foreign_k (g6d.keeps0 kd) (show w6.drew.drew.heap[a]?=_ from a6) O3 (xi6.ok.1.keeps0 kd) (by omega) fun w7 k7=>?_
         have k67:=kp0 kd k7
         have g7:=g6d.keeps0 k67
         have a7:=k67.at0 (show w6.drew.heap[a]?=_ from a6)
         have b7:=k67.at0 (show w6.drew.heap[b]?=_ from b6)
         dsimp only
         cases hfo:x.ops.any X3.p.foreign with
         | true=>
          simp only [Br_true]
          refine hJ _ _ ?_ k67
          rw [hfo,Bool.true_or]
         | false=>
          rw [hfo,Bool.false_or] at hJ
          simp only [sb,a7,b7]
          refine closed_k g7 (xi6.ok.1.keeps0 k67) (by omega) fun w8 k8=>?_
          exact hJ _ _ rfl (kp0 k67 k8)
      ·rw [show ((x.epoch:Int) != X3.c.epoch)=true from by simpa using c1]
       simp only [Br_true]
       refine hJ _ _ ?_ kd
       rw [decide_eq_true (show x.epoch ≠ X3.p.c.epoch from c1),Bool.true_or]
     ·have g7:=g6d.keeps0 k7
      have k37:=kp0 k36 k7
      have a7:=k37.at0 a3
      have b7:=k37.at0 b3
      have xi7:=x3i.keeps0 k37
      cases hr:X3.p.refuses x.epoch x.ops with
      | true=>
       rw [hr,if_pos rfl] at k
       simp only [sb,a7,b7]
       refine vote_k g7 x.txn 4 ⟨none,0,0⟩ [] (Imm.triv fun w=>⟨RdE.nil w,by simp⟩) (by omega) ?_
       intro so' T8 w8 h8 e8
       refine k _ T8 w8 h8 ?_ ⟨rfl,rfl,rfl⟩ ((Evo.k0 k37).trans e8)
       show Mc.p _=X3.p.vote x.txn 4 []
       unfold PS.vote PS.send Mc.p
       dsimp only
       rw [List.map_append]
       rfl
      | false=>
       rw [hr,if_neg (by simp)] at k
       have hwis:X3.p.wis x.txn=false:=by unfold PS.gone at hg;simp only [Bool.or_eq_false_iff] at hg;exact hg.2
       have hful:X3.p.full=false:=by unfold PS.refuses at hr;simp only [Bool.or_eq_false_iff] at hr;exact hr.2.1
       have hc:X3.p.held.length + X3.p.wait.length < 6:=by unfold PS.full at hful;simp only [Bool.or_eq_false_iff,decide_eq_false_iff_not] at hful;omega
       obtain ⟨p8,b8⟩:=p3.await ho hl (wis_not p3 hwis) (his_not p3 hh) (by omega) hb3
       simp only [sb,a7,b7]
       refine Locks_k xi7.ok.1 (by omega) ?_ (fun h=>absurd ho h)
       intro _ rk w8 h8 f8 k8
       have k38:=kp0 k37 k8
       have a8:=k38.at0 a3
       have b8':=k38.at0 b3
       have g8:=g7.keeps0 k8
       have xi8:=xi7.keeps0 k8
       have g8d:=g8.keeps0 (drewK w8)
       have imk:Imm T3 (fun w=>RdE lkR w rk (x.ops.map lockO)) w8:=Imm.of h8.rde fun y hy=>g7.new (f8 y (h8.rb y hy))
       simp only [sb,a8,b8',g8.hd,mcC]
       refine Clone_Op_k (xi8.ok.1.keeps0 (drewK w8)) (by omega) ?_
       intro rc w9 h9 f9 k9
       have k89:=kp0 (drewK w8) k9
       have k39:=kp0 k38 k89
       have a9:=k39.at0 a3
       have b9:=k39.at0 b3
       have g9:=g8.keeps0 k89
       have imc:Imm T3 (fun w=>RdE opR w rc x.ops) w9:=Imm.of h9.rde fun y hy=>g8d.new (f9 y (h9.rb y hy))
       simp only [sb,a9,b9,g9.hd,mcC]
       refine ⟨by trivial,by trivial,by trivial,by trivial,?_⟩
       refine New_bx fun c w10 h10 n10 k10=>?_
       have k310:=kp0 k39 k10
       have a10:=k310.at0 a3
       have b10:=k310.at0 b3
       have g10:=g9.keeps0 k10
       simp only [sb,a10,b10,g10.hd,mcC]
       refine ⟨by trivial,by trivial,by trivial,?_⟩
       have hle:X3.p.wat x.txn≤X3.d.wait.length:=by rw [wat_eq];exact bsAt_le _ _
       refine Insert_wait_k (x:=⟨x.txn,rc,rk,0,x.ops,x.ops.map lockO⟩) g10.r.wa.ok h10 (fun hy=>by have:=(g10.r.wa.tag c hy).2;rw [g9.new n10] at this;cases this) hle (by omega) ?_
       intro r w11 h11 f11 k11
       have a11:w11.heap[a]?=_:=k11.at a10 (fun hb=>by have:=(g10.r.wa.tag a hb).2;rw [Ta3] at this;cases this)
       have b11:w11.heap[b]?=_:=k11.at b10 (fun hb=>by have:=(g10.r.wa.tag b hb).2;rw [Tb3] at this;cases this)
       have s11:Stp 4 T3 (tagL 4 r T3) w10 w11:=Stp.row k11 (fun y hy=>(g10.r.wa.tag y hy).2) f11
       simp only [sb,a11]
       refine ⟨by trivial,?_⟩
       refine g10.uWa k11 h11 f11 (fun y hy=>?_) fun w12 h12 e12=>?_
       ·rcases List.mem_append.1 hy with hy | hy
        ·exact (g10.r.waD y (List.mem_of_mem_take hy)).kt (by decide) s11
        ·rcases List.mem_cons.1 hy with rfl | hy
         ·exact ((imc.keeps0 k10).and (imk.keeps0 (kp0 k89 k10))).kt (by decide) s11
         ·exact (g10.r.waD y (List.mem_of_mem_drop hy)).kt (by decide) s11
       obtain ⟨a12,Ta12⟩:=e12.at a10 Ta3
       obtain ⟨b12,Tb12⟩:=e12.at b10 Tb3
       have e312:=(Evo.k0 k310).trans e12
       obtain ⟨X4,hX4⟩:∃ X4:Mc,X4={ X3 with d:={ X3.d with sw:=r,wait:=X3.d.wait.take (X3.p.wat x.txn) ++ ⟨x.txn,rc,rk,0,x.ops,x.ops.map lockO⟩ :: X3.d.wait.drop (X3.p.wat x.txn) } }:=⟨_,rfl⟩
       rw [← hX4] at h12
       have q4:X4.p=X3.p.await x.txn x.ops:=by rw [hX4];unfold PS.await Mc.p;dsimp only;rw [List.map_append,List.map_cons,List.map_take,List.map_drop];rfl
       rw [← q4] at p8 k
       simp only [sb,a12,b12]
       refine goes_k h12 p8 x.txn fun X5 T5 w13 h13 q5 x5 e13=>?_
       obtain ⟨a13,Ta13⟩:=e13.at a12 Ta12
       have p9:=(p8.goes 30 (t:=x.txn)).1
       rw [← q5] at p9 k
       simp only [sb,a13]
       refine through_k h13 p9 fun X6 T6 w14 h14 q6 x6 e14=>?_
       refine k X6 T6 w14 h14 q6 (Fix2.trans (by rw [hX4];exact ⟨rfl,rfl,rfl⟩) (x5.trans x6).two) ((e312.trans e13).trans e14)
end Go.Proofs.YthkdehgfdllpoaaGreat
set_option linter.unusedVariables false
set_option linter.unusedSimpArgs false
namespace Go.Proofs.YthkdehgfdllpoaaGreat
open Go Go.Sx
abbrev ekI (k:IntKind):Int→Value:=fun x=>.int k x
theorem NewMap_k {κ:Type} [DecidableEq κ] {ek:κ→Value} {K:Nat→Pr} {w:World} (hk:∀ m w',MpR w' m ek ([]:List (κ × Value))→w.heap.size≤m→Keeps [] w w'→K m w'):NewObj (.map #[] 0) K w:=
 hk _ _ (MpR.new w ek) (Nat.le_refl _) ((Keeps.refl _ _).alloc _)
theorem mset_k {k:IntKind} {w:World} {m:Nat} {kv:List (Int × Value)} (h:MpR w m (ekI k) kv) (x:Int) (v:Value) (hn:afind x kv 0=none) {K:Pr} (hk:∀ w',MpR w' m (ekI k) (kv ++ [(x,v)])→Keeps [m] w w'→K w'):MSet (.int k) (some m) (.int k x) v K w:=by
 refine MSet_of (keyOk_int k) h x v fun w' h' k'=>hk w' ?_ k'
 rw [(afind_none hn).2.1 v] at h'
 exact h'
theorem LkA_some {k:IntKind} {w:World} {m:Nat} {kv:List (Int × Value)} {ks:List Kd} {z:Value} (h:MpR w m (ekI k) kv) {x:Int} {y:Tup ks} {K:Tup ks→Bool→Pr} (hg:aget x kv=some (.agg (encs ks y).toArray)) (hk:K y true w):LkA ks z (.int k) (some m) (.int k x) K w:=
 Lk_of (keyOk_int k) h x (by rw [hg];exact ⟨y,rfl,hk⟩)
theorem LkA_none {k:IntKind} {w:World} {m:Nat} {kv:List (Int × Value)} {ks:List Kd} (h:MpR w m (ekI k) kv) {x:Int} {y:Tup ks} {K:Tup ks→Bool→Pr} (hg:aget x kv=none) (hk:K y false w):LkA ks (.agg (encs ks y).toArray) (.int k) (some m) (.int k x) K w:=
 Lk_of (keyOk_int k) h x (by rw [hg];exact ⟨y,rfl,hk⟩)
abbrev fW:List Kd:=[.s,.v,.v,.v]
abbrev fn0 (f:FuncId):Value:=.func (.func f) #[] #[]
abbrev fmT (s:List UInt8) (a b c:FuncId):Tup fW:=(BA s,fn0 a,fn0 b,fn0 c,())
def formsW:List (Int × Tup fW):=[(1,fmT [113,98,111] i_wire_client i_wire_coord i_wire_formOf_1),(2,fmT [113,98,99,115] i_wire_coord i_wire_client i_wire_formOf_2),(3,fmT [116,108,101,111] i_wire_coord i_wire_shard i_wire_formOf_3),(4,fmT [116,99,115] i_wire_shard i_wire_coord i_wire_formOf_4),(5,fmT [116,102] i_wire_coord i_wire_shard i_wire_whatever),(6,fmT [116] i_wire_shard i_wire_coord i_wire_whatever),(7,fmT [116] i_wire_shard i_wire_coord i_wire_whatever),(8,fmT [118,101,109,119] i_wire_coord i_wire_shard i_wire_formOf_5),(9,fmT [118] i_wire_shard i_wire_coord i_wire_whatever),(10,fmT [118,109,112,102,114] i_wire_coord i_wire_shard i_wire_formOf_6),(11,fmT [109,97,110,114,111] i_wire_shard i_wire_shard i_wire_formOf_7),(12,fmT [109,97,110] i_wire_shard i_wire_shard i_wire_formOf_8),(13,fmT [109] i_wire_shard i_wire_coord i_wire_whatever),(14,fmT [109] i_wire_shard i_wire_coord i_wire_whatever)]
def fmKv:List (Int × Value):=formsW.map fun p=>(p.1,.agg (encs fW p.2).toArray)
def fmZ:Tup fW:=(BA [],Value.nilFunc,Value.nilFunc,Value.nilFunc,())
def agetT {α:Type} (k:Int):List (Int × α)→Option α
 | []=>none
 | p :: r=>if k=p.1 then some p.2 else agetT k r
theorem agetT_mem {α:Type} {k:Int}:∀ {l:List (Int × α)} {y:α},agetT k l=some y→(k,y)∈l
 | p :: r,y,h=>by
  simp only [agetT] at h
  split at h
  ·rename_i hk
   injection h with h
   subst hk h
   exact List.mem_cons_self
  ·exact List.mem_cons_of_mem _ (agetT_mem h)
theorem forms_oneW:∀ {k:Int} {y:Tup fW},(k,y)∈formsW→∀ v∈encs fW y,v.oneCell'=true:=by
 intro k y h
 have:∀ p∈formsW,(encs fW p.2).all (·.oneCell')=true:=by unfold formsW;simp [encs,Kd.enc,Value.oneCell']
 exact fun v hv=>List.all_eq_true.1 (this _ h) v hv
theorem fm_get (k:Int):∀ l:List (Int × Tup fW),aget k (l.map fun p=>(p.1,(.agg (encs fW p.2).toArray:Value)))=(agetT k l).map fun y=>(.agg (encs fW y).toArray:Value)
 | []=>rfl
 | p :: l=>by
  rw [List.map_cons]
  simp only [aget,agetT]
  split
  ·rfl
  ·exact fm_get k l
set_option maxHeartbeats 4000000 in
theorem formW_k (kind:Int) {w:World} {K:TR [.ag fW,.sc .b]→Pr} (k:∀ w',Keeps [] w w'→K ((agetT kind formsW).getD fmZ,(agetT kind formsW).isSome,()) w'):Cl Pg i_wire_formOf [.int .i64 kind] true [.ag fW,.sc .b] K w:=by
 refine wire_formOf_call _ ?_
 unfold wire_formOf
 refine New_bx fun a w0 h0 n0 k0=>?_
 refine NewMap_k (ek:=ekI .i64) fun m w1 h1 n1 k1=>?_
 have ka1:=kp0 k0 k1
 have nm:w.heap.size≤m:=by have:=k0.size;omega
 have ka1:Keeps [] w w1∧w1.heap[a]?=some (.cells #[.string (BA []),.nilFunc,.nilFunc,.nilFunc] 162 (0,0)):=⟨ka1,k1.at0 h0⟩
 have ma:a ≠ m:=fun e=>by have:=hp_lt h0;omega
 refine ⟨rfl,rfl,rfl,?_⟩
 refine mset_k h1 1 _ rfl fun w2 h2 k2=>?_
 have ka2:Keeps [] w w2∧w2.heap[a]?=some (.cells #[.string (BA []),.nilFunc,.nilFunc,.nilFunc] 162 (0,0)):=⟨kp1 ka1.1 k2 nm,k2.at1 ka1.2 ma⟩
 refine ⟨rfl,rfl,rfl,?_⟩
 refine mset_k h2 2 _ rfl fun w3 h3 k3=>?_
 have ka3:Keeps [] w w3∧w3.heap[a]?=some (.cells #[.string (BA []),.nilFunc,.nilFunc,.nilFunc] 162 (0,0)):=⟨kp1 ka2.1 k3 nm,k3.at1 ka2.2 ma⟩
 refine ⟨rfl,rfl,rfl,?_⟩
 refine mset_k h3 3 _ rfl fun w4 h4 k4=>?_
 have ka4:Keeps [] w w4∧w4.heap[a]?=some (.cells #[.string (BA []),.nilFunc,.nilFunc,.nilFunc] 162 (0,0)):=⟨kp1 ka3.1 k4 nm,k4.at1 ka3.2 ma⟩
 refine ⟨rfl,rfl,rfl,?_⟩
 refine mset_k h4 4 _ rfl fun w5 h5 k5=>?_
 have ka5:Keeps [] w w5∧w5.heap[a]?=some (.cells #[.string (BA []),.nilFunc,.nilFunc,.nilFunc] 162 (0,0)):=⟨kp1 ka4.1 k5 nm,k5.at1 ka4.2 ma⟩
 refine ⟨rfl,rfl,rfl,?_⟩
 refine mset_k h5 5 _ rfl fun w6 h6 k6=>?_
 have ka6:Keeps [] w w6∧w6.heap[a]?=some (.cells #[.string (BA []),.nilFunc,.nilFunc,.nilFunc] 162 (0,0)):=⟨kp1 ka5.1 k6 nm,k6.at1 ka5.2 ma⟩
 refine ⟨rfl,rfl,rfl,?_⟩
 refine mset_k h6 6 _ rfl fun w7 h7 k7=>?_
 have ka7:Keeps [] w w7∧w7.heap[a]?=some (.cells #[.string (BA []),.nilFunc,.nilFunc,.nilFunc] 162 (0,0)):=⟨kp1 ka6.1 k7 nm,k7.at1 ka6.2 ma⟩
 refine ⟨rfl,rfl,rfl,?_⟩
 refine mset_k h7 7 _ rfl fun w8 h8 k8=>?_
 have ka8:Keeps [] w w8∧w8.heap[a]?=some (.cells #[.string (BA []),.nilFunc,.nilFunc,.nilFunc] 162 (0,0)):=⟨kp1 ka7.1 k8 nm,k8.at1 ka7.2 ma⟩
 refine ⟨rfl,rfl,rfl,?_⟩
 refine mset_k h8 8 _ rfl fun w9 h9 k9=>?_
 have ka9:Keeps [] w w9∧w9.heap[a]?=some (.cells #[.string (BA []),.nilFunc,.nilFunc,.nilFunc] 162 (0,0)):=⟨kp1 ka8.1 k9 nm,k9.at1 ka8.2 ma⟩
 refine ⟨rfl,rfl,rfl,?_⟩
 refine mset_k h9 9 _ rfl fun w10 h10 k10=>?_
 have ka10:Keeps [] w w10∧w10.heap[a]?=some (.cells #[.string (BA []),.nilFunc,.nilFunc,.nilFunc] 162 (0,0)):=⟨kp1 ka9.1 k10 nm,k10.at1 ka9.2 ma⟩
 refine ⟨rfl,rfl,rfl,?_⟩
 refine mset_k h10 10 _ rfl fun w11 h11 k11=>?_
 have ka11:Keeps [] w w11∧w11.heap[a]?=some (.cells #[.string (BA []),.nilFunc,.nilFunc,.nilFunc] 162 (0,0)):=⟨kp1 ka10.1 k11 nm,k11.at1 ka10.2 ma⟩
 refine ⟨rfl,rfl,rfl,?_⟩
 refine mset_k h11 11 _ rfl fun w12 h12 k12=>?_
 have ka12:Keeps [] w w12∧w12.heap[a]?=some (.cells #[.string (BA []),.nilFunc,.nilFunc,.nilFunc] 162 (0,0)):=⟨kp1 ka11.1 k12 nm,k12.at1 ka11.2 ma⟩
 refine ⟨rfl,rfl,rfl,?_⟩
 refine mset_k h12 12 _ rfl fun w13 h13 k13=>?_
 have ka13:Keeps [] w w13∧w13.heap[a]?=some (.cells #[.string (BA []),.nilFunc,.nilFunc,.nilFunc] 162 (0,0)):=⟨kp1 ka12.1 k13 nm,k13.at1 ka12.2 ma⟩
 refine ⟨rfl,rfl,rfl,?_⟩
 refine mset_k h13 13 _ rfl fun w14 h14 k14=>?_
 have ka14:Keeps [] w w14∧w14.heap[a]?=some (.cells #[.string (BA []),.nilFunc,.nilFunc,.nilFunc] 162 (0,0)):=⟨kp1 ka13.1 k14 nm,k14.at1 ka13.2 ma⟩
 refine ⟨rfl,rfl,rfl,?_⟩
 refine mset_k h14 14 _ rfl fun w15 h15 k15=>?_
 have ka15:Keeps [] w w15∧w15.heap[a]?=some (.cells #[.string (BA []),.nilFunc,.nilFunc,.nilFunc] 162 (0,0)):=⟨kp1 ka14.1 k15 nm,k15.at1 ka14.2 ma⟩
 have hkv:MpR w15 m (ekI .i64) fmKv:=h15
 have hg:=fm_get kind formsW
 have fin:∀ (y:Tup fW) (b:Bool),(∀ v∈encs fW y,v.oneCell'=true)→(∀ w',Keeps [] w w'→K (y,b,()) w')→(New #[.string (BA []),.nilFunc,.nilFunc,.nilFunc] 162 fun a5=>St (a5.add 0) (.string y.1) <| St (a5.add 1) y.2.1 <| St (a5.add 2) y.2.2.1 <| St (a5.add 3) y.2.2.2.1 <|
   LdS (a5.add 0) fun x6=>LdV (a5.add 1) fun x7=>LdV (a5.add 2) fun x8=>LdV (a5.add 3) fun x9=>
   St ((⟨a,0,none⟩:Addr).add 0) (.string x6) <| St ((⟨a,0,none⟩:Addr).add 1) x7 <| St ((⟨a,0,none⟩:Addr).add 2) x8 <| St ((⟨a,0,none⟩:Addr).add 3) x9 <|
   LdS ((⟨a,0,none⟩:Addr).add 0) fun x10=>LdV ((⟨a,0,none⟩:Addr).add 1) fun x11=>LdV ((⟨a,0,none⟩:Addr).add 2) fun x12=>LdV ((⟨a,0,none⟩:Addr).add 3) fun x13=>
   K ((x10,x11,x12,x13,()),b,())) w15:=by
  rintro ⟨y0,y1,y2,y3,⟨⟩⟩ b hone hK
  have o1:y1.oneCell'=true:=hone y1 (by simp [encs,Kd.enc])
  have o2:y2.oneCell'=true:=hone y2 (by simp [encs,Kd.enc])
  have o3:y3.oneCell'=true:=hone y3 (by simp [encs,Kd.enc])
  have ha:=ka15.2
  refine bx4g rfl rfl o1 o2 o3 fun c w20 h20 n20 kk=>?_
  simp only [sb,h20]
  refine put4 (kk.at0 ha) rfl o1 o2 o3 fun w22 h22 k22=>?_
  simp only [sb,h22]
  exact hK w22 (kp1 (kp0 ka15.1 kk) k22 n0)
 cases hq:agetT kind formsW with
 | none=>
  rw [hq] at hg k
  refine LkA_none (y:=fmZ) hkv hg ?_
  exact fin fmZ false (by simp [fmZ,encs,Kd.enc,Value.oneCell']) k
 | some y=>
  rw [hq] at hg k
  refine LkA_some hkv hg ?_
  exact fin y true (forms_oneW (agetT_mem hq)) k
end Go.Proofs.YthkdehgfdllpoaaGreat
set_option linter.unusedVariables false
set_option linter.unusedSimpArgs false
namespace Go.Proofs.YthkdehgfdllpoaaGreat
open Go Go.Sx
abbrev mgL (x:Mg):Array Value:=#[.int .i64 x.kind,.int .i64 x.src,.int .i64 x.dst,.int .i64 x.client,.int .i64 x.code,.int .i64 x.peer,.int .u64 x.req,.int .u64 x.boot,.int .u64 x.txn,.int .u64 x.low,.int .u64 x.ver,.int .u64 x.epoch,.int .u64 x.move,.int .u64 x.attempt,.int .u64 x.n,.bool x.flag,.string x.rlo,.string x.rhi,.slice x.so.p x.so.len x.so.cap,.slice x.sr.p x.sr.len x.sr.cap,.slice x.sw.p x.sw.len x.sw.cap]
def Zs (F:Nat→Prop) (f:Value) (z:Mg→Bool) (w:World):Prop:=∀ (x:Mg) (a:Nat) (w2:World),KeepsP F w w2→w2.heap[a]?=some (.cells (mgL x) 47 (0,0))→∀ K:TR [.sc .b]→Pr,K (z x,()) w2→CallV Pg f [.pointer (some ⟨a,0,none⟩)] false [.sc .b] K w2
theorem Zs.keeps {F:Nat→Prop} {f:Value} {z:Mg→Bool} {w w':World} (h:Zs F f z w) (k:KeepsP F w w'):Zs F f z w':=fun x a w2 k2=>h x a w2 (k.same k2)
def Ofs (f:Value) (off:Nat):Prop:=∀ (a:Nat) (w:World) (K:TR [.sc .p]→Pr),K (some ⟨a,off,none⟩,()) w→CallV Pg f [.pointer (some ⟨a,0,none⟩)] false [.sc .p] K w
abbrev v3:List Kd:=[.v,.v,.v]
theorem num_k {f:Value} {off:Nat} {g:Mg→Int} {F:Nat→Prop} (h1:f.oneCell'=true) (hof:Ofs f off) (hg:∀ x,(mgL x)[off]?=some (.int .u64 (g x))) {w:World} (hF:∀ b,F b→b < w.heap.size) {K:TR [.ag v3]→Pr}
  (k:∀ f1 f2 f3 w',f1.oneCell'=true→f2.oneCell'=true→f3.oneCell'=true→Zs F f3 (fun x=>g x == 0) w'→Keeps [] w w'→K ((f1,f2,f3,()),()) w'):Cl Pg i_wire_num [f] false [.ag v3] K w:=by
 refine wire_num_call _ ?_
 unfold wire_num
 refine ⟨h1,?_⟩
 refine New_bx fun a w1 ha n1 k1=>?_
 refine New_bx fun b w2 hb n2 k2=>?_
 refine ⟨rfl,rfl,rfl,?_⟩
 refine put3 hb rfl rfl rfl fun w3 hb3 k3=>?_
 simp only [sb,hb3]
 have k03:=kp1 (kp0 k1 k2) k3 (by have:=k1.size;omega)
 have ha3:=k3.at1 (k2.at0 ha) (fun e=>by have:=hp_lt ha;omega)
 refine k _ _ _ w3 rfl rfl rfl ?_ k03
 intro x c w4 k4 hc K1 hK
 have ha4:w4.heap[a]?=_:=(k4.get a (hp_lt ha3) (fun hf=>by have:=hF a hf;omega)).trans ha3
 refine CallV_fn (by kernel_rfl) ?_
 refine wire_num_3_call _ _ ?_
 unfold wire_num_3
 simp only [sb,ha4]
 refine hof c w4 _ ?_
 show LdI .u64 ⟨c,off,none⟩ _ w4
 rw [LdI_c,hc]
 show asI .u64 _ ((mgL x)[off]?) w4
 rw [hg x]
 simp only [sb]
 exact hK
theorem small_k {f:Value} {off:Nat} {g:Mg→Int} {F:Nat→Prop} (h1:f.oneCell'=true) (hof:Ofs f off) (hg:∀ x,(mgL x)[off]?=some (.int .i64 (g x))) {w:World} (hF:∀ b,F b→b < w.heap.size) {K:TR [.ag v3]→Pr}
  (k:∀ f1 f2 f3 w',f1.oneCell'=true→f2.oneCell'=true→f3.oneCell'=true→Zs F f3 (fun x=>g x == 0) w'→Keeps [] w w'→K ((f1,f2,f3,()),()) w'):Cl Pg i_wire_small [f] false [.ag v3] K w:=by
 refine wire_small_call _ ?_
 unfold wire_small
 refine ⟨h1,?_⟩
 refine New_bx fun a w1 ha n1 k1=>?_
 refine New_bx fun b w2 hb n2 k2=>?_
 refine ⟨rfl,rfl,rfl,?_⟩
 refine put3 hb rfl rfl rfl fun w3 hb3 k3=>?_
 simp only [sb,hb3]
 have k03:=kp1 (kp0 k1 k2) k3 (by have:=k1.size;omega)
 have ha3:=k3.at1 (k2.at0 ha) (fun e=>by have:=hp_lt ha;omega)
 refine k _ _ _ w3 rfl rfl rfl ?_ k03
 intro x c w4 k4 hc K1 hK
 have ha4:w4.heap[a]?=_:=(k4.get a (hp_lt ha3) (fun hf=>by have:=hF a hf;omega)).trans ha3
 refine CallV_fn (by kernel_rfl) ?_
 refine wire_small_3_call _ _ ?_
 unfold wire_small_3
 simp only [sb,ha4]
 refine hof c w4 _ ?_
 show LdI .i64 ⟨c,off,none⟩ _ w4
 rw [LdI_c,hc]
 show asI .i64 _ ((mgL x)[off]?) w4
 rw [hg x]
 simp only [sb]
 exact hK
theorem listOp_k {f f' f'':Value} {off:Nat} {g:Mg→Sl} {F:Nat→Prop} (h1:f.oneCell'=true) (h1':f'.oneCell'=true) (h1'':f''.oneCell'=true) (hof:Ofs f off) (hg:∀ x,(mgL x)[off]?=some (.slice (g x).p (g x).len (g x).cap)) {w:World} (hF:∀ b,F b→b < w.heap.size) {K:TR [.ag v3]→Pr}
  (k:∀ f1 f2 f3 w',f1.oneCell'=true→f2.oneCell'=true→f3.oneCell'=true→Zs F f3 (fun x=>(((g x).len:Nat):Int) == 0) w'→Keeps [] w w'→K ((f1,f2,f3,()),()) w'):Cl Pg i_wire_list_Op [f,f',f''] false [.ag v3] K w:=by
 refine wire_list_Op_call _ _ _ ?_
 unfold wire_list_Op
 refine ⟨h1,?_⟩
 refine New_bx fun a w1 ha n1 k1=>?_
 refine ⟨h1',?_⟩
 refine New_bx fun a2 w12 ha2 n12 k12=>?_
 refine ⟨h1'',?_⟩
 refine New_bx fun a3 w13 ha3 n13 k13=>?_
 refine New_bx fun b w2 hb n2 k2=>?_
 refine ⟨rfl,rfl,rfl,?_⟩
 refine put3 hb rfl rfl rfl fun w3 hb3 k3=>?_
 simp only [sb,hb3]
 have k02:=kp0 (kp0 (kp0 k1 k12) k13) k2
 have k12':=kp0 (kp0 k12 k13) k2
 have nb:w.heap.size≤b:=by have:=k1.size;have:=k12.size;have:=k13.size;omega
 have k03:=kp1 k02 k3 nb
 have ha3:=k3.at1 (k12'.at0 ha) (fun e=>by have:=hp_lt ha;have:=k12.size;have:=k13.size;omega)
 refine k _ _ _ w3 rfl rfl rfl ?_ k03
 intro x c w4 k4 hc K1 hK
 have ha4:w4.heap[a]?=_:=(k4.get a (hp_lt ha3) (fun hf=>by have:=hF a hf;omega)).trans ha3
 refine CallV_fn (by kernel_rfl) ?_
 refine wire_list_Op_3_call _ _ ?_
 unfold wire_list_Op_3
 simp only [sb,ha4]
 refine hof c w4 _ ?_
 show LdL ⟨c,off,none⟩ _ w4
 rw [LdL_c,hc]
 show asL _ ((mgL x)[off]?) w4
 rw [hg x]
 simp only [sb]
 exact hK
theorem listResult_k {f f' f'':Value} {off:Nat} {g:Mg→Sl} {F:Nat→Prop} (h1:f.oneCell'=true) (h1':f'.oneCell'=true) (h1'':f''.oneCell'=true) (hof:Ofs f off) (hg:∀ x,(mgL x)[off]?=some (.slice (g x).p (g x).len (g x).cap)) {w:World} (hF:∀ b,F b→b < w.heap.size) {K:TR [.ag v3]→Pr}
  (k:∀ f1 f2 f3 w',f1.oneCell'=true→f2.oneCell'=true→f3.oneCell'=true→Zs F f3 (fun x=>(((g x).len:Nat):Int) == 0) w'→Keeps [] w w'→K ((f1,f2,f3,()),()) w'):Cl Pg i_wire_list_Result [f,f',f''] false [.ag v3] K w:=by
 refine wire_list_Result_call _ _ _ ?_
 unfold wire_list_Result
 refine ⟨h1,?_⟩
 refine New_bx fun a w1 ha n1 k1=>?_
 refine ⟨h1',?_⟩
 refine New_bx fun a2 w12 ha2 n12 k12=>?_
 refine ⟨h1'',?_⟩
 refine New_bx fun a3 w13 ha3 n13 k13=>?_
 refine New_bx fun b w2 hb n2 k2=>?_
 refine ⟨rfl,rfl,rfl,?_⟩
 refine put3 hb rfl rfl rfl fun w3 hb3 k3=>?_
 simp only [sb,hb3]
 have k02:=kp0 (kp0 (kp0 k1 k12) k13) k2
 have k12':=kp0 (kp0 k12 k13) k2
 have nb:w.heap.size≤b:=by have:=k1.size;have:=k12.size;have:=k13.size;omega
 have k03:=kp1 k02 k3 nb
 have ha3:=k3.at1 (k12'.at0 ha) (fun e=>by have:=hp_lt ha;have:=k12.size;have:=k13.size;omega)
 refine k _ _ _ w3 rfl rfl rfl ?_ k03
 intro x c w4 k4 hc K1 hK
 have ha4:w4.heap[a]?=_:=(k4.get a (hp_lt ha3) (fun hf=>by have:=hF a hf;omega)).trans ha3
 refine CallV_fn (by kernel_rfl) ?_
 refine wire_list_Result_3_call _ _ ?_
 unfold wire_list_Result_3
 simp only [sb,ha4]
 refine hof c w4 _ ?_
 show LdL ⟨c,off,none⟩ _ w4
 rw [LdL_c,hc]
 show asL _ ((mgL x)[off]?) w4
 rw [hg x]
 simp only [sb]
 exact hK
theorem listOwner_k {f f' f'':Value} {off:Nat} {g:Mg→Sl} {F:Nat→Prop} (h1:f.oneCell'=true) (h1':f'.oneCell'=true) (h1'':f''.oneCell'=true) (hof:Ofs f off) (hg:∀ x,(mgL x)[off]?=some (.slice (g x).p (g x).len (g x).cap)) {w:World} (hF:∀ b,F b→b < w.heap.size) {K:TR [.ag v3]→Pr}
  (k:∀ f1 f2 f3 w',f1.oneCell'=true→f2.oneCell'=true→f3.oneCell'=true→Zs F f3 (fun x=>(((g x).len:Nat):Int) == 0) w'→Keeps [] w w'→K ((f1,f2,f3,()),()) w'):Cl Pg i_wire_list_Owner [f,f',f''] false [.ag v3] K w:=by
 refine wire_list_Owner_call _ _ _ ?_
 unfold wire_list_Owner
 refine ⟨h1,?_⟩
 refine New_bx fun a w1 ha n1 k1=>?_
 refine ⟨h1',?_⟩
 refine New_bx fun a2 w12 ha2 n12 k12=>?_
 refine ⟨h1'',?_⟩
 refine New_bx fun a3 w13 ha3 n13 k13=>?_
 refine New_bx fun b w2 hb n2 k2=>?_
 refine ⟨rfl,rfl,rfl,?_⟩
 refine put3 hb rfl rfl rfl fun w3 hb3 k3=>?_
 simp only [sb,hb3]
 have k02:=kp0 (kp0 (kp0 k1 k12) k13) k2
 have k12':=kp0 (kp0 k12 k13) k2
 have nb:w.heap.size≤b:=by have:=k1.size;have:=k12.size;have:=k13.size;omega
 have k03:=kp1 k02 k3 nb
 have ha3:=k3.at1 (k12'.at0 ha) (fun e=>by have:=hp_lt ha;have:=k12.size;have:=k13.size;omega)
 refine k _ _ _ w3 rfl rfl rfl ?_ k03
 intro x c w4 k4 hc K1 hK
 have ha4:w4.heap[a]?=_:=(k4.get a (hp_lt ha3) (fun hf=>by have:=hF a hf;omega)).trans ha3
 refine CallV_fn (by kernel_rfl) ?_
 refine wire_list_Owner_3_call _ _ ?_
 unfold wire_list_Owner_3
 simp only [sb,ha4]
 refine hof c w4 _ ?_
 show LdL ⟨c,off,none⟩ _ w4
 rw [LdL_c,hc]
 show asL _ ((mgL x)[off]?) w4
 rw [hg x]
 simp only [sb]
 exact hK
def zOf:List (Int × (Mg→Bool)):=[(113,fun x=>x.req == 0),(98,fun x=>x.boot == 0),(116,fun x=>x.txn == 0),(108,fun x=>x.low == 0),(118,fun x=>x.ver == 0),(101,fun x=>x.epoch == 0),(109,fun x=>x.move == 0),(97,fun x=>x.attempt == 0),(110,fun x=>x.n == 0),(99,fun x=>x.code == 0),(112,fun x=>x.peer == 0),(102,fun x=>!x.flag),(114,fun x=>seq x.rlo (BA []) && (seq x.rhi (BA []) && true)),(111,fun x=>((x.so.len:Nat):Int) == 0),(115,fun x=>((x.sr.len:Nat):Int) == 0),(119,fun x=>((x.sw.len:Nat):Int) == 0)]
def zW (c:Int) (x:Mg):Bool:=((agetT c zOf).getD fun _=>true) x
theorem ofs_1:Ofs (fn0 i_wire_all_1) 6:=by
 intro a w K hK
 refine CallV_fn0 (by kernel_rfl) ?_
 refine wire_all_1_call _ ?_
 unfold wire_all_1
 simp only [sb]
 exact hK
theorem ofs_2:Ofs (fn0 i_wire_all_2) 7:=by
 intro a w K hK
 refine CallV_fn0 (by kernel_rfl) ?_
 refine wire_all_2_call _ ?_
 unfold wire_all_2
 simp only [sb]
 exact hK
theorem ofs_3:Ofs (fn0 i_wire_all_3) 8:=by
 intro a w K hK
 refine CallV_fn0 (by kernel_rfl) ?_
 refine wire_all_3_call _ ?_
 unfold wire_all_3
 simp only [sb]
 exact hK
theorem ofs_4:Ofs (fn0 i_wire_all_4) 9:=by
 intro a w K hK
 refine CallV_fn0 (by kernel_rfl) ?_
 refine wire_all_4_call _ ?_
 unfold wire_all_4
 simp only [sb]
 exact hK
theorem ofs_5:Ofs (fn0 i_wire_all_5) 10:=by
 intro a w K hK
 refine CallV_fn0 (by kernel_rfl) ?_
 refine wire_all_5_call _ ?_
 unfold wire_all_5
 simp only [sb]
 exact hK
theorem ofs_6:Ofs (fn0 i_wire_all_6) 11:=by
 intro a w K hK
 refine CallV_fn0 (by kernel_rfl) ?_
 refine wire_all_6_call _ ?_
 unfold wire_all_6
 simp only [sb]
 exact hK
theorem ofs_7:Ofs (fn0 i_wire_all_7) 12:=by
 intro a w K hK
 refine CallV_fn0 (by kernel_rfl) ?_
 refine wire_all_7_call _ ?_
 unfold wire_all_7
 simp only [sb]
 exact hK
theorem ofs_8:Ofs (fn0 i_wire_all_8) 13:=by
 intro a w K hK
 refine CallV_fn0 (by kernel_rfl) ?_
 refine wire_all_8_call _ ?_
 unfold wire_all_8
 simp only [sb]
 exact hK
theorem ofs_9:Ofs (fn0 i_wire_all_9) 14:=by
 intro a w K hK
 refine CallV_fn0 (by kernel_rfl) ?_
 refine wire_all_9_call _ ?_
 unfold wire_all_9
 simp only [sb]
 exact hK
theorem ofs_10:Ofs (fn0 i_wire_all_10) 4:=by
 intro a w K hK
 refine CallV_fn0 (by kernel_rfl) ?_
 refine wire_all_10_call _ ?_
 unfold wire_all_10
 simp only [sb]
 exact hK
theorem ofs_11:Ofs (fn0 i_wire_all_11) 5:=by
 intro a w K hK
 refine CallV_fn0 (by kernel_rfl) ?_
 refine wire_all_11_call _ ?_
 unfold wire_all_11
 simp only [sb]
 exact hK
theorem zs_14 (F:Nat→Prop) (w:World):Zs F (fn0 i_wire_all_14) (zW 102) w:=by
 intro x a w2 k2 h2 K hK
 refine CallV_fn0 (by kernel_rfl) ?_
 refine wire_all_14_call _ ?_
 unfold wire_all_14
 simp only [sb,h2,add00,Nat.reduceAdd]
 exact hK
theorem zs_17 (F:Nat→Prop) (w:World):Zs F (fn0 i_wire_all_17) (zW 114) w:=by
 intro x a w2 k2 h2 K hK
 refine CallV_fn0 (by kernel_rfl) ?_
 refine wire_all_17_call _ ?_
 unfold wire_all_17
 simp only [sb,h2,add00,Nat.reduceAdd]
 exact hK
theorem ofs_18:Ofs (fn0 i_wire_all_18) 18:=by
 intro a w K hK
 refine CallV_fn0 (by kernel_rfl) ?_
 refine wire_all_18_call _ ?_
 unfold wire_all_18
 simp only [sb]
 exact hK
theorem ofs_19:Ofs (fn0 i_wire_all_19) 19:=by
 intro a w K hK
 refine CallV_fn0 (by kernel_rfl) ?_
 refine wire_all_19_call _ ?_
 unfold wire_all_19
 simp only [sb]
 exact hK
theorem ofs_20:Ofs (fn0 i_wire_all_20) 20:=by
 intro a w K hK
 refine CallV_fn0 (by kernel_rfl) ?_
 refine wire_all_20_call _ ?_
 unfold wire_all_20
 simp only [sb]
 exact hK
def Fld (F:Nat→Prop) (p:Int × Value) (w:World):Prop:=∃ y:Tup v3,p.2=.agg (encs v3 y).toArray∧y.1.oneCell'=true∧y.2.1.oneCell'=true∧y.2.2.1.oneCell'=true∧Zs F y.2.2.1 (zW p.1) w
theorem Fld.keeps {F:Nat→Prop} {p:Int × Value} {w w':World} (h:Fld F p w) (k:KeepsP F w w'):Fld F p w':=by
 obtain ⟨y,h1,h2,h3,h4,h5⟩:=h
 exact ⟨y,h1,h2,h3,h4,h5.keeps k⟩
theorem Fld.add {F:Nat→Prop} {kv:List (Int × Value)} {p:Int × Value} {w:World} (h:∀ q∈kv,Fld F q w) (hp:Fld F p w):∀ q∈kv ++ [p],Fld F q w:=by
 intro q hq
 rcases List.mem_append.1 hq with hq | hq
 ·exact h q hq
 ·rw [List.mem_singleton] at hq
  rw [hq]
  exact hp
set_option maxHeartbeats 4000000 in
theorem allW_k {w:World} {K:TR [.sc .m]→Pr} (k:∀ m kv w',MpR w' m (ekI .i32) kv→kv.map Prod.fst=zOf.map Prod.fst→(∀ p∈kv,Fld (·=m) p w')→w.heap.size≤m→Keeps [] w w'→K (some m,()) w'):Cl Pg i_wire_all [] false [.sc .m] K w:=by
 refine wire_all_call ?_
 unfold wire_all
 refine NewMap_k (ek:=ekI .i32) fun m w1 h1 n1 k1=>?_
 have hF1:∀ b,b=m→b < w1.heap.size:=fun b hb=>by rw [hb];exact h1.lt
 have f1:∀ p∈([]:List (Int × Value)),Fld (·=m) p w1:=by simp
 refine num_k (off:=6) (g:=fun x=>x.req) (F:=(·=m)) rfl (ofs_1) (fun x=>rfl) hF1 ?_
 intro p2 q2 r2 w2 o2 o'2 o''2 z2 k'2
 have k2:=kp0 k1 k'2
 have h2:=h1.keepsL k'2 (by simp)
 have f2:=fun p hp=>(f1 p hp).keeps k'2.toP0
 have f2:=Fld.add f2 (p:=(113,.agg #[p2,q2,r2])) ⟨(p2,q2,r2,()),rfl,o2,o'2,o''2,z2⟩
 refine mset_k h2 113 _ rfl fun w3 h3 k'3=>?_
 have k3:=kp1 k2 k'3 n1
 have f3:=fun p hp=>(f2 p hp).keeps (k'3.toP fun b hb=>.inl (by simpa using hb))
 have hF3:∀ b,b=m→b < w3.heap.size:=fun b hb=>by rw [hb];exact h3.lt
 refine num_k (off:=7) (g:=fun x=>x.boot) (F:=(·=m)) rfl (ofs_2) (fun x=>rfl) hF3 ?_
 intro p4 q4 r4 w4 o4 o'4 o''4 z4 k'4
 have k4:=kp0 k3 k'4
 have h4:=h3.keepsL k'4 (by simp)
 have f4:=fun p hp=>(f3 p hp).keeps k'4.toP0
 have f4:=Fld.add f4 (p:=(98,.agg #[p4,q4,r4])) ⟨(p4,q4,r4,()),rfl,o4,o'4,o''4,z4⟩
 refine mset_k h4 98 _ rfl fun w5 h5 k'5=>?_
 have k5:=kp1 k4 k'5 n1
 have f5:=fun p hp=>(f4 p hp).keeps (k'5.toP fun b hb=>.inl (by simpa using hb))
 have hF5:∀ b,b=m→b < w5.heap.size:=fun b hb=>by rw [hb];exact h5.lt
 refine num_k (off:=8) (g:=fun x=>x.txn) (F:=(·=m)) rfl (ofs_3) (fun x=>rfl) hF5 ?_
 intro p6 q6 r6 w6 o6 o'6 o''6 z6 k'6
 have k6:=kp0 k5 k'6
 have h6:=h5.keepsL k'6 (by simp)
 have f6:=fun p hp=>(f5 p hp).keeps k'6.toP0
 have f6:=Fld.add f6 (p:=(116,.agg #[p6,q6,r6])) ⟨(p6,q6,r6,()),rfl,o6,o'6,o''6,z6⟩
 refine mset_k h6 116 _ rfl fun w7 h7 k'7=>?_
 have k7:=kp1 k6 k'7 n1
 have f7:=fun p hp=>(f6 p hp).keeps (k'7.toP fun b hb=>.inl (by simpa using hb))
 have hF7:∀ b,b=m→b < w7.heap.size:=fun b hb=>by rw [hb];exact h7.lt
 refine num_k (off:=9) (g:=fun x=>x.low) (F:=(·=m)) rfl (ofs_4) (fun x=>rfl) hF7 ?_
 intro p8 q8 r8 w8 o8 o'8 o''8 z8 k'8
 have k8:=kp0 k7 k'8
 have h8:=h7.keepsL k'8 (by simp)
 have f8:=fun p hp=>(f7 p hp).keeps k'8.toP0
 have f8:=Fld.add f8 (p:=(108,.agg #[p8,q8,r8])) ⟨(p8,q8,r8,()),rfl,o8,o'8,o''8,z8⟩
 refine mset_k h8 108 _ rfl fun w9 h9 k'9=>?_
 have k9:=kp1 k8 k'9 n1
 have f9:=fun p hp=>(f8 p hp).keeps (k'9.toP fun b hb=>.inl (by simpa using hb))
 have hF9:∀ b,b=m→b < w9.heap.size:=fun b hb=>by rw [hb];exact h9.lt
 refine num_k (off:=10) (g:=fun x=>x.ver) (F:=(·=m)) rfl (ofs_5) (fun x=>rfl) hF9 ?_
 intro p10 q10 r10 w10 o10 o'10 o''10 z10 k'10
 have k10:=kp0 k9 k'10
 have h10:=h9.keepsL k'10 (by simp)
 have f10:=fun p hp=>(f9 p hp).keeps k'10.toP0
 have f10:=Fld.add f10 (p:=(118,.agg #[p10,q10,r10])) ⟨(p10,q10,r10,()),rfl,o10,o'10,o''10,z10⟩
 refine mset_k h10 118 _ rfl fun w11 h11 k'11=>?_
 have k11:=kp1 k10 k'11 n1
 have f11:=fun p hp=>(f10 p hp).keeps (k'11.toP fun b hb=>.inl (by simpa using hb))
 have hF11:∀ b,b=m→b < w11.heap.size:=fun b hb=>by rw [hb];exact h11.lt
 refine num_k (off:=11) (g:=fun x=>x.epoch) (F:=(·=m)) rfl (ofs_6) (fun x=>rfl) hF11 ?_
 intro p12 q12 r12 w12 o12 o'12 o''12 z12 k'12
 have k12:=kp0 k11 k'12
 have h12:=h11.keepsL k'12 (by simp)
 have f12:=fun p hp=>(f11 p hp).keeps k'12.toP0
 have f12:=Fld.add f12 (p:=(101,.agg #[p12,q12,r12])) ⟨(p12,q12,r12,()),rfl,o12,o'12,o''12,z12⟩
 refine mset_k h12 101 _ rfl fun w13 h13 k'13=>?_
 have k13:=kp1 k12 k'13 n1
 have f13:=fun p hp=>(f12 p hp).keeps (k'13.toP fun b hb=>.inl (by simpa using hb))
 have hF13:∀ b,b=m→b < w13.heap.size:=fun b hb=>by rw [hb];exact h13.lt
 refine num_k (off:=12) (g:=fun x=>x.move) (F:=(·=m)) rfl (ofs_7) (fun x=>rfl) hF13 ?_
 intro p14 q14 r14 w14 o14 o'14 o''14 z14 k'14
 have k14:=kp0 k13 k'14
 have h14:=h13.keepsL k'14 (by simp)
 have f14:=fun p hp=>(f13 p hp).keeps k'14.toP0
 have f14:=Fld.add f14 (p:=(109,.agg #[p14,q14,r14])) ⟨(p14,q14,r14,()),rfl,o14,o'14,o''14,z14⟩
 refine mset_k h14 109 _ rfl fun w15 h15 k'15=>?_
 have k15:=kp1 k14 k'15 n1
 have f15:=fun p hp=>(f14 p hp).keeps (k'15.toP fun b hb=>.inl (by simpa using hb))
 have hF15:∀ b,b=m→b < w15.heap.size:=fun b hb=>by rw [hb];exact h15.lt
 refine num_k (off:=13) (g:=fun x=>x.attempt) (F:=(·=m)) rfl (ofs_8) (fun x=>rfl) hF15 ?_
 intro p16 q16 r16 w16 o16 o'16 o''16 z16 k'16
 have k16:=kp0 k15 k'16
 have h16:=h15.keepsL k'16 (by simp)
 have f16:=fun p hp=>(f15 p hp).keeps k'16.toP0
 have f16:=Fld.add f16 (p:=(97,.agg #[p16,q16,r16])) ⟨(p16,q16,r16,()),rfl,o16,o'16,o''16,z16⟩
 refine mset_k h16 97 _ rfl fun w17 h17 k'17=>?_
 have k17:=kp1 k16 k'17 n1
 have f17:=fun p hp=>(f16 p hp).keeps (k'17.toP fun b hb=>.inl (by simpa using hb))
 have hF17:∀ b,b=m→b < w17.heap.size:=fun b hb=>by rw [hb];exact h17.lt
 refine num_k (off:=14) (g:=fun x=>x.n) (F:=(·=m)) rfl (ofs_9) (fun x=>rfl) hF17 ?_
 intro p18 q18 r18 w18 o18 o'18 o''18 z18 k'18
 have k18:=kp0 k17 k'18
 have h18:=h17.keepsL k'18 (by simp)
 have f18:=fun p hp=>(f17 p hp).keeps k'18.toP0
 have f18:=Fld.add f18 (p:=(110,.agg #[p18,q18,r18])) ⟨(p18,q18,r18,()),rfl,o18,o'18,o''18,z18⟩
 refine mset_k h18 110 _ rfl fun w19 h19 k'19=>?_
 have k19:=kp1 k18 k'19 n1
 have f19:=fun p hp=>(f18 p hp).keeps (k'19.toP fun b hb=>.inl (by simpa using hb))
 have hF19:∀ b,b=m→b < w19.heap.size:=fun b hb=>by rw [hb];exact h19.lt
 refine small_k (off:=4) (g:=fun x=>x.code) (F:=(·=m)) rfl (ofs_10) (fun x=>rfl) hF19 ?_
 intro p20 q20 r20 w20 o20 o'20 o''20 z20 k'20
 have k20:=kp0 k19 k'20
 have h20:=h19.keepsL k'20 (by simp)
 have f20:=fun p hp=>(f19 p hp).keeps k'20.toP0
 have f20:=Fld.add f20 (p:=(99,.agg #[p20,q20,r20])) ⟨(p20,q20,r20,()),rfl,o20,o'20,o''20,z20⟩
 refine mset_k h20 99 _ rfl fun w21 h21 k'21=>?_
 have k21:=kp1 k20 k'21 n1
 have f21:=fun p hp=>(f20 p hp).keeps (k'21.toP fun b hb=>.inl (by simpa using hb))
 have hF21:∀ b,b=m→b < w21.heap.size:=fun b hb=>by rw [hb];exact h21.lt
 refine small_k (off:=5) (g:=fun x=>x.peer) (F:=(·=m)) rfl (ofs_11) (fun x=>rfl) hF21 ?_
 intro p22 q22 r22 w22 o22 o'22 o''22 z22 k'22
 have k22:=kp0 k21 k'22
 have h22:=h21.keepsL k'22 (by simp)
 have f22:=fun p hp=>(f21 p hp).keeps k'22.toP0
 have f22:=Fld.add f22 (p:=(112,.agg #[p22,q22,r22])) ⟨(p22,q22,r22,()),rfl,o22,o'22,o''22,z22⟩
 refine mset_k h22 112 _ rfl fun w23 h23 k'23=>?_
 have k23:=kp1 k22 k'23 n1
 have f23:=fun p hp=>(f22 p hp).keeps (k'23.toP fun b hb=>.inl (by simpa using hb))
 have hF23:∀ b,b=m→b < w23.heap.size:=fun b hb=>by rw [hb];exact h23.lt
 refine ⟨rfl,rfl,rfl,?_⟩
 have k24:=k23
 have h24:=h23
 have f24:=Fld.add f23 (p:=(102,.agg #[fn0 i_wire_all_12,fn0 i_wire_all_13,fn0 i_wire_all_14])) ⟨(fn0 i_wire_all_12,fn0 i_wire_all_13,fn0 i_wire_all_14,()),rfl,rfl,rfl,rfl,zs_14 _ _⟩
 obtain ⟨w24,rfl⟩:∃ w',w'=w23:=⟨_,rfl⟩
 refine mset_k h24 102 _ rfl fun w25 h25 k'25=>?_
 have k25:=kp1 k24 k'25 n1
 have f25:=fun p hp=>(f24 p hp).keeps (k'25.toP fun b hb=>.inl (by simpa using hb))
 have hF25:∀ b,b=m→b < w25.heap.size:=fun b hb=>by rw [hb];exact h25.lt
 refine ⟨rfl,rfl,rfl,?_⟩
 have k26:=k25
 have h26:=h25
 have f26:=Fld.add f25 (p:=(114,.agg #[fn0 i_wire_all_15,fn0 i_wire_all_16,fn0 i_wire_all_17])) ⟨(fn0 i_wire_all_15,fn0 i_wire_all_16,fn0 i_wire_all_17,()),rfl,rfl,rfl,rfl,zs_17 _ _⟩
 obtain ⟨w26,rfl⟩:∃ w',w'=w25:=⟨_,rfl⟩
 refine mset_k h26 114 _ rfl fun w27 h27 k'27=>?_
 have k27:=kp1 k26 k'27 n1
 have f27:=fun p hp=>(f26 p hp).keeps (k'27.toP fun b hb=>.inl (by simpa using hb))
 have hF27:∀ b,b=m→b < w27.heap.size:=fun b hb=>by rw [hb];exact h27.lt
 refine listOp_k (off:=18) (g:=fun x=>x.so) (F:=(·=m)) rfl rfl rfl (ofs_18) (fun x=>rfl) hF27 ?_
 intro p28 q28 r28 w28 o28 o'28 o''28 z28 k'28
 have k28:=kp0 k27 k'28
 have h28:=h27.keepsL k'28 (by simp)
 have f28:=fun p hp=>(f27 p hp).keeps k'28.toP0
 have f28:=Fld.add f28 (p:=(111,.agg #[p28,q28,r28])) ⟨(p28,q28,r28,()),rfl,o28,o'28,o''28,z28⟩
 refine mset_k h28 111 _ rfl fun w29 h29 k'29=>?_
 have k29:=kp1 k28 k'29 n1
 have f29:=fun p hp=>(f28 p hp).keeps (k'29.toP fun b hb=>.inl (by simpa using hb))
 have hF29:∀ b,b=m→b < w29.heap.size:=fun b hb=>by rw [hb];exact h29.lt
 refine listResult_k (off:=19) (g:=fun x=>x.sr) (F:=(·=m)) rfl rfl rfl (ofs_19) (fun x=>rfl) hF29 ?_
 intro p30 q30 r30 w30 o30 o'30 o''30 z30 k'30
 have k30:=kp0 k29 k'30
 have h30:=h29.keepsL k'30 (by simp)
 have f30:=fun p hp=>(f29 p hp).keeps k'30.toP0
 have f30:=Fld.add f30 (p:=(115,.agg #[p30,q30,r30])) ⟨(p30,q30,r30,()),rfl,o30,o'30,o''30,z30⟩
 refine mset_k h30 115 _ rfl fun w31 h31 k'31=>?_
 have k31:=kp1 k30 k'31 n1
 have f31:=fun p hp=>(f30 p hp).keeps (k'31.toP fun b hb=>.inl (by simpa using hb))
 have hF31:∀ b,b=m→b < w31.heap.size:=fun b hb=>by rw [hb];exact h31.lt
 refine listOwner_k (off:=20) (g:=fun x=>x.sw) (F:=(·=m)) rfl rfl rfl (ofs_20) (fun x=>rfl) hF31 ?_
 intro p32 q32 r32 w32 o32 o'32 o''32 z32 k'32
 have k32:=kp0 k31 k'32
 have h32:=h31.keepsL k'32 (by simp)
 have f32:=fun p hp=>(f31 p hp).keeps k'32.toP0
 have f32:=Fld.add f32 (p:=(119,.agg #[p32,q32,r32])) ⟨(p32,q32,r32,()),rfl,o32,o'32,o''32,z32⟩
 refine mset_k h32 119 _ rfl fun w33 h33 k'33=>?_
 have k33:=kp1 k32 k'33 n1
 have f33:=fun p hp=>(f32 p hp).keeps (k'33.toP fun b hb=>.inl (by simpa using hb))
 have hF33:∀ b,b=m→b < w33.heap.size:=fun b hb=>by rw [hb];exact h33.lt
 exact k m _ w33 h33 rfl f33 n1 k33
end Go.Proofs.YthkdehgfdllpoaaGreat
set_option linter.unusedVariables false
set_option linter.unusedSimpArgs false
namespace Go.Proofs.YthkdehgfdllpoaaGreat
open Go Go.Sx
def ruR:Rec Int:=Rec.sca (.i .i32) rfl
theorem ru_len {w:World} {s:Sl} {l:List Int} (h:RdE ruR w s l):s.len=l.length:=h.len
theorem ru_ld {w:World} {s:Sl} {l:List Int} (h:RdE ruR w s l) {i:Nat} {x:Int} (hx:l[i]?=some x) {K:Int→Pr} (k:K x w):Ix s (i:Int) 1 (fun a=>LdI .i32 a K) w:=by
 obtain ⟨a,ha,hc⟩:=h.at hx
 have hi:=(List.getElem?_eq_some_iff.1 hx).1
 have hl:s.len=l.length:=h.len
 unfold Ix
 rw [ha]
 refine ⟨by omega,by omega,?_⟩
 rw [Int.toNat_natCast]
 have h0:=hc 0 (.int .i32 x) rfl
 rw [add_add,Nat.add_zero] at h0
 exact Ld_of (k:=.i .i32) (x:=x) h0 k
theorem StoU_k {s:ByteArray} {l:List Int} (hl:runesOf s=l.map (Value.int .i32)) {e:TypeId} {K:Sl→Pr} {w:World} (k:∀ r w',RdE ruR w' r l→Keeps [] w w'→K r w'):StoU e s K w:=by
 intro c hc
 refine k _ _ ⟨⟨?_,fun j v hj=>⟨⟨w.heap.size,0,none⟩,rfl,?_⟩⟩,hc⟩ ((Keeps.refl _ _).drew.alloc _)
 ·rw [flat_length ruR.len]
  dsimp only
  rw [hl,List.length_map]
 ·rw [add0,cell_cellO,show (w.drew.alloc (.cells (runesOf s ++ List.replicate (c - (runesOf s).length) (Value.int .i32 0)).toArray e)).heap[w.heap.size]?=_ from hp_alloc_new w.drew _]
  have hfl:∀ l:List Int,l.flatMap ruR.c=l.map (Value.int .i32):=by
   intro l
   induction l with
   | nil=>rfl
   | cons a l ih=>exact congrArg (Value.int .i32 a :: ·) ih
  rw [hfl l] at hj
  rw [← hl] at hj
  have hlt:=(List.getElem?_eq_some_iff.1 hj).1
  show (runesOf s ++ List.replicate (c - (runesOf s).length) (Value.int .i32 0)).toArray[j]?=some v
  rw [List.getElem?_toArray,List.getElem?_append_left hlt]
  exact hj
theorem ContainsR_k {w:World} {s:Sl} {l:List Int} (h:RdE ruR w s l) (t:Int) (hN:l.length≤1000000) {K:TR [.sc .b]→Pr} (k:K (l.contains t,()) w):Cl Pg i_slices_Contains_rune [.slice s.p s.len s.cap,.int .i32 t] false [.sc .b] K w:=by
 have hl:=ru_len h
 refine slices_Contains_rune_call _ _ ?_
 unfold slices_Contains_rune
 refine slices_Index_rune_call _ _ ?_
 unfold slices_Index_rune
 refine ⟨fun n st w'=>∃ (i:Nat),st=(0,(i:Int),())∧n=l.length - i∧i≤l.length∧(l.drop i).contains t=l.contains t∧w'=w,⟨_,0,rfl,rfl,by omega,rfl,rfl⟩,?_⟩
 rintro n _ w1 ⟨i,rfl,rfl,hi,he,rfl⟩
 dsimp only
 by_cases hlt:i < l.length
 ·rw [decide_eq_true (by omega)]
  simp only [Br_true]
  obtain ⟨x,hx⟩:∃ x,l[i]?=some x:=⟨_,List.getElem?_eq_getElem hlt⟩
  have hd:l.drop i=x :: l.drop (i + 1):=by rw [List.drop_eq_getElem_cons hlt,(List.getElem?_eq_some_iff.1 hx).2]
  rw [hd,List.contains_cons] at he
  refine ru_ld h hx ?_
  cases hc:(t == x) with
  | true=>
   rw [hc] at he
   simp only [Br_true]
   rw [show decide ((i:Int) ≥ 0)=true from decide_eq_true (by omega),show true=l.contains t from by rw [← he];rfl]
   exact k
  | false=>
   rw [hc] at he
   simp only [Br_false]
   exact ⟨l.length - (i + 1),by omega,i + 1,by rw [w64p (by omega)],rfl,by omega,by rw [← he,Bool.false_or],by trivial⟩
 ·rw [decide_eq_false (by omega)]
  rw [List.drop_of_length_le (by omega)] at he
  simp only [Br_false]
  rw [← he] at k
  exact k
def zall (l:List Int) (x:Mg):Bool:=(zOf.map Prod.fst).all fun c=>l.contains c || zW c x
def Nfn (f:Value) (p:Int→Bool):Prop:=∀ (n:Int) (w:World) (K:TR [.sc .b]→Pr),K (p n,()) w→CallV Pg f [.int .i64 n] false [.sc .b] K w
def coordB (n:Int):Bool:=n == 0
def shardB (n:Int):Bool:=decide (n ≥ 1) && decide (n≤4)
theorem coord_n:Nfn (fn0 i_wire_coord) coordB:=by
 intro n w K hK
 refine CallV_fn0 (by kernel_rfl) ?_
 refine wire_coord_call _ ?_
 exact hK
theorem shard_n:Nfn (fn0 i_wire_shard) shardB:=by
 intro n w K hK
 refine CallV_fn0 (by kernel_rfl) ?_
 refine wire_shard_call _ ?_
 unfold wire_shard
 unfold shardB at hK
 cases h:decide (n ≥ 1) with
 | true=>rw [h,Bool.true_and] at hK;exact hK
 | false=>rw [h,Bool.false_and] at hK;exact hK
def Gfn (f:Value) (x:Mg) (g:Bool) (w:World):Prop:=∀ (w1:World),Keeps [] w w1→∀ (K:TR [.sc .b]→Pr),(∀ w',Keeps [] w1 w'→K (g,()) w')→CallV Pg f [.agg (mgL x)] false [.sc .b] K w1
theorem what_g (x:Mg) (w:World):Gfn (fn0 i_wire_whatever) x true w:=by
 intro w1 k1 K hK
 refine CallV_fn0 (by kernel_rfl) ?_
 refine wire_whatever_call _ _ _ _ _ _ _ _ _ _ _ _ _ _ _ _ _ _ x.so x.sr x.sw ?_
 unfold wire_whatever
 refine New_bx fun a w2 h2 n2 k2=>?_
 exact hK _ k2
theorem ops_k {w:World} {s:Sl} {l:List Op} (h:RdE opR w s l) (most:Int) (hm:most≤1000000) {K:TR [.sc .b]→Pr} (k:∀ w',Keeps [] w w'→K (decide ((l.length:Int)≤most) && decide (opsE l=0),()) w'):Cl Pg i_wire_ops [.slice s.p s.len s.cap,.int .i64 most] false [.sc .b] K w:=by
 have hl:=h.len
 refine wire_ops_call _ _ ?_
 unfold wire_ops
 rw [show decide (((s.len:Nat):Int)≤most)=decide ((l.length:Int)≤most) from by rw [hl]]
 by_cases hc:(l.length:Int)≤most
 ·rw [decide_eq_true hc] at k ⊢
  rw [Bool.true_and] at k
  simp only [Br_true]
  refine ContainsFunc_Op_k (p:=fun o=>opE o != 0) (F:=fun _=>False) h ?_ (by omega) fun w1 k1=>?_
  ·intro w2 k2 x _ K1 hK
   refine CallV_fn0 (by kernel_rfl) ?_
   refine wire_ops_1_call _ _ _ _ _ _ ?_
   unfold wire_ops_1
   refine New_bx fun c w3 h3 n3 k3=>?_
   simp only [sb,h3]
   refine CheckOp_k x fun w4 k4=>?_
   exact hK w4 (kp0 k3 k4)
  ·have:=k w1 k1
   rw [show decide (opsE l=0)=!(l.any fun o=>opE o != 0) from ?_] at this
   ·exact this
   ·by_cases hz:opsE l=0
    ·rw [decide_eq_true hz]
     rw [opsE_all] at hz
     rw [show (l.any fun o=>opE o != 0)=false from List.any_eq_false.2 fun o ho=>by simp [hz o ho]]
     rfl
    ·rw [decide_eq_false hz]
     rw [opsE_all] at hz
     have:(l.any fun o=>opE o != 0)=true:=by
      rw [List.any_eq_true]
      apply Classical.byContradiction
      intro hn
      apply hz
      intro o ho
      apply Classical.byContradiction
      intro ho'
      exact hn ⟨o,ho,by simpa using ho'⟩
     rw [this]
     rfl
 ·rw [decide_eq_false hc] at k ⊢
  exact k w (Keeps.refl _ _)
theorem work_g (x:Mg) {w:World} (h:RdE opR w x.so x.ops):Gfn (fn0 i_wire_formOf_3) x (decide (0 < x.ops.length) && (decide (x.ops.length≤24) && decide (opsE x.ops=0))) w:=by
 intro w1 k1 K hK
 refine CallV_fn0 (by kernel_rfl) ?_
 refine wire_formOf_3_call _ _ _ _ _ _ _ _ _ _ _ _ _ _ _ _ _ _ x.so x.sr x.sw ?_
 unfold wire_formOf_3
 refine New_bx fun a w2 h2 n2 k2=>?_
 have hl:=h.len
 simp only [sb,h2]
 by_cases hc:0 < x.ops.length
 ·rw [decide_eq_true (by omega)]
  rw [decide_eq_true hc,Bool.true_and] at hK
  simp only [sb,h2]
  refine ops_k (h.keeps0 (kp0 k1 k2)) 24 (by decide) fun w3 k3=>?_
  rw [show decide ((x.ops.length:Int)≤24)=decide (x.ops.length≤24) from decide_eq_decide.2 (by omega)]
  exact hK w3 (kp0 k2 k3)
 ·rw [decide_eq_false (by omega)]
  rw [decide_eq_false hc,Bool.false_and] at hK
  exact hK w2 k2
def headB (fr to:Int→Bool) (gd:Bool) (x:Mg):Bool:=fr x.src && (to x.dst && (x.client == 0 && gd))
set_option maxHeartbeats 2000000 in
theorem CheckW_k {w:World} {x:Mg} {s:List UInt8} {a b c:FuncId} (hf:agetT x.kind formsW=some (fmT s a b c)) {fr to:Int→Bool} {gd:Bool} (h1:Nfn (fn0 a) fr) (h2:Nfn (fn0 b) to) (h3:Gfn (fn0 c) x gd w) {l:List Int} (hl:runesOf (BA s)=l.map (Value.int .i32)) (hN:l.length≤100) {K:TR [.sc (.i .i64)]→Pr}
  (k:∀ w',Keeps [] w w'→K (if headB fr to gd x && zall l x then 0 else 180,()) w'):Cl Pg i_wire_Check [.agg (mgL x)] false [.sc (.i .i64)] K w:=by
 refine wire_Check_call _ _ _ _ _ _ _ _ _ _ _ _ _ _ _ _ _ _ x.so x.sr x.sw ?_
 unfold wire_Check
 refine New_bx fun m w1 hm n1 k1=>?_
 simp only [sb,hm]
 refine formW_k x.kind fun w2 k2=>?_
 rw [hf]
 have hm2:=k2.at0 hm
 refine bx4g rfl rfl rfl rfl rfl fun f w3 hf3 n3 k3=>?_
 have hm3:=k3.at0 hm2
 have k03:=kp0 (kp0 k1 k2) k3
 refine Jp_b (!(headB fr to gd x)) (fun J hJ=>?_) fun w4 k4=>?_
 ·unfold headB at hJ
  simp only [Option.isSome_some,Bool.not_true,sb,hf3,hm3]
  refine h1 _ _ _ ?_
  dsimp only
  cases c1:fr x.src with
  | false=>rw [c1] at hJ;exact hJ _ (Keeps.refl _ _)
  | true=>
   rw [c1,Bool.true_and] at hJ
   simp only [Bool.not_true,sb,hf3,hm3]
   refine h2 _ _ _ ?_
   dsimp only
   cases c2:to x.dst with
   | false=>rw [c2] at hJ;exact hJ _ (Keeps.refl _ _)
   | true=>
    rw [c2,Bool.true_and] at hJ
    simp only [Bool.not_true,sb,hf3,hm3]
    rw [show ((x.client:Int) != 0)=!(x.client == 0) from rfl]
    cases c3:(x.client == 0) with
    | false=>rw [c3] at hJ;exact hJ _ (Keeps.refl _ _)
    | true=>
     rw [c3,Bool.true_and] at hJ
     simp only [Bool.not_true,sb,hf3,hm3]
     refine h3 w3 k03 _ fun w5 k5=>?_
     exact hJ w5 k5
 ·have k04:=kp0 k03 k4
  have hm4:=k4.at0 hm3
  have hf4:=k4.at0 hf3
  cases hh:headB fr to gd x with
  | false=>
   rw [hh] at k
   simp only [Bool.not_false,Br_true]
   exact k w4 k04
  | true=>
   rw [hh,Bool.true_and] at k
   simp only [Bool.not_true,Br_false]
   refine allW_k fun mm kv w5 h5 hkeys hfld n5 k5=>?_
   have hm5:=k5.at0 hm4
   have hf5:=k5.at0 hf4
   have k05:=kp0 k04 k5
   refine RgM_of h5 fun w6 h6 k6 s6=>?_
   generalize hit:w5.heap.size=it at *
   refine ⟨fun n st w'=>∃ left:List Int,st.1=0∧n=left.length∧ItR w' it mm (ekI .i32) kv left∧Keeps [] w5 w'∧(∀ c∈zOf.map Prod.fst,c∈left∨(l.contains c || zW c x)=true)∧(∀ c∈left,c∈zOf.map Prod.fst),⟨_,_,rfl,rfl,h6,k6,fun c hc=>.inl (by rw [hkeys];exact hc),fun c hc=>by rw [← hkeys];exact hc⟩,?_⟩
   rintro n ⟨st,⟨⟩⟩ w7 ⟨left,rfl,rfl,h7,k7,hl7,hl7'⟩
   refine NxEn_of (keyOk_int .i32) h7 ?_ ?_
   ·intro ch v left' w8 hg hp h8 k8 s8
    have k58:Keeps [] w5 w8:=kp1 k7 k8 (by omega)
    have hm8:=k58.at0 hm5
    have hf8:=k58.at0 hf5
    obtain ⟨y,hv,o1,o2,o3,hz⟩:=hfld (ch,v) (aget_mem hg)
    refine TyA_of y hv ?_
    refine bx3 rfl o1 o2 o3 fun q w9 h9 n9 k9=>?_
    have k59:=kp0 k58 k9
    have hm9:=k9.at0 hm8
    have hf9:=k9.at0 hf8
    have i9:=h8.keepsL k9 (by simp) (by simp)
    have hch:ch∈zOf.map Prod.fst:=hl7' ch (hp.mem_iff.2 List.mem_cons_self)
    refine Jp_b (!(l.contains ch || zW ch x)) (fun J hJ=>?_) fun w10 k10=>?_
    ·simp only [sb,hf9]
     refine StoU_k hl fun r w11 h11 k11=>?_
     refine ContainsR_k h11 ch (by omega) ?_
     dsimp only
     cases c1:l.contains ch with
     | true=>
      rw [c1] at hJ
      simp only [Bool.not_true,Br_false]
      exact hJ w11 k11
     | false=>
      rw [c1,Bool.false_or] at hJ
      simp only [Bool.not_false,sb,k11.at0 h9]
      refine hz x m w11 (kp0 k59 k11).toP0 (k11.at0 hm9) _ ?_
      exact hJ w11 k11
    ·cases c1:(l.contains ch || zW ch x) with
     | false=>
      simp only [Bool.not_false,Br_true]
      have:=k w10 (kp0 k05 (kp0 k59 k10))
      rw [show zall l x=false from ?_] at this
      ·exact this
      ·unfold zall
       rw [List.all_eq_false]
       exact ⟨ch,hch,by rw [c1];simp⟩
     | true=>
      simp only [Bool.not_true,Br_false]
      refine ⟨left'.length,by rw [hp.length_eq,List.length_cons];omega,left',by trivial,rfl,i9.keepsL k10 (by simp) (by simp),kp0 k59 k10,fun c hc=>?_,fun c hc=>hl7' c (hp.mem_iff.2 (List.mem_cons_of_mem _ hc))⟩
      rcases hl7 c hc with h | h
      ·rcases List.mem_cons.1 (hp.mem_iff.1 h) with rfl | h
       ·exact .inr c1
       ·exact .inl h
      ·exact .inr h
   ·intro hnil w8 hw8
    have kk:Keeps [] w7 w8:=by rcases hw8 with rfl | rfl;exact Keeps.refl _ _;exact drewK _
    have:=k w8 (kp0 k05 (kp0 k7 kk))
    rw [show zall l x=true from ?_] at this
    ·exact this
    ·unfold zall
     rw [List.all_eq_true]
     intro c hc
     rcases hl7 c hc with h | h
     ·rw [hnil] at h;cases h
     ·exact h
def msgOk (x:Mg):Bool:=
 if x.kind=3 then headB coordB shardB (decide (0 < x.ops.length) && (decide (x.ops.length≤24) && decide (opsE x.ops=0))) x && zall [116,108,101,111] x
 else if x.kind=5 then headB coordB shardB true x && zall [116,102] x
 else if x.kind=6 then headB shardB coordB true x && zall [116] x
 else false
theorem Check3_k {w:World} {x:Mg} (hx:RdE opR w x.so x.ops) (hk:x.kind=3∨x.kind=5∨x.kind=6) {K:TR [.sc (.i .i64)]→Pr}
  (k:∀ w',Keeps [] w w'→K (if msgOk x then 0 else 180,()) w'):Cl Pg i_wire_Check [.agg (mgL x)] false [.sc (.i .i64)] K w:=by
 unfold msgOk at k
 rcases hk with hk | hk | hk
 ·rw [if_pos hk] at k
  exact CheckW_k (by rw [hk];rfl) coord_n shard_n (work_g x hx) (l:=[116,108,101,111]) (by kernel_rfl) (by decide) k
 ·rw [if_neg (show ¬ x.kind=3 by omega),if_pos hk] at k
  exact CheckW_k (by rw [hk];rfl) coord_n shard_n (what_g x w) (l:=[116,102]) (by kernel_rfl) (by decide) k
 ·rw [if_neg (show ¬ x.kind=3 by omega),if_neg (show ¬ x.kind=5 by omega),if_pos hk] at k
  exact CheckW_k (by rw [hk];rfl) shard_n coord_n (what_g x w) (l:=[116]) (by kernel_rfl) (by decide) k
end Go.Proofs.YthkdehgfdllpoaaGreat
set_option linter.unusedVariables false
set_option linter.unusedSimpArgs false
namespace Go.Proofs.YthkdehgfdllpoaaGreat
open Go Go.Sx
structure Sd where
 c:Sc
 so:Sl
 sh:Sl
 sf:Sl
 owners:List Ow
 held:List Hd
 fin:List Int
abbrev shA (d:Sd):Array Value:=#[.int .i64 d.c.id,.int .u64 d.c.boot,.int .u64 d.c.ver,.int .u64 d.c.epoch,.int .u64 d.c.move,.slice d.so.p d.so.len d.so.cap,.slice d.sh.p d.sh.len d.sh.cap,.slice d.sf.p d.sf.len d.sf.cap,.int .u64 d.c.low,.int .u64 d.c.frozen,.string d.c.clo,.string d.c.chi,.int .u64 d.c.imove,.int .u64 d.c.iatt,.int .u64 d.c.inext,.string d.c.ilo,.string d.c.ihi]
abbrev shL (d:Sd):List Value:=[.int .i64 d.c.id,.int .u64 d.c.boot,.int .u64 d.c.ver,.int .u64 d.c.epoch,.int .u64 d.c.move,.slice d.so.p d.so.len d.so.cap,.slice d.sh.p d.sh.len d.sh.cap,.slice d.sf.p d.sf.len d.sf.cap,.int .u64 d.c.low,.int .u64 d.c.frozen,.string d.c.clo,.string d.c.chi,.int .u64 d.c.imove,.int .u64 d.c.iatt,.int .u64 d.c.inext,.string d.c.ilo,.string d.c.ihi]
abbrev shK:List Kd:=[.i .i64,.i .u64,.i .u64,.i .u64,.i .u64,.sl,.sl,.sl,.i .u64,.i .u64,.s,.s,.i .u64,.i .u64,.i .u64,.s,.s]
abbrev shT (d:Sd):Tup shK:=(d.c.id,d.c.boot,d.c.ver,d.c.epoch,d.c.move,d.so,d.sh,d.sf,d.c.low,d.c.frozen,d.c.clo,d.c.chi,d.c.imove,d.c.iatt,d.c.inext,d.c.ilo,d.c.ihi,())
theorem putSh {w:World} {b:Nat} {cs:Array Value} {t:TypeId} (h:w.heap[b]?=some (.cells cs t (0,0))) (hs:cs.size=17) (d:Sd) {K:Pr} (k:∀ w',w'.heap[b]?=some (.cells (shA d) t (0,0))→Keeps [b] w w'→K w') :
  (St (Addr.add ⟨b,0,none⟩ 0) (.int .i64 d.c.id) <| St (Addr.add ⟨b,0,none⟩ 1) (.int .u64 d.c.boot) <| St (Addr.add ⟨b,0,none⟩ 2) (.int .u64 d.c.ver) <| St (Addr.add ⟨b,0,none⟩ 3) (.int .u64 d.c.epoch) <| St (Addr.add ⟨b,0,none⟩ 4) (.int .u64 d.c.move) <| St (Addr.add ⟨b,0,none⟩ 5) (.slice d.so.p d.so.len d.so.cap) <| St (Addr.add ⟨b,0,none⟩ 6) (.slice d.sh.p d.sh.len d.sh.cap) <| St (Addr.add ⟨b,0,none⟩ 7) (.slice d.sf.p d.sf.len d.sf.cap) <| St (Addr.add ⟨b,0,none⟩ 8) (.int .u64 d.c.low) <| St (Addr.add ⟨b,0,none⟩ 9) (.int .u64 d.c.frozen) <| St (Addr.add ⟨b,0,none⟩ 10) (.string d.c.clo) <| St (Addr.add ⟨b,0,none⟩ 11) (.string d.c.chi) <| St (Addr.add ⟨b,0,none⟩ 12) (.int .u64 d.c.imove) <| St (Addr.add ⟨b,0,none⟩ 13) (.int .u64 d.c.iatt) <| St (Addr.add ⟨b,0,none⟩ 14) (.int .u64 d.c.inext) <| St (Addr.add ⟨b,0,none⟩ 15) (.string d.c.ilo) <| St (Addr.add ⟨b,0,none⟩ 16) (.string d.c.ihi) <| K) w:=put_box (vs:=shL d) h hs.symm (by simp [Value.oneCell']) k
theorem ldSh {w:World} {b:Nat} {t:TypeId} {d:Sd} (h:w.heap[b]?=some (.cells (shA d) t (0,0))) {K:Tup shK→Pr} (k:K (shT d) w) :
  (LdI .i64 (Addr.add ⟨b,0,none⟩ 0) fun x0=>LdI .u64 (Addr.add ⟨b,0,none⟩ 1) fun x1=>LdI .u64 (Addr.add ⟨b,0,none⟩ 2) fun x2=>LdI .u64 (Addr.add ⟨b,0,none⟩ 3) fun x3=>LdI .u64 (Addr.add ⟨b,0,none⟩ 4) fun x4=>LdL (Addr.add ⟨b,0,none⟩ 5) fun x5=>LdL (Addr.add ⟨b,0,none⟩ 6) fun x6=>LdL (Addr.add ⟨b,0,none⟩ 7) fun x7=>LdI .u64 (Addr.add ⟨b,0,none⟩ 8) fun x8=>LdI .u64 (Addr.add ⟨b,0,none⟩ 9) fun x9=>LdS (Addr.add ⟨b,0,none⟩ 10) fun x10=>LdS (Addr.add ⟨b,0,none⟩ 11) fun x11=>LdI .u64 (Addr.add ⟨b,0,none⟩ 12) fun x12=>LdI .u64 (Addr.add ⟨b,0,none⟩ 13) fun x13=>LdI .u64 (Addr.add ⟨b,0,none⟩ 14) fun x14=>LdS (Addr.add ⟨b,0,none⟩ 15) fun x15=>LdS (Addr.add ⟨b,0,none⟩ 16) fun x16=>K (x0,x1,x2,x3,x4,x5,x6,x7,x8,x9,x10,x11,x12,x13,x14,x15,x16,())) w:=by
 simp only [sb,h]
 exact k
structure ShD (d:Sd) (w:World):Prop where
 ow:RdE owR w d.so d.owners
 he:RdE hdR w d.sh d.held
 hd:∀ x∈d.held,RdE opR w x.so x.ops
 fi:RdE nmR w d.sf d.fin
theorem ShD.keeps0 {d:Sd} {w w':World} (h:ShD d w) (k:Keeps [] w w'):ShD d w':=⟨h.ow.keeps0 k,h.he.keeps0 k,fun x hx=>(h.hd x hx).keeps0 k,h.fi.keeps0 k⟩
structure ShN (d d':Sd) (n:Nat) (w:World):Prop where
 c:d'.c=d.c
 owners:d'.owners=d.owners
 held:d'.held.map Hd.p=d.held.map Hd.p
 fin:d'.fin=d.fin
 ow:SlE owR w d'.so d'.owners
 he:SlE hdR w d'.sh d'.held
 hd:∀ x∈d'.held,SlE opR w x.so x.ops
 fi:SlE nmR w d'.sf d'.fin
 fow:∀ b∈blk d'.so,n≤b
 fhe:∀ b∈blk d'.sh,n≤b
 fhd:∀ x∈d'.held,∀ b∈blk x.so,n≤b
 ffi:∀ b∈blk d'.sf,n≤b
 d1:∀ b∈blk d'.so,b ∉ blk d'.sh∧b ∉ blk d'.sf
 d2:∀ b∈blk d'.sf,b ∉ blk d'.sh
 d3:∀ x∈d'.held,∀ b∈blk x.so,b ∉ blk d'.sh∧b ∉ blk d'.sf
theorem ShN.shd {d d':Sd} {n:Nat} {w:World} (h:ShN d d' n w):ShD d' w:=⟨h.ow.rde,h.he.rde,fun x hx=>(h.hd x hx).rde,h.fi.rde⟩
theorem map_p_set {l:List Hd} {i:Nat} {x:Hd} (hx:l[i]?=some x) (r:Sl):(l.set i { x with so:=r }).map Hd.p=l.map Hd.p:=by
 rw [List.map_set]
 have h2:(l.map Hd.p)[i]?=some x.p:=by rw [List.getElem?_map,hx];rfl
 apply List.ext_getElem?
 intro j
 by_cases hj:i=j
 ·subst hj
  rw [List.getElem?_set_self (by rw [List.length_map];exact (List.getElem?_eq_some_iff.1 hx).1),h2]
  rfl
 ·rw [List.getElem?_set_ne hj]
set_option maxHeartbeats 2000000 in
theorem copied_k {w:World} {d:Sd} (h:ShD d w) (hN:d.owners.length≤100000∧d.held.length≤100000∧d.fin.length≤200000∧∀ x∈d.held,x.ops.length≤100000) {K:TR [.ag shK]→Pr}
  (k:∀ d' w',ShN d d' w.heap.size w'→Keeps [] w w'→K (shT d',()) w'):Cl Pg i_part_copied [.agg (shA d)] false [.ag shK] K w:=by
 refine part_copied_call _ _ _ _ _ d.so d.sh d.sf _ _ _ _ _ _ _ _ _ ?_
 unfold part_copied
 refine New_bx fun a w1 h1 n1 k1=>?_
 refine New_bx fun b w2 h2 n2 k2=>?_
 have nab:a ≠ b:=fun e=>by have:=hp_lt h1;omega
 have h1:=k2.at0 h1
 have k02:=kp0 k1 k2
 simp only [sb,h1]
 have kd:=k02.drew
 refine Clone_Owner_k (h.ow.keeps0 kd) (by omega) fun r1 w3 h3 f3 k3=>?_
 have a3:w3.heap[a]?=_:=k3.at0 (show w2.drew.heap[a]?=_ from h1)
 have b3:w3.heap[b]?=_:=k3.at0 (show w2.drew.heap[b]?=_ from h2)
 have k03:=kp0 kd k3
 simp only [sb,a3]
 refine ⟨by trivial,by trivial,?_⟩
 refine Clone_Hold_k (h.he.keeps0 k03) (by omega) fun r2 w4 h4 f4 k4=>?_
 have a4:=k4.at0 a3
 have b4:=k4.at0 b3
 have k04:=kp0 k03 k4
 simp only [sb,a4]
 refine ⟨by trivial,?_⟩
 refine Clone_uint64_k (h.fi.keeps0 k04) (by omega) fun r3 w5 h5 f5 k5=>?_
 have a5:=k5.at0 a4
 have b5:=k5.at0 b4
 have k05:=kp0 k04 k5
 have sz:w.heap.size≤w2.heap.size:=k02.size
 have sz3:w.heap.size≤w3.heap.size:=k03.size
 have sz4:w.heap.size≤w4.heap.size:=k04.size
 have lt2:a < w2.heap.size∧b < w2.heap.size:=⟨hp_lt h1,hp_lt h2⟩
 have d2:w2.drew.heap.size=w2.heap.size:=rfl
 have lt3:w2.heap.size≤w3.heap.size:=by have:=k3.size;omega
 have lt4:w3.heap.size≤w4.heap.size:=k4.size
 have na:w.heap.size≤a:=n1
 have nb:w.heap.size≤b:=by have:=k1.size;omega
 refine set_box a5 5 _ rfl (by simp) fun w6 a6 k6=>?_
 simp only [sxl] at a6
 refine set_box a6 6 _ rfl (by simp) fun w7 a7 k7=>?_
 simp only [sxl] at a7
 refine set_box a7 7 _ rfl (by simp) fun w8 a8 k8=>?_
 simp only [sxl] at a8
 have k58:Keeps [a] w5 w8:=(k6.trans k7 (fun _ hx=>.inl hx)).trans k8 (fun _ hx=>.inl hx)
 have b8:=k58.at1 b5 (Ne.symm nab)
 have o8:SlE owR w8 r1 d.owners:=(h3.keeps (kp0 k4 k5) (by simp)).keeps k58 (fun y hy=>by have:=f3 y hy;simp;omega)
 have q8:SlE hdR w8 r2 d.held:=(h4.keeps k5 (by simp)).keeps k58 (fun y hy=>by have:=f4 y hy;simp;omega)
 have i8:SlE nmR w8 r3 d.fin:=h5.keeps k58 (fun y hy=>by have:=f5 y hy;simp;omega)
 have k08:=kp1 k05 k58 na
 have f1':∀ y∈blk r1,w2.heap.size≤y:=fun y hy=>by have:=f3 y hy;omega
 have f2':∀ y∈blk r2,w3.heap.size≤y:=f4
 have f3':∀ y∈blk r3,w4.heap.size≤y:=f5
 have dis1:∀ y∈blk r1,y ∉ blk r2:=fun y hy h=>by have:=f4 y h;have:=h3.lt y hy;omega
 have dis3:∀ y∈blk r3,y ∉ blk r2:=fun y hy h=>by have:=f5 y hy;have:=h4.lt y h;omega
 have lb8:b < w8.heap.size:=hp_lt b8
 have sw8:w.heap.size≤w8.heap.size:=k08.size
 simp only [sb,a8]
 have hl:=q8.len'
 refine ⟨fun n st w'=>∃ (i:Nat) (held:List Hd),st=((i:Int),())∧n=d.held.length - i∧i≤d.held.length∧held.length=d.held.length∧held.map Hd.p=d.held.map Hd.p∧SlE hdR w' r2 held∧SlE owR w' r1 d.owners∧SlE nmR w' r3 d.fin∧(∀ x∈held.take i,SlE opR w' x.so x.ops∧∀ y∈blk x.so,w8.heap.size≤y)∧(∀ x∈held,RdE opR w' x.so x.ops∧∀ z∈rb x.so,z < w.heap.size∨w8.heap.size≤z)∧Keeps [] w w' ∧
  w'.heap[a]?=w8.heap[a]?∧w'.heap[b]?=w8.heap[b]?∧w8.heap.size≤w'.heap.size,⟨_,0,d.held,rfl,rfl,by omega,rfl,rfl,q8,o8,i8,by simp,fun x hx=>⟨(h.hd x hx).keeps0 k08,fun z hz=>.inl ((h.hd x hx).lt z hz)⟩,k08,rfl,rfl,Nat.le_refl _⟩,?_⟩
 rintro n _ w9 ⟨i,held,rfl,rfl,hi,hlen,hmap,q9,o9,i9,t9,r9,k9,a9,b9,s9⟩
 rw [a8] at a9
 rw [b8] at b9
 dsimp only
 by_cases hlt:i < d.held.length
 ·rw [decide_eq_true (by omega)]
  simp only [Br_true]
  obtain ⟨x,hx⟩:∃ x,held[i]?=some x:=⟨_,List.getElem?_eq_getElem (by omega)⟩
  have hxr:=(r9 x (List.mem_of_getElem? hx)).1
  refine ld_Hold q9.rde hx ?_
  refine bx_Hold x fun c w10 h10 n10 k10=>?_
  have a10:=k10.at0 a9
  simp only [sb,a10,h10]
  have kd10:=k10.drew
  refine Clone_Op_k (hxr.keeps0 kd10) (by
   have hm:x.p∈d.held.map Hd.p:=by rw [← hmap];exact List.mem_map.2 ⟨x,List.mem_of_getElem? hx,rfl⟩
   obtain ⟨z,hz,hzx⟩:=List.mem_map.1 hm
   have:=hN.2.2.2 z hz
   have e:z.ops=x.ops:=congrArg PH.ops hzx
   rw [← e]
   omega) fun rc w11 h11 f11 k11=>?_
  have a11:w11.heap[a]?=_:=k11.at0 (show w10.drew.heap[a]?=_ from a10)
  simp only [sb,a11]
  refine ⟨by trivial,?_⟩
  have k911:=kp0 kd10 k11
  have q11:=q9.keeps k911 (by simp)
  have hl11:=q11.len'
  obtain ⟨e,o,hpp,hbb⟩:=q11.base (by omega)
  refine Ix_add hpp (by omega) 2 ?_
  rw [add00]
  have hfl:(held.flatMap hdR.c).length=held.length * 2:=flat_length hdR.len _
  have hmul:(i + 1) * 2≤held.length * 2:=Nat.mul_le_mul_right _ (by omega)
  refine q11.write' hpp (i * 2 + 1) (by omega) (by omega) rfl fun w12 h12 k12=>?_
  have h12':SlE hdR w12 r2 (held.set i { x with so:=rc }):=by
   have:=flat_set1 (size:=2) hdR.len held i 1 x { x with so:=rc } (.slice rc.p rc.len rc.cap) hx (by decide) rfl
   show SlC _ _ _ _
   rw [← this]
   exact h12
  have ek:∀ y∈blk r2,y=e:=fun y hy=>by rw [hbb] at hy;simpa using hy
  have he2:e∈blk r2:=by rw [hbb];simp
  have ne:=f2' e he2
  have nlt:=q8.lt e he2
  have se11:w8.heap.size≤w11.heap.size:=by have:=k911.size;omega
  have kall:Keeps [e] w9 w12:=(k911.mono (by simp)).trans k12 (fun _ hx=>.inl hx)
  refine ⟨d.held.length - (i + 1),by omega,i + 1,held.set i { x with so:=rc },by rw [w64p (by omega)],rfl,by omega,by rw [List.length_set];exact hlen,by rw [map_p_set hx];exact hmap,h12',o9.keeps kall ?_,i9.keeps kall ?_,?_,?_,kp1 (kp0 k9 k911) k12 (by omega),?_,?_,?_⟩
  ·intro y hy;have:=f1' y hy;simp;exact fun h=>dis1 y hy (h ▸ he2)
  ·intro y hy;simp;exact fun h=>dis3 y hy (h ▸ he2)
  ·intro y hy
   rw [List.take_add_one,List.getElem?_set_self (by omega),List.take_set_of_le (Nat.le_refl i)] at hy
   rcases List.mem_append.1 hy with hy | hy
   ·obtain ⟨t1,t2⟩:=t9 y hy
    exact ⟨t1.keeps kall (fun z hz=>by have:=t2 z hz;simp;omega),t2⟩
   ·simp at hy
    subst hy
    have f11':∀ z∈blk rc,w8.heap.size≤z:=fun z hz=>by have:=f11 z hz;have:w10.drew.heap.size=w10.heap.size:=rfl;have:=k10.size;omega
    exact ⟨h11.keeps k12 (fun z hz=>by have:=f11' z hz;simp;omega),f11'⟩
  ·intro y hy
   rcases List.mem_or_eq_of_mem_set hy with hy | rfl
   ·obtain ⟨r91,r92⟩:=r9 y hy
    exact ⟨r91.keeps kall (fun z hz=>by have:=r92 z hz;simp;omega),r92⟩
   ·have f11':∀ z∈blk rc,w8.heap.size≤z:=fun z hz=>by have:=f11 z hz;have:w10.drew.heap.size=w10.heap.size:=rfl;have:=k10.size;omega
    have hh:=h11.keeps k12 (fun z hz=>by have:=f11' z hz;simp;omega)
    exact ⟨hh.rde,fun z hz=>.inr (f11' z (hh.rb z hz))⟩
  ·exact (k12.at1 a11 (by omega)).trans a8.symm
  ·exact (k12.at1 (k911.at0 b9) (by omega)).trans b8.symm
  ·have:=kall.size;omega
 ·rw [decide_eq_false (by omega)]
  simp only [sb,a9]
  refine putSh b9 rfl { d with so:=r1,sh:=r2,sf:=r3 } fun w10 b10 k10=>?_
  refine ldSh (K:=fun y=>K (y,())) b10 ?_
  refine k { d with so:=r1,sh:=r2,sf:=r3,held:=held } w10 ⟨rfl,rfl,hmap,rfl,?_,?_,?_,?_,?_,?_,?_,?_,?_,dis3,?_⟩ (kp1 k9 k10 nb)
  ·exact o9.keeps k10 (fun y hy=>by have:=f1' y hy;simp;omega)
  ·exact q9.keeps k10 (fun y hy=>by have:=f2' y hy;simp;omega)
  ·intro x hx
   obtain ⟨t1,t2⟩:=t9 x (by rw [List.take_of_length_le (by omega)];exact hx)
   exact t1.keeps k10 (fun y hy=>by have:=t2 y hy;simp;omega)
  ·exact i9.keeps k10 (fun y hy=>by have:=f3' y hy;simp;omega)
  ·intro y hy;have:=f1' y hy;omega
  ·intro y hy;have:=f2' y hy;omega
  ·intro x hx y hy
   obtain ⟨t1,t2⟩:=t9 x (by rw [List.take_of_length_le (by omega)];exact hx)
   have:=t2 y hy
   omega
  ·intro y hy;have:=f3' y hy;omega
  ·intro y hy
   have l3:=h3.lt y hy
   exact ⟨fun h=>by have:=f4 y h;omega,fun h=>by have:=f5 y h;omega⟩
  ·intro x hx y hy
   obtain ⟨t1,t2⟩:=t9 x (by rw [List.take_of_length_le (by omega)];exact hx)
   have:=t2 y hy
   have z5:=k5.size
   have z8:=k58.size
   exact ⟨fun h=>by have:=h4.lt y h;omega,fun h=>by have:=h5.lt y h;omega⟩
def Mc.sd (X:Mc):Sd:=⟨X.c,X.d.so,X.d.sh,X.d.sf,X.d.owners,X.d.held,X.d.fin⟩
theorem MAt.shd {w:World} {m:Nat} {T:Nat→Nat} {X:Mc} (h:MAt w m T X):ShD X.sd w:=⟨h.r.ow.ok,h.r.he.ok.rde,fun x hx=>(h.r.heD x hx).ok,h.r.fi.ok.rde⟩
def SdN (d:Sd):Prop:=d.owners.length≤100000∧d.held.length≤100000∧d.fin.length≤200000∧∀ x∈d.held,x.ops.length≤100000
theorem State_k {w:World} {m:Nat} {T:Nat→Nat} {X:Mc} (h:MAt w m T X) (hN:SdN X.sd) {K:TR [.ag shK]→Pr}
  (k:∀ d' w',ShN X.sd d' w.heap.size w'→Keeps [] w w'→K (shT d',()) w'):Cl Pg i_part_Machine_State [.pointer (some ⟨m,0,none⟩)] false [.ag shK] K w:=by
 refine part_Machine_State_call _ ?_
 unfold part_Machine_State
 refine New_bx fun a w1 h1 n1 k1=>?_
 have g1:=h.keeps0 k1
 simp only [sb,g1.hd,mcC]
 refine copied_k (d:=X.sd) g1.shd hN fun d' w2 h2 k2=>?_
 have k02:=kp0 k1 k2
 refine putSh (k2.at0 h1) rfl d' fun w3 h3 k3=>?_
 refine ldSh (K:=fun y=>K (y,())) h3 ?_
 have hne:∀ b,w1.heap.size≤b→b ≠ a:=fun b hb e=>by have:=hp_lt h1;omega
 have s1:=k1.size
 refine k d' w3 ⟨h2.c,h2.owners,h2.held,h2.fin,h2.ow.keeps k3 ?_,h2.he.keeps k3 ?_,fun x hx=>(h2.hd x hx).keeps k3 ?_,h2.fi.keeps k3 ?_,fun b hb=>Nat.le_trans s1 (h2.fow b hb),fun b hb=>Nat.le_trans s1 (h2.fhe b hb),fun x hx b hb=>Nat.le_trans s1 (h2.fhd x hx b hb),fun b hb=>Nat.le_trans s1 (h2.ffi b hb),h2.d1,h2.d2,h2.d3⟩ (kp1 k02 k3 n1)
 ·intro b hb;simpa using hne b (h2.fow b hb)
 ·intro b hb;simpa using hne b (h2.fhe b hb)
 ·intro b hb;simpa using hne b (h2.fhd x hx b hb)
 ·intro b hb;simpa using hne b (h2.ffi b hb)
theorem Waits_k {w:World} {m:Nat} {T:Nat→Nat} {X:Mc} (h:MAt w m T X) (hN:X.d.wait.length≤100000) {K:TR [.sc .sl]→Pr}
  (k:∀ r w',SlE nmR w' r (X.d.wait.map (·.txn))→(∀ b∈blk r,w.heap.size≤b)→Keeps [] w w'→K (r,()) w'):Cl Pg i_part_Machine_Waits [.pointer (some ⟨m,0,none⟩)] false [.sc .sl] K w:=by
 refine part_Machine_Waits_call _ ?_
 unfold part_Machine_Waits
 simp only [sb,h.hd,mcC]
 have hl:=h.r.wa.ok.len'
 refine ⟨fun n st w'=>∃ (i:Nat) (r:Sl),st=(r,(i:Int),())∧n=X.d.wait.length - i∧i≤X.d.wait.length∧SlE nmR w' r ((X.d.wait.take i).map (·.txn))∧(∀ b∈blk r,w.heap.size≤b)∧Keeps [] w w',⟨_,0,⟨none,0,0⟩,rfl,rfl,by omega,SlC.nil _ _,by simp [blk],Keeps.refl _ _⟩,?_⟩
 rintro n _ w1 ⟨i,r,rfl,rfl,hi,h1,f1,k1⟩
 dsimp only
 by_cases hlt:i < X.d.wait.length
 ·rw [decide_eq_true (by omega)]
  simp only [Br_true]
  obtain ⟨x,hx⟩:∃ x,X.d.wait[i]?=some x:=⟨_,List.getElem?_eq_getElem hlt⟩
  refine ld_wait (h.keeps0 k1).r.wa.ok.rde hx ?_
  refine bx_wait x fun c w2 h2 n2 k2=>?_
  simp only [sb,h2]
  refine New_bx fun e w3 h3 n3 k3=>?_
  have k13:=kp0 k2 k3
  have q3:=h1.keeps k13 (by simp)
  have hl3:r.len=((X.d.wait.take i).map (·.txn)).length:=h1.len'
  rw [List.length_map,List.length_take] at hl3
  refine SlC.app (ρ:=nmR) (new:=[x.txn]) q3 (by rw [List.flatMap_singleton];exact box_src (ρ:=nmR) (x:=x.txn) h3) rfl (by rw [zc_uint64];rfl) (by omega) (by omega) ?_
  intro r4 w4 h4 k4 f4
  have k14:Keeps (blk r) w w4:=((kp0 k1 k13).mono (by simp)).trans k4 (fun _ hx=>.inl hx)
  refine ⟨X.d.wait.length - (i + 1),by omega,i + 1,r4,by rw [w64p (by omega)],rfl,by omega,?_,fun b hb=>?_,kpx (kp0 k1 k13) k4 f1⟩
  ·rw [List.take_add_one,hx,List.map_append]
   exact h4
  ·rcases f4 b hb with h' | h'
   ·exact f1 b h'
   ·have:=k1.size;have:=k13.size;omega
 ·rw [decide_eq_false (by omega)]
  rw [List.take_of_length_le (by omega)] at h1
  exact k r w1 h1 f1 k1
def PS.idle (P:PS):Bool:=Decidable.decide (P.wait.length + P.held.length=0) && (P.box.isNone && (P.c.frozen == 0 && P.c.imove == 0))
theorem Idle_k {w:World} {m:Nat} {T:Nat→Nat} {X:Mc} (h:MAt w m T X) (hN:X.d.wait.length≤100000∧X.d.held.length≤100000) {K:TR [.sc .b]→Pr}
  (k:∀ w',Keeps [] w w'→K (X.p.idle,()) w'):Cl Pg i_part_Machine_Idle [.pointer (some ⟨m,0,none⟩)] false [.sc .b] K w:=by
 refine part_Machine_Idle_call _ ?_
 unfold part_Machine_Idle
 have lw:=h.r.wa.ok.len'
 have lh:=h.r.he.ok.len'
 simp only [sb,h.hd,mcC]
 have k:=k _ (drewK w)
 unfold PS.idle at k
 rw [show X.p.wait.length=X.d.wait.length from List.length_map _,show X.p.held.length=X.d.held.length from List.length_map _] at k
 rw [lw,lh,w64_in (by omega) (by omega)]
 by_cases hc:X.d.wait.length + X.d.held.length=0
 ·rw [show (((X.d.wait.length:Nat):Int) + ((X.d.held.length:Nat):Int) == 0)=true from by simpa using (by omega:((X.d.wait.length:Nat):Int) + ((X.d.held.length:Nat):Int)=0)]
  rw [decide_eq_true hc,Bool.true_and] at k
  simp only [sb,h.hd,mcC]
  rw [show X.p.box.isNone=X.d.bx.isNone from by show (X.d.bx.map _).isNone=_;cases X.d.bx <;> rfl] at k
  rw [show (X.d.bx.map fun b=>(⟨b,0,none⟩:Addr)).isNone=X.d.bx.isNone from by cases X.d.bx <;> rfl]
  cases hb:X.d.bx.isNone with
  | false=>rw [hb] at k;exact k
  | true=>
   rw [hb,Bool.true_and] at k
   simp only [sb,h.hd,mcC]
   rw [show X.p.c.frozen=X.c.frozen from rfl,show X.p.c.imove=X.c.imove from rfl] at k
   cases hf:(X.c.frozen == 0) with
   | false=>rw [hf] at k;exact k
   | true=>
    rw [hf,Bool.true_and] at k
    simp only [sb,h.hd,mcC,add00,Nat.reduceAdd]
    exact k
 ·rw [show (((X.d.wait.length:Nat):Int) + ((X.d.held.length:Nat):Int) == 0)=false from by simpa using (by omega:¬ ((X.d.wait.length:Nat):Int) + ((X.d.held.length:Nat):Int)=0)]
  rw [decide_eq_false hc,Bool.false_and] at k
  exact k
end Go.Proofs.YthkdehgfdllpoaaGreat
set_option linter.unusedVariables false
set_option linter.unusedSimpArgs false
namespace Go.Proofs.YthkdehgfdllpoaaGreat
open Go Go.Sx
def rise (l:List Int):Bool:=decide (l.Pairwise (· < ·))
theorem rise_of:∀ {l:List Int},(∀ i x y,l[i]?=some x→l[i + 1]?=some y→x < y)→l.Pairwise (· < ·)
 | [],_=>List.Pairwise.nil
 | [a],_=>List.pairwise_singleton _ _
 | a :: b :: l,h=>by
  have h2:(b :: l).Pairwise (· < ·):=rise_of fun i x y hx hy=>h (i + 1) x y hx hy
  have hab:=h 0 a b rfl rfl
  refine List.pairwise_cons.2 ⟨fun c hc=>?_,h2⟩
  rcases List.mem_cons.1 hc with rfl | hc
  ·exact hab
  ·have:=(List.pairwise_cons.1 h2).1 c hc
   omega
theorem rise_at {l:List Int} (h:l.Pairwise (· < ·)) {i:Nat} {x y:Int} (hx:l[i]?=some x) (hy:l[i + 1]?=some y):x < y:=by
 have:=List.pairwise_iff_getElem.1 h i (i + 1) (List.getElem?_eq_some_iff.1 hx).1 (List.getElem?_eq_some_iff.1 hy).1 (by omega)
 rw [(List.getElem?_eq_some_iff.1 hx).2,(List.getElem?_eq_some_iff.1 hy).2] at this
 exact this
theorem ix_at {α:Type} {ρ:Rec α} {w:World} {s:Sl} {l:List α} (h:RdE ρ w s l) {i:Nat} {x:α} (hx:l[i]?=some x) {K:Addr→Pr} (k:∀ a,(∀ j u,(ρ.c x)[j]?=some u→w.cell? (a.add j)=some u)→K a w):Ix s (i:Int) ρ.n K w:=by
 obtain ⟨a,ha,hc⟩:=h.at hx
 have hi:=(List.getElem?_eq_some_iff.1 hx).1
 have hl:=h.len
 unfold Ix
 rw [ha]
 refine ⟨by omega,by omega,?_⟩
 rw [Int.toNat_natCast]
 exact k _ hc
theorem cell_k0 {w w':World} (k:Keeps [] w w') {a:Addr} {v:Value} (h:w.cell? a=some v):w'.cell? a=some v:=by
 cases hb:w.heap[a.block]? with
 | none=>simp [World.cell?,hb] at h
 | some o=>
  have:=k.at0 hb
  unfold World.cell? at h ⊢
  rw [this]
  rw [hb] at h
  exact h
theorem ix_nm {w:World} {s:Sl} {l:List Int} (h:RdE nmR w s l) {i:Nat} {x:Int} (hx:l[i]?=some x) {K:Addr→Pr} (k:∀ a,w.cell? a=some (.int .u64 x)→K a w):Ix s (i:Int) 1 K w:=by
 obtain ⟨a,ha,hc⟩:=h.at hx
 have hi:=(List.getElem?_eq_some_iff.1 hx).1
 have hl:s.len=l.length:=h.len
 unfold Ix
 rw [ha]
 refine ⟨by omega,by omega,?_⟩
 rw [Int.toNat_natCast]
 have h0:=hc 0 (.int .u64 x) rfl
 rw [add_add,Nat.add_zero] at h0
 exact k _ h0
theorem riseN_k {w:World} {s:Sl} {l:List Int} (h:RdE nmR w s l) (hN:l.length≤1000000) {K:TR [.sc .b]→Pr} (k:∀ w',Keeps [] w w'→K (rise l,()) w'):Cl Pg i_record_rising_uint64 [.slice s.p s.len s.cap,.func (.func 56) #[] #[]] false [.sc .b] K w:=by
 have hl:=nm_len h
 refine record_rising_uint64_call _ _ ?_
 unfold record_rising_uint64
 refine ⟨fun n st w'=>∃ (i:Nat),st=(false,(i:Int),())∧n=l.length - i∧i≤l.length∧(∀ j x y,j + 1 < i→l[j]?=some x→l[j + 1]?=some y→x < y)∧Keeps [] w w',⟨_,0,rfl,rfl,by omega,fun j x y hj=>absurd hj (by omega),Keeps.refl _ _⟩,?_⟩
 rintro n _ w1 ⟨i,rfl,rfl,hi,he,k1⟩
 dsimp only
 have by1:∀ (z:Int) {w:World} {K:TR [.sc (.i .u64)]→Pr},K (z,()) w→CallV Pg (.func (.func 56) #[] #[]) [.int .u64 z] false [.sc (.i .u64)] K w:=by
  intro z w K hK
  refine CallV_fn0 (by kernel_rfl) ?_
  exact record_CheckShard_3_call _ hK
 by_cases hlt:i < l.length
 ·rw [decide_eq_true (by omega)]
  simp only [Br_true]
  obtain ⟨y,hy⟩:∃ y,l[i]?=some y:=⟨_,List.getElem?_eq_getElem hlt⟩
  dsimp only [Jp]
  unfold Dr
  have kd:=k1.drew
  have h1:=h.keeps0 kd
  rcases Nat.eq_zero_or_pos i with h0 | h0
  ·subst h0
   rw [decide_eq_false (by omega)]
   simp only [Br_false]
   exact ⟨l.length - 1,by omega,1,by rw [w64p (by decide)],rfl,by omega,fun j x y hj=>absurd hj (by omega),kd⟩
  ·rw [decide_eq_true (by omega)]
   obtain ⟨x,hx⟩:∃ x,l[i - 1]?=some x:=⟨_,List.getElem?_eq_getElem (by omega)⟩
   simp only [Br_true]
   rw [show w64 ((i:Int) - 1)=((i - 1:Nat):Int) from by rw [w64_in (by omega) (by omega)];omega]
   refine ldn h1 hx ?_
   refine ix_nm h1 hy fun a ha=>?_
   refine Ld_of (k:=.i .u64) (x:=y) ha ?_
   refine by1 x ?_
   refine ⟨Ld_of (k:=.i .u64) (K:=fun x10 _=>(Value.int .u64 x10)=(Value.int .u64 y)) (x:=y) ha rfl,?_⟩
   ·refine by1 y ?_
    dsimp only
    by_cases hxy:x < y
    ·rw [show decide (x ≥ y)=false from decide_eq_false (by omega)]
     simp only [Br_false]
     refine ⟨l.length - (i + 1),by omega,i + 1,by rw [w64p (by omega)],rfl,by omega,fun j u v hj hu hv=>?_,kd⟩
     rcases Nat.lt_or_ge (j + 1) i with h' | h'
     ·exact he j u v h' hu hv
     ·obtain rfl:j=i - 1:=by omega
      rw [hx] at hu
      rw [show i - 1 + 1=i by omega,hy] at hv
      injection hu with hu
      injection hv with hv
      omega
    ·rw [show decide (x ≥ y)=true from decide_eq_true (by omega)]
     have:=k _ kd
     rw [show rise l=false from decide_eq_false fun hr=>hxy (rise_at hr hx (by rw [show i - 1 + 1=i by omega];exact hy))] at this
     exact this
 ·rw [decide_eq_false (by omega)]
  have:=k w1 k1
  rw [show rise l=true from decide_eq_true (rise_of fun j x y hx hy=>he j x y (by have:=(List.getElem?_eq_some_iff.1 hy).1;omega) hx hy)] at this
  exact this
theorem riseH_k {w:World} {s:Sl} {l:List Hd} (h:RdE hdR w s l) (hN:l.length≤1000000) {K:TR [.sc .b]→Pr} (k:∀ w',Keeps [] w w'→K (rise (l.map (·.txn)),()) w'):Cl Pg i_record_rising_Hold [.slice s.p s.len s.cap,.func (.func 54) #[] #[]] false [.sc .b] K w:=by
 have hl:=h.len
 have hm:(l.map (·.txn)).length=l.length:=List.length_map _
 refine record_rising_Hold_call _ _ ?_
 unfold record_rising_Hold
 refine ⟨fun n st w'=>∃ (i:Nat),st=(false,(i:Int),())∧n=l.length - i∧i≤l.length∧(∀ j x y,j + 1 < i→(l.map (·.txn))[j]?=some x→(l.map (·.txn))[j + 1]?=some y→x < y)∧Keeps [] w w',⟨_,0,rfl,rfl,by omega,fun j x y hj=>absurd hj (by omega),Keeps.refl _ _⟩,?_⟩
 rintro n _ w1 ⟨i,rfl,rfl,hi,he,k1⟩
 dsimp only
 have by1:∀ (z:Hd) {w:World} {K:TR [.sc (.i .u64)]→Pr},(∀ w',Keeps [] w w'→K (z.txn,()) w')→CallV Pg (.func (.func 54) #[] #[]) [.agg #[.int .u64 z.txn,.slice z.so.p z.so.len z.so.cap]] false [.sc (.i .u64)] K w:=by
  intro z w K hK
  refine CallV_fn0 (by kernel_rfl) ?_
  refine record_CheckShard_2_call _ z.so ?_
  unfold record_CheckShard_2
  refine New_bx fun b w2 h2 n2 k2=>?_
  simp only [sb,h2]
  exact hK w2 k2
 by_cases hlt:i < l.length
 ·rw [decide_eq_true (by omega)]
  simp only [Br_true]
  obtain ⟨y,hy⟩:∃ y,l[i]?=some y:=⟨_,List.getElem?_eq_getElem hlt⟩
  have hy':(l.map (·.txn))[i]?=some y.txn:=by rw [List.getElem?_map,hy];rfl
  dsimp only [Jp]
  unfold Dr
  have kd:=k1.drew
  have h1:=h.keeps0 kd
  rcases Nat.eq_zero_or_pos i with h0 | h0
  ·subst h0
   rw [decide_eq_false (by omega)]
   simp only [Br_false]
   exact ⟨l.length - 1,by omega,1,by rw [w64p (by decide)],rfl,by omega,fun j x y hj=>absurd hj (by omega),kd⟩
  ·rw [decide_eq_true (by omega)]
   obtain ⟨x,hx⟩:∃ x,l[i - 1]?=some x:=⟨_,List.getElem?_eq_getElem (by omega)⟩
   have hx':(l.map (·.txn))[i - 1]?=some x.txn:=by rw [List.getElem?_map,hx];rfl
   simp only [Br_true]
   rw [show w64 ((i:Int) - 1)=((i - 1:Nat):Int) from by rw [w64_in (by omega) (by omega)];omega]
   refine ld_Hold h1 hx ?_
   refine ix_at (ρ:=hdR) h1 hy fun a ha=>?_
   have c0:=ha 0 (.int .u64 y.txn) rfl
   have c1:=ha 1 (.slice y.so.p y.so.len y.so.cap) rfl
   refine Ld_of (k:=.i .u64) (x:=y.txn) c0 ?_
   refine Ld_of (k:=.sl) (x:=y.so) c1 ?_
   refine by1 x fun w2 k2=>?_
   have d0:=cell_k0 k2 c0
   have d1:=cell_k0 k2 c1
   refine ⟨Ld_of (k:=.i .u64) (K:=fun x12=>LdL (a.add 1) fun x13 _=>(Value.agg #[.int .u64 x12,.slice x13.p x13.len x13.cap])=(.agg #[.int .u64 y.txn,.slice y.so.p y.so.len y.so.cap])) (x:=y.txn) d0 (Ld_of (k:=.sl) (K:=fun x13 _=>(Value.agg #[.int .u64 y.txn,.slice x13.p x13.len x13.cap])=(.agg #[.int .u64 y.txn,.slice y.so.p y.so.len y.so.cap])) (x:=y.so) d1 rfl),?_⟩
   refine by1 y fun w3 k3=>?_
   have k13:=kp0 (kp0 kd k2) k3
   dsimp only
   by_cases hxy:x.txn < y.txn
   ·rw [show decide (x.txn ≥ y.txn)=false from decide_eq_false (by omega)]
    simp only [Br_false]
    refine ⟨l.length - (i + 1),by omega,i + 1,by rw [w64p (by omega)],rfl,by omega,fun j u v hj hu hv=>?_,k13⟩
    rcases Nat.lt_or_ge (j + 1) i with h' | h'
    ·exact he j u v h' hu hv
    ·obtain rfl:j=i - 1:=by omega
     rw [hx'] at hu
     rw [show i - 1 + 1=i by omega,hy'] at hv
     injection hu with hu
     injection hv with hv
     omega
   ·rw [show decide (x.txn ≥ y.txn)=true from decide_eq_true (by omega)]
    have:=k _ k13
    rw [show rise (l.map (·.txn))=false from decide_eq_false fun hr=>hxy (rise_at hr hx' (by rw [show i - 1 + 1=i by omega];exact hy'))] at this
    exact this
 ·rw [decide_eq_false (by omega)]
  have:=k w1 k1
  rw [show rise (l.map (·.txn))=true from decide_eq_true (rise_of fun j x y hx hy=>he j x y (by have:=(List.getElem?_eq_some_iff.1 hy).1;omega) hx hy)] at this
  exact this
theorem want_k (b:Bool) {w:World} {K:TR [.sc (.i .i64)]→Pr} (k:K (if b then 0 else 1,()) w):Cl Pg i_record_want [.bool b] false [.sc (.i .i64)] K w:=by
 refine record_want_call _ ?_
 unfold record_want
 cases b <;> exact k
def badH (fin:List Int) (h:PH):Bool:=decide (h.ops.length=0) || (decide (24 < h.ops.length) || (fin.contains h.txn || decide (opsE h.ops ≠ 0)))
def inZ (c:Sc):Bool:=(c.imove == 0) && ((c.iatt == 0) && ((c.inext == 0) && ((seq c.ilo (BA []) && (seq c.ihi (BA []) && true)) && true)))
def coldZ (c:Sc):Bool:=seq c.clo (BA []) && (seq c.chi (BA []) && true)
def headZ (c:Sc) (owners:List Ow) (held:List PH) (fin:List Int):Bool:=decide (c.id < 1) || (decide (c.id > 4) || (!ownOk owners || (decide (6 < held.length) || (decide (64 < held.length + fin.length) || (!okR c.ilo c.ihi || !okR c.clo c.chi)))))
def tailZ (held:List PH) (fin:List Int):Bool:=!held.any (badH fin) && (rise (held.map (·.txn)) && rise fin)
def shOk (c:Sc) (owners:List Ow) (held:List PH) (fin:List Int):Bool:=!headZ c owners held fin && ((c.imove != 0 || inZ c) && ((c.frozen != 0 || coldZ c) && tailZ held fin))
theorem any_op (l:List Op):(l.any fun o=>opE o != 0)=decide (opsE l ≠ 0):=by
 by_cases hz:opsE l=0
 ·rw [decide_eq_false (by simpa using hz)]
  rw [opsE_all] at hz
  exact List.any_eq_false.2 fun o ho=>by simp [hz o ho]
 ·rw [decide_eq_true hz]
  rw [opsE_all] at hz
  rw [List.any_eq_true]
  apply Classical.byContradiction
  intro hn
  apply hz
  intro o ho
  apply Classical.byContradiction
  intro ho'
  exact hn ⟨o,ho,by simpa using ho'⟩
theorem badH_k {w:World} {d:Sd} (h:ShD d w) (hN:SdN d) {a:Nat} (ha:w.heap[a]?=some (.cells (shA d) 41 (0,0))) {K:TR [.sc .b]→Pr} (k:∀ w',Keeps [] w w'→K ((d.held.map Hd.p).any (badH d.fin),()) w') :
  Cl Pg i_slices_ContainsFunc_Hold [.slice d.sh.p d.sh.len d.sh.cap,.func (.func 46) #[] #[.pointer (some ⟨a,0,none⟩)]] false [.sc .b] K w:=by
 rw [List.any_map] at k
 refine ContainsFunc_Hold_k (p:=badH d.fin ∘ Hd.p) (F:=fun _=>False) h.he ?_ (by have:=hN.2.1;omega) fun w1 k1=>k w1 k1
 intro w2 k2 x hx K1 hK
 have k2:=k2.toL0
 have a2:=k2.at0 ha
 have hxo:=(h.hd x hx).keeps0 k2
 have hl:=hxo.len
 have hxn:=hN.2.2.2 x hx
 refine CallV_fn (by kernel_rfl) ?_
 refine record_CheckShard_1_call _ x.so _ ?_
 unfold record_CheckShard_1
 refine New_bx fun b w3 h3 n3 k3=>?_
 have a3:=k3.at0 a2
 simp only [sb,h3]
 show (Br (((x.so.len:Nat):Int) == 0) _ _) w3
 unfold Function.comp badH at hK
 change ∀ w'',Keeps [] w2 w''→K1 (decide (x.ops.length=0) || (decide (24 < x.ops.length) || (d.fin.contains x.txn || decide (opsE x.ops ≠ 0))),()) w'' at hK
 by_cases c1:x.ops.length=0
 ·rw [show (((x.so.len:Nat):Int) == 0)=true from by rw [hl,c1];rfl]
  rw [decide_eq_true c1] at hK
  exact hK w3 k3
 ·rw [show (((x.so.len:Nat):Int) == 0)=false from by rw [hl];simpa using (by omega:¬ ((x.ops.length:Nat):Int)=0)]
  rw [decide_eq_false c1,Bool.false_or] at hK
  simp only [sb,h3]
  by_cases c2:24 < x.ops.length
  ·rw [show decide (((x.so.len:Nat):Int) > 24)=true from decide_eq_true (by omega)]
   rw [decide_eq_true c2] at hK
   exact hK w3 k3
  ·rw [show decide (((x.so.len:Nat):Int) > 24)=false from decide_eq_false (by omega)]
   rw [decide_eq_false c2,Bool.false_or] at hK
   simp only [sb,h3,a3]
   refine Contains_k ((h.fi.keeps0 k2).keeps0 k3) x.txn (by have:=hN.2.2.1;omega) ?_
   dsimp only
   cases c3:d.fin.contains x.txn with
   | true=>rw [c3] at hK;exact hK w3 k3
   | false=>
    rw [c3,Bool.false_or] at hK
    simp only [sb,h3]
    refine ContainsFunc_Op_k (p:=fun o=>opE o != 0) (F:=fun _=>False) (hxo.keeps0 k3) ?_ (by omega) fun w4 k4=>?_
    ·intro w5 k5 y _ K2 hK2
     refine CallV_fn0 (by kernel_rfl) ?_
     refine record_CheckShard_1_1_call _ _ _ _ _ _ ?_
     unfold record_CheckShard_1_1
     refine New_bx fun c w6 h6 n6 k6=>?_
     simp only [sb,h6]
     refine CheckOp_k y fun w7 k7=>?_
     exact hK2 w7 (kp0 k6 k7)
    ·rw [any_op]
     exact hK w4 (kp0 k3 k4)
set_option maxHeartbeats 2000000 in
theorem CheckShard_k {w:World} {d:Sd} (h:ShD d w) (hN:SdN d) {K:TR [.sc (.i .i64)]→Pr} (k:∀ w',Keeps [] w w'→K (if shOk d.c d.owners (d.held.map Hd.p) d.fin then 0 else 1,()) w'):Cl Pg i_record_CheckShard [.agg (shA d)] false [.sc (.i .i64)] K w:=by
 refine record_CheckShard_call _ _ _ _ _ d.so d.sh d.sf _ _ _ _ _ _ _ _ _ ?_
 unfold record_CheckShard
 refine New_bx fun a w1 h1 n1 k1=>?_
 obtain ⟨N1,N2,N3,N4⟩:=hN
 have hN:SdN d:=⟨N1,N2,N3,N4⟩
 have g1:=h.keeps0 k1
 have lh:=h.he.len
 have lf:=nm_len h.fi
 have lm:(d.held.map Hd.p).length=d.held.length:=List.length_map _
 refine Jp_b (headZ d.c d.owners (d.held.map Hd.p) d.fin) (fun J hJ=>?_) fun w2 k2=>?_
 ·unfold headZ at hJ
  simp only [sb,h1]
  by_cases c1:d.c.id < 1
  ·rw [decide_eq_true c1] at hJ ⊢
   exact hJ w1 (Keeps.refl _ _)
  rw [decide_eq_false c1] at hJ ⊢
  rw [Bool.false_or] at hJ
  simp only [sb,h1]
  by_cases c2:d.c.id > 4
  ·rw [decide_eq_true c2] at hJ ⊢
   exact hJ w1 (Keeps.refl _ _)
  rw [decide_eq_false c2] at hJ ⊢
  rw [Bool.false_or] at hJ
  simp only [sb,h1]
  refine OCheck_k g1.ow (by omega) fun w2 k2=>?_
  have h2:=k2.at0 h1
  cases c3:ownOk d.owners with
  | false=>rw [c3] at hJ;exact hJ w2 k2
  | true=>
  rw [c3,Bool.not_true,Bool.false_or] at hJ
  simp only [if_true,show ((0:Int) != 0)=false from rfl,sb,h2]
  by_cases c4:6 < d.held.length
  ·rw [show decide (((d.sh.len:Nat):Int) > 6)=true from decide_eq_true (by omega)]
   rw [lm,decide_eq_true c4] at hJ
   exact hJ w2 k2
  rw [show decide (((d.sh.len:Nat):Int) > 6)=false from decide_eq_false (by omega)]
  rw [lm,decide_eq_false c4,Bool.false_or] at hJ
  simp only [sb,h2]
  rw [lh,lf,w64_in (by omega) (by omega)]
  by_cases c5:64 < d.held.length + d.fin.length
  ·rw [show decide (((d.held.length:Nat):Int) + ((d.fin.length:Nat):Int) > 64)=true from decide_eq_true (by omega)]
   rw [decide_eq_true c5] at hJ
   exact hJ w2 k2
  rw [show decide (((d.held.length:Nat):Int) + ((d.fin.length:Nat):Int) > 64)=false from decide_eq_false (by omega)]
  rw [decide_eq_false c5,Bool.false_or] at hJ
  simp only [sb,h2,add00,Nat.reduceAdd]
  refine SCheck_k _ _ fun w3 k3=>?_
  have h3:=k3.at0 h2
  cases c6:okR d.c.ilo d.c.ihi with
  | false=>rw [c6] at hJ;exact hJ w3 (kp0 k2 k3)
  | true=>
  rw [c6,Bool.not_true,Bool.false_or] at hJ
  simp only [if_true,show ((0:Int) != 0)=false from rfl,sb,h3,add00,Nat.reduceAdd]
  refine SCheck_k _ _ fun w4 k4=>?_
  rw [ok1]
  exact hJ w4 (kp0 (kp0 k2 k3) k4)
 ·have k02:=kp0 k1 k2
  have h2:=k2.at0 h1
  unfold shOk at k
  cases hz:headZ d.c d.owners (d.held.map Hd.p) d.fin with
  | true=>rw [hz] at k;exact k w2 k02
  | false=>
   rw [hz,Bool.not_false,Bool.true_and] at k
   simp only [Br_false]
   have tail:∀ (K:TR [.sc (.i .i64)]→Pr),(∀ w',Keeps [] w w'→K (if tailZ (d.held.map Hd.p) d.fin then 0 else 1,()) w') →
     (LdL ((⟨a,0,none⟩:Addr).add 6) fun x6=>Cl Pg i_slices_ContainsFunc_Hold [(.slice x6.p x6.len x6.cap),(.func (.func 46) #[] #[(.pointer (some ⟨a,0,none⟩))])] false [.sc .b] fun r7=>Br (!r7.1) (LdL ((⟨a,0,none⟩:Addr).add 6) fun x8=>
      Cl Pg i_record_rising_Hold [(.slice x8.p x8.len x8.cap),(.func (.func 54) #[] #[])] false [.sc .b] fun r9=>Br r9.1 (LdL ((⟨a,0,none⟩:Addr).add 7) fun x10=>
      Cl Pg i_record_rising_uint64 [(.slice x10.p x10.len x10.cap),(.func (.func 56) #[] #[])] false [.sc .b] fun r11=>Cl Pg i_record_want [(.bool r11.1)] false [.sc (.i .i64)] fun r12=>K (r12.1,())) (Cl Pg i_record_want [(.bool false)] false [.sc (.i .i64)] fun r13=>K (r13.1,()))) (Cl Pg i_record_want [(.bool false)] false [.sc (.i .i64)] fun r14=>K (r14.1,()))) w2:=by
    intro K k
    unfold tailZ at k
    simp only [sb,h2]
    refine badH_k (h.keeps0 k02) hN h2 fun w3 k3=>?_
    have h3:=k3.at0 h2
    have k03:=kp0 k02 k3
    dsimp only
    cases c1:(d.held.map Hd.p).any (badH d.fin) with
    | true=>rw [c1] at k;exact want_k false (k w3 k03)
    | false=>
     rw [c1,Bool.not_false,Bool.true_and] at k
     simp only [Bool.not_false,sb,h3]
     refine riseH_k (h.he.keeps0 k03) (by omega) fun w4 k4=>?_
     have h4:=k4.at0 h3
     have k04:=kp0 k03 k4
     dsimp only
     rw [show (d.held.map Hd.p).map (·.txn)=d.held.map (·.txn) from by rw [List.map_map];rfl] at k
     cases c2:rise (d.held.map (·.txn)) with
     | false=>rw [c2] at k;exact want_k false (k w4 k04)
     | true=>
      rw [c2,Bool.true_and] at k
      simp only [sb,h4]
      refine riseN_k (h.fi.keeps0 k04) (by omega) fun w5 k5=>?_
      exact want_k _ (k w5 (kp0 k04 k5))
   have cl:∀ (i:Nat) (v:Value),(shA d)[i]?=some v→w2.cell? ⟨a,i,none⟩=some v:=fun i v hv=>by rw [cell_cellO,h2];exact hv
   have cold:(∀ w',Keeps [] w w'→K (if ((d.c.frozen != 0 || coldZ d.c) && tailZ (d.held.map Hd.p) d.fin) then 0 else 1,()) w') →
     (LdI .u64 ((⟨a,0,none⟩:Addr).add 9) fun x5=>Br ((x5:Int) != 0) (LdL ((⟨a,0,none⟩:Addr).add 6) fun x6=>Cl Pg i_slices_ContainsFunc_Hold [(.slice x6.p x6.len x6.cap),(.func (.func 46) #[] #[(.pointer (some ⟨a,0,none⟩))])] false [.sc .b] fun r7=>Br (!r7.1) (LdL ((⟨a,0,none⟩:Addr).add 6) fun x8=>
      Cl Pg i_record_rising_Hold [(.slice x8.p x8.len x8.cap),(.func (.func 54) #[] #[])] false [.sc .b] fun r9=>Br r9.1 (LdL ((⟨a,0,none⟩:Addr).add 7) fun x10=>
      Cl Pg i_record_rising_uint64 [(.slice x10.p x10.len x10.cap),(.func (.func 56) #[] #[])] false [.sc .b] fun r11=>Cl Pg i_record_want [(.bool r11.1)] false [.sc (.i .i64)] fun r12=>K (r12.1,())) (Cl Pg i_record_want [(.bool false)] false [.sc (.i .i64)] fun r13=>K (r13.1,()))) (Cl Pg i_record_want [(.bool false)] false [.sc (.i .i64)] fun r14=>K (r14.1,())))
      (LdS (((⟨a,0,none⟩:Addr).add 10).add 0) fun x15=>LdS (((⟨a,0,none⟩:Addr).add 10).add 1) fun x16=>Br ((seq x15 (BA [])) && ((seq x16 (BA [])) && true)) (LdL ((⟨a,0,none⟩:Addr).add 6) fun x6=>Cl Pg i_slices_ContainsFunc_Hold [(.slice x6.p x6.len x6.cap),(.func (.func 46) #[] #[(.pointer (some ⟨a,0,none⟩))])] false [.sc .b] fun r7=>Br (!r7.1) (LdL ((⟨a,0,none⟩:Addr).add 6) fun x8=>
      Cl Pg i_record_rising_Hold [(.slice x8.p x8.len x8.cap),(.func (.func 54) #[] #[])] false [.sc .b] fun r9=>Br r9.1 (LdL ((⟨a,0,none⟩:Addr).add 7) fun x10=>
      Cl Pg i_record_rising_uint64 [(.slice x10.p x10.len x10.cap),(.func (.func 56) #[] #[])] false [.sc .b] fun r11=>Cl Pg i_record_want [(.bool r11.1)] false [.sc (.i .i64)] fun r12=>K (r12.1,())) (Cl Pg i_record_want [(.bool false)] false [.sc (.i .i64)] fun r13=>K (r13.1,()))) (Cl Pg i_record_want [(.bool false)] false [.sc (.i .i64)] fun r14=>K (r14.1,()))) (Cl Pg i_record_want [(.bool false)] false [.sc (.i .i64)] fun r26=>K (r26.1,())))) w2:=by
    intro k
    refine Ld_of (k:=.i .u64) (x:=d.c.frozen) (cl 9 _ rfl) ?_
    cases c1:(d.c.frozen != 0) with
    | true=>
     rw [c1,Bool.true_or,Bool.true_and] at k
     simp only [Br_true]
     exact tail K k
    | false=>
     rw [c1,Bool.false_or] at k
     simp only [Br_false]
     refine Ld_of (k:=.s) (x:=d.c.clo) (cl 10 _ rfl) ?_
     refine Ld_of (k:=.s) (x:=d.c.chi) (cl 11 _ rfl) ?_
     show (Br (coldZ d.c) _ _) w2
     cases c2:coldZ d.c with
     | true=>
      rw [c2,Bool.true_and] at k
      simp only [Br_true]
      exact tail K k
     | false=>rw [c2] at k;exact want_k false (k w2 k02)
   refine Ld_of (k:=.i .u64) (x:=d.c.imove) (cl 12 _ rfl) ?_
   cases c1:(d.c.imove != 0) with
   | true=>
    rw [c1,Bool.true_or,Bool.true_and] at k
    simp only [Br_true]
    exact cold k
   | false=>
    rw [c1,Bool.false_or] at k
    simp only [Br_false]
    refine Ld_of (k:=.i .u64) (x:=d.c.imove) (cl 12 _ rfl) ?_
    refine Ld_of (k:=.i .u64) (x:=d.c.iatt) (cl 13 _ rfl) ?_
    refine Ld_of (k:=.i .u64) (x:=d.c.inext) (cl 14 _ rfl) ?_
    refine Ld_of (k:=.s) (x:=d.c.ilo) (cl 15 _ rfl) ?_
    refine Ld_of (k:=.s) (x:=d.c.ihi) (cl 16 _ rfl) ?_
    show (Br (inZ d.c) _ _) w2
    cases c2:inZ d.c with
    | true=>
     rw [c2,Bool.true_and] at k
     simp only [Br_true]
     exact cold k
    | false=>rw [c2] at k;exact want_k false (k w2 k02)
end Go.Proofs.YthkdehgfdllpoaaGreat
set_option linter.unusedVariables false
set_option linter.unusedSimpArgs false
namespace Go.Proofs.YthkdehgfdllpoaaGreat
open Go Go.Sx
def u8 (x:Int):UInt8:=UInt8.ofNat (IntKind.u8.wrap x).toNat
theorem wrap8 (x:Int):IntKind.u8.wrap x=x % 256:=by
 simp [IntKind.wrap,IntKind.bits,IntKind.signed]
theorem u8_wrap (x:Int):IntKind.u8.wrap x=((u8 x).toNat:Int):=by
 unfold u8
 rw [UInt8.toNat_ofNat',wrap8]
 omega
def numE:Nat→Int→List UInt8
 | 0,n=>[u8 n]
 | f + 1,n=>if 128≤n then u8 (ior .u8 (IntKind.u8.wrap n) 128) :: numE f (ishr .u64 n 7) else [u8 n]
def numB (n:Int):List UInt8:=numE n.toNat n
theorem shr7 {n:Int} (h:128≤n):ishr .u64 n 7=((n.toNat / 128:Nat):Int):=by
 obtain ⟨m,rfl⟩:∃ m:Nat,n=m:=⟨n.toNat,by omega⟩
 rw [show ishr .u64 (m:Int) 7=((m >>> 7:Nat):Int) from ishr_nat .u64 m 7 (by decide),Nat.shiftRight_eq_div_pow]
 rfl
theorem ior_wrap (a b:Int):ior .u8 a b=IntKind.u8.wrap (ior .u8 a b):=by
 unfold ior
 rw [wrap8,wrap8]
 omega
theorem numE_len:∀ (f k:Nat) (n:Int),n.toNat < 128 ^ (k + 1)→(numE f n).length≤k + 1
 | 0,k,n,h=>by simp [numE]
 | f + 1,k,n,h=>by
  unfold numE
  split
  ·rename_i h2
   rw [shr7 h2]
   cases k with
   | zero=>omega
   | succ k=>
    have:=numE_len f k (((n.toNat / 128:Nat):Int)) (by
     rw [Int.toNat_natCast]
     rw [Nat.pow_succ] at h
     exact Nat.div_lt_of_lt_mul (by rw [Nat.mul_comm];exact h))
    simp only [List.length_cons]
    omega
  ·simp
theorem numB_len {n:Int} (h:n < 18446744073709551616):(numB n).length≤10:=numE_len _ 9 n (by
 have:(128:Nat) ^ (9 + 1)=1180591620717411303424:=by decide
 omega)
theorem zc_uint8:zc Pg 5=#[.int .u8 0]:=by kernel_rfl
theorem Num_k (n:Int) (hn:n < 18446744073709551616) {w:World} {K:TR [.sc .sl]→Pr} (k:∀ r w',SlC w' r 1 (cB (numB n))→(∀ b∈blk r,w.heap.size≤b)→Keeps [] w w'→K (r,()) w'):Cl Pg i_octet_Num [.int .u64 n] false [.sc .sl] K w:=by
 refine octet_Num_call _ ?_
 unfold octet_Num
 have p10:(128:Nat) ^ 10=1180591620717411303424:=by decide
 refine ⟨fun m st w'=>∃ (f:Nat) (v:Int) (r:Sl) (bs:List UInt8),st=(v,r,())∧m=v.toNat∧v.toNat≤f∧bs ++ numE f v=numB n∧v.toNat * 128 ^ bs.length≤n.toNat∧bs.length≤10∧SlC w' r 1 (cB bs)∧(∀ b∈blk r,w.heap.size≤b)∧Keeps [] w w',⟨_,n.toNat,n,⟨none,0,0⟩,[],rfl,rfl,Nat.le_refl _,rfl,by simp,by simp,SlC.nil _ _,by simp [blk],Keeps.refl _ _⟩,?_⟩
 rintro _ _ w1 ⟨f,v,r,bs,rfl,rfl,hv,he,hb,hc,h1,f1,k1⟩
 dsimp only
 have hl:=cB_slen h1
 have app:∀ (y:UInt8) {K2:Sl→Pr},(∀ r4 w4,SlC w4 r4 1 (cB (bs ++ [y]))→(∀ b∈blk r4,w.heap.size≤b)→Keeps [] w w4→K2 r4 w4) →
   (New #[.int .u8 ((y.toNat:Nat):Int)] 5 fun a3=>App 5 1 1 (zc Pg 5) r 1 (srcS (some a3) 1 1) K2) w1:=by
  intro y K2 hK
  refine New_bx fun a w2 h2 n2 k2=>?_
  have h12:=h1.keeps k2 (by simp)
  refine App_of (new:=[.int .u8 ((y.toNat:Nat):Int)]) h12 ?_ rfl (by simp [Value.oneCell']) (by rw [zc_uint8];rfl) (by omega) (by omega) ?_
  ·exact box_src (ρ:=Rec.sca (.i .u8) rfl) (x:=((y.toNat:Nat):Int)) h2
  ·intro r4 w4 h4 _ k4 f4
   refine hK r4 w4 ?_ ?_ (kpx (kp0 k1 k2) k4 f1)
   ·rw [show cB (bs ++ [y])=cB bs ++ [.int .u8 ((y.toNat:Nat):Int)] from by unfold cB;rw [List.map_append];rfl]
    exact h4
   ·intro b hb
    rcases f4 b hb with h' | h'
    ·exact f1 b h'
    ·have:=k1.size;have:=k2.size;omega
 by_cases hge:v ≥ 128
 ·rw [decide_eq_true hge]
  simp only [Br_true]
  rw [ior_wrap,u8_wrap]
  refine app _ ?_
  intro r4 w4 h4 f4 k4
  refine ⟨by decide,?_⟩
  obtain ⟨f',rfl⟩:∃ f',f=f' + 1:=⟨f - 1,by omega⟩
  have hd:v.toNat / 128 < v.toNat:=Nat.div_lt_self (by omega) (by decide)
  rw [shr7 hge]
  refine ⟨v.toNat / 128,hd,f',_,r4,bs ++ [u8 (ior .u8 (IntKind.u8.wrap v) 128)],rfl,by rw [Int.toNat_natCast],by rw [Int.toNat_natCast];omega,?_,?_,?_,h4,f4,k4⟩
  ·rw [← he]
   conv=>rhs;rw [numE,if_pos hge,shr7 hge]
   rw [List.append_assoc]
   rfl
  ·rw [Int.toNat_natCast,List.length_append,List.length_singleton,Nat.pow_succ,Nat.mul_comm (128 ^ bs.length),← Nat.mul_assoc]
   exact Nat.le_trans (Nat.mul_le_mul_right _ (Nat.div_mul_le_self _ _)) hb
  ·rw [List.length_append,List.length_singleton]
   rcases Nat.lt_or_ge bs.length 10 with h' | h'
   ·omega
   ·have:bs.length=10:=by omega
    rw [this,p10] at hb
    omega
 ·rw [decide_eq_false hge]
  simp only [Br_false]
  rw [u8_wrap]
  refine app _ ?_
  intro r4 w4 h4 f4 k4
  refine k r4 w4 ?_ f4 k4
  rw [show bs ++ [u8 v]=numB n from ?_] at h4
  ·exact h4
  ·rw [← he]
   cases f with
   | zero=>rfl
   | succ f=>rw [numE,if_neg (by omega)]
def textB (s:ByteArray):List UInt8:=numB (s.size:Int) ++ s.data.toList
theorem Text_k (s:ByteArray) (hs:s.size≤1000000) {w:World} {K:TR [.sc .sl]→Pr} (k:∀ r w',SlC w' r 1 (cB (textB s))→(∀ b∈blk r,w.heap.size≤b)→Keeps [] w w'→K (r,()) w'):Cl Pg i_octet_Text [.string s] false [.sc .sl] K w:=by
 refine octet_Text_call _ ?_
 unfold octet_Text
 rw [wrap_u64_nat (by omega)]
 refine Num_k _ (by omega) fun r1 w1 h1 f1 k1=>?_
 have hl:=cB_slen h1
 dsimp only
 have hn:=numB_len (n:=(s.size:Int)) (by omega)
 have hsz:s.data.toList.length=s.size:=by simp
 refine App_of (new:=cB s.data.toList) h1 ?_ (by rw [cB_length,hsz,Nat.mul_one]) (cB_one _) (by rw [zc_uint8];rfl) (by omega) (by omega) ?_
 ·show cB s.data.toList=(cellsB s).take s.size
  rw [cellsB_eq,List.take_of_length_le (by rw [cB_length,hsz];exact Nat.le_refl _)]
 ·intro r4 w4 h4 _ k4 f4
  refine k r4 w4 ?_ ?_ (kpx k1 k4 f1)
  ·unfold textB
   rw [show cB (numB (s.size:Int) ++ s.data.toList)=cB (numB (s.size:Int)) ++ cB s.data.toList from by unfold cB;rw [List.map_append]]
   exact h4
  ·intro b hb
   rcases f4 b hb with h' | h'
   ·exact f1 b h'
   ·have:=k1.size;omega
structure WR (n0:Nat) (w:World) (x:Nat) (s:Sl) (bs:List UInt8):Prop where
 hd:w.heap[x]?=some (.cells #[.slice s.p s.len s.cap] 307 (0,0))
 row:SlC w s 1 (cB bs)
 ne:x ∉ blk s
 nx:n0≤x
 nb:∀ b∈blk s,n0≤b
structure WE (w:World) (x:Nat) (s:Sl) (w':World) (s':Sl):Prop where
 kp:Keeps (x :: blk s) w w'
 fr:∀ b∈blk s',b∈blk s∨w.heap.size≤b
theorem WE.trans {w w' w'':World} {x:Nat} {s s' s'':Sl} (h:WE w x s w' s') (k:WE w' x s' w'' s''):WE w x s w'' s'':=
 ⟨h.kp.trans k.kp fun b hb=>by
  rcases List.mem_cons.1 hb with rfl | hb
  ·exact .inl List.mem_cons_self
  ·rcases h.fr b hb with h' | h'
   ·exact .inl (List.mem_cons_of_mem _ h')
   ·exact .inr h',fun b hb=>by
  rcases k.fr b hb with h' | h'
  ·exact h.fr b h'
  ·exact .inr (Nat.le_trans h.kp.size h')⟩
theorem WE.k0 {w w':World} {x:Nat} {s:Sl} (h:Keeps [] w w'):WE w x s w' s:=⟨h.mono (by simp),fun b hb=>.inl hb⟩
theorem WR.keeps0 {n0:Nat} {w w':World} {x:Nat} {s:Sl} {bs:List UInt8} (h:WR n0 w x s bs) (k:Keeps [] w w'):WR n0 w' x s bs:=⟨k.at0 h.hd,h.row.keeps k (by simp),h.ne,h.nx,h.nb⟩
theorem WE.at {n0:Nat} {w w':World} {x:Nat} {s s':Sl} {bs:List UInt8} (r:WR n0 w x s bs) (h:WE w x s w' s') {c:Nat} {o:Obj} (hc:w.heap[c]?=some o) (nx:c ≠ x) (ns:c ∉ blk s):w'.heap[c]?=some o∧c ∉ blk s':=
 ⟨h.kp.at hc (by simp [nx,ns]),fun hb=>by rcases h.fr c hb with h' | h';exact ns h';have:=hp_lt hc;omega⟩
theorem WR.new {n0:Nat} {w:World} {x:Nat} {s:Sl} {bs:List UInt8} (r:WR n0 w x s bs) {c:Nat} (hc:w.heap.size≤c):c ≠ x∧c ∉ blk s:=⟨fun e=>by have:=hp_lt r.hd;omega,fun hb=>by have:=r.row.lt c hb;omega⟩
theorem wput {n0:Nat} {w:World} {x:Nat} {s:Sl} {bs new:List UInt8} (h:WR n0 w x s bs) (hb:bs.length + new.length≤1000000000) {w1:World} (k1:Keeps [] w w1) {r:Sl} (hr:SlC w1 r 1 (cB new)) {K:Pr} (hn:n0≤w.heap.size)
  (k:∀ s' w',WR n0 w' x s' (bs ++ new)→WE w x s w' s'→K w'):App 5 1 1 (zc Pg 5) s r.len (srcS r.p r.len 1) (fun r5=>Nn (some ⟨x,0,none⟩) fun a6=>St (a6.add 0) (.slice r5.p r5.len r5.cap) K) w1:=by
 have h1:=h.keeps0 k1
 have l1:=cB_slen h1.row
 have l2:=cB_slen hr
 refine App_of (new:=cB new) h1.row hr.rdc (by rw [cB_length,l2,Nat.mul_one]) (cB_one _) (by rw [zc_uint8];rfl) (by omega) (by omega) ?_
 intro r5 w5 h5 _ k5 f5
 have x5:=k5.at h1.hd h.ne
 have n5:x ∉ blk r5:=fun hb=>by rcases f5 x hb with h' | h';exact h.ne h';have:=hp_lt h1.hd;omega
 simp only [sb]
 refine set_box x5 0 _ rfl (by simp) fun w6 h6 k6=>?_
 simp only [sxl] at h6
 refine k r5 w6 ⟨h6,?_,n5,h.nx,fun b hb=>?_⟩ ⟨?_,fun b hb=>?_⟩
 ·rw [show cB (bs ++ new)=cB bs ++ cB new from by unfold cB;rw [List.map_append]]
  exact h5.keeps k6 (fun b hb=>by simp;intro e;subst e;exact n5 hb)
 ·rcases f5 b hb with h' | h'
  ·exact h.nb b h'
  ·have:=k1.size;omega
 ·exact ((k1.mono (by simp)).trans (k5.mono (m':=x :: blk s) fun y hy=>.inl (List.mem_cons_of_mem _ hy)) (fun _ hx=>.inl hx)).trans (k6.mono (m':=x :: blk s) fun y hy=>.inl (by simp at hy;rw [hy];exact List.mem_cons_self)) (fun _ hx=>.inl hx)
 ·rcases f5 b hb with h' | h'
  ·exact .inl h'
  ·exact .inr (by have:=k1.size;omega)
end Go.Proofs.YthkdehgfdllpoaaGreat
set_option linter.unusedVariables false
set_option linter.unusedSimpArgs false
namespace Go.Proofs.YthkdehgfdllpoaaGreat
open Go Go.Sx
def big:Nat:=1000000000
theorem wnum_k (n:Int) (hn:n < 18446744073709551616) {n0:Nat} {w:World} {x:Nat} {s:Sl} {bs:List UInt8} (h:WR n0 w x s bs) (h0:n0≤w.heap.size) (hb:(bs ++ numB n).length≤big) {K:TR []→Pr} (k:∀ s' w',WR n0 w' x s' (bs ++ numB n)→WE w x s w' s'→K () w'):Cl Pg i_record_writer_num [.pointer (some ⟨x,0,none⟩),.int .u64 n] true [] K w:=by
 refine record_writer_num_call _ _ ?_
 unfold record_writer_num
 simp only [sb,h.hd]
 refine Num_k n hn fun r w1 h1 f1 k1=>?_
 have h2:=h.keeps0 (kp0 (drewK w) k1)
 simp only [sb,h2.hd]
 refine ⟨by trivial,?_⟩
 exact wput h (by rw [List.length_append] at hb;exact hb) (kp0 (drewK w) k1) h1 h0 k
theorem wint_k (n:Int) (hn:0≤n∧n < 18446744073709551616) {n0:Nat} {w:World} {x:Nat} {s:Sl} {bs:List UInt8} (h:WR n0 w x s bs) (h0:n0≤w.heap.size) (hb:(bs ++ numB n).length≤big) {K:TR []→Pr} (k:∀ s' w',WR n0 w' x s' (bs ++ numB n)→WE w x s w' s'→K () w'):Cl Pg i_record_writer_int [.pointer (some ⟨x,0,none⟩),.int .i64 n] true [] K w:=by
 refine record_writer_int_call _ _ ?_
 unfold record_writer_int
 have e:IntKind.u64.wrap n=n:=by
  have:=wrap_u64_nat (n:=n.toNat) (by omega)
  rw [Int.toNat_of_nonneg hn.1] at this
  exact this
 rw [e]
 exact wnum_k n hn.2 h h0 hb k
theorem wtext_k (t:ByteArray) (hn:t.size≤1000000) {n0:Nat} {w:World} {x:Nat} {s:Sl} {bs:List UInt8} (h:WR n0 w x s bs) (h0:n0≤w.heap.size) (hb:(bs ++ textB t).length≤big) {K:TR []→Pr} (k:∀ s' w',WR n0 w' x s' (bs ++ textB t)→WE w x s w' s'→K () w'):Cl Pg i_record_writer_text [.pointer (some ⟨x,0,none⟩),.string t] true [] K w:=by
 refine record_writer_text_call _ _ ?_
 unfold record_writer_text
 simp only [sb,h.hd]
 refine Text_k t hn fun r w1 h1 f1 k1=>?_
 have h2:=h.keeps0 (kp0 (drewK w) k1)
 simp only [sb,h2.hd]
 refine ⟨by trivial,?_⟩
 exact wput h (by rw [List.length_append] at hb;exact hb) (kp0 (drewK w) k1) h1 h0 k
theorem pre_le {a b c:List UInt8} (h:(a ++ b ++ c).length≤big):(a ++ b).length≤big:=by rw [List.length_append] at h;omega
def OneW {α:Type} (n0:Nat) (x:Nat) (f:Value) (v:α→Value) (enc:α→List UInt8) (D:α→World→Prop):Prop:=
 ∀ (y:α) (w:World) (s:Sl) (bs:List UInt8),WR n0 w x s bs→n0≤w.heap.size→D y w→(bs ++ enc y).length≤big→∀ K:TR []→Pr,(∀ s' w',WR n0 w' x s' (bs ++ enc y)→WE w x s w' s'→K () w')→CallV Pg f [v y] true [] K w
def Off (n0:Nat) (x:Nat) (D:World→Prop):Prop:=∀ (w w':World) (s s':Sl) (bs:List UInt8),WR n0 w x s bs→n0≤w.heap.size→D w→WE w x s w' s'→D w'
theorem Off.k0 {n0 x:Nat} {D:World→Prop} (h:Off n0 x D) {w w':World} {s:Sl} {bs:List UInt8} (r:WR n0 w x s bs) (h0:n0≤w.heap.size) (hD:D w) (k:Keeps [] w w'):D w':=h w w' s s bs r h0 hD (WE.k0 k)
theorem off_rde {α:Type} {ρ:Rec α} {n0 x:Nat} {r:Sl} {l:List α} (hx:n0≤x) (hr:∀ b∈rb r,b < n0):Off n0 x (fun w=>RdE ρ w r l):=by
 intro w w' s s' bs h h0 hD e
 refine hD.keeps e.kp fun b hb=>?_
 have:=hr b hb
 simp only [List.mem_cons,not_or]
 exact ⟨by omega,fun h'=>by have:=h.nb b h';omega⟩
theorem wint_k' {n m:Int} (e:n=m) (hn:0≤m∧m < 18446744073709551616) {n0:Nat} {w:World} {x:Nat} {s:Sl} {bs:List UInt8} (h:WR n0 w x s bs) (h0:n0≤w.heap.size) (hb:(bs ++ numB m).length≤big) {K:TR []→Pr} (k:∀ s' w',WR n0 w' x s' (bs ++ numB m)→WE w x s w' s'→K () w'):Cl Pg i_record_writer_int [.pointer (some ⟨x,0,none⟩),.int .i64 n] true [] K w:=by
 subst e
 exact wint_k n hn h h0 hb k
theorem rowsuint64_k {n0:Nat} {w:World} {x:Nat} {s:Sl} {bs:List UInt8} (h:WR n0 w x s bs) (h0:n0≤w.heap.size) {r:Sl} {l:List Int} (hr:RdE nmR w r l) (ho:Off n0 x (fun w=>RdE nmR w r l)) {f:Value} {enc:Int→List UInt8} {D:Int→World→Prop} (hf:OneW n0 x f (Value.int .u64) enc D) (hD:∀ y∈l,D y w) (hoD:∀ y∈l,Off n0 x (D y)) (hN:l.length≤1000000) (hb:(bs ++ l.flatMap enc).length≤big) {K:TR []→Pr} (k:∀ s' w',WR n0 w' x s' (bs ++ l.flatMap enc)→WE w x s w' s'→K () w'):Cl Pg i_record_rows_uint64 [.pointer (some ⟨x,0,none⟩),.slice r.p r.len r.cap,f] true [] K w:=by
 have hl:r.len=l.length:=hr.len
 refine record_rows_uint64_call _ _ _ ?_
 unfold record_rows_uint64
 refine ⟨fun n st w'=>∃ (i:Nat) (s':Sl),st=((i:Int),())∧n=l.length - i∧i≤l.length∧WR n0 w' x s' (bs ++ (l.take i).flatMap enc)∧WE w x s w' s'∧RdE nmR w' r l∧(∀ y∈l,D y w')∧n0≤w'.heap.size,⟨_,0,s,rfl,rfl,by omega,by simpa using h,WE.k0 (Keeps.refl _ _),hr,hD,h0⟩,?_⟩
 rintro n _ w1 ⟨i,s1,rfl,rfl,hi,h1,e1,r1,d1,z1⟩
 dsimp only
 by_cases hlt:i < l.length
 ·rw [decide_eq_true (by omega)]
  simp only [Br_true]
  obtain ⟨y,hy⟩:∃ y,l[i]?=some y:=⟨_,List.getElem?_eq_getElem hlt⟩
  have hym:=List.mem_of_getElem? hy
  have htk:(l.take (i + 1)).flatMap enc=(l.take i).flatMap enc ++ enc y:=by rw [List.take_add_one,hy,List.flatMap_append];simp
  have hbb:(bs ++ (l.take i).flatMap enc ++ enc y).length≤big:=by
   have e:l.flatMap enc=(l.take (i + 1)).flatMap enc ++ (l.drop (i + 1)).flatMap enc:=by rw [← List.flatMap_append,List.take_append_drop]
   rw [e,htk] at hb
   simp only [List.length_append] at hb ⊢
   omega
  have nxt:∀ (w2:World),Keeps [] w1 w2→CallV Pg f [(Value.int .u64) y] true [] (fun r5=>fun w'=>∃ m,m < l.length - i∧∃ (i_1:Nat) (s':Sl),(w64 ((i:Int) + 1),())=((i_1:Int),())∧m=l.length - i_1∧i_1≤l.length∧WR n0 w' x s' (bs ++ (l.take i_1).flatMap enc)∧WE w x s w' s'∧RdE nmR w' r l∧(∀ y∈l,D y w')∧n0≤w'.heap.size) w2:=by
   intro w2 k2
   have z2:n0≤w2.heap.size:=Nat.le_trans z1 k2.size
   refine hf y w2 s1 _ (h1.keeps0 k2) z2 ((hoD y hym).k0 h1 z1 (d1 y hym) k2) hbb _ ?_
   intro s3 w3 h3 e3
   refine ⟨l.length - (i + 1),by omega,i + 1,s3,by rw [w64p (by omega)],rfl,by omega,?_,e1.trans ((WE.k0 k2).trans e3),ho _ _ _ _ _ h1 z1 r1 ((WE.k0 k2).trans e3),fun z hz=>hoD z hz _ _ _ _ _ h1 z1 (d1 z hz) ((WE.k0 k2).trans e3),Nat.le_trans z2 e3.kp.size⟩
   rw [htk,← List.append_assoc]
   exact h3
  refine ldn r1 hy ?_
  exact nxt w1 (Keeps.refl _ _)
 ·rw [decide_eq_false (by omega)]
  rw [List.take_of_length_le (by omega)] at h1
  exact k s1 w1 h1 e1
theorem wlistuint64_k {n0:Nat} {w:World} {x:Nat} {s:Sl} {bs:List UInt8} (h:WR n0 w x s bs) (h0:n0≤w.heap.size) {r:Sl} {l:List Int} (hr:RdE nmR w r l) (ho:Off n0 x (fun w=>RdE nmR w r l)) {f:Value} {enc:Int→List UInt8} {D:Int→World→Prop} (hf:OneW n0 x f (Value.int .u64) enc D) (hD:∀ y∈l,D y w) (hoD:∀ y∈l,Off n0 x (D y)) (hN:l.length≤1000000) (hb:(bs ++ (numB (l.length:Int) ++ l.flatMap enc)).length≤big) {K:TR []→Pr} (k:∀ s' w',WR n0 w' x s' (bs ++ (numB (l.length:Int) ++ l.flatMap enc))→WE w x s w' s'→K () w'):Cl Pg i_record_list_uint64 [.pointer (some ⟨x,0,none⟩),.slice r.p r.len r.cap,f] true [] K w:=by
 have hl:r.len=l.length:=hr.len
 refine record_list_uint64_call _ _ _ ?_
 unfold record_list_uint64
 rw [← List.append_assoc] at hb k
 have e:(((r.len:Nat):Int))=(l.length:Int):=by rw [hl]
 refine wint_k' e ⟨by omega,by omega⟩ h h0 (pre_le hb) fun s1 w1 h1 e1=>?_
 have z1:n0≤w1.heap.size:=Nat.le_trans h0 e1.kp.size
 refine rowsuint64_k h1 z1 (ho _ _ _ _ _ h h0 hr e1) ho hf (fun y hy=>hoD y hy _ _ _ _ _ h h0 (hD y hy) e1) hoD hN hb fun s2 w2 h2 e2=>?_
 exact k s2 w2 h2 (e1.trans e2)
theorem rowsOwner_k {n0:Nat} {w:World} {x:Nat} {s:Sl} {bs:List UInt8} (h:WR n0 w x s bs) (h0:n0≤w.heap.size) {r:Sl} {l:List Ow} (hr:RdE owR w r l) (ho:Off n0 x (fun w=>RdE owR w r l)) {f:Value} {enc:Ow→List UInt8} {D:Ow→World→Prop} (hf:OneW n0 x f owR.v enc D) (hD:∀ y∈l,D y w) (hoD:∀ y∈l,Off n0 x (D y)) (hN:l.length≤1000000) (hb:(bs ++ l.flatMap enc).length≤big) {K:TR []→Pr} (k:∀ s' w',WR n0 w' x s' (bs ++ l.flatMap enc)→WE w x s w' s'→K () w'):Cl Pg i_record_rows_Owner [.pointer (some ⟨x,0,none⟩),.slice r.p r.len r.cap,f] true [] K w:=by
 have hl:r.len=l.length:=hr.len
 refine record_rows_Owner_call _ _ _ ?_
 unfold record_rows_Owner
 refine ⟨fun n st w'=>∃ (i:Nat) (s':Sl),st=((i:Int),())∧n=l.length - i∧i≤l.length∧WR n0 w' x s' (bs ++ (l.take i).flatMap enc)∧WE w x s w' s'∧RdE owR w' r l∧(∀ y∈l,D y w')∧n0≤w'.heap.size,⟨_,0,s,rfl,rfl,by omega,by simpa using h,WE.k0 (Keeps.refl _ _),hr,hD,h0⟩,?_⟩
 rintro n _ w1 ⟨i,s1,rfl,rfl,hi,h1,e1,r1,d1,z1⟩
 dsimp only
 by_cases hlt:i < l.length
 ·rw [decide_eq_true (by omega)]
  simp only [Br_true]
  obtain ⟨y,hy⟩:∃ y,l[i]?=some y:=⟨_,List.getElem?_eq_getElem hlt⟩
  have hym:=List.mem_of_getElem? hy
  have htk:(l.take (i + 1)).flatMap enc=(l.take i).flatMap enc ++ enc y:=by rw [List.take_add_one,hy,List.flatMap_append];simp
  have hbb:(bs ++ (l.take i).flatMap enc ++ enc y).length≤big:=by
   have e:l.flatMap enc=(l.take (i + 1)).flatMap enc ++ (l.drop (i + 1)).flatMap enc:=by rw [← List.flatMap_append,List.take_append_drop]
   rw [e,htk] at hb
   simp only [List.length_append] at hb ⊢
   omega
  have nxt:∀ (w2:World),Keeps [] w1 w2→CallV Pg f [owR.v y] true [] (fun r5=>fun w'=>∃ m,m < l.length - i∧∃ (i_1:Nat) (s':Sl),(w64 ((i:Int) + 1),())=((i_1:Int),())∧m=l.length - i_1∧i_1≤l.length∧WR n0 w' x s' (bs ++ (l.take i_1).flatMap enc)∧WE w x s w' s'∧RdE owR w' r l∧(∀ y∈l,D y w')∧n0≤w'.heap.size) w2:=by
   intro w2 k2
   have z2:n0≤w2.heap.size:=Nat.le_trans z1 k2.size
   refine hf y w2 s1 _ (h1.keeps0 k2) z2 ((hoD y hym).k0 h1 z1 (d1 y hym) k2) hbb _ ?_
   intro s3 w3 h3 e3
   refine ⟨l.length - (i + 1),by omega,i + 1,s3,by rw [w64p (by omega)],rfl,by omega,?_,e1.trans ((WE.k0 k2).trans e3),ho _ _ _ _ _ h1 z1 r1 ((WE.k0 k2).trans e3),fun z hz=>hoD z hz _ _ _ _ _ h1 z1 (d1 z hz) ((WE.k0 k2).trans e3),Nat.le_trans z2 e3.kp.size⟩
   rw [htk,← List.append_assoc]
   exact h3
  refine ld_Owner r1 hy ?_
  refine bx_Owner y fun c w2 h2 n2 k2=>?_
  simp only [sb,h2]
  exact nxt w2 k2
 ·rw [decide_eq_false (by omega)]
  rw [List.take_of_length_le (by omega)] at h1
  exact k s1 w1 h1 e1
theorem wlistOwner_k {n0:Nat} {w:World} {x:Nat} {s:Sl} {bs:List UInt8} (h:WR n0 w x s bs) (h0:n0≤w.heap.size) {r:Sl} {l:List Ow} (hr:RdE owR w r l) (ho:Off n0 x (fun w=>RdE owR w r l)) {f:Value} {enc:Ow→List UInt8} {D:Ow→World→Prop} (hf:OneW n0 x f owR.v enc D) (hD:∀ y∈l,D y w) (hoD:∀ y∈l,Off n0 x (D y)) (hN:l.length≤1000000) (hb:(bs ++ (numB (l.length:Int) ++ l.flatMap enc)).length≤big) {K:TR []→Pr} (k:∀ s' w',WR n0 w' x s' (bs ++ (numB (l.length:Int) ++ l.flatMap enc))→WE w x s w' s'→K () w'):Cl Pg i_record_list_Owner [.pointer (some ⟨x,0,none⟩),.slice r.p r.len r.cap,f] true [] K w:=by
 have hl:r.len=l.length:=hr.len
 refine record_list_Owner_call _ _ _ ?_
 unfold record_list_Owner
 rw [← List.append_assoc] at hb k
 have e:(((r.len:Nat):Int))=(l.length:Int):=by rw [hl]
 refine wint_k' e ⟨by omega,by omega⟩ h h0 (pre_le hb) fun s1 w1 h1 e1=>?_
 have z1:n0≤w1.heap.size:=Nat.le_trans h0 e1.kp.size
 refine rowsOwner_k h1 z1 (ho _ _ _ _ _ h h0 hr e1) ho hf (fun y hy=>hoD y hy _ _ _ _ _ h h0 (hD y hy) e1) hoD hN hb fun s2 w2 h2 e2=>?_
 exact k s2 w2 h2 (e1.trans e2)
theorem rowsOp_k {n0:Nat} {w:World} {x:Nat} {s:Sl} {bs:List UInt8} (h:WR n0 w x s bs) (h0:n0≤w.heap.size) {r:Sl} {l:List Op} (hr:RdE opR w r l) (ho:Off n0 x (fun w=>RdE opR w r l)) {f:Value} {enc:Op→List UInt8} {D:Op→World→Prop} (hf:OneW n0 x f opR.v enc D) (hD:∀ y∈l,D y w) (hoD:∀ y∈l,Off n0 x (D y)) (hN:l.length≤1000000) (hb:(bs ++ l.flatMap enc).length≤big) {K:TR []→Pr} (k:∀ s' w',WR n0 w' x s' (bs ++ l.flatMap enc)→WE w x s w' s'→K () w'):Cl Pg i_record_rows_Op [.pointer (some ⟨x,0,none⟩),.slice r.p r.len r.cap,f] true [] K w:=by
 have hl:r.len=l.length:=hr.len
 refine record_rows_Op_call _ _ _ ?_
 unfold record_rows_Op
 refine ⟨fun n st w'=>∃ (i:Nat) (s':Sl),st=((i:Int),())∧n=l.length - i∧i≤l.length∧WR n0 w' x s' (bs ++ (l.take i).flatMap enc)∧WE w x s w' s'∧RdE opR w' r l∧(∀ y∈l,D y w')∧n0≤w'.heap.size,⟨_,0,s,rfl,rfl,by omega,by simpa using h,WE.k0 (Keeps.refl _ _),hr,hD,h0⟩,?_⟩
 rintro n _ w1 ⟨i,s1,rfl,rfl,hi,h1,e1,r1,d1,z1⟩
 dsimp only
 by_cases hlt:i < l.length
 ·rw [decide_eq_true (by omega)]
  simp only [Br_true]
  obtain ⟨y,hy⟩:∃ y,l[i]?=some y:=⟨_,List.getElem?_eq_getElem hlt⟩
  have hym:=List.mem_of_getElem? hy
  have htk:(l.take (i + 1)).flatMap enc=(l.take i).flatMap enc ++ enc y:=by rw [List.take_add_one,hy,List.flatMap_append];simp
  have hbb:(bs ++ (l.take i).flatMap enc ++ enc y).length≤big:=by
   have e:l.flatMap enc=(l.take (i + 1)).flatMap enc ++ (l.drop (i + 1)).flatMap enc:=by rw [← List.flatMap_append,List.take_append_drop]
   rw [e,htk] at hb
   simp only [List.length_append] at hb ⊢
   omega
  have nxt:∀ (w2:World),Keeps [] w1 w2→CallV Pg f [opR.v y] true [] (fun r5=>fun w'=>∃ m,m < l.length - i∧∃ (i_1:Nat) (s':Sl),(w64 ((i:Int) + 1),())=((i_1:Int),())∧m=l.length - i_1∧i_1≤l.length∧WR n0 w' x s' (bs ++ (l.take i_1).flatMap enc)∧WE w x s w' s'∧RdE opR w' r l∧(∀ y∈l,D y w')∧n0≤w'.heap.size) w2:=by
   intro w2 k2
   have z2:n0≤w2.heap.size:=Nat.le_trans z1 k2.size
   refine hf y w2 s1 _ (h1.keeps0 k2) z2 ((hoD y hym).k0 h1 z1 (d1 y hym) k2) hbb _ ?_
   intro s3 w3 h3 e3
   refine ⟨l.length - (i + 1),by omega,i + 1,s3,by rw [w64p (by omega)],rfl,by omega,?_,e1.trans ((WE.k0 k2).trans e3),ho _ _ _ _ _ h1 z1 r1 ((WE.k0 k2).trans e3),fun z hz=>hoD z hz _ _ _ _ _ h1 z1 (d1 z hz) ((WE.k0 k2).trans e3),Nat.le_trans z2 e3.kp.size⟩
   rw [htk,← List.append_assoc]
   exact h3
  refine ld_Op r1 hy ?_
  refine bx_Op y fun c w2 h2 n2 k2=>?_
  simp only [sb,h2]
  exact nxt w2 k2
 ·rw [decide_eq_false (by omega)]
  rw [List.take_of_length_le (by omega)] at h1
  exact k s1 w1 h1 e1
theorem wlistOp_k {n0:Nat} {w:World} {x:Nat} {s:Sl} {bs:List UInt8} (h:WR n0 w x s bs) (h0:n0≤w.heap.size) {r:Sl} {l:List Op} (hr:RdE opR w r l) (ho:Off n0 x (fun w=>RdE opR w r l)) {f:Value} {enc:Op→List UInt8} {D:Op→World→Prop} (hf:OneW n0 x f opR.v enc D) (hD:∀ y∈l,D y w) (hoD:∀ y∈l,Off n0 x (D y)) (hN:l.length≤1000000) (hb:(bs ++ (numB (l.length:Int) ++ l.flatMap enc)).length≤big) {K:TR []→Pr} (k:∀ s' w',WR n0 w' x s' (bs ++ (numB (l.length:Int) ++ l.flatMap enc))→WE w x s w' s'→K () w'):Cl Pg i_record_list_Op [.pointer (some ⟨x,0,none⟩),.slice r.p r.len r.cap,f] true [] K w:=by
 have hl:r.len=l.length:=hr.len
 refine record_list_Op_call _ _ _ ?_
 unfold record_list_Op
 rw [← List.append_assoc] at hb k
 have e:(((r.len:Nat):Int))=(l.length:Int):=by rw [hl]
 refine wint_k' e ⟨by omega,by omega⟩ h h0 (pre_le hb) fun s1 w1 h1 e1=>?_
 have z1:n0≤w1.heap.size:=Nat.le_trans h0 e1.kp.size
 refine rowsOp_k h1 z1 (ho _ _ _ _ _ h h0 hr e1) ho hf (fun y hy=>hoD y hy _ _ _ _ _ h h0 (hD y hy) e1) hoD hN hb fun s2 w2 h2 e2=>?_
 exact k s2 w2 h2 (e1.trans e2)
theorem rowsHold_k {n0:Nat} {w:World} {x:Nat} {s:Sl} {bs:List UInt8} (h:WR n0 w x s bs) (h0:n0≤w.heap.size) {r:Sl} {l:List Hd} (hr:RdE hdR w r l) (ho:Off n0 x (fun w=>RdE hdR w r l)) {f:Value} {enc:Hd→List UInt8} {D:Hd→World→Prop} (hf:OneW n0 x f hdR.v enc D) (hD:∀ y∈l,D y w) (hoD:∀ y∈l,Off n0 x (D y)) (hN:l.length≤1000000) (hb:(bs ++ l.flatMap enc).length≤big) {K:TR []→Pr} (k:∀ s' w',WR n0 w' x s' (bs ++ l.flatMap enc)→WE w x s w' s'→K () w'):Cl Pg i_record_rows_Hold [.pointer (some ⟨x,0,none⟩),.slice r.p r.len r.cap,f] true [] K w:=by
 have hl:r.len=l.length:=hr.len
 refine record_rows_Hold_call _ _ _ ?_
 unfold record_rows_Hold
 refine ⟨fun n st w'=>∃ (i:Nat) (s':Sl),st=((i:Int),())∧n=l.length - i∧i≤l.length∧WR n0 w' x s' (bs ++ (l.take i).flatMap enc)∧WE w x s w' s'∧RdE hdR w' r l∧(∀ y∈l,D y w')∧n0≤w'.heap.size,⟨_,0,s,rfl,rfl,by omega,by simpa using h,WE.k0 (Keeps.refl _ _),hr,hD,h0⟩,?_⟩
 rintro n _ w1 ⟨i,s1,rfl,rfl,hi,h1,e1,r1,d1,z1⟩
 dsimp only
 by_cases hlt:i < l.length
 ·rw [decide_eq_true (by omega)]
  simp only [Br_true]
  obtain ⟨y,hy⟩:∃ y,l[i]?=some y:=⟨_,List.getElem?_eq_getElem hlt⟩
  have hym:=List.mem_of_getElem? hy
  have htk:(l.take (i + 1)).flatMap enc=(l.take i).flatMap enc ++ enc y:=by rw [List.take_add_one,hy,List.flatMap_append];simp
  have hbb:(bs ++ (l.take i).flatMap enc ++ enc y).length≤big:=by
   have e:l.flatMap enc=(l.take (i + 1)).flatMap enc ++ (l.drop (i + 1)).flatMap enc:=by rw [← List.flatMap_append,List.take_append_drop]
   rw [e,htk] at hb
   simp only [List.length_append] at hb ⊢
   omega
  have nxt:∀ (w2:World),Keeps [] w1 w2→CallV Pg f [hdR.v y] true [] (fun r5=>fun w'=>∃ m,m < l.length - i∧∃ (i_1:Nat) (s':Sl),(w64 ((i:Int) + 1),())=((i_1:Int),())∧m=l.length - i_1∧i_1≤l.length∧WR n0 w' x s' (bs ++ (l.take i_1).flatMap enc)∧WE w x s w' s'∧RdE hdR w' r l∧(∀ y∈l,D y w')∧n0≤w'.heap.size) w2:=by
   intro w2 k2
   have z2:n0≤w2.heap.size:=Nat.le_trans z1 k2.size
   refine hf y w2 s1 _ (h1.keeps0 k2) z2 ((hoD y hym).k0 h1 z1 (d1 y hym) k2) hbb _ ?_
   intro s3 w3 h3 e3
   refine ⟨l.length - (i + 1),by omega,i + 1,s3,by rw [w64p (by omega)],rfl,by omega,?_,e1.trans ((WE.k0 k2).trans e3),ho _ _ _ _ _ h1 z1 r1 ((WE.k0 k2).trans e3),fun z hz=>hoD z hz _ _ _ _ _ h1 z1 (d1 z hz) ((WE.k0 k2).trans e3),Nat.le_trans z2 e3.kp.size⟩
   rw [htk,← List.append_assoc]
   exact h3
  refine ld_Hold r1 hy ?_
  refine bx_Hold y fun c w2 h2 n2 k2=>?_
  simp only [sb,h2]
  exact nxt w2 k2
 ·rw [decide_eq_false (by omega)]
  rw [List.take_of_length_le (by omega)] at h1
  exact k s1 w1 h1 e1
theorem wlistHold_k {n0:Nat} {w:World} {x:Nat} {s:Sl} {bs:List UInt8} (h:WR n0 w x s bs) (h0:n0≤w.heap.size) {r:Sl} {l:List Hd} (hr:RdE hdR w r l) (ho:Off n0 x (fun w=>RdE hdR w r l)) {f:Value} {enc:Hd→List UInt8} {D:Hd→World→Prop} (hf:OneW n0 x f hdR.v enc D) (hD:∀ y∈l,D y w) (hoD:∀ y∈l,Off n0 x (D y)) (hN:l.length≤1000000) (hb:(bs ++ (numB (l.length:Int) ++ l.flatMap enc)).length≤big) {K:TR []→Pr} (k:∀ s' w',WR n0 w' x s' (bs ++ (numB (l.length:Int) ++ l.flatMap enc))→WE w x s w' s'→K () w'):Cl Pg i_record_list_Hold [.pointer (some ⟨x,0,none⟩),.slice r.p r.len r.cap,f] true [] K w:=by
 have hl:r.len=l.length:=hr.len
 refine record_list_Hold_call _ _ _ ?_
 unfold record_list_Hold
 rw [← List.append_assoc] at hb k
 have e:(((r.len:Nat):Int))=(l.length:Int):=by rw [hl]
 refine wint_k' e ⟨by omega,by omega⟩ h h0 (pre_le hb) fun s1 w1 h1 e1=>?_
 have z1:n0≤w1.heap.size:=Nat.le_trans h0 e1.kp.size
 refine rowsHold_k h1 z1 (ho _ _ _ _ _ h h0 hr e1) ho hf (fun y hy=>hoD y hy _ _ _ _ _ h h0 (hD y hy) e1) hoD hN hb fun s2 w2 h2 e2=>?_
 exact k s2 w2 h2 (e1.trans e2)
theorem CallV_m {P:Program} {g:FuncId} (hg:okFn P g=true) {c:Value} {args:List Value} {tup:Bool} {rs:List RK} {K:TR rs→Pr} {w:World} (h:Cl P g (c :: args) tup rs K w):CallV P (.func (.func g) #[c] #[]) args tup rs K w:=by
 unfold CallV
 simp only [hg]
 simpa using h
def encOw (o:Ow):List UInt8:=textB o.lo ++ numB o.shard
def encOp (o:Op):List UInt8:=numB o.kind ++ textB o.key ++ textB o.value ++ textB o.lo ++ textB o.hi ++ numB o.most
def encHd (h:Hd):List UInt8:=numB h.txn ++ (numB (h.ops.length:Int) ++ h.ops.flatMap encOp)
def okN (n:Int):Prop:=0≤n∧n < 18446744073709551616
def okOw (o:Ow):Prop:=okN o.shard∧o.lo.size≤1000000
def okOp (o:Op):Prop:=okN o.kind∧okN o.most∧o.key.size≤1000000∧o.value.size≤1000000∧o.lo.size≤1000000∧o.hi.size≤1000000
theorem off_triv {n0 x:Nat} {p:Prop}:Off n0 x (fun _=>p):=fun _ _ _ _ _ _ _ h _=>h
theorem num_one {n0 x:Nat}:OneW n0 x (.func (.func i_record_writer_num) #[.pointer (some ⟨x,0,none⟩)] #[]) (Value.int .u64) numB (fun y _=>okN y):=by
 intro y w s bs h h0 hD hb K hK
 refine CallV_m (by kernel_rfl) ?_
 exact wnum_k y hD.2 h h0 hb hK
theorem owner_one {n0 x:Nat}:OneW n0 x (.func (.func i_record_writer_owner) #[.pointer (some ⟨x,0,none⟩)] #[]) owR.v encOw (fun y _=>okOw y):=by
 intro y w s bs h h0 hD hb K hK
 refine CallV_m (by kernel_rfl) ?_
 refine record_writer_owner_call _ _ _ ?_
 unfold record_writer_owner
 refine New_bx fun a w1 h1 n1 k1=>?_
 have g1:=h.keeps0 k1
 have z1:=Nat.le_trans h0 k1.size
 obtain ⟨na,ns⟩:=h.new n1
 unfold encOw at hb hK
 rw [← List.append_assoc] at hb hK
 simp only [sb,h1]
 refine wtext_k _ hD.2 g1 z1 (pre_le hb) fun s2 w2 g2 e2=>?_
 obtain ⟨h2,_⟩:=e2.at g1 h1 na ns
 simp only [sb,h2]
 refine wint_k _ hD.1 g2 (Nat.le_trans z1 e2.kp.size) hb fun s3 w3 g3 e3=>?_
 exact hK s3 w3 g3 ((WE.k0 k1).trans (e2.trans e3))
theorem span_k (lo hi:ByteArray) (hl:lo.size≤1000000) (hh:hi.size≤1000000) {n0:Nat} {w:World} {x:Nat} {s:Sl} {bs:List UInt8} (h:WR n0 w x s bs) (h0:n0≤w.heap.size) (hb:(bs ++ (textB lo ++ textB hi)).length≤big) {K:TR []→Pr} (k:∀ s' w',WR n0 w' x s' (bs ++ (textB lo ++ textB hi))→WE w x s w' s'→K () w'):Cl Pg i_record_writer_span [.pointer (some ⟨x,0,none⟩),.agg #[.string lo,.string hi]] true [] K w:=by
 refine record_writer_span_call _ _ _ ?_
 unfold record_writer_span
 refine New_bx fun a w1 h1 n1 k1=>?_
 have g1:=h.keeps0 k1
 have z1:=Nat.le_trans h0 k1.size
 obtain ⟨na,ns⟩:=h.new n1
 rw [← List.append_assoc] at hb k
 simp only [sb,h1]
 refine wtext_k _ hl g1 z1 (pre_le hb) fun s2 w2 g2 e2=>?_
 obtain ⟨h2,_⟩:=e2.at g1 h1 na ns
 simp only [sb,h2]
 refine wtext_k _ hh g2 (Nat.le_trans z1 e2.kp.size) hb fun s3 w3 g3 e3=>?_
 exact k s3 w3 g3 ((WE.k0 k1).trans (e2.trans e3))
set_option maxHeartbeats 1000000 in
theorem op_one {n0 x:Nat}:OneW n0 x (.func (.func i_record_writer_op) #[.pointer (some ⟨x,0,none⟩)] #[]) opR.v encOp (fun y _=>okOp y):=by
 intro y w s bs h h0 hD hb K hK
 obtain ⟨d1,d2,d3,d4,d5,d6⟩:=hD
 refine CallV_m (by kernel_rfl) ?_
 refine record_writer_op_call _ _ _ _ _ _ _ ?_
 unfold record_writer_op
 refine New_bx fun a w1 h1 n1 k1=>?_
 have g1:=h.keeps0 k1
 have z1:=Nat.le_trans h0 k1.size
 obtain ⟨na,ns⟩:=h.new n1
 unfold encOp at hb hK
 simp only [← List.append_assoc] at hb hK
 have b5:=pre_le hb
 have b4:=pre_le b5
 have b3:=pre_le b4
 have b2:=pre_le b3
 have b1:=pre_le b2
 simp only [sb,h1]
 refine wint_k _ d1 g1 z1 b1 fun s2 w2 g2 e2=>?_
 obtain ⟨h2,ns2⟩:=e2.at g1 h1 na ns
 have z2:=Nat.le_trans z1 e2.kp.size
 simp only [sb,h2]
 refine New_bx fun c w3 h3 n3 k3=>?_
 have g3:=g2.keeps0 k3
 have z3:=Nat.le_trans z2 k3.size
 obtain ⟨nc,nsc⟩:=g2.new n3
 have h23:=k3.at0 h2
 have at4:∀ (w':World),w'.heap[c]?=some (.cells #[.string y.key,.string y.value,.string y.lo,.string y.hi] 9 (0,0))→∀ (i:Nat) (t:ByteArray),[y.key,y.value,y.lo,y.hi][i]?=some t→∀ {K:ByteArray→Pr},K t w'→Ix ⟨some ⟨c,0,none⟩,4,4⟩ (i:Int) 1 (fun a=>LdS a K) w':=by
  intro w' hw i t ht K hK
  have hi:i < 4:=(List.getElem?_eq_some_iff.1 ht).1
  refine Ix_add (b:=c) (o:=0) rfl hi 1 ?_
  rw [Nat.zero_add,Nat.mul_one]
  refine Ld_of (k:=.s) (x:=t) ?_ hK
  rw [cell_cellO,hw]
  have:i=0∨i=1∨i=2∨i=3:=by omega
  rcases this with rfl | rfl | rfl | rfl <;> (simp at ht;subst ht;rfl)
 have pre:∀ i≤4,(bs ++ numB y.kind ++ ([y.key,y.value,y.lo,y.hi].take i).flatMap textB).length≤big:=by
  intro i hi
  have:i=0∨i=1∨i=2∨i=3∨i=4:=by omega
  simp only [List.length_append] at *
  rcases this with rfl | rfl | rfl | rfl | rfl <;> simp <;> omega
 refine ⟨fun m st w'=>∃ (i:Nat) (s':Sl),st=((i:Int),())∧m=4 - i∧i≤4∧WR n0 w' x s' (bs ++ numB y.kind ++ ([y.key,y.value,y.lo,y.hi].take i).flatMap textB)∧WE w3 x s2 w' s',⟨_,0,s2,rfl,rfl,by omega,by simpa using g3,WE.k0 (Keeps.refl _ _)⟩,?_⟩
 rintro m _ w4 ⟨i,s4,rfl,rfl,hi,g4,e4⟩
 obtain ⟨hc4,nsc4⟩:=e4.at g3 h3 nc nsc
 obtain ⟨h4,ns4⟩:=e4.at g3 h23 na ns2
 have z4:=Nat.le_trans z3 e4.kp.size
 dsimp only
 by_cases hlt:i < 4
 ·rw [decide_eq_true (by omega)]
  simp only [Br_true]
  obtain ⟨t,ht⟩:∃ t,[y.key,y.value,y.lo,y.hi][i]?=some t:=⟨_,List.getElem?_eq_getElem hlt⟩
  have htk:([y.key,y.value,y.lo,y.hi].take (i + 1)).flatMap textB=([y.key,y.value,y.lo,y.hi].take i).flatMap textB ++ textB t:=by rw [List.take_add_one,ht,List.flatMap_append];simp
  have hts:t.size≤1000000:=by
   have hm:=List.mem_of_getElem? ht
   simp only [List.mem_cons,List.not_mem_nil,or_false] at hm
   rcases hm with rfl | rfl | rfl | rfl <;> assumption
  have hp:=pre (i + 1) (by omega)
  rw [htk,← List.append_assoc] at hp
  refine at4 w4 hc4 i t ht ?_
  refine wtext_k t hts g4 z4 hp fun s5 w5 g5 e5=>?_
  refine ⟨4 - (i + 1),by omega,i + 1,s5,by rw [w64p (by omega)],rfl,by omega,?_,e4.trans e5⟩
  rw [htk,← List.append_assoc]
  exact g5
 ·rw [decide_eq_false (by omega)]
  simp only [sb,h4]
  rw [List.take_of_length_le (by simp;omega)] at g4
  have g4:WR n0 w4 x s4 (bs ++ numB y.kind ++ textB y.key ++ textB y.value ++ textB y.lo ++ textB y.hi):=by simpa using g4
  refine wint_k _ d2 g4 z4 hb fun s5 w5 g5 e5=>?_
  exact hK s5 w5 g5 ((WE.k0 k1).trans (e2.trans ((WE.k0 k3).trans (e4.trans e5))))
theorem hold_one {n0 x:Nat} (hx:n0≤x):OneW n0 x (.func (.func i_record_writer_hold) #[.pointer (some ⟨x,0,none⟩)] #[]) hdR.v encHd (fun y w=>okN y.txn∧(∀ o∈y.ops,okOp o)∧y.ops.length≤100000∧RdE opR w y.so y.ops∧∀ b∈rb y.so,b < n0):=by
 intro y w s bs h h0 hD hb K hK
 obtain ⟨d1,d2,d3,d4,d5⟩:=hD
 refine CallV_m (by kernel_rfl) ?_
 refine record_writer_hold_call _ _ y.so ?_
 unfold record_writer_hold
 refine New_bx fun a w1 h1 n1 k1=>?_
 have g1:=h.keeps0 k1
 have z1:=Nat.le_trans h0 k1.size
 obtain ⟨na,ns⟩:=h.new n1
 unfold encHd at hb hK
 rw [← List.append_assoc] at hb hK
 simp only [sb,h1]
 refine wnum_k _ d1.2 g1 z1 (pre_le hb) fun s2 w2 g2 e2=>?_
 obtain ⟨h2,_⟩:=e2.at g1 h1 na ns
 have z2:=Nat.le_trans z1 e2.kp.size
 simp only [sb,h2]
 have off:=off_rde (ρ:=opR) (l:=y.ops) hx d5
 refine wlistOp_k g2 z2 (off _ _ _ _ _ g1 z1 (d4.keeps0 k1) e2) off op_one d2 (fun o ho=>off_triv) (by omega) hb fun s3 w3 g3 e3=>?_
 exact hK s3 w3 g3 ((WE.k0 k1).trans (e2.trans e3))
theorem flat_nm (l:List Int):l.flatMap nmR.c=l.map (Value.int .u64):=by
 induction l with
 | nil=>rfl
 | cons a l ih=>exact congrArg (Value.int .u64 a :: ·) ih
theorem rde_nums {w:World} {c:Nat} {t:TypeId} {fr:Nat × Nat} {l:List Int} (h:w.heap[c]?=some (.cells (l.map (Value.int .u64)).toArray t fr)):RdE nmR w ⟨some ⟨c,0,none⟩,l.length,l.length⟩ l:=by
 refine ⟨⟨by rw [flat_length nmR.len],fun j v hj=>⟨⟨c,0,none⟩,rfl,?_⟩⟩,Nat.le_refl _⟩
 rw [add0,cell_cellO,h]
 rw [flat_nm] at hj
 show (l.map (Value.int .u64)).toArray[j]?=some v
 rw [List.getElem?_toArray]
 exact hj
theorem nums_k {n0:Nat} {w:World} {x:Nat} {s:Sl} {bs:List UInt8} (h:WR n0 w x s bs) (h0:n0≤w.heap.size) {l:List Int} {c:Nat} {t:TypeId} (hc:w.heap[c]?=some (.cells (l.map (Value.int .u64)).toArray t (0,0))) (nc:c ≠ x) (nsc:c ∉ blk s) {n:Nat} (hn:n=l.length) (hD:∀ y∈l,okN y) (hN:l.length≤1000000) (hb:(bs ++ l.flatMap numB).length≤big) {K:TR []→Pr} (k:∀ s' w',WR n0 w' x s' (bs ++ l.flatMap numB)→WE w x s w' s'→K () w'):Cl Pg i_record_writer_nums [.pointer (some ⟨x,0,none⟩),.slice (some ⟨c,0,none⟩) n n] true [] K w:=by
 subst hn
 refine record_writer_nums_call _ ⟨some ⟨c,0,none⟩,l.length,l.length⟩ ?_
 unfold record_writer_nums
 refine record_rows_uint64_call _ ⟨some ⟨c,0,none⟩,l.length,l.length⟩ _ ?_
 unfold record_rows_uint64
 refine ⟨fun n st w'=>∃ (i:Nat) (s':Sl),st=((i:Int),())∧n=l.length - i∧i≤l.length∧WR n0 w' x s' (bs ++ (l.take i).flatMap numB)∧WE w x s w' s',⟨_,0,s,rfl,rfl,by omega,by simpa using h,WE.k0 (Keeps.refl _ _)⟩,?_⟩
 rintro n _ w1 ⟨i,s1,rfl,rfl,hi,h1,e1⟩
 obtain ⟨hc1,_⟩:=e1.at h hc nc nsc
 have z1:=Nat.le_trans h0 e1.kp.size
 dsimp only
 by_cases hlt:i < l.length
 ·rw [decide_eq_true (by omega)]
  simp only [Br_true]
  obtain ⟨y,hy⟩:∃ y,l[i]?=some y:=⟨_,List.getElem?_eq_getElem hlt⟩
  have hym:=List.mem_of_getElem? hy
  have htk:(l.take (i + 1)).flatMap numB=(l.take i).flatMap numB ++ numB y:=by rw [List.take_add_one,hy,List.flatMap_append];simp
  have hbb:(bs ++ (l.take i).flatMap numB ++ numB y).length≤big:=by
   have e:l.flatMap numB=(l.take (i + 1)).flatMap numB ++ (l.drop (i + 1)).flatMap numB:=by rw [← List.flatMap_append,List.take_append_drop]
   rw [e,htk] at hb
   simp only [List.length_append] at hb ⊢
   omega
  refine ldn (rde_nums hc1) hy ?_
  refine num_one y w1 s1 _ h1 z1 (hD y hym) hbb _ ?_
  intro s3 w3 h3 e3
  refine ⟨l.length - (i + 1),by omega,i + 1,s3,by rw [w64p (by omega)],rfl,by omega,?_,e1.trans e3⟩
  rw [htk,← List.append_assoc]
  exact h3
 ·rw [decide_eq_false (by omega)]
  rw [List.take_of_length_le (by omega)] at h1
  exact k s1 w1 h1 e1
end Go.Proofs.YthkdehgfdllpoaaGreat
set_option linter.unusedVariables false
set_option linter.unusedSimpArgs false
namespace Go.Proofs.YthkdehgfdllpoaaGreat
open Go Go.Sx
def encPH (h:PH):List UInt8:=numB h.txn ++ (numB (h.ops.length:Int) ++ h.ops.flatMap encOp)
def encS (c:Sc) (owners:List Ow) (held:List PH) (fin:List Int):List UInt8:=
 [83] ++ [c.id,c.boot,c.ver,c.epoch,c.move].flatMap numB ++ (numB (owners.length:Int) ++ owners.flatMap encOw) ++ (numB (held.length:Int) ++ held.flatMap encPH) ++ (numB (fin.length:Int) ++ fin.flatMap numB) ++ [c.low,c.frozen].flatMap numB ++ (textB c.clo ++ textB c.chi) ++ [c.imove,c.iatt,c.inext].flatMap numB ++ (textB c.ilo ++ textB c.ihi)
structure ScR (c:Sc):Prop where
 boot:okN c.boot
 ver:okN c.ver
 epoch:okN c.epoch
 move:okN c.move
 low:okN c.low
 frozen:okN c.frozen
 imove:okN c.imove
 iatt:okN c.iatt
 inext:okN c.inext
theorem owsOk_all:∀ {l:List Ow} {p:ByteArray},owsOk p l=true→∀ o∈l,okOw o∧o.lo.size≤12
 | x :: l,p,h,o,ho=>by
  rw [owsOk] at h
  simp only [Bool.and_eq_true,decide_eq_true_iff] at h
  obtain ⟨⟨⟨h1,h2⟩,h3,h4⟩,h5⟩:=h
  rcases List.mem_cons.1 ho with rfl | ho
  ·have:=(okK_sz h3).2
   exact ⟨⟨⟨by omega,by omega⟩,by omega⟩,this⟩
  ·exact owsOk_all h5 o ho
theorem ownOk_all {l:List Ow} (h:ownOk l=true):(∀ o∈l,okOw o∧o.lo.size≤12)∧l.length≤6:=by
 cases l with
 | nil=>cases h
 | cons x l=>
  rw [ownOk] at h
  simp only [Bool.and_eq_true,decide_eq_true_iff] at h
  obtain ⟨⟨⟨⟨h1,h2⟩,h3⟩,h4⟩,h5⟩:=h
  refine ⟨fun o ho=>?_,by simp;omega⟩
  rcases List.mem_cons.1 ho with rfl | ho
  ·rw [seq_eq,decide_eq_true_iff] at h1
   have:o.lo.size=0:=by rw [h1];rfl
   exact ⟨⟨⟨by omega,by omega⟩,by omega⟩,by omega⟩
  ·exact owsOk_all h4 o ho
theorem okR_sz {a b:ByteArray} (h:okR a b=true):a.size≤12∧b.size≤12:=okR_sizes h
theorem seq_sz {a:ByteArray} (h:seq a (BA [])=true):a.size=0:=by
 rw [seq_eq,decide_eq_true_iff] at h
 rw [h]
 rfl
theorem opE_sz {o:Op} (h:opE o=0):okOp o∧o.key.size≤12∧o.value.size≤16∧o.lo.size≤12∧o.hi.size≤12:=by
 unfold opE at h
 split at h
 ·cases h
 rename_i h1
 split at h
 ·cases h
 rename_i h2
 split at h
 ·cases h
 rename_i h3
 split at h
 ·cases h
 rename_i h4
 split at h
 ·cases h
 rename_i h5
 simp only [Bool.or_eq_true,Bool.and_eq_true,Bool.not_eq_true',decide_eq_true_iff,not_or,not_and,Bool.not_eq_false,Bool.not_eq_true,bne_iff_ne,ne_eq,Decidable.not_not] at h1 h2 h3 h4 h5
 obtain ⟨a1,a2,a3,a4,a5⟩:=h1
 have hk:=kd_cases a1
 have kr:okN o.kind:=by rcases hk with h | h | h | h | h <;> exact ⟨by omega,by omega⟩
 have ks:o.key.size≤12:=by
  cases hf:fKey o.kind with
  | true=>exact (okK_sz (h2 hf)).2
  | false=>have:=seq_sz (a2 hf);omega
 have rs:o.lo.size≤12∧o.hi.size≤12:=by
  cases hf:fRng o.kind with
  | true=>exact okR_sz (h4 hf)
  | false=>
   have:=a4 hf
   exact ⟨by have:=seq_sz this.1;omega,by have:=seq_sz this.2.1;omega⟩
 have ms:okN o.most:=by
  cases hf:fMost o.kind with
  | true=>have:=h5 hf;exact ⟨by omega,by omega⟩
  | false=>have:=a5 hf;exact ⟨by omega,by omega⟩
 exact ⟨⟨kr,ms,by omega,by omega,by omega,by omega⟩,ks,by omega,rs.1,rs.2⟩
theorem flat_le {α:Type} {f:α→List UInt8} {m:Nat}:∀ {l:List α},(∀ x∈l,(f x).length≤m)→(l.flatMap f).length≤l.length * m
 | [],_=>by simp
 | a :: l,h=>by
  rw [List.flatMap_cons,List.length_append,List.length_cons,Nat.succ_mul]
  have h1:=h a List.mem_cons_self
  have h2:=flat_le (l:=l) fun x hx=>h x (List.mem_cons_of_mem _ hx)
  omega
theorem numB_le {n:Int} (h:okN n):(numB n).length≤10:=numB_len h.2
theorem textB_le (t:ByteArray) (h:t.size≤1000000):(textB t).length≤10 + t.size:=by
 unfold textB
 rw [List.length_append]
 have:=numB_len (n:=(t.size:Int)) (by omega)
 have:t.data.toList.length=t.size:=by simp
 omega
theorem encOp_le {o:Op} (h:opE o=0):(encOp o).length≤200:=by
 obtain ⟨⟨a,b,_⟩,c,d,e,f⟩:=opE_sz h
 have:=numB_le a
 have:=numB_le b
 have:=textB_le o.key (by omega)
 have:=textB_le o.value (by omega)
 have:=textB_le o.lo (by omega)
 have:=textB_le o.hi (by omega)
 unfold encOp
 simp only [List.length_append]
 omega
theorem natN {n:Nat} (h:n≤1000000):okN (n:Int):=⟨by omega,by omega⟩
structure ShR (c:Sc) (owners:List Ow) (held:List PH) (fin:List Int):Prop where
 c:ScR c
 txn:∀ h∈held,okN h.txn
 fin:∀ n∈fin,okN n
theorem shOk_all {c:Sc} {owners:List Ow} {held:List PH} {fin:List Int} (h:shOk c owners held fin=true):(1≤c.id∧c.id≤4)∧ownOk owners=true∧held.length≤6∧held.length + fin.length≤64∧(c.ilo.size≤12∧c.ihi.size≤12)∧(c.clo.size≤12∧c.chi.size≤12)∧∀ x∈held,opsE x.ops=0∧x.ops.length≤24∧x.ops.length ≠ 0∧x.txn ∉ fin:=by
 unfold shOk at h
 simp only [Bool.and_eq_true,Bool.not_eq_true'] at h
 obtain ⟨h1,h2,h3,h4⟩:=h
 unfold headZ at h1
 simp only [Bool.or_eq_false_iff,decide_eq_false_iff_not,Bool.not_eq_false'] at h1
 obtain ⟨a1,a2,a3,a4,a5,a6,a7⟩:=h1
 refine ⟨⟨by omega,by omega⟩,a3,by omega,by omega,okR_sz a6,okR_sz a7,fun x hx=>?_⟩
 unfold tailZ at h4
 simp only [Bool.and_eq_true,Bool.not_eq_true'] at h4
 have hb:=List.any_eq_false.1 h4.1 x hx
 unfold badH at hb
 simp only [Bool.or_eq_true,decide_eq_true_iff,not_or,ne_eq,Decidable.not_not,List.contains_iff_mem] at hb
 obtain ⟨b1,b2,b3,b4⟩:=hb
 exact ⟨b4,by omega,b1,b3⟩
theorem encPH_le {x:PH} (ht:okN x.txn) (ho:opsE x.ops=0) (hl:x.ops.length≤24):(encPH x).length≤5000:=by
 unfold encPH
 have h1:=numB_le ht
 have h2:=numB_le (natN (n:=x.ops.length) (by omega))
 rw [opsE_all] at ho
 have h3:=flat_le (f:=encOp) (m:=200) fun o hm=>encOp_le (ho o hm)
 simp only [List.length_append]
 have:x.ops.length * 200≤24 * 200:=Nat.mul_le_mul_right _ hl
 omega
theorem encS_le {c:Sc} {owners:List Ow} {held:List PH} {fin:List Int} (hr:ShR c owners held fin) (h:shOk c owners held fin=true):(encS c owners held fin).length≤100000:=by
 obtain ⟨a1,a2,a3,a4,a5,a6,a7⟩:=shOk_all h
 obtain ⟨o1,o2⟩:=ownOk_all a2
 have l1:=flat_le (f:=numB) (m:=10) (l:=[c.id,c.boot,c.ver,c.epoch,c.move]) (by
  intro x hx
  simp only [List.mem_cons,List.not_mem_nil,or_false] at hx
  rcases hx with rfl | rfl | rfl | rfl | rfl
  ·exact numB_len (by omega)
  ·exact numB_le hr.c.boot
  ·exact numB_le hr.c.ver
  ·exact numB_le hr.c.epoch
  ·exact numB_le hr.c.move)
 have l2:=flat_le (f:=numB) (m:=10) (l:=[c.low,c.frozen]) (by
  intro x hx
  simp only [List.mem_cons,List.not_mem_nil,or_false] at hx
  rcases hx with rfl | rfl
  ·exact numB_le hr.c.low
  ·exact numB_le hr.c.frozen)
 have l3:=flat_le (f:=numB) (m:=10) (l:=[c.imove,c.iatt,c.inext]) (by
  intro x hx
  simp only [List.mem_cons,List.not_mem_nil,or_false] at hx
  rcases hx with rfl | rfl | rfl
  ·exact numB_le hr.c.imove
  ·exact numB_le hr.c.iatt
  ·exact numB_le hr.c.inext)
 have l4:=flat_le (f:=encOw) (m:=40) (l:=owners) (by
  intro x hx
  obtain ⟨⟨h1,_⟩,h2⟩:=o1 x hx
  have:=numB_le h1
  have:=textB_le x.lo (by omega)
  unfold encOw
  rw [List.length_append]
  omega)
 have l5:=flat_le (f:=encPH) (m:=5000) (l:=held) fun x hx=>encPH_le (hr.txn x hx) (a7 x hx).1 (a7 x hx).2.1
 have l6:=flat_le (f:=numB) (m:=10) (l:=fin) fun x hx=>numB_le (hr.fin x hx)
 have m4:owners.length * 40≤6 * 40:=Nat.mul_le_mul_right _ o2
 have m5:held.length * 5000≤6 * 5000:=Nat.mul_le_mul_right _ a3
 have m6:fin.length * 10≤64 * 10:=Nat.mul_le_mul_right _ (by omega)
 have n1:=numB_le (natN (n:=owners.length) (by omega))
 have n2:=numB_le (natN (n:=held.length) (by omega))
 have n3:=numB_le (natN (n:=fin.length) (by omega))
 have t1:=textB_le c.clo (by omega)
 have t2:=textB_le c.chi (by omega)
 have t3:=textB_le c.ilo (by omega)
 have t4:=textB_le c.ihi (by omega)
 unfold encS
 simp only [List.length_append,List.length_cons,List.length_nil] at *
 omega
theorem flat_held (l:List Hd):l.flatMap encHd=(l.map Hd.p).flatMap encPH:=by
 rw [List.flatMap_map]
 rfl
theorem row1 {w:World} {b:Nat} {v:Value} {t:TypeId} (h:w.heap[b]?=some (.cells #[v] t (0,0))):SlC w ⟨some ⟨b,0,none⟩,1,1⟩ 1 [v]:=
 ⟨rfl,Nat.le_refl _,.inr ⟨b,0,_,_,_,rfl,h,by simp,fun j _=>by rw [Nat.zero_add];simp,by simp⟩⟩
set_option maxHeartbeats 4000000 in
theorem EncodeShard_k {w:World} {d:Sd} (h:ShD d w) (hN:SdN d) (hr:ShR d.c d.owners (d.held.map Hd.p) d.fin) {K:TR [.sc .sl,.sc (.i .i64)]→Pr}
  (k1:shOk d.c d.owners (d.held.map Hd.p) d.fin=true→∀ r w',SlC w' r 1 (cB (encS d.c d.owners (d.held.map Hd.p) d.fin))→(∀ b∈blk r,w.heap.size≤b)→Keeps [] w w'→K (r,0,()) w')
  (k2:shOk d.c d.owners (d.held.map Hd.p) d.fin=false→∀ w',Keeps [] w w'→K (⟨none,0,0⟩,1,()) w'):Cl Pg i_record_EncodeShard [.agg (shA d)] true [.sc .sl,.sc (.i .i64)] K w:=by
 refine record_EncodeShard_call _ _ _ _ _ d.so d.sh d.sf _ _ _ _ _ _ _ _ _ ?_
 unfold record_EncodeShard
 refine New_bx fun a w1 h1 n1 q1=>?_
 simp only [sb,h1]
 refine CheckShard_k (d:=d) (h.keeps0 q1) hN fun w2 q2=>?_
 have q02:=kp0 q1 q2
 have h2:=q2.at0 h1
 cases hok:shOk d.c d.owners (d.held.map Hd.p) d.fin with
 | false=>exact k2 hok w2 q02
 | true=>
  have k1:=k1 hok
  obtain ⟨a1,a2,a3,a4,a5,a6,a7⟩:=shOk_all hok
  obtain ⟨o1,o2⟩:=ownOk_all a2
  have hbig:=encS_le hr hok
  have hlen:(d.held.map Hd.p).length=d.held.length:=List.length_map _
  simp only [if_true,show ((0:Int) != 0)=false from rfl,Br_false]
  refine New_bx fun b w3 h3 n3 q3=>?_
  refine New_bx fun x w4 h4 n4 q4=>?_
  have n0:w.heap.size≤w2.heap.size:=q02.size
  have r4:WR w.heap.size w4 x ⟨some ⟨b,0,none⟩,1,1⟩ [83]:=by
   refine ⟨h4,row1 (q4.at0 h3),?_,by have:=q3.size;omega,?_⟩
   ·intro hb
    simp [blk,rblk] at hb
    have:=hp_lt h3
    omega
   ·intro c hc
    simp [blk,rblk] at hc
    omega
  have z4:w.heap.size≤w4.heap.size:=by have:=q3.size;have:=q4.size;omega
  have q04:=kp0 q02 (kp0 q3 q4)
  have a4':=(kp0 q3 q4).at0 h2
  have lta:a < w2.heap.size:=hp_lt h2
  have nx:a ≠ x:=by have:=q3.size;omega
  have ns:a ∉ blk (⟨some ⟨b,0,none⟩,1,1⟩:Sl):=fun hb=>by simp [blk,rblk] at hb;omega
  have off_ow:=off_rde (ρ:=owR) (x:=x) (l:=d.owners) r4.nx h.ow.lt
  have off_he:=off_rde (ρ:=hdR) (x:=x) (l:=d.held) r4.nx h.he.lt
  have off_fi:=off_rde (ρ:=nmR) (x:=x) (l:=d.fin) r4.nx h.fi.lt
  unfold encS at hbig k1
  rw [hlen,← flat_held] at hbig k1
  have b9:([83] ++ [d.c.id,d.c.boot,d.c.ver,d.c.epoch,d.c.move].flatMap numB ++ (numB (d.owners.length:Int) ++ d.owners.flatMap encOw) ++ (numB (d.held.length:Int) ++ d.held.flatMap encHd) ++ (numB (d.fin.length:Int) ++ d.fin.flatMap numB) ++ [d.c.low,d.c.frozen].flatMap numB ++ (textB d.c.clo ++ textB d.c.chi) ++ [d.c.imove,d.c.iatt,d.c.inext].flatMap numB ++ (textB d.c.ilo ++ textB d.c.ihi)).length≤big:=Nat.le_trans hbig (by decide)
  have b8:=pre_le b9
  have b7:=pre_le b8
  have b6:=pre_le b7
  have b5:=pre_le b6
  have b4:=pre_le b5
  have b3:=pre_le b4
  have b2:=pre_le b3
  clear hbig
  have wid:IntKind.u64.wrap d.c.id=d.c.id:=by
   have:=wrap_u64_nat (n:=d.c.id.toNat) (by omega)
   rw [Int.toNat_of_nonneg (by omega)] at this
   exact this
  simp only [sb,a4',wid]
  refine New_bx fun c5 w5 h5 n5 q5=>?_
  have r5:=r4.keeps0 q5
  obtain ⟨nc5,ns5⟩:=r4.new n5
  refine nums_k (l:=[d.c.id,d.c.boot,d.c.ver,d.c.epoch,d.c.move]) r5 (Nat.le_trans z4 q5.size) h5 nc5 ns5 rfl ?_ (by simp) b2 ?_
  ·intro y hy
   simp only [List.mem_cons,List.not_mem_nil,or_false] at hy
   rcases hy with rfl | rfl | rfl | rfl | rfl
   ·exact ⟨by omega,by omega⟩
   ·exact hr.c.boot
   ·exact hr.c.ver
   ·exact hr.c.epoch
   ·exact hr.c.move
  intro s6 w6 r6 e6'
  have e6:WE w4 x _ w6 s6:=(WE.k0 q5).trans e6'
  have z6:=Nat.le_trans z4 e6.kp.size
  obtain ⟨a6',_⟩:=e6.at r4 a4' nx ns
  simp only [sb,a6']
  refine wlistOwner_k r6 z6 (off_ow _ _ _ _ _ r4 z4 (h.ow.keeps0 q04) e6) off_ow owner_one (fun y hy=>(o1 y hy).1) (fun y hy=>off_triv) (by omega) b3 ?_
  intro s7 w7 r7 e7'
  have e7:=e6.trans e7'
  have z7:=Nat.le_trans z4 e7.kp.size
  obtain ⟨a7',_⟩:=e7.at r4 a4' nx ns
  simp only [sb,a7']
  refine wlistHold_k r7 z7 (off_he _ _ _ _ _ r4 z4 (h.he.keeps0 q04) e7) off_he (hold_one r4.nx) (fun y hy=>?_) (fun y hy w w' s s' bs h h0 hD e=>⟨hD.1,hD.2.1,hD.2.2.1,off_rde (ρ:=opR) r4.nx hD.2.2.2.2 _ _ _ _ _ h h0 hD.2.2.2.1 e,hD.2.2.2.2⟩) (by omega) b4 ?_
  ·have hy':y.p∈d.held.map Hd.p:=List.mem_map.2 ⟨y,hy,rfl⟩
   obtain ⟨c1,c2,_⟩:=a7 y.p hy'
   have hlt:=(h.hd y hy).lt
   rw [opsE_all] at c1
   exact ⟨hr.txn y.p hy',fun o ho=>(opE_sz (c1 o ho)).1,Nat.le_trans c2 (by omega),off_rde (ρ:=opR) r4.nx hlt _ _ _ _ _ r4 z4 ((h.hd y hy).keeps0 q04) e7,hlt⟩
  intro s8 w8 r8 e8'
  have e8:=e7.trans e8'
  have z8:=Nat.le_trans z4 e8.kp.size
  obtain ⟨a8',_⟩:=e8.at r4 a4' nx ns
  simp only [sb,a8']
  refine wlistuint64_k r8 z8 (off_fi _ _ _ _ _ r4 z4 (h.fi.keeps0 q04) e8) off_fi num_one (fun y hy=>hr.fin y hy) (fun y hy=>off_triv) (by omega) b5 ?_
  intro s9 w9 r9 e9'
  have e9:=e8.trans e9'
  have z9:=Nat.le_trans z4 e9.kp.size
  obtain ⟨a9',_⟩:=e9.at r4 a4' nx ns
  simp only [sb,a9']
  refine New_bx fun c10 w10 h10 n10 q10=>?_
  have r10:=r9.keeps0 q10
  obtain ⟨nc10,ns10⟩:=r9.new n10
  refine nums_k (l:=[d.c.low,d.c.frozen]) r10 (Nat.le_trans z9 q10.size) h10 nc10 ns10 rfl ?_ (by simp) b6 ?_
  ·intro y hy
   simp only [List.mem_cons,List.not_mem_nil,or_false] at hy
   rcases hy with rfl | rfl
   ·exact hr.c.low
   ·exact hr.c.frozen
  intro s11 w11 r11 e11'
  have e11:=e9.trans ((WE.k0 q10).trans e11')
  have z11:=Nat.le_trans z4 e11.kp.size
  obtain ⟨a11',_⟩:=e11.at r4 a4' nx ns
  simp only [sb,a11',add00,Nat.reduceAdd]
  refine span_k _ _ (by omega) (by omega) r11 z11 b7 ?_
  intro s12 w12 r12 e12'
  have e12:=e11.trans e12'
  have z12:=Nat.le_trans z4 e12.kp.size
  obtain ⟨a12',_⟩:=e12.at r4 a4' nx ns
  simp only [sb,a12',add00,Nat.reduceAdd]
  refine New_bx fun c13 w13 h13 n13 q13=>?_
  have r13:=r12.keeps0 q13
  obtain ⟨nc13,ns13⟩:=r12.new n13
  refine nums_k (l:=[d.c.imove,d.c.iatt,d.c.inext]) r13 (Nat.le_trans z12 q13.size) h13 nc13 ns13 rfl ?_ (by simp) b8 ?_
  ·intro y hy
   simp only [List.mem_cons,List.not_mem_nil,or_false] at hy
   rcases hy with rfl | rfl | rfl
   ·exact hr.c.imove
   ·exact hr.c.iatt
   ·exact hr.c.inext
  intro s14 w14 r14 e14'
  have e14:=e12.trans ((WE.k0 q13).trans e14')
  have z14:=Nat.le_trans z4 e14.kp.size
  obtain ⟨a14',_⟩:=e14.at r4 a4' nx ns
  simp only [sb,a14',add00,Nat.reduceAdd]
  refine span_k _ _ (by omega) (by omega) r14 z14 b9 ?_
  intro s15 w15 r15 e15'
  have e15:=e14.trans e15'
  simp only [sb,r15.hd]
  refine k1 s15 w15 r15.row r15.nb (q04.trans e15.kp fun y hy=>.inr ?_)
  rcases List.mem_cons.1 hy with rfl | hy
  ·exact r4.nx
  ·exact r4.nb y hy
def sameS (c:Sc) (o:List Ow) (h:List PH) (f:List Int) (c':Sc) (o':List Ow) (h':List PH) (f':List Int):Bool:=shOk c o h f && (shOk c' o' h' f' && seq ⟨(encS c o h f).toArray⟩ ⟨(encS c' o' h' f').toArray⟩)
set_option maxHeartbeats 2000000 in
theorem same_k {w:World} {d e:Sd} (h:ShD d w) (hN:SdN d) (hr:ShR d.c d.owners (d.held.map Hd.p) d.fin) (h':ShD e w) (hN':SdN e) (hr':ShR e.c e.owners (e.held.map Hd.p) e.fin) {K:TR [.sc .b]→Pr}
  (k:∀ w',Keeps [] w w'→K (sameS d.c d.owners (d.held.map Hd.p) d.fin e.c e.owners (e.held.map Hd.p) e.fin,()) w'):Cl Pg i_part_same [.agg (shA d),.agg (shA e)] false [.sc .b] K w:=by
 refine part_same_call _ _ _ _ _ d.so d.sh d.sf _ _ _ _ _ _ _ _ _ _ _ _ _ _ e.so e.sh e.sf _ _ _ _ _ _ _ _ _ ?_
 unfold part_same
 refine New_bx fun a w1 h1 n1 k1=>?_
 refine New_bx fun b w2 h2 n2 k2=>?_
 have h1:=k2.at0 h1
 have k02:=kp0 k1 k2
 unfold sameS at k
 simp only [sb,h1]
 refine EncodeShard_k (d:=d) (h.keeps0 k02) hN hr (fun hok r1 w3 h3 f3 k3=>?_) (fun hok w3 k3=>?_)
 ·have h23:=k3.at0 h2
  have k03:=kp0 k02 k3
  rw [hok,Bool.true_and] at k
  simp only [sb,h23]
  refine EncodeShard_k (d:=e) (h'.keeps0 k03) hN' hr' (fun hok' r2 w4 h4 f4 k4=>?_) (fun hok' w4 k4=>?_)
  ·rw [hok',Bool.true_and] at k
   simp only [show ((0:Int) == 0)=true from rfl,Br_true]
   refine BtoS_of (h3.keeps k4 (by simp)).rdb ?_
   refine BtoS_of h4.rdb ?_
   exact k w4 (kp0 k03 k4)
  ·rw [hok',Bool.false_and] at k
   exact k w4 (kp0 k03 k4)
 ·have h23:=k3.at0 h2
  have k03:=kp0 k02 k3
  rw [hok,Bool.false_and] at k
  simp only [sb,h23]
  refine EncodeShard_k (d:=e) (h'.keeps0 k03) hN' hr' (fun hok' r2 w4 h4 f4 k4=>?_) (fun hok' w4 k4=>?_)
  ·exact k w4 (kp0 k03 k4)
  ·exact k w4 (kp0 k03 k4)
end Go.Proofs.YthkdehgfdllpoaaGreat
set_option linter.unusedVariables false
set_option linter.unusedSimpArgs false
namespace Go.Proofs.YthkdehgfdllpoaaGreat
open Go Go.Sx
def offT (k:Nat) (T:Nat→Nat):Nat→Nat:=fun b=>if T b=k then 0 else T b
theorem offT_0 {k:Nat} {T:Nat→Nat} {b:Nat} (h:T b=0):offT k T b=0:=by unfold offT;split <;> first | rfl | exact h
theorem offT_ne {k j:Nat} {T:Nat→Nat} {b:Nat} (hj:j ≠ k) (h:T b=j):offT k T b=j:=by unfold offT;rw [if_neg (by rw [h];exact hj)];exact h
theorem offT_k {k:Nat} {T:Nat→Nat} {b:Nat} (h:T b=k):offT k T b=0:=if_pos h
theorem offT_nz {k:Nat} {T:Nat→Nat} {b:Nat} (h:offT k T b ≠ 0):T b ≠ 0:=fun h0=>h (offT_0 h0)
theorem Evo.off {k:Nat} (hk:k ≠ 0∧k < 11) {T:Nat→Nat} {w:World}:Evo T (offT k T) w w:=⟨KeepsP.refl _ _,fun _ _ h=>by unfold offT;rw [if_neg (by omega)]⟩
theorem nilC {α:Type} {ρ:Rec α} {T:Nat→Nat} {j:Nat} {w:World}:Comp T j (·∈blk (⟨none,0,0⟩:Sl)) (fun w=>SlE ρ w ⟨none,0,0⟩ []) w:=.of (SlC.nil _ _) (by simp [blk])
theorem Rest.give6 {w:World} {T:Nat→Nat} {X:Co} (h:Rest w T X):Rest w (offT 6 T) { X with sout:=⟨none,0,0⟩,out:=[] }:=
 ⟨h.ow.drop fun _=>offT_0,h.he.drop (fun _=>offT_0) (fun _=>offT_ne (by decide)),fun x hx=>(h.heD x hx).drop fun _=>offT_0,h.fi.drop (fun _=>offT_0) (fun _=>offT_ne (by decide)),h.wa.drop (fun _=>offT_0) (fun _=>offT_ne (by decide)),fun x hx=>(h.waD x hx).drop fun _=>offT_0,h.ta.drop (fun _=>offT_0) (fun _=>offT_ne (by decide)),nilC,by simp,h.wr.drop (fun _=>offT_0) (fun _=>offT_ne (by decide)),h.li.drop (fun _=>offT_0) (fun _=>offT_ne (by decide)),h.bo.drop (fun _=>offT_0) (fun _=>offT_ne (by decide)),h.ro.drop (fun _=>offT_0) (fun _=>offT_ne (by decide)),h.lo.drop fun _=>offT_0,h.sto.drop (fun _=>offT_0) (fun _=>offT_ne (by decide)),fun b hb=>h.bd b (offT_nz hb)⟩
theorem Rest.give7 {w:World} {T:Nat→Nat} {X:Co} (h:Rest w T X):Rest w (offT 7 T) { X with swr:=⟨none,0,0⟩,writes:=[] }:=
 ⟨h.ow.drop fun _=>offT_0,h.he.drop (fun _=>offT_0) (fun _=>offT_ne (by decide)),fun x hx=>(h.heD x hx).drop fun _=>offT_0,h.fi.drop (fun _=>offT_0) (fun _=>offT_ne (by decide)),h.wa.drop (fun _=>offT_0) (fun _=>offT_ne (by decide)),fun x hx=>(h.waD x hx).drop fun _=>offT_0,h.ta.drop (fun _=>offT_0) (fun _=>offT_ne (by decide)),h.ou.drop (fun _=>offT_0) (fun _=>offT_ne (by decide)),fun x hx=>(h.ouD x hx).drop fun _=>offT_0,nilC,h.li.drop (fun _=>offT_0) (fun _=>offT_ne (by decide)),h.bo.drop (fun _=>offT_0) (fun _=>offT_ne (by decide)),h.ro.drop (fun _=>offT_0) (fun _=>offT_ne (by decide)),h.lo.drop fun _=>offT_0,h.sto.drop (fun _=>offT_0) (fun _=>offT_ne (by decide)),fun b hb=>h.bd b (offT_nz hb)⟩
def DeedD (so sw:Sl) (out:List Mg) (writes:List Op) (w:World):Prop:=RdE mgR w so out∧(∀ x∈out,MgD x w)∧RdE opR w sw writes
theorem give_D {w:World} {T:Nat→Nat} {X:Co} (h:Rest w T X):Imm (offT 7 (offT 6 T)) (DeedD X.sout X.swr X.out X.writes) w:=by
 have h6:Imm (offT 7 (offT 6 T)) (fun w=>SlE mgR w X.sout X.out) w:=h.ou.give (fun b hb=>offT_0 (offT_0 hb)) (fun b hb=>offT_0 (offT_k hb))
 have h7:Imm (offT 7 (offT 6 T)) (fun w=>SlE opR w X.swr X.writes) w:=h.wr.give (fun b hb=>offT_0 (offT_0 hb)) (fun b hb=>offT_k (offT_ne (by decide) hb))
 refine ⟨⟨h6.ok.rde,fun x hx=>(h.ouD x hx).ok,h7.ok.rde⟩,fun w' hs hw=>⟨(h6.st w' hs hw).rde,fun x hx=>((h.ouD x hx).drop fun b hb=>offT_0 (offT_0 hb)).st w' hs hw,(h7.st w' hs hw).rde⟩⟩
theorem empty_k {w:World} {m:Nat} {T:Nat→Nat} {X:Mc} (h:MAt w m T X) {K:Pr}
  (k:∀ w',MAt w' m (offT 7 (offT 6 T)) { X with c:={ X.c with lasts:=false },d:={ X.d with sout:=⟨none,0,0⟩,out:=[],swr:=⟨none,0,0⟩,writes:=[] } }→Imm (offT 7 (offT 6 T)) (DeedD X.d.sout X.d.swr X.d.out X.d.writes) w'→Evo T (offT 7 (offT 6 T)) w w'→K w') :
  (St ⟨m,21,none⟩ (.slice none 0 0) <| St ⟨m,22,none⟩ (.slice none 0 0) <| St ⟨m,23,none⟩ (.bool false) K) w:=by
 have hI:=give_D h.r
 have t1:offT 7 (offT 6 T) m=1:=offT_ne (by decide) (offT_ne (by decide) h.t1)
 have r0:=h.r.give6.give7
 refine set_box h.hd 21 _ rfl (by simp [mcC]) fun w1 h1 k1=>?_
 refine set_box h1 22 _ rfl (by simp [mcC]) fun w2 h2 k2=>?_
 refine set_box h2 23 _ rfl (by simp [mcC]) fun w3 h3 k3=>?_
 have kk:Keeps [m] w w3:=(k1.trans k2 (fun _ hx=>.inl hx)).trans k3 (fun _ hx=>.inl hx)
 have s:Stp 1 (offT 7 (offT 6 T)) (offT 7 (offT 6 T)) w w3:=⟨kk.toP fun b hb=>.inl (by simp at hb;rw [hb];exact t1),fun _ _ _=>rfl⟩
 have e:Evo T (offT 7 (offT 6 T)) w w3:=((Evo.off (by decide)).trans (Evo.off (by decide))).trans (s.evo (by decide))
 refine k w3 ⟨?_,t1,r0.k1 s⟩ (hI.evo (s.evo (by decide))) e
 rw [h3]
 simp [mcC]
def own11 (c:Nat) (T:Nat→Nat):Nat→Nat:=fun b=>if b=c then 11 else T b
theorem Rest.kx {w w':World} {T T':Nat→Nat} {X:Co} (h:Rest w T X) (s:Stp 11 T T' w w') (hb:∀ b,T' b ≠ 0→b < w'.heap.size):Rest w' T' X:=
 ⟨h.ow.kt (by decide) s,h.he.kt (by decide) (by decide) s,fun x hx=>(h.heD x hx).kt (by decide) s,h.fi.kt (by decide) (by decide) s,h.wa.kt (by decide) (by decide) s,fun x hx=>(h.waD x hx).kt (by decide) s,h.ta.kt (by decide) (by decide) s,h.ou.kt (by decide) (by decide) s,fun x hx=>(h.ouD x hx).kt (by decide) s,h.wr.kt (by decide) (by decide) s,h.li.kt (by decide) (by decide) s,h.bo.kt (by decide) (by decide) s,h.ro.kt (by decide) (by decide) s,h.lo.kt (by decide) s,h.sto.kt (by decide) (by decide) s,hb⟩
theorem MAt.own {w w':World} {m:Nat} {T:Nat→Nat} {X:Mc} (h:MAt w m T X) (k:Keeps [] w w') {c:Nat} (hc:w.heap.size≤c) (hc':c < w'.heap.size):MAt w' m (own11 c T) X∧Stp 11 T (own11 c T) w w'∧Evo T (own11 c T) w w':=by
 have tg:∀ b,b < w.heap.size→own11 c T b=T b:=fun b hb=>if_neg (by omega)
 have s:Stp 11 T (own11 c T) w w':=⟨k.toP (by simp),fun b hb _=>tg b hb⟩
 refine ⟨⟨k.at0 h.hd,(tg m h.lt).trans h.t1,h.r.kx s fun b hb=>?_⟩,s,⟨k.toP (by simp),fun b hb _=>tg b hb⟩⟩
 unfold own11 at hb
 split at hb
 ·rename_i e;rw [e];exact hc'
 ·exact Nat.lt_of_lt_of_le (h.r.bd b hb) k.size
theorem MAt.put11 {w w':World} {m:Nat} {T:Nat→Nat} {X:Mc} (h:MAt w m T X) {c:Nat} (hc:T c=11) (k:Keeps [c] w w'):MAt w' m T X∧Stp 11 T T w w':=by
 have s:Stp 11 T T w w':=⟨k.toP fun b hb=>.inl (by simp at hb;rw [hb];exact hc),fun _ _ _=>rfl⟩
 refine ⟨⟨k.at1 h.hd (fun e=>by have:=h.t1;rw [e,hc] at this;cases this),h.t1,h.r.kx s fun b hb=>Nat.lt_of_lt_of_le (h.r.bd b hb) k.size⟩,s⟩
theorem evo_out {T T':Nat→Nat} {w w' w'':World} {l:List Nat} (h:Evo T T' w w') (k:Keeps l w' w'') (hl:∀ x∈l,w.heap.size≤x):Evo T T' w w'':=
 ⟨h.kp.trans (k.toP (F:=fun b=>b∈l) fun b hb=>.inl hb) fun x hx=>.inr (hl x hx),h.tg⟩
namespace PS
def clear (P:PS):PS:={ P with out:=[],writes:=[],c:={ P.c with lasts:=false } }
def lastsB (P Q:PS):Bool:=Decidable.decide (0 < Q.writes.length) || !sameS P.c P.owners P.held P.fin Q.c Q.owners Q.held Q.fin
end PS
theorem POk.clear {P:PS} (h:POk P):POk P.clear:=
 ⟨h.wt,h.hd,h.dj,h.fn,h.tb,h.wv,h.hv,h.mp,h.mn,rfl,by simp [PS.clear],h.er,by have:=h.bd;show 0 + P.left≤20000;omega,h.hn,h.fl⟩
def PN (Q:PS):Prop:=Q.owners.length≤100000∧Q.held.length≤100000∧Q.fin.length≤200000∧∀ x∈Q.held,x.ops.length≤100000
theorem PN.sd {X:Mc} (h:PN X.p):SdN X.sd:=by
 obtain ⟨h1,h2,h3,h4⟩:=h
 rw [show X.p.held=X.d.held.map Hd.p from rfl,List.length_map] at h2
 exact ⟨h1,h2,h3,fun x hx=>h4 x.p (List.mem_map.2 ⟨x,hx,rfl⟩)⟩
theorem sd_p (X:Mc):X.sd.c=X.p.c∧X.sd.owners=X.p.owners∧X.sd.held.map Hd.p=X.p.held∧X.sd.fin=X.p.fin:=⟨rfl,rfl,rfl,rfl⟩
theorem ShR.lasts {c:Sc} {o:List Ow} {h:List PH} {f:List Int} (hr:ShR c o h f) (b:Bool):ShR { c with lasts:=b } o h f:=⟨⟨hr.c.boot,hr.c.ver,hr.c.epoch,hr.c.move,hr.c.low,hr.c.frozen,hr.c.imove,hr.c.iatt,hr.c.inext⟩,hr.txn,hr.fin⟩
set_option maxHeartbeats 4000000 in
theorem mdo_k {w:World} {m:Nat} {T:Nat→Nat} {X:Mc} (h:MAt w m T X) (hN:SdN X.sd) (hr:ShR X.p.c X.p.owners X.p.held X.p.fin) {f:Value} {Q:PS}
  (hQ:Q.c.e=0) (hrQ:ShR Q.c Q.owners Q.held Q.fin) (hNQ:PN Q)
  (hf:∀ (w1:World) (T1:Nat→Nat) (X1:Mc),MAt w1 m T1 X1→X1.p=X.p.clear→Fix2 X X1→Evo T T1 w w1→∀ K:TR []→Pr,(∀ X2 T2 w2,MAt w2 m T2 X2→X2.p=Q→Fix2 X1 X2→Evo T1 T2 w1 w2→K () w2)→CallV Pg f [] true [] K w1)
  {K:TR [.ag [.sl,.sl,.b],.sc (.i .i64)]→Pr}
  (k:∀ so sw out writes X2 T2 w2,MAt w2 m T2 X2→X2.p=Q.clear→out.map Mg.p=Q.out→writes=Q.writes→Imm T2 (DeedD so sw out writes) w2→Fix2 X X2→Evo T T2 w w2→K ((so,sw,X.p.lastsB Q,()),0,()) w2) :
  Cl Pg i_part_Machine_do [.pointer (some ⟨m,0,none⟩),f] true [.ag [.sl,.sl,.b],.sc (.i .i64)] K w:=by
 refine part_Machine_do_call _ _ ?_
 unfold part_Machine_do
 refine New_bx fun a w1 h1 n1 k1=>?_
 obtain ⟨g1,s1,e1⟩:=h.own k1 n1 (hp_lt h1)
 generalize hT:own11 a T=T1 at *
 have Ta:T1 a=11:=by rw [← hT];exact if_pos rfl
 simp only [sb,g1.hd,mcC]
 refine copied_k (d:=X.sd) g1.shd hN fun d w2 hd2 k2=>?_
 have g2:=g1.keeps0 k2
 have h2:=k2.at0 h1
 refine New_bx fun b w3 h3 n3 k3=>?_
 have g3:=g2.keeps0 k3
 have Tb:T1 b=0:=g2.new n3
 refine putSh h3 rfl d fun w4 h4 k4=>?_
 have k34:Keeps [] w2 w4:=kp1 k3 k4 n3
 have g4:=g2.keeps0 k34
 have a4:=k34.at0 h2
 have k04:=kp0 (kp0 k1 k2) k34
 have z1:=k1.size
 have imD:Imm T1 (ShD d) w4:=by
  have q:=hd2
  have fr:∀ y,w1.heap.size≤y→T1 y=0:=fun y hy=>g1.new hy
  have ow:=(q.ow.keeps k34 (by simp)).rde
  have he:=(q.he.keeps k34 (by simp)).rde
  have hh:=fun x hx=>((q.hd x hx).keeps k34 (by simp)).rde
  have fi:=(q.fi.keeps k34 (by simp)).rde
  have rbk:∀ {α:Type} {ρ:Rec α} {s:Sl} {l:List α} (hs:SlE ρ w2 s l) (hf:∀ y∈blk s,w1.heap.size≤y),∀ y∈rb s,T1 y=0:=fun hs hf y hy=>fr y (hf y (hs.rb y hy))
  exact ⟨⟨ow,he,hh,fi⟩,fun w' hs hw=>⟨(Imm.of ow (rbk q.ow q.fow)).st w' hs hw,(Imm.of he (rbk q.he q.fhe)).st w' hs hw,fun x hx=>(Imm.of (hh x hx) (rbk (q.hd x hx) (q.fhd x hx))).st w' hs hw,(Imm.of fi (rbk q.fi q.ffi)).st w' hs hw⟩⟩
 have dN:SdN d:=by
  refine ⟨by rw [hd2.owners];exact hN.1,?_,by rw [hd2.fin];exact hN.2.2.1,fun x hx=>?_⟩
  ·have:=congrArg List.length hd2.held
   simp only [List.length_map] at this
   rw [this]
   exact hN.2.1
  ·have hm:x.p∈X.sd.held.map Hd.p:=by rw [← hd2.held];exact List.mem_map.2 ⟨x,hx,rfl⟩
   obtain ⟨z,hz,hzx⟩:=List.mem_map.1 hm
   have e:z.ops=x.ops:=congrArg PH.ops hzx
   rw [← e]
   exact hN.2.2.2 z hz
 have dR:ShR d.c d.owners (d.held.map Hd.p) d.fin:=by rw [hd2.c,hd2.owners,hd2.held,hd2.fin];exact hr
 have eqS:∀ Q':PS,sameS d.c d.owners (d.held.map Hd.p) d.fin Q'.c Q'.owners Q'.held Q'.fin=sameS X.p.c X.p.owners X.p.held X.p.fin Q'.c Q'.owners Q'.held Q'.fin:=fun Q'=>by rw [hd2.c,hd2.owners,hd2.held,hd2.fin];rfl
 simp only [sb]
 refine empty_k g4 fun w5 h5 i5 e5=>?_
 obtain ⟨a5,Ta5⟩:=e5.at11 a4 Ta
 obtain ⟨b5,Tb5⟩:=e5.at h4 Tb
 have D5:=imD.evo e5
 have e05:Evo T _ w w5:=e1.trans ((Evo.k0 (kp0 k2 k34)).trans e5)
 refine hf w5 _ _ h5 rfl ⟨rfl,rfl,rfl⟩ e05 _ ?_
 intro X6 T6 w6 h6 q6 x6 e6
 obtain ⟨a6,Ta6⟩:=e6.at11 a5 Ta5
 obtain ⟨b6,Tb6⟩:=e6.at b5 Tb5
 have D6:=D5.evo e6
 have e06:=e05.trans e6
 have c6:X6.c=Q.c:=by rw [← q6];rfl
 have ee:X6.c.e=0:=by rw [c6];exact hQ
 simp only [sb,h6.hd,mcC,ee,show ((0:Int) != 0)=false from rfl,add00,Nat.reduceAdd]
 refine bx3 rfl rfl rfl rfl fun c w7 h7 n7 k7=>?_
 obtain ⟨g7,s7,e7⟩:=h6.own k7 n7 (hp_lt h7)
 have a7:=k7.at0 a6
 have b7:=k7.at0 b6
 generalize hT7:own11 c T6=T7 at *
 have Tc:T7 c=11:=by rw [← hT7];exact if_pos rfl
 have Ta7:T7 a=11:=by rw [← hT7];unfold own11;split;rfl;exact Ta6
 have Tb7:T7 b=0:=by rw [← hT7];unfold own11;rw [if_neg (by have:=hp_lt b6;omega)];exact Tb6
 simp only [sb]
 refine empty_k g7 fun w8 h8 i8 e8=>?_
 obtain ⟨a8,Ta8⟩:=e8.at11 a7 Ta7
 obtain ⟨b8,Tb8⟩:=e8.at b7 Tb7
 obtain ⟨c8,Tc8⟩:=e8.at11 h7 Tc
 have D8:=(D6.evo e7).evo e8
 have e08:=(e06.trans e7).trans e8
 have hwl:X6.d.writes=Q.writes:=by rw [← q6];rfl
 have hsl:X6.d.swr.len=X6.d.writes.length:=i8.ok.2.2.len
 have hx6:Fix2 X X6:=⟨x6.stb,x6.sM,x6.bx⟩
 have nac:a ≠ c:=by have:=hp_lt a6;omega
 have zc:w.heap.size≤c:=by have:=e06.kp.size;omega
 generalize hT8:offT 7 (offT 6 T7)=T8 at *
 obtain ⟨X8,hX8⟩:∃ X8:Mc,X8={ X6 with c:={ X6.c with lasts:=false },d:={ X6.d with sout:=⟨none,0,0⟩,out:=[],swr:=⟨none,0,0⟩,writes:=[] } }:=⟨_,rfl⟩
 rw [← hX8] at h8
 have q8:X8.p=Q.clear:=by rw [hX8,← q6];rfl
 have x8:Fix2 X X8:=by rw [hX8];exact ⟨x6.stb,x6.sM,x6.bx⟩
 have hout:X6.d.out.map Mg.p=Q.out:=by rw [← q6];rfl
 clear hf h6 x6 e6 q6 g7 h5
 refine Jp_of (fun _ w9=>MAt w9 m T8 X8∧Imm T8 (DeedD X6.d.sout X6.d.swr X6.d.out X6.d.writes) w9∧Keeps [c] w8 w9∧w9.heap[c]?=some (.cells #[.slice X6.d.sout.p X6.d.sout.len X6.d.sout.cap,.slice X6.d.swr.p X6.d.swr.len X6.d.swr.cap,.bool (X.p.lastsB Q)] 52 (0,0))) (fun J hJ=>?_) ?_
 ·simp only [sb,c8]
  have hbm:∀ (w9:World) (bv:Bool),Keeps [] w8 w9→X.p.lastsB Q=bv→St ⟨c,2,none⟩ (.bool bv) (J ()) w9:=by
   intro w9 bv k9 hbv
   refine set_box (k9.at0 c8) 2 _ rfl (by simp) fun w10 c10 k10=>?_
   simp only [sxl] at c10
   obtain ⟨h10,s10⟩:=(h8.keeps0 k9).put11 Tc8 k10
   refine hJ () w10 ⟨h10,(i8.keeps0 k9).kt (by decide) s10,(k9.mono (by simp)).trans k10 (fun _ hx=>.inl hx),?_⟩
   rw [hbv]
   exact c10
  unfold PS.lastsB at hbm
  by_cases hw0:0 < Q.writes.length
  ·rw [show decide (((X6.d.swr.len:Nat):Int) > 0)=true from decide_eq_true (by rw [hsl,hwl];omega)]
   simp only [sb]
   refine hbm _ true (drewK w8) ?_
   rw [decide_eq_true hw0,Bool.true_or]
  ·rw [show decide (((X6.d.swr.len:Nat):Int) > 0)=false from decide_eq_false (by rw [hsl,hwl];omega)]
   simp only [sb,b8,h8.hd,mcC]
   have g8:=h8.keeps0 (drewK w8)
   refine same_k (d:=d) (e:=X8.sd) (D8.ok.keeps0 (drewK w8)) dN dR g8.shd ?_ ?_ fun w9 k9=>?_
   ·refine PN.sd ?_
    rw [q8]
    exact hNQ
   ·obtain ⟨p1,p2,p3,p4⟩:=sd_p X8
    rw [p1,p2,p3,p4,q8]
    exact hrQ.lasts false
   ·refine hbm w9 _ (kp0 (drewK w8) k9) ?_
    rw [decide_eq_false hw0,Bool.false_or]
    show _=!(sameS d.c d.owners (d.held.map Hd.p) d.fin X8.p.c X8.p.owners X8.p.held X8.p.fin)
    rw [eqS X8.p,q8]
    rfl
 ·rintro _ w9 ⟨h9,i9,k9,c9⟩
  have a9:=k9.at1 a8 nac
  simp only [sb,c9]
  refine put3 a9 rfl rfl rfl fun w10 a10 k10=>?_
  obtain ⟨h10,s10⟩:=h9.put11 Ta8 k10
  simp only [sb,a10]
  refine k _ _ X6.d.out X6.d.writes X8 T8 w10 h10 q8 hout hwl (i9.kt (by decide) s10) x8 ?_
  exact evo_out (evo_out e08 k9 (by simp;exact zc)) k10 (by simp;exact n1)
end Go.Proofs.YthkdehgfdllpoaaGreat
set_option linter.unusedVariables false
set_option linter.unusedSimpArgs false
namespace Go.Proofs.YthkdehgfdllpoaaGreat
open Go Go.Sx
structure PSub (P Q:PS):Prop where
 c:Q.c=P.c
 owners:Q.owners=P.owners
 fin:Q.fin=P.fin
 M:Q.M=P.M
 writes:Q.writes=P.writes
 box:Q.box=P.box
 held:∀ y∈Q.held,y∈P.held∨∃ x∈P.wait,y=⟨x.txn,x.ops⟩
 wait:∀ y∈Q.wait,∃ x∈P.wait,y.txn=x.txn∧y.ops=x.ops∧y.locks=x.locks
 len:Q.held.length + Q.wait.length≤P.held.length + P.wait.length
theorem PSub.refl (P:PS):PSub P P:=⟨rfl,rfl,rfl,rfl,rfl,rfl,fun _ h=>.inl h,fun y h=>⟨y,h,rfl,rfl,rfl⟩,Nat.le_refl _⟩
theorem PSub.trans {P Q R:PS} (h:PSub P Q) (k:PSub Q R):PSub P R:=by
 refine ⟨k.c.trans h.c,k.owners.trans h.owners,k.fin.trans h.fin,k.M.trans h.M,k.writes.trans h.writes,k.box.trans h.box,fun y hy=>?_,fun y hy=>?_,Nat.le_trans k.len h.len⟩
 ·rcases k.held y hy with h1 | ⟨x,hx,rfl⟩
  ·exact h.held y h1
  ·obtain ⟨z,hz,e1,e2,_⟩:=h.wait x hx
   exact .inr ⟨z,hz,by rw [e1,e2]⟩
 ·obtain ⟨x,hx,e1,e2,e3⟩:=k.wait y hy
  obtain ⟨z,hz,f1,f2,f3⟩:=h.wait x hx
  exact ⟨z,hz,e1.trans f1,e2.trans f2,e3.trans f3⟩
theorem psub_vote (P:PS) (t c:Int) (rs:List Rp):PSub P (P.vote t c rs):=⟨rfl,rfl,rfl,rfl,rfl,rfl,fun _ h=>.inl h,fun y h=>⟨y,h,rfl,rfl,rfl⟩,Nat.le_refl _⟩
theorem psub_rel (P:PS) (t:Int):PSub P (P.release t):=⟨rfl,rfl,rfl,rfl,rfl,rfl,fun _ h=>.inl h,fun y h=>⟨y,h,rfl,rfl,rfl⟩,Nat.le_refl _⟩
theorem psub_line (P:PS) (l:List Ev):PSub P { P with line:=l }:=⟨rfl,rfl,rfl,rfl,rfl,rfl,fun _ h=>.inl h,fun y h=>⟨y,h,rfl,rfl,rfl⟩,Nat.le_refl _⟩
theorem psub_unwait (P:PS) (i:Nat):PSub P (P.unwait i):=
 ⟨rfl,rfl,rfl,rfl,rfl,rfl,fun _ h=>.inl h,fun y h=>⟨y,(take_drop_sub P.wait i).subset h,rfl,rfl,rfl⟩,Nat.add_le_add_left (take_drop_sub P.wait i).length_le _⟩
theorem mem_ins {α:Type} {l:List α} {i:Nat} {x y:α} (h:y∈l.take i ++ x :: l.drop i):y=x∨y∈l:=by
 rcases List.mem_append.1 h with h | h
 ·exact .inr (List.mem_of_mem_take h)
 ·rcases List.mem_cons.1 h with h | h
  ·exact .inl h
  ·exact .inr (List.mem_of_mem_drop h)
theorem len_ins {α:Type} (l:List α) (i:Nat) (x:α):(l.take i ++ x :: l.drop i).length=l.length + 1:=by
 rw [List.length_append,List.length_cons,List.length_take,List.length_drop]
 omega
theorem psub_hold {P:PS} {i:Nat} {x:PW} (hx:P.wait[i]?=some x):PSub P ((P.unwait i).hold x.txn x.ops):=by
 have hlt:=(List.getElem?_eq_some_iff.1 hx).1
 refine ⟨rfl,rfl,rfl,rfl,rfl,rfl,fun y h=>?_,fun y h=>⟨y,(take_drop_sub P.wait i).subset h,rfl,rfl,rfl⟩,?_⟩
 ·rcases mem_ins h with rfl | h
  ·exact .inr ⟨x,List.mem_of_getElem? hx,rfl⟩
  ·exact .inl h
 ·show (P.held.take _ ++ _ :: P.held.drop _).length + (P.wait.take i ++ P.wait.drop (i + 1)).length≤_
  rw [len_ins]
  have:=len_erase P.wait i hlt
  omega
theorem psub_ask {P:PS} {i:Nat} {x:PW} (hx:P.wait[i]?=some x) (lk:Lk):PSub P (P.ask1 i x lk):=by
 refine ⟨rfl,rfl,rfl,rfl,rfl,rfl,fun _ h=>.inl h,fun y h=>?_,?_⟩
 ·rcases List.mem_or_eq_of_mem_set h with h | rfl
  ·exact ⟨y,h,rfl,rfl,rfl⟩
  ·exact ⟨x,List.mem_of_getElem? hx,rfl,rfl,rfl⟩
 ·show P.held.length + (P.wait.set i _).length≤_
  rw [List.length_set]
  exact Nat.le_refl _
theorem psub_goes:∀ (f:Nat) {P:PS} {t:Int},POk P→PSub P (P.goes f t)
 | 0,P,t,_=>PSub.refl P
 | f + 1,P,t,h=>by
  unfold PS.goes
  split
  ·exact PSub.refl P
  ·rename_i hw
   have hw:P.wis t=true:=by simpa using hw
   obtain ⟨x,hx,ht⟩:=wis_at h hw
   rw [hx]
   dsimp only
   subst ht
   split
   ·exact (psub_hold hx).trans (psub_vote _ _ _ _)
   ·split
    ·exact PSub.refl P
    ·rename_i lk hlk
     obtain ⟨h1,_⟩:=h.ask1 hx hlk
     split
     ·exact psub_ask hx lk
     ·split
      ·exact (((psub_ask hx lk).trans (psub_unwait _ _)).trans (psub_vote _ _ _ _)).trans (psub_rel _ _)
      ·exact (psub_ask hx lk).trans (psub_goes f h1)
theorem psub_event {P:PS} (h:POk P) (ev:Ev):PSub P (P.event ev):=by
 unfold PS.event
 split
 ·exact psub_goes 30 h
 ·split
  ·exact (psub_unwait _ _).trans (psub_vote _ _ _ _)
  ·exact PSub.refl P
theorem psub_through:∀ (f:Nat) {P:PS},POk P→PSub P (P.through f)
 | 0,P,_=>PSub.refl P
 | f + 1,P,h=>by
  cases hl:P.line with
  | nil=>
   unfold PS.through
   rw [hl]
   exact PSub.refl P
  | cons ev l=>
   rw [through_cons hl]
   obtain ⟨h1,_⟩:=h.pop hl
   exact ((psub_line P l).trans (psub_event h1 ev)).trans (psub_through f (h1.event ev).1)
structure PRg (P:PS):Prop where
 c:ScR P.c
 held:∀ h∈P.held,okN h.txn
 wait:∀ h∈P.wait,okN h.txn
 fin:∀ n∈P.fin,okN n
theorem PRg.sub {P Q:PS} (h:PRg P) (s:PSub P Q):PRg Q:=by
 refine ⟨by rw [s.c];exact h.c,fun y hy=>?_,fun y hy=>?_,by rw [s.fin];exact h.fin⟩
 ·rcases s.held y hy with h1 | ⟨x,hx,rfl⟩
  ·exact h.held y h1
  ·exact h.wait x hx
 ·obtain ⟨x,hx,e,_⟩:=s.wait y hy
  rw [e]
  exact h.wait x hx
theorem PRg.shr {P:PS} (h:PRg P):ShR P.c P.owners P.held P.fin:=⟨h.c,h.held,h.fin⟩
structure PCt (P:PS):Prop where
 hw:P.held.length + P.wait.length≤6
 all:P.held.length + P.wait.length + P.fin.length≤64
 ow:P.owners.length≤6
theorem PCt.sub {P Q:PS} (h:PCt P) (s:PSub P Q):PCt Q:=⟨Nat.le_trans s.len h.hw,by rw [s.fin];have:=s.len;have:=h.all;omega,by rw [s.owners];exact h.ow⟩
theorem PN_of {P:PS} (h:POk P) (c:PCt P):PN P:=⟨Nat.le_trans c.ow (by omega),by have:=c.hw;omega,by have:=c.all;omega,fun x hx=>Nat.le_trans (h.hv x hx).2 (by omega)⟩
structure PJ (P:PS):Prop where
 ok:POk P
 rg:PRg P
 ct:PCt P
 line:P.line=[]
theorem PJ.left {P:PS} (h:PJ P):P.left≤600:=by
 have h1:∀ l:List PW,(∀ x∈l,x.locks.length≤24)→(l.map PS.rem1).sum≤l.length * 24:=by
  intro l
  induction l with
  | nil=>intro _;simp
  | cons a l ih=>
   intro hl
   simp only [List.map_cons,List.sum_cons,List.length_cons]
   have:=ih fun x hx=>hl x (List.mem_cons_of_mem _ hx)
   have:=hl a List.mem_cons_self
   have:PS.rem1 a≤a.locks.length:=Nat.sub_le _ _
   omega
 have h2:=h1 P.wait fun x hx=>by
  obtain ⟨_,v2,v3,_⟩:=h.ok.wv x hx
  rw [v3,List.length_map]
  exact v2
 have hf:=h.ok.tb.few
 have hc:=h.ct.hw
 unfold PS.left
 rw [h.line]
 simp only [List.length_nil]
 omega
end Go.Proofs.YthkdehgfdllpoaaGreat
set_option linter.unusedVariables false
set_option linter.unusedSimpArgs false
namespace Go.Proofs.YthkdehgfdllpoaaGreat
open Go Go.Sx
theorem PJ.clear {P:PS} (h:PJ P):PJ P.clear:=⟨h.ok.clear,⟨⟨h.rg.c.boot,h.rg.c.ver,h.rg.c.epoch,h.rg.c.move,h.rg.c.low,h.rg.c.frozen,h.rg.c.imove,h.rg.c.iatt,h.rg.c.inext⟩,h.rg.held,h.rg.wait,h.rg.fin⟩,⟨h.ct.hw,h.ct.all,h.ct.ow⟩,h.line⟩
theorem PJ.vote {P:PS} (h:PJ P) (t c:Int) (rs:List Rp) (hb:P.out.length + 1 + P.left≤20000):PJ (P.vote t c rs):=⟨h.ok.vote t c rs hb,h.rg.sub (psub_vote _ _ _ _),h.ct.sub (psub_vote _ _ _ _),h.line⟩
theorem PJ.lowUp {P:PS} (h:PJ P) {low:Int} (hl:okN low):PJ (P.lowUp low):=by
 refine ⟨h.ok.lowUp low,?_,?_,?_⟩
 ·unfold PS.lowUp
  split
  ·exact ⟨⟨h.rg.c.boot,h.rg.c.ver,h.rg.c.epoch,h.rg.c.move,hl,h.rg.c.frozen,h.rg.c.imove,h.rg.c.iatt,h.rg.c.inext⟩,h.rg.held,h.rg.wait,fun n hn=>h.rg.fin n (List.mem_filter.1 hn).1⟩
  ·exact h.rg
 ·unfold PS.lowUp
  split
  ·refine ⟨h.ct.hw,?_,h.ct.ow⟩
   have:=List.length_filter_le (fun n=>!(decide (n < low))) P.fin
   have:=h.ct.all
   show P.held.length + P.wait.length + (P.fin.filter _).length≤64
   omega
  ·exact h.ct
 ·unfold PS.lowUp
  split <;> exact h.line
theorem PJ.works {P:PS} (h:PJ P) {t epoch:Int} (ht:okN t) {ops:List Op} (ho:opsE ops=0) (hl:ops.length≤24) (hb:P.out.length + P.left + 60≤20000):PJ (P.works t epoch ops):=by
 unfold PS.works
 cases hg:P.gone t with
 | true=>rw [if_pos rfl];exact h
 | false=>
  rw [if_neg (by simp)]
  cases hh:P.his t with
  | true=>
   rw [if_pos rfl]
   split
   ·exact h
   ·exact h.vote _ _ _ (by omega)
  | false=>
   rw [if_neg (by simp)]
   cases hr:P.refuses epoch ops with
   | true=>rw [if_pos rfl];exact h.vote _ _ _ (by omega)
   | false=>
    rw [if_neg (by simp)]
    have hwis:P.wis t=false:=by unfold PS.gone at hg;simp only [Bool.or_eq_false_iff] at hg;exact hg.2
    have hful:P.full=false:=by unfold PS.refuses at hr;simp only [Bool.or_eq_false_iff] at hr;exact hr.2.1
    have hc:P.held.length + P.wait.length < 6∧P.held.length + P.wait.length + P.fin.length < 64:=by unfold PS.full at hful;simp only [Bool.or_eq_false_iff,decide_eq_false_iff_not] at hful;omega
    obtain ⟨h1,b1⟩:=h.ok.await ho hl (wis_not h.ok hwis) (his_not h.ok hh) (by omega) hb
    have hlen:(P.await t ops).wait.length=P.wait.length + 1:=len_ins _ _ _
    have r1:PRg (P.await t ops):=⟨h.rg.c,h.rg.held,fun y hy=>by
     rcases mem_ins hy with rfl | hy
     ·exact ht
     ·exact h.rg.wait y hy,h.rg.fin⟩
    have c1:PCt (P.await t ops):=⟨by show P.held.length + _≤6;rw [hlen];omega,by show P.held.length + _ + P.fin.length≤64;rw [hlen];omega,h.ct.ow⟩
    obtain ⟨h2,b2⟩:=h1.goes 30 (t:=t)
    obtain ⟨h3,b3⟩:=h2.through fuelT
    have s:=(psub_goes 30 (t:=t) h1).trans (psub_through fuelT h2)
    exact ⟨h3,r1.sub s,c1.sub s,through_end _ h2 (by have:=h2.bd;unfold fuelT;omega)⟩
theorem PJ.work {P:PS} (h:PJ P) {t low epoch:Int} (ht:okN t) (hlo:okN low) {ops:List Op} (ho:opsE ops=0) (hl:ops.length≤24) (hb:P.out.length + P.left + 60≤20000):PJ (P.work t low epoch ops):=
 (h.lowUp hlo).works ht ho hl (by rw [lowUp_out,lowUp_left];exact hb)
theorem PJ.finish {P:PS} (h:POk P) (r:PRg P) (c:PCt P) {t:Int} (ht:okN t) (hl:P.held.length + P.wait.length + P.fin.length < 64):PJ (P.finish t):=by
 obtain ⟨h1,b1,l1⟩:=h.fine t (by omega)
 have r1:PRg (P.fine t):=by
  unfold PS.fine
  split
  ·exact ⟨r.c,r.held,r.wait,fun n hn=>by rcases mem_ins hn with rfl | hn;exact ht;exact r.fin n hn⟩
  ·exact r
 have hw:(P.fine t).held=P.held∧(P.fine t).wait=P.wait∧(P.fine t).owners=P.owners:=by unfold PS.fine;split <;> exact ⟨rfl,rfl,rfl⟩
 have c1:PCt (P.fine t):=by
  obtain ⟨e1,e2,e3⟩:=hw
  exact ⟨by rw [e1,e2];exact c.hw,by rw [e1,e2];omega,by rw [e3];exact c.ow⟩
 obtain ⟨h2,b2⟩:=h1.release t
 obtain ⟨h3,b3⟩:=h2.through fuelT
 have s:=(psub_rel (P.fine t) t).trans (psub_through fuelT h2)
 exact ⟨h3,r1.sub s,c1.sub s,through_end _ h2 (by have:=h2.bd;unfold fuelT;omega)⟩
theorem PJ.decide {P:PS} (h:PJ P) {t:Int} (ht:okN t) (flag:Bool) (hb:P.out.length + 1 + P.left≤20000) (hw:P.writes.length≤900):PJ (P.decide t flag):=by
 have ha:POk (P.ack t):=h.ok.ack t hb
 unfold PS.decide
 cases hh:P.his t with
 | true=>
  rw [if_pos rfl]
  obtain ⟨x,hx,hxt⟩:=his_at h.ok hh
  rw [hx]
  dsimp only
  have hlt:=(List.getElem?_eq_some_iff.1 hx).1
  obtain ⟨v1,v2⟩:=h.ok.hv x (List.mem_of_getElem? hx)
  have hwl:=wrs_le flag x.ops
  have hu:POk ((P.ack t).unhold (P.hat t)):=ha.unhold _
  have hwa:POk (((P.ack t).unhold (P.hat t)).writeAll (PS.wrs flag x.ops)):=hu.writeAll (wrs_ok v1) (by show P.writes.length + _≤1000;omega)
  have hlen:=len_erase P.held (P.hat t) hlt
  have hsub:=take_drop_sub P.held (P.hat t)
  have e:=writeAll_same (PS.wrs flag x.ops) ((P.ack t).unhold (P.hat t))
  have eh:(((P.ack t).unhold (P.hat t)).writeAll (PS.wrs flag x.ops)).held=P.held.take (P.hat t) ++ P.held.drop (P.hat t + 1):=by rw [e];rfl
  have ew:(((P.ack t).unhold (P.hat t)).writeAll (PS.wrs flag x.ops)).wait=P.wait:=by rw [e];rfl
  have ef:(((P.ack t).unhold (P.hat t)).writeAll (PS.wrs flag x.ops)).fin=P.fin:=by rw [e];rfl
  have ec:(((P.ack t).unhold (P.hat t)).writeAll (PS.wrs flag x.ops)).c=P.c:=by rw [e];rfl
  have eo:(((P.ack t).unhold (P.hat t)).writeAll (PS.wrs flag x.ops)).owners=P.owners:=by rw [e];rfl
  have c1:=h.ct.hw
  have c2:=h.ct.all
  refine PJ.finish hwa ⟨by rw [ec];exact h.rg.c,fun y hy=>h.rg.held y (hsub.subset (by rw [← eh];exact hy)),by rw [ew];exact h.rg.wait,by rw [ef];exact h.rg.fin⟩ ⟨by rw [eh,ew];omega,by rw [eh,ew,ef];omega,by rw [eo];exact h.ct.ow⟩ ht (by rw [eh,ew,ef];omega)
 | false=>
  rw [if_neg (by simp)]
  cases hwi:P.wis t with
  | true=>
   rw [if_pos rfl]
   obtain ⟨x,hx,hxt⟩:=wis_at h.ok hwi
   have hlt:=(List.getElem?_eq_some_iff.1 hx).1
   obtain ⟨hu,_⟩:=ha.unwait (i:=P.wat t) hx
   have hlen:((P.ack t).unwait (P.wat t)).wait.length + 1=P.wait.length:=len_erase P.wait (P.wat t) hlt
   have hsub:=take_drop_sub P.wait (P.wat t)
   have c1:=h.ct.hw
   have c2:=h.ct.all
   have eh:((P.ack t).unwait (P.wat t)).held=P.held:=rfl
   have ef:((P.ack t).unwait (P.wat t)).fin=P.fin:=rfl
   exact PJ.finish hu ⟨h.rg.c,h.rg.held,fun y hy=>h.rg.wait y (hsub.subset hy),h.rg.fin⟩ ⟨by rw [eh];omega,by rw [eh,ef];omega,h.ct.ow⟩ ht (by rw [eh,ef];omega)
  | false=>
   rw [if_neg (by simp)]
   exact ⟨ha,⟨h.rg.c,h.rg.held,h.rg.wait,h.rg.fin⟩,⟨h.ct.hw,h.ct.all,h.ct.ow⟩,h.line⟩
end Go.Proofs.YthkdehgfdllpoaaGreat
set_option linter.unusedVariables false
set_option linter.unusedSimpArgs false
namespace Go.Proofs.YthkdehgfdllpoaaGreat
open Go Go.Sx
def zOfP:List (Int × (PM→Bool)):=[(113,fun x=>x.req == 0),(98,fun x=>x.boot == 0),(116,fun x=>x.txn == 0),(108,fun x=>x.low == 0),(118,fun x=>x.ver == 0),(101,fun x=>x.epoch == 0),(109,fun x=>x.move == 0),(97,fun x=>x.attempt == 0),(110,fun x=>x.n == 0),(99,fun x=>x.code == 0),(112,fun x=>x.peer == 0),(102,fun x=>!x.flag),(114,fun x=>seq x.rlo (BA []) && (seq x.rhi (BA []) && true)),(111,fun x=>((x.ops.length:Nat):Int) == 0),(115,fun x=>((x.results.length:Nat):Int) == 0),(119,fun x=>((x.owners.length:Nat):Int) == 0)]
def zallP (l:List Int) (x:PM):Bool:=zOfP.all fun p=>l.contains p.1 || p.2 x
def headP (fr to:Int→Bool) (gd:Bool) (x:PM):Bool:=fr x.src && (to x.dst && (x.client == 0 && gd))
def pmOk (x:PM):Bool:=
 if x.kind=3 then headP coordB shardB (decide (0 < x.ops.length) && (decide (x.ops.length≤24) && decide (opsE x.ops=0))) x && zallP [116,108,101,111] x
 else if x.kind=5 then headP coordB shardB true x && zallP [116,102] x
 else if x.kind=6 then headP shardB coordB true x && zallP [116] x
 else false
theorem zall_p {x:Mg} (h1:x.so.len=x.ops.length) (h2:x.sr.len=x.results.length) (h3:x.sw.len=x.owners.length) (l:List Int):zall l x=zallP l x.p:=by
 have e1:x.p.ops.length=x.so.len:=by rw [h1];rfl
 have e2:x.p.results.length=x.sr.len:=by rw [h2];exact List.length_map _
 have e3:x.p.owners.length=x.sw.len:=by rw [h3];rfl
 unfold zall zallP zOfP
 rw [show (zOf.map Prod.fst)=[113,98,116,108,118,101,109,97,110,99,112,102,114,111,115,119] from rfl]
 simp only [List.all_cons,List.all_nil,e1,e2,e3]
 rfl
theorem msgOk_p {x:Mg} {w:World} (h:MgD x w):msgOk x=pmOk x.p:=by
 have z:=zall_p (x:=x) h.1.len h.2.1.1.len h.2.2.len
 unfold msgOk pmOk
 rw [z,z,z]
 rfl
def isDeed (k:Int):Bool:=k == 3 || (k == 5 || (k == 8 || (k == 10 || (k == 11 || k == 12))))
namespace PS
def bad (P:PS) (x:PM):Bool:=!pmOk x || (x.dst != P.c.id || !isDeed x.kind)
def taken (P:PS) (x:PM):PS:=if x.kind=3 then P.clear.work x.txn x.low x.epoch x.ops else P.clear.decide x.txn x.flag
end PS
theorem PJ.taken {P:PS} (h:PJ P) {x:PM} (ht:okN x.txn) (hl:okN x.low) (hb:P.bad x=false) (hk:x.kind=3∨x.kind=5∨x.kind=6):PJ (P.taken x):=by
 have hc:=h.clear
 have hleft:=hc.left
 have ho:P.clear.out.length=0:=rfl
 unfold PS.taken
 by_cases h3:x.kind=3
 ·rw [if_pos h3]
  unfold PS.bad at hb
  simp only [Bool.or_eq_false_iff,Bool.not_eq_false'] at hb
  have hm:=hb.1
  unfold pmOk headP at hm
  rw [if_pos h3] at hm
  simp only [Bool.and_eq_true,decide_eq_true_iff] at hm
  exact hc.work ht hl hm.1.2.2.2.2.2 hm.1.2.2.2.2.1 (by omega)
 ·rw [if_neg h3]
  exact hc.decide ht x.flag (by omega) (by show 0≤900;omega)
abbrev deedsL:List (Int × Value):=[(3,fn0 73),(5,fn0 74),(8,fn0 75),(10,fn0 76),(11,fn0 77),(12,fn0 78)]
theorem deeds_k {w:World} {K:TR [.sc .m]→Pr} (k:∀ m w',MpR w' m (ekI .i64) deedsL→w.heap.size≤m→Keeps [] w w'→K (some m,()) w'):Cl Pg i_part_deeds [] false [.sc .m] K w:=by
 refine part_deeds_call ?_
 unfold part_deeds
 refine NewMap_k (ek:=ekI .i64) fun m w1 h1 n1 k1=>?_
 refine mset_k h1 3 _ rfl fun w2 h2 k2=>?_
 have k2:=kp1 k1 k2 n1
 refine mset_k h2 5 _ rfl fun w3 h3 k3=>?_
 have k3:=kp1 k2 k3 n1
 refine mset_k h3 8 _ rfl fun w4 h4 k4=>?_
 have k4:=kp1 k3 k4 n1
 refine mset_k h4 10 _ rfl fun w5 h5 k5=>?_
 have k5:=kp1 k4 k5 n1
 refine mset_k h5 11 _ rfl fun w6 h6 k6=>?_
 have k6:=kp1 k5 k6 n1
 refine mset_k h6 12 _ rfl fun w7 h7 k7=>?_
 exact k m w7 h7 n1 (kp1 k6 k7 n1)
def dV (k:Int):Value:=(aget k deedsL).getD Value.nilFunc
theorem deeds_look {w:World} {m:Nat} (h:MpR w m (ekI .i64) deedsL) (x:Int) {K:Value→Bool→Pr} (k:K (dV x) (isDeed x) w):LkK .v Value.nilFunc (.int .i64) (some m) (.int .i64 x) K w:=by
 have hi:isDeed x=(aget x deedsL).isSome:=by
  unfold isDeed deedsL
  simp only [aget]
  by_cases h1:x=3
  ·simp [h1]
  ·by_cases h2:x=5
   ·simp [h2]
   ·by_cases h3:x=8
    ·simp [h3]
    ·by_cases h4:x=10
     ·simp [h4]
     ·by_cases h5:x=11
      ·simp [h5]
      ·by_cases h6:x=12
       ·simp [h6]
       ·simp [h1,h2,h3,h4,h5,h6]
 unfold dV at k
 rw [hi] at k
 cases hg:aget x deedsL with
 | none=>rw [hg] at k;exact LkK_none (kd:=.v) (keyOk_int .i64) h hg k
 | some v=>rw [hg] at k;exact LkK_some (kd:=.v) (x:=v) (keyOk_int .i64) h hg k
theorem dV_one (x:Int):(dV x).oneCell'=true:=by
 unfold dV
 cases hg:aget x deedsL with
 | none=>rfl
 | some v=>
  have:=aget_mem hg
  unfold deedsL at this
  simp only [List.mem_cons,Prod.mk.injEq,List.not_mem_nil,or_false] at this
  rcases this with h | h | h | h | h | h <;> (rw [h.2];rfl)
end Go.Proofs.YthkdehgfdllpoaaGreat
