/- The parts of the proof, 6: words of the program, and what they do. Conditions: none. -/
import Derived.Test.YthkdehgfdllpoaaGreatPk5
set_option maxRecDepth 100000
set_option linter.unusedVariables false
set_option linter.unusedSimpArgs false
namespace Go.Proofs.YthkdehgfdllpoaaGreat
open Go Go.Sx
theorem take1_k {w:World} {m:Nat} {T:Nat→Nat} {X:Mc} (h:MAt w m T X) (hJ:PJ X.p) (ho:X.p.out=[]) (hwr:X.p.writes=[]) (hR:RowLe X.p 90000) (x:Mg) (hx:Imm T (MgD x) w) (hk:x.kind=3∨x.kind=5) (h3:x.kind=3→opsE x.ops=0∧x.ops.length≤24)
  {c a b:Nat} (hc:w.heap[c]?=some (.cells #[dV x.kind] 102 (0,0))) (ha:w.heap[a]?=some (.cells #[.pointer (some ⟨m,0,none⟩)] 28 (0,0))) (hb:w.heap[b]?=some (.cells (mgL x) 47 (0,0))) {K:TR []→Pr}
  (k:∀ X' T' w',MAt w' m T' X'→X'.p=(if x.kind=3 then X.p.work x.txn x.low x.epoch x.ops else X.p.decide x.txn x.flag)→Fix2 X X'→Evo T T' w w'→K () w') :
  CallV Pg (.func (.func 33) #[] #[.pointer (some ⟨c,0,none⟩),.pointer (some ⟨a,0,none⟩),.pointer (some ⟨b,0,none⟩)]) [] true [] K w:=by
 refine CallV_fns (cs:=[.pointer (some ⟨c,0,none⟩),.pointer (some ⟨a,0,none⟩),.pointer (some ⟨b,0,none⟩)]) (by kernel_rfl) ?_
 refine part_Machine_Take_1_call _ _ _ ?_
 unfold part_Machine_Take_1
 simp only [sb,hc,ha,hb]
 have hl:=hJ.left
 have ol:X.p.out.length=0:=by rw [ho];rfl
 rcases hk with hk | hk
 ·rw [if_pos hk] at k
  rw [show dV x.kind=fn0 i_part_Machine_work from by rw [hk];rfl]
  refine CallV_fn0 (by kernel_rfl) ?_
  exact work_k h hJ.ok (by omega) (by have:=hJ.ct.ow;exact Nat.le_trans this (by omega)) x hx (h3 hk).1 (h3 hk).2 k
 ·rw [if_neg (by omega)] at k
  rw [show dV x.kind=fn0 i_part_Machine_decide from by rw [hk];rfl]
  refine CallV_fn0 (by kernel_rfl) ?_
  refine decide_k h hJ.ok (by omega) (by have:=hJ.ct.all;have e:X.p.fin.length=X.d.fin.length:=rfl;omega) (by have e:X.p.writes.length=X.d.writes.length:=rfl;rw [← e,hwr];simp) hR x k
set_option maxHeartbeats 4000000 in
theorem Take_k {w:World} {m:Nat} {T:Nat→Nat} {X:Mc} (h:MAt w m T X) (hJ:PJ X.p) (hR:RowLe X.p 90000) (x:Mg) (hx:Imm T (MgD x) w) (hk:x.kind=3∨x.kind=5∨x.kind=6) (ht:okN x.txn) (hlo:okN x.low) {K:TR [.ag [.sl,.sl,.b],.sc (.i .i64)]→Pr}
  (k1:X.p.bad x.p=true→∀ T' w',MAt w' m T' X→Evo T T' w w'→K ((⟨none,0,0⟩,⟨none,0,0⟩,false,()),180,()) w')
  (k2:X.p.bad x.p=false→∀ so sw out writes X2 T2 w2,MAt w2 m T2 X2→X2.p=(X.p.taken x.p).clear→out.map Mg.p=(X.p.taken x.p).out→writes=(X.p.taken x.p).writes→Imm T2 (DeedD so sw out writes) w2→Fix2 X X2→Evo T T2 w w2→K ((so,sw,X.p.lastsB (X.p.taken x.p),()),0,()) w2) :
  Cl Pg i_part_Machine_Take [.pointer (some ⟨m,0,none⟩),.agg (mgL x)] true [.ag [.sl,.sl,.b],.sc (.i .i64)] K w:=by
 refine part_Machine_Take_call _ _ _ _ _ _ _ _ _ _ _ _ _ _ _ _ _ _ _ x.so x.sr x.sw ?_
 unfold part_Machine_Take
 refine New_bx fun a w1 h1 n1 q1=>?_
 refine New_bx fun b w2 h2 n2 q2=>?_
 refine New_bx fun e w3 h3 n3 q3=>?_
 have q02:=kp0 q1 q2
 have g2:=h.keeps0 q02
 have a2:=q2.at0 h1
 have Ta2:T a=0:=h.new n1
 have Tb2:T b=0:=(h.keeps0 q1).new n2
 obtain ⟨g3,s3,e3⟩:=g2.own q3 n3 (hp_lt h3)
 obtain ⟨a3,Ta3⟩:=e3.at a2 Ta2
 obtain ⟨b3,Tb3⟩:=e3.at h2 Tb2
 have ev3:Evo T (own11 e T) w w3:=(Evo.k0 q02).trans e3
 have x3:=hx.evo ev3
 generalize hT3:own11 e T=T3 at *
 have Te:T3 e=11:=by rw [← hT3];exact if_pos rfl
 have hm:=msgOk_p x3.ok
 refine Jp_of (fun s w4=>∃ c,s=(some ⟨c,0,none⟩,isDeed x.kind,())∧Keeps [] w3 w4∧w4.heap[c]?=some (.cells #[dV x.kind] 102 (0,0))∧w3.heap.size≤c) (fun J hJ4=>?_) ?_
 ·simp only [sb,b3]
  have b3d:w3.drew.heap[b]?=_:=b3
  have zd:w3.drew.heap.size=w3.heap.size:=rfl
  refine ⟨?_,?_⟩
  ·refine deeds_k fun mm w4 h4 n4 q4=>?_
   have b4:=q4.at0 b3d
   simp only [sb,b4]
   refine ⟨by trivial,?_⟩
   refine deeds_look h4 x.kind ?_
   refine ⟨rfl,?_⟩
   refine New_bx fun c w5 h5 n5 q5=>?_
   have b5:=q5.at0 b4
   have h45:=h4.keepsL q5 (by simp)
   simp only [sb,b5]
   refine ⟨deeds_look h45 x.kind rfl,by trivial,?_⟩
   refine set_box h5 0 _ (dV_one _) (by simp) fun w6 h6 q6=>?_
   simp only [sxl] at h6
   exact hJ4 _ w6 ⟨c,rfl,kp1 (kp0 (kp0 (drewK w3) q4) q5) q6 (by have:=q4.size;omega),h6,by have:=q4.size;omega⟩
  ·refine ⟨rfl,?_⟩
   refine New_bx fun c w4 h4 n4 q4=>?_
   have b4:=q4.at0 b3d
   simp only [sb,b4]
   refine ⟨by trivial,?_⟩
   refine deeds_k fun mm w5 h5 n5 q5=>?_
   have b5:=q5.at0 b4
   simp only [sb,b5]
   refine ⟨by trivial,?_⟩
   refine deeds_look h5 x.kind ?_
   refine set_box (q5.at0 h4) 0 _ (dV_one _) (by simp) fun w6 h6 q6=>?_
   simp only [sxl] at h6
   exact hJ4 _ w6 ⟨c,rfl,kp1 (kp0 (kp0 (drewK w3) q4) q5) q6 (by omega),h6,by omega⟩
 ·rintro _ w4 ⟨c,rfl,q4,hc4,nc4⟩
  have g4:=g3.keeps0 q4
  have a4:=q4.at0 a3
  have b4:=q4.at0 b3
  have d4:=q4.at0 h3
  have x4:=x3.keeps0 q4
  have Tc:T3 c=0:=g3.new nc4
  refine Jp_b (X.p.bad x.p) (fun J hJ6=>?_) fun w5 q5=>?_
  ·unfold PS.bad at hJ6
   simp only [sb,b4]
   refine Check3_k (x:=x) (x4.ok.1.keeps0 (drewK w4)) hk fun w5 q5=>?_
   have g5:=(g4.keeps0 (drewK w4)).keeps0 q5
   have a5:=q5.at0 (show w4.drew.heap[a]?=_ from a4)
   have b5:=q5.at0 (show w4.drew.heap[b]?=_ from b4)
   have q45:=kp0 (drewK w4) q5
   rw [hm]
   cases c1:pmOk x.p with
   | false=>rw [c1] at hJ6;exact hJ6 w5 q45
   | true=>
    rw [c1,Bool.not_true,Bool.false_or] at hJ6
    simp only [if_true,show ((0:Int) != 0)=false from rfl,sb,a5,b5,g5.hd,mcC]
    rw [show (x.p.dst != X.p.c.id)=(x.dst != X.c.id) from rfl,show isDeed x.p.kind=isDeed x.kind from rfl] at hJ6
    cases c2:(x.dst != X.c.id) with
    | true=>rw [c2] at hJ6;exact hJ6 w5 q45
    | false=>
     rw [c2,Bool.false_or] at hJ6
     exact hJ6 w5 q45
  ·have g5:=g4.keeps0 q5
   have a5:=q5.at0 a4
   have b5:=q5.at0 b4
   have c5:=q5.at0 hc4
   have d5:=q5.at0 d4
   have x5:=x4.keeps0 q5
   have ev5:Evo T T3 w w5:=ev3.trans (Evo.k0 (kp0 q4 q5))
   have ze:w.heap.size≤e:=by have:=q02.size;omega
   cases hbad:X.p.bad x.p with
   | true=>
    simp only [Br_true]
    refine put3 d5 rfl rfl rfl fun w6 h6 q6=>?_
    obtain ⟨g6,_⟩:=g5.put11 Te q6
    simp only [sb,h6]
    exact k1 hbad T3 w6 g6 (evo_out ev5 q6 (by simp;exact ze))
   | false=>
    have hQ:=hJ.taken ht hlo hbad hk
    have hk':x.kind=3∨x.kind=5:=by
     unfold PS.bad at hbad
     simp only [Bool.or_eq_false_iff,Bool.not_eq_false'] at hbad
     have hd:=hbad.2.2
     rcases hk with h | h | h
     ·exact .inl h
     ·exact .inr h
     ·rw [show x.p.kind=6 from h] at hd;simp [isDeed] at hd
    have hops:x.kind=3→opsE x.ops=0∧x.ops.length≤24:=by
     intro h3
     unfold PS.bad at hbad
     simp only [Bool.or_eq_false_iff,Bool.not_eq_false'] at hbad
     have hm:=hbad.1
     unfold pmOk headP at hm
     rw [if_pos (show x.p.kind=3 from h3)] at hm
     simp only [Bool.and_eq_true,decide_eq_true_iff] at hm
     exact ⟨hm.1.2.2.2.2.2,hm.1.2.2.2.2.1⟩
    simp only [sb,a5]
    refine mdo_k (Q:=X.p.taken x.p) g5 (PN_of hJ.ok hJ.ct).sd hJ.rg.shr hQ.ok.er hQ.rg.shr (PN_of hQ.ok hQ.ct) ?_ ?_
    ·intro w6 T6 X6 h6 q6 x6 e6 K1 hK1
     obtain ⟨a6,Ta6⟩:=e6.at a5 Ta3
     obtain ⟨b6,Tb6⟩:=e6.at b5 Tb3
     obtain ⟨c6,Tc6⟩:=e6.at c5 Tc
     have hJ6:PJ X6.p:=by rw [q6];exact hJ.clear
     refine take1_k h6 hJ6 (by rw [q6];rfl) (by rw [q6];rfl) (by rw [q6];exact hR) x (x5.evo e6) hk' hops c6 a6 b6 ?_
     intro X7 T7 w7 h7 q7 x7 e7
     refine hK1 X7 T7 w7 h7 ?_ x7 e7
     rw [q7,q6]
     rfl
    ·intro so sw out writes X7 T7 w7 h7 q7 ho hw i7 x7 e7
     obtain ⟨d7,Td7⟩:=e7.at11 d5 Te
     refine put3 d7 rfl rfl rfl fun w8 h8 q8=>?_
     obtain ⟨g8,s8⟩:=h7.put11 Td7 q8
     simp only [sb,h8]
     exact k2 hbad so sw out writes X7 T7 w8 g8 q7 ho hw (i7.kt (by decide) s8) x7 (evo_out (ev5.trans e7) q8 (by simp;exact ze))
end Go.Proofs.YthkdehgfdllpoaaGreat
set_option linter.unusedVariables false
set_option linter.unusedSimpArgs false
namespace Go.Proofs.YthkdehgfdllpoaaGreat
open Go Go.Sx
theorem MAt.st {w w':World} {m:Nat} {T:Nat→Nat} {X:Mc} (h:MAt w m T X) (k:Keeps [X.d.stb] w w') {sM:Sl} {M:List Pa} (hs:w'.heap[X.d.stb]?=some (.cells #[.slice sM.p sM.len sM.cap] 27 (0,0))) (hM:RdE paR w' sM M) (h0:∀ b∈rb sM,T b=0):MAt w' m T { X with d:={ X.d with sM:=sM,M:=M } }:=by
 have ht:=(h.r.sto.tag X.d.stb rfl).2
 have s:Stp 12 T T w w':=⟨k.toP fun b hb=>.inl (by simp at hb;rw [hb];exact ht),fun _ _ _=>rfl⟩
 have q:=h.r
 refine ⟨k.at1 h.hd (fun e=>by have:=h.t1;rw [e,ht] at this;cases this),h.t1,q.ow.kt (by decide) s,q.he.kt (by decide) (by decide) s,fun x hx=>(q.heD x hx).kt (by decide) s,q.fi.kt (by decide) (by decide) s,q.wa.kt (by decide) (by decide) s,fun x hx=>(q.waD x hx).kt (by decide) s,q.ta.kt (by decide) (by decide) s,q.ou.kt (by decide) (by decide) s,fun x hx=>(q.ouD x hx).kt (by decide) s,q.wr.kt (by decide) (by decide) s,q.li.kt (by decide) (by decide) s,q.bo.kt (by decide) (by decide) s,q.ro.kt (by decide) (by decide) s,q.lo.kt (by decide) s,⟨⟨hs,hM⟩,fun w2 _ hw=>⟨(hw _ (hp_lt hs) (.inl ht)).trans hs,hM.heap fun b hb=>hw b (hM.lt b hb) (.inr (h0 b hb))⟩,fun b hb=>by subst hb;exact ⟨hp_lt hs,ht⟩⟩,fun b hb=>Nat.lt_of_lt_of_le (q.bd b hb) k.size⟩
open Classical in
noncomputable def newT (m stb:Nat) (sh sf:Sl) (H:Nat→Prop):Nat→Nat:=fun b=>if b=m then 1 else if b=stb then 12 else if b∈blk sh then 2 else if b∈blk sf then 3 else if H b then 5 else 0
def bx0:Bx:=⟨0,0,BA [],BA [],0,false,false,false,⟨none,0,0⟩,⟨none,0,0⟩,BA [],[],[]⟩
set_option maxHeartbeats 4000000 in
theorem New0_k {w:World} {d:Sd} (h:ShD d w) (hN:SdN d) (hok:shOk d.c d.owners (d.held.map Hd.p) d.fin=true) (h0:d.held=[]) (hb:0≤d.c.boot∧d.c.boot + 1 < 18446744073709551616) {stb:Nat} {sM:Sl} {M:List Pa}
  (hs:w.heap[stb]?=some (.cells #[.slice sM.p sM.len sM.cap] 27 (0,0))) (hM:RdE paR w sM M) (hn:stb ∉ rb sM) {K:TR [.sc .p,.sc (.i .i64)]→Pr}
  (k:∀ m T X w',MAt w' m T X→X.p=⟨{ d.c with boot:=d.c.boot + 1,lasts:=false,e:=0 },d.owners,[],d.fin,[],⟨[],[]⟩,[],[],[],none,M⟩→X.d.stb=stb→X.d.sM=sM→(∀ b,T b ≠ 0→b=stb∨w.heap.size≤b)→Keeps [] w w'→K (some ⟨m,0,none⟩,0,()) w') :
  Cl Pg i_part_New [.agg (shA d),stV stb] true [.sc .p,.sc (.i .i64)] K w:=by
 refine part_New_call _ _ _ _ _ d.so d.sh d.sf _ _ _ _ _ _ _ _ _ _ ?_
 unfold part_New
 refine New_bx fun a w1 h1 n1 k1=>?_
 simp only [sb,h1]
 refine CheckShard_k (d:=d) (h.keeps0 k1) hN fun w2 k2=>?_
 rw [hok]
 have h2:=k2.at0 h1
 simp only [if_true,show ((0:Int) != 0)=false from rfl,Br_false]
 refine ⟨false,rfl,?_⟩
 simp only [sb,h2]
 have k02:=kp0 k1 k2
 refine copied_k (d:=d) (h.keeps0 k02) hN fun d' w3 hd k3=>?_
 have k03:=kp0 k02 k3
 refine Cl.mono (New_ok w3) ?_
 rintro ⟨r,_⟩ w4 ⟨t,H,hr,hT,hH,k4⟩
 dsimp only at hr
 subst hr
 have k04:=kp0 k03 k4
 refine ⟨rfl,?_⟩
 refine New_bx fun m w5 h5 n5 k5=>?_
 have k05:=kp0 k04 k5
 have hw:IntKind.u64.wrap (d'.c.boot + 1)=d.c.boot + 1:=by
  rw [hd.c]
  have:=wrap_u64_nat (n:=(d.c.boot + 1).toNat) (by omega)
  rw [Int.toNat_of_nonneg (by omega)] at this
  exact this
 simp only [sb,h5,add00,Nat.reduceAdd]
 refine set_box h5 1 _ rfl (by simp) fun w6 h6 k6=>?_
 simp only [sxl] at h6
 have nm:w.heap.size≤m:=by have:=k04.size;omega
 have k06:=kp1 k05 k6 nm
 have hheld:d'.held=[]:=by
  have:=hd.held
  rw [h0,List.map_nil,List.map_eq_nil_iff] at this
  exact this
 have hshl:d'.sh.len=0:=by have:=hd.he.len';rw [hheld] at this;exact this
 simp only [sb,h6]
 refine ⟨fun n st w'=>st=(none,0,0,())∧w6=w',⟨0,rfl,rfl⟩,?_⟩
 rintro n _ w7 ⟨rfl,rfl⟩
 dsimp only
 rw [decide_eq_false (by rw [hshl];omega)]
 simp only [Br_false]
 have s2:=k02.size
 have s3:=k3.size
 have s4:=k4.size
 have s5:=k5.size
 have s6:=k6.size
 have hlt:=hp_lt hs
 have z2:∀ {α:Type} {ρ:Rec α} {s:Sl} {l:List α},SlE ρ w3 s l→∀ b∈blk s,b < w3.heap.size:=fun hs b hb=>hs.lt b hb
 have Hlt:∀ b,H b→b < w4.heap.size:=by obtain ⟨sh,sw,q⟩:=hT;exact q.bl
 have k36:Keeps [m] w3 w6:=((kp0 k4 k5).mono (by simp)).trans k6 (fun _ hx=>.inl hx)
 have ow6:=hd.ow.keeps k36 (fun b hb=>by have:=hd.ow.lt b hb;simp;omega)
 have he6:=hd.he.keeps k36 (fun b hb=>by have:=hd.he.lt b hb;simp;omega)
 have fi6:=hd.fi.keeps k36 (fun b hb=>by have:=hd.fi.lt b hb;simp;omega)
 have ta6:TAt w6 t H ⟨[],[]⟩:=hT.heap fun b hb=>by
  have:=Hlt b hb
  exact ((k5.mono (m':=[m]) (by simp)).trans k6 (fun _ hx=>.inl hx)).get b this (by simp;omega)
 have tm:newT m stb d'.sh d'.sf H m=1:=if_pos rfl
 have ts:newT m stb d'.sh d'.sf H stb=12:=by unfold newT;rw [if_neg (by omega),if_pos rfl]
 have th:∀ b∈blk d'.sh,newT m stb d'.sh d'.sf H b=2:=fun b hb=>by
  have l1:=hd.fhe b hb
  have l2:=hd.he.lt b hb
  unfold newT;rw [if_neg (by omega),if_neg (by omega),if_pos hb]
 have tf:∀ b∈blk d'.sf,newT m stb d'.sh d'.sf H b=3:=fun b hb=>by
  have l1:=hd.ffi b hb
  have l2:=hd.fi.lt b hb
  unfold newT;rw [if_neg (by omega),if_neg (by omega),if_neg (hd.d2 b hb),if_pos hb]
 have tH:∀ b,H b→newT m stb d'.sh d'.sf H b=5:=fun b hb=>by
  have l1:=hH b hb
  have l2:=Hlt b hb
  unfold newT;rw [if_neg (by omega),if_neg (by omega),if_neg (fun h=>by have:=hd.he.lt b h;omega),if_neg (fun h=>by have:=hd.fi.lt b h;omega),if_pos hb]
 have to:∀ b∈blk d'.so,newT m stb d'.sh d'.sf H b=0:=fun b hb=>by
  have l1:=hd.fow b hb
  have l2:=hd.ow.lt b hb
  unfold newT;rw [if_neg (by omega),if_neg (by omega),if_neg (hd.d1 b hb).1,if_neg (hd.d1 b hb).2,if_neg (fun h=>by have:=hH b h;omega)]
 have old:∀ b,b < w.heap.size→b ≠ stb→newT m stb d'.sh d'.sf H b=0:=fun b hb hne=>by
  unfold newT;rw [if_neg (by omega),if_neg hne,if_neg (fun h=>by have:=hd.fhe b h;omega),if_neg (fun h=>by have:=hd.ffi b h;omega),if_neg (fun h=>by have:=hH b h;omega)]
 have tn:∀ b,newT m stb d'.sh d'.sf H b ≠ 0→(b=stb∨w.heap.size≤b)∧b < w6.heap.size:=fun b hb=>by
  unfold newT at hb
  split at hb
  ·rename_i e;subst e;exact ⟨.inr nm,hp_lt h6⟩
  ·split at hb
   ·rename_i e;subst e;exact ⟨.inl rfl,by omega⟩
   ·split at hb
    ·rename_i e;have:=hd.fhe b e;have:=hd.he.lt b e;exact ⟨.inr (by omega),by omega⟩
    ·split at hb
     ·rename_i e;have:=hd.ffi b e;have:=hd.fi.lt b e;exact ⟨.inr (by omega),by omega⟩
     ·split at hb
      ·rename_i e;have:=hH b e;have:=Hlt b e;exact ⟨.inr (by omega),by omega⟩
      ·exact absurd rfl hb
 have hs6:=k06.at0 hs
 have hM6:=hM.keeps0 k06
 generalize hTT:newT m stb d'.sh d'.sf H=T at *
 refine k m T ⟨{ d.c with boot:=d.c.boot + 1,lasts:=false,e:=0 },⟨d'.so,d'.sh,d'.sf,⟨none,0,0⟩,t,none,stb,⟨none,0,0⟩,⟨none,0,0⟩,⟨none,0,0⟩,d.owners,[],d.fin,[],⟨[],[]⟩,H,[],[],[],bx0,sM,M⟩⟩ w6 ⟨?_,tm,?_⟩ rfl rfl rfl (fun b hb=>(tn b hb).1) k06
 ·rw [h6,hw,hd.c]
  rfl
 ·rw [hd.owners] at ow6
  rw [hd.fin] at fi6
  rw [hheld] at he6
  refine ⟨Imm.of ow6.rde fun b hb=>to b (ow6.rb b hb),.of he6 th,by simp,.of fi6 tf,nilC,by simp,⟨ta6,fun w2 _ hw=>ta6.heap fun b hb=>hw b (by have:=Hlt b hb;omega) (.inl (tH b hb)),fun b hb=>⟨by have:=Hlt b hb;omega,tH b hb⟩⟩,nilC,by simp,nilC,nilC,⟨fun b hb=>(by cases hb),fun w2 _ _ b hb=>(by cases hb),fun b hb=>(by cases hb)⟩,nilC,Imm.triv fun w=>RdE.nil w,⟨⟨hs6,hM6⟩,fun w2 _ hw=>⟨(hw _ (hp_lt hs6) (.inl ts)).trans hs6,hM6.heap fun b hb=>hw b (hM6.lt b hb) (.inr (old b (hM.lt b hb) (fun e=>hn (e ▸ hb))))⟩,fun b hb=>by subst hb;exact ⟨hp_lt hs6,ts⟩⟩,fun b hb=>(tn b hb).2⟩
end Go.Proofs.YthkdehgfdllpoaaGreat
set_option linter.unusedVariables false
set_option linter.unusedSimpArgs false
namespace Go.Proofs.YthkdehgfdllpoaaGreat
open Go Go.Sx
def c0:Sc:=⟨1,0,0,1,0,0,0,BA [],BA [],0,0,0,BA [],BA [],false,0⟩
def own0:List Ow:=[⟨BA [],1⟩,⟨BA [109],2⟩]
def P0 (M:List Pa):PS:=⟨{ c0 with boot:=c0.boot + 1,lasts:=false,e:=0 },own0,[],[],[],⟨[],[]⟩,[],[],[],none,M⟩
def wk (t:Int) (o:Op):PM:=⟨3,0,1,0,0,0,0,0,t,0,0,1,0,0,0,false,BA [],BA [],[o],[],[]⟩
def oPut (k v:List UInt8):Op:=⟨2,BA k,BA v,BA [],BA [],0⟩
def oGet (k:List UInt8):Op:=⟨1,BA k,BA [],BA [],BA [],0⟩
def dc5:PM:=⟨5,0,1,0,0,0,0,0,5,0,0,0,0,0,0,true,BA [],BA [],[],[],[]⟩
def ak1:PM:=⟨6,1,0,0,0,0,0,0,0,0,0,0,0,0,0,false,BA [],BA [],[],[],[]⟩
def L1:PS:=((P0 []).taken (wk 5 (oPut [97] [120])))
def L2:PS:=(L1.clear.taken (wk 6 (oGet [97])))
def L3:PS:=(L2.clear.taken (wk 4 (oGet [97])))
def L4:PS:=(L3.clear.taken dc5)
def L5:PS:=(L4.clear.taken (wk 7 (oPut [122] [])))
theorem t0:shOk c0 own0 [] []=true:=by kernel_rfl
theorem t1:(P0 []).bad (wk 5 (oPut [97] [120]))=false:=by kernel_rfl
theorem t1o:L1.out.map (fun x=>x.code)=[3]:=by kernel_rfl
theorem t1l:(P0 []).lastsB L1=true:=by kernel_rfl
theorem t2:L1.clear.bad (wk 6 (oGet [97]))=false:=by kernel_rfl
theorem t2o:L2.out.map (fun x=>x.code)=[5]:=by kernel_rfl
theorem t3:L2.clear.bad (wk 4 (oGet [97]))=false:=by kernel_rfl
theorem t3o:L3.out.map (fun x=>x.code)=[]:=by kernel_rfl
theorem t3w:L3.clear.wait.map (fun x=>x.txn)=[4]:=by kernel_rfl
theorem t4:L3.clear.bad dc5=false:=by kernel_rfl
theorem t4w:L4.writes.length=1:=by kernel_rfl
theorem t4o:L4.out.map (fun x=>(x.kind,x.txn,x.results.map fun r=>r.value))=[(6,5,[]),(4,4,[BA [120]])]:=by kernel_rfl
theorem t5:L4.clear.bad (wk 7 (oPut [122] []))=false:=by kernel_rfl
theorem t5o:L5.out.map (fun x=>x.code)=[4]:=by kernel_rfl
theorem t6:L5.clear.bad ak1=true:=by kernel_rfl
theorem t7:L5.clear.held.length=1:=by kernel_rfl
theorem t7b:L5.clear.c.boot=1:=by kernel_rfl
theorem b1:L1.clear.box=none:=by kernel_rfl
theorem b2:L2.clear.box=none:=by kernel_rfl
theorem b3:L3.clear.box=none:=by kernel_rfl
theorem b4:L4.clear.box=none:=by kernel_rfl
theorem b5:L5.clear.box=none:=by kernel_rfl
theorem rowle0 {P:PS} (h:P.box=none) {n:Nat}:RowLe P n:=fun b hb=>by rw [h] at hb;cases hb
theorem PJ0 {M:List Pa} (hM:MapOk M) (hN:M.length≤200000):PJ (P0 M):=by
 have z:okN 0:=⟨by decide,by decide⟩
 have o:okN 1:=⟨by decide,by decide⟩
 exact ⟨⟨List.Pairwise.nil,List.Pairwise.nil,by simp [P0],List.Pairwise.nil,⟨List.Pairwise.nil,by simp [P0]⟩,by simp [P0],by simp [P0],hM,hN,rfl,by simp [P0],rfl,by simp [P0,PS.left],by simp [P0],by simp [P0]⟩,⟨⟨o,z,o,z,z,z,z,z,z⟩,by simp [P0],by simp [P0],by simp [P0]⟩,⟨by simp [P0],by simp [P0],by simp [P0,own0]⟩,rfl⟩
end Go.Proofs.YthkdehgfdllpoaaGreat
set_option linter.unusedVariables false
set_option linter.unusedSimpArgs false
namespace Go.Proofs.YthkdehgfdllpoaaGreat
open Go Go.Sx
abbrev mgK:List Kd:=[.i .i64,.i .i64,.i .i64,.i .i64,.i .i64,.i .i64,.i .u64,.i .u64,.i .u64,.i .u64,.i .u64,.i .u64,.i .u64,.i .u64,.i .u64,.b,.s,.s,.sl,.sl,.sl]
abbrev mgT (x:Mg):Tup mgK:=(x.kind,x.src,x.dst,x.client,x.code,x.peer,x.req,x.boot,x.txn,x.low,x.ver,x.epoch,x.move,x.attempt,x.n,x.flag,x.rlo,x.rhi,x.so,x.sr,x.sw,())
abbrev mgLs (x:Mg):List Value:=[.int .i64 x.kind,.int .i64 x.src,.int .i64 x.dst,.int .i64 x.client,.int .i64 x.code,.int .i64 x.peer,.int .u64 x.req,.int .u64 x.boot,.int .u64 x.txn,.int .u64 x.low,.int .u64 x.ver,.int .u64 x.epoch,.int .u64 x.move,.int .u64 x.attempt,.int .u64 x.n,.bool x.flag,.string x.rlo,.string x.rhi,.slice x.so.p x.so.len x.so.cap,.slice x.sr.p x.sr.len x.sr.cap,.slice x.sw.p x.sw.len x.sw.cap]
theorem putMg {w:World} {b:Nat} {cs:Array Value} {t:TypeId} (h:w.heap[b]?=some (.cells cs t (0,0))) (hs:cs.size=21) (x:Mg) {K:Pr} (k:∀ w',w'.heap[b]?=some (.cells (mgL x) t (0,0))→Keeps [b] w w'→K w') :
  (St (Addr.add ⟨b,0,none⟩ 0) (.int .i64 x.kind) <| St (Addr.add ⟨b,0,none⟩ 1) (.int .i64 x.src) <| St (Addr.add ⟨b,0,none⟩ 2) (.int .i64 x.dst) <| St (Addr.add ⟨b,0,none⟩ 3) (.int .i64 x.client) <| St (Addr.add ⟨b,0,none⟩ 4) (.int .i64 x.code) <| St (Addr.add ⟨b,0,none⟩ 5) (.int .i64 x.peer) <| St (Addr.add ⟨b,0,none⟩ 6) (.int .u64 x.req) <| St (Addr.add ⟨b,0,none⟩ 7) (.int .u64 x.boot) <| St (Addr.add ⟨b,0,none⟩ 8) (.int .u64 x.txn) <| St (Addr.add ⟨b,0,none⟩ 9) (.int .u64 x.low) <| St (Addr.add ⟨b,0,none⟩ 10) (.int .u64 x.ver) <| St (Addr.add ⟨b,0,none⟩ 11) (.int .u64 x.epoch) <| St (Addr.add ⟨b,0,none⟩ 12) (.int .u64 x.move) <| St (Addr.add ⟨b,0,none⟩ 13) (.int .u64 x.attempt) <| St (Addr.add ⟨b,0,none⟩ 14) (.int .u64 x.n) <| St (Addr.add ⟨b,0,none⟩ 15) (.bool x.flag) <| St (Addr.add ⟨b,0,none⟩ 16) (.string x.rlo) <| St (Addr.add ⟨b,0,none⟩ 17) (.string x.rhi) <| St (Addr.add ⟨b,0,none⟩ 18) (.slice x.so.p x.so.len x.so.cap) <| St (Addr.add ⟨b,0,none⟩ 19) (.slice x.sr.p x.sr.len x.sr.cap) <| St (Addr.add ⟨b,0,none⟩ 20) (.slice x.sw.p x.sw.len x.sw.cap) <| K) w:=put_box (vs:=mgLs x) h hs.symm (by simp [Value.oneCell']) k
theorem ldMg {w:World} {b:Nat} {t:TypeId} {x:Mg} (h:w.heap[b]?=some (.cells (mgL x) t (0,0))) {K:Tup mgK→Pr} (k:K (mgT x) w) :
  (LdI .i64 (Addr.add ⟨b,0,none⟩ 0) fun x0=>LdI .i64 (Addr.add ⟨b,0,none⟩ 1) fun x1=>LdI .i64 (Addr.add ⟨b,0,none⟩ 2) fun x2=>LdI .i64 (Addr.add ⟨b,0,none⟩ 3) fun x3=>LdI .i64 (Addr.add ⟨b,0,none⟩ 4) fun x4=>LdI .i64 (Addr.add ⟨b,0,none⟩ 5) fun x5=>LdI .u64 (Addr.add ⟨b,0,none⟩ 6) fun x6=>LdI .u64 (Addr.add ⟨b,0,none⟩ 7) fun x7=>LdI .u64 (Addr.add ⟨b,0,none⟩ 8) fun x8=>LdI .u64 (Addr.add ⟨b,0,none⟩ 9) fun x9=>LdI .u64 (Addr.add ⟨b,0,none⟩ 10) fun x10=>LdI .u64 (Addr.add ⟨b,0,none⟩ 11) fun x11=>LdI .u64 (Addr.add ⟨b,0,none⟩ 12) fun x12=>LdI .u64 (Addr.add ⟨b,0,none⟩ 13) fun x13=>LdI .u64 (Addr.add ⟨b,0,none⟩ 14) fun x14=>LdB (Addr.add ⟨b,0,none⟩ 15) fun x15=>LdS (Addr.add ⟨b,0,none⟩ 16) fun x16=>LdS (Addr.add ⟨b,0,none⟩ 17) fun x17=>LdL (Addr.add ⟨b,0,none⟩ 18) fun x18=>LdL (Addr.add ⟨b,0,none⟩ 19) fun x19=>LdL (Addr.add ⟨b,0,none⟩ 20) fun x20=>K (x0,x1,x2,x3,x4,x5,x6,x7,x8,x9,x10,x11,x12,x13,x14,x15,x16,x17,x18,x19,x20,())) w:=by
 simp only [sb,h]
 exact k
def d0 (a:Nat):Sd:=⟨c0,⟨some ⟨a,0,none⟩,2,2⟩,⟨none,0,0⟩,⟨none,0,0⟩,own0,[],[]⟩
theorem first_k {w:World} {K:TR [.ag shK]→Pr} (k:∀ a w',ShD (d0 a) w'→w.heap.size≤a→Keeps [] w w'→K (shT (d0 a),()) w'):Cl Pg i_sumpterlaw20_first [] false [.ag shK] K w:=by
 refine sumpterlaw20_first_call ?_
 unfold sumpterlaw20_first
 refine New_bx fun b w1 h1 n1 k1=>?_
 refine New_bx fun a w2 h2 n2 k2=>?_
 refine putSh (k2.at0 h1) rfl (d0 a) fun w3 h3 k3=>?_
 refine ldSh (K:=fun y=>K (y,())) h3 ?_
 have ab:a ≠ b:=fun e=>by have:=hp_lt h1;omega
 have h23:=k3.at1 h2 ab
 refine k a w3 ⟨?_,RdE.nil _,by simp [d0],RdE.nil _⟩ (by have:=k1.size;omega) (kp1 (kp0 k1 k2) k3 n1)
 have hs:SlE owR w3 ⟨some ⟨a,0,none⟩,2,2⟩ own0:=⟨rfl,Nat.le_refl _,.inr ⟨a,0,_,_,_,rfl,h23,(show (4:Nat)≤4 from Nat.le_refl _),fun j _=>by rw [Nat.zero_add];show (#[Value.string (BA []),.int .i64 1,.string (BA [109]),.int .i64 2]:Array Value)[j]?=([Value.string (BA []),.int .i64 1,.string (BA [109]),.int .i64 2]:List Value)[j]?;simp,by simp⟩⟩
 exact hs.rde
def wkM (t:Int) (o:Op) (b:Nat):Mg:=⟨3,0,1,0,0,0,0,0,t,0,0,1,0,0,0,false,BA [],BA [],⟨some ⟨b,0,none⟩,1,1⟩,⟨none,0,0⟩,⟨none,0,0⟩,[o],[],[]⟩
theorem lwork_k (t:Int) (o:Op) {w:World} {K:TR [.ag mgK]→Pr} (k:∀ b w',w'.heap[b]?=some (.cells #[.int .i64 o.kind,.string o.key,.string o.value,.string o.lo,.string o.hi,.int .i64 o.most] 81 (0,0))→w.heap.size≤b→Keeps [] w w'→K (mgT (wkM t o b),()) w') :
  Cl Pg i_sumpterlaw20_work [.int .u64 t,.agg #[.int .i64 o.kind,.string o.key,.string o.value,.string o.lo,.string o.hi,.int .i64 o.most]] false [.ag mgK] K w:=by
 refine sumpterlaw20_work_call _ _ _ _ _ _ _ ?_
 unfold sumpterlaw20_work
 refine New_bx fun a w1 h1 n1 k1=>?_
 refine New_bx fun b w2 h2 n2 k2=>?_
 have h12:=k2.at0 h1
 simp only [sb,h12]
 refine New_bx fun c w3 h3 n3 k3=>?_
 refine putMg (k3.at0 h2) rfl (wkM t o c) fun w4 h4 k4=>?_
 refine ldMg (K:=fun y=>K (y,())) h4 ?_
 have cb:c ≠ b:=fun e=>by have:=hp_lt h2;omega
 exact k c w4 (k4.at1 h3 cb) (by have:=k1.size;have:=k2.size;omega) (kp1 (kp0 (kp0 k1 k2) k3) k4 (by have:=k1.size;omega))
theorem wkM_D {t:Int} {o:Op} {b:Nat} {w:World} {T:Nat→Nat} (h:w.heap[b]?=some (.cells #[.int .i64 o.kind,.string o.key,.string o.value,.string o.lo,.string o.hi,.int .i64 o.most] 81 (0,0))) (hT:T b=0):Imm T (MgD (wkM t o b)) w:=by
 have h1:=one_op h
 have hi:Imm T (fun w=>RdE opR w ⟨some ⟨b,0,none⟩,1,1⟩ [o]) w:=Imm.of h1 fun y hy=>by
  rw [rb_pos (by simp)] at hy
  simp [rblk] at hy
  rw [hy]
  exact hT
 exact hi.and (Imm.triv (φ:=fun w=>RsDs ⟨none,0,0⟩ [] w∧RdE owR w ⟨none,0,0⟩ []) fun w=>⟨⟨RdE.nil w,by simp⟩,RdE.nil w⟩)
def dcM:Mg:=⟨5,0,1,0,0,0,0,0,5,0,0,0,0,0,0,true,BA [],BA [],⟨none,0,0⟩,⟨none,0,0⟩,⟨none,0,0⟩,[],[],[]⟩
def akM:Mg:=⟨6,1,0,0,0,0,0,0,0,0,0,0,0,0,0,false,BA [],BA [],⟨none,0,0⟩,⟨none,0,0⟩,⟨none,0,0⟩,[],[],[]⟩
structure DBox (b:Nat) (so sw:Sl) (l:Bool) (T:Nat→Nat) (w:World):Prop where
 h:w.heap[b]?=some (.cells #[.slice so.p so.len so.cap,.slice sw.p sw.len sw.cap,.bool l] 52 (0,0))
 t:T b=0
theorem DBox.evo {b:Nat} {so sw:Sl} {l:Bool} {T T':Nat→Nat} {w w':World} (h:DBox b so sw l T w) (e:Evo T T' w w'):DBox b so sw l T' w':=⟨(e.at h.h h.t).1,(e.at h.h h.t).2⟩
theorem dnew {so sw:Sl} {l:Bool} {w:World} {m:Nat} {T:Nat→Nat} {X:Mc} (g:MAt w m T X) {K:Addr→Pr} (k:∀ b w',DBox b so sw l T w'→MAt w' m T X→Keeps [] w w'→K ⟨b,0,none⟩ w') :
  New #[.slice none 0 0,.slice none 0 0,.bool false] 52 (fun a=>St (a.add 0) (.slice so.p so.len so.cap) <| St (a.add 1) (.slice sw.p sw.len sw.cap) <| St (a.add 2) (.bool l) <| K a) w:=
 bx3 rfl rfl rfl rfl fun b w' h' n' k'=>k b w' ⟨h',g.new n'⟩ (g.keeps0 k') k'
theorem map1 {α β:Type} {f:α→β} {l:List α} {b:β} (h:l.map f=[b]):∃ x,l=[x]∧f x=b:=by
 match l,h with
 | [x],h=>exact ⟨x,rfl,by simpa using h⟩
theorem map2 {α β:Type} {f:α→β} {l:List α} {a b:β} (h:l.map f=[a,b]):∃ x y,l=[x,y]∧f x=a∧f y=b:=by
 match l,h with
 | [x,y],h=>
  simp only [List.map_cons,List.map_nil,List.cons.injEq,and_true] at h
  exact ⟨x,y,rfl,h.1,h.2⟩
set_option maxHeartbeats 8000000 in
theorem live_k {w:World} {K:TR [.sc .b]→Pr} (k:∀ w',Keeps [] w w'→K (true,()) w'):Cl Pg i_sumpterlaw20_live [] false [.sc .b] K w:=by
 refine sumpterlaw20_live_call ?_
 unfold sumpterlaw20_live
 refine first_k fun a w1 h1 n1 k1=>?_
 refine New_bx fun st w2 h2 n2 k2=>?_
 have k02:=kp0 k1 k2
 have nst:w.heap.size≤st:=by have:=k1.size;omega
 refine New0_k (d:=d0 a) (stb:=st) (sM:=⟨none,0,0⟩) (M:=[]) (h1.keeps0 k2) (show SdN (d0 a) from ⟨show (2:Nat)≤100000 by decide,show (0:Nat)≤100000 by decide,show (0:Nat)≤200000 by decide,by simp [d0]⟩) t0 rfl ⟨show (0:Int)≤0 by decide,show (0:Int) + 1 < 18446744073709551616 by decide⟩ h2 (RdE.nil _) (by simp [rb]) ?_
 intro m T X w3 h3 q3 _ _ hT k3
 have q3:X.p=P0 []:=q3
 have kk:∀ (T':Nat→Nat) (w':World),Evo T T' w3 w'→Keeps [] w w':=fun T' w' e=>by
  have:=(kp0 k02 k3).toP0 (F:=fun _=>False) |>.trans e.kp (fun x hx=>.inr (by have:=hT x hx.1;have:=k02.size;omega))
  exact this.toL0
 have J0:PJ (P0 []):=PJ0 ⟨by simp,List.Pairwise.nil⟩ (by simp)
 have oks:∀ n:Int,0≤n∧n < 10→okN n:=fun n hn=>⟨hn.1,by omega⟩
 refine Jp_b false (fun J hJ=>hJ _ (Keeps.refl _ _)) fun w4 k4=>?_
 simp only [Br_false]
 have E0:Evo T T w3 w4:=Evo.k0 k4
 have g0:=h3.keeps0 k4
 have q0:=q3
 obtain ⟨T0,hT0⟩:∃ T0,T0=T:=⟨_,rfl⟩
 rw [← hT0] at g0 E0
 obtain ⟨X0,hX0⟩:∃ X0,X0=X:=⟨_,rfl⟩
 rw [← hX0] at g0 q0
 obtain ⟨v0,hv0⟩:∃ v0,v0=w4:=⟨_,rfl⟩
 rw [← hv0] at g0 E0 ⊢
 refine lwork_k 5 (oPut [97] [120]) fun y1 u1 hb1 nb1 kb1=>?_
 have gg1:=g0.keeps0 kb1
 have EE1:=E0.trans (Evo.k0 kb1)
 refine Take_k gg1 (by rw [q0];exact J0) (by rw [q0];exact rowle0 rfl) (wkM 5 (oPut [97] [120]) y1) (wkM_D (t:=5) hb1 (g0.new nb1)) (.inl rfl) (oks 5 ⟨by decide,by decide⟩) (oks 0 ⟨by decide,by decide⟩) (fun hb=>by rw [q0] at hb;exact absurd (hb.symm.trans t1) (by decide)) ?_
 intro _ so1 sw1 out1 wr1 X1 T1 u'1 h1 q1 ho1 hw1 I1 x1 e1
 rw [q0] at q1 ho1 hw1
 have q1:X1.p=L1.clear:=q1
 have ho1:out1.map Mg.p=L1.out:=ho1
 have hw1:wr1=L1.writes:=hw1
 have J1:PJ L1.clear:=(J0.taken (x:=(wkM 5 (oPut [97] [120]) y1).p) (oks 5 ⟨by decide,by decide⟩) (oks 0 ⟨by decide,by decide⟩) t1 (.inl rfl)).clear
 refine dnew h1 fun d1 v1 D1 g1 k1=>?_
 have E1:=(EE1.trans e1).trans (Evo.k0 k1:Evo T1 T1 _ _)
 have I1:=I1.keeps0 k1
 refine lwork_k 6 (oGet [97]) fun y2 u2 hb2 nb2 kb2=>?_
 have gg2:=g1.keeps0 kb2
 have EE2:=E1.trans (Evo.k0 kb2)
 have D1:=D1.evo (Evo.k0 kb2:Evo T1 T1 _ _)
 have I1:=I1.keeps0 kb2
 refine Take_k gg2 (by rw [q1];exact J1) (by rw [q1];exact rowle0 b1) (wkM 6 (oGet [97]) y2) (wkM_D (t:=6) hb2 (g1.new nb2)) (.inl rfl) (oks 6 ⟨by decide,by decide⟩) (oks 0 ⟨by decide,by decide⟩) (fun hb=>by rw [q1] at hb;exact absurd (hb.symm.trans t2) (by decide)) ?_
 intro _ so2 sw2 out2 wr2 X2 T2 u'2 h2 q2 ho2 hw2 I2 x2 e2
 rw [q1] at q2 ho2 hw2
 have q2:X2.p=L2.clear:=q2
 have ho2:out2.map Mg.p=L2.out:=ho2
 have hw2:wr2=L2.writes:=hw2
 have J2:PJ L2.clear:=(J1.taken (x:=(wkM 6 (oGet [97]) y2).p) (oks 6 ⟨by decide,by decide⟩) (oks 0 ⟨by decide,by decide⟩) t2 (.inl rfl)).clear
 refine dnew h2 fun d2 v2 D2 g2 k2=>?_
 have E2:=(EE2.trans e2).trans (Evo.k0 k2:Evo T2 T2 _ _)
 have I2:=I2.keeps0 k2
 have D1:=(D1.evo e2).evo (Evo.k0 k2:Evo T2 T2 _ _)
 have I1:=(I1.evo e2).keeps0 k2
 refine lwork_k 4 (oGet [97]) fun y3 u3 hb3 nb3 kb3=>?_
 have gg3:=g2.keeps0 kb3
 have EE3:=E2.trans (Evo.k0 kb3)
 have D1:=D1.evo (Evo.k0 kb3:Evo T2 T2 _ _)
 have I1:=I1.keeps0 kb3
 have D2:=D2.evo (Evo.k0 kb3:Evo T2 T2 _ _)
 have I2:=I2.keeps0 kb3
 refine Take_k gg3 (by rw [q2];exact J2) (by rw [q2];exact rowle0 b2) (wkM 4 (oGet [97]) y3) (wkM_D (t:=4) hb3 (g2.new nb3)) (.inl rfl) (oks 4 ⟨by decide,by decide⟩) (oks 0 ⟨by decide,by decide⟩) (fun hb=>by rw [q2] at hb;exact absurd (hb.symm.trans t3) (by decide)) ?_
 intro _ so3 sw3 out3 wr3 X3 T3 u'3 h3 q3 ho3 hw3 I3 x3 e3
 rw [q2] at q3 ho3 hw3
 have q3:X3.p=L3.clear:=q3
 have ho3:out3.map Mg.p=L3.out:=ho3
 have hw3:wr3=L3.writes:=hw3
 have J3:PJ L3.clear:=(J2.taken (x:=(wkM 4 (oGet [97]) y3).p) (oks 4 ⟨by decide,by decide⟩) (oks 0 ⟨by decide,by decide⟩) t3 (.inl rfl)).clear
 refine dnew h3 fun d3 v3 D3 g3 k3=>?_
 have E3:=(EE3.trans e3).trans (Evo.k0 k3:Evo T3 T3 _ _)
 have I3:=I3.keeps0 k3
 have D1:=(D1.evo e3).evo (Evo.k0 k3:Evo T3 T3 _ _)
 have I1:=(I1.evo e3).keeps0 k3
 have D2:=(D2.evo e3).evo (Evo.k0 k3:Evo T3 T3 _ _)
 have I2:=(I2.evo e3).keeps0 k3
 refine Waits_k g3 (by have h:=J3.ct.hw;rw [← q3] at h;have e:X3.p.wait.length=X3.d.wait.length:=List.length_map _;omega) fun rW vW hW fW kW=>?_
 have lW:rW.len=1:=by
  have h1:rW.len=(X3.d.wait.map (·.txn)).length:=hW.len'
  have h2:=t3w
  rw [← q3] at h2
  have h3:=congrArg List.length h2
  have e:X3.p.wait.length=X3.d.wait.length:=List.length_map _
  rw [List.length_map] at h1 h3
  rw [h1,← e,h3]
  rfl
 have g3:=g3.keeps0 kW
 have E3:=E3.trans (Evo.k0 kW)
 have D1:=D1.evo (Evo.k0 kW:Evo T3 T3 _ _)
 have I1:=I1.keeps0 kW
 have D2:=D2.evo (Evo.k0 kW:Evo T3 T3 _ _)
 have I2:=I2.keeps0 kW
 have D3:=D3.evo (Evo.k0 kW:Evo T3 T3 _ _)
 have I3:=I3.keeps0 kW
 have gg4:=g3
 have EE4:=E3
 refine Take_k gg4 (by rw [q3];exact J3) (by rw [q3];exact rowle0 b3) (dcM) (Imm.triv (φ:=MgD _) fun w=>⟨RdE.nil w,⟨RdE.nil w,by simp [dcM,akM]⟩,RdE.nil w⟩) (.inr (.inl rfl)) (oks 5 ⟨by decide,by decide⟩) (oks 0 ⟨by decide,by decide⟩) (fun hb=>by rw [q3] at hb;exact absurd (hb.symm.trans t4) (by decide)) ?_
 intro _ so4 sw4 out4 wr4 X4 T4 u'4 h4 q4 ho4 hw4 I4 x4 e4
 rw [q3] at q4 ho4 hw4
 have q4:X4.p=L4.clear:=q4
 have ho4:out4.map Mg.p=L4.out:=ho4
 have hw4:wr4=L4.writes:=hw4
 have J4:PJ L4.clear:=(J3.taken (x:=(dcM).p) (oks 5 ⟨by decide,by decide⟩) (oks 0 ⟨by decide,by decide⟩) t4 (.inr (.inl rfl))).clear
 refine dnew h4 fun d4 v4 D4 g4 k4=>?_
 have E4:=(EE4.trans e4).trans (Evo.k0 k4:Evo T4 T4 _ _)
 have I4:=I4.keeps0 k4
 have D1:=(D1.evo e4).evo (Evo.k0 k4:Evo T4 T4 _ _)
 have I1:=(I1.evo e4).keeps0 k4
 have D2:=(D2.evo e4).evo (Evo.k0 k4:Evo T4 T4 _ _)
 have I2:=(I2.evo e4).keeps0 k4
 have D3:=(D3.evo e4).evo (Evo.k0 k4:Evo T4 T4 _ _)
 have I3:=(I3.evo e4).keeps0 k4
 refine lwork_k 7 (oPut [122] []) fun y5 u5 hb5 nb5 kb5=>?_
 have gg5:=g4.keeps0 kb5
 have EE5:=E4.trans (Evo.k0 kb5)
 have D1:=D1.evo (Evo.k0 kb5:Evo T4 T4 _ _)
 have I1:=I1.keeps0 kb5
 have D2:=D2.evo (Evo.k0 kb5:Evo T4 T4 _ _)
 have I2:=I2.keeps0 kb5
 have D3:=D3.evo (Evo.k0 kb5:Evo T4 T4 _ _)
 have I3:=I3.keeps0 kb5
 have D4:=D4.evo (Evo.k0 kb5:Evo T4 T4 _ _)
 have I4:=I4.keeps0 kb5
 refine Take_k gg5 (by rw [q4];exact J4) (by rw [q4];exact rowle0 b4) (wkM 7 (oPut [122] []) y5) (wkM_D (t:=7) hb5 (g4.new nb5)) (.inl rfl) (oks 7 ⟨by decide,by decide⟩) (oks 0 ⟨by decide,by decide⟩) (fun hb=>by rw [q4] at hb;exact absurd (hb.symm.trans t5) (by decide)) ?_
 intro _ so5 sw5 out5 wr5 X5 T5 u'5 h5 q5 ho5 hw5 I5 x5 e5
 rw [q4] at q5 ho5 hw5
 have q5:X5.p=L5.clear:=q5
 have ho5:out5.map Mg.p=L5.out:=ho5
 have hw5:wr5=L5.writes:=hw5
 have J5:PJ L5.clear:=(J4.taken (x:=(wkM 7 (oPut [122] []) y5).p) (oks 7 ⟨by decide,by decide⟩) (oks 0 ⟨by decide,by decide⟩) t5 (.inl rfl)).clear
 refine dnew h5 fun d5 v5 D5 g5 k5=>?_
 have E5:=(EE5.trans e5).trans (Evo.k0 k5:Evo T5 T5 _ _)
 have I5:=I5.keeps0 k5
 have D1:=(D1.evo e5).evo (Evo.k0 k5:Evo T5 T5 _ _)
 have I1:=(I1.evo e5).keeps0 k5
 have D2:=(D2.evo e5).evo (Evo.k0 k5:Evo T5 T5 _ _)
 have I2:=(I2.evo e5).keeps0 k5
 have D3:=(D3.evo e5).evo (Evo.k0 k5:Evo T5 T5 _ _)
 have I3:=(I3.evo e5).keeps0 k5
 have D4:=(D4.evo e5).evo (Evo.k0 k5:Evo T5 T5 _ _)
 have I4:=(I4.evo e5).keeps0 k5
 refine Take_k g5 (by rw [q5];exact J5) (by rw [q5];exact rowle0 b5) akM (Imm.triv (φ:=MgD _) fun w=>⟨RdE.nil w,⟨RdE.nil w,by simp [akM]⟩,RdE.nil w⟩) (.inr (.inr rfl)) (oks 0 ⟨by decide,by decide⟩) (oks 0 ⟨by decide,by decide⟩) ?_ (fun hb=>by rw [q5] at hb;exact absurd (t6.symm.trans hb) (by decide))
 intro _ T6 u6 h6 e6
 refine dnew h6 fun d6 v6 D6 g6 k6=>?_
 have E6:=(E5.trans e6).trans (Evo.k0 k6:Evo T6 T6 _ _)
 have D1:=(D1.evo e6).evo (Evo.k0 k6:Evo T6 T6 _ _)
 have I1:=(I1.evo e6).keeps0 k6
 have D2:=(D2.evo e6).evo (Evo.k0 k6:Evo T6 T6 _ _)
 have I2:=(I2.evo e6).keeps0 k6
 have D3:=(D3.evo e6).evo (Evo.k0 k6:Evo T6 T6 _ _)
 have I3:=(I3.evo e6).keeps0 k6
 have D4:=(D4.evo e6).evo (Evo.k0 k6:Evo T6 T6 _ _)
 have I4:=(I4.evo e6).keeps0 k6
 have D5:=(D5.evo e6).evo (Evo.k0 k6:Evo T6 T6 _ _)
 have I5:=(I5.evo e6).keeps0 k6
 refine State_k g6 (PN.sd (by rw [q5];exact PN_of J5.ok J5.ct)) fun dS w7 hS k7=>?_
 refine New_bx fun s w8 h8 n8 k8=>?_
 refine putSh h8 rfl dS fun w9 h9 k9=>?_
 have k79:Keeps [] v6 w9:=kp1 (kp0 k7 k8) k9 (by have:=k7.size;omega)
 have E9:=E6.trans (Evo.k0 k79:Evo T6 T6 _ _)
 have D1:=D1.evo (Evo.k0 k79:Evo T6 T6 _ _)
 have I1:=I1.keeps0 k79
 have D2:=D2.evo (Evo.k0 k79:Evo T6 T6 _ _)
 have I2:=I2.keeps0 k79
 have D3:=D3.evo (Evo.k0 k79:Evo T6 T6 _ _)
 have I3:=I3.keeps0 k79
 have D4:=D4.evo (Evo.k0 k79:Evo T6 T6 _ _)
 have I4:=I4.keeps0 k79
 have D5:=D5.evo (Evo.k0 k79:Evo T6 T6 _ _)
 have I5:=I5.keeps0 k79
 rw [hT0] at E9
 have fin:=k w9 (kk _ _ E9)
 clear k kk
 obtain ⟨z1,rfl,hz1⟩:∃ z,out1=[z]∧z.code=3:=map1 (f:=fun x:Mg=>x.code) (by have h:=congrArg (List.map (fun x:PM=>x.code)) ho1;rw [t1o,List.map_map] at h;exact h)
 obtain ⟨z2,rfl,hz2⟩:∃ z,out2=[z]∧z.code=5:=map1 (f:=fun x:Mg=>x.code) (by have h:=congrArg (List.map (fun x:PM=>x.code)) ho2;rw [t2o,List.map_map] at h;exact h)
 obtain ⟨z5,rfl,hz5⟩:∃ z,out5=[z]∧z.code=4:=map1 (f:=fun x:Mg=>x.code) (by have h:=congrArg (List.map (fun x:PM=>x.code)) ho5;rw [t5o,List.map_map] at h;exact h)
 have hl3:so3.len=0:=by
  have h:=congrArg (List.map (fun x:PM=>x.code)) ho3
  rw [t3o,List.map_map] at h
  have h2:=congrArg List.length h
  rw [List.length_map] at h2
  rw [I3.ok.1.len,h2]
  rfl
 obtain ⟨z4,z4',rfl,hk4,ht4,hr4⟩:∃ z z',out4=[z,z']∧z.kind=6∧z'.txn=4∧z'.results.map (fun r=>r.value)=[BA [120]]:=by
  have h:=congrArg (List.map (fun x:PM=>(x.kind,x.txn,x.results.map fun r=>r.value))) ho4
  rw [t4o,List.map_map] at h
  obtain ⟨z,z',e,h1,h2⟩:=map2 h
  simp only [Function.comp,Prod.mk.injEq] at h1 h2
  refine ⟨z,z',e,h1.1,h2.2.1,?_⟩
  have:=h2.2.2
  rw [show z'.p.results=z'.results.map Rs.p from rfl,List.map_map] at this
  exact this
 obtain ⟨rr,hrr,hrv⟩:=map1 hr4
 have hw4l:sw4.len=1:=by rw [I4.ok.2.2.len,hw4,t4w]
 have hD4:=(I4.ok.2.1 z4' (by simp)).2.1.1
 have hsr:z4'.sr.len=1:=by rw [hD4.len,hrr];rfl
 have hheld:dS.sh.len=1:=by
  have h1:dS.sh.len=dS.held.length:=hS.he.len'
  have h2:=congrArg List.length hS.held
  rw [List.length_map,List.length_map] at h2
  have h3:=t7
  rw [← q5] at h3
  have e:X5.p.held.length=X5.d.held.length:=List.length_map _
  rw [h1,h2]
  show X5.d.held.length=1
  omega
 have hboot:dS.c.boot=1:=by rw [hS.c];have h:=t7b;rw [← q5] at h;exact h
 have hlast:X0.p.lastsB (X0.p.taken (wkM 5 (oPut [97] [120]) y1).p)=true:=by rw [q0];exact t1l
 have one:((((1:Nat):Int):Int) == 1)=true:=rfl
 simp only [sb,D1.h]
 rw [show so1.len=1 from I1.ok.1.len,one]
 simp only [sb,D1.h]
 refine ld1 (ρ:=mgR) (i:=0) I1.ok.1 rfl 4 (.i .i64) z1.code rfl ?_
 rw [hz1,show ((3:Int) == 3)=true from rfl]
 simp only [sb,D1.h]
 rw [hlast]
 simp only [sb,D2.h]
 rw [show so2.len=1 from I2.ok.1.len,one]
 simp only [sb,D2.h]
 refine ld1 (ρ:=mgR) (i:=0) I2.ok.1 rfl 4 (.i .i64) z2.code rfl ?_
 rw [hz2,show ((5:Int) == 5)=true from rfl]
 simp only [sb,D3.h]
 rw [hl3,show ((((0:Nat):Int):Int) == 0)=true from rfl]
 simp only [sb]
 rw [lW,one]
 simp only [sb,D4.h]
 rw [hw4l,one]
 simp only [sb,D4.h]
 rw [show so4.len=2 from I4.ok.1.len,show ((((2:Nat):Int):Int) == 2)=true from rfl]
 simp only [sb,D4.h]
 refine ld1 (ρ:=mgR) (i:=0) I4.ok.1 rfl 0 (.i .i64) z4.kind rfl ?_
 rw [hk4,show ((6:Int) == 6)=true from rfl]
 simp only [sb,D4.h]
 refine ld1 (ρ:=mgR) (i:=1) I4.ok.1 rfl 8 (.i .u64) z4'.txn rfl ?_
 rw [ht4,show ((4:Int) == 4)=true from rfl]
 simp only [sb,D4.h]
 refine ld1 (ρ:=mgR) (i:=1) I4.ok.1 rfl 19 .sl z4'.sr rfl ?_
 rw [hsr,one]
 simp only [sb,D4.h]
 refine ld1 (ρ:=mgR) (i:=1) I4.ok.1 rfl 19 .sl z4'.sr rfl ?_
 refine ld1 (ρ:=rsR) (i:=0) hD4 (by rw [hrr];rfl) 1 .s rr.value rfl ?_
 rw [hrv,show seq (BA [120]) (BA [120])=true from by rw [seq_eq];simp]
 simp only [sb,D5.h]
 rw [show so5.len=1 from I5.ok.1.len,one]
 simp only [sb,D5.h]
 refine ld1 (ρ:=mgR) (i:=0) I5.ok.1 rfl 4 (.i .i64) z5.code rfl ?_
 rw [hz5,show ((4:Int) == 4)=true from rfl]
 simp only [sb]
 rw [show ((180:Int) == 180)=true from rfl]
 simp only [sb,h9]
 rw [hheld,one]
 simp only [sb,h9]
 rw [hboot,show ((1:Int) == 1)=true from rfl]
 exact fin
end Go.Proofs.YthkdehgfdllpoaaGreat
set_option linter.unusedVariables false
set_option linter.unusedSimpArgs false
namespace Go.Proofs.YthkdehgfdllpoaaGreat
open Go Go.Sx
theorem lowUp_writes (P:PS) (low:Int):(P.lowUp low).writes=P.writes:=by unfold PS.lowUp;split <;> rfl
theorem works_writes {P:PS} (h:POk P) (t epoch:Int) {ops:List Op} (ho:opsE ops=0) (hl:ops.length≤24) (hb:P.out.length + P.left + 60≤20000):(P.works t epoch ops).writes=P.writes:=by
 unfold PS.works
 cases hg:P.gone t with
 | true=>rw [if_pos rfl]
 | false=>
  rw [if_neg (by simp)]
  cases hh:P.his t with
  | true=>
   rw [if_pos rfl]
   split <;> rfl
  | false=>
   rw [if_neg (by simp)]
   cases hr:P.refuses epoch ops with
   | true=>rw [if_pos rfl];rfl
   | false=>
    rw [if_neg (by simp)]
    have hwis:P.wis t=false:=by unfold PS.gone at hg;simp only [Bool.or_eq_false_iff] at hg;exact hg.2
    have hful:P.full=false:=by unfold PS.refuses at hr;simp only [Bool.or_eq_false_iff] at hr;exact hr.2.1
    have hc:P.held.length + P.wait.length < 6:=by unfold PS.full at hful;simp only [Bool.or_eq_false_iff,decide_eq_false_iff_not] at hful;omega
    obtain ⟨h1,b1⟩:=h.await ho hl (wis_not h hwis) (his_not h hh) (by omega) hb
    obtain ⟨h2,b2⟩:=h1.goes 30 (t:=t)
    exact ((psub_goes 30 (t:=t) h1).trans (psub_through fuelT h2)).writes
theorem fine_writes (P:PS) (t:Int):(P.fine t).writes=P.writes:=by unfold PS.fine;split <;> rfl
theorem finish_sub {P:PS} (h:POk P) (t:Int) (hf:P.fin.length < 100000):PSub (P.fine t) (P.finish t):=by
 obtain ⟨h1,_⟩:=h.fine t hf
 obtain ⟨h2,_⟩:=h1.release t
 exact (psub_rel _ t).trans (psub_through fuelT h2)
structure Gone (P:PS) (t:Int):Prop where
 held:∀ y∈P.held,y.txn ≠ t
 wait:∀ y∈P.wait,y.txn ≠ t
 over:t < P.c.low∨t∈P.fin
theorem Gone.sub {P Q:PS} {t:Int} (h:Gone P t) (s:PSub P Q):Gone Q t:=by
 refine ⟨fun y hy=>?_,fun y hy=>?_,by rw [s.c,s.fin];exact h.over⟩
 ·rcases s.held y hy with h1 | ⟨x,hx,rfl⟩
  ·exact h.held y h1
  ·exact h.wait x hx
 ·obtain ⟨x,hx,e,_⟩:=s.wait y hy
  rw [e]
  exact h.wait x hx
theorem Gone.lowUp {P:PS} {t:Int} (h:Gone P t) (low:Int):Gone (P.lowUp low) t:=by
 unfold PS.lowUp
 split
 ·rename_i hl
  refine ⟨h.held,h.wait,?_⟩
  rcases h.over with h1 | h1
  ·exact .inl (show t < low by omega)
  ·by_cases ht:t < low
   ·exact .inl ht
   ·exact .inr (List.mem_filter.2 ⟨h1,by simpa using ht⟩)
 ·exact h
theorem Gone.works {P:PS} {t:Int} (h:Gone P t) (hp:POk P) (u epoch:Int) {ops:List Op} (ho:opsE ops=0) (hl:ops.length≤24) (hb:P.out.length + P.left + 60≤20000):Gone (P.works u epoch ops) t:=by
 unfold PS.works
 cases hg:P.gone u with
 | true=>rw [if_pos rfl];exact h
 | false=>
  rw [if_neg (by simp)]
  cases hh:P.his u with
  | true=>
   rw [if_pos rfl]
   split
   ·exact h
   ·exact h.sub (psub_vote _ _ _ _)
  | false=>
   rw [if_neg (by simp)]
   cases hr:P.refuses epoch ops with
   | true=>rw [if_pos rfl];exact h.sub (psub_vote _ _ _ _)
   | false=>
    rw [if_neg (by simp)]
    have hg':=hg
    unfold PS.gone at hg'
    simp only [Bool.or_eq_false_iff,decide_eq_false_iff_not] at hg'
    have hwis:=hg'.2
    have hne:u ≠ t:=by
     intro e
     subst e
     rcases h.over with h1 | h1
     ·exact hg'.1.1 h1
     ·have:=List.contains_iff_mem.2 h1
      rw [hg'.1.2] at this
      cases this
    have hful:P.full=false:=by unfold PS.refuses at hr;simp only [Bool.or_eq_false_iff] at hr;exact hr.2.1
    have hc:P.held.length + P.wait.length < 6:=by unfold PS.full at hful;simp only [Bool.or_eq_false_iff,decide_eq_false_iff_not] at hful;omega
    obtain ⟨h1,b1⟩:=hp.await ho hl (wis_not hp hwis) (his_not hp hh) (by omega) hb
    obtain ⟨h2,b2⟩:=h1.goes 30 (t:=u)
    have ga:Gone (P.await u ops) t:=⟨h.held,fun y hy=>by
     rcases mem_ins hy with rfl | hy
     ·exact hne
     ·exact h.wait y hy,h.over⟩
    exact ga.sub ((psub_goes 30 (t:=u) h1).trans (psub_through fuelT h2))
theorem Gone.fine {P:PS} {t:Int} (h:Gone P t) (u:Int):Gone (P.fine u) t:=by
 unfold PS.fine
 split
 ·refine ⟨h.held,h.wait,?_⟩
  rcases h.over with h1 | h1
  ·exact .inl h1
  ·refine .inr ?_
   show t∈P.fin.take (P.fat u) ++ u :: P.fin.drop (P.fat u)
   rw [← List.take_append_drop (P.fat u) P.fin] at h1
   rcases List.mem_append.1 h1 with h1 | h1
   ·exact List.mem_append.2 (.inl h1)
   ·exact List.mem_append.2 (.inr (List.mem_cons_of_mem _ h1))
 ·exact h
theorem fine_over {P:PS} (h:POk P) (u:Int):u < (P.fine u).c.low∨u∈(P.fine u).fin:=by
 unfold PS.fine
 cases hc:(decide (P.c.low≤u) && !P.fins u) with
 | true=>
  rw [if_pos rfl]
  exact .inr (List.mem_append.2 (.inr List.mem_cons_self))
 | false=>
  rw [if_neg (by simp)]
  by_cases hl:P.c.low≤u
  ·rw [decide_eq_true hl,Bool.true_and,Bool.not_eq_false'] at hc
   obtain ⟨x,hx,hxu⟩:=bs_at (f:=id) h.fn hc
   refine .inr ?_
   have hxu:x=u:=hxu
   rw [← hxu]
   exact List.mem_of_getElem? hx
  ·exact .inl (by omega)
theorem unhold_gone {P:PS} (h:POk P) {i:Nat} {x:PH} (hx:P.held[i]?=some x):∀ y∈P.held.take i ++ P.held.drop (i + 1),y.txn ≠ x.txn:=by
 intro y hy e
 have hi:=(List.getElem?_eq_some_iff.1 hx).1
 rcases List.mem_append.1 hy with hy | hy
 ·obtain ⟨j,hj,rfl⟩:=List.mem_take_iff_getElem.1 hy
  have:=List.pairwise_iff_getElem.1 h.hd j i (by omega) hi (by omega)
  rw [(List.getElem?_eq_some_iff.1 hx).2] at this
  omega
 ·obtain ⟨j,hj⟩:=List.getElem?_of_mem hy
  rw [List.getElem?_drop] at hj
  obtain ⟨h1,h2⟩:=List.getElem?_eq_some_iff.1 hj
  have:=List.pairwise_iff_getElem.1 h.hd i (i + 1 + j) hi h1 (by omega)
  rw [(List.getElem?_eq_some_iff.1 hx).2,h2] at this
  omega
theorem decide_cases {P:PS} (h:PJ P) (u:Int) (flag:Bool) (hb:P.out.length + 1 + P.left≤20000) (hw:P.writes.length≤900) :
  (P.his u=true∧∃ Q:PS,POk Q∧Q.fin=P.fin∧Q.c=P.c∧Q.wait=P.wait∧(∀ y∈Q.held,y∈P.held∧y.txn ≠ u)∧(∃ ops,Q.writes=P.writes ++ PS.wrs flag ops)∧P.decide u flag=Q.finish u) ∨
  (P.his u=false∧∃ Q:PS,POk Q∧Q.fin=P.fin∧Q.c=P.c∧Q.held=P.held∧(∀ y∈Q.wait,y∈P.wait)∧Q.writes=P.writes∧(P.decide u flag=Q.finish u∨P.decide u flag=Q)):=by
 have ha:POk (P.ack u):=h.ok.ack u hb
 unfold PS.decide
 cases hh:P.his u with
 | true=>
  rw [if_pos rfl]
  obtain ⟨x,hx,hxt⟩:=his_at h.ok hh
  rw [hx]
  dsimp only
  obtain ⟨v1,v2⟩:=h.ok.hv x (List.mem_of_getElem? hx)
  have hwl:=wrs_le flag x.ops
  have hu:POk ((P.ack u).unhold (P.hat u)):=ha.unhold _
  have hwa:POk (((P.ack u).unhold (P.hat u)).writeAll (PS.wrs flag x.ops)):=hu.writeAll (wrs_ok v1) (by show P.writes.length + _≤1000;omega)
  have hsub:=take_drop_sub P.held (P.hat u)
  have hg:=unhold_gone h.ok hx
  have e:=writeAll_same (PS.wrs flag x.ops) ((P.ack u).unhold (P.hat u))
  refine .inl ⟨rfl,_,hwa,by rw [e];rfl,by rw [e];rfl,by rw [e];rfl,fun y hy=>?_,⟨x.ops,by rw [e];rfl⟩,rfl⟩
  rw [e] at hy
  have hy:y∈P.held.take (P.hat u) ++ P.held.drop (P.hat u + 1):=hy
  exact ⟨hsub.subset hy,hxt ▸ hg y hy⟩
 | false=>
  rw [if_neg (by simp)]
  cases hwi:P.wis u with
  | true=>
   rw [if_pos rfl]
   obtain ⟨x,hx,hxt⟩:=wis_at h.ok hwi
   obtain ⟨hu,_⟩:=ha.unwait (i:=P.wat u) hx
   exact .inr ⟨rfl,_,hu,rfl,rfl,rfl,fun y hy=>(take_drop_sub P.wait (P.wat u)).subset hy,rfl,.inl rfl⟩
  | false=>
   rw [if_neg (by simp)]
   exact .inr ⟨rfl,P.ack u,ha,rfl,rfl,rfl,fun y hy=>hy,rfl,.inr rfl⟩
theorem fin_lt {P:PS} (h:PJ P):P.fin.length < 100000:=by have:=h.ct.all;omega
theorem finish_writes {P:PS} (h:POk P) (t:Int) (hf:P.fin.length < 100000):(P.finish t).writes=P.writes:=(finish_sub h t hf).writes.trans (fine_writes P t)
theorem once_step {P:PS} (h:PJ P) {x:PM} (hk:x.kind=3∨x.kind=5) (hb:P.bad x=false) :
  ((P.taken x).writes ≠ []→x.kind=5∧x.flag=true∧P.his x.txn=true∧Gone (P.taken x).clear x.txn)∧∀ t,Gone P t→Gone (P.taken x).clear t:=by
 have hc:=h.clear
 have hleft:=hc.left
 have ho:P.clear.out.length=0:=rfl
 have gc:∀ {Q:PS} {t:Int},Gone Q t→Gone Q.clear t:=fun g=>⟨g.held,g.wait,g.over⟩
 unfold PS.taken
 rcases hk with h3 | h5
 ·rw [if_pos h3]
  unfold PS.bad at hb
  simp only [Bool.or_eq_false_iff,Bool.not_eq_false'] at hb
  have hm:=hb.1
  unfold pmOk headP at hm
  rw [if_pos h3] at hm
  simp only [Bool.and_eq_true,decide_eq_true_iff] at hm
  have o1:=hm.1.2.2.2.2.2
  have o2:=hm.1.2.2.2.2.1
  have hlu:=hc.ok.lowUp x.low
  have hbd:(P.clear.lowUp x.low).out.length + (P.clear.lowUp x.low).left + 60≤20000:=by rw [lowUp_out,lowUp_left];omega
  refine ⟨fun hw=>absurd ?_ hw,fun t g=>gc (((gc g).lowUp x.low).works hlu x.txn x.epoch o1 o2 hbd)⟩
  show ((P.clear.lowUp x.low).works x.txn x.epoch x.ops).writes=[]
  rw [works_writes hlu x.txn x.epoch o1 o2 hbd,lowUp_writes]
  rfl
 ·rw [if_neg (by omega)]
  have hw0:P.clear.writes=[]:=rfl
  have hf:=fin_lt hc
  rcases decide_cases hc x.txn x.flag (by omega) (by rw [hw0];simp) with ⟨hh,Q,q1,q2,q3,q4,q5,⟨ops,q6⟩,q7⟩ | ⟨hh,Q,q1,q2,q3,q4,q5,q6,q7⟩
  ·have hfq:Q.fin.length < 100000:=by rw [q2];exact hf
   rw [q7]
   refine ⟨fun hw=>?_,fun t g=>gc ?_⟩
   ·rw [finish_writes q1 x.txn hfq,q6,hw0,List.nil_append] at hw
    have hfl:x.flag=true:=by
     cases hxf:x.flag with
     | true=>rfl
     | false=>
      rw [hxf] at hw
      exact absurd (List.filter_eq_nil_iff.2 fun o _=>by simp) hw
    refine ⟨h5,hfl,hh,gc ?_⟩
    have hno:∀ y∈Q.wait,y.txn ≠ x.txn:=by
     obtain ⟨z,hz,hzt⟩:=his_at hc.ok hh
     intro y hy e
     rw [q4] at hy
     exact hc.ok.dj y hy z (List.mem_of_getElem? hz) (e.trans hzt.symm)
    have g1:Gone (Q.fine x.txn) x.txn:=by
     have e1:(Q.fine x.txn).held=Q.held∧(Q.fine x.txn).wait=Q.wait:=by unfold PS.fine;split <;> exact ⟨rfl,rfl⟩
     exact ⟨by rw [e1.1];exact fun y hy=>(q5 y hy).2,by rw [e1.2];exact hno,fine_over q1 x.txn⟩
    exact g1.sub (finish_sub q1 x.txn hfq)
   ·have g1:Gone Q t:=⟨fun y hy=>(gc g).held y (q5 y hy).1,by rw [q4];exact (gc g).wait,by rw [q3,q2];exact (gc g).over⟩
    exact (g1.fine x.txn).sub (finish_sub q1 x.txn hfq)
  ·have hfq:Q.fin.length < 100000:=by rw [q2];exact hf
   have g1:∀ t,Gone P t→Gone Q t:=fun t g=>⟨by rw [q4];exact (gc g).held,fun y hy=>(gc g).wait y (q5 y hy),by rw [q3,q2];exact (gc g).over⟩
   rcases q7 with q7 | q7
   ·rw [q7]
    exact ⟨fun hw=>absurd (by rw [finish_writes q1 x.txn hfq,q6];rfl) hw,fun t g=>gc (((g1 t g).fine x.txn).sub (finish_sub q1 x.txn hfq))⟩
   ·rw [q7]
    exact ⟨fun hw=>absurd (by rw [q6];rfl) hw,fun t g=>gc (g1 t g)⟩
theorem gone_his {P:PS} (h:POk P) {t:Int} (g:Gone P t):P.his t=false:=by
 cases hh:P.his t with
 | false=>rfl
 | true=>
  obtain ⟨x,hx,e⟩:=his_at h hh
  exact absurd e (g.held x (List.mem_of_getElem? hx))
end Go.Proofs.YthkdehgfdllpoaaGreat
set_option linter.unusedVariables false
set_option linter.unusedSimpArgs false
namespace Go.Proofs.YthkdehgfdllpoaaGreat
open Go Go.Sx
structure Sp where
 x:Mg
 again:Bool
def spR:Rec Sp:=⟨[.i .i64,.i .i64,.i .i64,.i .i64,.i .i64,.i .i64,.i .u64,.i .u64,.i .u64,.i .u64,.i .u64,.i .u64,.i .u64,.i .u64,.i .u64,.b,.s,.s,.sl,.sl,.sl,.b],fun y=>(y.x.kind,y.x.src,y.x.dst,y.x.client,y.x.code,y.x.peer,y.x.req,y.x.boot,y.x.txn,y.x.low,y.x.ver,y.x.epoch,y.x.move,y.x.attempt,y.x.n,y.x.flag,y.x.rlo,y.x.rhi,y.x.so,y.x.sr,y.x.sw,y.again,()),rfl,by simp⟩
theorem ld_Sp {w:World} {s:Sl} {l:List Sp} (h:RdE spR w s l) {i:Nat} {y:Sp} (hx:l[i]?=some y) {K:Int→Int→Int→Int→Int→Int→Int→Int→Int→Int→Int→Int→Int→Int→Int→Bool→ByteArray→ByteArray→Sl→Sl→Sl→Bool→Pr} (k:K y.x.kind y.x.src y.x.dst y.x.client y.x.code y.x.peer y.x.req y.x.boot y.x.txn y.x.low y.x.ver y.x.epoch y.x.move y.x.attempt y.x.n y.x.flag y.x.rlo y.x.rhi y.x.so y.x.sr y.x.sw y.again w) :
  Ix s (i:Int) 22 (fun a=>LdI .i64 (a.add 0) fun x0=>LdI .i64 (a.add 1) fun x1=>LdI .i64 (a.add 2) fun x2=>LdI .i64 (a.add 3) fun x3=>LdI .i64 (a.add 4) fun x4=>LdI .i64 (a.add 5) fun x5=>LdI .u64 (a.add 6) fun x6=>LdI .u64 (a.add 7) fun x7=>LdI .u64 (a.add 8) fun x8=>LdI .u64 (a.add 9) fun x9=>LdI .u64 (a.add 10) fun x10=>LdI .u64 (a.add 11) fun x11=>LdI .u64 (a.add 12) fun x12=>LdI .u64 (a.add 13) fun x13=>LdI .u64 (a.add 14) fun x14=>LdB (a.add 15) fun x15=>LdS (a.add 16) fun x16=>LdS (a.add 17) fun x17=>LdL (a.add 18) fun x18=>LdL (a.add 19) fun x19=>LdL (a.add 20) fun x20=>LdB (a.add 21) fun x21=>K x0 x1 x2 x3 x4 x5 x6 x7 x8 x9 x10 x11 x12 x13 x14 x15 x16 x17 x18 x19 x20 x21) w:=
 h.ld (K:=fun z=>K z.1 z.2.1 z.2.2.1 z.2.2.2.1 z.2.2.2.2.1 z.2.2.2.2.2.1 z.2.2.2.2.2.2.1 z.2.2.2.2.2.2.2.1 z.2.2.2.2.2.2.2.2.1 z.2.2.2.2.2.2.2.2.2.1 z.2.2.2.2.2.2.2.2.2.2.1 z.2.2.2.2.2.2.2.2.2.2.2.1 z.2.2.2.2.2.2.2.2.2.2.2.2.1 z.2.2.2.2.2.2.2.2.2.2.2.2.2.1 z.2.2.2.2.2.2.2.2.2.2.2.2.2.2.1 z.2.2.2.2.2.2.2.2.2.2.2.2.2.2.2.1 z.2.2.2.2.2.2.2.2.2.2.2.2.2.2.2.2.1 z.2.2.2.2.2.2.2.2.2.2.2.2.2.2.2.2.2.1 z.2.2.2.2.2.2.2.2.2.2.2.2.2.2.2.2.2.2.1 z.2.2.2.2.2.2.2.2.2.2.2.2.2.2.2.2.2.2.2.1 z.2.2.2.2.2.2.2.2.2.2.2.2.2.2.2.2.2.2.2.2.1 z.2.2.2.2.2.2.2.2.2.2.2.2.2.2.2.2.2.2.2.2.2.1) hx k
theorem bx_Sp (y:Sp) {K:Addr→Pr} {w:World} (h:∀ b w1,w1.heap[b]?=some (.cells #[.int .i64 y.x.kind,.int .i64 y.x.src,.int .i64 y.x.dst,.int .i64 y.x.client,.int .i64 y.x.code,.int .i64 y.x.peer,.int .u64 y.x.req,.int .u64 y.x.boot,.int .u64 y.x.txn,.int .u64 y.x.low,.int .u64 y.x.ver,.int .u64 y.x.epoch,.int .u64 y.x.move,.int .u64 y.x.attempt,.int .u64 y.x.n,.bool y.x.flag,.string y.x.rlo,.string y.x.rhi,.slice y.x.so.p y.x.so.len y.x.so.cap,.slice y.x.sr.p y.x.sr.len y.x.sr.cap,.slice y.x.sw.p y.x.sw.len y.x.sw.cap,.bool y.again] 49 (0,0))→w.heap.size≤b→Keeps [] w w1→K ⟨b,0,none⟩ w1) :
  New #[.int .i64 0,.int .i64 0,.int .i64 0,.int .i64 0,.int .i64 0,.int .i64 0,.int .u64 0,.int .u64 0,.int .u64 0,.int .u64 0,.int .u64 0,.int .u64 0,.int .u64 0,.int .u64 0,.int .u64 0,.bool false,.string (BA []),.string (BA []),.slice none 0 0,.slice none 0 0,.slice none 0 0,.bool false] 49 (fun a=>St (a.add 0) (.int .i64 y.x.kind) <| St (a.add 1) (.int .i64 y.x.src) <| St (a.add 2) (.int .i64 y.x.dst) <| St (a.add 3) (.int .i64 y.x.client) <| St (a.add 4) (.int .i64 y.x.code) <| St (a.add 5) (.int .i64 y.x.peer) <| St (a.add 6) (.int .u64 y.x.req) <| St (a.add 7) (.int .u64 y.x.boot) <| St (a.add 8) (.int .u64 y.x.txn) <| St (a.add 9) (.int .u64 y.x.low) <| St (a.add 10) (.int .u64 y.x.ver) <| St (a.add 11) (.int .u64 y.x.epoch) <| St (a.add 12) (.int .u64 y.x.move) <| St (a.add 13) (.int .u64 y.x.attempt) <| St (a.add 14) (.int .u64 y.x.n) <| St (a.add 15) (.bool y.x.flag) <| St (a.add 16) (.string y.x.rlo) <| St (a.add 17) (.string y.x.rhi) <| St (a.add 18) (.slice y.x.so.p y.x.so.len y.x.so.cap) <| St (a.add 19) (.slice y.x.sr.p y.x.sr.len y.x.sr.cap) <| St (a.add 20) (.slice y.x.sw.p y.x.sw.len y.x.sw.cap) <| St (a.add 21) (.bool y.again) <| (K a)) w:=
 New_st (vs:=spR.c y) rfl (spR.one y) h
theorem mgd_imm {x:Mg} {w0 w:World} {T:Nat→Nat} (h:MgD x w0) (k:Keeps [] w0 w) (ht:∀ b,b < w0.heap.size→T b=0):Imm T (MgD x) w:=by
 have z:∀ {α:Type} {ρ:Rec α} {s:Sl} {l:List α},RdE ρ w0 s l→Imm T (fun w=>RdE ρ w s l) w:=fun h=>Imm.of (h.keeps0 k) fun b hb=>ht b (h.lt b hb)
 have h2:=h.2.1
 refine (z h.1).and (Imm.and ⟨⟨h2.1.keeps0 k,fun y hy=>RdE.keeps0 (h2.2 y hy) k⟩,fun w' hs hw=>⟨(z h2.1).st w' hs hw,fun y hy=>(z (h2.2 y hy)).st w' hs hw⟩⟩ (z h.2.2))
theorem MpR.tag {κ:Type} [DecidableEq κ] {w w':World} {m:Nat} {ek:κ→Value} {kv:List (κ × Value)} {T T':Nat→Nat} (h:MpR w m ek kv) (e:Evo T T' w w') (ht:T m=11):MpR w' m ek kv∧T' m=11:=by
 obtain ⟨es,c,hb,ha⟩:=h
 obtain ⟨h1,h2⟩:=e.at11 hb ht
 exact ⟨⟨es,c,h1,ha⟩,h2⟩
end Go.Proofs.YthkdehgfdllpoaaGreat
set_option linter.unusedVariables false
set_option linter.unusedSimpArgs false
namespace Go.Proofs.YthkdehgfdllpoaaGreat
open Go Go.Sx
theorem PJ.store {P:PS} (h:PJ P) {M:List Pa} (hM:MapOk M) (hN:M.length≤200000):PJ { P with M:=M }:=
 ⟨⟨h.ok.wt,h.ok.hd,h.ok.dj,h.ok.fn,h.ok.tb,h.ok.wv,h.ok.hv,hM,hN,h.ok.wr,h.ok.wn,h.ok.er,h.ok.bd,h.ok.hn,h.ok.fl⟩,⟨h.rg.c,h.rg.held,h.rg.wait,h.rg.fin⟩,⟨h.ct.hw,h.ct.all,h.ct.ow⟩,h.line⟩
structure At (w:World) (m stb:Nat) (T:Nat→Nat) (X:Mc):Prop where
 g:MAt w m T X
 J:PJ X.p
 bx:X.d.bx=none
 stb:X.d.stb=stb
theorem At.keeps0 {w w':World} {m stb:Nat} {T:Nat→Nat} {X:Mc} (h:At w m stb T X) (k:Keeps [] w w'):At w' m stb T X:=⟨h.g.keeps0 k,h.J,h.bx,h.stb⟩
theorem store_k {w:World} {m stb:Nat} {T:Nat→Nat} {X:Mc} (h:At w m stb T X) {sw:Sl} {writes:List Op} (hw:RdE opR w sw writes) (ho:opsE writes=0) (hl:X.d.M.length + writes.length≤200000) {J:Pr}
  (k:∀ sM w',At w' m stb T { X with d:={ X.d with sM:=sM,M:=(applyM X.d.M writes).1 } }→Keeps [stb] w w'→J w') :
  (Cl Pg i_sumpterref04_Apply [(.slice X.d.sM.p X.d.sM.len X.d.sM.cap),(.slice sw.p sw.len sw.cap)] true [.sc .sl,.sc .sl,.sc (.i .i64)] fun r=>St ⟨stb,0,none⟩ (.slice r.1.p r.1.len r.1.cap) J) w:=by
 obtain ⟨h1,h2⟩:=h.g.r.sto.ok
 have hM:MapOk X.d.M:=h.J.ok.mp
 have hlen:=applyM_len X.d.M writes
 refine RApply_k h2 hw (by omega) (by omega) ?_ ?_
 ·intro _ _ r1 r2 rs w1 q1 q2 q3 q4 q5 k1
  have s1:=k1.at0 h1
  rw [h.stb] at s1
  refine set_box s1 0 _ rfl (by simp) fun w2 s2 k2=>?_
  simp only [sxl] at s2
  have hn:∀ b∈rb r1,T b=0:=fun b hb=>h.g.new (q5 b hb)
  have hs:∀ b∈rb r1,b ≠ stb:=fun b hb e=>by
   have:=(h.g.r.sto.tag X.d.stb rfl).2
   rw [h.stb] at this
   rw [e] at hb
   rw [hn stb hb] at this
   cases this
  have g1:=h.g.keeps0 k1
  have hst:X.d.stb=stb:=h.stb
  refine k r1 w2 ⟨?_,h.J.store (applyM_ok hM ho) (Nat.le_trans hlen.1 hl),h.bx,h.stb⟩ ((k1.mono (by simp)).trans k2 (fun _ hx=>.inl hx))
  refine g1.st (by rw [hst];exact k2) (by rw [hst];exact s2) (q1.keeps k2 fun b hb=>by simpa using hs b hb) hn
 ·intro e w1 he _ _
  rcases he with he | he
  ·exact absurd hM he
  ·exact absurd ho he
theorem works_M {P:PS} (h:POk P) (t epoch:Int) {ops:List Op} (ho:opsE ops=0) (hl:ops.length≤24) (hb:P.out.length + P.left + 60≤20000):(P.works t epoch ops).M=P.M:=by
 unfold PS.works
 cases hg:P.gone t with
 | true=>rw [if_pos rfl]
 | false=>
  rw [if_neg (by simp)]
  cases hh:P.his t with
  | true=>
   rw [if_pos rfl]
   split <;> rfl
  | false=>
   rw [if_neg (by simp)]
   cases hr:P.refuses epoch ops with
   | true=>rw [if_pos rfl];rfl
   | false=>
    rw [if_neg (by simp)]
    have hwis:P.wis t=false:=by unfold PS.gone at hg;simp only [Bool.or_eq_false_iff] at hg;exact hg.2
    have hful:P.full=false:=by unfold PS.refuses at hr;simp only [Bool.or_eq_false_iff] at hr;exact hr.2.1
    have hc:P.held.length + P.wait.length < 6:=by unfold PS.full at hful;simp only [Bool.or_eq_false_iff,decide_eq_false_iff_not] at hful;omega
    obtain ⟨h1,b1⟩:=h.await ho hl (wis_not h hwis) (his_not h hh) (by omega) hb
    obtain ⟨h2,b2⟩:=h1.goes 30 (t:=t)
    exact ((psub_goes 30 (t:=t) h1).trans (psub_through fuelT h2)).M
theorem decide_M {P:PS} (h:PJ P) (u:Int) (flag:Bool) (hb:P.out.length + 1 + P.left≤20000) (hw:P.writes.length≤900):(P.decide u flag).M=P.M:=by
 have hfM:∀ {Q:PS},POk Q→Q.fin.length < 100000→(Q.finish u).M=Q.M:=fun {Q} hq hf=>(finish_sub hq u hf).M.trans (by unfold PS.fine;split <;> rfl)
 have ha:POk (P.ack u):=h.ok.ack u hb
 have hf:=fin_lt h
 unfold PS.decide
 cases hh:P.his u with
 | true=>
  rw [if_pos rfl]
  obtain ⟨x,hx,hxt⟩:=his_at h.ok hh
  rw [hx]
  dsimp only
  obtain ⟨v1,v2⟩:=h.ok.hv x (List.mem_of_getElem? hx)
  have hwl:=wrs_le flag x.ops
  have hu:POk ((P.ack u).unhold (P.hat u)):=ha.unhold _
  have hwa:POk (((P.ack u).unhold (P.hat u)).writeAll (PS.wrs flag x.ops)):=hu.writeAll (wrs_ok v1) (by show P.writes.length + _≤1000;omega)
  have e:=writeAll_same (PS.wrs flag x.ops) ((P.ack u).unhold (P.hat u))
  rw [hfM hwa (by rw [e];exact hf),e]
  rfl
 | false=>
  rw [if_neg (by simp)]
  cases hwi:P.wis u with
  | true=>
   rw [if_pos rfl]
   obtain ⟨x,hx,hxt⟩:=wis_at h.ok hwi
   obtain ⟨hu,_⟩:=ha.unwait (i:=P.wat u) hx
   rw [hfM hu hf]
   rfl
  | false=>
   rw [if_neg (by simp)]
   rfl
theorem taken_M {P:PS} (h:PJ P) {x:PM} (hk:x.kind=3∨x.kind=5) (hb:P.bad x=false):(P.taken x).clear.M=P.M:=by
 show (P.taken x).M=P.M
 have hc:=h.clear
 have hleft:=hc.left
 have ho:P.clear.out.length=0:=rfl
 unfold PS.taken
 rcases hk with h3 | h5
 ·rw [if_pos h3]
  unfold PS.bad at hb
  simp only [Bool.or_eq_false_iff,Bool.not_eq_false'] at hb
  have hm:=hb.1
  unfold pmOk headP at hm
  rw [if_pos h3] at hm
  simp only [Bool.and_eq_true,decide_eq_true_iff] at hm
  show ((P.clear.lowUp x.low).works x.txn x.epoch x.ops).M=P.M
  rw [works_M (hc.ok.lowUp x.low) x.txn x.epoch hm.1.2.2.2.2.2 hm.1.2.2.2.2.1 (by rw [lowUp_out,lowUp_left];omega)]
  unfold PS.lowUp
  split <;> rfl
 ·rw [if_neg (by omega)]
  exact (decide_M hc x.txn x.flag (by omega) (by show 0≤900;omega)).trans rfl
theorem Take2_k {w:World} {m stb:Nat} {T:Nat→Nat} {X:Mc} (h:At w m stb T X) (x:Mg) (hx:Imm T (MgD x) w) (hk:x.kind=3∨x.kind=5) (ht:okN x.txn) (hlo:okN x.low) {K:TR [.ag [.sl,.sl,.b],.sc (.i .i64)]→Pr}
  (k:∀ so sw lb e wr X2 T2 w2,At w2 m stb T2 X2→X2.d.M=X.d.M→Imm T2 (fun w=>RdE opR w sw wr) w2→opsE wr=0→wr.length≤1000→(wr ≠ []→x.kind=5∧x.flag=true∧X.p.his x.txn=true∧Gone X2.p x.txn)→(∀ t,Gone X.p t→Gone X2.p t)→Evo T T2 w w2→K ((so,sw,lb,()),e,()) w2) :
  Cl Pg i_part_Machine_Take [.pointer (some ⟨m,0,none⟩),.agg (mgL x)] true [.ag [.sl,.sl,.b],.sc (.i .i64)] K w:=by
 have hk3:x.kind=3∨x.kind=5∨x.kind=6:=hk.elim .inl (fun h=>.inr (.inl h))
 refine Take_k h.g h.J (rowle0 (by show X.d.bx.map _=none;rw [h.bx];rfl)) x hx hk3 ht hlo ?_ ?_
 ·intro _ T2 w2 g2 e2
  exact k _ _ _ _ [] X T2 w2 ⟨g2,h.J,h.bx,h.stb⟩ rfl (Imm.triv fun w=>RdE.nil w) rfl (by simp) (fun hn=>absurd rfl hn) (fun t g=>g) e2
 ·intro hb so sw out wr X2 T2 w2 g2 q2 ho hw i2 x2 e2
  obtain ⟨s1,s2⟩:=once_step h.J (x:=x.p) hk hb
  have hQ:=h.J.taken (x:=x.p) ht hlo hb hk3
  have hp:PJ X2.p:=by rw [q2];exact hQ.clear
  refine k so sw _ _ wr X2 T2 w2 ⟨g2,hp,x2.bx.trans h.bx,x2.stb.trans h.stb⟩ ?_ ⟨i2.ok.2.2,fun w' hs hw=>(i2.st w' hs hw).2.2⟩ (by rw [hw];exact hQ.ok.wr) (by rw [hw];exact hQ.ok.wn) (fun hn=>?_) (fun t g=>by rw [q2];exact s2 t g) e2
  ·have e:X2.p.M=(X.p.taken x.p).clear.M:=by rw [q2]
   exact e.trans (taken_M h.J hk hb)
  ·rw [q2]
   exact s1 (by rw [← hw];exact hn)
structure POI (w w6:World) (pl:Sl) (l:List Sp) (m st mp i:Nat) (w':World) (X:Mc) (T:Nat→Nat) (kv:List (Int × Value)):Prop where
 A:At w' m st T X
 M:X.d.M.length≤i * 1000
 mpr:MpR w' mp (ekI .u64) kv
 tm:T mp=11
 G:∀ t,aget t kv ≠ none→Gone X.p t
 iR:Imm T (fun w=>RdE spR w pl l) w'
 iD:∀ y∈l,Imm T (MgD y.x) w'
 hT:∀ b,T b ≠ 0→w.heap.size≤b
 kp:KeepsP (fun b=>w.heap.size≤b) w6 w'
theorem POI.evo {w w6 w1 w2:World} {pl:Sl} {l:List Sp} {m st mp i:Nat} {X:Mc} {T T2:Nat→Nat} {kv:List (Int × Value)} (h:POI w w6 pl l m st mp i w1 X T kv) (hw:w.heap.size≤w1.heap.size) (e:Evo T T2 w1 w2):MpR w2 mp (ekI .u64) kv∧T2 mp=11∧Imm T2 (fun w=>RdE spR w pl l) w2∧(∀ y∈l,Imm T2 (MgD y.x) w2)∧(∀ b,T2 b ≠ 0→w.heap.size≤b)∧KeepsP (fun b=>w.heap.size≤b) w6 w2:=by
 obtain ⟨h1,h2⟩:=MpR.tag h.mpr e h.tm
 refine ⟨h1,h2,h.iR.evo e,fun y hy=>(h.iD y hy).evo e,fun b hb=>Nat.le_of_not_lt fun hlt=>?_,h.kp.trans e.kp fun x hx=>.inl (h.hT x hx.1)⟩
 have h0:T b=0:=Classical.byContradiction fun hn=>by have:=h.hT b hn;omega
 exact hb ((e.tg b (by omega) (.inl h0)).trans h0)
theorem POI.keeps0 {w w6 w1 w2:World} {pl:Sl} {l:List Sp} {m st mp i:Nat} {X:Mc} {T:Nat→Nat} {kv:List (Int × Value)} (h:POI w w6 pl l m st mp i w1 X T kv) (hw:w.heap.size≤w1.heap.size) (k:Keeps [] w1 w2):POI w w6 pl l m st mp i w2 X T kv:=by
 obtain ⟨h1,h2,h3,h4,h5,h6⟩:=h.evo hw (Evo.k0 k)
 exact ⟨h.A.keeps0 k,h.M,h1,h2,h.G,h3,h4,h5,h6⟩
set_option maxHeartbeats 8000000 in
theorem PartOnce_k {w : World} {pl : Sl} {l : List Sp} (h : RdE spR w pl l) (hD : ∀ y ∈ l, MgD y.x w) (hO : ∀ y ∈ l, okN y.x.txn ∧ okN y.x.low) {K : TR [.sc .b] → Pr} (k : ∀ w', Keeps [] w w' → K (true, ()) w') : Cl Pg i_sumpterlaw20_PartOnce [.slice pl.p pl.len pl.cap] false [.sc .b] K w := by
  refine sumpterlaw20_PartOnce_call _ ?_
  unfold sumpterlaw20_PartOnce
  have hl := h.len
  refine live_k fun w1 k1 => ?_
  refine New_bx fun st w2 h2 n2 k2 => ?_
  refine first_k fun a w3 h3 n3 k3 => ?_
  have h23 := k3.at0 h2
  have k03 := kp0 (kp0 k1 k2) k3
  have nst : w.heap.size ≤ st := by have := k1.size; omega
  refine New0_k (d := d0 a) (stb := st) (sM := ⟨none, 0, 0⟩) (M := []) h3 (show SdN (d0 a) from ⟨show (2 : Nat) ≤ 100000 by decide, show (0 : Nat) ≤ 100000 by decide, show (0 : Nat) ≤ 200000 by decide, by simp [d0]⟩) t0 rfl ⟨show (0 : Int) ≤ 0 by decide, show (0 : Int) + 1 < 18446744073709551616 by decide⟩ h23 (RdE.nil _) (by simp [rb]) ?_
  intro m T X w4 h4 q4 st4 sm4 hT k4
  have q4 : X.p = P0 [] := q4
  have k04 := kp0 k03 k4
  have hT : ∀ b, T b ≠ 0 → w.heap.size ≤ b := fun b hb => by rcases hT b hb with rfl | h'; exact nst; have := k03.size; omega
  refine Jp_b (decide (80 < l.length)) (fun J hJ => ?_) fun w5 k5 => ?_
  · simp only [Option.isNone_some, sb, show ((0 : Int) != 0) = false from rfl]
    rw [show decide (((pl.len : Nat) : Int) > 80) = decide (80 < l.length) from decide_eq_decide.2 (by omega)]
    exact hJ _ (Keeps.refl _ _)
  have k05 := kp0 k04 k5
  have g5 := h4.keeps0 k5
  cases h80 : decide (80 < l.length) with
  | true=>
    simp only [sb]
    exact k w5 k05
  | false=>
    rw [decide_eq_false_iff_not] at h80
    simp only [sb]
    refine NewMap_k (ek := ekI .u64) fun mp w6 h6 n6 k6 => ?_
    obtain ⟨g6, s6, e6⟩ := g5.own k6 n6 h6.lt
    have nmp : w.heap.size ≤ mp := by have := k05.size; omega
    have k06 := kp0 k05 k6
    generalize hT6 : own11 mp T = T6 at *
    have Tmp : T6 mp = 11 := by rw [← hT6]; exact if_pos rfl
    have hz : ∀ b, b < w.heap.size → T6 b = 0 := fun b hb => by
      rw [← hT6]
      unfold own11
      rw [if_neg (by omega)]
      apply Classical.byContradiction
      intro hne
      have := hT b hne
      omega
    have imR : Imm T6 (fun w => RdE spR w pl l) w6 := Imm.of (h.keeps0 k06) fun b hb => hz b (h.lt b hb)
    have imD : ∀ y ∈ l, Imm T6 (MgD y.x) w6 := fun y hy => mgd_imm (hD y hy) k06 hz
    have bx6 : X.d.bx = none := by
      have hb : X.p.box = none := by rw [q4]; rfl
      cases hc : X.d.bx with
      | none => rfl
      | some b => rw [show X.p.box = X.d.bx.map fun _ => X.d.box.p from rfl, hc] at hb; cases hb
    have A6 : At w6 m st T6 X := ⟨g6, by rw [q4]; exact PJ0 ⟨by simp, List.Pairwise.nil⟩ (by simp), bx6, st4⟩
    have hM6 : X.d.M = [] := by have : X.p.M = [] := by rw [q4]; rfl
                                exact this
    have fin : ∀ (T' : Nat → Nat) (w' : World), KeepsP (fun b => w.heap.size ≤ b) w6 w' → Keeps [] w w' := fun T' w' e => by
      have := k06.toP0 (F := fun _ => False) |>.trans e (fun x hx => .inr hx)
      exact this.toL0
    have z6 : w.heap.size ≤ w6.heap.size := k06.size
    refine ⟨fun n stt w' => ∃ (i : Nat) (q : Bool) (X1 : Mc) (T1 : Nat → Nat) (kv : List (Int × Value)), stt = (q, (i : Int), ()) ∧ n = l.length - i ∧ i ≤ l.length ∧ POI w w6 pl l m st mp i w' X1 T1 kv, ⟨_, 0, false, X, T6, [], rfl, rfl, by omega, A6, by rw [hM6]; simp, h6, Tmp, by simp [aget], imR, imD, fun b hb => Nat.le_of_not_lt fun hlt => hb (hz b hlt), KeepsP.refl _ _⟩, ?_⟩
    rintro n _ w7 ⟨i, q, X1, T1, kv, rfl, rfl, hi, P7⟩
    have z7 : w.heap.size ≤ w7.heap.size := Nat.le_trans z6 P7.kp.size
    dsimp only
    by_cases hlt : i < l.length
    · rw [decide_eq_true (by omega)]
      simp only [Br_true]
      obtain ⟨y, hy⟩ : ∃ y, l[i]? = some y := ⟨_, List.getElem?_eq_getElem hlt⟩
      have hym := List.mem_of_getElem? hy
      refine Jp_of (fun s w' => ∃ (X2 : Mc) (T2 : Nat → Nat) (kv2 : List (Int × Value)), POI w w6 pl l m st mp (i + 1) w' X2 T2 kv2) (fun J hJ => ?_) ?_
      · refine ld_Sp P7.iR.ok hy ?_
        refine bx_Sp y fun b w8 h8 n8 k8 => ?_
        have P8 := P7.keeps0 z7 k8
        have z8 : w.heap.size ≤ w8.heap.size := Nat.le_trans z7 k8.size
        have nxt : ∀ {X2 : Mc} {T2 : Nat → Nat} {kv2 : List (Int × Value)} {w' : World}, POI w w6 pl l m st mp i w' X2 T2 kv2 → POI w w6 pl l m st mp (i + 1) w' X2 T2 kv2 := fun h => ⟨h.A, by have := h.M; omega, h.mpr, h.tm, h.G, h.iR, h.iD, h.hT, h.kp⟩
        refine Jp_b ((y.x.kind != 3) && (y.x.kind != 5)) (fun J2 hJ2 => ?_) fun w9 k9 => ?_
        · simp only [sb, h8]
          cases c3 : (y.x.kind != 3) with
          | true=>
            rw [c3, Bool.true_and] at hJ2
            simp only [sb, h8]
            exact hJ2 _ (Keeps.refl _ _)
          | false=>
            rw [c3, Bool.false_and] at hJ2
            simp only [sb]
            exact hJ2 _ (Keeps.refl _ _)
        · have P9 := P8.keeps0 z8 k9
          have z9 : w.heap.size ≤ w9.heap.size := Nat.le_trans z8 k9.size
          have h9 := k9.at0 h8
          have Tb : T1 b = 0 := P7.A.g.new n8
          cases ck : ((y.x.kind != 3) && (y.x.kind != 5)) with
          | true=>
            simp only [Br_true]
            exact hJ _ w9 ⟨X1, T1, kv, nxt P9⟩
          | false=>
            have hk : y.x.kind = 3 ∨ y.x.kind = 5 := by
              rw [Bool.and_eq_false_iff] at ck
              rcases ck with h | h
              · exact .inl (by simpa using h)
              · exact .inr (by simpa using h)
            simp only [sb, h9]
            obtain ⟨o1, o2⟩ := hO y hym
            have hk3 : y.x.kind = 3 ∨ y.x.kind = 5 ∨ y.x.kind = 6 := hk.elim .inl (fun h => .inr (.inl h))
            refine Take2_k P9.A y.x (P9.iD y hym) hk o1 o2 ?_
            intro so sw lb e wr X2 T2 w10 A10 M10 i10 ow10 nw10 hs1 hs2 e10
            obtain ⟨m10, tm10, iR10, iD10, hT10, kp10⟩ := P9.evo z9 e10
            obtain ⟨h10, Tb10⟩ := e10.at h9 Tb
            refine dnew A10.g fun dd w11 D11 g11 k11 => ?_
            have kd : Keeps [] w10 w11.drew := k11.drew
            have A11 : At w11.drew m st T2 X2 := A10.keeps0 kd
            have hst : w11.heap[st]? = some (.cells #[.slice X2.d.sM.p X2.d.sM.len X2.d.sM.cap] 27 (0, 0)) := by
              have := A11.g.r.sto.ok.1
              rw [A11.stb] at this
              exact this
            have tst : T2 st = 12 := by
              have := (A11.g.r.sto.tag X2.d.stb rfl).2
              rw [A11.stb] at this
              exact this
            have i11 := i10.keeps0 kd
            have hsl : sw.len = wr.length := i11.ok.len
            simp only [sb, hst, D11.h]
            refine store_k A11 i11.ok ow10 (by rw [M10]; have := P9.M; omega) fun sM w12 A12 k12 => ?_
            have s12 : Stp 12 T2 T2 w11.drew w12 := ⟨k12.toP fun c hc => .inl (by simp at hc; rw [hc]; exact tst), fun _ _ _ => rfl⟩
            have D12 : w12.heap[dd]? = _ := k12.at1 (show w11.drew.heap[dd]? = _ from D11.h) (fun e => by have := D11.t; rw [e, tst] at this; cases this)
            have h12 : w12.heap[b]? = _ := k12.at1 (kd.at0 h10) (fun e => by rw [e, tst] at Tb10; cases Tb10)
            have m12 : MpR w12 mp (ekI .u64) kv := (m10.keepsL kd (by simp)).keepsL k12 (by simp; intro e; rw [e, tst] at tm10; cases tm10)
            have k1012 : KeepsP (fun c => w.heap.size ≤ c) w10 w12 := (kd.toP0).same (k12.toP fun c hc => .inl (by simp at hc; rw [hc]; exact nst))
            have hMl := applyM_len X2.d.M wr
            have P12 : POI w w6 pl l m st mp (i + 1) w12 { X2 with d := { X2.d with sM := sM, M := (applyM X2.d.M wr).1 } } T2 kv:=
              ⟨A12, by show (applyM X2.d.M wr).1.length ≤ (i + 1) * 1000; have h1 := hMl.1; have h2 := P9.M; rw [M10] at h1; rw [M10]; omega, m12, tm10, fun t ht => ⟨(hs2 t (P9.G t ht)).held, (hs2 t (P9.G t ht)).wait, (hs2 t (P9.G t ht)).over⟩, (iR10.keeps0 kd).kt (by decide) s12, fun z hz => ((iD10 z hz).keeps0 kd).kt (by decide) s12, hT10, kp10.same k1012⟩
            simp only [sb, D12]
            by_cases hwr : wr = []
            · rw [show (((sw.len : Nat) : Int) == 0) = true from by rw [hsl, hwr]; rfl]
              simp only [Br_true]
              exact hJ _ w12 ⟨_, T2, kv, P12⟩
            · obtain ⟨c5, cf, chis, cg⟩ := hs1 hwr
              have hlen : wr.length ≠ 0 := fun h => hwr (List.length_eq_zero_iff.1 h)
              rw [show (((sw.len : Nat) : Int) == 0) = false from by rw [hsl]; simpa using hlen]
              have hnone : aget y.x.txn kv = none := by
                cases hq : aget y.x.txn kv with
                | none => rfl
                | some v=>
                  have := gone_his P9.A.J.ok (P9.G y.x.txn (by rw [hq]; simp))
                  rw [this] at chis
                  cases chis
              dsimp only [Jp]
              simp only [sb, h12, c5, cf, show ((5 : Int) != 5) = false from rfl, Bool.not_true]
              refine LkK_none (kd := .b) (keyOk_int .u64) m12 hnone ?_
              simp only [sb, h12]
              refine MSet_of (keyOk_int .u64) m12 y.x.txn (.bool true) fun w13 m13 k13 => ?_
              obtain ⟨g13, s13⟩ := A12.g.put11 tm10 k13
              refine hJ _ w13 ⟨_, T2, aset y.x.txn (.bool true) kv, ⟨⟨g13, A12.J, A12.bx, A12.stb⟩, P12.M, m13, tm10, fun t ht => ?_, P12.iR.kt (by decide) s13, fun z hz => (P12.iD z hz).kt (by decide) s13, hT10, P12.kp.same (k13.toP fun c hc => .inl (by simp at hc; rw [hc]; exact nmp))⟩⟩
              rw [aget_aset] at ht
              split at ht
              · rename_i e
                rw [e]
                exact ⟨cg.held, cg.wait, cg.over⟩
              · exact P12.G t ht
      · rintro ⟨s, _⟩ w8 ⟨X2, T2, kv2, P8⟩
        exact ⟨l.length - (i + 1), by omega, i + 1, s, X2, T2, kv2, by rw [w64p (by omega)], rfl, by omega, P8⟩
    · rw [decide_eq_false (by omega)]
      simp only [Br_false]
      exact k w7 (fin T1 w7 P7.kp)
end Go.Proofs.YthkdehgfdllpoaaGreat
set_option linter.unusedVariables false
set_option linter.unusedSimpArgs false
namespace Go.Proofs.YthkdehgfdllpoaaGreat
open Go Go.Sx
def Ext (P Q:PS):Prop:=∃ l,Q.out=P.out ++ l
theorem Ext.refl (P:PS):Ext P P:=⟨[],(List.append_nil _).symm⟩
theorem Ext.trans {P Q R:PS} (h:Ext P Q) (k:Ext Q R):Ext P R:=by
 obtain ⟨a,ha⟩:=h
 obtain ⟨b,hb⟩:=k
 exact ⟨a ++ b,by rw [hb,ha,List.append_assoc]⟩
theorem ext_vote (P:PS) (t c:Int) (rs:List Rp):Ext P (P.vote t c rs):=⟨_,rfl⟩
theorem ext_goes:∀ (f:Nat) (P:PS) (t:Int),Ext P (P.goes f t)
 | 0,P,t=>Ext.refl P
 | f + 1,P,t=>by
  unfold PS.goes
  split
  ·exact Ext.refl P
  ·split
   ·exact Ext.refl P
   ·split
    ·exact ext_vote (((P.unwait (P.wat t)).hold t _)) _ _ _
    ·split
     ·exact Ext.refl P
     ·split
      ·exact ⟨[],(List.append_nil _).symm⟩
      ·split
       ·exact ext_vote ((P.ask1 (P.wat t) _ _).unwait (P.wat t)) t 5 []
       ·exact Ext.trans (Q:=P.ask1 (P.wat t) _ _) ⟨[],(List.append_nil _).symm⟩ (ext_goes f _ t)
theorem ext_event (P:PS) (ev:Ev):Ext P (P.event ev):=by
 unfold PS.event
 split
 ·exact ext_goes 30 P _
 ·split
  ·exact ext_vote (P.unwait (P.wat ev.txn)) ev.txn 5 []
  ·exact Ext.refl P
theorem ext_through:∀ (f:Nat) (P:PS),Ext P (P.through f)
 | 0,P=>Ext.refl P
 | f + 1,P=>by
  unfold PS.through
  split
  ·exact Ext.refl P
  ·rename_i ev l _
   exact Ext.trans (Q:={ P with line:=l }) ⟨[],(List.append_nil _).symm⟩ ((ext_event _ ev).trans (ext_through f _))
theorem ext_fine (P:PS) (t:Int):Ext P (P.fine t):=by unfold PS.fine;split <;> exact ⟨[],(List.append_nil _).symm⟩
theorem ext_finish (P:PS) (t:Int):Ext P (P.finish t):=(ext_fine P t).trans (Ext.trans (Q:=(P.fine t).release t) ⟨[],(List.append_nil _).symm⟩ (ext_through fuelT _))
theorem ext_decide {P:PS} (u:Int) (flag:Bool):Ext (P.ack u) (P.decide u flag):=by
 unfold PS.decide
 split
 ·split
  ·exact Ext.refl _
  ·rename_i x _
   have e:=writeAll_same (PS.wrs flag x.ops) ((P.ack u).unhold (P.hat u))
   exact Ext.trans (Q:=((P.ack u).unhold (P.hat u)).writeAll (PS.wrs flag x.ops)) ⟨[],by rw [e,List.append_nil];rfl⟩ (ext_finish _ u)
 ·split
  ·exact Ext.trans (Q:=(P.ack u).unwait (P.wat u)) ⟨[],(List.append_nil _).symm⟩ (ext_finish _ u)
  ·exact Ext.refl _
theorem decide_len {P:PS} (h:PJ P) (u:Int) (flag:Bool) (hb:P.out.length + 1 + P.left≤20000) (hw:P.writes.length≤900) (hu:P.his u=true∨P.wis u=true):(P.decide u flag).held.length + (P.decide u flag).wait.length + 1≤P.held.length + P.wait.length:=by
 have ha:POk (P.ack u):=h.ok.ack u hb
 have hf:=fin_lt h
 have fs:∀ {Q:PS},POk Q→Q.fin.length < 100000→(Q.finish u).held.length + (Q.finish u).wait.length≤Q.held.length + Q.wait.length:=by
  intro Q hq hfq
  have s:=finish_sub hq u hfq
  have e1:(Q.fine u).held=Q.held∧(Q.fine u).wait=Q.wait:=by unfold PS.fine;split <;> exact ⟨rfl,rfl⟩
  have:=s.len
  rw [e1.1,e1.2] at this
  exact this
 unfold PS.decide
 cases hh:P.his u with
 | true=>
  rw [if_pos rfl]
  obtain ⟨x,hx,hxt⟩:=his_at h.ok hh
  rw [hx]
  dsimp only
  have hlt:=(List.getElem?_eq_some_iff.1 hx).1
  obtain ⟨v1,v2⟩:=h.ok.hv x (List.mem_of_getElem? hx)
  have hwl:=wrs_le flag x.ops
  have hu:POk ((P.ack u).unhold (P.hat u)):=ha.unhold _
  have hwa:POk (((P.ack u).unhold (P.hat u)).writeAll (PS.wrs flag x.ops)):=hu.writeAll (wrs_ok v1) (by show P.writes.length + _≤1000;omega)
  have e:=writeAll_same (PS.wrs flag x.ops) ((P.ack u).unhold (P.hat u))
  have h1:=fs hwa (by rw [e];exact hf)
  have eh:(((P.ack u).unhold (P.hat u)).writeAll (PS.wrs flag x.ops)).held=P.held.take (P.hat u) ++ P.held.drop (P.hat u + 1):=by rw [e];rfl
  have ew:(((P.ack u).unhold (P.hat u)).writeAll (PS.wrs flag x.ops)).wait=P.wait:=by rw [e];rfl
  rw [eh,ew] at h1
  have:=len_erase P.held (P.hat u) hlt
  omega
 | false=>
  rw [if_neg (by simp)]
  rw [hh] at hu
  have hwi:P.wis u=true:=by rcases hu with h | h;cases h;exact h
  rw [hwi,if_pos rfl]
  obtain ⟨x,hx,hxt⟩:=wis_at h.ok hwi
  have hlt:=(List.getElem?_eq_some_iff.1 hx).1
  obtain ⟨hu,_⟩:=ha.unwait (i:=P.wat u) hx
  have h1:=fs hu hf
  have:=len_erase P.wait (P.wat u) hlt
  have eh:((P.ack u).unwait (P.wat u)).held=P.held:=rfl
  have ew:((P.ack u).unwait (P.wat u)).wait=P.wait.take (P.wat u) ++ P.wait.drop (P.wat u + 1):=rfl
  rw [eh,ew] at h1
  omega
theorem works_c {P:PS} (h:POk P) (t epoch:Int) {ops:List Op} (ho:opsE ops=0) (hl:ops.length≤24) (hb:P.out.length + P.left + 60≤20000):(P.works t epoch ops).c=P.c:=by
 unfold PS.works
 cases hg:P.gone t with
 | true=>rw [if_pos rfl]
 | false=>
  rw [if_neg (by simp)]
  cases hh:P.his t with
  | true=>
   rw [if_pos rfl]
   split <;> rfl
  | false=>
   rw [if_neg (by simp)]
   cases hr:P.refuses epoch ops with
   | true=>rw [if_pos rfl];rfl
   | false=>
    rw [if_neg (by simp)]
    have hwis:P.wis t=false:=by unfold PS.gone at hg;simp only [Bool.or_eq_false_iff] at hg;exact hg.2
    have hful:P.full=false:=by unfold PS.refuses at hr;simp only [Bool.or_eq_false_iff] at hr;exact hr.2.1
    have hc:P.held.length + P.wait.length < 6:=by unfold PS.full at hful;simp only [Bool.or_eq_false_iff,decide_eq_false_iff_not] at hful;omega
    obtain ⟨h1,b1⟩:=h.await ho hl (wis_not h hwis) (his_not h hh) (by omega) hb
    obtain ⟨h2,b2⟩:=h1.goes 30 (t:=t)
    exact ((psub_goes 30 (t:=t) h1).trans (psub_through fuelT h2)).c
theorem decide_c {P:PS} (h:PJ P) (u:Int) (flag:Bool) (hb:P.out.length + 1 + P.left≤20000) (hw:P.writes.length≤900):(P.decide u flag).c=P.c:=by
 have hfM:∀ {Q:PS},POk Q→Q.fin.length < 100000→(Q.finish u).c=Q.c:=fun {Q} hq hf=>(finish_sub hq u hf).c.trans (by unfold PS.fine;split <;> rfl)
 have ha:POk (P.ack u):=h.ok.ack u hb
 have hf:=fin_lt h
 unfold PS.decide
 cases hh:P.his u with
 | true=>
  rw [if_pos rfl]
  obtain ⟨x,hx,hxt⟩:=his_at h.ok hh
  rw [hx]
  dsimp only
  obtain ⟨v1,v2⟩:=h.ok.hv x (List.mem_of_getElem? hx)
  have hwl:=wrs_le flag x.ops
  have hu:POk ((P.ack u).unhold (P.hat u)):=ha.unhold _
  have hwa:POk (((P.ack u).unhold (P.hat u)).writeAll (PS.wrs flag x.ops)):=hu.writeAll (wrs_ok v1) (by show P.writes.length + _≤1000;omega)
  have e:=writeAll_same (PS.wrs flag x.ops) ((P.ack u).unhold (P.hat u))
  rw [hfM hwa (by rw [e];exact hf),e]
  rfl
 | false=>
  rw [if_neg (by simp)]
  cases hwi:P.wis u with
  | true=>
   rw [if_pos rfl]
   obtain ⟨x,hx,hxt⟩:=wis_at h.ok hwi
   obtain ⟨hu,_⟩:=ha.unwait (i:=P.wat u) hx
   rw [hfM hu hf]
   rfl
  | false=>
   rw [if_neg (by simp)]
   rfl
structure CEq (c d:Sc):Prop where
 id:d.id=c.id
 frozen:d.frozen=c.frozen
 imove:d.imove=c.imove
theorem taken_c {P:PS} (h:PJ P) {x:PM} (hk:x.kind=3∨x.kind=5) (hb:P.bad x=false):CEq P.c (P.taken x).clear.c:=by
 have key:CEq P.c (P.taken x).c:=by
  have hc:=h.clear
  have hleft:=hc.left
  have ho:P.clear.out.length=0:=rfl
  unfold PS.taken
  rcases hk with h3 | h5
  ·rw [if_pos h3]
   unfold PS.bad at hb
   simp only [Bool.or_eq_false_iff,Bool.not_eq_false'] at hb
   have hm:=hb.1
   unfold pmOk headP at hm
   rw [if_pos h3] at hm
   simp only [Bool.and_eq_true,decide_eq_true_iff] at hm
   have e:(P.clear.work x.txn x.low x.epoch x.ops).c=(P.clear.lowUp x.low).c:=works_c (hc.ok.lowUp x.low) x.txn x.epoch hm.1.2.2.2.2.2 hm.1.2.2.2.2.1 (by rw [lowUp_out,lowUp_left];omega)
   rw [e]
   unfold PS.lowUp
   split <;> exact ⟨rfl,rfl,rfl⟩
  ·rw [if_neg (by omega)]
   rw [decide_c hc x.txn x.flag (by omega) (by show 0≤900;omega)]
   exact ⟨rfl,rfl,rfl⟩
 exact ⟨key.id,key.frozen,key.imove⟩
end Go.Proofs.YthkdehgfdllpoaaGreat
set_option linter.unusedVariables false
set_option linter.unusedSimpArgs false
namespace Go.Proofs.YthkdehgfdllpoaaGreat
open Go Go.Sx
def TakeR (P:PS) (x:PM) (e:Int) (Q:PS) (out:List PM) (wr:List Op):Prop:=(P.bad x=true∧e=180∧Q=P∧out=[]∧wr=[])∨(P.bad x=false∧e=0∧Q=(P.taken x).clear∧out=(P.taken x).out∧wr=(P.taken x).writes)
theorem Take4_k {w:World} {m stb:Nat} {T:Nat→Nat} {X:Mc} (h:At w m stb T X) (x:Mg) (hx:Imm T (MgD x) w) (hk:x.kind=3∨x.kind=5) (ht:okN x.txn) (hlo:okN x.low) {K:TR [.ag [.sl,.sl,.b],.sc (.i .i64)]→Pr}
  (k:∀ so sw lb e out wr X2 T2 w2,At w2 m stb T2 X2→X2.d.M=X.d.M→Imm T2 (DeedD so sw out wr) w2→opsE wr=0→wr.length≤1000→TakeR X.p x.p e X2.p (out.map Mg.p) wr→Evo T T2 w w2→K ((so,sw,lb,()),e,()) w2) :
  Cl Pg i_part_Machine_Take [.pointer (some ⟨m,0,none⟩),.agg (mgL x)] true [.ag [.sl,.sl,.b],.sc (.i .i64)] K w:=by
 have hk3:x.kind=3∨x.kind=5∨x.kind=6:=hk.elim .inl (fun h=>.inr (.inl h))
 refine Take_k h.g h.J (rowle0 (by show X.d.bx.map _=none;rw [h.bx];rfl)) x hx hk3 ht hlo ?_ ?_
 ·intro hb T2 w2 g2 e2
  exact k _ _ _ _ [] [] X T2 w2 ⟨g2,h.J,h.bx,h.stb⟩ rfl (Imm.triv fun w=>⟨RdE.nil w,by simp,RdE.nil w⟩) rfl (by simp) (.inl ⟨hb,rfl,rfl,rfl,rfl⟩) e2
 ·intro hb so sw out wr X2 T2 w2 g2 q2 ho hw i2 x2 e2
  have hQ:=h.J.taken (x:=x.p) ht hlo hb hk3
  have hp:PJ X2.p:=by rw [q2];exact hQ.clear
  have e:X2.p.M=(X.p.taken x.p).clear.M:=by rw [q2]
  exact k so sw _ _ out wr X2 T2 w2 ⟨g2,hp,x2.bx.trans h.bx,x2.stb.trans h.stb⟩ (e.trans (taken_M h.J hk hb)) i2 (by rw [hw];exact hQ.ok.wr) (by rw [hw];exact hQ.ok.wn) (.inr ⟨hb,rfl,q2,ho,hw⟩) e2
theorem TakeR.ceq {P:PS} {x:PM} {e:Int} {Q:PS} {out:List PM} {wr:List Op} (h:TakeR P x e Q out wr) (hJ:PJ P) (hk:x.kind=3∨x.kind=5):CEq P.c Q.c:=by
 rcases h with ⟨_,_,rfl,_,_⟩ | ⟨hb,_,rfl,_,_⟩
 ·exact ⟨rfl,rfl,rfl⟩
 ·exact taken_c hJ hk hb
def dcU (n:Int) (flag:Bool):Mg:=⟨5,0,1,0,0,0,0,0,n,0,0,0,0,0,0,flag,BA [],BA [],⟨none,0,0⟩,⟨none,0,0⟩,⟨none,0,0⟩,[],[],[]⟩
theorem dcU_ok (n:Int) (flag:Bool):pmOk (dcU n flag).p=true:=by
 have:pmOk (dcU n flag).p=(headP coordB shardB true (dcU n flag).p && zallP [116,102] (dcU n flag).p):=rfl
 rw [this]
 have hs:seq (BA []) (BA [])=true:=by rw [seq_eq];simp
 simp [headP,zallP,zOfP,dcU,Mg.p,coordB,shardB,hs]
theorem dcU_bad {P:PS} (hid:P.c.id=1) (n:Int) (flag:Bool):P.bad (dcU n flag).p=false:=by
 unfold PS.bad
 rw [dcU_ok,hid]
 rfl
theorem dcU_D {T:Nat→Nat} {w:World} (n:Int) (flag:Bool):Imm T (MgD (dcU n flag)) w:=Imm.triv (φ:=MgD _) fun w=>⟨RdE.nil w,⟨RdE.nil w,by simp [dcU]⟩,RdE.nil w⟩
theorem rest_step {P:PS} (h:PJ P) (hid:P.c.id=1) {n:Int} (flag:Bool) (hu:P.his n=true∨P.wis n=true):(∃ x l,(P.taken (dcU n flag).p).out=x :: l∧x.kind=6)∧(P.taken (dcU n flag).p).clear.held.length + (P.taken (dcU n flag).p).clear.wait.length + 1≤P.held.length + P.wait.length:=by
 have hc:=h.clear
 have hleft:=hc.left
 have ho:P.clear.out.length=0:=rfl
 have e:P.taken (dcU n flag).p=P.clear.decide n flag:=rfl
 rw [e]
 constructor
 ·obtain ⟨l,hl⟩:=ext_decide (P:=P.clear) n flag
  exact ⟨_,l,hl,rfl⟩
 ·exact decide_len hc n flag (by omega) (by show 0≤900;omega) hu
end Go.Proofs.YthkdehgfdllpoaaGreat
set_option linter.unusedVariables false
set_option linter.unusedSimpArgs false
namespace Go.Proofs.YthkdehgfdllpoaaGreat
open Go Go.Sx
def flR:Rec Bool:=Rec.sca .b rfl
theorem ldb {w:World} {s:Sl} {l:List Bool} (h:RdE flR w s l) {i:Nat} {x:Bool} (hx:l[i]?=some x) {K:Bool→Pr} (k:K x w):Ix s (i:Int) 1 (fun a=>LdB a K) w:=by
 obtain ⟨a,ha,hc⟩:=h.at hx
 have hi:=(List.getElem?_eq_some_iff.1 hx).1
 have hl:s.len=l.length:=h.len
 unfold Ix
 rw [ha]
 refine ⟨by omega,by omega,?_⟩
 rw [Int.toNat_natCast]
 have h0:=hc 0 (.bool x) rfl
 rw [add_add,Nat.add_zero] at h0
 exact Ld_of (k:=.b) (x:=x) h0 k
structure RI (w w6:World) (pl pf:Sl) (l:List Sp) (fl:List Bool) (m st i:Nat) (w':World) (X:Mc) (T:Nat→Nat):Prop where
 A:At w' m st T X
 M:X.d.M.length≤i * 1000
 id:X.p.c.id=1
 frozen:X.p.c.frozen=0
 imove:X.p.c.imove=0
 iR:Imm T (fun w=>RdE spR w pl l) w'
 iF:Imm T (fun w=>RdE flR w pf fl) w'
 iD:∀ y∈l,Imm T (MgD y.x) w'
 hT:∀ b,T b ≠ 0→w.heap.size≤b
 kp:KeepsP (fun b=>w.heap.size≤b) w6 w'
theorem RI.evo {w w6 w1 w2:World} {pl pf:Sl} {l:List Sp} {fl:List Bool} {m st i:Nat} {X X2:Mc} {T T2:Nat→Nat} (h:RI w w6 pl pf l fl m st i w1 X T) (hw:w.heap.size≤w1.heap.size) (e:Evo T T2 w1 w2) (hA:At w2 m st T2 X2) (hM:X2.d.M=X.d.M) (hc:CEq X.p.c X2.p.c):RI w w6 pl pf l fl m st i w2 X2 T2:=by
 refine ⟨hA,by rw [hM];exact h.M,by rw [hc.id];exact h.id,by rw [hc.frozen];exact h.frozen,by rw [hc.imove];exact h.imove,h.iR.evo e,h.iF.evo e,fun y hy=>(h.iD y hy).evo e,fun b hb=>Nat.le_of_not_lt fun hlt=>?_,h.kp.trans e.kp fun x hx=>.inl (h.hT x hx.1)⟩
 have h0:T b=0:=Classical.byContradiction fun hn=>by have:=h.hT b hn;omega
 exact hb ((e.tg b (by omega) (.inl h0)).trans h0)
theorem RI.keeps0 {w w6 w1 w2:World} {pl pf:Sl} {l:List Sp} {fl:List Bool} {m st i:Nat} {X:Mc} {T:Nat→Nat} (h:RI w w6 pl pf l fl m st i w1 X T) (hw:w.heap.size≤w1.heap.size) (k:Keeps [] w1 w2):RI w w6 pl pf l fl m st i w2 X T:=h.evo hw (Evo.k0 k) (h.A.keeps0 k) rfl ⟨rfl,rfl,rfl⟩
theorem his_mem {P:PS} (h:POk P) {x:PH} (hx:x∈P.held):P.his x.txn=true:=by
 cases hh:P.his x.txn with
 | true=>rfl
 | false=>exact absurd rfl (his_not h hh x hx)
theorem wis_mem {P:PS} (h:POk P) {x:PW} (hx:x∈P.wait):P.wis x.txn=true:=by
 cases hh:P.wis x.txn with
 | true=>rfl
 | false=>exact absurd rfl (wis_not h hh x hx)
theorem okN_of {P:PS} (h:PJ P) {n:Int} (hu:P.his n=true∨P.wis n=true):okN n:=by
 rcases hu with hu | hu
 ·obtain ⟨x,hx,e⟩:=his_at h.ok hu
  rw [← e]
  exact h.rg.held x (List.mem_of_getElem? hx)
 ·obtain ⟨x,hx,e⟩:=wis_at h.ok hu
  rw [← e]
  exact h.rg.wait x (List.mem_of_getElem? hx)
set_option maxHeartbeats 8000000 in
theorem PartRest_k {w:World} {pl pf:Sl} {l:List Sp} {fl:List Bool} (h:RdE spR w pl l) (hF:RdE flR w pf fl) (hD:∀ y∈l,MgD y.x w) (hO:∀ y∈l,okN y.x.txn∧okN y.x.low) (hfl:fl.length≤140737488355328) {K:TR [.sc .b]→Pr} (k:∀ w',Keeps [] w w'→K (true,()) w'):Cl Pg i_sumpterlaw20_PartRest [.slice pl.p pl.len pl.cap,.slice pf.p pf.len pf.cap] false [.sc .b] K w:=by
 refine sumpterlaw20_PartRest_call _ _ ?_
 unfold sumpterlaw20_PartRest
 have hl:=h.len
 refine live_k fun w1 k1=>?_
 refine New_bx fun st w2 h2 n2 k2=>?_
 refine first_k fun a w3 h3 n3 k3=>?_
 have h23:=k3.at0 h2
 have k03:=kp0 (kp0 k1 k2) k3
 have nst:w.heap.size≤st:=by have:=k1.size;omega
 refine New0_k (d:=d0 a) (stb:=st) (sM:=⟨none,0,0⟩) (M:=[]) h3 (show SdN (d0 a) from ⟨show (2:Nat)≤100000 by decide,show (0:Nat)≤100000 by decide,show (0:Nat)≤200000 by decide,by simp [d0]⟩) t0 rfl ⟨show (0:Int)≤0 by decide,show (0:Int) + 1 < 18446744073709551616 by decide⟩ h23 (RdE.nil _) (by simp [rb]) ?_
 intro m T X w4 h4 q4 st4 sm4 hT k4
 have q4:X.p=P0 []:=q4
 have k04:=kp0 k03 k4
 have hT:∀ b,T b ≠ 0→w.heap.size≤b:=fun b hb=>by rcases hT b hb with rfl | h';exact nst;have:=k03.size;omega
 refine Jp_b (decide (80 < l.length)) (fun J hJ=>?_) fun w6 k5=>?_
 ·simp only [Option.isNone_some,sb,show ((0:Int) != 0)=false from rfl]
  rw [show decide (((pl.len:Nat):Int) > 80)=decide (80 < l.length) from decide_eq_decide.2 (by omega)]
  exact hJ _ (Keeps.refl _ _)
 have k06:=kp0 k04 k5
 have g6:=h4.keeps0 k5
 cases h80:decide (80 < l.length) with
 | true=>
  simp only [sb]
  exact k w6 k06
 | false=>
  rw [decide_eq_false_iff_not] at h80
  simp only [sb]
  have hz:∀ b,b < w.heap.size→T b=0:=fun b hb=>Classical.byContradiction fun hne=>by have:=hT b hne;omega
  have bx6:X.d.bx=none:=by
   have hb:X.p.box=none:=by rw [q4];rfl
   cases hc:X.d.bx with
   | none=>rfl
   | some b=>rw [show X.p.box=X.d.bx.map fun _=>X.d.box.p from rfl,hc] at hb;cases hb
  have hM6:X.d.M=[]:=by
   have:X.p.M=[]:=by rw [q4];rfl
   exact this
  have A6:At w6 m st T X:=⟨g6,by rw [q4];exact PJ0 ⟨by simp,List.Pairwise.nil⟩ (by simp),bx6,st4⟩
  have R6:RI w w6 pl pf l fl m st 0 w6 X T:=⟨A6,by rw [hM6];simp,by rw [q4];rfl,by rw [q4];rfl,by rw [q4];rfl,Imm.of (h.keeps0 k06) fun b hb=>hz b (h.lt b hb),Imm.of (hF.keeps0 k06) fun b hb=>hz b (hF.lt b hb),fun y hy=>mgd_imm (hD y hy) k06 hz,hT,KeepsP.refl _ _⟩
  have fin:∀ (w':World),KeepsP (fun b=>w.heap.size≤b) w6 w'→Keeps [] w w':=fun w' e=>by
   have:=k06.toP0 (F:=fun _=>False) |>.trans e (fun x hx=>.inr hx)
   exact this.toL0
  have z6:w.heap.size≤w6.heap.size:=k06.size
  refine ⟨fun n stt w'=>∃ (i:Nat) (X1:Mc) (T1:Nat→Nat),stt=((i:Int),())∧n=l.length - i∧i≤l.length∧RI w w6 pl pf l fl m st 0 w' X1 T1,⟨_,0,X,T,rfl,rfl,by omega,R6⟩,?_⟩
  rintro n _ w7 ⟨i,X1,T1,rfl,rfl,hi,R7⟩
  have z7:w.heap.size≤w7.heap.size:=Nat.le_trans z6 R7.kp.size
  dsimp only
  by_cases hlt:i < l.length
  ·rw [decide_eq_true (by omega)]
   simp only [Br_true]
   obtain ⟨y,hy⟩:∃ y,l[i]?=some y:=⟨_,List.getElem?_eq_getElem hlt⟩
   have hym:=List.mem_of_getElem? hy
   refine Jp_of (fun s w'=>∃ (X2:Mc) (T2:Nat→Nat),RI w w6 pl pf l fl m st 0 w' X2 T2) (fun J hJ=>?_) ?_
   ·refine ld_Sp R7.iR.ok hy ?_
    refine bx_Sp y fun b w8 h8 n8 k8=>?_
    have R8:=R7.keeps0 z7 k8
    have z8:w.heap.size≤w8.heap.size:=Nat.le_trans z7 k8.size
    simp only [sb,h8]
    by_cases c3:y.x.kind=3
    ·rw [show ((y.x.kind:Int) == 3)=true from by simpa using c3]
     simp only [sb,h8]
     obtain ⟨o1,o2⟩:=hO y hym
     refine Take4_k R8.A y.x (R8.iD y hym) (.inl c3) o1 o2 ?_
     intro so sw lb e out wr X2 T2 w9 A9 M9 i9 ow9 nw9 t9 e9
     exact hJ _ w9 ⟨X2,T2,R8.evo z8 e9 A9 M9 (t9.ceq R8.A.J (.inl c3))⟩
    ·rw [show ((y.x.kind:Int) == 3)=false from by simpa using c3]
     simp only [sb]
     exact hJ _ w8 ⟨X1,T1,R8⟩
   ·rintro _ w8 ⟨X2,T2,R8⟩
    exact ⟨l.length - (i + 1),by omega,i + 1,X2,T2,by rw [w64p (by omega)],rfl,by omega,R8⟩
  ·rw [decide_eq_false (by omega)]
   simp only [Br_false]
   refine ⟨fun n stt w'=>∃ (j:Nat) (q:Bool) (X1:Mc) (T1:Nat→Nat),stt=(q,(j:Int),())∧n=20 - j∧X1.p.held.length + X1.p.wait.length + j≤6∧RI w w6 pl pf l fl m st j w' X1 T1,⟨_,0,false,X1,T1,rfl,rfl,R7.A.J.ct.hw,R7⟩,?_⟩
   rintro n _ w8 ⟨j,q,X2,T2,rfl,rfl,hj,R8⟩
   have z8:w.heap.size≤w8.heap.size:=Nat.le_trans z6 R8.kp.size
   dsimp only
   rw [decide_eq_true (show (j:Int) < 20 by omega)]
   simp only [Br_true]
   have eh:X2.p.held.length=X2.d.held.length:=List.length_map _
   have ew:X2.p.wait.length=X2.d.wait.length:=List.length_map _
   refine State_k R8.A.g (PN_of R8.A.J.ok R8.A.J.ct).sd fun dS w9 hS k9=>?_
   refine New_bx fun s w10 h10 n10 k10=>?_
   refine putSh h10 rfl dS fun w11 h11 k11=>?_
   have k911:Keeps [] w9 w11:=kp1 k10 k11 n10
   have k811:=kp0 k9 k911
   have R11:=R8.keeps0 z8 k811
   have z11:w.heap.size≤w11.heap.size:=Nat.le_trans z8 k811.size
   have sh11:=hS.he.keeps k911 (by simp)
   have hlS:dS.held.length=X2.d.held.length:=by
    have:=congrArg List.length hS.held
    rw [List.length_map,List.length_map] at this
    exact this
   have hshl:dS.sh.len=dS.held.length:=sh11.len'
   refine Jp_of (fun u w'=>(X2.p.his u.2.1=true∨X2.p.wis u.2.1=true)∧Keeps [] w11 w') (fun J hJ=>?_) ?_
   ·simp only [sb,h11]
    by_cases hh:0 < X2.d.held.length
    ·rw [show decide (((dS.sh.len:Nat):Int) > 0)=true from decide_eq_true (by omega)]
     simp only [sb,h11]
     obtain ⟨x,hx⟩:∃ x,dS.held[0]?=some x:=⟨_,List.getElem?_eq_getElem (by omega)⟩
     refine ld1 (ρ:=hdR) (i:=0) sh11.rde hx 0 (.i .u64) x.txn rfl ?_
     refine hJ _ w11 ⟨.inl ?_,Keeps.refl _ _⟩
     have hm:x.p∈X2.p.held:=by
      have:x.p∈dS.held.map Hd.p:=List.mem_map.2 ⟨x,List.mem_of_getElem? hx,rfl⟩
      rw [hS.held] at this
      exact this
     exact his_mem R8.A.J.ok hm
    ·rw [show decide (((dS.sh.len:Nat):Int) > 0)=false from decide_eq_false (by omega)]
     simp only [sb]
     refine Waits_k R11.A.g (by omega) fun rW w12 hW fW k12=>?_
     have hlW:rW.len=X2.d.wait.length:=by have h:=hW.len';rw [List.length_map] at h;exact h
     by_cases hw:0 < X2.d.wait.length
     ·rw [show decide (((rW.len:Nat):Int) > 0)=true from decide_eq_true (by omega)]
      simp only [Br_true]
      obtain ⟨x,hx⟩:∃ x,X2.d.wait[0]?=some x:=⟨_,List.getElem?_eq_getElem hw⟩
      refine ldn (i:=0) hW.rde (x:=x.txn) (by rw [List.getElem?_map,hx];rfl) ?_
      refine hJ _ w12 ⟨.inr ?_,k12⟩
      have hm:x.p∈X2.p.wait:=List.mem_map.2 ⟨x,List.mem_of_getElem? hx,rfl⟩
      exact wis_mem R8.A.J.ok hm
     ·rw [show decide (((rW.len:Nat):Int) > 0)=false from decide_eq_false (by omega)]
      simp only [sb]
      refine Idle_k (R11.A.g.keeps0 k12) (by omega) fun w13 k13=>?_
      rw [show X2.p.idle=true from ?_]
      ·exact k w13 (fin w13 (R11.kp.same (kp0 k12 k13).toP0))
      ·unfold PS.idle
       rw [decide_eq_true (by omega),R8.frozen,R8.imove,show X2.p.box=none from by show X2.d.bx.map _=none;rw [R8.A.bx];rfl]
       rfl
   ·rintro ⟨q2,nn,⟨⟩⟩ w12 ⟨hu,k12⟩
    have hu:X2.p.his nn=true∨X2.p.wis nn=true:=hu
    have R12:=R11.keeps0 z11 k12
    have z12:w.heap.size≤w12.heap.size:=Nat.le_trans z11 k12.size
    refine Jp_of (fun u w'=>Keeps [] w12 w') (fun J hJ=>?_) ?_
    ·have hpl:pf.len=fl.length:=R12.iF.ok.len
     by_cases hf:0 < fl.length
     ·rw [show decide (((pf.len:Nat):Int) > 0)=true from decide_eq_true (by omega)]
      simp only [Br_true]
      refine ⟨by omega,?_⟩
      have em:((j:Int)).tmod ((pf.len:Nat):Int)=((j % fl.length:Nat):Int):=by rw [hpl];rfl
      show Ix pf (((j:Int)).tmod ((pf.len:Nat):Int)) 1 _ w12
      rw [em]
      obtain ⟨fb,hfb⟩:∃ fb,fl[j % fl.length]?=some fb:=⟨_,List.getElem?_eq_getElem (Nat.mod_lt _ hf)⟩
      refine ldb R12.iF.ok hfb ?_
      exact hJ _ w12 (Keeps.refl _ _)
     ·rw [show decide (((pf.len:Nat):Int) > 0)=false from decide_eq_false (by omega)]
      simp only [Br_false]
      exact hJ _ w12 (Keeps.refl _ _)
    ·rintro ⟨fb,⟨⟩⟩ w13 k13
     have k13:Keeps [] w12 w13:=k13
     have R13:=R12.keeps0 z12 k13
     have z13:w.heap.size≤w13.heap.size:=Nat.le_trans z12 k13.size
     obtain ⟨⟨x0,lo,hx0,hk0⟩,hlen⟩:=rest_step R8.A.J R8.id fb hu
     refine Take4_k R13.A (dcU nn fb) (dcU_D nn fb) (.inr rfl) (okN_of R8.A.J hu) ⟨by show (0:Int)≤0;decide,by show (0:Int) < _;decide⟩ ?_
     intro so sw lb e out wr X3 T3 w14 A14 M14 i14 ow14 nw14 t14 e14
     have R14:=R13.evo z13 e14 A14 M14 (t14.ceq R8.A.J (.inr rfl))
     have z14:w.heap.size≤w14.heap.size:=Nat.le_trans z13 e14.kp.size
     rcases t14 with ⟨hbad,_⟩ | ⟨_,he,hQ,ho,hwr⟩
     ·rw [dcU_bad R8.id] at hbad;cases hbad
     subst he
     rw [hx0] at ho
     obtain ⟨z,hz,hzk⟩:∃ z,out[0]?=some z∧z.kind=6:=by
      match out,ho with
      | z :: _,ho=>
       simp only [List.map_cons,List.cons.injEq] at ho
       exact ⟨z,rfl,by rw [← hk0,← ho.1];rfl⟩
     have hol:=(List.getElem?_eq_some_iff.1 hz).1
     refine dnew R14.A.g fun dd w15 D15 g15 k15=>?_
     have i15:=i14.keeps0 k15
     have hsol:so.len=out.length:=i15.ok.1.len
     dsimp only [Jp]
     simp only [show ((0:Int) != 0)=false from rfl,sb,D15.h]
     rw [show (((so.len:Nat):Int) == 0)=false from by rw [hsol];simpa using (by omega:¬ out.length=0)]
     simp only [sb,D15.h]
     refine ld1 (ρ:=mgR) (i:=0) i15.ok.1 hz 0 (.i .i64) z.kind rfl ?_
     rw [hzk,show ((6:Int) != 6)=false from rfl]
     have kd:Keeps [] w14 w15.drew:=k15.drew
     have R15:=R14.keeps0 z14 kd
     have hst:w15.heap[st]?=some (.cells #[.slice X3.d.sM.p X3.d.sM.len X3.d.sM.cap] 27 (0,0)):=by
      have:=R15.A.g.r.sto.ok.1
      rw [R15.A.stb] at this
      exact this
     have tst:T3 st=12:=by
      have:=(R15.A.g.r.sto.tag X3.d.stb rfl).2
      rw [R15.A.stb] at this
      exact this
     have i16:=i14.keeps0 kd
     simp only [sb,hst,D15.h]
     refine store_k R15.A i16.ok.2.2 ow14 (by have:=R15.M;omega) fun sM w16 A16 k16=>?_
     have s16:Stp 12 T3 T3 w15.drew w16:=⟨k16.toP fun c hc=>.inl (by simp at hc;rw [hc];exact tst),fun _ _ _=>rfl⟩
     have hMl:=applyM_len X3.d.M wr
     refine ⟨20 - (j + 1),by omega,j + 1,_,{ X3 with d:={ X3.d with sM:=sM,M:=(applyM X3.d.M wr).1 } },T3,by rw [w64p (by omega)],rfl,?_,A16,?_,R15.id,R15.frozen,R15.imove,R15.iR.kt (by decide) s16,R15.iF.kt (by decide) s16,fun y hy=>(R15.iD y hy).kt (by decide) s16,R15.hT,R15.kp.same (k16.toP fun c hc=>.inl (by simp at hc;rw [hc];exact nst))⟩
     ·show X3.p.held.length + X3.p.wait.length + (j + 1)≤6
      rw [hQ]
      omega
     ·show (applyM X3.d.M wr).1.length≤(j + 1) * 1000
      have h1:=hMl.1
      have h2:=R15.M
      omega
end Go.Proofs.YthkdehgfdllpoaaGreat
set_option linter.unusedVariables false
set_option linter.unusedSimpArgs false
namespace Go.Proofs.YthkdehgfdllpoaaGreat
open Go Go.Sx
theorem seq_self (a:ByteArray):seq a a=true:=by rw [seq_eq];simp
theorem SameMap_k {w:World} {a b:Sl} {l:List Pa} (ha:RdE paR w a l) (hb:RdE paR w b l) (hN:l.length≤100000000) {K:TR [.sc .b]→Pr} (k:∀ w',Keeps [] w w'→K (true,()) w'):Cl Pg i_sumpterref04_SameMap [.slice a.p a.len a.cap,.slice b.p b.len b.cap] false [.sc .b] K w:=by
 have la:=ha.len
 have lb:=hb.len
 refine sumpterref04_SameMap_call _ _ ?_
 unfold sumpterref04_SameMap
 rw [show ((((a.len:Nat):Int):Int) != ((b.len:Nat):Int))=false from by rw [la,lb];simp]
 simp only [Br_false]
 refine ⟨fun n st w'=>∃ (i:Nat) (q:Bool),st=(q,(i:Int),())∧n=l.length - i∧i≤l.length∧Keeps [] w w',⟨_,0,false,rfl,rfl,by omega,Keeps.refl _ _⟩,?_⟩
 rintro n _ w1 ⟨i,q,rfl,rfl,hi,k1⟩
 dsimp only
 by_cases hlt:i < l.length
 ·rw [decide_eq_true (by omega)]
  simp only [Br_true]
  obtain ⟨x,hx⟩:∃ x,l[i]?=some x:=⟨_,List.getElem?_eq_getElem hlt⟩
  unfold Dr
  refine ld_Pair (ha.keeps0 k1.drew) hx ?_
  refine ld_Pair (hb.keeps0 k1.drew) hx ?_
  rw [seq_self,seq_self]
  exact ⟨l.length - (i + 1),by omega,i + 1,q,by rw [w64p (by omega)],rfl,by omega,k1.drew⟩
 ·rw [decide_eq_false (by omega)]
  exact k w1 k1
theorem SameResults_k {w:World} {a b:Sl} {l l':List Rs} (ha:RsDs a l w) (hb:RsDs b l' w) (he:l.map Rs.p=l'.map Rs.p) (hN:l.length≤100000000) (hP:∀ x∈l,x.pairs.length≤100000000) {K:TR [.sc .b]→Pr} (k:∀ w',Keeps [] w w'→K (true,()) w'):Cl Pg i_sumpterref04_SameResults [.slice a.p a.len a.cap,.slice b.p b.len b.cap] false [.sc .b] K w:=by
 have la:=ha.1.len
 have lb:=hb.1.len
 have hll:l.length=l'.length:=by have:=congrArg List.length he;simpa using this
 refine sumpterref04_SameResults_call _ _ ?_
 unfold sumpterref04_SameResults
 rw [show ((((a.len:Nat):Int):Int) != ((b.len:Nat):Int))=false from by rw [la,lb,hll];simp]
 simp only [Br_false]
 refine ⟨fun n st w'=>∃ (i:Nat) (q:Bool),st=(q,(i:Int),())∧n=l.length - i∧i≤l.length∧Keeps [] w w',⟨_,0,false,rfl,rfl,by omega,Keeps.refl _ _⟩,?_⟩
 rintro n _ w1 ⟨i,q,rfl,rfl,hi,k1⟩
 dsimp only
 by_cases hlt:i < l.length
 ·rw [decide_eq_true (by omega)]
  simp only [Br_true]
  obtain ⟨x,hx⟩:∃ x,l[i]?=some x:=⟨_,List.getElem?_eq_getElem hlt⟩
  obtain ⟨y,hy⟩:∃ y,l'[i]?=some y:=⟨_,List.getElem?_eq_getElem (by omega)⟩
  have hxy:x.p=y.p:=by
   have h1:(l.map Rs.p)[i]?=some x.p:=by rw [List.getElem?_map,hx];rfl
   have h2:(l'.map Rs.p)[i]?=some y.p:=by rw [List.getElem?_map,hy];rfl
   rw [he,h2] at h1
   injection h1 with h1
   exact h1.symm
  have e1:x.found=y.found:=congrArg Rp.found hxy
  have e2:x.value=y.value:=congrArg Rp.value hxy
  have e3:x.pairs=y.pairs:=congrArg Rp.pairs hxy
  have kd:=k1.drew
  dsimp only [Jp]
  unfold Dr
  refine ld1 (ρ:=rsR) (ha.1.keeps0 kd) hx 0 .b x.found rfl ?_
  refine ld1 (ρ:=rsR) (hb.1.keeps0 kd) hy 0 .b y.found rfl ?_
  rw [e1,show (!(y.found == y.found))=false from by simp]
  simp only [Br_false]
  refine ld1 (ρ:=rsR) (ha.1.keeps0 kd) hx 1 .s x.value rfl ?_
  refine ld1 (ρ:=rsR) (hb.1.keeps0 kd) hy 1 .s y.value rfl ?_
  rw [e2,seq_self]
  simp only [Bool.not_true,Br_false]
  refine ld1 (ρ:=rsR) (ha.1.keeps0 kd) hx 2 .sl x.sp rfl ?_
  refine ld1 (ρ:=rsR) (hb.1.keeps0 kd) hy 2 .sl y.sp rfl ?_
  have pa:RdE paR w x.sp x.pairs:=ha.2 x (List.mem_of_getElem? hx)
  have pb:RdE paR w y.sp y.pairs:=hb.2 y (List.mem_of_getElem? hy)
  refine SameMap_k (l:=x.pairs) (pa.keeps0 kd) (by rw [e3];exact pb.keeps0 kd) (hP x (List.mem_of_getElem? hx)) fun w2 k2=>?_
  exact ⟨l.length - (i + 1),by omega,i + 1,q,by rw [w64p (by omega)],rfl,by omega,kp0 kd k2⟩
 ·rw [decide_eq_false (by omega)]
  exact k w1 k1
end Go.Proofs.YthkdehgfdllpoaaGreat
set_option linter.unusedVariables false
set_option linter.unusedSimpArgs false
namespace Go.Proofs.YthkdehgfdllpoaaGreat
open Go Go.Sx
def VI (P:PS):Prop:=∀ x∈P.out,x.kind=4→x.code=3→∃ h∈P.held,h.txn=x.txn∧x.results=(applyM (applyM P.M P.writes).1 h.ops).2
theorem VI.same {P Q:PS} (h:VI P) (ho:Q.out=P.out) (hh:Q.held=P.held) (hM:Q.M=P.M) (hw:Q.writes=P.writes):VI Q:=by
 unfold VI
 rw [ho,hh,hM,hw]
 exact h
theorem VI.vote {P:PS} (h:VI P) (t c:Int) (rs:List Rp) (hc:c ≠ 3):VI (P.vote t c rs):=by
 intro x hx h4 h3
 rcases List.mem_append.1 hx with hx | hx
 ·exact h x hx h4 h3
 ·rw [List.mem_singleton] at hx
  subst hx
  exact absurd h3 hc
theorem VI.yes {P:PS} (h:VI P) {i:Nat} {x:PW}:VI (((P.unwait i).hold x.txn x.ops).vote x.txn 3 (((P.unwait i).hold x.txn x.ops).results x.ops)):=by
 intro y hy h4 h3
 rcases List.mem_append.1 hy with hy | hy
 ·obtain ⟨z,hz,e1,e2⟩:=h y hy h4 h3
  refine ⟨z,?_,e1,e2⟩
  show z∈P.held.take ((P.unwait i).hat x.txn) ++ ⟨x.txn,x.ops⟩ :: P.held.drop ((P.unwait i).hat x.txn)
  rw [← List.take_append_drop ((P.unwait i).hat x.txn) P.held] at hz
  rcases List.mem_append.1 hz with hz | hz
  ·exact List.mem_append.2 (.inl hz)
  ·exact List.mem_append.2 (.inr (List.mem_cons_of_mem _ hz))
 ·rw [List.mem_singleton] at hy
  subst hy
  exact ⟨⟨x.txn,x.ops⟩,List.mem_append.2 (.inr List.mem_cons_self),rfl,rfl⟩
theorem VI.goes:∀ (f:Nat) {P:PS} {t:Int},POk P→VI P→VI (P.goes f t)
 | 0,P,t,_,v=>v
 | f + 1,P,t,h,v=>by
  unfold PS.goes
  split
  ·exact v
  ·rename_i hw
   have hw:P.wis t=true:=by simpa using hw
   obtain ⟨x,hx,ht⟩:=wis_at h hw
   rw [hx]
   dsimp only
   subst ht
   split
   ·exact v.yes
   ·split
    ·exact v
    ·rename_i lk hlk
     obtain ⟨h1,_⟩:=h.ask1 hx hlk
     have v1:VI (P.ask1 (P.wat x.txn) x lk):=v.same rfl rfl rfl rfl
     split
     ·exact v1
     ·split
      ·exact VI.same (P:=((P.ask1 (P.wat x.txn) x lk).unwait (P.wat x.txn)).vote x.txn 5 []) ((VI.same (P:=P.ask1 (P.wat x.txn) x lk) v1 rfl rfl rfl rfl).vote x.txn 5 [] (by decide)) rfl rfl rfl rfl
      ·exact VI.goes f h1 v1
theorem VI.event {P:PS} (h:POk P) (v:VI P) (ev:Ev):VI (P.event ev):=by
 unfold PS.event
 split
 ·exact v.goes 30 h
 ·split
  ·exact (VI.same (P:=P) v rfl rfl rfl rfl).vote _ 5 [] (by decide)
  ·exact v
theorem VI.through:∀ (f:Nat) {P:PS},POk P→VI P→VI (P.through f)
 | 0,P,_,v=>v
 | f + 1,P,h,v=>by
  cases hl:P.line with
  | nil=>
   unfold PS.through
   rw [hl]
   exact v
  | cons ev l=>
   rw [through_cons hl]
   obtain ⟨h1,_⟩:=h.pop hl
   exact VI.through f (h1.event ev).1 (VI.event h1 (VI.same (P:=P) v rfl rfl rfl rfl) ev)
theorem VI.works {P:PS} (h:POk P) (v:VI P) (t epoch:Int) {ops:List Op} (ho:opsE ops=0) (hl:ops.length≤24) (hb:P.out.length + P.left + 60≤20000):VI (P.works t epoch ops):=by
 unfold PS.works
 cases hg:P.gone t with
 | true=>rw [if_pos rfl];exact v
 | false=>
  rw [if_neg (by simp)]
  cases hh:P.his t with
  | true=>
   rw [if_pos rfl]
   obtain ⟨x,hx,hxt⟩:=his_at h hh
   rw [hx]
   dsimp only
   intro y hy h4 h3
   rcases List.mem_append.1 hy with hy | hy
   ·exact v y hy h4 h3
   ·rw [List.mem_singleton] at hy
    subst hy
    exact ⟨x,List.mem_of_getElem? hx,hxt,rfl⟩
  | false=>
   rw [if_neg (by simp)]
   cases hr:P.refuses epoch ops with
   | true=>rw [if_pos rfl];exact v.vote _ _ _ (by decide)
   | false=>
    rw [if_neg (by simp)]
    have hwis:P.wis t=false:=by unfold PS.gone at hg;simp only [Bool.or_eq_false_iff] at hg;exact hg.2
    have hful:P.full=false:=by unfold PS.refuses at hr;simp only [Bool.or_eq_false_iff] at hr;exact hr.2.1
    have hc:P.held.length + P.wait.length < 6:=by unfold PS.full at hful;simp only [Bool.or_eq_false_iff,decide_eq_false_iff_not] at hful;omega
    obtain ⟨h1,b1⟩:=h.await ho hl (wis_not h hwis) (his_not h hh) (by omega) hb
    obtain ⟨h2,b2⟩:=h1.goes 30 (t:=t)
    exact VI.through fuelT h2 (VI.goes 30 h1 (VI.same (P:=P) v rfl rfl rfl rfl))
theorem VI.finish {P:PS} (h:POk P) (v:VI P) (t:Int) (hf:P.fin.length < 100000):VI (P.finish t):=by
 obtain ⟨h1,_⟩:=h.fine t hf
 obtain ⟨h2,_⟩:=h1.release t
 have v1:VI (P.fine t):=by unfold PS.fine;split;exact VI.same (P:=P) v rfl rfl rfl rfl;exact v
 exact VI.through fuelT h2 (VI.same (P:=P.fine t) v1 rfl rfl rfl rfl)
theorem VI.none {P:PS} (h:∀ x∈P.out,x.kind ≠ 4):VI P:=fun x hx h4=>absurd h4 (h x hx)
theorem VI.decide {P:PS} (h:PJ P) (u:Int) (flag:Bool) (ho:P.out=[]) (hb:P.out.length + 1 + P.left≤20000) (hw:P.writes.length≤900):VI (P.decide u flag):=by
 have ha:POk (P.ack u):=h.ok.ack u hb
 have hf:=fin_lt h
 have hk:∀ x∈(P.ack u).out,x.kind ≠ 4:=by
  intro x hx
  have hx:x∈P.out ++ [_]:=hx
  rw [ho,List.nil_append,List.mem_singleton] at hx
  subst hx
  show (6:Int) ≠ 4
  decide
 unfold PS.decide
 cases hh:P.his u with
 | true=>
  rw [if_pos rfl]
  obtain ⟨x,hx,hxt⟩:=his_at h.ok hh
  rw [hx]
  dsimp only
  obtain ⟨v1,v2⟩:=h.ok.hv x (List.mem_of_getElem? hx)
  have hwl:=wrs_le flag x.ops
  have hu:POk ((P.ack u).unhold (P.hat u)):=ha.unhold _
  have hwa:POk (((P.ack u).unhold (P.hat u)).writeAll (PS.wrs flag x.ops)):=hu.writeAll (wrs_ok v1) (by show P.writes.length + _≤1000;omega)
  have e:=writeAll_same (PS.wrs flag x.ops) ((P.ack u).unhold (P.hat u))
  exact VI.finish hwa (VI.none (by rw [e];exact hk)) u (by rw [e];exact hf)
 | false=>
  rw [if_neg (by simp)]
  cases hwi:P.wis u with
  | true=>
   rw [if_pos rfl]
   obtain ⟨x,hx,hxt⟩:=wis_at h.ok hwi
   obtain ⟨hu,_⟩:=ha.unwait (i:=P.wat u) hx
   exact VI.finish hu (VI.none hk) u hf
  | false=>
   rw [if_neg (by simp)]
   exact VI.none hk
theorem VI.taken {P:PS} (h:PJ P) {x:PM} (hk:x.kind=3∨x.kind=5) (hb:P.bad x=false):VI (P.taken x):=by
 have hc:=h.clear
 have hleft:=hc.left
 have ho:P.clear.out.length=0:=rfl
 unfold PS.taken
 rcases hk with h3 | h5
 ·rw [if_pos h3]
  unfold PS.bad at hb
  simp only [Bool.or_eq_false_iff,Bool.not_eq_false'] at hb
  have hm:=hb.1
  unfold pmOk headP at hm
  rw [if_pos h3] at hm
  simp only [Bool.and_eq_true,decide_eq_true_iff] at hm
  refine VI.works (hc.ok.lowUp x.low) (VI.none ?_) x.txn x.epoch hm.1.2.2.2.2.2 hm.1.2.2.2.2.1 (by rw [lowUp_out,lowUp_left];omega)
  rw [lowUp_out]
  intro y hy
  cases hy
 ·rw [if_neg (by omega)]
  exact VI.decide hc x.txn x.flag rfl (by omega) (by show 0≤900;omega)
end Go.Proofs.YthkdehgfdllpoaaGreat
set_option linter.unusedVariables false
set_option linter.unusedSimpArgs false
namespace Go.Proofs.YthkdehgfdllpoaaGreat
open Go Go.Sx
theorem txn_inj {l:List PH} (h:l.Pairwise (fun a b=>a.txn < b.txn)) {x y:PH} (hx:x∈l) (hy:y∈l) (e:x.txn=y.txn):x=y:=by
 obtain ⟨i,hi,rfl⟩:=List.mem_iff_getElem.1 hx
 obtain ⟨j,hj,rfl⟩:=List.mem_iff_getElem.1 hy
 rcases Nat.lt_trichotomy i j with h1 | h1 | h1
 ·have:=List.pairwise_iff_getElem.1 h i j hi hj h1
  omega
 ·subst h1
  rfl
 ·have:=List.pairwise_iff_getElem.1 h j i hj hi h1
  omega
theorem doM_pairs (m:List Pa) (o:Op):(doM m o).2.pairs.length≤m.length:=by
 unfold doM
 split
 ·dsimp only
  split <;> simp [noRp]
 ·split
  ·simp [noRp]
  ·split
   ·simp [noRp]
   ·split
    ·dsimp only
     rw [List.length_take]
     exact Nat.le_trans (Nat.min_le_right _ _) (List.length_filter_le _ _)
    ·simp [noRp]
theorem applyM_pairs:∀ (l:List Op) (m:List Pa),∀ x∈(applyM m l).2,x.pairs.length≤m.length + l.length
 | [],m,x,hx=>by cases hx
 | o :: l,m,x,hx=>by
  have e:(applyM m (o :: l)).2=(doM m o).2 :: (applyM (doM m o).1 l).2:=rfl
  rw [e] at hx
  have h1:=(applyM_len m [o]).1
  have e1:(applyM m [o]).1=(doM m o).1:=rfl
  rw [e1] at h1
  simp only [List.length_cons,List.length_nil] at h1 ⊢
  rcases List.mem_cons.1 hx with rfl | hx
  ·have:=doM_pairs m o
   omega
  ·have:=applyM_pairs l (doM m o).1 x hx
   omega
theorem bx_Msg (z:Mg) {K:Addr→Pr} {w:World} (h:∀ b w1,w1.heap[b]?=some (.cells #[.int .i64 z.kind,.int .i64 z.src,.int .i64 z.dst,.int .i64 z.client,.int .i64 z.code,.int .i64 z.peer,.int .u64 z.req,.int .u64 z.boot,.int .u64 z.txn,.int .u64 z.low,.int .u64 z.ver,.int .u64 z.epoch,.int .u64 z.move,.int .u64 z.attempt,.int .u64 z.n,.bool z.flag,.string z.rlo,.string z.rhi,.slice z.so.p z.so.len z.so.cap,.slice z.sr.p z.sr.len z.sr.cap,.slice z.sw.p z.sw.len z.sw.cap] 47 (0,0))→w.heap.size≤b→Keeps [] w w1→K ⟨b,0,none⟩ w1) :
  New #[.int .i64 0,.int .i64 0,.int .i64 0,.int .i64 0,.int .i64 0,.int .i64 0,.int .u64 0,.int .u64 0,.int .u64 0,.int .u64 0,.int .u64 0,.int .u64 0,.int .u64 0,.int .u64 0,.int .u64 0,.bool false,.string (BA []),.string (BA []),.slice none 0 0,.slice none 0 0,.slice none 0 0] 47 (fun a=>St (a.add 0) (.int .i64 z.kind) <| St (a.add 1) (.int .i64 z.src) <| St (a.add 2) (.int .i64 z.dst) <| St (a.add 3) (.int .i64 z.client) <| St (a.add 4) (.int .i64 z.code) <| St (a.add 5) (.int .i64 z.peer) <| St (a.add 6) (.int .u64 z.req) <| St (a.add 7) (.int .u64 z.boot) <| St (a.add 8) (.int .u64 z.txn) <| St (a.add 9) (.int .u64 z.low) <| St (a.add 10) (.int .u64 z.ver) <| St (a.add 11) (.int .u64 z.epoch) <| St (a.add 12) (.int .u64 z.move) <| St (a.add 13) (.int .u64 z.attempt) <| St (a.add 14) (.int .u64 z.n) <| St (a.add 15) (.bool z.flag) <| St (a.add 16) (.string z.rlo) <| St (a.add 17) (.string z.rhi) <| St (a.add 18) (.slice z.so.p z.so.len z.so.cap) <| St (a.add 19) (.slice z.sr.p z.sr.len z.sr.cap) <| St (a.add 20) (.slice z.sw.p z.sw.len z.sw.cap) <| (K a)) w:=
 New_st (vs:=mgR.c z) rfl (mgR.one z) h
set_option maxHeartbeats 8000000 in
theorem PartReads_k {w:World} {pm pl:Sl} {ml:List Pa} {l:List Sp} (hM:RdE paR w pm ml) (h:RdE spR w pl l) (hD:∀ y∈l,MgD y.x w) (hO:∀ y∈l,okN y.x.txn∧okN y.x.low) (hml:ml.length≤8796093022208) {K:TR [.sc .b]→Pr} (k:∀ w',Keeps [] w w'→K (true,()) w'):Cl Pg i_sumpterlaw20_PartReads [.slice pm.p pm.len pm.cap,.slice pl.p pl.len pl.cap] false [.sc .b] K w:=by
 refine sumpterlaw20_PartReads_call _ _ ?_
 unfold sumpterlaw20_PartReads
 have hl:=h.len
 have hlm:=hM.len
 refine live_k fun w1 k1=>?_
 have hF:RdE flR w ⟨none,0,0⟩ []:=RdE.nil _
 refine Jp_of (fun s w'=>(s.1=false→MapOk ml∧ml.length≤60∧l.length≤60)∧Keeps [] w1 w') (fun J hJ=>?_) ?_
 ·refine RCheckMap_k (hM.keeps0 k1) hml fun e w2 he k2=>?_
  by_cases h0:e=0
  ·rw [h0]
   simp only [show ((0:Int) != 0)=false from rfl,Br_false]
   by_cases h60:ml.length≤60
   ·rw [show decide (((pm.len:Nat):Int) > 60)=false from decide_eq_false (by omega)]
    simp only [Br_false]
    exact hJ _ _ ⟨fun hd=>⟨he.1 h0,h60,by rw [decide_eq_false_iff_not] at hd;omega⟩,k2⟩
   ·rw [show decide (((pm.len:Nat):Int) > 60)=true from decide_eq_true (by omega)]
    simp only [Br_true]
    exact hJ _ _ ⟨(fun hd=>by cases hd),k2⟩
  ·rw [show (e != 0)=true from by simpa using h0]
   simp only [Br_true]
   exact hJ _ _ ⟨(fun hd=>by cases hd),k2⟩
 rintro ⟨b0,_⟩ w2 ⟨hb0,k2⟩
 have k02:=kp0 k1 k2
 cases b0 with
 | true=>
  simp only [sb]
  exact k w2 k02
 | false=>
  obtain ⟨hMk,hm60,hl60⟩:=hb0 rfl
  simp only [sb]
  refine SlC.app (ρ:=paR) (l:=[]) (SlC.nil _ _) (hM.keeps0 k02).rd hlm (by rw [zc_Pair];rfl) (by rw [hlm];show (0 + ml.length) * 32≤_;omega) (by rw [hlm];show 0 + ml.length≤_;omega) ?_
  intro sM w3 hsM k3 fM
  have k3:Keeps [] w2 w3:=k3.mono (by simp [blk])
  have fM:∀ x∈blk sM,w2.heap.size≤x:=fun x hx=>by rcases fM x hx with h' | h';simp [blk] at h';exact h'
  rw [List.nil_append] at hsM
  have k03:=kp0 k02 k3
  refine New_bx fun st w4 h4 n4 k4=>?_
  have k04:=kp0 k03 k4
  have nst:w.heap.size≤st:=by have:=k03.size;omega
  refine first_k fun a w5 h5 n5 k5=>?_
  have h45:=k5.at0 h4
  have k05:=kp0 k04 k5
  have sM5:=hsM.keeps0 (kp0 k4 k5)
  refine New0_k (d:=d0 a) (stb:=st) (sM:=sM) (M:=ml) h5 (show SdN (d0 a) from ⟨show (2:Nat)≤100000 by decide,show (0:Nat)≤100000 by decide,show (0:Nat)≤200000 by decide,by simp [d0]⟩) t0 rfl ⟨show (0:Int)≤0 by decide,show (0:Int) + 1 < 18446744073709551616 by decide⟩ h45 sM5.rde (fun hx=>by have:=hsM.lt _ (SlC.rb hsM _ hx);omega) ?_
  intro m T X w6a h6a q6 st6 sm6 hT k6a
  have q6:X.p=P0 ml:=q6
  refine Jp_b false (fun J hJ=>?_) fun w6 kx=>?_
  ·simp only [Option.isNone_some,sb,show ((0:Int) != 0)=false from rfl]
   exact hJ _ (Keeps.refl _ _)
  have h6:=h6a.keeps0 kx
  have k06:=kp0 (kp0 k05 k6a) kx
  simp only [sb]
  have hT:∀ b,T b ≠ 0→w.heap.size≤b:=fun b hb=>by rcases hT b hb with rfl | h';exact nst;have:=k05.size;omega
  have hz:∀ b,b < w.heap.size→T b=0:=fun b hb=>Classical.byContradiction fun hne=>by have:=hT b hne;omega
  have bx6:X.d.bx=none:=by
   have hb:X.p.box=none:=by rw [q6];rfl
   cases hc:X.d.bx with
   | none=>rfl
   | some b=>rw [show X.p.box=X.d.bx.map fun _=>X.d.box.p from rfl,hc] at hb;cases hb
  have hM6:X.d.M=ml:=by
   have:X.p.M=ml:=by rw [q6];rfl
   exact this
  have A6:At w6 m st T X:=⟨h6,by rw [q6];exact PJ0 hMk (by omega),bx6,st6⟩
  have R6:RI w w6 pl ⟨none,0,0⟩ l [] m st 1 w6 X T:=⟨A6,by rw [hM6];omega,by rw [q6];rfl,by rw [q6];rfl,by rw [q6];rfl,Imm.of (h.keeps0 k06) fun b hb=>hz b (h.lt b hb),Imm.of (hF.keeps0 k06) fun b hb=>hz b (hF.lt b hb),fun y hy=>mgd_imm (hD y hy) k06 hz,hT,KeepsP.refl _ _⟩
  have fin:∀ (w':World),KeepsP (fun b=>w.heap.size≤b) w6 w'→Keeps [] w w':=fun w' e=>by
   have:=k06.toP0 (F:=fun _=>False) |>.trans e (fun x hx=>.inr hx)
   exact this.toL0
  have z6:w.heap.size≤w6.heap.size:=k06.size
  refine ⟨fun n stt w'=>∃ (i:Nat) (q:Bool) (X1:Mc) (T1:Nat→Nat),stt=(q,(i:Int),())∧n=l.length - i∧i≤l.length∧RI w w6 pl ⟨none,0,0⟩ l [] m st (i + 1) w' X1 T1,⟨_,0,false,X,T,rfl,rfl,by omega,R6⟩,?_⟩
  rintro n _ w7 ⟨i,q,X1,T1,rfl,rfl,hi,R7⟩
  have z7:w.heap.size≤w7.heap.size:=Nat.le_trans z6 R7.kp.size
  dsimp only
  by_cases hlt:i < l.length
  ·rw [decide_eq_true (by omega)]
   simp only [Br_true]
   obtain ⟨y,hy⟩:∃ y,l[i]?=some y:=⟨_,List.getElem?_eq_getElem hlt⟩
   have hym:=List.mem_of_getElem? hy
   refine Jp_of (fun s w'=>∃ (X2:Mc) (T2:Nat→Nat),RI w w6 pl ⟨none,0,0⟩ l [] m st (i + 2) w' X2 T2) (fun J hJ=>?_) ?_
   ·refine ld_Sp R7.iR.ok hy ?_
    refine bx_Sp y fun b w8 h8 n8 k8=>?_
    have R8:=R7.keeps0 z7 k8
    have z8:w.heap.size≤w8.heap.size:=Nat.le_trans z7 k8.size
    refine Jp_b ((y.x.kind != 3) && (y.x.kind != 5)) (fun J2 hJ2=>?_) fun w9 k9=>?_
    ·simp only [sb,h8]
     cases c3:(y.x.kind != 3) with
     | true=>
      rw [c3,Bool.true_and] at hJ2
      simp only [sb,h8]
      exact hJ2 _ (Keeps.refl _ _)
     | false=>
      rw [c3,Bool.false_and] at hJ2
      simp only [sb]
      exact hJ2 _ (Keeps.refl _ _)
    ·have R9:=R8.keeps0 z8 k9
     have z9:w.heap.size≤w9.heap.size:=Nat.le_trans z8 k9.size
     have h9:=k9.at0 h8
     cases ck:((y.x.kind != 3) && (y.x.kind != 5)) with
     | true=>
      simp only [Br_true]
      exact hJ _ w9 ⟨X1,T1,R9.A,Nat.le_trans R9.M (by omega),R9.id,R9.frozen,R9.imove,R9.iR,R9.iF,R9.iD,R9.hT,R9.kp⟩
     | false=>
      have hk:y.x.kind=3∨y.x.kind=5:=by
       rw [Bool.and_eq_false_iff] at ck
       rcases ck with h | h
       ·exact .inl (by simpa using h)
       ·exact .inr (by simpa using h)
      simp only [sb,h9]
      obtain ⟨o1,o2⟩:=hO y hym
      refine Take4_k R9.A y.x (R9.iD y hym) hk o1 o2 ?_
      intro so sw lb e out wr X3 T3 w14 A14 M14 i14 ow14 nw14 t14 e14
      have R14:=R9.evo z9 e14 A14 M14 (t14.ceq R9.A.J hk)
      have z14:w.heap.size≤w14.heap.size:=Nat.le_trans z9 e14.kp.size
      refine dnew R14.A.g fun dd w15 D15 g15 k15=>?_
      have kd:Keeps [] w14 w15.drew:=k15.drew
      have R15:=R14.keeps0 z14 kd
      have hst:w15.heap[st]?=some (.cells #[.slice X3.d.sM.p X3.d.sM.len X3.d.sM.cap] 27 (0,0)):=by
       have:=R15.A.g.r.sto.ok.1
       rw [R15.A.stb] at this
       exact this
      have tst:T3 st=12:=by
       have:=(R15.A.g.r.sto.tag X3.d.stb rfl).2
       rw [R15.A.stb] at this
       exact this
      have i16:=i14.keeps0 kd
      simp only [sb,hst,D15.h]
      refine store_k R15.A i16.ok.2.2 ow14 (by have:=R15.M;omega) fun sM2 w16 A16 k16=>?_
      have s16:Stp 12 T3 T3 w15.drew w16:=⟨k16.toP fun c hc=>.inl (by simp at hc;rw [hc];exact tst),fun _ _ _=>rfl⟩
      have hMl:=applyM_len X3.d.M wr
      have i17:=i16.kt (by decide) s16
      have D16:w16.heap[dd]?=_:=k16.at1 (show w15.drew.heap[dd]?=_ from D15.h) (fun e=>by have:=D15.t;rw [e,tst] at this;cases this)
      have R16:RI w w6 pl ⟨none,0,0⟩ l [] m st (i + 2) w16 { X3 with d:={ X3.d with sM:=sM2,M:=(applyM X3.d.M wr).1 } } T3:=⟨A16,by show (applyM X3.d.M wr).1.length≤(i + 2) * 1000;have h1:=hMl.1;have h2:=R15.M;omega,R15.id,R15.frozen,R15.imove,R15.iR.kt (by decide) s16,R15.iF.kt (by decide) s16,fun y hy=>(R15.iD y hy).kt (by decide) s16,R15.hT,R15.kp.same (k16.toP fun c hc=>.inl (by simp at hc;rw [hc];exact nst))⟩
      have z16:w.heap.size≤w16.heap.size:=Nat.le_trans z6 R16.kp.size
      have yes:∀ z∈out,z.kind=4→z.code=3→∀ hx∈X3.p.held,hx.txn=z.txn→(z.results.map Rs.p)=(applyM (applyM X3.d.M wr).1 hx.ops).2:=by
       intro z hz h4 h3 hx hxm ht
       rcases t14 with ⟨_,_,_,ho,_⟩ | ⟨hb,_,hQ,ho,hw⟩
       ·have:=congrArg List.length ho
        rw [List.length_map] at this
        rw [List.eq_nil_of_length_eq_zero this] at hz
        cases hz
       ·have v:=VI.taken R9.A.J (x:=y.x.p) hk hb
        have hk3:y.x.kind=3∨y.x.kind=5∨y.x.kind=6:=hk.elim .inl (fun h=>.inr (.inl h))
        have pj:=R9.A.J.taken (x:=y.x.p) o1 o2 hb hk3
        obtain ⟨g,hg,e1,e2⟩:=v z.p (by rw [← ho];exact List.mem_map.2 ⟨z,hz,rfl⟩) h4 h3
        have hxm':hx∈(X1.p.taken y.x.p).held:=by rw [hQ] at hxm;exact hxm
        have:=txn_inj pj.ok.hd hxm' hg (ht.trans e1.symm)
        subst this
        have eM:X3.d.M=(X1.p.taken y.x.p).M:=by rw [M14];exact (taken_M R9.A.J (x:=y.x.p) hk hb).symm
        rw [eM,hw]
        exact e2
      have hol:out.length≤20000:=by
       rcases t14 with ⟨_,_,_,ho,_⟩ | ⟨hb,_,hQ,ho,hw⟩
       ·have:=congrArg List.length ho
        rw [List.length_map] at this
        rw [this]
        decide
       ·have hk3:y.x.kind=3∨y.x.kind=5∨y.x.kind=6:=hk.elim .inl (fun h=>.inr (.inl h))
        have pj:=R9.A.J.taken (x:=y.x.p) o1 o2 hb hk3
        have:=congrArg List.length ho
        rw [List.length_map] at this
        have:=pj.ok.bd
        omega
      have hv3:∀ hx∈X3.p.held,opsE hx.ops=0∧hx.ops.length≤24:=R14.A.J.ok.hv
      refine State_k R16.A.g (PN_of R16.A.J.ok R16.A.J.ct).sd fun dS w17 hS k17=>?_
      refine New_bx fun s w18 h18 n18 k18=>?_
      refine putSh h18 rfl dS fun w19 h19 k19=>?_
      have k1719:Keeps [] w17 w19:=kp1 k18 k19 n18
      have k1619:=kp0 k17 k1719
      have sh19:=hS.he.keeps k1719 (by simp)
      have sd19:ShD dS w19:=hS.shd.keeps0 k1719
      have D19:=k1619.at0 D16
      have hst19:w19.heap[st]?=some (.cells #[.slice sM2.p sM2.len sM2.cap] 27 (0,0)):=by
       have:=(R16.A.keeps0 k1619).g.r.sto.ok.1
       rw [(R16.A.keeps0 k1619).stb] at this
       exact this
      have hM19:RdE paR w19 sM2 (applyM X3.d.M wr).1:=(R16.A.keeps0 k1619).g.r.sto.ok.2
      have i19:=i17.keeps0 k1619
      have R19:=R16.keeps0 z16 k1619
      have z19:w.heap.size≤w19.heap.size:=Nat.le_trans z16 k1619.size
      simp only [sb,D19]
      have hso:so.len=out.length:=i19.ok.1.len
      refine ⟨fun n stt w'=>∃ (j:Nat) (q:Bool),stt=(q,(j:Int),())∧n=out.length - j∧j≤out.length∧Keeps [] w19 w',⟨_,0,q,rfl,rfl,by omega,Keeps.refl _ _⟩,?_⟩
      rintro n _ w20 ⟨j,q2,rfl,rfl,hj,k20⟩
      dsimp only
      by_cases hjl:j < out.length
      ·rw [decide_eq_true (by omega)]
       simp only [Br_true]
       obtain ⟨z,hzj⟩:∃ z,out[j]?=some z:=⟨_,List.getElem?_eq_getElem hjl⟩
       have hzm:=List.mem_of_getElem? hzj
       refine Jp_of (fun s w'=>Keeps [] w19 w') (fun J3 hJ3=>?_) ?_
       ·refine ld_Msg (i19.ok.1.keeps0 k20) hzj ?_
        refine bx_Msg z fun vb w21 h21 n21 k21=>?_
        refine Jp_b ((z.kind != 4) || (z.code != 3)) (fun J4 hJ4=>?_) fun w22 k22=>?_
        ·simp only [sb,h21]
         cases c4:(z.kind != 4) with
         | true=>
          rw [c4,Bool.true_or] at hJ4
          simp only [sb]
          exact hJ4 _ (Keeps.refl _ _)
         | false=>
          rw [c4,Bool.false_or] at hJ4
          simp only [sb,h21]
          exact hJ4 _ (Keeps.refl _ _)
        ·have k1922:=kp0 (kp0 k20 k21) k22
         have h22:=k22.at0 h21
         cases cv:((z.kind != 4) || (z.code != 3)) with
         | true=>
          simp only [Br_true]
          exact hJ3 _ w22 k1922
         | false=>
          rw [Bool.or_eq_false_iff] at cv
          have hz4:z.kind=4:=by simpa using cv.1
          have hz3:z.code=3:=by simpa using cv.2
          simp only [sb,k1922.at0 h19]
          have hsh:dS.sh.len=dS.held.length:=sh19.len'
          have hdl:dS.held.length≤1000:=by
           have h1:=congrArg List.length hS.held
           rw [List.length_map,List.length_map] at h1
           have h2:(X3.d.held.map Hd.p).length + _≤1000:=R16.A.J.ok.hn
           rw [List.length_map] at h2
           have h3:dS.held.length=X3.d.held.length:=h1
           omega
          refine ⟨fun n stt w'=>∃ (g:Nat) (q:Bool),stt=(q,(g:Int),())∧n=dS.held.length - g∧g≤dS.held.length∧Keeps [] w22 w',⟨_,0,q2,rfl,rfl,by omega,Keeps.refl _ _⟩,?_⟩
          rintro n _ w23 ⟨g,q3,rfl,rfl,hg,k23⟩
          have k1923:=kp0 k1922 k23
          dsimp only
          by_cases hgl:g < dS.held.length
          ·rw [decide_eq_true (by omega)]
           simp only [Br_true]
           obtain ⟨hx,hxg⟩:∃ hx,dS.held[g]?=some hx:=⟨_,List.getElem?_eq_getElem hgl⟩
           have hxm:=List.mem_of_getElem? hxg
           refine Jp_of (fun s w'=>Keeps [] w22 w') (fun J5 hJ5=>?_) ?_
           ·refine ld_Hold (sh19.keeps0 k1923).rde hxg ?_
            refine bx_Hold hx fun hb w24 h24 n24 k24=>?_
            have k1924:=kp0 k1923 k24
            have k2224:=kp0 k23 k24
            simp only [sb,h24,k2224.at0 h22]
            by_cases htx:hx.txn=z.txn
            ·rw [show (hx.txn != z.txn)=false from by simpa using htx]
             simp only [Br_false,sb,h24,k1924.at0 hst19]
             have kdr:Keeps [] w24 w24.drew:=(Keeps.refl _ _).drew
             have k19d:=kp0 k1924 kdr
             have hxp:hx.p∈X3.p.held:=by
              have:hx.p∈dS.held.map Hd.p:=List.mem_map.2 ⟨hx,hxm,rfl⟩
              rw [hS.held] at this
              exact this
             obtain ⟨v1,v2⟩:=hv3 hx.p hxp
             have hMo:MapOk (applyM X3.d.M wr).1:=R16.A.J.ok.mp
             have hMn:(applyM X3.d.M wr).1.length≤200000:=R16.A.J.ok.mn
             have v1:opsE hx.ops=0:=v1
             have v2:hx.ops.length≤24:=v2
             refine RApply_k (hM19.keeps0 k19d) ((sd19.hd hx hxm).keeps0 k19d) (by omega) (by omega) ?_ ?_
             ·intro _ _ r1 r2 rs w25 _ qr qp qd _ k25
              have kf:=kp0 k19d k25
              refine Jp_b false (fun J6 hJ6=>?_) fun w27 k27=>?_
              ·simp only [show ((0:Int) != 0)=false from rfl,Br_false]
               simp only [sb,(kp0 (kp0 k2224 kdr) k25).at0 h22]
               have hzr:RsDs z.sr z.results w25:=((i19.keeps0 kf).ok.2.1 z hzm).2.1
               have he:rs.map Rs.p=z.results.map Rs.p:=by rw [qp];exact (yes z hzm hz4 hz3 hx.p hxp htx).symm
               have hrl:=(applyM_len (applyM X3.d.M wr).1 hx.ops).2
               have hrl':rs.length=hx.ops.length:=by rw [← hrl,← qp,List.length_map]
               refine SameResults_k ⟨qr.rde,qd⟩ hzr he (by omega) (fun x hx'=>?_) fun w26 k26=>?_
               ·have h1:x.p∈(applyM (applyM X3.d.M wr).1 hx.ops).2:=by rw [← qp];exact List.mem_map.2 ⟨x,hx',rfl⟩
                have h2:=applyM_pairs hx.ops _ x.p h1
                have h3:x.p.pairs=x.pairs:=rfl
                rw [h3] at h2
                omega
               ·exact hJ6 _ k26
              ·simp only [Br_false]
               exact hJ5 _ _ (kp0 (kp0 (kp0 k2224 kdr) k25) k27)
             ·intro e _ he
              rcases he with he | he
              ·exact absurd hMo he
              ·exact absurd v1 he
            ·rw [show (hx.txn != z.txn)=true from by simpa using htx]
             simp only [Br_true]
             exact hJ5 _ _ k2224
           ·rintro ⟨q4,_⟩ w24 k24
            exact ⟨dS.held.length - (g + 1),by omega,g + 1,q4,by rw [w64p (by omega)],rfl,by omega,k24⟩
          ·rw [decide_eq_false (by omega)]
           simp only [Br_false]
           exact hJ3 _ w23 k1923
       ·rintro ⟨q4,_⟩ w21 k21
        exact ⟨out.length - (j + 1),by omega,j + 1,q4,by rw [w64p (by omega)],rfl,by omega,k21⟩
      ·rw [decide_eq_false (by omega)]
       simp only [Br_false]
       exact hJ _ w20 ⟨_,T3,R19.keeps0 z19 k20⟩
   ·rintro ⟨q4,_⟩ w8 ⟨X2,T2,R8⟩
    exact ⟨l.length - (i + 1),by omega,i + 1,q4,X2,T2,by rw [w64p (by omega)],rfl,by omega,R8⟩
  ·rw [decide_eq_false (by omega)]
   simp only [Br_false]
   exact k w7 (fin w7 R7.kp)
end Go.Proofs.YthkdehgfdllpoaaGreat
set_option linter.unusedVariables false
set_option linter.unusedSimpArgs false
namespace Go.Proofs.YthkdehgfdllpoaaGreat
open Go Go.Sx Go.ChangeShapes Go.WideShapes Go.ChangeAt Go.RowKit
section
variable {H:Type} {enc:TypeId × Value→H} {W:World}
theorem tz_pairs {v:Value} (h:Tz enc Pg W 25 v):∃ (s:Sl) (l:List Pa),v=.slice s.p s.len s.cap∧RdE paR W s l∧s.len * Pg.bytesOf 111≤140737488355328∧∀ x∈l,True:=
 h.list (k:=6) (e:=111) (L:=[9,9]) (ρ:=paR) (by kernel_rfl) (by kernel_rfl) (by kernel_rfl) (by kernel_rfl) fun y _=>⟨⟨y.1,y.2.1⟩,rfl,trivial⟩
theorem tz_ops {v:Value} (h:Tz enc Pg W 44 v):∃ (s:Sl) (l:List Op),v=.slice s.p s.len s.cap∧RdE opR W s l∧s.len * Pg.bytesOf 81≤140737488355328∧∀ x∈l,True:=
 h.list (k:=6) (e:=81) (L:=[3,9,9,9,9,3]) (ρ:=opR) (by kernel_rfl) (by kernel_rfl) (by kernel_rfl) (by kernel_rfl) fun y _=>⟨⟨y.1,y.2.1,y.2.2.1,y.2.2.2.1,y.2.2.2.2.1,y.2.2.2.2.2.1⟩,rfl,trivial⟩
theorem tz_owners {v:Value} (h:Tz enc Pg W 33 v):∃ (s:Sl) (l:List Ow),v=.slice s.p s.len s.cap∧RdE owR W s l∧s.len * Pg.bytesOf 70≤140737488355328∧∀ x∈l,True:=
 h.list (k:=6) (e:=70) (L:=[9,3]) (ρ:=owR) (by kernel_rfl) (by kernel_rfl) (by kernel_rfl) (by kernel_rfl) fun y _=>⟨⟨y.1,y.2.1⟩,rfl,trivial⟩
theorem sl_inj {s t:Sl} (h:(Value.slice s.p s.len s.cap)=.slice t.p t.len t.cap):s=t:=by
 cases s;cases t
 simp only [Value.slice.injEq] at h
 obtain ⟨rfl,rfl,rfl⟩:=h
 rfl
theorem tz_results {v:Value} (h:Tz enc Pg W 45 v):∃ (s:Sl) (l:List Rs),v=.slice s.p s.len s.cap∧RdE rsR W s l∧s.len * Pg.bytesOf 83≤140737488355328∧∀ x∈l,RdE paR W x.sp x.pairs:=
 h.list (k:=6) (e:=83) (L:=[4,9,25]) (ρ:=rsR) (by kernel_rfl) (by kernel_rfl) (by kernel_rfl) (by kernel_rfl) fun y hy=>by
  obtain ⟨s,l,e,hl,_,_⟩:=tz_pairs hy.2.2.1
  have e:=sl_inj e
  exact ⟨⟨y.1,y.2.1,y.2.2.1,l⟩,rfl,by rw [e];exact hl⟩
theorem tz_steps {v:Value} (h:Tz enc Pg W 22 v):∃ (s:Sl) (l:List Sp),v=.slice s.p s.len s.cap∧RdE spR W s l∧s.len * Pg.bytesOf 49≤140737488355328∧∀ y∈l,MgD y.x W∧okN y.x.txn∧okN y.x.low:=by
 refine h.list (k:=6) (e:=49) (L:=[3,3,3,3,3,3,32,32,32,32,32,32,32,32,32,4,9,9,44,45,33,4]) (ρ:=spR) (by kernel_rfl) (by kernel_rfl) (by kernel_rfl) (by kernel_rfl) ?_
 rintro ⟨x0,x1,x2,x3,x4,x5,x6,x7,x8,x9,x10,x11,x12,x13,x14,x15,x16,x17,x18,x19,x20,x21,⟨⟩⟩ ⟨_,_,_,_,_,_,_,_,h8,h9,_,_,_,_,_,_,_,_,h18,h19,h20,_⟩
 obtain ⟨s1,l1,e1,r1,_,_⟩:=tz_ops h18
 obtain ⟨s2,l2,e2,r2,_,q2⟩:=tz_results h19
 obtain ⟨s3,l3,e3,r3,_,_⟩:=tz_owners h20
 obtain ⟨n8,f8,g8⟩:=h8.u64 (by kernel_rfl)
 obtain ⟨n9,f9,g9⟩:=h9.u64 (by kernel_rfl)
 simp only [Kd.enc,Value.int.injEq,true_and] at f8 f9
 have e1:=sl_inj e1
 have e2:=sl_inj e2
 have e3:=sl_inj e3
 subst e1 e2 e3 f8 f9
 exact ⟨⟨⟨x0,x1,x2,x3,x4,x5,x6,x7,x8,x9,x10,x11,x12,x13,x14,x15,x16,x17,x18,x19,x20,l1,l2,l3⟩,x21⟩,rfl,⟨r1,⟨r2,q2⟩,r3⟩,g8,g9⟩
theorem tz_bools {v:Value} (h:Tz enc Pg W 63 v):∃ (s:Sl) (l:List Bool),v=.slice s.p s.len s.cap∧RdE (Rec.sca .b rfl) W s l∧s.len * Pg.bytesOf 4≤140737488355328∧∀ x∈l,True:=
 h.list (k:=6) (e:=4) (L:=[4]) (ρ:=Rec.sca .b rfl) (by kernel_rfl) (by kernel_rfl) (by kernel_rfl) (by kernel_rfl) fun y _=>⟨y.1,rfl,trivial⟩
end
end Go.Proofs.YthkdehgfdllpoaaGreat
