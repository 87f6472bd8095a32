/- The parts of the proof, 2: words of the program, and what they do. Conditions: none. -/
import Derived.Test.YthkdehgfdllpoaaGreatPk1
import Derived.HandedShaped
import Derived.Lib.Overlaps
import Derived.Test.YthkdehgfdllpoaaGreatProg
import Derived.Test.YthkdehgfdllpoaaGreatChecked
set_option maxRecDepth 100000
set_option linter.unusedSimpArgs false
set_option linter.unusedVariables false
set_option linter.unusedSectionVars false
namespace Go.Sx
open Go
structure KeepsP (F:Nat→Prop) (w w':World):Prop where
 os:w'.os=w.os
 tape:w'.tape=w.tape
 output:w'.output=w.output
 size:w.heap.size≤w'.heap.size
 get:∀ k,k < w.heap.size→¬ F k→w'.heap[k]?=w.heap[k]?
theorem Keeps.toP {m:List Nat} {F:Nat→Prop} {w w':World} (h:Keeps m w w') (hm:∀ x∈m,F x∨w.heap.size≤x):KeepsP F w w':=
 ⟨h.os,h.tape,h.output,h.size,fun k hk hn=>h.get k hk (fun hh=>by rcases hm k hh with hh | hh;exact hn hh;omega)⟩
theorem KeepsP.toL {F:Nat→Prop} {w w':World} (h:KeepsP F w w') (hm:∀ x,F x→w.heap.size≤x):Keeps [] w w':=
 ⟨h.os,h.tape,h.output,h.size,fun k hk _=>h.get k hk (fun hh=>by have:=hm k hh;omega)⟩
theorem KeepsP.refl (F:Nat→Prop) (w:World):KeepsP F w w:=⟨rfl,rfl,rfl,Nat.le_refl _,fun _ _ _=>rfl⟩
theorem KeepsP.trans {F G:Nat→Prop} {a b c:World} (h:KeepsP F a b) (k:KeepsP G b c) (hm:∀ x,G x→F x∨a.heap.size≤x):KeepsP F a c:=
 ⟨k.os.trans h.os,k.tape.trans h.tape,k.output.trans h.output,Nat.le_trans h.size k.size,fun i hi hn=>by
  rw [k.get i (Nat.lt_of_lt_of_le hi h.size) (fun hh=>by rcases hm i hh with hh | hh;exact hn hh;omega)]
  exact h.get i hi hn⟩
theorem KeepsP.mono {F G:Nat→Prop} {w w':World} (h:KeepsP F w w') (hm:∀ x,F x→G x∨w.heap.size≤x):KeepsP G w w':=
 ⟨h.os,h.tape,h.output,h.size,fun k hk hn=>h.get k hk (fun hh=>by rcases hm k hh with hh | hh;exact hn hh;omega)⟩
theorem KeepsP.at {F:Nat→Prop} {w w':World} (h:KeepsP F w w') {b:Nat} {o:Obj} (hb:w.heap[b]?=some o) (hn:¬ F b):w'.heap[b]?=some o:=(h.get b (hp_lt hb) hn).trans hb
theorem KeepsP.list {F:Nat→Prop} {w w':World} (h:KeepsP F w w') {l:List Nat} (hl:∀ x∈l,¬ F x):∃ m,Keeps m w w'∧∀ x∈l,x ∉ m:=by
 refine ⟨(List.range w.heap.size).filter (fun x=>!(decide (x∈l))),⟨h.os,h.tape,h.output,h.size,fun k hk hn=>?_⟩,fun x hx=>by simp [hx]⟩
 refine h.get k hk (hl k ?_)
 simp at hn
 exact hn hk
theorem SlC.keepsP {w w':World} {s:Sl} {size:Nat} {cs:List Value} {F:Nat→Prop} (h:SlC w s size cs) (hk:KeepsP F w w') (hd:∀ x∈blk s,¬ F x):SlC w' s size cs:=by
 obtain ⟨m,h1,h2⟩:=hk.list hd
 exact h.keeps h1 h2
def Fr (F F':Nat→Prop) (w:World):Prop:=∀ x,F' x→F x∨w.heap.size≤x
def Bl (F:Nat→Prop) (w:World):Prop:=∀ x,F x→x < w.heap.size
def Dj (F G:Nat→Prop):Prop:=∀ x,F x→¬ G x
theorem Fr.refl (F:Nat→Prop) (w:World):Fr F F w:=fun _ h=>.inl h
theorem Fr.trans {F G H:Nat→Prop} {a b:World} (h:Fr F G a) (k:Fr G H b) (hs:a.heap.size≤b.heap.size):Fr F H a:=fun x hx=>by
 rcases k x hx with h1 | h1
 ·exact h x h1
 ·exact .inr (Nat.le_trans hs h1)
def KeyOk {κ:Type} [DecidableEq κ] (d:TypeDesc) (ek:κ→Value):Prop:=∀ a b,Instr.sameNow d (ek a) (ek b)=some (decide (a=b))
theorem keyOk_int (k:IntKind):KeyOk (.int k) (Value.int k):=fun a b=>by
 simp only [Instr.sameNow,if_true]
 congr 1
structure MpA {κ:Type} (ek:κ→Value) (kv:List (κ × Value)) (es:List MapEntry) (c:Nat):Prop where
 ents:es.map (fun e=>(e.key,e.val))=kv.map (fun p=>(ek p.1,p.2))
 nd:(kv.map Prod.fst).Nodup
 born:(es.map (·.born)).Nodup
 lt:∀ e∈es,e.born < c
def MpR {κ:Type} (w:World) (m:Nat) (ek:κ→Value) (kv:List (κ × Value)):Prop:=∃ es c,w.heap[m]?=some (.map es c)∧MpA ek kv es.toList c
section
variable {κ:Type} [DecidableEq κ]
def aget (k:κ) (l:List (κ × Value)):Option Value:=match l with
 | []=>none
 | p :: r=>if k=p.1 then some p.2 else aget k r
def aset (k:κ) (v:Value):List (κ × Value)→List (κ × Value)
 | []=>[(k,v)]
 | p :: r=>if k=p.1 then (k,v) :: r else p :: aset k v r
def adel (k:κ):List (κ × Value)→List (κ × Value)
 | []=>[]
 | p :: r=>if k=p.1 then r else p :: adel k r
theorem aget_mem {k:κ} {l:List (κ × Value)} {v:Value} (h:aget k l=some v):(k,v)∈l:=by
 induction l with
 | nil=>cases h
 | cons p r ih=>
  simp only [aget] at h
  split at h
  ·rename_i hk;cases h;subst hk;exact List.mem_cons_self
  ·exact List.mem_cons_of_mem _ (ih h)
theorem aget_aset (k k':κ) (v:Value) (l:List (κ × Value)):aget k' (aset k v l)=if k'=k then some v else aget k' l:=by
 induction l with
 | nil=>simp [aset,aget]
 | cons p r ih=>
  simp only [aset]
  split
  ·rename_i hk;subst hk;simp only [aget];split <;> rfl
  ·rename_i hk
   simp only [aget,ih]
   by_cases h1:k'=p.1
   ·simp [h1,Ne.symm hk]
   ·simp [h1]
theorem keys_aset (k:κ) (v:Value) (l:List (κ × Value)):(aset k v l).map Prod.fst=if k∈l.map Prod.fst then l.map Prod.fst else l.map Prod.fst ++ [k]:=by
 induction l with
 | nil=>simp [aset]
 | cons p r ih=>
  simp only [aset]
  split
  ·rename_i hk;simp [hk]
  ·rename_i hk
   simp only [List.map_cons,ih,List.mem_cons,hk,false_or]
   split <;> rfl
theorem aset_nodup {k:κ} {v:Value} {l:List (κ × Value)} (h:(l.map Prod.fst).Nodup):((aset k v l).map Prod.fst).Nodup:=by
 rw [keys_aset]
 split
 ·exact h
 ·rename_i hk
  rw [List.nodup_append]
  refine ⟨h,by simp,fun a ha b hb=>?_⟩
  simp at hb
  subst hb
  intro he
  subst he
  exact hk ha
def afind (k:κ):List (κ × Value)→Nat→Option (Nat × Value)
 | [],_=>none
 | p :: r,n=>if k=p.1 then some (n,p.2) else afind k r (n + 1)
theorem findNow_kv {d:TypeDesc} {ek:κ→Value} (ho:KeyOk d ek) (k:κ):∀ {es:List MapEntry} {kv:List (κ × Value)} (n:Nat),es.map (fun e=>(e.key,e.val))=kv.map (fun p=>(ek p.1,p.2)) →
  Instr.findNow d (ek k) es n=some (afind k kv n)
 | [],kv,n,h=>by cases kv with
  | nil=>rfl
  | cons p r=>simp at h
 | e :: es,kv,n,h=>by
  cases kv with
  | nil=>simp at h
  | cons p r=>
   simp only [List.map_cons,List.cons.injEq,Prod.mk.injEq] at h
   simp only [Instr.findNow,h.1.1,ho k p.1,afind]
   by_cases hk:k=p.1
   ·rw [decide_eq_true hk,if_pos hk,h.1.2]
   ·rw [decide_eq_false hk,if_neg hk]
    exact findNow_kv ho k (n + 1) h.2
theorem afind_get (k:κ):∀ (l:List (κ × Value)) (n:Nat),(afind k l n).map (·.2)=aget k l
 | [],n=>rfl
 | p :: r,n=>by
  simp only [afind,aget]
  split
  ·rfl
  ·exact afind_get k r (n + 1)
theorem afind_at {k:κ}:∀ {l:List (κ × Value)} {n i:Nat} {v:Value},afind k l n=some (i,v)→n≤i∧l[i - n]?=some (k,v)
 | [],n,i,v,h=>by cases h
 | p :: r,n,i,v,h=>by
  simp only [afind] at h
  split at h
  ·rename_i hk
   simp only [Option.some.injEq,Prod.mk.injEq] at h
   obtain ⟨rfl,rfl⟩:=h
   exact ⟨Nat.le_refl _,by subst hk;simp⟩
  ·obtain ⟨h1,h2⟩:=afind_at h
   refine ⟨by omega,?_⟩
   rw [show i - n=(i - (n + 1)) + 1 from by omega,List.getElem?_cons_succ]
   exact h2
theorem afind_aset {k:κ} {v':Value}:∀ {l:List (κ × Value)} {n i:Nat} {v:Value},afind k l n=some (i,v)→aset k v' l=l.set (i - n) (k,v')
 | [],n,i,v,h=>by cases h
 | p :: r,n,i,v,h=>by
  simp only [afind] at h
  simp only [aset]
  split at h
  ·rename_i hk
   simp only [Option.some.injEq,Prod.mk.injEq] at h
   obtain ⟨rfl,rfl⟩:=h
   rw [if_pos hk]
   simp
  ·rename_i hk
   obtain ⟨h1,_⟩:=afind_at h
   rw [if_neg hk,afind_aset h,show i - n=(i - (n + 1)) + 1 from by omega,List.set_cons_succ]
theorem afind_none {k:κ}:∀ {l:List (κ × Value)} {n:Nat},afind k l n=none→k ∉ l.map Prod.fst∧(∀ v,aset k v l=l ++ [(k,v)])∧adel k l=l
 | [],n,h=>⟨by simp,fun v=>rfl,rfl⟩
 | p :: r,n,h=>by
  simp only [afind] at h
  split at h
  ·cases h
  ·rename_i hk
   obtain ⟨h1,h2,h3⟩:=afind_none h
   refine ⟨by simp only [List.map_cons,List.mem_cons,not_or];exact ⟨hk,h1⟩,fun v=>?_,?_⟩
   ·simp only [aset,if_neg hk,h2];rfl
   ·simp only [adel,if_neg hk,h3]
theorem Lk_of {w:World} {m:Nat} {ek:κ→Value} {kv:List (κ × Value)} {d:TypeDesc} (ho:KeyOk d ek) (h:MpR w m ek kv) (k:κ) {K:Option Value→Pr} (hk:K (aget k kv) w):Lk d (some m) (ek k) K w:=by
 obtain ⟨es,c,hb,ha⟩:=h
 refine ⟨es.toList,afind k kv 0,⟨c,by simpa using hb⟩,findNow_kv ho k 0 ha.ents,?_⟩
 rw [← afind_get k kv 0] at hk
 cases hf:afind k kv 0 with
 | none=>rw [hf] at hk;exact hk
 | some p=>rw [hf] at hk;exact hk
theorem LkK_some {w:World} {m:Nat} {ek:κ→Value} {kv:List (κ × Value)} {d:TypeDesc} (ho:KeyOk d ek) (h:MpR w m ek kv) {k:κ} {kd:Kd} {z x:kd.T} {K:kd.T→Bool→Pr} (hg:aget k kv=some (kd.enc x)) (hk:K x true w):LkK kd z d (some m) (ek k) K w:=
 Lk_of ho h k (by rw [hg];exact ⟨x,rfl,hk⟩)
theorem LkK_none {w:World} {m:Nat} {ek:κ→Value} {kv:List (κ × Value)} {d:TypeDesc} (ho:KeyOk d ek) (h:MpR w m ek kv) {k:κ} {kd:Kd} {z:kd.T} {K:kd.T→Bool→Pr} (hg:aget k kv=none) (hk:K z false w):LkK kd z d (some m) (ek k) K w:=
 Lk_of ho h k (by rw [hg];exact hk)
theorem MpR.keepsL {w w':World} {m:Nat} {ek:κ→Value} {kv:List (κ × Value)} {l:List Nat} (h:MpR w m ek kv) (hk:Keeps l w w') (hn:m ∉ l):MpR w' m ek kv:=by
 obtain ⟨es,c,hb,ha⟩:=h
 exact ⟨es,c,hk.at hb hn,ha⟩
theorem MpR.lt {w:World} {m:Nat} {ek:κ→Value} {kv:List (κ × Value)} (h:MpR w m ek kv):m < w.heap.size:=by
 obtain ⟨es,c,hb,_⟩:=h
 exact hp_lt hb
theorem MpR.new (w:World) (ek:κ→Value):MpR (w.alloc (.map #[] 0)) w.heap.size ek ([]:List (κ × Value)):=⟨#[],0,hp_alloc_new w _,by simp,by simp,by simp,by simp⟩
theorem set_kv {es:Array MapEntry} {ek:κ→Value} {kv:List (κ × Value)} {c:Nat} (ha:MpA ek kv es.toList c) {k:κ} {i:Nat} {v v':Value} (hf:afind k kv 0=some (i,v)) {e':MapEntry→MapEntry} (h1:∀ e,(e' e).key=ek k) (h2:∀ e,(e' e).val=v') (h3:∀ e,(e' e).born=e.born) :
  MpA ek (aset k v' kv) (es.modify i e').toList c:=by
 obtain ⟨_,hi⟩:=afind_at hf
 rw [Nat.sub_zero] at hi
 have hset:(es.modify i e').toList.map (·.born)=es.toList.map (·.born):=by
  apply List.ext_getElem?
  intro j
  simp only [Array.toList_modify,List.getElem?_map,List.getElem?_modify]
  split
  ·cases es.toList[j]? <;> simp [h3]
  ·cases es.toList[j]? <;> simp
 refine ⟨?_,aset_nodup ha.nd,by rw [hset];exact ha.born,fun e he=>?_⟩
 ·rw [afind_aset hf,Nat.sub_zero]
  apply List.ext_getElem?
  intro j
  have hj:=congrArg (·[j]?) ha.ents
  simp only [List.getElem?_map] at hj
  simp only [Array.toList_modify,List.getElem?_map,List.getElem?_modify,List.getElem?_set]
  by_cases hij:i=j
  ·subst hij
   have hlt:=(List.getElem?_eq_some_iff.1 hi).1
   simp only [if_true]
   rw [hi] at hj
   cases he:es.toList[i]? with
   | none=>rw [he] at hj;simp at hj
   | some e=>simp [h1,h2,hlt]
  ·rw [if_neg hij]
   simp only [if_neg hij]
   cases he:es.toList[j]? with
   | none=>rw [he] at hj;simpa using hj
   | some e=>rw [he] at hj;simpa using hj
 ·have hm:e.born∈(es.modify i e').toList.map (·.born):=List.mem_map_of_mem he
  rw [hset] at hm
  obtain ⟨e0,he0,hb⟩:=List.mem_map.1 hm
  rw [← hb]
  exact ha.lt e0 he0
theorem push_kv {es:Array MapEntry} {ek:κ→Value} {kv:List (κ × Value)} {c:Nat} (ha:MpA ek kv es.toList c) {k:κ} {v:Value} (hf:afind k kv 0=none):MpA ek (aset k v kv) (es.push { key:=ek k,val:=v,born:=c }).toList (c + 1):=by
 obtain ⟨h1,h2,_⟩:=afind_none hf
 refine ⟨?_,aset_nodup ha.nd,?_,fun e he=>?_⟩
 ·rw [h2]
  simp [ha.ents]
 ·simp only [Array.toList_push,List.map_append,List.map_cons,List.map_nil]
  rw [List.nodup_append]
  refine ⟨ha.born,by simp,fun a hx b hb=>?_⟩
  simp at hb
  obtain ⟨e,he,rfl⟩:=List.mem_map.1 hx
  have:=ha.lt e he
  omega
 ·simp only [Array.toList_push,List.mem_append,List.mem_singleton] at he
  rcases he with he | rfl
  ·have:=ha.lt e he;omega
  ·show c < c + 1;omega
theorem MSet_of {w:World} {m:Nat} {ek:κ→Value} {kv:List (κ × Value)} {d:TypeDesc} (ho:KeyOk d ek) (h:MpR w m ek kv) (k:κ) (v:Value) {K:Pr} (hk:∀ w',MpR w' m ek (aset k v kv)→Keeps [m] w w'→K w'):MSet d (some m) (ek k) v K w:=by
 obtain ⟨es,c,hb,ha⟩:=h
 refine ⟨m,es,c,afind k kv 0,rfl,hb,findNow_kv ho k 0 ha.ents,hk _ ?_ ((Keeps.refl _ _).setObjW (.inl (by simp)) _)⟩
 cases hf:afind k kv 0 with
 | none=>exact ⟨_,_,hp_setObjW_same (hp_lt hb),push_kv ha hf⟩
 | some p=>
  obtain ⟨i,v0⟩:=p
  exact ⟨_,_,hp_setObjW_same (hp_lt hb),set_kv ha hf (fun _=>rfl) (fun _=>rfl) (fun _=>rfl)⟩
end
theorem KeepsP.step {F:Nat→Prop} {m:List Nat} {a b c:World} (h:KeepsP F a b) (k:Keeps m b c) (hm:∀ x∈m,F x∨a.heap.size≤x):KeepsP F a c:=
 h.trans (k.toP (F:=fun x=>x∈m) (fun x hx=>.inl hx)) hm
theorem KeepsP.same {F:Nat→Prop} {a b c:World} (h:KeepsP F a b) (k:KeepsP F b c):KeepsP F a c:=h.trans k (fun x hx=>.inl hx)
theorem set_box {w:World} {b:Nat} {cs:Array Value} {t:TypeId} (h:w.heap[b]?=some (.cells cs t (0,0))) (i:Nat) (v:Value) (h1:v.oneCell'=true) (hi:i < cs.size) {K:Pr}
  (k:∀ w',w'.heap[b]?=some (.cells (cs.setIfInBounds i v) t (0,0))→Keeps [b] w w'→K w'):St ⟨b,i,none⟩ v K w:=
 St_of h h1 hi (by simp) (k _ (hp_setObjW_same (hp_lt h)) ((Keeps.refl _ _).setObjW (.inl (by simp)) _))
theorem Cl_gen {P:Program} {f:FuncId} {args:List Value} {tup:Bool} {rs:List RK} {Q:TR rs→Pr} {w:World} (h:∀ R:TR rs→Pr,(∀ r w',Q r w'→R r w')→Cl P f args tup rs R w):Cl P f args tup rs Q w:=h Q fun _ _ h=>h
theorem Inv_of {P:Program} {t:TypeId} {x:Value} {name:String} {f:FuncId} {args:List Value} {tup:Bool} {rs:List RK} {K:TR rs→Pr} {w:World} (h:methD P t name=some f) (hc:Cl P f (x :: args) tup rs K w):Inv P (.iface t x) name args tup rs K w:=by
 unfold Inv
 simp only [h]
 exact hc
theorem CallV.mono {P:Program} {v:Value} {args:List Value} {tup:Bool} {rs:List RK} {K K':TR rs→Pr} {w:World} (h:CallV P v args tup rs K w) (hk:∀ s w',K s w'→K' s w'):CallV P v args tup rs K' w:=by
 unfold CallV at *
 split at h
 ·rename_i fn first cap
  split at h
  ·split at h
   ·exact Cl.mono h hk
   ·obtain ⟨s,w',h1,h2⟩:=h
    exact ⟨s,w',h1,hk _ _ h2⟩
  ·exact Yd.mono h hk
  ·exact h.elim
 ·exact h.elim
theorem Clone_w {e size bytes:Nat} {z:Array Value} {s:Sl} {cs:List Value} {K:Sl→Pr} {w:World} (hz:z.size=size) (h0:0 < size) (h:RdC s.p (s.len * size) cs w) (h1:∀ v∈cs,v.oneCell'=true) (h47:s.len * bytes≤140737488355328) (h63:s.len≤9223372036854775807)
  (k:∀ r w',SlC w' r size cs→r.len=s.len→Keeps [] w w'→(∀ x∈blk r,w.heap.size≤x)→K r w') :
  Br (Option.isNone s.p) (K ⟨none,0,0⟩) (New #[] e fun a=>App e size bytes z ⟨some a,0,0⟩ s.len (srcS s.p s.len size) K) w:=by
 cases hp:s.p with
 | none=>
  rw [hp] at h
  have hcs:cs=[]:=by
   cases cs with
   | nil=>rfl
   | cons v vs=>obtain ⟨a,ha,_⟩:=h.2 0 v rfl;cases ha
  have hl:=h.1
  rw [hcs] at hl
  have h00:s.len=0:=by
   rcases Nat.mul_eq_zero.1 hl.symm with h' | h'
   ·exact h'
   ·omega
  rw [hcs] at k
  exact k _ _ (SlC.nil w size) (by simp [h00]) (Keeps.refl _ _) (by simp [blk])
 | some a=>
  simp only [Option.isNone_some,Br,New]
  rw [hp] at h
  have hr:RdC (some a) (s.len * size) cs (w.alloc (.cells #[] e)):=rdc_keeps h ((Keeps.refl [] w).alloc _) (by simp)
  refine App_of (cs:=[]) (new:=cs) ⟨by simp,Nat.le_refl _,.inl rfl⟩ hr h.1 h1 hz (by simpa using h47) (by simpa using h63) ?_
  intro r w' hs hl hk hb
  have hk':Keeps [] w w':=(((Keeps.refl [] w).alloc _)).trans hk (by simp [blk])
  refine k r w' (by simpa using hs) (by simpa using hl) hk' fun x hx=>?_
  rcases hb x hx with h' | h'
  ·simp [blk] at h'
  ·rw [World.size_alloc] at h';omega
end Go.Sx
set_option linter.unusedSimpArgs false
set_option linter.unusedVariables false
namespace Go.Sx
open Go Go.ChangeShapes Go.WideShapes Go.ChangeAt Go.RowKit
theorem weightsAll_mem {H:Type} {P:Program} {e:TypeId}:∀ {l:List (DataW H)} {d:DataW H},d∈l→∀ n∈d.weights P e,n∈DataW.weightsAll P e l
 | x :: r,d,h,n,hn=>by
  simp only [DataW.weightsAll,List.mem_append]
  rcases List.mem_cons.1 h with rfl | h
  ·exact .inl hn
  ·exact .inr (weightsAll_mem h n hn)
def PlainZ (P:Program) (t:TypeId) (v:Value):Prop:=
 match P.underlying t with
 | some (.int k)=>∃ n,v=.int k n∧(Lit.int k n).wf=true
 | some .bool=>∃ b,v=.bool b
 | some .string=>∃ s,v=.string s∧s.size≤140737488355328
 | _=>True
theorem PlainZ.int {P:Program} {t:TypeId} {v:Value} {k:IntKind} (ht:P.underlying t=some (.int k)) (h:PlainZ P t v):∃ n,v=.int k n∧(Lit.int k n).wf=true:=by
 unfold PlainZ at h;rw [ht] at h;exact h
theorem PlainZ.bool {P:Program} {t:TypeId} {v:Value} (ht:P.underlying t=some .bool) (h:PlainZ P t v):∃ b,v=.bool b:=by
 unfold PlainZ at h;rw [ht] at h;exact h
theorem PlainZ.string {P:Program} {t:TypeId} {v:Value} (ht:P.underlying t=some .string) (h:PlainZ P t v):∃ s,v=.string s∧s.size≤140737488355328:=by
 unfold PlainZ at h;rw [ht] at h;exact h
theorem plainZ_of_trod {H:Type} {enc:TypeId × Value→H} {P:Program} {W:World} {base:Nat} {sp:Nat→Bool} {held:Bool} {n:Nat} {t:TypeId} {v:Value} {x:DataW H × List MemPlace}
  (h:DataW.trod enc P W base sp held n t [v]=some x) (hz:∀ m∈x.1.weights P t,m≤reachBytes):PlainZ P t v:=by
 unfold PlainZ
 split
 ·rename_i k ht
  obtain ⟨m,hc,_,hw⟩:=DataW.trod_int ht h
  simp at hc
  exact ⟨m,hc,hw⟩
 ·rename_i ht
  obtain ⟨b,hc,_⟩:=DataW.trod_bool ht h
  simp at hc
  exact ⟨b,hc⟩
 ·rename_i ht
  obtain ⟨s,hc,hx,hw⟩:=DataW.trod_string ht h
  simp at hc
  refine ⟨s,hc,?_⟩
  rw [hx] at hz
  have:=hz s.data.toList.length (by simp [DataW.weights])
  have hlt:=reachBytes_lt
  have e:s.data.toList.length=s.size:=by simp
  omega
 ·trivial
theorem flat_set1 {α:Type} {enc:α→List Value} {size:Nat} (he:∀ x,(enc x).length=size):∀ (l:List α) (i j:Nat) (x y:α) (v:Value),l[i]?=some x→j < size→enc y=(enc x).set j v→(l.flatMap enc).set (i * size + j) v=(l.set i y).flatMap enc
 | [],i,j,x,y,v,h,_,_=>by simp at h
 | z :: l,0,j,x,y,v,h,hj,hy=>by
  simp only [List.getElem?_cons_zero,Option.some.injEq] at h
  subst h
  rw [Nat.zero_mul,Nat.zero_add,List.flatMap_cons,List.set_append_left _ _ (by rw [he];exact hj),List.set_cons_zero,List.flatMap_cons,hy]
 | z :: l,i + 1,j,x,y,v,h,hj,hy=>by
  simp only [List.getElem?_cons_succ] at h
  rw [List.flatMap_cons,List.set_append_right _ _ (by rw [he,Nat.succ_mul];omega),he,Nat.succ_mul,show i * size + size + j - size=i * size + j from by omega,flat_set1 he l i j x y v h hj hy,List.set_cons_succ,List.flatMap_cons]
theorem NewApp_of {e size bytes m:Nat} {t:TypeId} {z:Array Value} {s:Sl} {K:Sl→Pr} {w:World} {cs new:List Value} (hs:SlC w s size cs) (hl:new.length=m * size) (h1:∀ v∈new,v.oneCell'=true) (hz:z.size=size)
  (h47:(s.len + m) * bytes≤140737488355328) (h63:s.len + m≤9223372036854775807)
  (k:∀ (r:Sl) (w':World),SlC w' r size (cs ++ new)→r.len=s.len + m→Keeps (blk s) w w'→(∀ x∈blk r,x∈blk s∨w.heap.size≤x)→K r w'):New new.toArray t (fun a=>App e size bytes z s m (srcS (some a) m size) K) w:=by
 have hka:Keeps [] w (w.alloc (.cells new.toArray t)):=(Keeps.refl [] w).alloc _
 refine App_of (hs.keeps hka (by simp)) ?_ hl h1 hz h47 h63 ?_
 ·refine ⟨hl,fun j v hj=>⟨_,rfl,?_⟩⟩
  rw [add_of,cell_of (hp_alloc_new w _),Nat.zero_add]
  simpa using hj
 ·intro r w' h2 h3 h4 h5
  refine k r w' h2 h3 ((hka.mono (m':=blk s) (by simp)).trans h4 (fun x hx=>.inl hx)) (fun x hx=>?_)
  ·rcases h5 x hx with h | h
   ·exact .inl h
   ·rw [World.size_alloc] at h;exact .inr (by omega)
end Go.Sx
set_option linter.unusedSimpArgs false
set_option linter.unusedVariables false
set_option linter.unusedSectionVars false
namespace Go.Sx
open Go
section
variable {κ:Type} [DecidableEq κ]
structure ItA (ek:κ→Value) (kv:List (κ × Value)) (es:List MapEntry) (c:Nat) (seen:Array Nat) (left:List κ):Prop where
 mp:MpA ek kv es c
 left:(es.filter (fun e=>!seen.contains e.born)).map (·.key)=left.map ek
def ItR (w:World) (it m:Nat) (ek:κ→Value) (kv:List (κ × Value)) (left:List κ):Prop:=
 ∃ es c seen,w.heap[it]?=some (.mapIter (some m) c seen c)∧w.heap[m]?=some (.map es c)∧ItA ek kv es.toList c seen left
theorem ItR.keepsL {w w':World} {it m:Nat} {ek:κ→Value} {kv:List (κ × Value)} {left:List κ} {l:List Nat} (h:ItR w it m ek kv left) (hk:Keeps l w w') (h1:it ∉ l) (h2:m ∉ l):ItR w' it m ek kv left:=by
 obtain ⟨es,c,seen,a,b,h3⟩:=h
 exact ⟨es,c,seen,hk.at a h1,hk.at b h2,h3⟩
theorem ItR.ne {w:World} {it m:Nat} {ek:κ→Value} {kv:List (κ × Value)} {left:List κ} (h:ItR w it m ek kv left):it ≠ m:=by
 obtain ⟨es,c,seen,a,b,h3⟩:=h
 intro he
 subst he
 rw [a] at b
 cases b
theorem RgM_of {w:World} {m:Nat} {ek:κ→Value} {kv:List (κ × Value)} (h:MpR w m ek kv) {K:Addr→Pr}
  (k:∀ w',ItR w' w.heap.size m ek kv (kv.map Prod.fst)→Keeps [] w w'→w'.heap.size=w.heap.size + 1→K ⟨w.heap.size,0,none⟩ w'):RgM (some m) K w:=by
 obtain ⟨es,c,hb,ha⟩:=h
 refine ⟨es,c,hb,k _ ⟨es,c,#[],hp_alloc_new w _,(hp_alloc_old w _ (hp_lt hb)).trans hb,ha,?_⟩ ((Keeps.refl _ _).alloc _) (World.size_alloc _ _)⟩
 have:=congrArg (List.map Prod.fst) ha.ents
 simp only [List.map_map] at this
 have hf:es.toList.filter (fun e=>!(#[]:Array Nat).contains e.born)=es.toList:=by
  rw [List.filter_eq_self]
  intro a _
  simp
 rw [hf]
 simpa [Function.comp_def] using this
theorem es_get {ek:κ→Value} {d:TypeDesc} (ho:KeyOk d ek):∀ {es:List MapEntry} {kv:List (κ × Value)},es.map (fun e=>(e.key,e.val))=kv.map (fun p=>(ek p.1,p.2))→(kv.map Prod.fst).Nodup→∀ e∈es,∃ k,e.key=ek k∧aget k kv=some e.val
 | [],kv,h,_,e,he=>by simp at he
 | x :: es,kv,h,hn,e,he=>by
  cases kv with
  | nil=>simp at h
  | cons p r=>
   simp only [List.map_cons,List.cons.injEq,Prod.mk.injEq] at h
   simp only [List.map_cons,List.nodup_cons] at hn
   rcases List.mem_cons.1 he with rfl | he
   ·exact ⟨p.1,h.1.1,by simp [aget,h.1.2]⟩
   ·obtain ⟨k,h1,h2⟩:=es_get ho h.2 hn.2 e he
    refine ⟨k,h1,?_⟩
    simp only [aget]
    rw [if_neg,h2]
    intro hk
    have h3:=List.mem_map_of_mem (f:=Prod.fst) (aget_mem h2)
    rw [hk] at h3
    exact hn.1 h3
theorem perm_of_map {α β:Type} {f:α→β} (hi:∀ a b,f a=f b→a=b):∀ {l l':List α},(l.map f).Perm (l'.map f)→l.Perm l'
 | [],l',h=>by
  have:=h.length_eq
  simp at this
  rw [List.eq_nil_of_length_eq_zero this.symm]
 | x :: l,l',h=>by
  have hm:f x∈l'.map f:=h.subset (by simp)
  obtain ⟨y,hy,he⟩:=List.mem_map.1 hm
  have hyx:=hi _ _ he
  subst hyx
  obtain ⟨a,b,rfl⟩:=List.append_of_mem hy
  have h2:(f y :: l.map f).Perm (f y :: (a ++ b).map f):=by
   refine (by simpa using h:(f y :: l.map f).Perm ((a ++ y :: b).map f)).trans ?_
   simp
  exact ((perm_of_map hi (List.Perm.cons_inv h2)).cons y).trans List.perm_middle.symm
theorem filter_push {seen:Array Nat}:∀ {es:List MapEntry},(es.map (·.born)).Nodup→∀ e∈es,seen.contains e.born=false →
  ((es.filter (fun x=>!seen.contains x.born)).Perm (e :: es.filter (fun x=>!(seen.push e.born).contains x.born)))
 | [],_,e,he,_=>by simp at he
 | x :: es,hn,e,he,hs=>by
  simp only [List.map_cons,List.nodup_cons] at hn
  by_cases hx:x=e
  ·subst hx
   have hrest:es.filter (fun y=>!(seen.push x.born).contains y.born)=es.filter (fun y=>!seen.contains y.born):=by
    apply List.filter_congr
    intro y hy
    have:y.born ≠ x.born:=fun h=>hn.1 (h ▸ List.mem_map_of_mem (f:=(·.born)) hy)
    simp [this]
   rw [List.filter_cons,if_pos (by simpa using hs),List.filter_cons,if_neg (by simp),hrest]
  ·have he':e∈es:=by
    rcases List.mem_cons.1 he with h | h
    ·exact absurd h.symm hx
    ·exact h
   have hb:x.born ≠ e.born:=fun h=>hn.1 (h ▸ List.mem_map_of_mem (f:=(·.born)) he')
   have ih:=filter_push hn.2 e he' hs
   have hc:(seen.push e.born).contains x.born=seen.contains x.born:=by
    simp [hb]
   rw [List.filter_cons,List.filter_cons,hc]
   split
   ·exact (ih.cons _).trans (List.Perm.swap _ _ _)
   ·exact ih
theorem NxEn_of {w:World} {it m:Nat} {ek:κ→Value} {kv:List (κ × Value)} {left:List κ} {d:TypeDesc} (ho:KeyOk d ek) (h:ItR w it m ek kv left) {K:Value→Value→Pr} {Kf:Pr}
  (hk:∀ k v left' w',aget k kv=some v→left.Perm (k :: left')→ItR w' it m ek kv left'→Keeps [it] w w'→w'.heap.size=w.heap.size→K (ek k) v w')
  (hend:left=[]→∀ w',w'=w∨w'=w.drew→Kf w'):NxM ⟨it,0,none⟩ (fun _ _=>EnM ⟨it,0,none⟩ K) Kf w:=by
 have hne:=h.ne
 obtain ⟨es,c,seen,h1,h2,h3⟩:=h
 have hmem:∀ k,k∈left ↔ ∃ e∈es.toList,seen.contains e.born=false∧e.key=ek k:=by
  intro k
  have hinj:∀ a b,ek a=ek b→a=b:=fun a b hab=>by
   have:=ho a b
   rw [hab,ho b b] at this
   simpa using this
  constructor
  ·intro hk
   have:ek k∈left.map ek:=List.mem_map_of_mem hk
   rw [← h3.left,List.mem_map] at this
   obtain ⟨e,he,hke⟩:=this
   rw [List.mem_filter] at he
   exact ⟨e,he.1,by simpa using he.2,hke⟩
  ·rintro ⟨e,he,hs,hke⟩
   have:ek k∈(es.toList.filter (fun e=>!seen.contains e.born)).map (·.key):=List.mem_map.2 ⟨e,List.mem_filter.2 ⟨he,by rw [hs];rfl⟩,hke⟩
   rw [h3.left,List.mem_map] at this
   obtain ⟨k',hk',he'⟩:=this
   rw [← hinj _ _ he']
   exact hk'
 refine ⟨rfl,some m,c,seen,c,h1,es.toList,c,by simpa using h2,?_,?_⟩
 ·cases hes:es.toList with
  | nil=>exact .inr (.inl rfl)
  | cons e r=>exact .inr (.inr ⟨e,by simp,h3.mp.lt e (by rw [hes];simp)⟩)
 ·intro w1 hw1
  have hh1:w1.heap=w.heap:=by rcases hw1 with rfl | rfl <;> rfl
  have hk1:Keeps [it] w w1:=by rcases hw1 with rfl | rfl;exact Keeps.refl _ _;exact (Keeps.refl _ _).drew
  refine ⟨fun e he hs=>?_,fun hall=>?_⟩
  ·have hit:it < w1.heap.size:=by rw [hh1];exact hp_lt h1
   have hI:=hp_setObjW_same (o:=.mapIter (some m) c (seen.push e.born) c) hit
   have hM:(setObjW w1 it (.mapIter (some m) c (seen.push e.born) c)).heap[m]?=some (.map es c):=by
    rw [hp_setObjW_ne (Ne.symm hne),hh1];exact h2
   obtain ⟨k,hke,hget⟩:=es_get ho h3.mp.ents h3.mp.nd e he
   have hperm:=filter_push h3.mp.born e he hs
   have hinj:∀ a b,ek a=ek b→a=b:=fun a b hab=>by
    have:=ho a b
    rw [hab,ho b b] at this
    simpa using this
   have hl':∃ left':List κ,((es.toList.filter (fun x=>!(seen.push e.born).contains x.born)).map (·.key))=left'.map ek:=by
    have:∀ l:List MapEntry,(∀ x∈l,∃ k,x.key=ek k)→∃ l':List κ,l.map (·.key)=l'.map ek:=by
     intro l
     induction l with
     | nil=>intro _;exact ⟨[],rfl⟩
     | cons x l ih=>
      intro hx
      obtain ⟨l',h'⟩:=ih (fun y hy=>hx y (List.mem_cons_of_mem _ hy))
      obtain ⟨k,hk⟩:=hx x List.mem_cons_self
      exact ⟨k :: l',by simp [hk,h']⟩
    refine this _ fun x hx=>?_
    obtain ⟨k,h',_⟩:=es_get ho h3.mp.ents h3.mp.nd x (List.mem_filter.1 hx).1
    exact ⟨k,h'⟩
   obtain ⟨left',hl'⟩:=hl'
   have hp2:left.Perm (k :: left'):=by
    have:=hperm.map (·.key)
    rw [h3.left,List.map_cons,hl',hke,← List.map_cons] at this
    exact perm_of_map hinj this
   refine ⟨rfl,m,c,seen.push e.born,es.toList,c,e.born,e,hI,by simpa using hM,by simp,?_,?_⟩
   ·rw [List.find?_eq_some_iff_getElem]
    obtain ⟨i,hi,hie⟩:=List.mem_iff_getElem.1 he
    refine ⟨by simp,i,hi,hie,fun j hj=>?_⟩
    have hne:=(List.pairwise_iff_getElem.1 h3.mp.born) j i (by simpa using (by omega:j < es.toList.length)) (by simpa using hi) hj
    simp only [List.getElem_map,hie] at hne
    simpa using hne
   ·rw [hke]
    exact hk k e.val left' _ hget hp2 ⟨es,c,_,hI,hM,h3.mp,hl'⟩ (hk1.setObjW (.inl (by simp)) _) (by rw [size_setObjW,hh1])
  ·refine hend ?_ w1 hw1
   cases hl:left with
   | nil=>rfl
   | cons k r=>
    obtain ⟨e,he,hs,_⟩:=(hmem k).1 (by rw [hl];simp)
    have:=hall e he (h3.mp.lt e he)
    rw [hs] at this
    cases this
end
theorem setA_all {all:Array Value} {vs:List Value} (h:vs.length=all.size):setA all 0 vs=vs.toArray:=by
 apply Array.ext_getElem?
 intro j
 rw [setA_get _ _ _ _ (by omega)]
 by_cases hj:j < vs.length
 ·rw [if_pos (by omega)];simp
 ·rw [if_neg (by omega),Array.getElem?_eq_none (by omega),Array.getElem?_eq_none (by simp;omega)]
theorem cB_slen {w:World} {s:Sl} {l:List UInt8} (h:SlC w s 1 (cB l)):s.len=l.length:=by have:=h.len;rw [cB_length] at this;omega
theorem Ix_cb {w:World} {s:Sl} {l:List UInt8} (h:SlC w s 1 (cB l)) {j:Nat} {x:UInt8} (hj:l[j]?=some x) {K:Int→Pr} (k:K (x.toNat:Int) w):Ix s (j:Int) 1 (fun a=>LdI .u8 a K) w:=by
 have hlt:=(List.getElem?_eq_some_iff.1 hj).1
 have hl:=cB_slen h
 obtain ⟨b,o,hp,_⟩:=h.base (by omega)
 rw [Ix_base hp (by omega) (by omega),Int.toNat_natCast,Nat.mul_one,LdI_c,h.read hp (by rw [cB_length];exact hlt),cB,List.getElem?_map,hj]
 simp only [Option.map_some,sx]
 exact k
theorem Ix_sb {w:World} {s:Sl} {l:List UInt8} (h:SlC w s 1 (cB l)) {j:Nat} (hj:j < l.length) (x:UInt8) {K:Pr} (k:∀ w',SlC w' s 1 (cB (l.set j x))→Keeps (blk s) w w'→K w'):Ix s (j:Int) 1 (fun a=>St a (.int .u8 (x.toNat:Int)) K) w:=by
 have hl:=cB_slen h
 obtain ⟨b,o,hp,hb⟩:=h.base (by omega)
 rw [Ix_base hp (by omega) (by omega),Int.toNat_natCast,Nat.mul_one]
 refine h.write hp (by rw [cB_length];exact hj) rfl ?_
 intro w' h1 h2
 refine k w' ?_ (by rw [hb];exact h2)
 rw [cB,List.map_set]
 exact h1
end Go.Sx
set_option linter.unusedSimpArgs false
set_option linter.unusedVariables false
namespace Go.Sx
open Go Go.ChangeShapes Go.WideShapes Go.ChangeAt Go.RowKit
def leavesF (P:Program) (rec:TypeId→Option (List TypeId)):List Field→Nat→Option (List TypeId)
 | [],_=>some []
 | f :: r,off=>if f.offset=off then match rec f.type with
   | some l=>if l.length=P.cellsOf f.type then (leavesF P rec r (off + l.length)).map (l ++ ·) else none
   | none=>none
  else none
def leaves (P:Program):Nat→TypeId→Option (List TypeId)
 | 0,_=>none
 | n + 1,t=>match P.underlying t with
  | some (.struct fs)=>leavesF P (leaves P n) fs.toList 0
  | _=>if P.cellsOf t=1 then some [t] else none
theorem leavesF_at {P:Program} {rec:TypeId→Option (List TypeId)}:∀ {fs:List Field} {off:Nat} {L:List TypeId},leavesF P rec fs off=some L→∀ (j:Nat) (ft:TypeId),L[j]?=some ft →
  ∃ (k:Nat) (f:Field) (l:List TypeId) (i:Nat),fs[k]?=some f∧rec f.type=some l∧l.length=P.cellsOf f.type∧l[i]?=some ft∧off + j=f.offset + i∧f.offset + l.length≤off + L.length
 | [],off,L,h,j,ft,hj=>by
  simp only [leavesF,Option.some.injEq] at h
  subst h
  simp at hj
 | f :: r,off,L,h,j,ft,hj=>by
  unfold leavesF at h
  split at h
  ·rename_i ho
   split at h
   ·rename_i l hl
    split at h
    ·rename_i hc
     rw [Option.map_eq_some_iff] at h
     obtain ⟨L',h',rfl⟩:=h
     by_cases hlt:j < l.length
     ·rw [List.getElem?_append_left hlt] at hj
      exact ⟨0,f,l,j,rfl,hl,hc,hj,by omega,by rw [List.length_append];omega⟩
     ·rw [List.getElem?_append_right (by omega)] at hj
      obtain ⟨k,f',l',i,h1,h2,h3,h4,h5,h6⟩:=leavesF_at h' _ ft hj
      exact ⟨k + 1,f',l',i,h1,h2,h3,h4,by omega,by rw [List.length_append];omega⟩
    ·cases h
   ·cases h
  ·cases h
end Go.Sx
set_option linter.unusedSimpArgs false
set_option linter.unusedVariables false
set_option linter.unusedSectionVars false
namespace Go.Sx
open Go
theorem Br_false {T E:Pr} {w:World}:Br false T E w=E w:=rfl
theorem Br_true {T E:Pr} {w:World}:Br true T E w=T w:=rfl
theorem Br_if {c:Bool} {T E:Pr} {w:World}:Br c T E w=if c then T w else E w:=by cases c <;> rfl
theorem sxn :
  (∀ (o:Obj) (K:Nat→Pr) (w:World),NewObj o K w=K w.heap.size (w.alloc o)) ∧
  (∀ (K:Pr) (w:World),Dr K w=K w.drew) ∧
  (∀ (A B:Pr) (w:World),Both A B w=(A w∧B w)) ∧
  (∀ (p:Prop) (K:Pr) (w:World),Req p K w=(p∧K w)) ∧
  (∀ (a:Addr) (K:Addr→Pr),Nn (some a) K=K a) ∧
  (∀ (T E:Pr) (w:World),Br true T E w=T w) ∧
  (∀ (T E:Pr) (w:World),Br false T E w=E w) ∧
  (∀ (b i n:Nat),Addr.add ⟨b,i,none⟩ n=⟨b,i + n,none⟩) ∧
  (∀ (k:IntKind) (b i:Nat) (K:Int→Pr) (w:World),LdI k ⟨b,i,none⟩ K w=asI k K (cellO w.heap[b]? i) w) ∧
  (∀ (b i:Nat) (K:Bool→Pr) (w:World),LdB ⟨b,i,none⟩ K w=asB K (cellO w.heap[b]? i) w) ∧
  (∀ (b i:Nat) (K:ByteArray→Pr) (w:World),LdS ⟨b,i,none⟩ K w=asS K (cellO w.heap[b]? i) w) ∧
  (∀ (b i:Nat) (K:Option Addr→Pr) (w:World),LdP ⟨b,i,none⟩ K w=asP K (cellO w.heap[b]? i) w) ∧
  (∀ (b i:Nat) (K:Option Nat→Pr) (w:World),LdM ⟨b,i,none⟩ K w=asM K (cellO w.heap[b]? i) w) ∧
  (∀ (b i:Nat) (K:Value→Pr) (w:World),LdV ⟨b,i,none⟩ K w=asV K (cellO w.heap[b]? i) w) ∧
  (∀ (b i:Nat) (K:Sl→Pr) (w:World),LdL ⟨b,i,none⟩ K w=asL K (cellO w.heap[b]? i) w) ∧
  (∀ (k:IntKind) (K:Int→Pr) (x:Int) (w:World),asI k K (some (.int k x)) w=K x w) ∧
  (∀ (K:Bool→Pr) (x:Bool) (w:World),asB K (some (.bool x)) w=K x w) ∧
  (∀ (K:ByteArray→Pr) (x:ByteArray) (w:World),asS K (some (.string x)) w=K x w) ∧
  (∀ (K:Option Addr→Pr) (x:Option Addr) (w:World),asP K (some (.pointer x)) w=K x w) ∧
  (∀ (K:Option Nat→Pr) (x:Option Nat) (w:World),asM K (some (.map x)) w=K x w) ∧
  (∀ (K:Value→Pr) (x:Value) (w:World),asV K (some x) w=K x w) ∧
  (∀ (K:Sl→Pr) (p:Option Addr) (l c:Nat) (w:World),asL K (some (.slice p l c)) w=K ⟨p,l,c⟩ w) ∧
  (∀ (cs:Array Value) (t:TypeId) (fr:Nat × Nat) (i:Nat),cellO (some (.cells cs t fr)) i=cs[i]?) ∧
  (∀ (i:Nat) (v:Value) (K:Obj→Prop) (cs:Array Value) (t:TypeId) (fr:Nat × Nat),stO i v K (some (.cells cs t fr)) =
   (v.oneCell'=true∧i < cs.size∧frz fr i=false∧K (.cells (cs.setIfInBounds i v) t fr))) ∧
  (∀ (w:World) (o:Obj),(w.alloc o).heap[w.heap.size]?=some o) ∧
  (∀ (w:World),w.drew.heap=w.heap) ∧
  (∀ (w:World) (o:Obj),(w.alloc o).heap.size=w.heap.size + 1) ∧
  (∀ (w:World) (r:Nat) (o:Obj),(setObjW w r o).heap.size=w.heap.size) ∧
  (∀ (w:World) (r:Nat) (o o':Obj),setObjW (setObjW w r o) r o'=setObjW w r o') ∧
  (∀ (s:Sl),(⟨s.p,s.len,s.cap⟩:Sl)=s):=
 ⟨fun _ _ _=>rfl,fun _ _=>rfl,fun _ _ _=>rfl,fun _ _ _=>rfl,fun _ _=>rfl,fun _ _ _=>rfl,fun _ _ _=>rfl,add_of,LdI_c,LdB_c,LdS_c,LdP_c,LdM_c,LdV_c,LdL_c,
  fun k K x w=>by simp [asI],fun _ _ _=>rfl,fun _ _ _=>rfl,fun _ _ _=>rfl,fun _ _ _=>rfl,fun _ _ _=>rfl,fun _ _ _ _ _=>rfl,fun _ _ _ _=>rfl,fun _ _ _ _ _ _=>rfl,hp_alloc_new,fun _=>rfl,World.size_alloc,size_setObjW,setObjW_setObjW,fun _=>rfl⟩
theorem New_bx {cs:Array Value} {t:TypeId} {K:Addr→Pr} {w:World} (h:∀ b w1,w1.heap[b]?=some (.cells cs t (0,0))→w.heap.size≤b→Keeps [] w w1→K ⟨b,0,none⟩ w1):New cs t K w:=
 h w.heap.size (w.alloc (.cells cs t)) (hp_alloc_new w _) (Nat.le_refl _) ((Keeps.refl [] w).alloc _)
theorem kp0 {a b c:World} (h:Keeps [] a b) (k:Keeps [] b c):Keeps [] a c:=h.trans k (by simp)
theorem kpx {m:List Nat} {a b c:World} (h:Keeps [] a b) (k:Keeps m b c) (hm:∀ x∈m,a.heap.size≤x):Keeps [] a c:=h.trans k (fun x hx=>.inr (hm x hx))
theorem New_st {cs:Array Value} {t:TypeId} {vs:List Value} {K:Addr→Pr} {w:World} (hl:vs.length=cs.size) (h1:∀ v∈vs,v.oneCell'=true) (h:∀ b w1,w1.heap[b]?=some (.cells vs.toArray t (0,0))→w.heap.size≤b→Keeps [] w w1→K ⟨b,0,none⟩ w1) :
  New cs t (fun a=>StR vs a 0 (K a)) w:=by
 refine New_bx fun b w1 hb nb k1=>?_
 refine StR_of (o:=0) hb (by simp;omega) h1 (fun j _ _=>by simp) ?_
 refine h b _ ?_ nb (kpx k1 ((Keeps.refl _ _).setObjW (m:=[b]) (.inl (by simp)) _) (by simpa using nb))
 rw [hp_setObjW_same (hp_lt hb)]
 rw [show (0 + 0:Nat)=0 from rfl,setA_all hl]
theorem w64p {i:Nat} (h:i < 4611686018427387904):w64 ((i:Int) + 1)=((i + 1:Nat):Int):=by rw [w64_in (by omega) (by omega)];omega
theorem w64a {a b:Int} {m n:Nat} (ha:a=m) (hb:b=n) (h:m + n < 9223372036854775807):w64 (a + b)=((m + n:Nat):Int):=by subst ha hb;rw [w64_in (by omega) (by omega)];omega
theorem w64m {j:Nat} (h:0 < j) (h2:j < 4611686018427387904):w64 ((j:Int) - 1)=((j - 1:Nat):Int):=by rw [w64_in (by omega) (by omega)];omega
theorem w64s {m n:Nat} (h:n≤m) (h2:m < 9223372036854775807):w64 ((m:Int) - (n:Int))=((m - n:Nat):Int):=by rw [w64_in (by omega) (by omega)];omega
theorem slc_grow {w:World} {s:Sl} {size:Nat} {cs:List Value} (h:SlC w s size cs) {m:Nat} (hm:s.len + m≤s.cap):∃ junk,junk.length=m * size∧SlC w ⟨s.p,s.len + m,s.cap⟩ size (cs ++ junk):=by
 have hl:=h.len
 rcases h.row with h0 | ⟨b,o,all,t,fr,hp,hb,h1,h2,h3⟩
 ·have:m=0:=by omega
  subst this
  exact ⟨[],by simp,by simpa using hl,by simpa using h.cap,.inl h0⟩
 ·have hcap:(s.len + m) * size≤s.cap * size:=Nat.mul_le_mul_right _ hm
  rw [Nat.add_mul] at hcap
  refine ⟨(all.toList.drop (o + s.len * size)).take (m * size),by simp;omega,by simp [hl,Nat.add_mul];omega,hm,.inr ⟨b,o,all,t,fr,hp,hb,h1,fun j hj=>?_,h3⟩⟩
  rw [List.length_append,hl] at hj
  by_cases hj2:j < cs.length
  ·rw [h2 j hj2,List.getElem?_append_left hj2]
  ·rw [List.getElem?_append_right (by omega),hl]
   have hj3:j - s.len * size < m * size:=by simp at hj;omega
   rw [List.getElem?_take,if_pos hj3,List.getElem?_drop,Array.getElem?_toList]
   congr 1
   omega
theorem slc_front {w:World} {s:Sl} {size:Nat} {cs:List Value} (h:SlC w s size cs) {i:Nat} (hi:i≤s.len):SlC w ⟨s.p,i,s.cap⟩ size (cs.take (i * size)):=by
 have:=h.sub (lo:=0) (hi:=i) (by omega) hi
 simpa [slOff_zero] using this
theorem oneZ {z:Array Value} (h1:∀ v∈z.toList,v.oneCell'=true) (n:Nat):∀ v∈zerosL z.toList n,v.oneCell'=true:=by
 induction n with
 | zero=>simp [zerosL]
 | succ n ih=>intro v hv;rw [zerosL,List.mem_append] at hv;exact hv.elim (h1 v) (ih v)
theorem ClrS_front {w:World} {s:Sl} {size:Nat} {cs:List Value} (h:SlC w s size cs) {z:Array Value} (hz:z.size=size) (h1:∀ v∈z.toList,v.oneCell'=true) {i:Nat} (hi:i≤s.len) {K:Pr}
  (k:∀ w',SlC w' ⟨s.p,i,s.cap⟩ size (cs.take (i * size))→Keeps (blk s) w w'→w'.heap.size=w.heap.size→K w'):ClrS z ⟨slOff s.p s.cap i size,s.len - i,s.cap - i⟩ K w:=by
 unfold ClrS
 dsimp only
 have hl:=h.len
 have hc:=h.cap
 split
 ·exact k w (slc_front h hi) (Keeps.refl _ _) rfl
 ·rename_i n hn
  obtain ⟨b,o,hp,hb⟩:=h.base (by omega)
  have hne:s.cap ≠ i:=by omega
  have e:slOff s.p s.cap i size=some ⟨b,o + i * size,none⟩:=by simp [slOff,hne,hp,add_of]
  rw [e]
  dsimp only
  rw [zeroCells_eq]
  show StR (zerosL z.toList (n + 1)) _ _ _ _
  have e1:(n + 1) * size + i * size=s.len * size:=by rw [← Nat.add_mul];congr 1;omega
  have e2:(zerosL z.toList (n + 1)).length=(n + 1) * size:=by rw [zerosL_length];simp [hz]
  rcases h.row with hc0 | ⟨b',o',all,t,fr,hp',hbl,g1,g2,g3⟩
  ·omega
  rw [hp,Option.some.injEq,Addr.mk.injEq] at hp'
  obtain ⟨rfl,rfl,_⟩:=hp'
  have hcap:s.len * size≤s.cap * size:=Nat.mul_le_mul_right _ h.cap
  refine StR_of hbl (by omega) (oneZ h1 _) (fun j _ hj'=>by rw [Nat.add_assoc];exact g3 _ (by omega)) ?_
  refine k _ ?_ ((Keeps.refl _ _).setObjW (.inl (by simp [hb])) _) (size_setObjW _ _ _)
  refine ⟨by simp;omega,by show i≤s.cap;omega,.inr ⟨b,o,_,t,fr,hp,hp_setObjW_same (hp_lt hbl),by rw [setA_size];exact g1,fun j hj=>?_,g3⟩⟩
  rw [List.length_take] at hj
  rw [setA_get _ _ _ _ (by omega),if_neg (by omega),g2 j (by omega),List.getElem?_take,if_pos (by omega)]
theorem App_in {e size bytes:Nat} {z:Array Value} {s:Sl} {m:Nat} {src:List Value→World→Prop} {K:Sl→Pr} {w:World} {cs new:List Value} (hs:SlC w s size cs) (hn:src new w) (hl:new.length=m * size)
  (h1:∀ v∈new,v.oneCell'=true) (hc:s.len + m≤s.cap) (h0:0 < s.len + m)
  (k:∀ w',SlC w' ⟨s.p,s.len + m,s.cap⟩ size (cs ++ new)→Keeps (blk s) w w'→K ⟨s.p,s.len + m,s.cap⟩ w'):App e size bytes z s m src K w:=by
 refine ⟨new,hn,?_⟩
 rw [if_pos hc]
 obtain ⟨junk,hj,hg⟩:=slc_grow hs hc
 obtain ⟨b,o,hp,hb⟩:=hg.base (by show 0 < s.len + m;omega)
 dsimp only at hp
 have hb:blk s=[b]:=hb
 rw [hp]
 dsimp only
 rw [add_of]
 have hlen:=hs.len
 refine hg.writes hp (k:=s.len * size) (by rw [List.length_append];omega) h1 ?_
 intro w' g1 g2
 have e:setL (cs ++ junk) (s.len * size) new=cs ++ new:=by
  unfold setL
  rw [List.take_append_of_le_length (by omega),List.take_of_length_le (by omega),List.drop_of_length_le (by simp;omega),List.append_nil]
 rw [e] at g1
 rw [hp] at g1 k
 exact k w' g1 (by rw [hb];exact g2)
theorem App_new {e size bytes:Nat} {z:Array Value} {s:Sl} {m:Nat} {src:List Value→World→Prop} {K:Sl→Pr} {w:World} {cs new:List Value} (hs:RdC s.p (s.len * size) cs w) (hn:src new w) (hl:new.length=m * size)
  (h1:∀ v∈new,v.oneCell'=true) (hz:z.size=size) (h47:(s.len + m) * bytes≤140737488355328) (h63:s.len + m≤9223372036854775807) (hc:s.cap < s.len + m)
  (k:∀ (r:Sl) (w':World),SlC w' r size (cs ++ new)→r.len=s.len + m→Keeps [] w w'→(∀ x∈blk r,w.heap.size≤x)→K r w'):App e size bytes z s m src K w:=by
 refine ⟨new,hn,?_⟩
 rw [if_neg (by omega)]
 have hlen:=hs.1
 refine ⟨h47,by omega,cs,hs,fun c hcc=>?_⟩
 have hsz:((cs ++ new).toArray ++ Builtin.zeroCells z (c - (s.len + m))).size=c * size:=by
  rw [zeroCells_eq,Array.size_append,List.size_toArray,List.size_toArray,List.length_append,zerosL_length,hlen,hl]
  simp only [Array.length_toList,hz]
  rw [← Nat.add_mul,← Nat.add_mul]
  congr 1
  omega
 refine k _ _ ⟨by simp [hlen,hl,Nat.add_mul],by simpa using hcc,.inr ⟨w.heap.size,0,_,e,(0,0),rfl,hp_alloc_new w.drew _,by rw [hsz];simp,?_,?_⟩⟩ rfl ((Keeps.refl _ _).drew.alloc _) ?_
 ·intro j hj
  rw [Nat.zero_add,Array.getElem?_append_left (by simpa using hj)]
  simp
 ·intro j _
  simp
 ·intro x hx
  rw [blk_sub rfl x hx]
  exact Nat.le_refl _
theorem Cpy_of {w:World} {s:Sl} {size:Nat} {cs vs:List Value} (h:SlC w s size cs) {i n:Nat} {src:List Value→World→Prop} (hn:src vs w) (hl:vs.length=n * size) (h1:∀ v∈vs,v.oneCell'=true) (h0:0 < n) (hi:i + n≤s.len) {K:Pr}
  (k:∀ w',SlC w' s size (setL cs (i * size) vs)→Keeps (blk s) w w'→K w'):Cpy size (slOff s.p s.cap i size) n src K w:=by
 refine ⟨vs,hn,?_⟩
 have hlen:=h.len
 have hc:=h.cap
 obtain ⟨b,o,hp,hb⟩:=h.base (by omega)
 have hne:s.cap ≠ i:=by omega
 have e:slOff s.p s.cap i size=some ⟨b,o + i * size,none⟩:=by simp [slOff,hne,hp,add_of]
 rw [e]
 dsimp only
 have e1:(i + n) * size≤s.len * size:=Nat.mul_le_mul_right _ hi
 rw [Nat.add_mul] at e1
 refine h.writes hp (k:=i * size) (by omega) h1 ?_
 intro w' g1 g2
 exact k w' g1 (by rw [hb];exact g2)
def Kd.nov:Kd→Bool
 | .v=>false
 | _=>true
theorem Kd.one {k:Kd} (h:k.nov=true) (x:k.T):(k.enc x).oneCell'=true:=by cases k <;> first | rfl | cases h
structure Rec (α:Type) where
 ks:List Kd
 t:α→Tup ks
 nv:ks.all Kd.nov=true
 pos:0 < ks.length
namespace Rec
variable {α:Type} (ρ:Rec α)
def n:Nat:=ρ.ks.length
def c (x:α):List Value:=encs ρ.ks (ρ.t x)
def v (x:α):Value:=.agg (ρ.c x).toArray
end Rec
theorem encs_len:∀ (ks:List Kd) (y:Tup ks),(encs ks y).length=ks.length
 | [],_=>rfl
 | k :: ks,y=>by simp [encs,encs_len ks]
theorem encs_one:∀ (ks:List Kd) (y:Tup ks),ks.all Kd.nov=true→∀ v∈encs ks y,v.oneCell'=true
 | [],_,_,v,hv=>by cases hv
 | k :: ks,y,h,v,hv=>by
  simp only [List.all_cons,Bool.and_eq_true] at h
  simp only [encs,List.mem_cons] at hv
  rcases hv with rfl | hv
  ·exact Kd.one h.1 _
  ·exact encs_one ks y.2 h.2 v hv
theorem Rec.len {α:Type} (ρ:Rec α) (x:α):(ρ.c x).length=ρ.n:=encs_len _ _
theorem Rec.n0 {α:Type} (ρ:Rec α):0 < ρ.n:=ρ.pos
theorem Rec.one {α:Type} (ρ:Rec α) (x:α):∀ v∈ρ.c x,v.oneCell'=true:=encs_one _ _ ρ.nv
theorem Rec.ones {α:Type} (ρ:Rec α) (l:List α):∀ v∈l.flatMap ρ.c,v.oneCell'=true:=by
 intro v hv
 obtain ⟨x,_,hx⟩:=List.mem_flatMap.1 hv
 exact ρ.one x v hx
def LdT:(ks:List Kd)→Addr→Nat→(Tup ks→Pr)→Pr
 | [],_,_,K=>K ()
 | k :: ks,a,i,K=>Ld k (a.add i) fun x=>LdT ks a (i + 1) fun y=>K (x,y)
theorem Ld_of {k:Kd} {a:Addr} {K:k.T→Pr} {w:World} {x:k.T} (h:w.cell? a=some (k.enc x)) (hk:K x w):Ld k a K w:=by
 cases k <;> exact ⟨x,h,hk⟩
theorem LdT_of:∀ {ks:List Kd} {a:Addr} {i:Nat} {K:Tup ks→Pr} {w:World} {y:Tup ks},(∀ j u,(encs ks y)[j]?=some u→w.cell? (a.add (i + j))=some u)→K y w→LdT ks a i K w
 | [],a,i,K,w,y,h,hk=>hk
 | k :: ks,a,i,K,w,y,h,hk=>by
  refine Ld_of (x:=y.1) (h 0 _ rfl) ?_
  refine LdT_of (y:=y.2) (fun j u hj=>?_) hk
  have:=h (j + 1) u (by simpa [encs] using hj)
  rwa [show i + 1 + j=i + (j + 1) from by omega]
theorem add_add (a:Addr) (i j:Nat):(a.add i).add j=a.add (i + j):=addr_add a i j
def rb (s:Sl):List Nat:=match s.len with | 0=>[] | _ + 1=>rblk s
theorem rb_zero {s:Sl} (h:s.len=0):rb s=[]:=by unfold rb;rw [h]
theorem rb_pos {s:Sl} (h:s.len ≠ 0):rb s=rblk s:=by unfold rb;split;omega;rfl
section
variable {α:Type} (ρ:Rec α)
structure RdE (w:World) (s:Sl) (l:List α):Prop where
 rd:RdC s.p (s.len * ρ.n) (l.flatMap ρ.c) w
 cap:s.len≤s.cap
abbrev SlE (w:World) (s:Sl) (l:List α):Prop:=SlC w s ρ.n (l.flatMap ρ.c)
variable {ρ}
theorem SlC.rb {w:World} {s:Sl} {size:Nat} {cs:List Value} (h:SlC w s size cs):∀ x∈rb s,x∈blk s:=by
 intro x hx
 by_cases h0:s.len=0
 ·rw [rb_zero h0] at hx;cases hx
 ·rw [rb_pos h0] at hx
  have:=h.cap
  unfold blk
  split
  ·omega
  ·exact hx
theorem SlC.rde {w:World} {s:Sl} {l:List α} (h:SlE ρ w s l):RdE ρ w s l:=⟨h.rdc,h.cap⟩
theorem RdE.len {w:World} {s:Sl} {l:List α} (h:RdE ρ w s l):s.len=l.length:=by
 have:=h.rd.1
 rw [flat_length ρ.len] at this
 exact (Nat.eq_of_mul_eq_mul_right ρ.n0 this).symm
theorem SlC.len' {w:World} {s:Sl} {l:List α} (h:SlE ρ w s l):s.len=l.length:=h.rde.len
theorem RdE.at {w:World} {s:Sl} {l:List α} (h:RdE ρ w s l) {i:Nat} {x:α} (hx:l[i]?=some x):∃ a,s.p=some a∧∀ j u,(ρ.c x)[j]?=some u→w.cell? ((a.add (i * ρ.n)).add j)=some u:=by
 have get:∀ j u,(ρ.c x)[j]?=some u→∃ a,s.p=some a∧w.cell? (a.add (i * ρ.n + j))=some u:=by
  intro j u hj
  have hjl:j < ρ.n:=by rw [← ρ.len x];exact (List.getElem?_eq_some_iff.1 hj).1
  refine h.rd.2 (i * ρ.n + j) u ?_
  rw [flat_get ρ.len l i j hjl,hx]
  exact hj
 obtain ⟨u,hu⟩:∃ u,(ρ.c x)[0]?=some u:=⟨_,List.getElem?_eq_getElem (by rw [ρ.len];exact ρ.n0)⟩
 obtain ⟨a,ha,_⟩:=get 0 u hu
 refine ⟨a,ha,fun j u hj=>?_⟩
 obtain ⟨a',ha',hc⟩:=get j u hj
 rw [ha,Option.some.injEq] at ha'
 subst ha'
 rw [add_add]
 exact hc
theorem RdE.lt {w:World} {s:Sl} {l:List α} (h:RdE ρ w s l):∀ x∈rb s,x < w.heap.size:=by
 intro x hx
 by_cases h0:s.len=0
 ·rw [rb_zero h0] at hx;cases hx
 rw [rb_pos h0] at hx
 have hl:=h.len
 obtain ⟨y,hy⟩:∃ y,l[0]?=some y:=⟨_,List.getElem?_eq_getElem (by omega)⟩
 obtain ⟨a,ha,hc⟩:=h.at hy
 obtain ⟨u,hu⟩:∃ u,(ρ.c y)[0]?=some u:=⟨_,List.getElem?_eq_getElem (by rw [ρ.len];exact ρ.n0)⟩
 have h1:=hc 0 u hu
 have hb:((a.add (0 * ρ.n)).add 0).block=a.block:=by unfold Addr.add;split <;> (try split) <;> rfl
 unfold rblk at hx
 rw [ha] at hx
 simp only [List.mem_singleton] at hx
 subst hx
 rcases Nat.lt_or_ge a.block w.heap.size with h' | h'
 ·exact h'
 ·simp only [World.cell?,hb,Array.getElem?_eq_none h'] at h1
  cases h1
theorem RdE.keeps {w w':World} {s:Sl} {l:List α} {m:List Nat} (h:RdE ρ w s l) (hk:Keeps m w w') (hd:∀ x∈rb s,x ∉ m):RdE ρ w' s l:=by
 refine ⟨?_,h.cap⟩
 by_cases h0:s.len=0
 ·have h1:=h.rd
  have hl:=h.len
  have:l=[]:=List.eq_nil_of_length_eq_zero (by omega)
  subst this
  exact ⟨h1.1,fun j v hj=>by simp at hj⟩
 ·refine rdc_keeps h.rd hk fun a ha=>hd _ ?_
  rw [rb_pos h0,rblk,ha]
  simp
theorem RdE.keeps0 {w w':World} {s:Sl} {l:List α} (h:RdE ρ w s l) (hk:Keeps [] w w'):RdE ρ w' s l:=h.keeps hk (by simp)
theorem SlC.keeps0 {w w':World} {s:Sl} {size:Nat} {cs:List Value} (h:SlC w s size cs) (hk:Keeps [] w w'):SlC w' s size cs:=h.keeps hk (by simp)
theorem RdE.nil (w:World):RdE ρ w ⟨none,0,0⟩ []:=⟨⟨by simp,fun j v hj=>by simp at hj⟩,Nat.le_refl _⟩
theorem RdE.drop {w:World} {s:Sl} {l:List α} (h:RdE ρ w s l) {lo hi:Nat} (h1:lo≤hi) (h2:hi≤s.len):RdE ρ w ⟨slOff s.p s.cap lo ρ.n,hi - lo,s.cap - lo⟩ ((l.drop lo).take (hi - lo)):=by
 have hl:=h.len
 have hc:=h.cap
 have e:((l.drop lo).take (hi - lo)).length=hi - lo:=by rw [List.length_take,List.length_drop];omega
 refine ⟨⟨by rw [flat_length ρ.len,e],fun j v hj=>?_⟩,by dsimp only;omega⟩
 have hj1:=(List.getElem?_eq_some_iff.1 hj).1
 rw [flat_length ρ.len,e] at hj1
 rw [← flat_take ρ.len,← flat_drop ρ.len,List.getElem?_take,if_pos hj1,List.getElem?_drop] at hj
 obtain ⟨a,ha,hcell⟩:=h.rd.2 _ v hj
 have hlt:hi - lo ≠ 0:=fun h0=>by rw [h0] at hj1;omega
 refine ⟨a.add (lo * ρ.n),?_,by rw [add_add];exact hcell⟩
 simp only [slOff,ha]
 rw [if_neg (by omega)]
 rfl
theorem RdE.ld {w:World} {s:Sl} {l:List α} (h:RdE ρ w s l) {i:Nat} {x:α} (hx:l[i]?=some x) {K:Tup ρ.ks→Pr} (k:K (ρ.t x) w):Ix s (i:Int) ρ.n (fun a=>LdT ρ.ks a 0 K) w:=by
 obtain ⟨a,ha,hc⟩:=h.at hx
 have hi:=(List.getElem?_eq_some_iff.1 hx).1
 have hl:=h.len
 unfold Ix
 rw [ha]
 refine ⟨by omega,by omega,?_⟩
 rw [Int.toNat_natCast]
 refine LdT_of (y:=ρ.t x) (fun j u hj=>?_) k
 rw [Nat.zero_add]
 exact hc j u hj
theorem SlC.ste {w:World} {s:Sl} {l:List α} (h:SlE ρ w s l) {i:Nat} (hi:i < l.length) (x:α) {K:Pr} (k:∀ w',SlE ρ w' s (l.set i x)→Keeps (blk s) w w'→K w'):Ix s (i:Int) ρ.n (fun a=>StR (ρ.c x) a 0 K) w:=by
 have hl:=h.len'
 obtain ⟨b,o,hp,hb⟩:=h.base (by omega)
 rw [Ix_base hp (by omega) (by omega),Int.toNat_natCast]
 have e:(i + 1) * ρ.n≤l.length * ρ.n:=Nat.mul_le_mul_right _ hi
 rw [Nat.succ_mul] at e
 refine h.writes hp (k:=i * ρ.n) (by rw [ρ.len,flat_length ρ.len];omega) (ρ.one x) ?_
 intro w' g1 g2
 rw [flat_set ρ.len l i x hi] at g1
 exact k w' g1 (by rw [hb];exact g2)
theorem box_ld {w:World} {b:Nat} {t:TypeId} {fr:Nat × Nat} {x:α} (h:w.heap[b]?=some (.cells (ρ.c x).toArray t fr)) {K:Tup ρ.ks→Pr} (k:K (ρ.t x) w):LdT ρ.ks ⟨b,0,none⟩ 0 K w:=
 LdT_of (y:=ρ.t x) (fun j u hj=>by rw [add_of,cell_of h,Nat.zero_add,Nat.zero_add,List.getElem?_toArray];exact hj) k
theorem box_src {w:World} {b:Nat} {t:TypeId} {fr:Nat × Nat} {x:α} (h:w.heap[b]?=some (.cells (ρ.c x).toArray t fr)):srcS (some ⟨b,0,none⟩) 1 ρ.n (ρ.c x) w:=
 ⟨by rw [ρ.len,Nat.one_mul],fun j v hj=>⟨_,rfl,by rw [add_of,cell_of h,Nat.zero_add];simpa using hj⟩⟩
theorem RdE.front {w:World} {s:Sl} {l:List α} (h:SlE ρ w s l) {i:Nat} (hi:i≤s.len):SlE ρ w ⟨s.p,i,s.cap⟩ (l.take i):=by
 have:=slc_front h hi
 rwa [flat_take ρ.len] at this
theorem SlC.app {e bytes:Nat} {z:Array Value} {s:Sl} {m:Nat} {src:List Value→World→Prop} {K:Sl→Pr} {w:World} {l new:List α} (hs:SlE ρ w s l) (hn:src (new.flatMap ρ.c) w) (hm:m=new.length) (hz:z.size=ρ.n) (h47:(s.len + m) * bytes≤140737488355328) (h63:s.len + m≤9223372036854775807)
  (k:∀ (r:Sl) (w':World),SlE ρ w' r (l ++ new)→Keeps (blk s) w w'→(∀ x∈blk r,x∈blk s∨w.heap.size≤x)→K r w'):App e ρ.n bytes z s m src K w:=by
 subst hm
 refine App_of hs hn (flat_length ρ.len _) (ρ.ones _) hz h47 h63 ?_
 intro r w' h1 _ k1 hb
 rw [← List.flatMap_append] at h1
 exact k r w' h1 k1 hb
end
theorem CallV_fn {P:Program} {g:FuncId} (hg:okFn P g=true) {c:Value} {args:List Value} {tup:Bool} {rs:List RK} {K:TR rs→Pr} {w:World} (h:Cl P g (args ++ [c]) tup rs K w):CallV P (.func (.func g) #[] #[c]) args tup rs K w:=by
 unfold CallV
 simp only [hg]
 exact h
theorem CallV_fns {P:Program} {g:FuncId} (hg:okFn P g=true) {cs:List Value} {args:List Value} {tup:Bool} {rs:List RK} {K:TR rs→Pr} {w:World} (h:Cl P g (args ++ cs) tup rs K w):CallV P (.func (.func g) #[] cs.toArray) args tup rs K w:=by
 unfold CallV
 simp only [hg]
 simpa using h
theorem CallV_fn0 {P:Program} {g:FuncId} (hg:okFn P g=true) {args:List Value} {tup:Bool} {rs:List RK} {K:TR rs→Pr} {w:World} (h:Cl P g args tup rs K w):CallV P (.func (.func g) #[] #[]) args tup rs K w:=by
 unfold CallV
 simp only [hg]
 simpa using h
end Go.Sx
set_option linter.unusedSimpArgs false
set_option linter.unusedVariables false
set_option linter.unusedSectionVars false
namespace Go.Sx
open Go
section
variable {α:Type} {ρ:Rec α} {P:Program} {e bytes:Nat} {z:Array Value} {w:World} {s:Sl} {l:List α}
def Clone_tx (e n bytes:Nat) (z:Array Value) (s:Sl) (R:TR [.sc .sl]→Pr):Pr:=
 Br (Option.isNone s.p) (R (⟨none,0,0⟩,())) (New #[] e fun a1=>App e n bytes z ⟨some a1,0,0⟩ s.len (srcS s.p s.len n) fun r2=>R (r2,()))
theorem Clone_of (hz:z.size=ρ.n) (hB:bytes≤1000) (hN:l.length≤100000000) (h:RdE ρ w s l) {K:TR [.sc .sl]→Pr} (k:∀ r w',SlE ρ w' r l→(∀ x∈blk r,w.heap.size≤x)→Keeps [] w w'→K (r,()) w'):Clone_tx e ρ.n bytes z s K w:=by
 have hl:=h.len
 have hm:s.len * bytes≤100000000 * 1000:=Nat.mul_le_mul (by omega) hB
 unfold Clone_tx
 refine Clone_w (K:=fun r=>K (r,())) hz ρ.n0 h.rd (ρ.ones l) (by omega) (by omega) ?_
 intro r w' h1 _ h3 h4
 exact k r w' h1 h4 h3
def Delete_tx (e n bytes:Nat) (z:Array Value) (s:Sl) (i j:Int) (R:TR [.sc .sl]→Pr):Pr:=
 Req ((0:Int)≤((s.len:Nat):Int)∧((s.len:Nat):Int)≤((s.cap:Nat):Int)) <|
 Req ((0:Int)≤j∧j≤(((Int.toNat ((s.len:Nat):Int)):Nat):Int)) <|
 Req ((0:Int)≤i∧i≤(((Int.toNat j):Nat):Int)) <|
 Br ((i:Int) == j) (
 R (s,())) (
 Dr <|
 Req ((0:Int)≤i∧i≤((s.cap:Nat):Int)) <|
 Req ((0:Int)≤j∧j≤((s.len:Nat):Int)) <|
 App e n bytes z ⟨(slOff s.p s.cap 0 n),((Int.toNat i) - 0),(s.cap - 0)⟩ (s.len - (Int.toNat j)) (srcS (slOff s.p s.cap (Int.toNat j) n) (s.len - (Int.toNat j)) n) fun r1=>
 Req ((0:Int)≤((s.len:Nat):Int)∧((s.len:Nat):Int)≤((r1.cap:Nat):Int)) <|
 Req ((0:Int)≤((r1.len:Nat):Int)∧((r1.len:Nat):Int)≤(((Int.toNat ((s.len:Nat):Int)):Nat):Int)) <|
 ClrS z ⟨(slOff r1.p r1.cap (Int.toNat ((r1.len:Nat):Int)) n),((Int.toNat ((s.len:Nat):Int)) - (Int.toNat ((r1.len:Nat):Int))),(r1.cap - (Int.toNat ((r1.len:Nat):Int)))⟩ <|
 R (r1,()))
theorem Delete_of (hz:z.size=ρ.n) (h1z:∀ v∈z.toList,v.oneCell'=true) (h:SlE ρ w s l) {i j:Nat} (hij:i≤j) (hj:j≤l.length) (hN:l.length≤100000000) {y y':Int} (hy:y=(i:Int)) (hy':y'=(j:Int)) {K:TR [.sc .sl]→Pr}
  (k:∀ r w',SlE ρ w' r (l.take i ++ l.drop j)→(∀ x∈blk r,x∈blk s)→Keeps (blk s) w w'→K (r,()) w'):Delete_tx e ρ.n bytes z s y y' K w:=by
 subst hy hy'
 have hl:=h.len'
 have hc:=h.cap
 unfold Delete_tx
 refine ⟨⟨by omega,by omega⟩,?_⟩
 simp only [Int.toNat_natCast]
 refine ⟨⟨by omega,by omega⟩,⟨by omega,by omega⟩,?_⟩
 by_cases hije:i=j
 ·subst hije
  rw [show ((i:Int) == (i:Int))=true from by simp]
  exact k s w (by rw [List.take_append_drop];exact h) (fun _ h=>h) (Keeps.refl _ _)
 rw [show ((i:Int) == (j:Int))=false from by simp;omega]
 simp only [Br,Dr]
 refine ⟨⟨by omega,by omega⟩,⟨by omega,by omega⟩,?_⟩
 have k1:Keeps [] w w.drew:=(Keeps.refl _ _).drew
 have h1:SlE ρ w.drew s l:=h.keeps0 k1
 rw [slOff_zero,Nat.sub_zero,Nat.sub_zero]
 have hsr:=(h1.rde.drop hj (show l.length≤s.len by omega)).rd
 dsimp only at hsr
 have hd:(l.drop j).take (l.length - j)=l.drop j:=List.take_of_length_le (by rw [List.length_drop];exact Nat.le_refl _)
 rw [hd,← hl] at hsr
 have hf:=RdE.front h1 (i:=i) (by omega)
 by_cases h0:0 < i + (s.len - j)
 ·refine App_in (new:=(l.drop j).flatMap ρ.c) hf hsr (by rw [flat_length ρ.len,List.length_drop,hl]) (ρ.ones _) (by show i + (s.len - j)≤s.cap;omega) h0 ?_
  intro w2 h2 k2
  dsimp only at h2 k2 ⊢
  rw [← List.flatMap_append] at h2
  refine ⟨⟨by omega,by omega⟩,⟨by omega,by omega⟩,?_⟩
  obtain ⟨junk,hjk,hg⟩:=slc_grow h2 (m:=j - i) (by show i + (s.len - j) + (j - i)≤s.cap;omega)
  dsimp only at hg
  have e1:i + (s.len - j) + (j - i)=s.len:=by omega
  rw [e1] at hg
  have k3:=ClrS_front hg hz h1z (i:=i + (s.len - j)) (by show _≤s.len;omega) (K:=K (⟨s.p,i + (s.len - j),s.cap⟩,())) ?_
  ·exact k3
  ·intro w3 h3 kk3 _
   refine k _ _ ?_ (fun x hx=>hx) (((k1.mono (m':=blk s) (by simp)).trans k2 (fun _ hx=>.inl hx)).trans kk3 (fun _ hx=>.inl hx))
   have e2:((l.take i ++ l.drop j).flatMap ρ.c).length=(i + (s.len - j)) * ρ.n:=by
    rw [flat_length ρ.len,List.length_append,List.length_take,List.length_drop]
    congr 1
    omega
   rw [List.take_append_of_le_length (by omega),List.take_of_length_le (by omega)] at h3
   exact h3
 ·have hi0:i=0:=by omega
  have hl1:j=s.len:=by omega
  subst hi0 hl1
  have hld:l.drop s.len=[]:=List.drop_of_length_le (by omega)
  rw [hld] at hsr
  obtain ⟨b,o,hp,hb⟩:=h1.base (by omega)
  refine ⟨[],by rw [Nat.sub_self] at hsr ⊢;exact hsr,?_⟩
  rw [if_pos (by dsimp only;omega),hp]
  dsimp only [StR]
  rw [Nat.sub_self]
  refine ⟨⟨by omega,by simp;omega⟩,⟨by simp,by simp⟩,?_⟩
  have k3:=ClrS_front (s:=s) h1 hz h1z (i:=0) (by omega) (K:=K (⟨s.p,0,s.cap⟩,())) ?_
  ·rw [hp] at k3
   simpa using k3
  ·intro w3 h3 kk3 _
   refine k _ _ ?_ (fun x hx=>hx) ((k1.mono (m':=blk s) (by simp)).trans kk3 (fun _ hx=>.inl hx))
   rw [hld]
   show SlC w3 _ ρ.n []
   simpa using h3
def Insert_tx (P:Program) (g1 g2:FuncId) (e n bytes:Nat) (z:Array Value) (p_s:Sl) (p_i:Int) (p_v:Sl) (R:TR [.sc .sl]→Pr):Pr:=
 Req ((0:Int)≤p_i∧p_i≤((p_s.len:Nat):Int)) <|
 Br ((((p_v.len:Nat):Int):Int) == 0) (
 R (p_s,())) (
 Br ((p_i:Int) == ((p_s.len:Nat):Int)) (
 App e n bytes z p_s p_v.len (srcS p_v.p p_v.len n) fun r1=>
 R (r1,())) (
 Br (decide (((w64 (((p_s.len:Nat):Int) + ((p_v.len:Nat):Int))):Int) > ((p_s.cap:Nat):Int))) (
 Req ((0:Int)≤p_i∧p_i≤((p_s.cap:Nat):Int)) <|
 AppZ e n bytes z ⟨(slOff p_s.p p_s.cap 0 n),((Int.toNat p_i) - 0),(p_s.cap - 0)⟩ (w64 ((w64 (((p_s.len:Nat):Int) + ((p_v.len:Nat):Int))) - p_i)) fun r2=>
 Req ((0:Int)≤p_i∧p_i≤((r2.len:Nat):Int)) <|
 Cpy n (slOff r2.p r2.cap (Int.toNat p_i) n) (Nat.min p_v.len (r2.len - (Int.toNat p_i))) (srcS p_v.p (Nat.min p_v.len (r2.len - (Int.toNat p_i))) n) <|
 Dr <|
 Req ((0:Int)≤(w64 (p_i + ((p_v.len:Nat):Int)))∧(w64 (p_i + ((p_v.len:Nat):Int)))≤((r2.len:Nat):Int)) <|
 Req ((0:Int)≤p_i∧p_i≤((p_s.len:Nat):Int)) <|
 Cpy n (slOff r2.p r2.cap (Int.toNat (w64 (p_i + ((p_v.len:Nat):Int)))) n) (Nat.min (p_s.len - (Int.toNat p_i)) (r2.len - (Int.toNat (w64 (p_i + ((p_v.len:Nat):Int)))))) (srcS (slOff p_s.p p_s.cap (Int.toNat p_i) n) (Nat.min (p_s.len - (Int.toNat p_i)) (r2.len - (Int.toNat (w64 (p_i + ((p_v.len:Nat):Int)))))) n) <|
 R (r2,())) (
 Req ((0:Int)≤(w64 (((p_s.len:Nat):Int) + ((p_v.len:Nat):Int)))∧(w64 (((p_s.len:Nat):Int) + ((p_v.len:Nat):Int)))≤((p_s.cap:Nat):Int)) <|
 Req ((0:Int)≤(w64 (p_i + ((p_v.len:Nat):Int)))∧(w64 (p_i + ((p_v.len:Nat):Int)))≤((((Int.toNat (w64 (((p_s.len:Nat):Int) + ((p_v.len:Nat):Int)))) - 0):Nat):Int)) <|
 Ex P g1 [(.slice p_v.p p_v.len p_v.cap),(.slice (slOff (slOff p_s.p p_s.cap 0 n) (p_s.cap - 0) (Int.toNat (w64 (p_i + ((p_v.len:Nat):Int)))) n) (((Int.toNat (w64 (((p_s.len:Nat):Int) + ((p_v.len:Nat):Int)))) - 0) - (Int.toNat (w64 (p_i + ((p_v.len:Nat):Int))))) ((p_s.cap - 0) - (Int.toNat (w64 (p_i + ((p_v.len:Nat):Int))))))] false [.sc .b] fun r3=>
 Br (!r3.1) (
 Dr <|
 Req ((0:Int)≤(w64 (p_i + ((p_v.len:Nat):Int)))∧(w64 (p_i + ((p_v.len:Nat):Int)))≤((((Int.toNat (w64 (((p_s.len:Nat):Int) + ((p_v.len:Nat):Int)))) - 0):Nat):Int)) <|
 Req ((0:Int)≤p_i∧p_i≤((((Int.toNat (w64 (((p_s.len:Nat):Int) + ((p_v.len:Nat):Int)))) - 0):Nat):Int)) <|
 Cpy n (slOff (slOff p_s.p p_s.cap 0 n) (p_s.cap - 0) (Int.toNat (w64 (p_i + ((p_v.len:Nat):Int)))) n) (Nat.min (((Int.toNat (w64 (((p_s.len:Nat):Int) + ((p_v.len:Nat):Int)))) - 0) - (Int.toNat p_i)) (((Int.toNat (w64 (((p_s.len:Nat):Int) + ((p_v.len:Nat):Int)))) - 0) - (Int.toNat (w64 (p_i + ((p_v.len:Nat):Int)))))) (srcS (slOff (slOff p_s.p p_s.cap 0 n) (p_s.cap - 0) (Int.toNat p_i) n) (Nat.min (((Int.toNat (w64 (((p_s.len:Nat):Int) + ((p_v.len:Nat):Int)))) - 0) - (Int.toNat p_i)) (((Int.toNat (w64 (((p_s.len:Nat):Int) + ((p_v.len:Nat):Int)))) - 0) - (Int.toNat (w64 (p_i + ((p_v.len:Nat):Int)))))) n) <|
 Req ((0:Int)≤p_i∧p_i≤((((Int.toNat (w64 (((p_s.len:Nat):Int) + ((p_v.len:Nat):Int)))) - 0):Nat):Int)) <|
 Cpy n (slOff (slOff p_s.p p_s.cap 0 n) (p_s.cap - 0) (Int.toNat p_i) n) (Nat.min p_v.len (((Int.toNat (w64 (((p_s.len:Nat):Int) + ((p_v.len:Nat):Int)))) - 0) - (Int.toNat p_i))) (srcS p_v.p (Nat.min p_v.len (((Int.toNat (w64 (((p_s.len:Nat):Int) + ((p_v.len:Nat):Int)))) - 0) - (Int.toNat p_i))) n) <|
 R (⟨(slOff p_s.p p_s.cap 0 n),((Int.toNat (w64 (((p_s.len:Nat):Int) + ((p_v.len:Nat):Int)))) - 0),(p_s.cap - 0)⟩,())) (
 Req ((0:Int)≤((p_s.len:Nat):Int)∧((p_s.len:Nat):Int)≤((((Int.toNat (w64 (((p_s.len:Nat):Int) + ((p_v.len:Nat):Int)))) - 0):Nat):Int)) <|
 Cpy n (slOff (slOff p_s.p p_s.cap 0 n) (p_s.cap - 0) (Int.toNat ((p_s.len:Nat):Int)) n) (Nat.min p_v.len (((Int.toNat (w64 (((p_s.len:Nat):Int) + ((p_v.len:Nat):Int)))) - 0) - (Int.toNat ((p_s.len:Nat):Int)))) (srcS p_v.p (Nat.min p_v.len (((Int.toNat (w64 (((p_s.len:Nat):Int) + ((p_v.len:Nat):Int)))) - 0) - (Int.toNat ((p_s.len:Nat):Int)))) n) <|
 Req ((0:Int)≤p_i∧p_i≤((((Int.toNat (w64 (((p_s.len:Nat):Int) + ((p_v.len:Nat):Int)))) - 0):Nat):Int)) <|
 Cl P g2 [(.slice (slOff (slOff p_s.p p_s.cap 0 n) (p_s.cap - 0) (Int.toNat p_i) n) (((Int.toNat (w64 (((p_s.len:Nat):Int) + ((p_v.len:Nat):Int)))) - 0) - (Int.toNat p_i)) ((p_s.cap - 0) - (Int.toNat p_i))),(.int .i64 ((p_v.len:Nat):Int))] true [] fun r4=>
 R (⟨(slOff p_s.p p_s.cap 0 n),((Int.toNat (w64 (((p_s.len:Nat):Int) + ((p_v.len:Nat):Int)))) - 0),(p_s.cap - 0)⟩,())))))
theorem ins_get {m:Nat} {T X D:List Value} {i n:Nat} (hT:T.length=(n + 1) * m) (hi:i≤n) (hX:X.length=m) (hD:D.length=(n - i) * m) (j:Nat) :
  (T.take (i * m) ++ X ++ D)[j]?=if i * m≤j∧j < i * m + m then X[j - i * m]? else if i * m + m≤j then D[j - (i * m + m)]? else T[j]?:=by
 have e:i * m≤n * m:=Nat.mul_le_mul_right _ hi
 rw [Nat.succ_mul] at hT
 have hk:(T.take (i * m)).length=i * m:=by rw [List.length_take];omega
 by_cases h1:j < i * m
 ·rw [if_neg (by omega),if_neg (by omega),List.append_assoc,List.getElem?_append_left (by omega),List.getElem?_take,if_pos h1]
 ·by_cases h2:j < i * m + m
  ·rw [if_pos (by omega),List.getElem?_append_left (by rw [List.length_append];omega),List.getElem?_append_right (by omega),hk]
  ·rw [if_neg (by omega),if_pos (by omega),List.getElem?_append_right (by rw [List.length_append];omega)]
   congr 1
   rw [List.length_append]
   omega
theorem ins12 {m:Nat} {T X D:List Value} {i n:Nat} (hT:T.length=(n + 1) * m) (hi:i≤n) (hX:X.length=m) (hD:D.length=(n - i) * m):setL (setL T ((i + 1) * m) D) (i * m) X=T.take (i * m) ++ X ++ D∧setL (setL T (i * m) X) ((i + 1) * m) D=T.take (i * m) ++ X ++ D:=by
 have e:(n - i) * m + i * m=n * m:=by rw [← Nat.add_mul];congr 1;omega
 have hT':=hT
 rw [Nat.succ_mul] at hT'
 have e1:(setL T ((i + 1) * m) D).length=T.length:=setL_length (by rw [Nat.succ_mul];omega)
 have e2:(setL T (i * m) X).length=T.length:=setL_length (by omega)
 have es:(i + 1) * m=i * m + m:=Nat.succ_mul _ _
 constructor
 ·apply List.ext_getElem?
  intro j
  rw [ins_get hT hi hX hD,setL_get (by omega),setL_get (by rw [Nat.succ_mul];omega),hX,es]
  by_cases h1:i * m≤j∧j < i * m + m
  ·rw [if_pos h1,if_pos h1]
  ·rw [if_neg h1,if_neg h1]
   by_cases h2:i * m + m≤j
   ·rw [if_pos h2]
    by_cases h3:j < i * m + m + D.length
    ·rw [if_pos ⟨h2,h3⟩]
    ·rw [if_neg (by omega),List.getElem?_eq_none (by omega),List.getElem?_eq_none (by omega)]
   ·rw [if_neg (by omega),if_neg h2]
 ·apply List.ext_getElem?
  intro j
  rw [ins_get hT hi hX hD,setL_get (by omega),setL_get (by omega),hX,es]
  by_cases h2:i * m + m≤j
  ·rw [if_neg (c:=i * m≤j∧j < i * m + m) (by omega),if_neg (c:=i * m≤j∧j < i * m + m) (by omega),if_pos h2]
   by_cases h3:j < i * m + m + D.length
   ·rw [if_pos ⟨h2,h3⟩]
   ·rw [if_neg (by omega),List.getElem?_eq_none (by omega),List.getElem?_eq_none (by omega)]
  ·rw [if_neg (c:=i * m + m≤j∧_) (by omega),if_neg h2]
def OvOk (P:Program) (g:FuncId) (e:TypeId) (n:Nat):Prop:=∀ {w:World} {a b o la ca lb cb:Nat} {cs all:Array Value} {t:TypeId} {fr:Nat × Nat},w.heap[a]?=some (.cells cs e (0,0))→w.heap[b]?=some (.cells all t fr)→a ≠ b→all.size ≠ 0→∀ {K:TR [.sc .b]→Pr},K (false,()) w →
  Ex P g [.slice (some ⟨a,0,none⟩) la ca,.slice (some ⟨b,o,none⟩) lb cb] false [.sc .b] K w
theorem Insert_of {g1 g2:FuncId} (hov:OvOk P g1 e ρ.n) (hz:z.size=ρ.n) (h1z:∀ v∈z.toList,v.oneCell'=true) (hB:bytes≤1000) (hN:l.length≤100000000) (h:SlE ρ w s l) {a:Nat} {x:α} (ha:w.heap[a]?=some (.cells (ρ.c x).toArray e (0,0))) (hna:a ∉ blk s) {i:Nat} (hi:i≤l.length)
  {K:TR [.sc .sl]→Pr} (k:∀ r w',SlE ρ w' r (l.take i ++ x :: l.drop i)→(∀ y∈blk r,y∈blk s∨w.heap.size≤y)→Keeps (blk s) w w'→K (r,()) w') :
  Insert_tx P g1 g2 e ρ.n bytes z s (i:Int) ⟨some ⟨a,0,none⟩,1,1⟩ K w:=by
 have hl:=h.len'
 have hc:=h.cap
 have hn0:=ρ.n0
 have hm:(s.len + 1) * bytes≤100000001 * 1000:=Nat.mul_le_mul (by omega) hB
 have hsrc:∀ w',w'.heap[a]?=some (.cells (ρ.c x).toArray e (0,0))→srcS (some ⟨a,0,none⟩) 1 ρ.n (ρ.c x) w':=fun w' ha=>box_src ha
 unfold Insert_tx
 dsimp only
 refine ⟨⟨by omega,by omega⟩,?_⟩
 rw [show (((1:Nat):Int) == 0)=false from rfl]
 simp only [Br_false]
 have hin:∀ l':List α,(l'.take i ++ x :: l'.drop i).flatMap ρ.c=(l'.take i).flatMap ρ.c ++ ρ.c x ++ (l'.drop i).flatMap ρ.c:=by intro l';simp
 by_cases hil:i=s.len
 ·rw [show ((i:Int) == ((s.len:Nat):Int))=true from by simp [hil]]
  simp only [Br_true]
  refine App_of h (hsrc w ha) (by rw [ρ.len,Nat.one_mul]) (ρ.one x) hz (by omega) (by omega) ?_
  intro r w' h1 _ h3 h4
  refine k r _ ?_ h4 h3
  show SlC w' r ρ.n _
  rw [hin,List.take_of_length_le (by omega),List.drop_of_length_le (by omega)]
  simpa using h1
 ·rw [show ((i:Int) == ((s.len:Nat):Int))=false from by simp;omega]
  simp only [Br_false]
  rw [show w64 (((s.len:Nat):Int) + ((1:Nat):Int))=((s.len + 1:Nat):Int) from by rw [w64_in (by omega) (by omega)];omega,show w64 ((i:Int) + ((1:Nat):Int))=((i + 1:Nat):Int) from by rw [w64_in (by omega) (by omega)];omega]
  have hrest:∀ w',SlE ρ w' s l→RdC (slOff s.p s.cap i ρ.n) ((s.len - i) * ρ.n) ((l.drop i).flatMap ρ.c) w':=by
   intro w' h'
   have:=(h'.rde.drop (lo:=i) (hi:=s.len) (by omega) (Nat.le_refl _)).rd
   dsimp only at this
   rwa [List.take_of_length_le (by rw [List.length_drop];omega)] at this
  have hdl:((l.drop i).flatMap ρ.c).length=(s.len - i) * ρ.n:=by rw [flat_length ρ.len,List.length_drop,hl]
  have hm1:(s.len + 1 - i) * bytes≤100000001 * 1000:=Nat.mul_le_mul (by omega) hB
  by_cases hcap:s.cap < s.len + 1
  ·rw [decide_eq_true (by omega)]
   simp only [Br_true]
   refine ⟨⟨by omega,by omega⟩,?_⟩
   simp only [slOff_zero,Nat.sub_zero,Int.toNat_natCast]
   rw [show w64 (((s.len + 1:Nat):Int) - (i:Int))=((s.len + 1 - i:Nat):Int) from by rw [w64_in (by omega) (by omega)];omega]
   refine ⟨by omega,by omega,?_,?_⟩
   ·have:(((s.len + 1 - i) * bytes:Nat):Int)≤100000001 * 1000:=by omega
    rw [Int.natCast_mul] at this
    omega
   rw [Int.toNat_natCast]
   have hf:=RdE.front h (i:=i) (by omega)
   have hm2:(i + (s.len + 1 - i)) * bytes≤100000001 * 1000:=Nat.mul_le_mul (by omega) hB
   refine App_new (new:=zerosL z.toList (s.len + 1 - i)) hf.rdc ?_ ?_ (oneZ h1z _) hz (by dsimp only;omega) (by dsimp only;omega) (by dsimp only;omega) ?_
   ·show _=_
    rw [if_neg (Nat.ne_of_gt (Nat.mul_pos (by omega) hn0)),zeroCells_eq]
   ·rw [zerosL_length,Array.length_toList,hz]
   ·intro r w1 h1 hr k1 hb1
    dsimp only at hr
    have hr':r.len=s.len + 1:=by omega
    refine ⟨⟨by omega,by omega⟩,?_⟩
    rw [show Nat.min 1 (r.len - i)=1 from by rw [hr'];exact Nat.min_eq_left (by omega)]
    refine Cpy_of (s:=r) h1 (hsrc w1 (k1.at ha (by simp))) (by rw [ρ.len,Nat.one_mul]) (ρ.one x) (by omega) (by omega) ?_
    intro w2 h2 k2
    simp only [Dr]
    have kd:Keeps [] w2 w2.drew:=(Keeps.refl _ _).drew
    have h2d:=h2.keeps0 kd
    refine ⟨⟨by omega,by omega⟩,⟨by omega,by omega⟩,?_⟩
    rw [show Nat.min (s.len - i) (r.len - (i + 1))=s.len - i from by rw [hr'];exact Nat.min_eq_left (by omega)]
    have ksr:Keeps [] w w2.drew:=(kpx k1 k2 hb1).drew
    refine Cpy_of h2d (hrest _ (h.keeps0 ksr)) hdl (ρ.ones _) (by omega) (by omega) ?_
    intro w3 h3 k3
    refine k r _ ?_ (fun y hy=>.inr (hb1 y hy)) ((kpx ksr k3 hb1).mono (by simp))
    show SlC w3 r ρ.n _
    have hTl:((l.take i).flatMap ρ.c ++ zerosL z.toList (s.len + 1 - i)).length=(s.len + 1) * ρ.n:=by
     rw [List.length_append,zerosL_length,flat_length ρ.len,show z.toList.length=ρ.n from (Array.length_toList (xs:=z)).trans hz,← Nat.add_mul,List.length_take]
     congr 1
     omega
    rw [(ins12 (n:=s.len) hTl (by omega) (ρ.len x) hdl).2] at h3
    rw [hin]
    have hk:((l.take i).flatMap ρ.c).length=i * ρ.n:=by rw [flat_length ρ.len,List.length_take];congr 1;omega
    rw [List.take_append_of_le_length (by omega),List.take_of_length_le (by omega)] at h3
    exact h3
  ·rw [decide_eq_false (by omega)]
   simp only [Br_false]
   refine ⟨⟨by omega,by omega⟩,?_⟩
   simp only [slOff_zero,Nat.sub_zero,Int.toNat_natCast]
   refine ⟨⟨by omega,by omega⟩,?_⟩
   obtain ⟨junk,hj,hg⟩:=slc_grow h (m:=1) (by omega)
   obtain ⟨b,o,hp,hb⟩:=h.base (by omega)
   have hoff:slOff s.p s.cap (i + 1) ρ.n=some ⟨b,o + (i + 1) * ρ.n,none⟩:=by
    have hne:s.cap ≠ i + 1:=by omega
    simp [slOff,hne,hp,add_of]
   obtain ⟨b',o',all,t,fr,hp',hbl,g1',_⟩:=h.row.resolve_left (by omega)
   rw [hp,Option.some.injEq,Addr.mk.injEq] at hp'
   obtain ⟨rfl,rfl,_⟩:=hp'
   have hab:a ≠ b:=by rw [hb] at hna;simpa using hna
   have key:∀ w0,Keeps [] w w0→Cpy ρ.n (slOff s.p s.cap (i + 1) ρ.n) (Nat.min (s.len + 1 - i) (s.len + 1 - (i + 1))) (srcS (slOff s.p s.cap i ρ.n) (Nat.min (s.len + 1 - i) (s.len + 1 - (i + 1))) ρ.n)
     (Req ((0:Int)≤(i:Int)∧(i:Int)≤((s.len + 1:Nat):Int)) <| Cpy ρ.n (slOff s.p s.cap i ρ.n) (Nat.min 1 (s.len + 1 - i)) (srcS (some ⟨a,0,none⟩) (Nat.min 1 (s.len + 1 - i)) ρ.n) (K (⟨s.p,s.len + 1,s.cap⟩,()))) w0:=by
    intro w0 k0
    rw [show Nat.min (s.len + 1 - i) (s.len + 1 - (i + 1))=s.len - i from by rw [show Nat.min _ _=min _ _ from rfl];omega,show Nat.min 1 (s.len + 1 - i)=1 from Nat.min_eq_left (by omega)]
    refine Cpy_of (s:=⟨s.p,s.len + 1,s.cap⟩) (i:=i + 1) (hg.keeps0 k0) (hrest _ (h.keeps0 k0)) hdl (ρ.ones _) (by omega) (by dsimp only;omega) ?_
    intro w1 h1 k1
    refine ⟨⟨by omega,by omega⟩,?_⟩
    have k01:Keeps (blk s) w w1:=(k0.mono (by simp)).trans k1 (fun _ hx=>.inl hx)
    refine Cpy_of (s:=⟨s.p,s.len + 1,s.cap⟩) (i:=i) h1 (hsrc w1 (k01.at ha hna)) (by rw [ρ.len,Nat.one_mul]) (ρ.one x) (by omega) (by dsimp only;omega) ?_
    intro w2 h2 k2
    refine k _ _ ?_ (fun y hy=>.inl hy) (k01.trans k2 (fun _ hx=>.inl hx))
    show SlC w2 _ ρ.n _
    have hlf:=flat_length ρ.len l
    have hTl:(l.flatMap ρ.c ++ junk).length=(s.len + 1) * ρ.n:=by
     rw [List.length_append,hlf,hj,← Nat.add_mul,hl]
    have hle:i * ρ.n≤l.length * ρ.n:=Nat.mul_le_mul_right _ hi
    rw [(ins12 (n:=s.len) hTl (by omega) (ρ.len x) hdl).1,List.take_append_of_le_length (by omega),flat_take ρ.len,← hin] at h2
    exact h2
   have key2:=key w.drew ((Keeps.refl [] w).drew)
   rw [hoff] at key2 ⊢
   have hall:all.size ≠ 0:=by
    have:1 * ρ.n≤s.cap * ρ.n:=Nat.mul_le_mul_right _ (by omega)
    omega
   refine hov ha hbl hab hall ?_
   simp only [Bool.not_false,Br_true,Dr]
   refine ⟨⟨by omega,by omega⟩,⟨by omega,by omega⟩,?_⟩
   exact key2
def LdOk (ρ:Rec α) (ld:Addr→(Value→Pr)→Pr) (v:α→Value):Prop:=∀ {w:World} {s:Sl} {l:List α} {i:Nat} {x:α} {K:Value→Pr},RdE ρ w s l→l[i]?=some x→K (v x) w→Ix s (i:Int) ρ.n (fun a=>ld a K) w
def ldA (ks:List Kd) (a:Addr) (K:Value→Pr):Pr:=LdT ks a 0 fun y=>K (.agg (encs ks y).toArray)
def ldK (k:Kd) (a:Addr) (K:Value→Pr):Pr:=Ld k a fun x=>K (k.enc x)
theorem ldA_ok (ρ:Rec α):LdOk ρ (ldA ρ.ks) ρ.v:=fun h hx hk=>h.ld hx hk
def Rec.sca (k:Kd) (hk:k.nov=true):Rec k.T:=⟨[k],fun x=>(x,()),by simp [hk],by simp⟩
theorem ldK_ok (k:Kd) (hk:k.nov=true):LdOk (Rec.sca k hk) (ldK k) k.enc:=by
 intro w s l i x K h hx hK
 obtain ⟨a,ha,hc⟩:=h.at hx
 have hi:=(List.getElem?_eq_some_iff.1 hx).1
 have hl:=h.len
 unfold Ix
 rw [ha]
 refine ⟨by omega,by omega,?_⟩
 rw [Int.toNat_natCast]
 have h0:=hc 0 (k.enc x) rfl
 rw [add_add,Nat.add_zero] at h0
 exact Ld_of h0 hK
def IsP (P:Program) (f:Value) (v:α→Value) (p:α→Bool) (F:Nat→Prop) (l:List α) (w:World):Prop:=
 ∀ w',KeepsP F w w'→∀ x∈l,∀ K:TR [.sc .b]→Pr,(∀ w'',Keeps [] w' w''→K (p x,()) w'')→CallV P f [v x] false [.sc .b] K w'
theorem Keeps.toP0 {F:Nat→Prop} {w w':World} (h:Keeps [] w w'):KeepsP F w w':=h.toP (by simp)
theorem KeepsP.toL0 {w w':World} (h:KeepsP (fun _=>False) w w'):Keeps [] w w':=h.toL (fun _ hx=>hx.elim)
theorem Keeps.toPm {m:List Nat} {w w':World} (h:Keeps m w w'):KeepsP (·∈m) w w':=h.toP (fun _ hx=>.inl hx)
theorem IsP.to {f:Value} {v:α→Value} {p:α→Bool} {F:Nat→Prop} {w w1:World} (h:IsP P f v p F l w) (hk:KeepsP F w w1):IsP P f v p F l w1:=fun w' k x=>h w' (hk.same k) x
def idxI (l:List α) (p:α→Bool):Int:=match l.findIdx? p with | some i=>(i:Int) | none=>-1
def IndexFunc_tx (P:Program) (n:Nat) (ld:Addr→(Value→Pr)→Pr) (p_s:Sl) (p_f:Value) (R:TR [.sc (.i .i64)]→Pr):Pr:=
 Lp (σ:=Int × Int × Unit) (fun L1 s2=>
 Br (decide ((s2.2.1:Int) < ((p_s.len:Nat):Int))) (
 Ix p_s s2.2.1 n fun a3=>
 ld a3 fun v=>
 CallV P p_f [v] false [.sc .b] fun r8=>
 Br r8.1 (
 R (s2.2.1,())) (
 L1 (s2.1,(w64 (s2.2.1 + 1)),()))) (
 R ((-1),()))) (0,0,())
variable {ld:Addr→(Value→Pr)→Pr} {v:α→Value}
theorem IndexFunc_of (hld:LdOk ρ ld v) (h:RdE ρ w s l) {f:Value} {p:α→Bool} {F:Nat→Prop} (hp:IsP P f v p F l w) (hN:l.length≤100000000) {K:TR [.sc (.i .i64)]→Pr} (k:∀ w',Keeps [] w w'→K (idxI l p,()) w'):IndexFunc_tx P ρ.n ld s f K w:=by
 have hl:=h.len
 unfold IndexFunc_tx
 refine ⟨fun n st w'=>∃ (q:Int) (i:Nat),st=(q,(i:Int),())∧n=l.length - i∧i≤l.length∧(∀ y∈l.take i,p y=false)∧Keeps [] w w',⟨_,0,0,rfl,rfl,by omega,by simp,Keeps.refl _ _⟩,?_⟩
 rintro n _ w1 ⟨q,i,rfl,rfl,hi,hpre,k1⟩
 dsimp only
 by_cases hlt:i < l.length
 ·rw [decide_eq_true (by omega)]
  simp only [Br]
  obtain ⟨x,hx⟩:∃ x,l[i]?=some x:=⟨_,List.getElem?_eq_getElem hlt⟩
  refine hld (h.keeps0 k1) hx ?_
  refine hp w1 k1.toP0 x (List.mem_of_getElem? hx) _ ?_
  intro w2 k2
  have k02:=kp0 k1 k2
  cases hpx:p x with
  | true=>
   have e:idxI l p=(i:Int):=by
    unfold idxI
    rw [show l.findIdx? p=some i from List.findIdx?_eq_some_iff_getElem.2 ⟨hlt,by rw [(List.getElem?_eq_some_iff.1 hx).2];exact hpx,fun j hj=>by
     have:=hpre l[j] (by rw [List.mem_take_iff_getElem];exact ⟨j,by omega,rfl⟩)
     simp [this]⟩]
   rw [e] at k
   exact k _ k02
  | false=>
   simp only
   refine ⟨l.length - (i + 1),by omega,q,i + 1,by rw [w64p (by omega)],rfl,by omega,?_,k02⟩
   intro y hy
   rw [List.take_add_one,hx] at hy
   simp at hy
   rcases hy with hy | rfl
   ·exact hpre y hy
   ·exact hpx
 ·rw [decide_eq_false (by omega)]
  simp only [Br]
  rw [List.take_of_length_le (by omega)] at hpre
  have e:idxI l p=-1:=by
   unfold idxI
   rw [show l.findIdx? p=none from List.findIdx?_eq_none_iff.2 (fun x hx=>hpre x hx)]
  rw [e] at k
  exact k _ k1
theorem idxI_any (l:List α) (p:α→Bool):decide (idxI l p ≥ 0)=l.any p:=by
 unfold idxI
 cases h:l.findIdx? p with
 | none=>
  rw [List.findIdx?_eq_none_iff] at h
  rw [decide_eq_false (by dsimp only;omega)]
  exact (List.any_eq_false.2 (fun x hx=>by rw [h x hx];simp)).symm
 | some i=>
  obtain ⟨h1,h2,_⟩:=List.findIdx?_eq_some_iff_getElem.1 h
  rw [decide_eq_true (by dsimp only;omega)]
  exact (List.any_eq_true.2 ⟨_,List.getElem_mem h1,h2⟩).symm
def ContainsFunc_tx (P:Program) (g:FuncId) (p_s:Sl) (p_f:Value) (R:TR [.sc .b]→Pr):Pr:=
 Cl P g [(.slice p_s.p p_s.len p_s.cap),p_f] false [.sc (.i .i64)] fun r1=>
 R ((decide ((r1.1:Int) ≥ 0)),())
def IxFn (P:Program) (g:FuncId) (ρ:Rec α) (v:α→Value):Prop:=∀ {w:World} {s:Sl} {l:List α} {f:Value} {p:α→Bool} {F:Nat→Prop},RdE ρ w s l→IsP P f v p F l w→l.length≤100000000→∀ {K:TR [.sc (.i .i64)]→Pr},(∀ w',Keeps [] w w'→K (idxI l p,()) w')→Cl P g [.slice s.p s.len s.cap,f] false [.sc (.i .i64)] K w
theorem ContainsFunc_of {g:FuncId} (hg:IxFn P g ρ v) (h:RdE ρ w s l) {f:Value} {p:α→Bool} {F:Nat→Prop} (hp:IsP P f v p F l w) (hN:l.length≤100000000) {K:TR [.sc .b]→Pr} (k:∀ w',Keeps [] w w'→K (l.any p,()) w'):ContainsFunc_tx P g s f K w:=by
 refine hg h hp hN ?_
 intro w' k1
 dsimp only
 rw [idxI_any]
 exact k w' k1
abbrev Rdr:Type:=Addr→(Value→(((Addr→Pr→Pr)→Pr)→Pr)→Pr)→Pr
def rdrA (ks:List Kd) (z0:Array Value) (t:TypeId):Rdr:=fun a K=>LdT ks a 0 fun y=>New z0 t fun b=>StR (encs ks y) b 0 <| LdT ks b 0 fun y2=>K (.agg (encs ks y2).toArray) fun C=>LdT ks b 0 fun y3=>C fun a k=>StR (encs ks y3) a 0 k
def rdrK (k:Kd):Rdr:=fun a K=>Ld k a fun x=>K (k.enc x) fun C=>C fun a j=>St a (k.enc x) j
def DeleteFunc_tx (P:Program) (g:FuncId) (n:Nat) (z:Array Value) (rd:Rdr) (p_s:Sl) (p_del:Value) (R:TR [.sc .sl]→Pr):Pr:=
 Cl P g [(.slice p_s.p p_s.len p_s.cap),p_del] false [.sc (.i .i64)] fun r1=>
 Br ((r1.1:Int) == (-1)) (
 R (p_s,())) (
 Lp (σ:=Int × Int × Unit) (fun L2 s3=>
 Br (decide ((s3.2.1:Int) < ((p_s.len:Nat):Int))) (
 Jp (σ:=Int × Unit) (fun s5=>
 L2 (s5.1,(w64 (s3.2.1 + 1)),())) fun J4=>
 Ix p_s s3.2.1 n fun a6=>
 rd a6 fun u re=>
 CallV P p_del [u] false [.sc .b] fun r16=>
 Br (!r16.1) (
 re fun st=>
 Ix p_s s3.1 n fun a21=>
 st a21 <|
 J4 ((w64 (s3.1 + 1)),())) (
 J4 (s3.1,()))) (
 Req ((0:Int)≤s3.1∧s3.1≤((p_s.len:Nat):Int)) <|
 ClrS z ⟨(slOff p_s.p p_s.cap (Int.toNat s3.1) n),(p_s.len - (Int.toNat s3.1)),(p_s.cap - (Int.toNat s3.1))⟩ <|
 Req ((0:Int)≤s3.1∧s3.1≤((p_s.cap:Nat):Int)) <|
 R (⟨(slOff p_s.p p_s.cap 0 n),((Int.toNat s3.1) - 0),(p_s.cap - 0)⟩,()))) (r1.1,(w64 (r1.1 + 1)),()))
def StOk (ρ:Rec α) (x:α) (st:Addr→Pr→Pr):Prop:=∀ {w:World} {s:Sl} {l:List α} {j:Nat} {K:Pr},SlE ρ w s l→j < l.length→(∀ w',SlE ρ w' s (l.set j x)→Keeps (blk s) w w'→K w')→Ix s (j:Int) ρ.n (fun a=>st a K) w
def RdOk (ρ:Rec α) (rd:Rdr) (v:α→Value):Prop:=∀ {w:World} {s:Sl} {l:List α} {i:Nat} {x:α} {K},RdE ρ w s l→l[i]?=some x →
 (∀ w1 re,Keeps [] w w1→(∀ w2,Keeps [] w1 w2→∀ C:(Addr→Pr→Pr)→Pr,(∀ st,StOk ρ x st→C st w2)→re C w2)→K (v x) re w1)→Ix s (i:Int) ρ.n (fun a=>rd a K) w
theorem rdrA_ok (ρ:Rec α) {z0:Array Value} {t:TypeId} (hz:z0.size=ρ.n):RdOk ρ (rdrA ρ.ks z0 t) ρ.v:=by
 intro w s l i x K h hx hK
 unfold rdrA
 refine h.ld hx ?_
 refine New_st (K:=fun b=>_) ((ρ.len x).trans hz.symm) (ρ.one x) fun b w1 hb nb k1=>?_
 refine box_ld hb ?_
 refine hK w1 _ k1 fun w2 k2 C hC=>?_
 refine box_ld (k2.at hb (by simp)) ?_
 exact hC _ fun hs hj k=>hs.ste hj x k
theorem rdrK_ok (k:Kd) (hk:k.nov=true):RdOk (Rec.sca k hk) (rdrK k) k.enc:=by
 intro w s l i x K h hx hK
 unfold rdrK
 obtain ⟨a,ha,hc⟩:=h.at hx
 have hi:=(List.getElem?_eq_some_iff.1 hx).1
 have hl:=h.len
 unfold Ix
 rw [ha]
 refine ⟨by omega,by omega,?_⟩
 rw [Int.toNat_natCast]
 have h0:=hc 0 (k.enc x) rfl
 rw [add_add,Nat.add_zero] at h0
 refine Ld_of h0 (hK w _ (Keeps.refl _ _) fun w2 k2 C hC=>hC _ ?_)
 intro w s l j K hs hj kk
 have h3:=hs.ste hj x kk
 unfold Ix at h3 ⊢
 revert h3
 cases s.p with
 | none=>exact id
 | some a=>
  rintro ⟨g1,g2,g3⟩
  refine ⟨g1,g2,?_⟩
  have e:∀ b:Addr,StR ((Rec.sca k hk).c x) b 0 K w→St b (k.enc x) K w:=by
   intro b hb
   have:St (b.add 0) (k.enc x) K w:=hb
   rwa [show b.add 0=b from by unfold Addr.add;rfl] at this
  exact e _ g3
theorem DeleteFunc_of {g:FuncId} {rd:Rdr} (hg:IxFn P g ρ v) (hrd:RdOk ρ rd v) (hz:z.size=ρ.n) (h1z:∀ v∈z.toList,v.oneCell'=true) (h:SlE ρ w s l) {f:Value} {p:α→Bool} (hp:IsP P f v p (·∈blk s) l w) (hN:l.length≤100000000)
  {K:TR [.sc .sl]→Pr} (k:∀ r w',SlE ρ w' r (l.filter (fun x=>!p x))→(∀ x∈blk r,x∈blk s)→Keeps (blk s) w w'→K (r,()) w'):DeleteFunc_tx P g ρ.n z rd s f K w:=by
 have hl:=h.len'
 unfold DeleteFunc_tx
 refine hg h.rde hp hN ?_
 intro w1 k1
 dsimp only
 have h1:=h.keeps0 k1
 cases hf:l.findIdx? p with
 | none=>
  have hn:=List.findIdx?_eq_none_iff.1 hf
  rw [show idxI l p=-1 from by unfold idxI;rw [hf]]
  refine k s _ ?_ (fun _ hx=>hx) (k1.mono (by simp))
  rw [List.filter_eq_self.2 (fun y hy=>by rw [hn y hy];rfl)]
  exact h1
 | some i0=>
 obtain ⟨hi0,hpx0,hpre⟩:=List.findIdx?_eq_some_iff_getElem.1 hf
 rw [show idxI l p=i0 from by unfold idxI;rw [hf]]
 rw [show ((i0:Int) == -1)=false from by simp]
 simp only [Br]
 have hfil:∀ j,(l.take (j + 1)).filter (fun x=>!p x)=(l.take j).filter (fun x=>!p x) ++ (match l[j]? with | some x=>if p x then [] else [x] | none=>[]):=by
  intro j
  rw [List.take_add_one,List.filter_append]
  cases l[j]? with
  | none=>rfl
  | some x=>cases hpx:p x <;> simp [hpx]
 refine ⟨fun n st w'=>∃ (i j:Nat) (cur:List α),st=((i:Int),(j:Int),())∧n=l.length - j∧j≤l.length∧i < j∧cur.length=l.length∧cur.take i=(l.take j).filter (fun x=>!p x)∧cur.drop j=l.drop j∧i≤j∧SlE ρ w' s cur∧Keeps (blk s) w w',
  ⟨_,i0,i0 + 1,l,by rw [w64p (by omega)],rfl,by omega,by omega,rfl,?_,rfl,by omega,h1,k1.mono (by simp)⟩,?_⟩
 ·rw [hfil,List.getElem?_eq_getElem hi0]
  simp only [hpx0,if_true,List.append_nil]
  rw [List.filter_eq_self.2 (fun y hy=>by
   obtain ⟨j,hj,rfl⟩:=List.mem_take_iff_getElem.1 hy
   have:=hpre j (by omega)
   simp [this])]
 rintro n _ w2 ⟨i,j,cur,rfl,rfl,hj,hij,hcl,hc1,hc2,_,h2,k2⟩
 dsimp only
 have hl2:=h2.len'
 by_cases hlt:j < l.length
 ·rw [decide_eq_true (by omega)]
  simp only [Br]
  obtain ⟨x,hx⟩:∃ x,l[j]?=some x:=⟨_,List.getElem?_eq_getElem hlt⟩
  have hcx:cur[j]?=some x:=by
   have e:=congrArg (fun q=>q[0]?) hc2
   simp only [List.getElem?_drop,Nat.add_zero] at e
   rw [e,hx]
  refine Jp_of (fun st w'=>∃ (i':Nat) (cur':List α),st=((i':Int),())∧i'≤j∧cur'.length=l.length∧cur'.take i'=(l.take (j + 1)).filter (fun x=>!p x)∧cur'.drop (j + 1)=l.drop (j + 1)∧SlE ρ w' s cur'∧Keeps (blk s) w w') (fun J hJ=>?_) ?_
  rotate_left
  ·rintro _ w3 ⟨i',cur',rfl,g1,g2,g3,g4,g5,g6⟩
   exact ⟨l.length - (j + 1),by omega,i',j + 1,cur',by rw [w64p (by omega)],rfl,by omega,by omega,g2,g3,g4,by omega,g5,g6⟩
  refine hrd h2.rde hcx ?_
  intro w3 re k3 hre
  have k03:Keeps (blk s) w w3:=k2.trans k3 (by simp)
  refine hp w3 k03.toPm x (List.mem_of_getElem? hx) _ ?_
  intro w4 k4
  have k04:Keeps (blk s) w w4:=k03.trans k4 (by simp)
  have g2:SlE ρ w4 s cur:=(h2.keeps0 k3).keeps0 k4
  have hc3:cur.drop (j + 1)=l.drop (j + 1):=by rw [← List.drop_drop,hc2,List.drop_drop]
  dsimp only
  cases hpx:p x with
  | true=>
   refine hJ _ _ ⟨i,cur,rfl,by omega,hcl,?_,hc3,g2,k04⟩
   rw [hfil,hx,hc1]
   simp [hpx]
  | false=>
   simp only [Bool.not_false]
   refine hre w4 k4 _ fun st hst=>?_
   refine hst g2 (by omega) ?_
   intro w5 g5 k5
   refine hJ _ _ ⟨i + 1,cur.set i x,by rw [w64p (by omega)],by omega,by simp [hcl],?_,?_,g5,k04.trans k5 (fun _ hx=>.inl hx)⟩
   ·rw [hfil,hx,List.take_add_one,List.take_set_of_le (by omega),hc1,List.getElem?_set_self (by omega)]
    simp [hpx]
   ·rw [List.drop_set_of_lt (by omega),hc3]
 ·rw [decide_eq_false (by omega)]
  simp only [Br]
  have hjl:j=l.length:=by omega
  refine ⟨⟨by omega,by omega⟩,?_⟩
  rw [Int.toNat_natCast]
  refine ClrS_front h2 hz h1z (by omega) ?_
  intro w3 g3 k3 _
  have hcap:=h2.cap
  refine ⟨⟨by omega,by omega⟩,?_⟩
  rw [slOff_zero]
  refine k ⟨s.p,i - 0,s.cap - 0⟩ _ ?_ (fun x hx=>hx) (k2.trans k3 (fun _ hx=>.inl hx))
  rw [flat_take ρ.len,hc1,List.take_of_length_le (by omega)] at g3
  exact g3
def BinarySearchFunc_tx (P:Program) (n:Nat) (ld:Addr→(Value→Pr)→Pr) (p_x:Sl) (tv:Value) (p_cmp:Value) (R:TR [.sc (.i .i64),.sc .b]→Pr):Pr:=
 Lp (σ:=Int × Int × Unit) (fun L1 s2=>
 Br (decide ((s2.1:Int) < s2.2.1)) (
 Req ((0:Int)≤1) <|
 Ix p_x (w64 ((ishr .u64 (IntKind.u64.wrap ((w64 (s2.1 + s2.2.1)))) 1))) n fun a3=>
 ld a3 fun v=>
 CallV P p_cmp [v,tv] false [.sc (.i .i64)] fun r8=>
 Br (decide ((r8.1:Int) < 0)) (
 L1 ((w64 ((w64 ((ishr .u64 (IntKind.u64.wrap ((w64 (s2.1 + s2.2.1)))) 1))) + 1)),s2.2.1,())) (
 L1 (s2.1,(w64 ((ishr .u64 (IntKind.u64.wrap ((w64 (s2.1 + s2.2.1)))) 1))),()))) (
 Br (decide ((s2.1:Int) < ((p_x.len:Nat):Int))) (
 Ix p_x s2.1 n fun a9=>
 ld a9 fun v=>
 CallV P p_cmp [v,tv] false [.sc (.i .i64)] fun r14=>
 R (s2.1,((r14.1:Int) == 0),())) (
 R (s2.1,false,())))) (0,((p_x.len:Nat):Int),())
def IsC (P:Program) (f:Value) (v:α→Value) (tv:Value) (c:α→Int) (l:List α) (w:World):Prop:=
 ∀ w',Keeps [] w w'→∀ x∈l,∀ K:TR [.sc (.i .i64)]→Pr,(∀ w'',Keeps [] w' w''→K (c x,()) w'')→CallV P f [v x,tv] false [.sc (.i .i64)] K w'
def bsAt (c:α→Int) (l:List α):Nat:=(l.takeWhile (fun x=>decide (c x < 0))).length
theorem bsAt_le (c:α→Int) (l:List α):bsAt c l≤l.length:=List.Sublist.length_le (List.takeWhile_sublist _)
theorem bsAt_lt {c:α→Int} {l:List α} {j:Nat} {x:α} (hx:l[j]?=some x) (hj:j < bsAt c l):c x < 0:=by
 induction l generalizing j with
 | nil=>simp at hx
 | cons y l ih=>
  unfold bsAt at hj
  rw [List.takeWhile_cons] at hj
  by_cases hy:c y < 0
  ·simp only [hy,decide_true,if_true,List.length_cons] at hj
   cases j with
   | zero=>simp at hx;subst hx;exact hy
   | succ j=>exact ih (by simpa using hx) (by unfold bsAt;omega)
  ·simp [hy] at hj
theorem bsAt_ge {c:α→Int} {l:List α} (hs:l.Pairwise (fun a b=>c b < 0→c a < 0)) {j:Nat} {x:α} (hx:l[j]?=some x) (hj:bsAt c l≤j):0≤c x:=by
 induction l generalizing j with
 | nil=>simp at hx
 | cons y l ih=>
  rw [List.pairwise_cons] at hs
  unfold bsAt at hj
  rw [List.takeWhile_cons] at hj
  by_cases hy:c y < 0
  ·simp only [hy,decide_true,if_true,List.length_cons] at hj
   cases j with
   | zero=>omega
   | succ j=>exact ih hs.2 (by simpa using hx) (by unfold bsAt;omega)
  ·cases j with
   | zero=>
    simp at hx
    subst hx
    omega
   | succ j=>
    rcases Int.lt_or_le (c x) 0 with h | h
    ·exact absurd (hs.1 x (List.mem_of_getElem? (by simpa using hx)) h) hy
    ·exact h
def bsIs (c:α→Int) (l:List α):Bool:=match l[bsAt c l]? with | some x=>c x == 0 | none=>false
theorem BinarySearchFunc_of (hld:LdOk ρ ld v) (h:RdE ρ w s l) {f tv:Value} {c:α→Int} (hp:IsC P f v tv c l w) (hs:l.Pairwise (fun a b=>c b < 0→c a < 0)) (hN:l.length≤100000000) {K:TR [.sc (.i .i64),.sc .b]→Pr}
  (k:∀ w',Keeps [] w w'→K ((bsAt c l:Int),bsIs c l,()) w'):BinarySearchFunc_tx P ρ.n ld s tv f K w:=by
 have hl:=h.len
 have hle:=bsAt_le c l
 unfold BinarySearchFunc_tx
 refine ⟨fun n st w'=>∃ (i j:Nat),st=((i:Int),(j:Int),())∧n=j - i∧i≤bsAt c l∧bsAt c l≤j∧j≤l.length∧Keeps [] w w',⟨_,0,l.length,by rw [hl];rfl,rfl,by omega,by omega,by omega,Keeps.refl _ _⟩,?_⟩
 rintro n _ w1 ⟨i,j,rfl,rfl,hi,hij,hj,k1⟩
 dsimp only
 by_cases hlt:i < j
 ·rw [decide_eq_true (by omega)]
  simp only [Br_true]
  refine ⟨by decide,?_⟩
  have e:w64 (ishr .u64 (IntKind.u64.wrap (w64 ((i:Int) + (j:Int)))) 1)=(((i + j) / 2:Nat):Int):=by
   rw [w64a rfl rfl (by omega),wrap_u64_nat (by omega),show ishr .u64 ((i + j:Nat):Int) 1=(((i + j) >>> 1:Nat):Int) from ishr_nat .u64 (i + j) 1 (by decide),Nat.shiftRight_eq_div_pow,w64_in (by omega) (by omega)]
  rw [e]
  generalize hm:(i + j) / 2=m
  have hm1:i≤m∧m < j:=by omega
  obtain ⟨x,hx⟩:∃ x,l[m]?=some x:=⟨_,List.getElem?_eq_getElem (by omega)⟩
  refine hld (h.keeps0 k1) hx ?_
  refine hp w1 k1 x (List.mem_of_getElem? hx) _ ?_
  intro w2 k2
  dsimp only
  by_cases hc:c x < 0
  ·rw [decide_eq_true hc]
   simp only [Br_true]
   refine ⟨j - (m + 1),by omega,m + 1,j,by rw [w64p (by omega)],rfl,?_,hij,hj,kp0 k1 k2⟩
   rcases Nat.lt_or_ge m (bsAt c l) with h' | h'
   ·exact h'
   ·have:=bsAt_ge hs hx h';omega
  ·rw [decide_eq_false hc]
   simp only [Br_false]
   refine ⟨m - i,by omega,i,m,rfl,rfl,hi,?_,by omega,kp0 k1 k2⟩
   rcases Nat.lt_or_ge m (bsAt c l) with h' | h'
   ·have:=bsAt_lt hx h';omega
   ·exact h'
 ·rw [decide_eq_false (by omega)]
  simp only [Br_false]
  have hb:i=bsAt c l:=by omega
  by_cases h3:i < l.length
  ·rw [decide_eq_true (by omega)]
   simp only [Br_true]
   obtain ⟨x,hx⟩:∃ x,l[i]?=some x:=⟨_,List.getElem?_eq_getElem (by omega)⟩
   refine hld (h.keeps0 k1) hx ?_
   refine hp w1 k1 x (List.mem_of_getElem? hx) _ ?_
   intro w2 k2
   have:=k w2 (kp0 k1 k2)
   unfold bsIs at this
   rw [← hb,hx] at this
   exact this
  ·rw [decide_eq_false (by omega)]
   have:=k w1 k1
   unfold bsIs at this
   rw [← hb,List.getElem?_eq_none (by omega)] at this
   exact this
end
end Go.Sx
set_option linter.unusedSimpArgs false
set_option linter.unusedVariables false
namespace Go.Sx
open Go
theorem call_eq {P:Program} {f:FuncId} {fn:Func} {args:List Value} {tup:Bool} {rs:List RK} {R:TR rs→Pr} {w:World} {X:Pr} (hm:P.follows .mixedOrders=true) (ann:Ann) (hf:P.funcs[f]?=some fn)
  (hk:(okFn P f && (fn.body.isSome && (match tup with | true=>!(Nat.beq fn.results.size 1) | false=>Nat.beq fn.results.size 1)))=true)
  (he:den P ann (fn.body.getD .skip) (retQ P fn.results.toList tup rs R) [] (env0 fn.ntmps args)=X) (h:X w):Cl P f args tup rs R w:=by
 simp only [Bool.and_eq_true] at hk
 obtain ⟨h1,h2,h3⟩:=hk
 obtain ⟨c,hc⟩:=Option.isSome_iff_exists.1 h2
 refine call_of hm ann h1 hf hc rfl ?_ ?_
 ·cases tup
  ·exact Nat.eq_of_beq_eq_true h3
  ·simpa using h3
 ·rw [hc] at he
  rw [← he] at h
  exact h
end Go.Sx
set_option linter.unusedSimpArgs false
set_option linter.unusedVariables false
namespace Go.Sx
open Go
theorem add0 (b n:Nat):Addr.add ⟨b,0,none⟩ n=⟨b,n,none⟩:=by rw [add_of,Nat.zero_add]
theorem sb :
  (∀ (K:Pr) (w:World),Dr K w=K w.drew) ∧
  (∀ (A B:Pr) (w:World),Both A B w=(A w∧B w)) ∧
  (∀ (p:Prop) (K:Pr) (w:World),Req p K w=(p∧K w)) ∧
  (∀ (a:Addr) (K:Addr→Pr),Nn (some a) K=K a) ∧
  (∀ (T E:Pr) (w:World),Br true T E w=T w) ∧
  (∀ (T E:Pr) (w:World),Br false T E w=E w) ∧
  (∀ (b n:Nat),Addr.add ⟨b,0,none⟩ n=⟨b,n,none⟩) ∧
  (∀ (k:IntKind) (b i:Nat) (K:Int→Pr) (w:World),LdI k ⟨b,i,none⟩ K w=asI k K (cellO w.heap[b]? i) w) ∧
  (∀ (b i:Nat) (K:Bool→Pr) (w:World),LdB ⟨b,i,none⟩ K w=asB K (cellO w.heap[b]? i) w) ∧
  (∀ (b i:Nat) (K:ByteArray→Pr) (w:World),LdS ⟨b,i,none⟩ K w=asS K (cellO w.heap[b]? i) w) ∧
  (∀ (b i:Nat) (K:Option Addr→Pr) (w:World),LdP ⟨b,i,none⟩ K w=asP K (cellO w.heap[b]? i) w) ∧
  (∀ (b i:Nat) (K:Option Nat→Pr) (w:World),LdM ⟨b,i,none⟩ K w=asM K (cellO w.heap[b]? i) w) ∧
  (∀ (b i:Nat) (K:Value→Pr) (w:World),LdV ⟨b,i,none⟩ K w=asV K (cellO w.heap[b]? i) w) ∧
  (∀ (b i:Nat) (K:Sl→Pr) (w:World),LdL ⟨b,i,none⟩ K w=asL K (cellO w.heap[b]? i) w) ∧
  (∀ (k:IntKind) (K:Int→Pr) (x:Int) (w:World),asI k K (some (.int k x)) w=K x w) ∧
  (∀ (K:Bool→Pr) (x:Bool) (w:World),asB K (some (.bool x)) w=K x w) ∧
  (∀ (K:ByteArray→Pr) (x:ByteArray) (w:World),asS K (some (.string x)) w=K x w) ∧
  (∀ (K:Option Addr→Pr) (x:Option Addr) (w:World),asP K (some (.pointer x)) w=K x w) ∧
  (∀ (K:Option Nat→Pr) (x:Option Nat) (w:World),asM K (some (.map x)) w=K x w) ∧
  (∀ (K:Value→Pr) (x:Value) (w:World),asV K (some x) w=K x w) ∧
  (∀ (K:Sl→Pr) (p:Option Addr) (l c:Nat) (w:World),asL K (some (.slice p l c)) w=K ⟨p,l,c⟩ w) ∧
  (∀ (cs:Array Value) (t:TypeId) (fr:Nat × Nat) (i:Nat),cellO (some (.cells cs t fr)) i=cs[i]?) ∧
  (∀ (w:World),w.drew.heap=w.heap) ∧
  (∀ (s:Sl),(⟨s.p,s.len,s.cap⟩:Sl)=s) ∧
  (∀ (l:List Value) (i:Nat),l.toArray[i]?=l[i]?) ∧
  (∀ (v:Value) (l:List Value),(v :: l)[0]?=some v) ∧
  (∀ (v:Value) (l:List Value) (i:Nat),(v :: l)[i + 1]?=l[i]?):=
 ⟨fun _ _=>rfl,fun _ _ _=>rfl,fun _ _ _=>rfl,fun _ _=>rfl,fun _ _ _=>rfl,fun _ _ _=>rfl,add0,LdI_c,LdB_c,LdS_c,LdP_c,LdM_c,LdV_c,LdL_c,
  fun k K x w=>by simp [asI],fun _ _ _=>rfl,fun _ _ _=>rfl,fun _ _ _=>rfl,fun _ _ _=>rfl,fun _ _ _=>rfl,fun _ _ _ _ _=>rfl,fun _ _ _ _=>rfl,fun _=>rfl,fun _=>rfl,fun _ _=>by simp,fun _ _=>rfl,fun _ _ _=>by simp⟩
theorem put_box {w:World} {b:Nat} {cs:Array Value} {t:TypeId} {vs:List Value} (h:w.heap[b]?=some (.cells cs t (0,0))) (hl:vs.length=cs.size) (h1:∀ v∈vs,v.oneCell'=true) {K:Pr}
  (k:∀ w',w'.heap[b]?=some (.cells vs.toArray t (0,0))→Keeps [b] w w'→K w'):StR vs ⟨b,0,none⟩ 0 K w:=by
 refine StR_of (o:=0) h (by simp;omega) h1 (fun j _ _=>by simp) ?_
 refine k _ ?_ ((Keeps.refl _ _).setObjW (.inl (by simp)) _)
 rw [hp_setObjW_same (hp_lt h),show (0 + 0:Nat)=0 from rfl,setA_all hl]
section
variable {w:World} {b:Nat} {t:TypeId} {u0 u1 u2 u3 u4 u5 v0 v1 v2 v3 v4 v5:Value} {K:Pr}
theorem put2 (h:w.heap[b]?=some (.cells #[u0,u1] t (0,0))) (h0:v0.oneCell'=true) (h1:v1.oneCell'=true) (k:∀ w',w'.heap[b]?=some (.cells #[v0,v1] t (0,0))→Keeps [b] w w'→K w') :
  St (Addr.add ⟨b,0,none⟩ 0) v0 (St (Addr.add ⟨b,0,none⟩ 1) v1 K) w:=put_box (vs:=[v0,v1]) h rfl (by simp [h0,h1]) k
theorem put3 (h:w.heap[b]?=some (.cells #[u0,u1,u2] t (0,0))) (h0:v0.oneCell'=true) (h1:v1.oneCell'=true) (h2:v2.oneCell'=true) (k:∀ w',w'.heap[b]?=some (.cells #[v0,v1,v2] t (0,0))→Keeps [b] w w'→K w') :
  St (Addr.add ⟨b,0,none⟩ 0) v0 (St (Addr.add ⟨b,0,none⟩ 1) v1 (St (Addr.add ⟨b,0,none⟩ 2) v2 K)) w:=put_box (vs:=[v0,v1,v2]) h rfl (by simp [h0,h1,h2]) k
theorem put4 (h:w.heap[b]?=some (.cells #[u0,u1,u2,u3] t (0,0))) (h0:v0.oneCell'=true) (h1:v1.oneCell'=true) (h2:v2.oneCell'=true) (h3:v3.oneCell'=true) (k:∀ w',w'.heap[b]?=some (.cells #[v0,v1,v2,v3] t (0,0))→Keeps [b] w w'→K w') :
  St (Addr.add ⟨b,0,none⟩ 0) v0 (St (Addr.add ⟨b,0,none⟩ 1) v1 (St (Addr.add ⟨b,0,none⟩ 2) v2 (St (Addr.add ⟨b,0,none⟩ 3) v3 K))) w:=put_box (vs:=[v0,v1,v2,v3]) h rfl (by simp [h0,h1,h2,h3]) k
theorem put6 (h:w.heap[b]?=some (.cells #[u0,u1,u2,u3,u4,u5] t (0,0))) (h0:v0.oneCell'=true) (h1:v1.oneCell'=true) (h2:v2.oneCell'=true) (h3:v3.oneCell'=true) (h4:v4.oneCell'=true) (h5:v5.oneCell'=true)
  (k:∀ w',w'.heap[b]?=some (.cells #[v0,v1,v2,v3,v4,v5] t (0,0))→Keeps [b] w w'→K w') :
  St (Addr.add ⟨b,0,none⟩ 0) v0 (St (Addr.add ⟨b,0,none⟩ 1) v1 (St (Addr.add ⟨b,0,none⟩ 2) v2 (St (Addr.add ⟨b,0,none⟩ 3) v3 (St (Addr.add ⟨b,0,none⟩ 4) v4 (St (Addr.add ⟨b,0,none⟩ 5) v5 K))))) w:=put_box (vs:=[v0,v1,v2,v3,v4,v5]) h rfl (by simp [h0,h1,h2,h3,h4,h5]) k
end
theorem out2 {w:World} {b:Nat} {t:TypeId} {u0 u1:Value} {x y:ByteArray} {K:ByteArray→ByteArray→Pr} (h:w.heap[b]?=some (.cells #[u0,u1] t (0,0))) (k:∀ w',Keeps [b] w w'→K x y w') :
  St (Addr.add ⟨b,0,none⟩ 0) (.string x) (St (Addr.add ⟨b,0,none⟩ 1) (.string y) (LdS (Addr.add ⟨b,0,none⟩ 0) fun x'=>LdS (Addr.add ⟨b,0,none⟩ 1) fun y'=>K x' y')) w:=by
 refine put2 h rfl rfl fun w' h' k'=>?_
 simp only [sb,h']
 exact k w' k'
theorem kp1 {b:Nat} {a c d:World} (h:Keeps [] a c) (k:Keeps [b] c d) (hb:a.heap.size≤b):Keeps [] a d:=kpx h k (by simpa using hb)
theorem Keeps.at0 {w w':World} (h:Keeps [] w w') {b:Nat} {o:Obj} (hb:w.heap[b]?=some o):w'.heap[b]?=some o:=h.at hb (by simp)
theorem Keeps.at1 {w w':World} {c:Nat} (h:Keeps [c] w w') {b:Nat} {o:Obj} (hb:w.heap[b]?=some o) (hn:b ≠ c):w'.heap[b]?=some o:=h.at hb (by simpa using hn)
theorem Jp_b {J:Bool × Unit→Pr} {A:(Bool × Unit→Pr)→Pr} {w:World} (b:Bool) (hA:∀ J':Bool × Unit→Pr,(∀ w',Keeps [] w w'→J' (b,()) w')→A J' w) (hJ:∀ w',Keeps [] w w'→J (b,()) w'):Jp J A w:=
 Jp_of (fun s w'=>s=(b,())∧Keeps [] w w') (fun J' hj=>hA J' fun w' k=>hj _ _ ⟨rfl,k⟩) (by rintro _ w' ⟨rfl,k⟩;exact hJ w' k)
theorem decs_encs:∀ (ks:List Kd) (y:Tup ks),decs ks (encs ks y)=some y
 | [],_=>rfl
 | k :: ks,y=>by simp only [encs,decs,Kd.dec_enc,decs_encs ks]
theorem TyA_of {ks:List Kd} {v:Value} {K:Tup ks→Pr} {w:World} (x:Tup ks) (h:v=.agg (encs ks x).toArray) (k:K x w):TyA ks v K w:=by
 subst h
 unfold TyA
 simp only [decs_encs]
 exact k
section
variable {w:World} {t:TypeId} {z:Array Value} {v0 v1 v2 v3 v4 v5:Value} {K:Addr→Pr}
theorem bx2 (hz:z.size=2) (h0:v0.oneCell'=true) (h1:v1.oneCell'=true) (k:∀ b w',w'.heap[b]?=some (.cells #[v0,v1] t (0,0))→w.heap.size≤b→Keeps [] w w'→K ⟨b,0,none⟩ w') :
  New z t (fun a=>St (a.add 0) v0 (St (a.add 1) v1 (K a))) w:=New_st (vs:=[v0,v1]) hz.symm (by simp [h0,h1]) k
theorem bx3 (hz:z.size=3) (h0:v0.oneCell'=true) (h1:v1.oneCell'=true) (h2:v2.oneCell'=true) (k:∀ b w',w'.heap[b]?=some (.cells #[v0,v1,v2] t (0,0))→w.heap.size≤b→Keeps [] w w'→K ⟨b,0,none⟩ w') :
  New z t (fun a=>St (a.add 0) v0 (St (a.add 1) v1 (St (a.add 2) v2 (K a)))) w:=New_st (vs:=[v0,v1,v2]) hz.symm (by simp [h0,h1,h2]) k
theorem bx4g (hz:z.size=4) (h0:v0.oneCell'=true) (h1:v1.oneCell'=true) (h2:v2.oneCell'=true) (h3:v3.oneCell'=true) (k:∀ b w',w'.heap[b]?=some (.cells #[v0,v1,v2,v3] t (0,0))→w.heap.size≤b→Keeps [] w w'→K ⟨b,0,none⟩ w') :
  New z t (fun a=>St (a.add 0) v0 (St (a.add 1) v1 (St (a.add 2) v2 (St (a.add 3) v3 (K a))))) w:=New_st (vs:=[v0,v1,v2,v3]) hz.symm (by simp [h0,h1,h2,h3]) k
theorem bx6 (hz:z.size=6) (h0:v0.oneCell'=true) (h1:v1.oneCell'=true) (h2:v2.oneCell'=true) (h3:v3.oneCell'=true) (h4:v4.oneCell'=true) (h5:v5.oneCell'=true)
  (k:∀ b w',w'.heap[b]?=some (.cells #[v0,v1,v2,v3,v4,v5] t (0,0))→w.heap.size≤b→Keeps [] w w'→K ⟨b,0,none⟩ w') :
  New z t (fun a=>St (a.add 0) v0 (St (a.add 1) v1 (St (a.add 2) v2 (St (a.add 3) v3 (St (a.add 4) v4 (St (a.add 5) v5 (K a))))))) w:=New_st (vs:=[v0,v1,v2,v3,v4,v5]) hz.symm (by simp [h0,h1,h2,h3,h4,h5]) k
end
end Go.Sx
set_option linter.unusedSimpArgs false
set_option linter.unusedVariables false
namespace Go.Sx
open Go
theorem SlC.heap {w w':World} {s:Sl} {size:Nat} {cs:List Value} (h:SlC w s size cs) (hd:∀ x∈blk s,w'.heap[x]?=w.heap[x]?):SlC w' s size cs:=by
 refine ⟨h.len,h.cap,?_⟩
 rcases h.row with h1 | ⟨b,o,all,t,fr,hp,hb,h1,h2,h3⟩
 ·exact .inl h1
 ·by_cases hc:s.cap=0
  ·exact .inl hc
  ·exact .inr ⟨b,o,all,t,fr,hp,(hd b (by simp [blk_pos hc hp])).trans hb,h1,h2,h3⟩
theorem RdE.heap {α:Type} {ρ:Rec α} {w w':World} {s:Sl} {l:List α} (h:RdE ρ w s l) (hd:∀ x∈rb s,w'.heap[x]?=w.heap[x]?):RdE ρ w' s l:=by
 refine ⟨⟨h.rd.1,fun j v hj=>?_⟩,h.cap⟩
 obtain ⟨a,ha,hc⟩:=h.rd.2 j v hj
 refine ⟨a,ha,?_⟩
 have h0:s.len ≠ 0:=fun h0=>by
  have h1:=h.rd.1
  have:=(List.getElem?_eq_some_iff.1 hj).1
  rw [h0,Nat.zero_mul] at h1
  omega
 have hb:(a.add j).block=a.block:=by unfold Addr.add;split <;> rfl
 simp only [World.cell?,hb] at hc ⊢
 rw [hd a.block (by rw [rb_pos h0,rblk,ha];simp)]
 exact hc
structure Imm (T:Nat→Nat) (φ:World→Prop) (w:World):Prop where
 ok:φ w
 st:∀ w':World,w.heap.size≤w'.heap.size→(∀ b,b < w.heap.size→T b=0→w'.heap[b]?=w.heap[b]?)→φ w'
structure Comp (T:Nat→Nat) (j:Nat) (B:Nat→Prop) (φ:World→Prop) (w:World):Prop where
 ok:φ w
 st:∀ w':World,w.heap.size≤w'.heap.size→(∀ b,b < w.heap.size→(T b=j∨T b=0)→w'.heap[b]?=w.heap[b]?)→φ w'
 tag:∀ b,B b→b < w.heap.size∧T b=j
structure Stp (k:Nat) (T T':Nat→Nat) (w w':World):Prop where
 kp:KeepsP (fun b=>T b=k) w w'
 tg:∀ b,b < w.heap.size→T b ≠ k→T' b=T b
theorem Stp.k0 {k:Nat} {T:Nat→Nat} {w w':World} (h:Keeps [] w w'):Stp k T T w w':=⟨h.toP (by simp),fun _ _ _=>rfl⟩
theorem Imm.kt {T T':Nat→Nat} {φ:World→Prop} {w w':World} {k:Nat} (h:Imm T φ w) (hk:k ≠ 0) (s:Stp k T T' w w'):Imm T' φ w':=by
 have hs:=s.kp.size
 refine ⟨h.st w' hs fun b hb ht=>s.kp.get b hb (by rw [ht];exact Ne.symm hk),fun w'' hs'' hw=>h.st w'' (Nat.le_trans hs hs'') fun b hb ht=>?_⟩
 rw [hw b (Nat.lt_of_lt_of_le hb hs) (by rw [s.tg b hb (by rw [ht];exact Ne.symm hk)];exact ht)]
 exact s.kp.get b hb (by rw [ht];exact Ne.symm hk)
theorem Comp.kt {T T':Nat→Nat} {j:Nat} {B:Nat→Prop} {φ:World→Prop} {w w':World} {k:Nat} (h:Comp T j B φ w) (hj:j ≠ k) (hk:k ≠ 0) (s:Stp k T T' w w'):Comp T' j B φ w':=by
 have hs:=s.kp.size
 have ne:∀ b,(T b=j∨T b=0)→T b ≠ k:=fun b hb=>by rcases hb with hb | hb <;> rw [hb] <;> first | exact hj | exact Ne.symm hk
 refine ⟨h.st w' hs fun b hb ht=>s.kp.get b hb (ne b ht),fun w'' hs'' hw=>h.st w'' (Nat.le_trans hs hs'') fun b hb ht=>?_,fun b hb=>?_⟩
 ·rw [hw b (Nat.lt_of_lt_of_le hb hs) (by rw [s.tg b hb (ne b ht)];exact ht)]
  exact s.kp.get b hb (ne b ht)
 ·obtain ⟨h1,h2⟩:=h.tag b hb
  exact ⟨Nat.lt_of_lt_of_le h1 hs,(s.tg b h1 (ne b (.inl h2))).trans h2⟩
theorem Imm.drop {T T':Nat→Nat} {φ:World→Prop} {w:World} (h:Imm T φ w) (ht:∀ b,T b=0→T' b=0):Imm T' φ w:=⟨h.ok,fun w' hs hw=>h.st w' hs fun b hb h0=>hw b hb (ht b h0)⟩
theorem Comp.drop {T T':Nat→Nat} {j:Nat} {B:Nat→Prop} {φ:World→Prop} {w:World} (h:Comp T j B φ w) (ht:∀ b,T b=0→T' b=0) (hj:∀ b,T b=j→T' b=j):Comp T' j B φ w:=
 ⟨h.ok,fun w' hs hw=>h.st w' hs fun b hb h0=>hw b hb (by rcases h0 with h0 | h0;exact .inl (hj b h0);exact .inr (ht b h0)),fun b hb=>⟨(h.tag b hb).1,hj b (h.tag b hb).2⟩⟩
theorem Comp.give {T T':Nat→Nat} {j:Nat} {B:Nat→Prop} {φ:World→Prop} {w:World} (h:Comp T j B φ w) (ht:∀ b,T b=0→T' b=0) (hj:∀ b,T b=j→T' b=0):Imm T' φ w:=
 ⟨h.ok,fun w' hs hw=>h.st w' hs fun b hb h0=>hw b hb (by rcases h0 with h0 | h0;exact hj b h0;exact ht b h0)⟩
theorem Imm.of {T:Nat→Nat} {α:Type} {ρ:Rec α} {w:World} {s:Sl} {l:List α} (h:RdE ρ w s l) (ht:∀ b∈rb s,T b=0):Imm T (fun w=>RdE ρ w s l) w:=
 ⟨h,fun w' _ hw=>h.heap fun b hb=>hw b (h.lt b hb) (ht b hb)⟩
theorem Comp.of {T:Nat→Nat} {α:Type} {ρ:Rec α} {w:World} {j:Nat} {s:Sl} {l:List α} (h:SlE ρ w s l) (ht:∀ b∈blk s,T b=j):Comp T j (·∈blk s) (fun w=>SlE ρ w s l) w:=
 ⟨h,fun w' _ hw=>h.heap fun b hb=>hw b (h.lt b hb) (.inl (ht b hb)),fun b hb=>⟨h.lt b hb,ht b hb⟩⟩
theorem Imm.and {T:Nat→Nat} {φ ψ:World→Prop} {w:World} (h:Imm T φ w) (k:Imm T ψ w):Imm T (fun w=>φ w∧ψ w) w:=⟨⟨h.ok,k.ok⟩,fun w' hs hw=>⟨h.st w' hs hw,k.st w' hs hw⟩⟩
theorem Imm.map {T:Nat→Nat} {φ ψ:World→Prop} {w:World} (h:Imm T φ w) (k:∀ w,φ w→ψ w):Imm T ψ w:=⟨k _ h.ok,fun w' hs hw=>k _ (h.st w' hs hw)⟩
theorem Imm.triv {T:Nat→Nat} {φ:World→Prop} {w:World} (h:∀ w,φ w):Imm T φ w:=⟨h w,fun w' _ _=>h w'⟩
def tagL (k:Nat) (r:Sl) (T:Nat→Nat):Nat→Nat:=fun b=>if b∈blk r then k else T b
theorem Stp.row {k:Nat} {T:Nat→Nat} {w w':World} {s r:Sl} (hk:Keeps (blk s) w w') (hs:∀ b∈blk s,T b=k) (hr:∀ b∈blk r,b∈blk s∨w.heap.size≤b):Stp k T (tagL k r T) w w':=
 ⟨hk.toP fun b hb=>.inl (hs b hb),fun b hb hn=>by
  unfold tagL
  rw [if_neg]
  intro h
  rcases hr b h with h' | h'
  ·exact hn (hs b h')
  ·omega⟩
theorem tagL_mem {k:Nat} {r:Sl} {T:Nat→Nat}:∀ b∈blk r,tagL k r T b=k:=fun b hb=>if_pos hb
theorem tagL_bd {k:Nat} {r:Sl} {T:Nat→Nat} {w w':World} {α:Type} {ρ:Rec α} {l:List α} (h:SlE ρ w' r l) (hs:w.heap.size≤w'.heap.size) (hb:∀ b,T b ≠ 0→b < w.heap.size):∀ b,tagL k r T b ≠ 0→b < w'.heap.size:=by
 intro b hn
 unfold tagL at hn
 split at hn
 ·exact h.lt b (by assumption)
 ·exact Nat.lt_of_lt_of_le (hb b hn) hs
open Classical in
noncomputable def tagP (k:Nat) (H:Nat→Prop) (T:Nat→Nat):Nat→Nat:=fun b=>if H b then k else T b
structure Evo (T T':Nat→Nat) (w w':World):Prop where
 kp:KeepsP (fun b=>T b ≠ 0∧T b < 11) w w'
 tg:∀ b,b < w.heap.size→(T b=0∨11≤T b)→T' b=T b
theorem Evo.refl (T:Nat→Nat) (w:World):Evo T T w w:=⟨KeepsP.refl _ _,fun _ _ _=>rfl⟩
theorem Evo.trans {T T' T'':Nat→Nat} {a b c:World} (h:Evo T T' a b) (k:Evo T' T'' b c):Evo T T'' a c:=
 ⟨h.kp.trans k.kp fun x hx=>by
  rcases Nat.lt_or_ge x a.heap.size with h' | h'
  ·refine .inl ⟨fun h0=>?_,Nat.lt_of_not_le fun h0=>?_⟩
   ·have:=h.tg x h' (.inl h0);omega
   ·have:=h.tg x h' (.inr h0);omega
  ·exact .inr h',fun x hx h0=>by
  have e:=h.tg x hx h0
  rw [← e]
  exact k.tg x (Nat.lt_of_lt_of_le hx h.kp.size) (by rw [e];exact h0)⟩
theorem Stp.evo {k:Nat} {T T':Nat→Nat} {w w':World} (h:Stp k T T' w w') (hk:k ≠ 0∧k < 11):Evo T T' w w':=
 ⟨h.kp.mono fun b hb=>.inl (by rw [hb];exact hk),fun b hb h0=>h.tg b hb (by omega)⟩
theorem Evo.k0 {T:Nat→Nat} {w w':World} (h:Keeps [] w w'):Evo T T w w':=⟨h.toP (by simp),fun _ _ _=>rfl⟩
theorem Imm.evo {T T':Nat→Nat} {φ:World→Prop} {w w':World} (h:Imm T φ w) (s:Evo T T' w w'):Imm T' φ w':=by
 have hs:=s.kp.size
 refine ⟨h.st w' hs fun b hb ht=>s.kp.get b hb (by rw [ht];simp),fun w'' hs'' hw=>h.st w'' (Nat.le_trans hs hs'') fun b hb ht=>?_⟩
 rw [hw b (Nat.lt_of_lt_of_le hb hs) ((s.tg b hb (.inl ht)).trans ht)]
 exact s.kp.get b hb (by rw [ht];simp)
theorem Imm.keeps0 {T:Nat→Nat} {φ:World→Prop} {w w':World} (h:Imm T φ w) (k:Keeps [] w w'):Imm T φ w':=h.evo (Evo.k0 k)
theorem Evo.at {T T':Nat→Nat} {w w':World} (s:Evo T T' w w') {b:Nat} {o:Obj} (h:w.heap[b]?=some o) (ht:T b=0):w'.heap[b]?=some o∧T' b=0:=
 ⟨(s.kp.get b (hp_lt h) (by rw [ht];simp)).trans h,(s.tg b (hp_lt h) (.inl ht)).trans ht⟩
theorem Evo.at11 {T T':Nat→Nat} {w w':World} (s:Evo T T' w w') {b:Nat} {o:Obj} (h:w.heap[b]?=some o) (ht:T b=11):w'.heap[b]?=some o∧T' b=11:=
 ⟨(s.kp.get b (hp_lt h) (by rw [ht];simp)).trans h,(s.tg b (hp_lt h) (.inr (by omega))).trans ht⟩
end Go.Sx
set_option linter.unusedSimpArgs false
set_option linter.unusedVariables false
namespace Go.Sx
open Go Go.ChangeShapes Go.WideShapes Go.ChangeAt Go.RowKit
def Tz {H:Type} (enc:TypeId × Value→H) (P:Program) (W:World) (t:TypeId) (v:Value):Prop:=
 ∃ n x,DataW.trod enc P W 0 (fun _=>true) true n t [v]=some x∧∀ m∈x.1.weights P t,m≤reachBytes
section
variable {H:Type} {enc:TypeId × Value→H} {P:Program} {W:World}
theorem Tz.plain {t:TypeId} {v:Value} (h:Tz enc P W t v):PlainZ P t v:=by
 obtain ⟨n,x,h1,h2⟩:=h
 exact plainZ_of_trod h1 h2
theorem Tz.int {t:TypeId} {v:Value} {k:IntKind} (h:Tz enc P W t v) (ht:P.underlying t=some (.int k)):∃ n,v=.int k n∧(Lit.int k n).wf=true:=PlainZ.int ht h.plain
theorem Tz.u64 {t:TypeId} {v:Value} (h:Tz enc P W t v) (ht:P.underlying t=some (.int .u64)):∃ n,v=.int .u64 n∧0≤n∧n < 18446744073709551616:=by
 obtain ⟨n,e,w⟩:=h.int ht
 simp [Lit.wf,IntKind.min,IntKind.max,IntKind.signed,IntKind.bits] at w
 exact ⟨n,e,by omega,by omega⟩
theorem Tz.bool {t:TypeId} {v:Value} (h:Tz enc P W t v) (ht:P.underlying t=some .bool):∃ b,v=.bool b:=PlainZ.bool ht h.plain
theorem Tz.str {t:TypeId} {v:Value} (h:Tz enc P W t v) (ht:P.underlying t=some .string):∃ s,v=.string s∧s.size≤140737488355328:=PlainZ.string ht h.plain
theorem leaves_tz {sp:Nat→Bool}:∀ {k:Nat} {t:TypeId} {L:List TypeId} {n:Nat} {cs:List Value} {x:DataW H × List MemPlace},
  leaves P k t=some L→L.length=P.cellsOf t→DataW.trod enc P W 0 (fun _=>true) true n t cs=some x→(∀ m∈x.1.weights P t,m≤reachBytes)→cs.length=P.cellsOf t→∀ (j:Nat) (ft:TypeId),L[j]?=some ft→∃ v,cs[j]?=some v∧Tz enc P W ft v
 | 0,t,L,n,cs,x,hL,_,_,_,_,_,_,_=>by simp [leaves] at hL
 | k + 1,t,L,n,cs,x,hL,hlen,h,hz,hcs,j,ft,hj=>by
  unfold leaves at hL
  split at hL
  ·rename_i fs he
   obtain ⟨xs,n1,_,gx0,gl,gx,gf⟩:=DataW.trod_struct he h
   obtain ⟨q,f,l,i,h1,h2,h3,h4,h5,h6⟩:=leavesF_at hL j ft hj
   rw [Array.getElem?_toList] at h1
   have hg:=gf q f h1
   have hq:=(Array.getElem?_eq_some_iff.1 h1).1
   obtain ⟨y,hy⟩:∃ y,xs[q]?=some y:=⟨_,List.getElem?_eq_getElem (by omega)⟩
   rw [hy] at hg
   have hi:=(List.getElem?_eq_some_iff.1 h4).1
   have hzf:∀ m∈y.1.weights P f.type,m≤reachBytes:=fun m hm=>hz m (by
    have hx1:x.1=.agg (xs.map (·.1)):=congrArg Prod.fst gx0
    rw [hx1]
    simp only [DataW.weights,he]
    refine DataW.weights_mem_each (j:=q) (t:=f.type) (d:=y.1) ?_ ?_ m hm
    ·simp [h1]
    ·simp [hy])
   have hcl:((cs.drop f.offset).take (P.cellsOf f.type)).length=P.cellsOf f.type:=by rw [List.length_take,List.length_drop];omega
   obtain ⟨v,hv,hp⟩:=leaves_tz (sp:=sp) h2 h3 hg hzf hcl i ft h4
   refine ⟨v,?_,hp⟩
   rw [List.getElem?_take,if_pos (by omega),List.getElem?_drop] at hv
   rw [show j=f.offset + i from by omega]
   exact hv
  ·split at hL
   ·rename_i hone
    simp only [Option.some.injEq] at hL
    subst hL
    obtain ⟨v,rfl⟩:∃ v,cs=[v]:=List.length_eq_one_iff.1 (by omega)
    have hj0:=(List.getElem?_eq_some_iff.1 hj).1
    simp only [List.length_singleton] at hj0
    obtain rfl:j=0:=by omega
    simp only [List.getElem?_cons_zero,Option.some.injEq] at hj
    subst hj
    exact ⟨v,rfl,n,x,h,hz⟩
   ·cases hL
theorem Tz.rows {t e:TypeId} {L:List TypeId} {k:Nat} {v:Value} (h:Tz enc P W t v) (ht:P.underlying t=some (.slice e)) (hL:leaves P k e=some L) (hc:P.cellsOf e=L.length) :
  ∃ (s:Sl) (rows:List (List Value)),v=.slice s.p s.len s.cap∧rows.length=s.len∧s.len≤s.cap∧s.len * P.bytesOf e≤140737488355328∧(∀ row∈rows,row.length=L.length∧∀ (i:Nat) (ft:TypeId),L[i]?=some ft→∃ v,row[i]?=some v∧Tz enc P W ft v)∧RdC s.p (s.len * L.length) rows.flatten W:=by
 obtain ⟨n,⟨d,ps⟩,hn,hz⟩:=h
 rcases Go.Deep.open_slice ht hn with ⟨h1,_⟩ | ⟨a,len,cap,m,n',D,Pl,h1,_,hl,hm,hmm,hdx,hx⟩
 ·simp only [List.cons.injEq,and_true] at h1
  subst h1
  exact ⟨⟨none,0,0⟩,[],rfl,rfl,by simp,by simp,by simp,by simp,fun j v hj=>by simp at hj⟩
 ·simp only [List.cons.injEq,and_true] at h1
  subst h1
  simp only [if_true] at hmm
  rw [hmm] at hx hdx
  rw [hc] at hx
  have hd:d=.slice ((List.range len).map D) ((List.range (cap - len)).map fun j=>D (len + j)):=congrArg Prod.fst hdx
  have hlb:len * P.bytesOf e≤140737488355328:=by
   have h1:(len + (cap - len)) * P.bytesOf e≤reachBytes:=hz _ (by rw [hd];simp [DataW.weights,ht])
   have h2:=reachBytes_lt
   have h3:len * P.bytesOf e≤(len + (cap - len)) * P.bytesOf e:=Nat.mul_le_mul_right _ (by omega)
   omega
  have hx':∀ i,i < len→∃ row:List Value,row.length=L.length∧(∀ (j:Nat) (v:Value),row[j]?=some v→W.cell? (a.add (i * L.length + j))=some v)∧∀ (j:Nat) (ft:TypeId),L[j]?=some ft→∃ v,row[j]?=some v∧Tz enc P W ft v:=by
   intro i hi
   obtain ⟨cs',g1,g2⟩:=hx i (by omega)
   obtain ⟨_,glen,gcell⟩:=World.cells?_some g1
   have hzD:∀ m∈(D i).weights P e,m≤reachBytes:=fun m hm=>hz m (by
    rw [hd]
    simp only [DataW.weights,ht]
    exact List.mem_cons_of_mem _ (List.mem_append.2 (.inl (weightsAll_mem (List.mem_map.2 ⟨i,by simpa using hi,rfl⟩) m hm))))
   refine ⟨cs',glen,fun j v hv=>?_,fun j f hjf=>?_⟩
   ·have hj:=(List.getElem?_eq_some_iff.1 hv).1
    rw [← addr_add,gcell j (by omega),hv]
   ·exact leaves_tz (sp:=fun _=>true) hL hc.symm g2 hzD (glen.trans hc.symm) j f hjf
  obtain ⟨R,hR⟩:=Go.Deep.choose_lt (α:=List Value) (p:=fun i row=>row.length=L.length∧(∀ (j:Nat) (v:Value),row[j]?=some v→W.cell? (a.add (i * L.length + j))=some v)∧∀ (j:Nat) (ft:TypeId),L[j]?=some ft→∃ v,row[j]?=some v∧Tz enc P W ft v) hx'
  refine ⟨⟨some a,len,cap⟩,(List.range len).map R,rfl,by simp,hl,hlb,fun row hrow=>?_,?_,fun j v hj=>⟨a,rfl,?_⟩⟩
  ·obtain ⟨i,hi,rfl⟩:=List.mem_map.1 hrow
   exact ⟨(hR i (by simpa using hi)).1,(hR i (by simpa using hi)).2.2⟩
  ·rw [flatten_length (n:=L.length)]
   ·simp
   ·intro row hrow
    obtain ⟨i,hi,rfl⟩:=List.mem_map.1 hrow
    exact (hR i (by simpa using hi)).1
  ·have hrl:∀ row∈(List.range len).map R,row.length=L.length:=fun row hrow=>by
    obtain ⟨i,hi,rfl⟩:=List.mem_map.1 hrow
    exact (hR i (by simpa using hi)).1
   have hlt:=(List.getElem?_eq_some_iff.1 hj).1
   rw [flatten_length hrl] at hlt
   simp only [List.length_map,List.length_range] at hlt
   have h0:0 < L.length:=Nat.pos_of_ne_zero fun h0=>by rw [h0] at hlt;simp at hlt
   have e1:j=j / L.length * L.length + j % L.length:=by rw [Nat.mul_comm];exact (Nat.div_add_mod j L.length).symm
   have hi:j / L.length < len:=Nat.div_lt_of_lt_mul (by rw [Nat.mul_comm];exact hlt)
   have hm:=Nat.mod_lt j h0
   rw [e1,flatten_get hrl _ _ hm] at hj
   rw [e1]
   simp only [List.getElem?_map,List.getElem?_range hi,Option.map_some,Option.bind_some] at hj
   exact (hR _ hi).2.1 _ _ hj
theorem Tz.things {α:Type} {ρ:Rec α} {Q:α→Prop} {t e:TypeId} {L:List TypeId} (k:Nat) {v:Value} (h:Tz enc P W t v) (ht:P.underlying t=some (.slice e)) (hL:leaves P k e=some L) (hc:P.cellsOf e=L.length) (hn:L.length=ρ.n)
  (hr:∀ row:List Value,row.length=L.length→(∀ (i:Nat) (ft:TypeId),L[i]?=some ft→∃ v,row[i]?=some v∧Tz enc P W ft v)→∃ x,row=ρ.c x∧Q x) :
  ∃ (s:Sl) (l:List α),v=.slice s.p s.len s.cap∧RdE ρ W s l∧s.len * P.bytesOf e≤140737488355328∧∀ x∈l,Q x:=by
 obtain ⟨s,rows,hv,hl,hcap,hb,hrow,hrd⟩:=h.rows ht hL hc
 obtain ⟨xs,g1,g2,g3⟩:=rows_of' (enc:=ρ.c) (Q:=Q) (rows:=rows) fun row hm=>hr row (hrow row hm).1 (hrow row hm).2
 rw [g1,hn] at hrd
 exact ⟨s,xs,hv,⟨hrd,hcap⟩,hb,g3⟩
theorem Tz.of {t:TypeId} {v:Value} {d:DataW H} {ps:List MemPlace} (h:DataW.Trod enc P W 0 (fun _=>true) true t v d ps) (hv:v.cells=#[v]) (hz:∀ m∈d.weights P t,m≤reachBytes):Tz enc P W t v:=by
 obtain ⟨n,hn⟩:=h
 rw [hv] at hn
 exact ⟨n,_,hn,hz⟩
theorem Tz.of_slice {r:Reach} {b0:Nat} {t e:TypeId} {v:Value} {d:DataW H} {ps:List MemPlace} (ht:P.underlying t=some (.slice e)) (hval:Value.okWide P W r b0 t v) (h:DataW.Trod enc P W 0 (fun _=>true) true t v d ps) (hz:∀ m∈d.weights P t,m≤reachBytes):Tz enc P W t v:=by
 obtain ⟨a,len,cap,rfl⟩:=okWide_slice ht hval
 exact Tz.of h rfl hz
def kdB (P:Program) (k:Kd) (t:TypeId):Bool:=
 match k,P.underlying t with
 | .i a,some (.int b)=>decide (a=b)
 | .b,some .bool=>true
 | .s,some .string=>true
 | .sl,some (.slice _)=>true
 | _,_=>false
theorem Tz.kd {k:Kd} {t:TypeId} {v:Value} (h:Tz enc P W t v) (hk:kdB P k t=true):∃ x:k.T,v=k.enc x:=by
 unfold kdB at hk
 split at hk
 ·rename_i a b hu
  rw [decide_eq_true_iff] at hk
  subst hk
  obtain ⟨n,e,_⟩:=h.int hu
  exact ⟨n,e⟩
 ·rename_i hu
  exact h.bool hu
 ·rename_i hu
  obtain ⟨s,e,_⟩:=h.str hu
  exact ⟨s,e⟩
 ·rename_i e hu
  obtain ⟨n,x,hn,_⟩:=h
  rcases Go.Deep.open_slice hu hn with ⟨h1,_⟩ | ⟨a,len,cap,m,n',D,Pl,h1,_⟩
  ·simp only [List.cons.injEq,and_true] at h1
   exact ⟨⟨none,0,0⟩,h1⟩
  ·simp only [List.cons.injEq,and_true] at h1
   exact ⟨⟨some a,len,cap⟩,h1⟩
 ·cases hk
def TzT (enc:TypeId × Value→H) (P:Program) (W:World):List TypeId→(ks:List Kd)→Tup ks→Prop
 | _,[],_=>True
 | [],_ :: _,_=>False
 | t :: L,k :: ks,y=>Tz enc P W t (k.enc y.1)∧TzT enc P W L ks y.2
def kdsB (P:Program):List TypeId→List Kd→Bool
 | [],[]=>true
 | t :: L,k :: ks=>kdB P k t && kdsB P L ks
 | _,_=>false
theorem tup_of:∀ {L:List TypeId} {ks:List Kd} {row:List Value},kdsB P L ks=true→row.length=L.length→(∀ (i:Nat) (ft:TypeId),L[i]?=some ft→∃ v,row[i]?=some v∧Tz enc P W ft v)→∃ y:Tup ks,row=encs ks y∧TzT enc P W L ks y
 | [],[],row,_,hl,_=>⟨(),List.eq_nil_of_length_eq_zero hl,trivial⟩
 | t :: L,k :: ks,row,hk,hl,h=>by
  unfold kdsB at hk
  rw [Bool.and_eq_true] at hk
  match row,hl with
  | v :: row,hl=>
   obtain ⟨v',e,hv⟩:=h 0 t rfl
   simp only [List.getElem?_cons_zero,Option.some.injEq] at e
   subst e
   obtain ⟨x,rfl⟩:=hv.kd hk.1
   obtain ⟨y,rfl,hy⟩:=tup_of (L:=L) (ks:=ks) (row:=row) hk.2 (by simpa using hl) (fun i ft hi=>by
    obtain ⟨u,e,hu⟩:=h (i + 1) ft (by simpa using hi)
    exact ⟨u,by simpa using e,hu⟩)
   exact ⟨(x,y),rfl,hv,hy⟩
 | [],_ :: _,_,hk,_,_=>by simp [kdsB] at hk
 | _ :: _,[],_,hk,_,_=>by simp [kdsB] at hk
theorem Tz.list {α:Type} {ρ:Rec α} {Q:α→Prop} {t e:TypeId} {L:List TypeId} {k:Nat} {v:Value} (h:Tz enc P W t v) (ht:P.underlying t=some (.slice e)) (hL:leaves P k e=some L) (hc:P.cellsOf e=L.length) (hk:kdsB P L ρ.ks=true)
  (hr:∀ y:Tup ρ.ks,TzT enc P W L ρ.ks y→∃ x,ρ.t x=y∧Q x) :
  ∃ (s:Sl) (l:List α),v=.slice s.p s.len s.cap∧RdE ρ W s l∧s.len * P.bytesOf e≤140737488355328∧∀ x∈l,Q x:=by
 have hn:∀ {L:List TypeId} {ks:List Kd},kdsB P L ks=true→L.length=ks.length:=by
  intro L
  induction L with
  | nil=>intro ks h;cases ks with | nil=>rfl | cons=>simp [kdsB] at h
  | cons t L ih=>
   intro ks h
   cases ks with
   | nil=>simp [kdsB] at h
   | cons k ks=>
    unfold kdsB at h
    rw [Bool.and_eq_true] at h
    rw [List.length_cons,List.length_cons,ih h.2]
 refine h.things k ht hL hc (hn hk) fun row hl hrow=>?_
 obtain ⟨y,rfl,hy⟩:=tup_of hk hl hrow
 obtain ⟨x,rfl,hx⟩:=hr y hy
 exact ⟨x,rfl,hx⟩
end
end Go.Sx
namespace Go.Proofs.YthkdehgfdllpoaaGreat
open Go Go.Sx
noncomputable abbrev Pg:Program:=Tryz.prog
end Go.Proofs.YthkdehgfdllpoaaGreat
set_option linter.unusedVariables false
namespace Go.Proofs.YthkdehgfdllpoaaGreat
open Go Go.Sx
abbrev i_sumpterlaw20_PartOnce:FuncId:=3
def sumpterlaw20_PartOnce (p_l:Sl) (R:TR [.sc .b]→Pr):Pr:=
 Cl Pg 8 [] false [.sc .b] fun r1=>
 New #[(.slice none 0 0)] 27 fun a2=>
 Cl Pg 10 [] false [.ag [(.i .i64),(.i .u64),(.i .u64),(.i .u64),(.i .u64),.sl,.sl,.sl,(.i .u64),(.i .u64),.s,.s,(.i .u64),(.i .u64),(.i .u64),.s,.s]] fun r3=>
 Cl Pg 9 [(.agg #[(.int .i64 r3.1.1),(.int .u64 r3.1.2.1),(.int .u64 r3.1.2.2.1),(.int .u64 r3.1.2.2.2.1),(.int .u64 r3.1.2.2.2.2.1),(.slice r3.1.2.2.2.2.2.1.p r3.1.2.2.2.2.2.1.len r3.1.2.2.2.2.2.1.cap),(.slice r3.1.2.2.2.2.2.2.1.p r3.1.2.2.2.2.2.2.1.len r3.1.2.2.2.2.2.2.1.cap),(.slice r3.1.2.2.2.2.2.2.2.1.p r3.1.2.2.2.2.2.2.2.1.len r3.1.2.2.2.2.2.2.2.1.cap),(.int .u64 r3.1.2.2.2.2.2.2.2.2.1),(.int .u64 r3.1.2.2.2.2.2.2.2.2.2.1),(.string r3.1.2.2.2.2.2.2.2.2.2.2.1),(.string r3.1.2.2.2.2.2.2.2.2.2.2.2.1),(.int .u64 r3.1.2.2.2.2.2.2.2.2.2.2.2.2.1),(.int .u64 r3.1.2.2.2.2.2.2.2.2.2.2.2.2.2.1),(.int .u64 r3.1.2.2.2.2.2.2.2.2.2.2.2.2.2.2.1),(.string r3.1.2.2.2.2.2.2.2.2.2.2.2.2.2.2.2.1),(.string r3.1.2.2.2.2.2.2.2.2.2.2.2.2.2.2.2.2.1)]),(.iface 24 (.pointer (some a2)))] true [.sc .p,.sc (.i .i64)] fun r4=>
 Jp (σ:=Bool × Unit) (fun s6=>
 Br s6.1 (
 Br r1.1 (
 R ((!(Option.isNone r4.1)),())) (
 R (false,()))) (
 NewObj (.map #[] 0) fun m7=>
 Lp (σ:=Bool × Int × Unit) (fun L8 s9=>
 Br (decide ((s9.2.1:Int) < ((p_l.len:Nat):Int))) (
 Jp (σ:=Bool × Unit) (fun s11=>
 L8 (s11.1,(w64 (s9.2.1 + 1)),())) fun J10=>
 Ix p_l s9.2.1 22 fun a12=>
 LdI .i64 (a12.add 0) fun x13=>
 LdI .i64 (a12.add 1) fun x14=>
 LdI .i64 (a12.add 2) fun x15=>
 LdI .i64 (a12.add 3) fun x16=>
 LdI .i64 (a12.add 4) fun x17=>
 LdI .i64 (a12.add 5) fun x18=>
 LdI .u64 (a12.add 6) fun x19=>
 LdI .u64 (a12.add 7) fun x20=>
 LdI .u64 (a12.add 8) fun x21=>
 LdI .u64 (a12.add 9) fun x22=>
 LdI .u64 (a12.add 10) fun x23=>
 LdI .u64 (a12.add 11) fun x24=>
 LdI .u64 (a12.add 12) fun x25=>
 LdI .u64 (a12.add 13) fun x26=>
 LdI .u64 (a12.add 14) fun x27=>
 LdB (a12.add 15) fun x28=>
 LdS (a12.add 16) fun x29=>
 LdS (a12.add 17) fun x30=>
 LdL (a12.add 18) fun x31=>
 LdL (a12.add 19) fun x32=>
 LdL (a12.add 20) fun x33=>
 LdB (a12.add 21) fun x34=>
 New #[(.int .i64 0),(.int .i64 0),(.int .i64 0),(.int .i64 0),(.int .i64 0),(.int .i64 0),(.int .u64 0),(.int .u64 0),(.int .u64 0),(.int .u64 0),(.int .u64 0),(.int .u64 0),(.int .u64 0),(.int .u64 0),(.int .u64 0),(.bool false),(.string (BA [])),(.string (BA [])),(.slice none 0 0),(.slice none 0 0),(.slice none 0 0),(.bool false)] 49 fun a35=>
 St (a35.add 0) (.int .i64 x13) <|
 St (a35.add 1) (.int .i64 x14) <|
 St (a35.add 2) (.int .i64 x15) <|
 St (a35.add 3) (.int .i64 x16) <|
 St (a35.add 4) (.int .i64 x17) <|
 St (a35.add 5) (.int .i64 x18) <|
 St (a35.add 6) (.int .u64 x19) <|
 St (a35.add 7) (.int .u64 x20) <|
 St (a35.add 8) (.int .u64 x21) <|
 St (a35.add 9) (.int .u64 x22) <|
 St (a35.add 10) (.int .u64 x23) <|
 St (a35.add 11) (.int .u64 x24) <|
 St (a35.add 12) (.int .u64 x25) <|
 St (a35.add 13) (.int .u64 x26) <|
 St (a35.add 14) (.int .u64 x27) <|
 St (a35.add 15) (.bool x28) <|
 St (a35.add 16) (.string x29) <|
 St (a35.add 17) (.string x30) <|
 St (a35.add 18) (.slice x31.p x31.len x31.cap) <|
 St (a35.add 19) (.slice x32.p x32.len x32.cap) <|
 St (a35.add 20) (.slice x33.p x33.len x33.cap) <|
 St (a35.add 21) (.bool x34) <|
 Jp (σ:=Bool × Unit) (fun s37=>
 Br s37.1 (
 J10 (s9.1,())) (
 LdI .i64 ((a35.add 0).add 0) fun x38=>
 LdI .i64 ((a35.add 0).add 1) fun x39=>
 LdI .i64 ((a35.add 0).add 2) fun x40=>
 LdI .i64 ((a35.add 0).add 3) fun x41=>
 LdI .i64 ((a35.add 0).add 4) fun x42=>
 LdI .i64 ((a35.add 0).add 5) fun x43=>
 LdI .u64 ((a35.add 0).add 6) fun x44=>
 LdI .u64 ((a35.add 0).add 7) fun x45=>
 LdI .u64 ((a35.add 0).add 8) fun x46=>
 LdI .u64 ((a35.add 0).add 9) fun x47=>
 LdI .u64 ((a35.add 0).add 10) fun x48=>
 LdI .u64 ((a35.add 0).add 11) fun x49=>
 LdI .u64 ((a35.add 0).add 12) fun x50=>
 LdI .u64 ((a35.add 0).add 13) fun x51=>
 LdI .u64 ((a35.add 0).add 14) fun x52=>
 LdB ((a35.add 0).add 15) fun x53=>
 LdS ((a35.add 0).add 16) fun x54=>
 LdS ((a35.add 0).add 17) fun x55=>
 LdL ((a35.add 0).add 18) fun x56=>
 LdL ((a35.add 0).add 19) fun x57=>
 LdL ((a35.add 0).add 20) fun x58=>
 Cl Pg 11 [(.pointer r4.1),(.agg #[(.int .i64 x38),(.int .i64 x39),(.int .i64 x40),(.int .i64 x41),(.int .i64 x42),(.int .i64 x43),(.int .u64 x44),(.int .u64 x45),(.int .u64 x46),(.int .u64 x47),(.int .u64 x48),(.int .u64 x49),(.int .u64 x50),(.int .u64 x51),(.int .u64 x52),(.bool x53),(.string x54),(.string x55),(.slice x56.p x56.len x56.cap),(.slice x57.p x57.len x57.cap),(.slice x58.p x58.len x58.cap)])] true [.ag [.sl,.sl,.b],.sc (.i .i64)] fun r59=>
 New #[(.slice none 0 0),(.slice none 0 0),(.bool false)] 52 fun a60=>
 St (a60.add 0) (.slice r59.1.1.p r59.1.1.len r59.1.1.cap) <|
 St (a60.add 1) (.slice r59.1.2.1.p r59.1.2.1.len r59.1.2.1.cap) <|
 St (a60.add 2) (.bool r59.1.2.2.1) <|
 Dr <|
 LdL (a2.add 0) fun x61=>
 LdL (a60.add 1) fun x62=>
 Cl Pg 12 [(.slice x61.p x61.len x61.cap),(.slice x62.p x62.len x62.cap)] true [.sc .sl,.sc .sl,.sc (.i .i64)] fun r63=>
 St (a2.add 0) (.slice r63.1.p r63.1.len r63.1.cap) <|
 LdL (a60.add 1) fun x64=>
 Br ((((x64.len:Nat):Int):Int) == 0) (
 J10 (s9.1,())) (
 Jp (σ:=Bool × Unit) (fun s66=>
 Br s66.1 (
 R (false,())) (
 LdI .u64 ((a35.add 0).add 8) fun x67=>
 MSet (.int .u64) (some m7) (.int .u64 x67) (.bool true) <|
 J10 (s9.1,()))) fun J65=>
 LdI .i64 ((a35.add 0).add 0) fun x68=>
 Br ((x68:Int) != 5) (
 J65 (true,())) (
 LdB ((a35.add 0).add 15) fun x69=>
 Br (!x69) (
 J65 (true,())) (
 LdI .u64 ((a35.add 0).add 8) fun x70=>
 LkK .b false (.int .u64) (some m7) (.int .u64 x70) fun x71 b72=>
 J65 (x71,())))))) fun J36=>
 LdI .i64 ((a35.add 0).add 0) fun x73=>
 Br ((x73:Int) != 3) (
 LdI .i64 ((a35.add 0).add 0) fun x74=>
 J36 (((x74:Int) != 5),())) (
 J36 (false,()))) (
 R (r1.1,()))) (false,0,()))) fun J5=>
 Br (Option.isNone r4.1) (
 J5 (true,())) (
 Br ((r4.2.1:Int) != 0) (
 J5 (true,())) (
 J5 ((decide ((((p_l.len:Nat):Int):Int) > 80)),())))
theorem sumpterlaw20_PartOnce_call (p_l:Sl) {R:TR [.sc .b]→Pr} {w:World} (h:sumpterlaw20_PartOnce p_l R w):Cl Pg 3 [(.slice p_l.p p_l.len p_l.cap)] false [.sc .b] R w:=
 call_eq Tryz.checked.mixed (.seq .leaf (.seq .leaf (.seq .leaf (.seq .leaf (.seq (.seq (.join [(32,.sc .b)] .leaf) (.cond (.seq .leaf .leaf) .leaf)) (.seq .leaf (.seq (.seq .leaf (.block (.loop [(2,.sc .b),(41,.sc (.i .i64))] (.seq .leaf (.seq (.cond .leaf .leaf) (.seq (.join [(2,.sc .b)] (.block (.seq .leaf (.seq (.seq (.join [(54,.sc .b)] .leaf) (.cond .leaf .leaf)) (.seq .leaf (.seq .leaf (.seq (.seq .leaf (.cond .leaf .leaf)) (.seq (.seq (.join [(96,.sc .b)] .leaf) (.cond (.seq .leaf .leaf) .leaf)) .leaf)))))))) .leaf)))))) (.seq .leaf .leaf)))))))) Tryz.func3 (by kernel_rfl) (by kernel_rfl) h
abbrev i_sumpterlaw20_PartReads:FuncId:=4
def sumpterlaw20_PartReads (p_m:Sl) (p_l:Sl) (R:TR [.sc .b]→Pr):Pr:=
 Cl Pg 8 [] false [.sc .b] fun r1=>
 Jp (σ:=Bool × Unit) (fun s3=>
 Br s3.1 (
 R (r1.1,())) (
 App 111 2 32 (zc Pg 111) ⟨none,0,0⟩ p_m.len (srcS p_m.p p_m.len 2) fun r4=>
 New #[(.slice r4.p r4.len r4.cap)] 27 fun a5=>
 Cl Pg 10 [] false [.ag [(.i .i64),(.i .u64),(.i .u64),(.i .u64),(.i .u64),.sl,.sl,.sl,(.i .u64),(.i .u64),.s,.s,(.i .u64),(.i .u64),(.i .u64),.s,.s]] fun r6=>
 Cl Pg 9 [(.agg #[(.int .i64 r6.1.1),(.int .u64 r6.1.2.1),(.int .u64 r6.1.2.2.1),(.int .u64 r6.1.2.2.2.1),(.int .u64 r6.1.2.2.2.2.1),(.slice r6.1.2.2.2.2.2.1.p r6.1.2.2.2.2.2.1.len r6.1.2.2.2.2.2.1.cap),(.slice r6.1.2.2.2.2.2.2.1.p r6.1.2.2.2.2.2.2.1.len r6.1.2.2.2.2.2.2.1.cap),(.slice r6.1.2.2.2.2.2.2.2.1.p r6.1.2.2.2.2.2.2.2.1.len r6.1.2.2.2.2.2.2.2.1.cap),(.int .u64 r6.1.2.2.2.2.2.2.2.2.1),(.int .u64 r6.1.2.2.2.2.2.2.2.2.2.1),(.string r6.1.2.2.2.2.2.2.2.2.2.2.1),(.string r6.1.2.2.2.2.2.2.2.2.2.2.2.1),(.int .u64 r6.1.2.2.2.2.2.2.2.2.2.2.2.2.1),(.int .u64 r6.1.2.2.2.2.2.2.2.2.2.2.2.2.2.1),(.int .u64 r6.1.2.2.2.2.2.2.2.2.2.2.2.2.2.2.1),(.string r6.1.2.2.2.2.2.2.2.2.2.2.2.2.2.2.2.1),(.string r6.1.2.2.2.2.2.2.2.2.2.2.2.2.2.2.2.2.1)]),(.iface 24 (.pointer (some a5)))] true [.sc .p,.sc (.i .i64)] fun r7=>
 Jp (σ:=Bool × Unit) (fun s9=>
 Br s9.1 (
 R (false,())) (
 Lp (σ:=Bool × Int × Unit) (fun L10 s11=>
 Br (decide ((s11.2.1:Int) < ((p_l.len:Nat):Int))) (
 Jp (σ:=Bool × Unit) (fun s13=>
 L10 (s13.1,(w64 (s11.2.1 + 1)),())) fun J12=>
 Ix p_l s11.2.1 22 fun a14=>
 LdI .i64 (a14.add 0) fun x15=>
 LdI .i64 (a14.add 1) fun x16=>
 LdI .i64 (a14.add 2) fun x17=>
 LdI .i64 (a14.add 3) fun x18=>
 LdI .i64 (a14.add 4) fun x19=>
 LdI .i64 (a14.add 5) fun x20=>
 LdI .u64 (a14.add 6) fun x21=>
 LdI .u64 (a14.add 7) fun x22=>
 LdI .u64 (a14.add 8) fun x23=>
 LdI .u64 (a14.add 9) fun x24=>
 LdI .u64 (a14.add 10) fun x25=>
 LdI .u64 (a14.add 11) fun x26=>
 LdI .u64 (a14.add 12) fun x27=>
 LdI .u64 (a14.add 13) fun x28=>
 LdI .u64 (a14.add 14) fun x29=>
 LdB (a14.add 15) fun x30=>
 LdS (a14.add 16) fun x31=>
 LdS (a14.add 17) fun x32=>
 LdL (a14.add 18) fun x33=>
 LdL (a14.add 19) fun x34=>
 LdL (a14.add 20) fun x35=>
 LdB (a14.add 21) fun x36=>
 New #[(.int .i64 0),(.int .i64 0),(.int .i64 0),(.int .i64 0),(.int .i64 0),(.int .i64 0),(.int .u64 0),(.int .u64 0),(.int .u64 0),(.int .u64 0),(.int .u64 0),(.int .u64 0),(.int .u64 0),(.int .u64 0),(.int .u64 0),(.bool false),(.string (BA [])),(.string (BA [])),(.slice none 0 0),(.slice none 0 0),(.slice none 0 0),(.bool false)] 49 fun a37=>
 St (a37.add 0) (.int .i64 x15) <|
 St (a37.add 1) (.int .i64 x16) <|
 St (a37.add 2) (.int .i64 x17) <|
 St (a37.add 3) (.int .i64 x18) <|
 St (a37.add 4) (.int .i64 x19) <|
 St (a37.add 5) (.int .i64 x20) <|
 St (a37.add 6) (.int .u64 x21) <|
 St (a37.add 7) (.int .u64 x22) <|
 St (a37.add 8) (.int .u64 x23) <|
 St (a37.add 9) (.int .u64 x24) <|
 St (a37.add 10) (.int .u64 x25) <|
 St (a37.add 11) (.int .u64 x26) <|
 St (a37.add 12) (.int .u64 x27) <|
 St (a37.add 13) (.int .u64 x28) <|
 St (a37.add 14) (.int .u64 x29) <|
 St (a37.add 15) (.bool x30) <|
 St (a37.add 16) (.string x31) <|
 St (a37.add 17) (.string x32) <|
 St (a37.add 18) (.slice x33.p x33.len x33.cap) <|
 St (a37.add 19) (.slice x34.p x34.len x34.cap) <|
 St (a37.add 20) (.slice x35.p x35.len x35.cap) <|
 St (a37.add 21) (.bool x36) <|
 Jp (σ:=Bool × Unit) (fun s39=>
 Br s39.1 (
 J12 (s11.1,())) (
 LdI .i64 ((a37.add 0).add 0) fun x40=>
 LdI .i64 ((a37.add 0).add 1) fun x41=>
 LdI .i64 ((a37.add 0).add 2) fun x42=>
 LdI .i64 ((a37.add 0).add 3) fun x43=>
 LdI .i64 ((a37.add 0).add 4) fun x44=>
 LdI .i64 ((a37.add 0).add 5) fun x45=>
 LdI .u64 ((a37.add 0).add 6) fun x46=>
 LdI .u64 ((a37.add 0).add 7) fun x47=>
 LdI .u64 ((a37.add 0).add 8) fun x48=>
 LdI .u64 ((a37.add 0).add 9) fun x49=>
 LdI .u64 ((a37.add 0).add 10) fun x50=>
 LdI .u64 ((a37.add 0).add 11) fun x51=>
 LdI .u64 ((a37.add 0).add 12) fun x52=>
 LdI .u64 ((a37.add 0).add 13) fun x53=>
 LdI .u64 ((a37.add 0).add 14) fun x54=>
 LdB ((a37.add 0).add 15) fun x55=>
 LdS ((a37.add 0).add 16) fun x56=>
 LdS ((a37.add 0).add 17) fun x57=>
 LdL ((a37.add 0).add 18) fun x58=>
 LdL ((a37.add 0).add 19) fun x59=>
 LdL ((a37.add 0).add 20) fun x60=>
 Cl Pg 11 [(.pointer r7.1),(.agg #[(.int .i64 x40),(.int .i64 x41),(.int .i64 x42),(.int .i64 x43),(.int .i64 x44),(.int .i64 x45),(.int .u64 x46),(.int .u64 x47),(.int .u64 x48),(.int .u64 x49),(.int .u64 x50),(.int .u64 x51),(.int .u64 x52),(.int .u64 x53),(.int .u64 x54),(.bool x55),(.string x56),(.string x57),(.slice x58.p x58.len x58.cap),(.slice x59.p x59.len x59.cap),(.slice x60.p x60.len x60.cap)])] true [.ag [.sl,.sl,.b],.sc (.i .i64)] fun r61=>
 New #[(.slice none 0 0),(.slice none 0 0),(.bool false)] 52 fun a62=>
 St (a62.add 0) (.slice r61.1.1.p r61.1.1.len r61.1.1.cap) <|
 St (a62.add 1) (.slice r61.1.2.1.p r61.1.2.1.len r61.1.2.1.cap) <|
 St (a62.add 2) (.bool r61.1.2.2.1) <|
 Dr <|
 LdL (a5.add 0) fun x63=>
 LdL (a62.add 1) fun x64=>
 Cl Pg 12 [(.slice x63.p x63.len x63.cap),(.slice x64.p x64.len x64.cap)] true [.sc .sl,.sc .sl,.sc (.i .i64)] fun r65=>
 St (a5.add 0) (.slice r65.1.p r65.1.len r65.1.cap) <|
 Cl Pg 14 [(.pointer r7.1)] false [.ag [(.i .i64),(.i .u64),(.i .u64),(.i .u64),(.i .u64),.sl,.sl,.sl,(.i .u64),(.i .u64),.s,.s,(.i .u64),(.i .u64),(.i .u64),.s,.s]] fun r66=>
 New #[(.int .i64 0),(.int .u64 0),(.int .u64 0),(.int .u64 0),(.int .u64 0),(.slice none 0 0),(.slice none 0 0),(.slice none 0 0),(.int .u64 0),(.int .u64 0),(.string (BA [])),(.string (BA [])),(.int .u64 0),(.int .u64 0),(.int .u64 0),(.string (BA [])),(.string (BA []))] 41 fun a67=>
 St (a67.add 0) (.int .i64 r66.1.1) <|
 St (a67.add 1) (.int .u64 r66.1.2.1) <|
 St (a67.add 2) (.int .u64 r66.1.2.2.1) <|
 St (a67.add 3) (.int .u64 r66.1.2.2.2.1) <|
 St (a67.add 4) (.int .u64 r66.1.2.2.2.2.1) <|
 St (a67.add 5) (.slice r66.1.2.2.2.2.2.1.p r66.1.2.2.2.2.2.1.len r66.1.2.2.2.2.2.1.cap) <|
 St (a67.add 6) (.slice r66.1.2.2.2.2.2.2.1.p r66.1.2.2.2.2.2.2.1.len r66.1.2.2.2.2.2.2.1.cap) <|
 St (a67.add 7) (.slice r66.1.2.2.2.2.2.2.2.1.p r66.1.2.2.2.2.2.2.2.1.len r66.1.2.2.2.2.2.2.2.1.cap) <|
 St (a67.add 8) (.int .u64 r66.1.2.2.2.2.2.2.2.2.1) <|
 St (a67.add 9) (.int .u64 r66.1.2.2.2.2.2.2.2.2.2.1) <|
 St (a67.add 10) (.string r66.1.2.2.2.2.2.2.2.2.2.2.1) <|
 St (a67.add 11) (.string r66.1.2.2.2.2.2.2.2.2.2.2.2.1) <|
 St (a67.add 12) (.int .u64 r66.1.2.2.2.2.2.2.2.2.2.2.2.2.1) <|
 St (a67.add 13) (.int .u64 r66.1.2.2.2.2.2.2.2.2.2.2.2.2.2.1) <|
 St (a67.add 14) (.int .u64 r66.1.2.2.2.2.2.2.2.2.2.2.2.2.2.2.1) <|
 St (a67.add 15) (.string r66.1.2.2.2.2.2.2.2.2.2.2.2.2.2.2.2.1) <|
 St (a67.add 16) (.string r66.1.2.2.2.2.2.2.2.2.2.2.2.2.2.2.2.2.1) <|
 LdL (a62.add 0) fun x68=>
 Lp (σ:=Bool × Int × Unit) (fun L69 s70=>
 Br (decide ((s70.2.1:Int) < ((x68.len:Nat):Int))) (
 Jp (σ:=Bool × Unit) (fun s72=>
 L69 (s72.1,(w64 (s70.2.1 + 1)),())) fun J71=>
 Ix x68 s70.2.1 21 fun a73=>
 LdI .i64 (a73.add 0) fun x74=>
 LdI .i64 (a73.add 1) fun x75=>
 LdI .i64 (a73.add 2) fun x76=>
 LdI .i64 (a73.add 3) fun x77=>
 LdI .i64 (a73.add 4) fun x78=>
 LdI .i64 (a73.add 5) fun x79=>
 LdI .u64 (a73.add 6) fun x80=>
 LdI .u64 (a73.add 7) fun x81=>
 LdI .u64 (a73.add 8) fun x82=>
 LdI .u64 (a73.add 9) fun x83=>
 LdI .u64 (a73.add 10) fun x84=>
 LdI .u64 (a73.add 11) fun x85=>
 LdI .u64 (a73.add 12) fun x86=>
 LdI .u64 (a73.add 13) fun x87=>
 LdI .u64 (a73.add 14) fun x88=>
 LdB (a73.add 15) fun x89=>
 LdS (a73.add 16) fun x90=>
 LdS (a73.add 17) fun x91=>
 LdL (a73.add 18) fun x92=>
 LdL (a73.add 19) fun x93=>
 LdL (a73.add 20) fun x94=>
 New #[(.int .i64 0),(.int .i64 0),(.int .i64 0),(.int .i64 0),(.int .i64 0),(.int .i64 0),(.int .u64 0),(.int .u64 0),(.int .u64 0),(.int .u64 0),(.int .u64 0),(.int .u64 0),(.int .u64 0),(.int .u64 0),(.int .u64 0),(.bool false),(.string (BA [])),(.string (BA [])),(.slice none 0 0),(.slice none 0 0),(.slice none 0 0)] 47 fun a95=>
 St (a95.add 0) (.int .i64 x74) <|
 St (a95.add 1) (.int .i64 x75) <|
 St (a95.add 2) (.int .i64 x76) <|
 St (a95.add 3) (.int .i64 x77) <|
 St (a95.add 4) (.int .i64 x78) <|
 St (a95.add 5) (.int .i64 x79) <|
 St (a95.add 6) (.int .u64 x80) <|
 St (a95.add 7) (.int .u64 x81) <|
 St (a95.add 8) (.int .u64 x82) <|
 St (a95.add 9) (.int .u64 x83) <|
 St (a95.add 10) (.int .u64 x84) <|
 St (a95.add 11) (.int .u64 x85) <|
 St (a95.add 12) (.int .u64 x86) <|
 St (a95.add 13) (.int .u64 x87) <|
 St (a95.add 14) (.int .u64 x88) <|
 St (a95.add 15) (.bool x89) <|
 St (a95.add 16) (.string x90) <|
 St (a95.add 17) (.string x91) <|
 St (a95.add 18) (.slice x92.p x92.len x92.cap) <|
 St (a95.add 19) (.slice x93.p x93.len x93.cap) <|
 St (a95.add 20) (.slice x94.p x94.len x94.cap) <|
 Jp (σ:=Bool × Unit) (fun s97=>
 Br s97.1 (
 J71 (s70.1,())) (
 LdL (a67.add 6) fun x98=>
 Lp (σ:=Bool × Int × Unit) (fun L99 s100=>
 Br (decide ((s100.2.1:Int) < ((x98.len:Nat):Int))) (
 Jp (σ:=Bool × Unit) (fun s102=>
 L99 (s102.1,(w64 (s100.2.1 + 1)),())) fun J101=>
 Ix x98 s100.2.1 2 fun a103=>
 LdI .u64 (a103.add 0) fun x104=>
 LdL (a103.add 1) fun x105=>
 New #[(.int .u64 0),(.slice none 0 0)] 60 fun a106=>
 St (a106.add 0) (.int .u64 x104) <|
 St (a106.add 1) (.slice x105.p x105.len x105.cap) <|
 LdI .u64 (a106.add 0) fun x107=>
 LdI .u64 (a95.add 8) fun x108=>
 Br ((x107:Int) != x108) (
 J101 (s100.1,())) (
 Dr <|
 LdL (a5.add 0) fun x109=>
 LdL (a106.add 1) fun x110=>
 Cl Pg 12 [(.slice x109.p x109.len x109.cap),(.slice x110.p x110.len x110.cap)] true [.sc .sl,.sc .sl,.sc (.i .i64)] fun r111=>
 Jp (σ:=Bool × Unit) (fun s113=>
 Br s113.1 (
 R (false,())) (
 J101 (s100.1,()))) fun J112=>
 Br ((r111.2.2.1:Int) != 0) (
 J112 (true,())) (
 LdL (a95.add 19) fun x114=>
 Cl Pg 15 [(.slice r111.2.1.p r111.2.1.len r111.2.1.cap),(.slice x114.p x114.len x114.cap)] false [.sc .b] fun r115=>
 J112 ((!r115.1),())))) (
 J71 (s100.1,()))) (s70.1,0,()))) fun J96=>
 LdI .i64 (a95.add 0) fun x116=>
 Br ((x116:Int) != 4) (
 J96 (true,())) (
 LdI .i64 (a95.add 4) fun x117=>
 J96 (((x117:Int) != 3),()))) (
 J12 (s70.1,()))) (s11.1,0,()))) fun J38=>
 LdI .i64 ((a37.add 0).add 0) fun x118=>
 Br ((x118:Int) != 3) (
 LdI .i64 ((a37.add 0).add 0) fun x119=>
 J38 (((x119:Int) != 5),())) (
 J38 (false,()))) (
 R (r1.1,()))) (false,0,()))) fun J8=>
 Br (Option.isNone r7.1) (
 J8 (true,())) (
 J8 (((r7.2.1:Int) != 0),())))) fun J2=>
 Cl Pg 13 [(.slice p_m.p p_m.len p_m.cap)] false [.sc (.i .i64)] fun r120=>
 Br ((r120.1:Int) != 0) (
 J2 (true,())) (
 Br (decide ((((p_m.len:Nat):Int):Int) > 60)) (
 J2 (true,())) (
 J2 ((decide ((((p_l.len:Nat):Int):Int) > 60)),())))
theorem sumpterlaw20_PartReads_call (p_m:Sl) (p_l:Sl) {R:TR [.sc .b]→Pr} {w:World} (h:sumpterlaw20_PartReads p_m p_l R w):Cl Pg 4 [(.slice p_m.p p_m.len p_m.cap),(.slice p_l.p p_l.len p_l.cap)] false [.sc .b] R w:=
 call_eq Tryz.checked.mixed (.seq .leaf (.seq .leaf (.seq (.seq (.join [(34,.sc .b)] .leaf) (.cond (.seq .leaf .leaf) .leaf)) (.seq .leaf (.seq .leaf (.seq (.seq (.join [(52,.sc .b)] .leaf) (.cond (.seq .leaf .leaf) .leaf)) (.seq (.seq .leaf (.block (.loop [(4,.sc .b),(55,.sc (.i .i64))] (.seq .leaf (.seq (.cond .leaf .leaf) (.seq (.join [(4,.sc .b)] (.block (.seq .leaf (.seq (.seq (.join [(68,.sc .b)] .leaf) (.cond .leaf .leaf)) (.seq .leaf (.seq .leaf (.seq .leaf (.seq .leaf (.block (.loop [(4,.sc .b),(95,.sc (.i .i64))] (.seq .leaf (.seq (.cond .leaf .leaf) (.seq (.join [(4,.sc .b)] (.block (.seq .leaf (.seq (.seq (.join [(106,.sc .b)] .leaf) (.cond .leaf .leaf)) (.seq .leaf (.block (.loop [(4,.sc .b),(110,.sc (.i .i64))] (.seq .leaf (.seq (.cond .leaf .leaf) (.seq (.join [(4,.sc .b)] (.block (.seq .leaf (.seq (.seq .leaf (.cond .leaf .leaf)) (.seq .leaf (.seq (.join [(138,.sc .b)] .leaf) (.cond (.seq .leaf .leaf) .leaf))))))) .leaf)))))))))) .leaf))))))))))))) .leaf)))))) (.seq .leaf .leaf)))))))) Tryz.func4 (by kernel_rfl) (by kernel_rfl) h
abbrev i_sumpterlaw20_PartRest:FuncId:=5
def sumpterlaw20_PartRest (p_l:Sl) (p_flags:Sl) (R:TR [.sc .b]→Pr):Pr:=
 Cl Pg 8 [] false [.sc .b] fun r1=>
 New #[(.slice none 0 0)] 27 fun a2=>
 Cl Pg 10 [] false [.ag [(.i .i64),(.i .u64),(.i .u64),(.i .u64),(.i .u64),.sl,.sl,.sl,(.i .u64),(.i .u64),.s,.s,(.i .u64),(.i .u64),(.i .u64),.s,.s]] fun r3=>
 Cl Pg 9 [(.agg #[(.int .i64 r3.1.1),(.int .u64 r3.1.2.1),(.int .u64 r3.1.2.2.1),(.int .u64 r3.1.2.2.2.1),(.int .u64 r3.1.2.2.2.2.1),(.slice r3.1.2.2.2.2.2.1.p r3.1.2.2.2.2.2.1.len r3.1.2.2.2.2.2.1.cap),(.slice r3.1.2.2.2.2.2.2.1.p r3.1.2.2.2.2.2.2.1.len r3.1.2.2.2.2.2.2.1.cap),(.slice r3.1.2.2.2.2.2.2.2.1.p r3.1.2.2.2.2.2.2.2.1.len r3.1.2.2.2.2.2.2.2.1.cap),(.int .u64 r3.1.2.2.2.2.2.2.2.2.1),(.int .u64 r3.1.2.2.2.2.2.2.2.2.2.1),(.string r3.1.2.2.2.2.2.2.2.2.2.2.1),(.string r3.1.2.2.2.2.2.2.2.2.2.2.2.1),(.int .u64 r3.1.2.2.2.2.2.2.2.2.2.2.2.2.1),(.int .u64 r3.1.2.2.2.2.2.2.2.2.2.2.2.2.2.1),(.int .u64 r3.1.2.2.2.2.2.2.2.2.2.2.2.2.2.2.1),(.string r3.1.2.2.2.2.2.2.2.2.2.2.2.2.2.2.2.1),(.string r3.1.2.2.2.2.2.2.2.2.2.2.2.2.2.2.2.2.1)]),(.iface 24 (.pointer (some a2)))] true [.sc .p,.sc (.i .i64)] fun r4=>
 Jp (σ:=Bool × Unit) (fun s6=>
 Br s6.1 (
 Br r1.1 (
 R ((!(Option.isNone r4.1)),())) (
 R (false,()))) (
 Lp (σ:=Int × Unit) (fun L7 s8=>
 Br (decide ((s8.1:Int) < ((p_l.len:Nat):Int))) (
 Jp (σ:=Unit) (fun s10=>
 L7 ((w64 (s8.1 + 1)),())) fun J9=>
 Ix p_l s8.1 22 fun a11=>
 LdI .i64 (a11.add 0) fun x12=>
 LdI .i64 (a11.add 1) fun x13=>
 LdI .i64 (a11.add 2) fun x14=>
 LdI .i64 (a11.add 3) fun x15=>
 LdI .i64 (a11.add 4) fun x16=>
 LdI .i64 (a11.add 5) fun x17=>
 LdI .u64 (a11.add 6) fun x18=>
 LdI .u64 (a11.add 7) fun x19=>
 LdI .u64 (a11.add 8) fun x20=>
 LdI .u64 (a11.add 9) fun x21=>
 LdI .u64 (a11.add 10) fun x22=>
 LdI .u64 (a11.add 11) fun x23=>
 LdI .u64 (a11.add 12) fun x24=>
 LdI .u64 (a11.add 13) fun x25=>
 LdI .u64 (a11.add 14) fun x26=>
 LdB (a11.add 15) fun x27=>
 LdS (a11.add 16) fun x28=>
 LdS (a11.add 17) fun x29=>
 LdL (a11.add 18) fun x30=>
 LdL (a11.add 19) fun x31=>
 LdL (a11.add 20) fun x32=>
 LdB (a11.add 21) fun x33=>
 New #[(.int .i64 0),(.int .i64 0),(.int .i64 0),(.int .i64 0),(.int .i64 0),(.int .i64 0),(.int .u64 0),(.int .u64 0),(.int .u64 0),(.int .u64 0),(.int .u64 0),(.int .u64 0),(.int .u64 0),(.int .u64 0),(.int .u64 0),(.bool false),(.string (BA [])),(.string (BA [])),(.slice none 0 0),(.slice none 0 0),(.slice none 0 0),(.bool false)] 49 fun a34=>
 St (a34.add 0) (.int .i64 x12) <|
 St (a34.add 1) (.int .i64 x13) <|
 St (a34.add 2) (.int .i64 x14) <|
 St (a34.add 3) (.int .i64 x15) <|
 St (a34.add 4) (.int .i64 x16) <|
 St (a34.add 5) (.int .i64 x17) <|
 St (a34.add 6) (.int .u64 x18) <|
 St (a34.add 7) (.int .u64 x19) <|
 St (a34.add 8) (.int .u64 x20) <|
 St (a34.add 9) (.int .u64 x21) <|
 St (a34.add 10) (.int .u64 x22) <|
 St (a34.add 11) (.int .u64 x23) <|
 St (a34.add 12) (.int .u64 x24) <|
 St (a34.add 13) (.int .u64 x25) <|
 St (a34.add 14) (.int .u64 x26) <|
 St (a34.add 15) (.bool x27) <|
 St (a34.add 16) (.string x28) <|
 St (a34.add 17) (.string x29) <|
 St (a34.add 18) (.slice x30.p x30.len x30.cap) <|
 St (a34.add 19) (.slice x31.p x31.len x31.cap) <|
 St (a34.add 20) (.slice x32.p x32.len x32.cap) <|
 St (a34.add 21) (.bool x33) <|
 LdI .i64 ((a34.add 0).add 0) fun x35=>
 Br ((x35:Int) == 3) (
 LdI .i64 ((a34.add 0).add 0) fun x36=>
 LdI .i64 ((a34.add 0).add 1) fun x37=>
 LdI .i64 ((a34.add 0).add 2) fun x38=>
 LdI .i64 ((a34.add 0).add 3) fun x39=>
 LdI .i64 ((a34.add 0).add 4) fun x40=>
 LdI .i64 ((a34.add 0).add 5) fun x41=>
 LdI .u64 ((a34.add 0).add 6) fun x42=>
 LdI .u64 ((a34.add 0).add 7) fun x43=>
 LdI .u64 ((a34.add 0).add 8) fun x44=>
 LdI .u64 ((a34.add 0).add 9) fun x45=>
 LdI .u64 ((a34.add 0).add 10) fun x46=>
 LdI .u64 ((a34.add 0).add 11) fun x47=>
 LdI .u64 ((a34.add 0).add 12) fun x48=>
 LdI .u64 ((a34.add 0).add 13) fun x49=>
 LdI .u64 ((a34.add 0).add 14) fun x50=>
 LdB ((a34.add 0).add 15) fun x51=>
 LdS ((a34.add 0).add 16) fun x52=>
 LdS ((a34.add 0).add 17) fun x53=>
 LdL ((a34.add 0).add 18) fun x54=>
 LdL ((a34.add 0).add 19) fun x55=>
 LdL ((a34.add 0).add 20) fun x56=>
 Cl Pg 11 [(.pointer r4.1),(.agg #[(.int .i64 x36),(.int .i64 x37),(.int .i64 x38),(.int .i64 x39),(.int .i64 x40),(.int .i64 x41),(.int .u64 x42),(.int .u64 x43),(.int .u64 x44),(.int .u64 x45),(.int .u64 x46),(.int .u64 x47),(.int .u64 x48),(.int .u64 x49),(.int .u64 x50),(.bool x51),(.string x52),(.string x53),(.slice x54.p x54.len x54.cap),(.slice x55.p x55.len x55.cap),(.slice x56.p x56.len x56.cap)])] true [.ag [.sl,.sl,.b],.sc (.i .i64)] fun r57=>
 J9 ()) (
 J9 ())) (
 Lp (σ:=Bool × Int × Unit) (fun L58 s59=>
 Br (decide ((s59.2.1:Int) < 20)) (
 Cl Pg 14 [(.pointer r4.1)] false [.ag [(.i .i64),(.i .u64),(.i .u64),(.i .u64),(.i .u64),.sl,.sl,.sl,(.i .u64),(.i .u64),.s,.s,(.i .u64),(.i .u64),(.i .u64),.s,.s]] fun r60=>
 New #[(.int .i64 0),(.int .u64 0),(.int .u64 0),(.int .u64 0),(.int .u64 0),(.slice none 0 0),(.slice none 0 0),(.slice none 0 0),(.int .u64 0),(.int .u64 0),(.string (BA [])),(.string (BA [])),(.int .u64 0),(.int .u64 0),(.int .u64 0),(.string (BA [])),(.string (BA []))] 41 fun a61=>
 St (a61.add 0) (.int .i64 r60.1.1) <|
 St (a61.add 1) (.int .u64 r60.1.2.1) <|
 St (a61.add 2) (.int .u64 r60.1.2.2.1) <|
 St (a61.add 3) (.int .u64 r60.1.2.2.2.1) <|
 St (a61.add 4) (.int .u64 r60.1.2.2.2.2.1) <|
 St (a61.add 5) (.slice r60.1.2.2.2.2.2.1.p r60.1.2.2.2.2.2.1.len r60.1.2.2.2.2.2.1.cap) <|
 St (a61.add 6) (.slice r60.1.2.2.2.2.2.2.1.p r60.1.2.2.2.2.2.2.1.len r60.1.2.2.2.2.2.2.1.cap) <|
 St (a61.add 7) (.slice r60.1.2.2.2.2.2.2.2.1.p r60.1.2.2.2.2.2.2.2.1.len r60.1.2.2.2.2.2.2.2.1.cap) <|
 St (a61.add 8) (.int .u64 r60.1.2.2.2.2.2.2.2.2.1) <|
 St (a61.add 9) (.int .u64 r60.1.2.2.2.2.2.2.2.2.2.1) <|
 St (a61.add 10) (.string r60.1.2.2.2.2.2.2.2.2.2.2.1) <|
 St (a61.add 11) (.string r60.1.2.2.2.2.2.2.2.2.2.2.2.1) <|
 St (a61.add 12) (.int .u64 r60.1.2.2.2.2.2.2.2.2.2.2.2.2.1) <|
 St (a61.add 13) (.int .u64 r60.1.2.2.2.2.2.2.2.2.2.2.2.2.2.1) <|
 St (a61.add 14) (.int .u64 r60.1.2.2.2.2.2.2.2.2.2.2.2.2.2.2.1) <|
 St (a61.add 15) (.string r60.1.2.2.2.2.2.2.2.2.2.2.2.2.2.2.2.1) <|
 St (a61.add 16) (.string r60.1.2.2.2.2.2.2.2.2.2.2.2.2.2.2.2.2.1) <|
 Jp (σ:=Bool × Int × Unit) (fun s63=>
 Jp (σ:=Bool × Unit) (fun s65=>
 Cl Pg 11 [(.pointer r4.1),(.agg #[(.int .i64 5),(.int .i64 0),(.int .i64 1),(.int .i64 0),(.int .i64 0),(.int .i64 0),(.int .u64 0),(.int .u64 0),(.int .u64 s63.2.1),(.int .u64 0),(.int .u64 0),(.int .u64 0),(.int .u64 0),(.int .u64 0),(.int .u64 0),(.bool s65.1),(.string (BA [])),(.string (BA [])),(.slice none 0 0),(.slice none 0 0),(.slice none 0 0)])] true [.ag [.sl,.sl,.b],.sc (.i .i64)] fun r66=>
 New #[(.slice none 0 0),(.slice none 0 0),(.bool false)] 52 fun a67=>
 St (a67.add 0) (.slice r66.1.1.p r66.1.1.len r66.1.1.cap) <|
 St (a67.add 1) (.slice r66.1.2.1.p r66.1.2.1.len r66.1.2.1.cap) <|
 St (a67.add 2) (.bool r66.1.2.2.1) <|
 Jp (σ:=Bool × Unit) (fun s69=>
 Br s69.1 (
 R (false,())) (
 Dr <|
 LdL (a2.add 0) fun x70=>
 LdL (a67.add 1) fun x71=>
 Cl Pg 12 [(.slice x70.p x70.len x70.cap),(.slice x71.p x71.len x71.cap)] true [.sc .sl,.sc .sl,.sc (.i .i64)] fun r72=>
 St (a2.add 0) (.slice r72.1.p r72.1.len r72.1.cap) <|
 L58 (s63.1,(w64 (s59.2.1 + 1)),()))) fun J68=>
 Br ((r66.2.1:Int) != 0) (
 J68 (true,())) (
 LdL (a67.add 0) fun x73=>
 Br ((((x73.len:Nat):Int):Int) == 0) (
 J68 (true,())) (
 LdL (a67.add 0) fun x74=>
 Ix x74 0 21 fun a75=>
 LdI .i64 (a75.add 0) fun x76=>
 J68 (((x76:Int) != 6),())))) fun J64=>
 Br (decide ((((p_flags.len:Nat):Int):Int) > 0)) (
 Req (((p_flags.len:Nat):Int) ≠ (0:Int)) <|
 Ix p_flags ((s59.2.1:Int).tmod ((p_flags.len:Nat):Int)) 1 fun a77=>
 LdB a77 fun x78=>
 J64 (x78,())) (
 J64 (false,()))) fun J62=>
 LdL (a61.add 6) fun x79=>
 Br (decide ((((x79.len:Nat):Int):Int) > 0)) (
 LdL (a61.add 6) fun x80=>
 Ix x80 0 2 fun a81=>
 LdI .u64 (a81.add 0) fun x82=>
 J62 (s59.1,x82,())) (
 Cl Pg 16 [(.pointer r4.1)] false [.sc .sl] fun r83=>
 Br (decide ((((r83.1.len:Nat):Int):Int) > 0)) (
 Ix r83.1 0 1 fun a84=>
 LdI .u64 a84 fun x85=>
 J62 (s59.1,x85,())) (
 Br r1.1 (
 Cl Pg 17 [(.pointer r4.1)] false [.sc .b] fun r86=>
 R (r86.1,())) (
 R (false,()))))) (
 R (false,()))) (false,0,()))) (0,()))) fun J5=>
 Br (Option.isNone r4.1) (
 J5 (true,())) (
 Br ((r4.2.1:Int) != 0) (
 J5 (true,())) (
 J5 ((decide ((((p_l.len:Nat):Int):Int) > 80)),())))
theorem sumpterlaw20_PartRest_call (p_l:Sl) (p_flags:Sl) {R:TR [.sc .b]→Pr} {w:World} (h:sumpterlaw20_PartRest p_l p_flags R w):Cl Pg 5 [(.slice p_l.p p_l.len p_l.cap),(.slice p_flags.p p_flags.len p_flags.cap)] false [.sc .b] R w:=
 call_eq Tryz.checked.mixed (.seq .leaf (.seq .leaf (.seq .leaf (.seq .leaf (.seq (.seq (.join [(38,.sc .b)] .leaf) (.cond (.seq .leaf .leaf) .leaf)) (.seq (.seq .leaf (.block (.loop [(46,.sc (.i .i64))] (.seq .leaf (.seq (.cond .leaf .leaf) (.seq (.join [] (.block (.seq .leaf (.seq .leaf (.cond .leaf .leaf))))) .leaf)))))) (.seq (.seq .leaf (.block (.loop [(4,.sc .b),(59,.sc (.i .i64))] (.seq .leaf (.seq (.cond .leaf .leaf) (.seq (.block (.seq .leaf (.seq .leaf (.seq .leaf (.seq (.join [(4,.sc .b),(13,.sc (.i .u64))] (.seq .leaf (.cond .leaf (.seq .leaf (.seq .leaf (.cond .leaf (.seq .leaf .leaf))))))) (.seq (.join [(15,.sc .b)] .leaf) (.seq .leaf (.seq (.seq (.join [(121,.sc .b)] .leaf) (.cond (.seq .leaf .leaf) .leaf)) .leaf)))))))) .leaf)))))) (.seq .leaf .leaf)))))))) Tryz.func5 (by kernel_rfl) (by kernel_rfl) h
abbrev i_sumpterlaw20_live:FuncId:=8
def sumpterlaw20_live  (R:TR [.sc .b]→Pr):Pr:=
 Cl Pg 10 [] false [.ag [(.i .i64),(.i .u64),(.i .u64),(.i .u64),(.i .u64),.sl,.sl,.sl,(.i .u64),(.i .u64),.s,.s,(.i .u64),(.i .u64),(.i .u64),.s,.s]] fun r1=>
 New #[(.slice none 0 0)] 27 fun a2=>
 Cl Pg 9 [(.agg #[(.int .i64 r1.1.1),(.int .u64 r1.1.2.1),(.int .u64 r1.1.2.2.1),(.int .u64 r1.1.2.2.2.1),(.int .u64 r1.1.2.2.2.2.1),(.slice r1.1.2.2.2.2.2.1.p r1.1.2.2.2.2.2.1.len r1.1.2.2.2.2.2.1.cap),(.slice r1.1.2.2.2.2.2.2.1.p r1.1.2.2.2.2.2.2.1.len r1.1.2.2.2.2.2.2.1.cap),(.slice r1.1.2.2.2.2.2.2.2.1.p r1.1.2.2.2.2.2.2.2.1.len r1.1.2.2.2.2.2.2.2.1.cap),(.int .u64 r1.1.2.2.2.2.2.2.2.2.1),(.int .u64 r1.1.2.2.2.2.2.2.2.2.2.1),(.string r1.1.2.2.2.2.2.2.2.2.2.2.1),(.string r1.1.2.2.2.2.2.2.2.2.2.2.2.1),(.int .u64 r1.1.2.2.2.2.2.2.2.2.2.2.2.2.1),(.int .u64 r1.1.2.2.2.2.2.2.2.2.2.2.2.2.2.1),(.int .u64 r1.1.2.2.2.2.2.2.2.2.2.2.2.2.2.2.1),(.string r1.1.2.2.2.2.2.2.2.2.2.2.2.2.2.2.2.1),(.string r1.1.2.2.2.2.2.2.2.2.2.2.2.2.2.2.2.2.1)]),(.iface 24 (.pointer (some a2)))] true [.sc .p,.sc (.i .i64)] fun r3=>
 Jp (σ:=Bool × Unit) (fun s5=>
 Br s5.1 (
 R (false,())) (
 Cl Pg 24 [(.int .u64 5),(.agg #[(.int .i64 2),(.string (BA [97])),(.string (BA [120])),(.string (BA [])),(.string (BA [])),(.int .i64 0)])] false [.ag [(.i .i64),(.i .i64),(.i .i64),(.i .i64),(.i .i64),(.i .i64),(.i .u64),(.i .u64),(.i .u64),(.i .u64),(.i .u64),(.i .u64),(.i .u64),(.i .u64),(.i .u64),.b,.s,.s,.sl,.sl,.sl]] fun r6=>
 Cl Pg 11 [(.pointer r3.1),(.agg #[(.int .i64 r6.1.1),(.int .i64 r6.1.2.1),(.int .i64 r6.1.2.2.1),(.int .i64 r6.1.2.2.2.1),(.int .i64 r6.1.2.2.2.2.1),(.int .i64 r6.1.2.2.2.2.2.1),(.int .u64 r6.1.2.2.2.2.2.2.1),(.int .u64 r6.1.2.2.2.2.2.2.2.1),(.int .u64 r6.1.2.2.2.2.2.2.2.2.1),(.int .u64 r6.1.2.2.2.2.2.2.2.2.2.1),(.int .u64 r6.1.2.2.2.2.2.2.2.2.2.2.1),(.int .u64 r6.1.2.2.2.2.2.2.2.2.2.2.2.1),(.int .u64 r6.1.2.2.2.2.2.2.2.2.2.2.2.2.1),(.int .u64 r6.1.2.2.2.2.2.2.2.2.2.2.2.2.2.1),(.int .u64 r6.1.2.2.2.2.2.2.2.2.2.2.2.2.2.2.1),(.bool r6.1.2.2.2.2.2.2.2.2.2.2.2.2.2.2.2.1),(.string r6.1.2.2.2.2.2.2.2.2.2.2.2.2.2.2.2.2.1),(.string r6.1.2.2.2.2.2.2.2.2.2.2.2.2.2.2.2.2.2.1),(.slice r6.1.2.2.2.2.2.2.2.2.2.2.2.2.2.2.2.2.2.2.1.p r6.1.2.2.2.2.2.2.2.2.2.2.2.2.2.2.2.2.2.2.1.len r6.1.2.2.2.2.2.2.2.2.2.2.2.2.2.2.2.2.2.2.1.cap),(.slice r6.1.2.2.2.2.2.2.2.2.2.2.2.2.2.2.2.2.2.2.2.1.p r6.1.2.2.2.2.2.2.2.2.2.2.2.2.2.2.2.2.2.2.2.1.len r6.1.2.2.2.2.2.2.2.2.2.2.2.2.2.2.2.2.2.2.2.1.cap),(.slice r6.1.2.2.2.2.2.2.2.2.2.2.2.2.2.2.2.2.2.2.2.2.1.p r6.1.2.2.2.2.2.2.2.2.2.2.2.2.2.2.2.2.2.2.2.2.1.len r6.1.2.2.2.2.2.2.2.2.2.2.2.2.2.2.2.2.2.2.2.2.1.cap)])] true [.ag [.sl,.sl,.b],.sc (.i .i64)] fun r7=>
 New #[(.slice none 0 0),(.slice none 0 0),(.bool false)] 52 fun a8=>
 St (a8.add 0) (.slice r7.1.1.p r7.1.1.len r7.1.1.cap) <|
 St (a8.add 1) (.slice r7.1.2.1.p r7.1.2.1.len r7.1.2.1.cap) <|
 St (a8.add 2) (.bool r7.1.2.2.1) <|
 Cl Pg 24 [(.int .u64 6),(.agg #[(.int .i64 1),(.string (BA [97])),(.string (BA [])),(.string (BA [])),(.string (BA [])),(.int .i64 0)])] false [.ag [(.i .i64),(.i .i64),(.i .i64),(.i .i64),(.i .i64),(.i .i64),(.i .u64),(.i .u64),(.i .u64),(.i .u64),(.i .u64),(.i .u64),(.i .u64),(.i .u64),(.i .u64),.b,.s,.s,.sl,.sl,.sl]] fun r9=>
 Cl Pg 11 [(.pointer r3.1),(.agg #[(.int .i64 r9.1.1),(.int .i64 r9.1.2.1),(.int .i64 r9.1.2.2.1),(.int .i64 r9.1.2.2.2.1),(.int .i64 r9.1.2.2.2.2.1),(.int .i64 r9.1.2.2.2.2.2.1),(.int .u64 r9.1.2.2.2.2.2.2.1),(.int .u64 r9.1.2.2.2.2.2.2.2.1),(.int .u64 r9.1.2.2.2.2.2.2.2.2.1),(.int .u64 r9.1.2.2.2.2.2.2.2.2.2.1),(.int .u64 r9.1.2.2.2.2.2.2.2.2.2.2.1),(.int .u64 r9.1.2.2.2.2.2.2.2.2.2.2.2.1),(.int .u64 r9.1.2.2.2.2.2.2.2.2.2.2.2.2.1),(.int .u64 r9.1.2.2.2.2.2.2.2.2.2.2.2.2.2.1),(.int .u64 r9.1.2.2.2.2.2.2.2.2.2.2.2.2.2.2.1),(.bool r9.1.2.2.2.2.2.2.2.2.2.2.2.2.2.2.2.1),(.string r9.1.2.2.2.2.2.2.2.2.2.2.2.2.2.2.2.2.1),(.string r9.1.2.2.2.2.2.2.2.2.2.2.2.2.2.2.2.2.2.1),(.slice r9.1.2.2.2.2.2.2.2.2.2.2.2.2.2.2.2.2.2.2.1.p r9.1.2.2.2.2.2.2.2.2.2.2.2.2.2.2.2.2.2.2.1.len r9.1.2.2.2.2.2.2.2.2.2.2.2.2.2.2.2.2.2.2.1.cap),(.slice r9.1.2.2.2.2.2.2.2.2.2.2.2.2.2.2.2.2.2.2.2.1.p r9.1.2.2.2.2.2.2.2.2.2.2.2.2.2.2.2.2.2.2.2.1.len r9.1.2.2.2.2.2.2.2.2.2.2.2.2.2.2.2.2.2.2.2.1.cap),(.slice r9.1.2.2.2.2.2.2.2.2.2.2.2.2.2.2.2.2.2.2.2.2.1.p r9.1.2.2.2.2.2.2.2.2.2.2.2.2.2.2.2.2.2.2.2.2.1.len r9.1.2.2.2.2.2.2.2.2.2.2.2.2.2.2.2.2.2.2.2.2.1.cap)])] true [.ag [.sl,.sl,.b],.sc (.i .i64)] fun r10=>
 New #[(.slice none 0 0),(.slice none 0 0),(.bool false)] 52 fun a11=>
 St (a11.add 0) (.slice r10.1.1.p r10.1.1.len r10.1.1.cap) <|
 St (a11.add 1) (.slice r10.1.2.1.p r10.1.2.1.len r10.1.2.1.cap) <|
 St (a11.add 2) (.bool r10.1.2.2.1) <|
 Cl Pg 24 [(.int .u64 4),(.agg #[(.int .i64 1),(.string (BA [97])),(.string (BA [])),(.string (BA [])),(.string (BA [])),(.int .i64 0)])] false [.ag [(.i .i64),(.i .i64),(.i .i64),(.i .i64),(.i .i64),(.i .i64),(.i .u64),(.i .u64),(.i .u64),(.i .u64),(.i .u64),(.i .u64),(.i .u64),(.i .u64),(.i .u64),.b,.s,.s,.sl,.sl,.sl]] fun r12=>
 Cl Pg 11 [(.pointer r3.1),(.agg #[(.int .i64 r12.1.1),(.int .i64 r12.1.2.1),(.int .i64 r12.1.2.2.1),(.int .i64 r12.1.2.2.2.1),(.int .i64 r12.1.2.2.2.2.1),(.int .i64 r12.1.2.2.2.2.2.1),(.int .u64 r12.1.2.2.2.2.2.2.1),(.int .u64 r12.1.2.2.2.2.2.2.2.1),(.int .u64 r12.1.2.2.2.2.2.2.2.2.1),(.int .u64 r12.1.2.2.2.2.2.2.2.2.2.1),(.int .u64 r12.1.2.2.2.2.2.2.2.2.2.2.1),(.int .u64 r12.1.2.2.2.2.2.2.2.2.2.2.2.1),(.int .u64 r12.1.2.2.2.2.2.2.2.2.2.2.2.2.1),(.int .u64 r12.1.2.2.2.2.2.2.2.2.2.2.2.2.2.1),(.int .u64 r12.1.2.2.2.2.2.2.2.2.2.2.2.2.2.2.1),(.bool r12.1.2.2.2.2.2.2.2.2.2.2.2.2.2.2.2.1),(.string r12.1.2.2.2.2.2.2.2.2.2.2.2.2.2.2.2.2.1),(.string r12.1.2.2.2.2.2.2.2.2.2.2.2.2.2.2.2.2.2.1),(.slice r12.1.2.2.2.2.2.2.2.2.2.2.2.2.2.2.2.2.2.2.1.p r12.1.2.2.2.2.2.2.2.2.2.2.2.2.2.2.2.2.2.2.1.len r12.1.2.2.2.2.2.2.2.2.2.2.2.2.2.2.2.2.2.2.1.cap),(.slice r12.1.2.2.2.2.2.2.2.2.2.2.2.2.2.2.2.2.2.2.2.1.p r12.1.2.2.2.2.2.2.2.2.2.2.2.2.2.2.2.2.2.2.2.1.len r12.1.2.2.2.2.2.2.2.2.2.2.2.2.2.2.2.2.2.2.2.1.cap),(.slice r12.1.2.2.2.2.2.2.2.2.2.2.2.2.2.2.2.2.2.2.2.2.1.p r12.1.2.2.2.2.2.2.2.2.2.2.2.2.2.2.2.2.2.2.2.2.1.len r12.1.2.2.2.2.2.2.2.2.2.2.2.2.2.2.2.2.2.2.2.2.1.cap)])] true [.ag [.sl,.sl,.b],.sc (.i .i64)] fun r13=>
 New #[(.slice none 0 0),(.slice none 0 0),(.bool false)] 52 fun a14=>
 St (a14.add 0) (.slice r13.1.1.p r13.1.1.len r13.1.1.cap) <|
 St (a14.add 1) (.slice r13.1.2.1.p r13.1.2.1.len r13.1.2.1.cap) <|
 St (a14.add 2) (.bool r13.1.2.2.1) <|
 Cl Pg 16 [(.pointer r3.1)] false [.sc .sl] fun r15=>
 Cl Pg 11 [(.pointer r3.1),(.agg #[(.int .i64 5),(.int .i64 0),(.int .i64 1),(.int .i64 0),(.int .i64 0),(.int .i64 0),(.int .u64 0),(.int .u64 0),(.int .u64 5),(.int .u64 0),(.int .u64 0),(.int .u64 0),(.int .u64 0),(.int .u64 0),(.int .u64 0),(.bool true),(.string (BA [])),(.string (BA [])),(.slice none 0 0),(.slice none 0 0),(.slice none 0 0)])] true [.ag [.sl,.sl,.b],.sc (.i .i64)] fun r16=>
 New #[(.slice none 0 0),(.slice none 0 0),(.bool false)] 52 fun a17=>
 St (a17.add 0) (.slice r16.1.1.p r16.1.1.len r16.1.1.cap) <|
 St (a17.add 1) (.slice r16.1.2.1.p r16.1.2.1.len r16.1.2.1.cap) <|
 St (a17.add 2) (.bool r16.1.2.2.1) <|
 Cl Pg 24 [(.int .u64 7),(.agg #[(.int .i64 2),(.string (BA [122])),(.string (BA [])),(.string (BA [])),(.string (BA [])),(.int .i64 0)])] false [.ag [(.i .i64),(.i .i64),(.i .i64),(.i .i64),(.i .i64),(.i .i64),(.i .u64),(.i .u64),(.i .u64),(.i .u64),(.i .u64),(.i .u64),(.i .u64),(.i .u64),(.i .u64),.b,.s,.s,.sl,.sl,.sl]] fun r18=>
 Cl Pg 11 [(.pointer r3.1),(.agg #[(.int .i64 r18.1.1),(.int .i64 r18.1.2.1),(.int .i64 r18.1.2.2.1),(.int .i64 r18.1.2.2.2.1),(.int .i64 r18.1.2.2.2.2.1),(.int .i64 r18.1.2.2.2.2.2.1),(.int .u64 r18.1.2.2.2.2.2.2.1),(.int .u64 r18.1.2.2.2.2.2.2.2.1),(.int .u64 r18.1.2.2.2.2.2.2.2.2.1),(.int .u64 r18.1.2.2.2.2.2.2.2.2.2.1),(.int .u64 r18.1.2.2.2.2.2.2.2.2.2.2.1),(.int .u64 r18.1.2.2.2.2.2.2.2.2.2.2.2.1),(.int .u64 r18.1.2.2.2.2.2.2.2.2.2.2.2.2.1),(.int .u64 r18.1.2.2.2.2.2.2.2.2.2.2.2.2.2.1),(.int .u64 r18.1.2.2.2.2.2.2.2.2.2.2.2.2.2.2.1),(.bool r18.1.2.2.2.2.2.2.2.2.2.2.2.2.2.2.2.1),(.string r18.1.2.2.2.2.2.2.2.2.2.2.2.2.2.2.2.2.1),(.string r18.1.2.2.2.2.2.2.2.2.2.2.2.2.2.2.2.2.2.1),(.slice r18.1.2.2.2.2.2.2.2.2.2.2.2.2.2.2.2.2.2.2.1.p r18.1.2.2.2.2.2.2.2.2.2.2.2.2.2.2.2.2.2.2.1.len r18.1.2.2.2.2.2.2.2.2.2.2.2.2.2.2.2.2.2.2.1.cap),(.slice r18.1.2.2.2.2.2.2.2.2.2.2.2.2.2.2.2.2.2.2.2.1.p r18.1.2.2.2.2.2.2.2.2.2.2.2.2.2.2.2.2.2.2.2.1.len r18.1.2.2.2.2.2.2.2.2.2.2.2.2.2.2.2.2.2.2.2.1.cap),(.slice r18.1.2.2.2.2.2.2.2.2.2.2.2.2.2.2.2.2.2.2.2.2.1.p r18.1.2.2.2.2.2.2.2.2.2.2.2.2.2.2.2.2.2.2.2.2.1.len r18.1.2.2.2.2.2.2.2.2.2.2.2.2.2.2.2.2.2.2.2.2.1.cap)])] true [.ag [.sl,.sl,.b],.sc (.i .i64)] fun r19=>
 New #[(.slice none 0 0),(.slice none 0 0),(.bool false)] 52 fun a20=>
 St (a20.add 0) (.slice r19.1.1.p r19.1.1.len r19.1.1.cap) <|
 St (a20.add 1) (.slice r19.1.2.1.p r19.1.2.1.len r19.1.2.1.cap) <|
 St (a20.add 2) (.bool r19.1.2.2.1) <|
 Cl Pg 11 [(.pointer r3.1),(.agg #[(.int .i64 6),(.int .i64 1),(.int .i64 0),(.int .i64 0),(.int .i64 0),(.int .i64 0),(.int .u64 0),(.int .u64 0),(.int .u64 0),(.int .u64 0),(.int .u64 0),(.int .u64 0),(.int .u64 0),(.int .u64 0),(.int .u64 0),(.bool false),(.string (BA [])),(.string (BA [])),(.slice none 0 0),(.slice none 0 0),(.slice none 0 0)])] true [.ag [.sl,.sl,.b],.sc (.i .i64)] fun r21=>
 New #[(.slice none 0 0),(.slice none 0 0),(.bool false)] 52 fun a22=>
 St (a22.add 0) (.slice r21.1.1.p r21.1.1.len r21.1.1.cap) <|
 St (a22.add 1) (.slice r21.1.2.1.p r21.1.2.1.len r21.1.2.1.cap) <|
 St (a22.add 2) (.bool r21.1.2.2.1) <|
 Cl Pg 14 [(.pointer r3.1)] false [.ag [(.i .i64),(.i .u64),(.i .u64),(.i .u64),(.i .u64),.sl,.sl,.sl,(.i .u64),(.i .u64),.s,.s,(.i .u64),(.i .u64),(.i .u64),.s,.s]] fun r23=>
 New #[(.int .i64 0),(.int .u64 0),(.int .u64 0),(.int .u64 0),(.int .u64 0),(.slice none 0 0),(.slice none 0 0),(.slice none 0 0),(.int .u64 0),(.int .u64 0),(.string (BA [])),(.string (BA [])),(.int .u64 0),(.int .u64 0),(.int .u64 0),(.string (BA [])),(.string (BA []))] 41 fun a24=>
 St (a24.add 0) (.int .i64 r23.1.1) <|
 St (a24.add 1) (.int .u64 r23.1.2.1) <|
 St (a24.add 2) (.int .u64 r23.1.2.2.1) <|
 St (a24.add 3) (.int .u64 r23.1.2.2.2.1) <|
 St (a24.add 4) (.int .u64 r23.1.2.2.2.2.1) <|
 St (a24.add 5) (.slice r23.1.2.2.2.2.2.1.p r23.1.2.2.2.2.2.1.len r23.1.2.2.2.2.2.1.cap) <|
 St (a24.add 6) (.slice r23.1.2.2.2.2.2.2.1.p r23.1.2.2.2.2.2.2.1.len r23.1.2.2.2.2.2.2.1.cap) <|
 St (a24.add 7) (.slice r23.1.2.2.2.2.2.2.2.1.p r23.1.2.2.2.2.2.2.2.1.len r23.1.2.2.2.2.2.2.2.1.cap) <|
 St (a24.add 8) (.int .u64 r23.1.2.2.2.2.2.2.2.2.1) <|
 St (a24.add 9) (.int .u64 r23.1.2.2.2.2.2.2.2.2.2.1) <|
 St (a24.add 10) (.string r23.1.2.2.2.2.2.2.2.2.2.2.1) <|
 St (a24.add 11) (.string r23.1.2.2.2.2.2.2.2.2.2.2.2.1) <|
 St (a24.add 12) (.int .u64 r23.1.2.2.2.2.2.2.2.2.2.2.2.2.1) <|
 St (a24.add 13) (.int .u64 r23.1.2.2.2.2.2.2.2.2.2.2.2.2.2.1) <|
 St (a24.add 14) (.int .u64 r23.1.2.2.2.2.2.2.2.2.2.2.2.2.2.2.1) <|
 St (a24.add 15) (.string r23.1.2.2.2.2.2.2.2.2.2.2.2.2.2.2.2.1) <|
 St (a24.add 16) (.string r23.1.2.2.2.2.2.2.2.2.2.2.2.2.2.2.2.2.1) <|
 LdL (a8.add 0) fun x25=>
 Br ((((x25.len:Nat):Int):Int) == 1) (
 LdL (a8.add 0) fun x26=>
 Ix x26 0 21 fun a27=>
 LdI .i64 (a27.add 4) fun x28=>
 Br ((x28:Int) == 3) (
 LdB (a8.add 2) fun x29=>
 Br x29 (
 LdL (a11.add 0) fun x30=>
 Br ((((x30.len:Nat):Int):Int) == 1) (
 LdL (a11.add 0) fun x31=>
 Ix x31 0 21 fun a32=>
 LdI .i64 (a32.add 4) fun x33=>
 Br ((x33:Int) == 5) (
 LdL (a14.add 0) fun x34=>
 Br ((((x34.len:Nat):Int):Int) == 0) (
 Br ((((r15.1.len:Nat):Int):Int) == 1) (
 LdL (a17.add 1) fun x35=>
 Br ((((x35.len:Nat):Int):Int) == 1) (
 LdL (a17.add 0) fun x36=>
 Br ((((x36.len:Nat):Int):Int) == 2) (
 LdL (a17.add 0) fun x37=>
 Ix x37 0 21 fun a38=>
 LdI .i64 (a38.add 0) fun x39=>
 Br ((x39:Int) == 6) (
 LdL (a17.add 0) fun x40=>
 Ix x40 1 21 fun a41=>
 LdI .u64 (a41.add 8) fun x42=>
 Br ((x42:Int) == 4) (
 LdL (a17.add 0) fun x43=>
 Ix x43 1 21 fun a44=>
 LdL (a44.add 19) fun x45=>
 Br ((((x45.len:Nat):Int):Int) == 1) (
 LdL (a17.add 0) fun x46=>
 Ix x46 1 21 fun a47=>
 LdL (a47.add 19) fun x48=>
 Ix x48 0 3 fun a49=>
 LdS (a49.add 1) fun x50=>
 Br (seq x50 (BA [120])) (
 LdL (a20.add 0) fun x51=>
 Br ((((x51.len:Nat):Int):Int) == 1) (
 LdL (a20.add 0) fun x52=>
 Ix x52 0 21 fun a53=>
 LdI .i64 (a53.add 4) fun x54=>
 Br ((x54:Int) == 4) (
 Br ((r21.2.1:Int) == 180) (
 LdL (a24.add 6) fun x55=>
 Br ((((x55.len:Nat):Int):Int) == 1) (
 LdI .u64 (a24.add 1) fun x56=>
 R (((x56:Int) == 1),())) (
 R (false,()))) (
 R (false,()))) (
 R (false,()))) (
 R (false,()))) (
 R (false,()))) (
 R (false,()))) (
 R (false,()))) (
 R (false,()))) (
 R (false,()))) (
 R (false,()))) (
 R (false,()))) (
 R (false,()))) (
 R (false,()))) (
 R (false,()))) (
 R (false,()))) (
 R (false,()))) (
 R (false,())))) fun J4=>
 Br (Option.isNone r3.1) (
 J4 (true,())) (
 J4 (((r3.2.1:Int) != 0),()))
theorem sumpterlaw20_live_call  {R:TR [.sc .b]→Pr} {w:World} (h:sumpterlaw20_live  R w):Cl Pg 8 [] false [.sc .b] R w:=
 call_eq Tryz.checked.mixed (.seq .leaf (.seq .leaf (.seq (.seq (.join [(30,.sc .b)] .leaf) (.cond (.seq .leaf .leaf) .leaf)) (.seq .leaf (.seq .leaf (.seq .leaf (.seq .leaf (.seq .leaf (.seq .leaf (.seq .leaf (.seq .leaf (.seq .leaf .leaf)))))))))))) Tryz.func8 (by kernel_rfl) (by kernel_rfl) h
abbrev i_part_New:FuncId:=9
def part_New (p_s_0:Int) (p_s_1:Int) (p_s_2:Int) (p_s_3:Int) (p_s_4:Int) (p_s_5:Sl) (p_s_6:Sl) (p_s_7:Sl) (p_s_8:Int) (p_s_9:Int) (p_s_10:ByteArray) (p_s_11:ByteArray) (p_s_12:Int) (p_s_13:Int) (p_s_14:Int) (p_s_15:ByteArray) (p_s_16:ByteArray) (p_st:Value) (R:TR [.sc .p,.sc (.i .i64)]→Pr):Pr:=
 New #[(.int .i64 p_s_0),(.int .u64 p_s_1),(.int .u64 p_s_2),(.int .u64 p_s_3),(.int .u64 p_s_4),(.slice p_s_5.p p_s_5.len p_s_5.cap),(.slice p_s_6.p p_s_6.len p_s_6.cap),(.slice p_s_7.p p_s_7.len p_s_7.cap),(.int .u64 p_s_8),(.int .u64 p_s_9),(.string p_s_10),(.string p_s_11),(.int .u64 p_s_12),(.int .u64 p_s_13),(.int .u64 p_s_14),(.string p_s_15),(.string p_s_16)] 41 fun a1=>
 LdI .i64 (a1.add 0) fun x2=>
 LdI .u64 (a1.add 1) fun x3=>
 LdI .u64 (a1.add 2) fun x4=>
 LdI .u64 (a1.add 3) fun x5=>
 LdI .u64 (a1.add 4) fun x6=>
 LdL (a1.add 5) fun x7=>
 LdL (a1.add 6) fun x8=>
 LdL (a1.add 7) fun x9=>
 LdI .u64 (a1.add 8) fun x10=>
 LdI .u64 (a1.add 9) fun x11=>
 LdS (a1.add 10) fun x12=>
 LdS (a1.add 11) fun x13=>
 LdI .u64 (a1.add 12) fun x14=>
 LdI .u64 (a1.add 13) fun x15=>
 LdI .u64 (a1.add 14) fun x16=>
 LdS (a1.add 15) fun x17=>
 LdS (a1.add 16) fun x18=>
 Cl Pg 25 [(.agg #[(.int .i64 x2),(.int .u64 x3),(.int .u64 x4),(.int .u64 x5),(.int .u64 x6),(.slice x7.p x7.len x7.cap),(.slice x8.p x8.len x8.cap),(.slice x9.p x9.len x9.cap),(.int .u64 x10),(.int .u64 x11),(.string x12),(.string x13),(.int .u64 x14),(.int .u64 x15),(.int .u64 x16),(.string x17),(.string x18)])] false [.sc (.i .i64)] fun r19=>
 Br ((r19.1:Int) != 0) (
 R (none,r19.1,())) (
 NilI p_st fun b20=>
 Br b20 (
 R (none,1,())) (
 LdI .i64 (a1.add 0) fun x21=>
 LdI .u64 (a1.add 1) fun x22=>
 LdI .u64 (a1.add 2) fun x23=>
 LdI .u64 (a1.add 3) fun x24=>
 LdI .u64 (a1.add 4) fun x25=>
 LdL (a1.add 5) fun x26=>
 LdL (a1.add 6) fun x27=>
 LdL (a1.add 7) fun x28=>
 LdI .u64 (a1.add 8) fun x29=>
 LdI .u64 (a1.add 9) fun x30=>
 LdS (a1.add 10) fun x31=>
 LdS (a1.add 11) fun x32=>
 LdI .u64 (a1.add 12) fun x33=>
 LdI .u64 (a1.add 13) fun x34=>
 LdI .u64 (a1.add 14) fun x35=>
 LdS (a1.add 15) fun x36=>
 LdS (a1.add 16) fun x37=>
 Cl Pg 26 [(.agg #[(.int .i64 x21),(.int .u64 x22),(.int .u64 x23),(.int .u64 x24),(.int .u64 x25),(.slice x26.p x26.len x26.cap),(.slice x27.p x27.len x27.cap),(.slice x28.p x28.len x28.cap),(.int .u64 x29),(.int .u64 x30),(.string x31),(.string x32),(.int .u64 x33),(.int .u64 x34),(.int .u64 x35),(.string x36),(.string x37)])] false [.ag [(.i .i64),(.i .u64),(.i .u64),(.i .u64),(.i .u64),.sl,.sl,.sl,(.i .u64),(.i .u64),.s,.s,(.i .u64),(.i .u64),(.i .u64),.s,.s]] fun r38=>
 Cl Pg 27 [] false [.sc .p] fun r39=>
 Req ((p_st:Value).oneCell'=true) <|
 New #[(.int .i64 r38.1.1),(.int .u64 r38.1.2.1),(.int .u64 r38.1.2.2.1),(.int .u64 r38.1.2.2.2.1),(.int .u64 r38.1.2.2.2.2.1),(.slice r38.1.2.2.2.2.2.1.p r38.1.2.2.2.2.2.1.len r38.1.2.2.2.2.2.1.cap),(.slice r38.1.2.2.2.2.2.2.1.p r38.1.2.2.2.2.2.2.1.len r38.1.2.2.2.2.2.2.1.cap),(.slice r38.1.2.2.2.2.2.2.2.1.p r38.1.2.2.2.2.2.2.2.1.len r38.1.2.2.2.2.2.2.2.1.cap),(.int .u64 r38.1.2.2.2.2.2.2.2.2.1),(.int .u64 r38.1.2.2.2.2.2.2.2.2.2.1),(.string r38.1.2.2.2.2.2.2.2.2.2.2.1),(.string r38.1.2.2.2.2.2.2.2.2.2.2.2.1),(.int .u64 r38.1.2.2.2.2.2.2.2.2.2.2.2.2.1),(.int .u64 r38.1.2.2.2.2.2.2.2.2.2.2.2.2.2.1),(.int .u64 r38.1.2.2.2.2.2.2.2.2.2.2.2.2.2.2.1),(.string r38.1.2.2.2.2.2.2.2.2.2.2.2.2.2.2.2.1),(.string r38.1.2.2.2.2.2.2.2.2.2.2.2.2.2.2.2.2.1),(.slice none 0 0),(.pointer r39.1),(.pointer none),p_st,(.slice none 0 0),(.slice none 0 0),(.bool false),(.slice none 0 0),(.int .i64 0)] 94 fun a40=>
 LdI .u64 ((a40.add 0).add 1) fun x41=>
 St ((a40.add 0).add 1) (.int .u64 (IntKind.u64.wrap (x41 + 1))) <|
 LdL ((a40.add 0).add 6) fun x42=>
 Lp (σ:=Option Addr × Int × Int × Unit) (fun L43 s44=>
 Br (decide ((s44.2.2.1:Int) < ((x42.len:Nat):Int))) (
 Ix x42 s44.2.2.1 2 fun a45=>
 LdI .u64 (a45.add 0) fun x46=>
 LdL (a45.add 1) fun x47=>
 New #[(.int .u64 0),(.slice none 0 0)] 60 fun a48=>
 St (a48.add 0) (.int .u64 x46) <|
 St (a48.add 1) (.slice x47.p x47.len x47.cap) <|
 LdL (a48.add 1) fun x49=>
 Cl Pg 28 [(.slice x49.p x49.len x49.cap)] true [.sc .sl,.sc (.i .i64)] fun r50=>
 Lp (σ:=Option Addr × Int × Int × Unit) (fun L51 s52=>
 Br (decide ((s52.2.2.1:Int) < ((r50.1.len:Nat):Int))) (
 Ix r50.1 s52.2.2.1 3 fun a53=>
 LdS (a53.add 0) fun x54=>
 LdS (a53.add 1) fun x55=>
 LdB (a53.add 2) fun x56=>
 New #[(.string (BA [])),(.string (BA [])),(.bool false)] 99 fun a57=>
 St (a57.add 0) (.string x54) <|
 St (a57.add 1) (.string x55) <|
 St (a57.add 2) (.bool x56) <|
 Dr <|
 LdP (a40.add 18) fun x58=>
 LdI .u64 (a48.add 0) fun x59=>
 LdS (a57.add 0) fun x60=>
 LdS (a57.add 1) fun x61=>
 LdB (a57.add 2) fun x62=>
 Cl Pg 29 [(.pointer x58),(.int .u64 x59),(.agg #[(.string x60),(.string x61),(.bool x62)])] true [.sc (.i .i64),.sc .sl,.sc .sl,.sc (.i .i64)] fun r63=>
 Jp (σ:=Bool × Unit) (fun s65=>
 Br s65.1 (
 R (none,1,())) (
 L51 (s52.1,s52.2.1,(w64 (s52.2.2.1 + 1)),()))) fun J64=>
 Br ((r63.2.2.2.1:Int) != 0) (
 J64 (true,())) (
 J64 (((r63.1:Int) != 1),()))) (
 L43 (s52.1,s52.2.1,(w64 (s44.2.2.1 + 1)),()))) (s44.1,s44.2.1,0,())) (
 R ((some a40),0,()))) (none,0,0,())))
theorem part_New_call (p_s_0:Int) (p_s_1:Int) (p_s_2:Int) (p_s_3:Int) (p_s_4:Int) (p_s_5:Sl) (p_s_6:Sl) (p_s_7:Sl) (p_s_8:Int) (p_s_9:Int) (p_s_10:ByteArray) (p_s_11:ByteArray) (p_s_12:Int) (p_s_13:Int) (p_s_14:Int) (p_s_15:ByteArray) (p_s_16:ByteArray) (p_st:Value) {R:TR [.sc .p,.sc (.i .i64)]→Pr} {w:World} (h:part_New p_s_0 p_s_1 p_s_2 p_s_3 p_s_4 p_s_5 p_s_6 p_s_7 p_s_8 p_s_9 p_s_10 p_s_11 p_s_12 p_s_13 p_s_14 p_s_15 p_s_16 p_st R w):Cl Pg 9 [(.agg #[(.int .i64 p_s_0),(.int .u64 p_s_1),(.int .u64 p_s_2),(.int .u64 p_s_3),(.int .u64 p_s_4),(.slice p_s_5.p p_s_5.len p_s_5.cap),(.slice p_s_6.p p_s_6.len p_s_6.cap),(.slice p_s_7.p p_s_7.len p_s_7.cap),(.int .u64 p_s_8),(.int .u64 p_s_9),(.string p_s_10),(.string p_s_11),(.int .u64 p_s_12),(.int .u64 p_s_13),(.int .u64 p_s_14),(.string p_s_15),(.string p_s_16)]),p_st] true [.sc .p,.sc (.i .i64)] R w:=
 call_eq Tryz.checked.mixed (.seq .leaf (.seq (.seq .leaf (.seq .leaf (.cond (.seq .leaf .leaf) .leaf))) (.seq (.seq .leaf (.cond (.seq .leaf .leaf) .leaf)) (.seq .leaf (.seq .leaf (.seq (.seq .leaf (.block (.loop [(4,.sc .p),(5,.sc (.i .i64)),(46,.sc (.i .i64))] (.seq .leaf (.seq (.cond .leaf .leaf) (.seq (.block (.seq .leaf (.seq .leaf (.seq .leaf (.block (.loop [(4,.sc .p),(5,.sc (.i .i64)),(58,.sc (.i .i64))] (.seq .leaf (.seq (.cond .leaf .leaf) (.seq (.block (.seq .leaf (.seq .leaf (.seq (.join [(80,.sc .b)] .leaf) (.cond (.seq .leaf .leaf) .leaf))))) .leaf))))))))) .leaf)))))) (.seq .leaf .leaf))))))) Tryz.func9 (by kernel_rfl) (by kernel_rfl) h
abbrev i_sumpterlaw20_first:FuncId:=10
def sumpterlaw20_first  (R:TR [.ag [(.i .i64),(.i .u64),(.i .u64),(.i .u64),(.i .u64),.sl,.sl,.sl,(.i .u64),(.i .u64),.s,.s,(.i .u64),(.i .u64),(.i .u64),.s,.s]]→Pr):Pr:=
 New #[(.int .i64 0),(.int .u64 0),(.int .u64 0),(.int .u64 0),(.int .u64 0),(.slice none 0 0),(.slice none 0 0),(.slice none 0 0),(.int .u64 0),(.int .u64 0),(.string (BA [])),(.string (BA [])),(.int .u64 0),(.int .u64 0),(.int .u64 0),(.string (BA [])),(.string (BA []))] 41 fun a1=>
 New #[(.string (BA [])),(.int .i64 1),(.string (BA [109])),(.int .i64 2)] 70 fun a2=>
 St (a1.add 0) (.int .i64 1) <|
 St (a1.add 1) (.int .u64 0) <|
 St (a1.add 2) (.int .u64 0) <|
 St (a1.add 3) (.int .u64 1) <|
 St (a1.add 4) (.int .u64 0) <|
 St (a1.add 5) (.slice (some a2) 2 2) <|
 St (a1.add 6) (.slice none 0 0) <|
 St (a1.add 7) (.slice none 0 0) <|
 St (a1.add 8) (.int .u64 0) <|
 St (a1.add 9) (.int .u64 0) <|
 St (a1.add 10) (.string (BA [])) <|
 St (a1.add 11) (.string (BA [])) <|
 St (a1.add 12) (.int .u64 0) <|
 St (a1.add 13) (.int .u64 0) <|
 St (a1.add 14) (.int .u64 0) <|
 St (a1.add 15) (.string (BA [])) <|
 St (a1.add 16) (.string (BA [])) <|
 LdI .i64 (a1.add 0) fun x3=>
 LdI .u64 (a1.add 1) fun x4=>
 LdI .u64 (a1.add 2) fun x5=>
 LdI .u64 (a1.add 3) fun x6=>
 LdI .u64 (a1.add 4) fun x7=>
 LdL (a1.add 5) fun x8=>
 LdL (a1.add 6) fun x9=>
 LdL (a1.add 7) fun x10=>
 LdI .u64 (a1.add 8) fun x11=>
 LdI .u64 (a1.add 9) fun x12=>
 LdS (a1.add 10) fun x13=>
 LdS (a1.add 11) fun x14=>
 LdI .u64 (a1.add 12) fun x15=>
 LdI .u64 (a1.add 13) fun x16=>
 LdI .u64 (a1.add 14) fun x17=>
 LdS (a1.add 15) fun x18=>
 LdS (a1.add 16) fun x19=>
 R ((x3,x4,x5,x6,x7,x8,x9,x10,x11,x12,x13,x14,x15,x16,x17,x18,x19,()),())
theorem sumpterlaw20_first_call  {R:TR [.ag [(.i .i64),(.i .u64),(.i .u64),(.i .u64),(.i .u64),.sl,.sl,.sl,(.i .u64),(.i .u64),.s,.s,(.i .u64),(.i .u64),(.i .u64),.s,.s]]→Pr} {w:World} (h:sumpterlaw20_first  R w):Cl Pg 10 [] false [.ag [(.i .i64),(.i .u64),(.i .u64),(.i .u64),(.i .u64),.sl,.sl,.sl,(.i .u64),(.i .u64),.s,.s,(.i .u64),(.i .u64),(.i .u64),.s,.s]] R w:=
 call_eq Tryz.checked.mixed (.seq .leaf (.seq .leaf .leaf)) Tryz.func10 (by kernel_rfl) (by kernel_rfl) h
abbrev i_part_Machine_Take:FuncId:=11
def part_Machine_Take (p_m:Option Addr) (p_x_0:Int) (p_x_1:Int) (p_x_2:Int) (p_x_3:Int) (p_x_4:Int) (p_x_5:Int) (p_x_6:Int) (p_x_7:Int) (p_x_8:Int) (p_x_9:Int) (p_x_10:Int) (p_x_11:Int) (p_x_12:Int) (p_x_13:Int) (p_x_14:Int) (p_x_15:Bool) (p_x_16:ByteArray) (p_x_17:ByteArray) (p_x_18:Sl) (p_x_19:Sl) (p_x_20:Sl) (R:TR [.ag [.sl,.sl,.b],.sc (.i .i64)]→Pr):Pr:=
 New #[(.pointer p_m)] 28 fun a1=>
 New #[(.int .i64 p_x_0),(.int .i64 p_x_1),(.int .i64 p_x_2),(.int .i64 p_x_3),(.int .i64 p_x_4),(.int .i64 p_x_5),(.int .u64 p_x_6),(.int .u64 p_x_7),(.int .u64 p_x_8),(.int .u64 p_x_9),(.int .u64 p_x_10),(.int .u64 p_x_11),(.int .u64 p_x_12),(.int .u64 p_x_13),(.int .u64 p_x_14),(.bool p_x_15),(.string p_x_16),(.string p_x_17),(.slice p_x_18.p p_x_18.len p_x_18.cap),(.slice p_x_19.p p_x_19.len p_x_19.cap),(.slice p_x_20.p p_x_20.len p_x_20.cap)] 47 fun a2=>
 New #[(.slice none 0 0),(.slice none 0 0),(.bool false)] 52 fun a3=>
 Jp (σ:=Option Addr × Bool × Unit) (fun s5=>
 Jp (σ:=Bool × Unit) (fun s7=>
 Br s7.1 (
 St (a3.add 0) (.slice none 0 0) <|
 St (a3.add 1) (.slice none 0 0) <|
 St (a3.add 2) (.bool false) <|
 LdL (a3.add 0) fun x8=>
 LdL (a3.add 1) fun x9=>
 LdB (a3.add 2) fun x10=>
 R ((x8,x9,x10,()),180,())) (
 LdP a1 fun x11=>
 Cl Pg 32 [(.pointer x11),(.func (.func 33) #[] #[(.pointer s5.1),(.pointer (some a1)),(.pointer (some a2))])] true [.ag [.sl,.sl,.b],.sc (.i .i64)] fun r12=>
 St (a3.add 0) (.slice r12.1.1.p r12.1.1.len r12.1.1.cap) <|
 St (a3.add 1) (.slice r12.1.2.1.p r12.1.2.1.len r12.1.2.1.cap) <|
 St (a3.add 2) (.bool r12.1.2.2.1) <|
 LdL (a3.add 0) fun x13=>
 LdL (a3.add 1) fun x14=>
 LdB (a3.add 2) fun x15=>
 R ((x13,x14,x15,()),r12.2.1,()))) fun J6=>
 Dr <|
 LdI .i64 (a2.add 0) fun x16=>
 LdI .i64 (a2.add 1) fun x17=>
 LdI .i64 (a2.add 2) fun x18=>
 LdI .i64 (a2.add 3) fun x19=>
 LdI .i64 (a2.add 4) fun x20=>
 LdI .i64 (a2.add 5) fun x21=>
 LdI .u64 (a2.add 6) fun x22=>
 LdI .u64 (a2.add 7) fun x23=>
 LdI .u64 (a2.add 8) fun x24=>
 LdI .u64 (a2.add 9) fun x25=>
 LdI .u64 (a2.add 10) fun x26=>
 LdI .u64 (a2.add 11) fun x27=>
 LdI .u64 (a2.add 12) fun x28=>
 LdI .u64 (a2.add 13) fun x29=>
 LdI .u64 (a2.add 14) fun x30=>
 LdB (a2.add 15) fun x31=>
 LdS (a2.add 16) fun x32=>
 LdS (a2.add 17) fun x33=>
 LdL (a2.add 18) fun x34=>
 LdL (a2.add 19) fun x35=>
 LdL (a2.add 20) fun x36=>
 Cl Pg 31 [(.agg #[(.int .i64 x16),(.int .i64 x17),(.int .i64 x18),(.int .i64 x19),(.int .i64 x20),(.int .i64 x21),(.int .u64 x22),(.int .u64 x23),(.int .u64 x24),(.int .u64 x25),(.int .u64 x26),(.int .u64 x27),(.int .u64 x28),(.int .u64 x29),(.int .u64 x30),(.bool x31),(.string x32),(.string x33),(.slice x34.p x34.len x34.cap),(.slice x35.p x35.len x35.cap),(.slice x36.p x36.len x36.cap)])] false [.sc (.i .i64)] fun r37=>
 Br ((r37.1:Int) != 0) (
 J6 (true,())) (
 LdI .i64 (a2.add 2) fun x38=>
 LdP a1 fun x39=>
 Nn x39 fun a40=>
 LdI .i64 ((a40.add 0).add 0) fun x41=>
 Br ((x38:Int) != x41) (
 J6 (true,())) (
 J6 ((!s5.2.1),())))) fun J4=>
 Dr <|
 LdI .i64 (a2.add 0) fun x42=>
 Both (
 Cl Pg 30 [] false [.sc .m] fun r43=>
 Both (LdI .i64 (a2.add 0) fun x44=>
 fun _=>((.int .i64 x44):Value)=(.int .i64 x42)) <|
 LkK .v Value.nilFunc (.int .i64) r43.1 (.int .i64 x42) fun x45 b46=>
 Req ((.nilFunc:Value).oneCell'=true) <|
 New #[.nilFunc] 102 fun a47=>
 Both (LkK .v Value.nilFunc (.int .i64) r43.1 (.int .i64 x42) fun x48 b49=>
 fun _=>((.tuple #[x48,(.bool b49)]):Value)=(.tuple #[x45,(.bool b46)])) <|
 Both (LdI .i64 (a2.add 0) fun x50=>
 fun _=>((.int .i64 x50):Value)=(.int .i64 x42)) <|
 St a47 x45 <|
 J4 ((some a47),b46,())) <|
 Req ((.nilFunc:Value).oneCell'=true) <|
 New #[.nilFunc] 102 fun a51=>
 Both (LdI .i64 (a2.add 0) fun x52=>
 fun _=>((.int .i64 x52):Value)=(.int .i64 x42)) <|
 Cl Pg 30 [] false [.sc .m] fun r53=>
 Both (LdI .i64 (a2.add 0) fun x54=>
 fun _=>((.int .i64 x54):Value)=(.int .i64 x42)) <|
 LkK .v Value.nilFunc (.int .i64) r53.1 (.int .i64 x42) fun x55 b56=>
 St a51 x55 <|
 J4 ((some a51),b56,())
theorem part_Machine_Take_call (p_m:Option Addr) (p_x_0:Int) (p_x_1:Int) (p_x_2:Int) (p_x_3:Int) (p_x_4:Int) (p_x_5:Int) (p_x_6:Int) (p_x_7:Int) (p_x_8:Int) (p_x_9:Int) (p_x_10:Int) (p_x_11:Int) (p_x_12:Int) (p_x_13:Int) (p_x_14:Int) (p_x_15:Bool) (p_x_16:ByteArray) (p_x_17:ByteArray) (p_x_18:Sl) (p_x_19:Sl) (p_x_20:Sl) {R:TR [.ag [.sl,.sl,.b],.sc (.i .i64)]→Pr} {w:World} (h:part_Machine_Take p_m p_x_0 p_x_1 p_x_2 p_x_3 p_x_4 p_x_5 p_x_6 p_x_7 p_x_8 p_x_9 p_x_10 p_x_11 p_x_12 p_x_13 p_x_14 p_x_15 p_x_16 p_x_17 p_x_18 p_x_19 p_x_20 R w):Cl Pg 11 [(.pointer p_m),(.agg #[(.int .i64 p_x_0),(.int .i64 p_x_1),(.int .i64 p_x_2),(.int .i64 p_x_3),(.int .i64 p_x_4),(.int .i64 p_x_5),(.int .u64 p_x_6),(.int .u64 p_x_7),(.int .u64 p_x_8),(.int .u64 p_x_9),(.int .u64 p_x_10),(.int .u64 p_x_11),(.int .u64 p_x_12),(.int .u64 p_x_13),(.int .u64 p_x_14),(.bool p_x_15),(.string p_x_16),(.string p_x_17),(.slice p_x_18.p p_x_18.len p_x_18.cap),(.slice p_x_19.p p_x_19.len p_x_19.cap),(.slice p_x_20.p p_x_20.len p_x_20.cap)])] true [.ag [.sl,.sl,.b],.sc (.i .i64)] R w:=
 call_eq Tryz.checked.mixed (.seq .leaf (.seq (.join [(6,.sc .p),(7,.sc .b)] .leaf) (.seq (.seq (.join [(31,.sc .b)] .leaf) (.cond (.seq .leaf .leaf) .leaf)) (.seq .leaf .leaf)))) Tryz.func11 (by kernel_rfl) (by kernel_rfl) h
end Go.Proofs.YthkdehgfdllpoaaGreat
set_option linter.unusedVariables false
namespace Go.Proofs.YthkdehgfdllpoaaGreat
open Go Go.Sx
abbrev i_sumpterref04_Apply:FuncId:=12
def sumpterref04_Apply (p_m:Sl) (p_l:Sl) (R:TR [.sc .sl,.sc .sl,.sc (.i .i64)]→Pr):Pr:=
 Cl Pg 13 [(.slice p_m.p p_m.len p_m.cap)] false [.sc (.i .i64)] fun r1=>
 Br ((r1.1:Int) != 0) (
 R (⟨none,0,0⟩,⟨none,0,0⟩,r1.1,())) (
 Cl Pg 21 [(.slice p_l.p p_l.len p_l.cap)] false [.sc (.i .i64)] fun r2=>
 Br ((r2.1:Int) != 0) (
 R (⟨none,0,0⟩,⟨none,0,0⟩,r2.1,())) (
 App 111 2 32 (zc Pg 111) ⟨none,0,0⟩ p_m.len (srcS p_m.p p_m.len 2) fun r3=>
 Lp (σ:=Sl × Sl × Int × Unit) (fun L4 s5=>
 Br (decide ((s5.2.2.1:Int) < ((p_l.len:Nat):Int))) (
 Ix p_l s5.2.2.1 6 fun a6=>
 LdI .i64 (a6.add 0) fun x7=>
 LdS (a6.add 1) fun x8=>
 LdS (a6.add 2) fun x9=>
 LdS (a6.add 3) fun x10=>
 LdS (a6.add 4) fun x11=>
 LdI .i64 (a6.add 5) fun x12=>
 New #[(.int .i64 0),(.string (BA [])),(.string (BA [])),(.string (BA [])),(.string (BA [])),(.int .i64 0)] 81 fun a13=>
 St (a13.add 0) (.int .i64 x7) <|
 St (a13.add 1) (.string x8) <|
 St (a13.add 2) (.string x9) <|
 St (a13.add 3) (.string x10) <|
 St (a13.add 4) (.string x11) <|
 St (a13.add 5) (.int .i64 x12) <|
 LdI .i64 (a13.add 0) fun x14=>
 LdS (a13.add 1) fun x15=>
 LdS (a13.add 2) fun x16=>
 LdS (a13.add 3) fun x17=>
 LdS (a13.add 4) fun x18=>
 LdI .i64 (a13.add 5) fun x19=>
 Cl Pg 34 [(.slice s5.1.p s5.1.len s5.1.cap),(.agg #[(.int .i64 x14),(.string x15),(.string x16),(.string x17),(.string x18),(.int .i64 x19)])] true [.sc .sl,.ag [.b,.s,.sl]] fun r20=>
 New #[(.bool false),(.string (BA [])),(.slice none 0 0)] 83 fun a21=>
 St (a21.add 0) (.bool r20.2.1.1) <|
 St (a21.add 1) (.string r20.2.1.2.1) <|
 St (a21.add 2) (.slice r20.2.1.2.2.1.p r20.2.1.2.2.1.len r20.2.1.2.2.1.cap) <|
 LdB (a21.add 0) fun x22=>
 LdS (a21.add 1) fun x23=>
 LdL (a21.add 2) fun x24=>
 New #[(.bool x22),(.string x23),(.slice x24.p x24.len x24.cap)] 83 fun a25=>
 App 83 3 48 (zc Pg 83) s5.2.1 1 (srcS (some a25) 1 3) fun r26=>
 L4 (r20.1,r26,(w64 (s5.2.2.1 + 1)),())) (
 R (s5.1,s5.2.1,0,()))) (r3,⟨none,0,0⟩,0,())))
theorem sumpterref04_Apply_call (p_m:Sl) (p_l:Sl) {R:TR [.sc .sl,.sc .sl,.sc (.i .i64)]→Pr} {w:World} (h:sumpterref04_Apply p_m p_l R w):Cl Pg 12 [(.slice p_m.p p_m.len p_m.cap),(.slice p_l.p p_l.len p_l.cap)] true [.sc .sl,.sc .sl,.sc (.i .i64)] R w:=
 call_eq Tryz.checked.mixed (.seq .leaf (.seq (.seq .leaf (.seq .leaf (.cond (.seq .leaf .leaf) .leaf))) (.seq (.seq .leaf (.seq .leaf (.cond (.seq .leaf .leaf) .leaf))) (.seq .leaf (.seq .leaf (.seq (.seq .leaf (.block (.loop [(0,.sc .sl),(9,.sc .sl),(28,.sc (.i .i64))] (.seq .leaf (.seq (.cond .leaf .leaf) (.seq (.block (.seq .leaf (.seq .leaf (.seq .leaf .leaf)))) .leaf)))))) (.seq .leaf .leaf))))))) Tryz.func12 (by kernel_rfl) (by kernel_rfl) h
abbrev i_sumpterref04_CheckMap:FuncId:=13
def sumpterref04_CheckMap (p_m:Sl) (R:TR [.sc (.i .i64)]→Pr):Pr:=
 Lp (σ:=Int × Int × Unit) (fun L1 s2=>
 Br (decide ((s2.2.1:Int) < ((p_m.len:Nat):Int))) (
 Ix p_m s2.2.1 2 fun a3=>
 LdS (a3.add 0) fun x4=>
 LdS (a3.add 1) fun x5=>
 New #[(.string (BA [])),(.string (BA []))] 111 fun a6=>
 St (a6.add 0) (.string x4) <|
 St (a6.add 1) (.string x5) <|
 LdS (a6.add 0) fun x7=>
 Cl Pg 35 [(.string x7)] false [.sc (.i .i64)] fun r8=>
 Br ((r8.1:Int) != 0) (
 R (20,())) (
 LdS (a6.add 1) fun x9=>
 Br (decide ((((x9.size:Nat):Int):Int) > 16)) (
 R (2,())) (
 Jp (σ:=Bool × Unit) (fun s11=>
 Br s11.1 (
 R (1,())) (
 L1 (s2.1,(w64 (s2.2.1 + 1)),()))) fun J10=>
 Dr <|
 Br (decide ((s2.2.1:Int) > 0)) (
 Ix p_m (w64 (s2.2.1 - 1)) 2 fun a12=>
 LdS (a12.add 0) fun x13=>
 LdS (a6.add 0) fun x14=>
 J10 ((!(slt x13 x14)),())) (
 J10 (false,()))))) (
 R (0,()))) (0,0,())
theorem sumpterref04_CheckMap_call (p_m:Sl) {R:TR [.sc (.i .i64)]→Pr} {w:World} (h:sumpterref04_CheckMap p_m R w):Cl Pg 13 [(.slice p_m.p p_m.len p_m.cap)] false [.sc (.i .i64)] R w:=
 call_eq Tryz.checked.mixed (.seq .leaf (.seq (.seq .leaf (.block (.loop [(2,.sc (.i .i64)),(7,.sc (.i .i64))] (.seq .leaf (.seq (.cond .leaf .leaf) (.seq (.block (.seq .leaf (.seq (.seq .leaf (.cond (.seq .leaf .leaf) .leaf)) (.seq (.seq .leaf (.cond (.seq .leaf .leaf) .leaf)) (.seq (.join [(32,.sc .b)] .leaf) (.cond (.seq .leaf .leaf) .leaf)))))) .leaf)))))) (.seq .leaf .leaf))) Tryz.func13 (by kernel_rfl) (by kernel_rfl) h
abbrev i_part_Machine_State:FuncId:=14
def part_Machine_State (p_m:Option Addr) (R:TR [.ag [(.i .i64),(.i .u64),(.i .u64),(.i .u64),(.i .u64),.sl,.sl,.sl,(.i .u64),(.i .u64),.s,.s,(.i .u64),(.i .u64),(.i .u64),.s,.s]]→Pr):Pr:=
 New #[(.int .i64 0),(.int .u64 0),(.int .u64 0),(.int .u64 0),(.int .u64 0),(.slice none 0 0),(.slice none 0 0),(.slice none 0 0),(.int .u64 0),(.int .u64 0),(.string (BA [])),(.string (BA [])),(.int .u64 0),(.int .u64 0),(.int .u64 0),(.string (BA [])),(.string (BA []))] 41 fun a1=>
 Nn p_m fun a2=>
 LdI .i64 ((a2.add 0).add 0) fun x3=>
 LdI .u64 ((a2.add 0).add 1) fun x4=>
 LdI .u64 ((a2.add 0).add 2) fun x5=>
 LdI .u64 ((a2.add 0).add 3) fun x6=>
 LdI .u64 ((a2.add 0).add 4) fun x7=>
 LdL ((a2.add 0).add 5) fun x8=>
 LdL ((a2.add 0).add 6) fun x9=>
 LdL ((a2.add 0).add 7) fun x10=>
 LdI .u64 ((a2.add 0).add 8) fun x11=>
 LdI .u64 ((a2.add 0).add 9) fun x12=>
 LdS ((a2.add 0).add 10) fun x13=>
 LdS ((a2.add 0).add 11) fun x14=>
 LdI .u64 ((a2.add 0).add 12) fun x15=>
 LdI .u64 ((a2.add 0).add 13) fun x16=>
 LdI .u64 ((a2.add 0).add 14) fun x17=>
 LdS ((a2.add 0).add 15) fun x18=>
 LdS ((a2.add 0).add 16) fun x19=>
 Cl Pg 26 [(.agg #[(.int .i64 x3),(.int .u64 x4),(.int .u64 x5),(.int .u64 x6),(.int .u64 x7),(.slice x8.p x8.len x8.cap),(.slice x9.p x9.len x9.cap),(.slice x10.p x10.len x10.cap),(.int .u64 x11),(.int .u64 x12),(.string x13),(.string x14),(.int .u64 x15),(.int .u64 x16),(.int .u64 x17),(.string x18),(.string x19)])] false [.ag [(.i .i64),(.i .u64),(.i .u64),(.i .u64),(.i .u64),.sl,.sl,.sl,(.i .u64),(.i .u64),.s,.s,(.i .u64),(.i .u64),(.i .u64),.s,.s]] fun r20=>
 St (a1.add 0) (.int .i64 r20.1.1) <|
 St (a1.add 1) (.int .u64 r20.1.2.1) <|
 St (a1.add 2) (.int .u64 r20.1.2.2.1) <|
 St (a1.add 3) (.int .u64 r20.1.2.2.2.1) <|
 St (a1.add 4) (.int .u64 r20.1.2.2.2.2.1) <|
 St (a1.add 5) (.slice r20.1.2.2.2.2.2.1.p r20.1.2.2.2.2.2.1.len r20.1.2.2.2.2.2.1.cap) <|
 St (a1.add 6) (.slice r20.1.2.2.2.2.2.2.1.p r20.1.2.2.2.2.2.2.1.len r20.1.2.2.2.2.2.2.1.cap) <|
 St (a1.add 7) (.slice r20.1.2.2.2.2.2.2.2.1.p r20.1.2.2.2.2.2.2.2.1.len r20.1.2.2.2.2.2.2.2.1.cap) <|
 St (a1.add 8) (.int .u64 r20.1.2.2.2.2.2.2.2.2.1) <|
 St (a1.add 9) (.int .u64 r20.1.2.2.2.2.2.2.2.2.2.1) <|
 St (a1.add 10) (.string r20.1.2.2.2.2.2.2.2.2.2.2.1) <|
 St (a1.add 11) (.string r20.1.2.2.2.2.2.2.2.2.2.2.2.1) <|
 St (a1.add 12) (.int .u64 r20.1.2.2.2.2.2.2.2.2.2.2.2.2.1) <|
 St (a1.add 13) (.int .u64 r20.1.2.2.2.2.2.2.2.2.2.2.2.2.2.1) <|
 St (a1.add 14) (.int .u64 r20.1.2.2.2.2.2.2.2.2.2.2.2.2.2.2.1) <|
 St (a1.add 15) (.string r20.1.2.2.2.2.2.2.2.2.2.2.2.2.2.2.2.1) <|
 St (a1.add 16) (.string r20.1.2.2.2.2.2.2.2.2.2.2.2.2.2.2.2.2.1) <|
 LdI .i64 (a1.add 0) fun x21=>
 LdI .u64 (a1.add 1) fun x22=>
 LdI .u64 (a1.add 2) fun x23=>
 LdI .u64 (a1.add 3) fun x24=>
 LdI .u64 (a1.add 4) fun x25=>
 LdL (a1.add 5) fun x26=>
 LdL (a1.add 6) fun x27=>
 LdL (a1.add 7) fun x28=>
 LdI .u64 (a1.add 8) fun x29=>
 LdI .u64 (a1.add 9) fun x30=>
 LdS (a1.add 10) fun x31=>
 LdS (a1.add 11) fun x32=>
 LdI .u64 (a1.add 12) fun x33=>
 LdI .u64 (a1.add 13) fun x34=>
 LdI .u64 (a1.add 14) fun x35=>
 LdS (a1.add 15) fun x36=>
 LdS (a1.add 16) fun x37=>
 R ((x21,x22,x23,x24,x25,x26,x27,x28,x29,x30,x31,x32,x33,x34,x35,x36,x37,()),())
theorem part_Machine_State_call (p_m:Option Addr) {R:TR [.ag [(.i .i64),(.i .u64),(.i .u64),(.i .u64),(.i .u64),.sl,.sl,.sl,(.i .u64),(.i .u64),.s,.s,(.i .u64),(.i .u64),(.i .u64),.s,.s]]→Pr} {w:World} (h:part_Machine_State p_m R w):Cl Pg 14 [(.pointer p_m)] false [.ag [(.i .i64),(.i .u64),(.i .u64),(.i .u64),(.i .u64),.sl,.sl,.sl,(.i .u64),(.i .u64),.s,.s,(.i .u64),(.i .u64),(.i .u64),.s,.s]] R w:=
 call_eq Tryz.checked.mixed (.seq .leaf (.seq .leaf .leaf)) Tryz.func14 (by kernel_rfl) (by kernel_rfl) h
abbrev i_sumpterref04_SameResults:FuncId:=15
def sumpterref04_SameResults (p_a:Sl) (p_b:Sl) (R:TR [.sc .b]→Pr):Pr:=
 Br ((((p_a.len:Nat):Int):Int) != ((p_b.len:Nat):Int)) (
 R (false,())) (
 Lp (σ:=Bool × Int × Unit) (fun L1 s2=>
 Br (decide ((s2.2.1:Int) < ((p_a.len:Nat):Int))) (
 Jp (σ:=Bool × Unit) (fun s4=>
 Br s4.1 (
 R (false,())) (
 L1 (s2.1,(w64 (s2.2.1 + 1)),()))) fun J3=>
 Dr <|
 Ix p_a s2.2.1 3 fun a5=>
 LdB (a5.add 0) fun x6=>
 Ix p_b s2.2.1 3 fun a7=>
 LdB (a7.add 0) fun x8=>
 Br (!(x6 == x8)) (
 J3 (true,())) (
 Ix p_a s2.2.1 3 fun a9=>
 LdS (a9.add 1) fun x10=>
 Ix p_b s2.2.1 3 fun a11=>
 LdS (a11.add 1) fun x12=>
 Br (!(seq x10 x12)) (
 J3 (true,())) (
 Ix p_a s2.2.1 3 fun a13=>
 LdL (a13.add 2) fun x14=>
 Ix p_b s2.2.1 3 fun a15=>
 LdL (a15.add 2) fun x16=>
 Cl Pg 23 [(.slice x14.p x14.len x14.cap),(.slice x16.p x16.len x16.cap)] false [.sc .b] fun r17=>
 J3 ((!r17.1),())))) (
 R (true,()))) (false,0,()))
theorem sumpterref04_SameResults_call (p_a:Sl) (p_b:Sl) {R:TR [.sc .b]→Pr} {w:World} (h:sumpterref04_SameResults p_a p_b R w):Cl Pg 15 [(.slice p_a.p p_a.len p_a.cap),(.slice p_b.p p_b.len p_b.cap)] false [.sc .b] R w:=
 call_eq Tryz.checked.mixed (.seq .leaf (.seq (.seq .leaf (.cond (.seq .leaf .leaf) .leaf)) (.seq (.seq .leaf (.block (.loop [(4,.sc .b),(13,.sc (.i .i64))] (.seq .leaf (.seq (.cond .leaf .leaf) (.seq (.block (.seq .leaf (.seq (.join [(53,.sc .b)] .leaf) (.cond (.seq .leaf .leaf) .leaf)))) .leaf)))))) (.seq .leaf .leaf)))) Tryz.func15 (by kernel_rfl) (by kernel_rfl) h
abbrev i_part_Machine_Waits:FuncId:=16
def part_Machine_Waits (p_m:Option Addr) (R:TR [.sc .sl]→Pr):Pr:=
 Nn p_m fun a1=>
 LdL (a1.add 17) fun x2=>
 Lp (σ:=Sl × Int × Unit) (fun L3 s4=>
 Br (decide ((s4.2.1:Int) < ((x2.len:Nat):Int))) (
 Ix x2 s4.2.1 4 fun a5=>
 LdI .u64 (a5.add 0) fun x6=>
 LdL (a5.add 1) fun x7=>
 LdL (a5.add 2) fun x8=>
 LdI .i64 (a5.add 3) fun x9=>
 New #[(.int .u64 0),(.slice none 0 0),(.slice none 0 0),(.int .i64 0)] 114 fun a10=>
 St (a10.add 0) (.int .u64 x6) <|
 St (a10.add 1) (.slice x7.p x7.len x7.cap) <|
 St (a10.add 2) (.slice x8.p x8.len x8.cap) <|
 St (a10.add 3) (.int .i64 x9) <|
 LdI .u64 (a10.add 0) fun x11=>
 New #[(.int .u64 x11)] 32 fun a12=>
 App 32 1 8 (zc Pg 32) s4.1 1 (srcS (some a12) 1 1) fun r13=>
 L3 (r13,(w64 (s4.2.1 + 1)),())) (
 R (s4.1,()))) (⟨none,0,0⟩,0,())
theorem part_Machine_Waits_call (p_m:Option Addr) {R:TR [.sc .sl]→Pr} {w:World} (h:part_Machine_Waits p_m R w):Cl Pg 16 [(.pointer p_m)] false [.sc .sl] R w:=
 call_eq Tryz.checked.mixed (.seq .leaf (.seq .leaf (.seq (.seq .leaf (.block (.loop [(3,.sc .sl),(11,.sc (.i .i64))] (.seq .leaf (.seq (.cond .leaf .leaf) (.seq (.block (.seq .leaf .leaf)) .leaf)))))) (.seq .leaf .leaf)))) Tryz.func16 (by kernel_rfl) (by kernel_rfl) h
abbrev i_part_Machine_Idle:FuncId:=17
def part_Machine_Idle (p_m:Option Addr) (R:TR [.sc .b]→Pr):Pr:=
 Dr <|
 Nn p_m fun a1=>
 LdL (a1.add 17) fun x2=>
 Nn p_m fun a3=>
 LdL ((a3.add 0).add 6) fun x4=>
 Br (((w64 (((x2.len:Nat):Int) + ((x4.len:Nat):Int))):Int) == 0) (
 Nn p_m fun a5=>
 LdP (a5.add 19) fun x6=>
 Br (Option.isNone x6) (
 Nn p_m fun a7=>
 LdI .u64 ((a7.add 0).add 9) fun x8=>
 Br ((x8:Int) == 0) (
 Nn p_m fun a9=>
 LdI .u64 (((a9.add 0).add 12).add 0) fun x10=>
 R (((x10:Int) == 0),())) (
 R (false,()))) (
 R (false,()))) (
 R (false,()))
theorem part_Machine_Idle_call (p_m:Option Addr) {R:TR [.sc .b]→Pr} {w:World} (h:part_Machine_Idle p_m R w):Cl Pg 17 [(.pointer p_m)] false [.sc .b] R w:=
 call_eq Tryz.checked.mixed (.seq .leaf (.seq .leaf .leaf)) Tryz.func17 (by kernel_rfl) (by kernel_rfl) h
abbrev i_sumpterref04_Within:FuncId:=20
def sumpterref04_Within (p_m:Sl) (p_r_0:ByteArray) (p_r_1:ByteArray) (p_most:Int) (R:TR [.sc .sl]→Pr):Pr:=
 New #[(.string p_r_0),(.string p_r_1)] 37 fun a1=>
 Lp (σ:=Sl × Int × Unit) (fun L2 s3=>
 Br (decide ((s3.2.1:Int) < ((p_m.len:Nat):Int))) (
 Jp (σ:=Sl × Unit) (fun s5=>
 L2 (s5.1,(w64 (s3.2.1 + 1)),())) fun J4=>
 Ix p_m s3.2.1 2 fun a6=>
 LdS (a6.add 0) fun x7=>
 LdS (a6.add 1) fun x8=>
 New #[(.string (BA [])),(.string (BA []))] 111 fun a9=>
 St (a9.add 0) (.string x7) <|
 St (a9.add 1) (.string x8) <|
 Jp (σ:=Bool × Unit) (fun s11=>
 Br s11.1 (
 LdS (a9.add 0) fun x12=>
 LdS (a9.add 1) fun x13=>
 New #[(.string x12),(.string x13)] 111 fun a14=>
 App 111 2 32 (zc Pg 111) s3.1 1 (srcS (some a14) 1 2) fun r15=>
 J4 (r15,())) (
 J4 (s3.1,()))) fun J10=>
 LdS (a1.add 0) fun x16=>
 LdS (a1.add 1) fun x17=>
 LdS (a9.add 0) fun x18=>
 Cl Pg 42 [(.agg #[(.string x16),(.string x17)]),(.string x18)] false [.sc .b] fun r19=>
 Br r19.1 (
 Br (decide ((p_most:Int) < 0)) (
 J10 (true,())) (
 J10 ((decide ((((s3.1.len:Nat):Int):Int) < p_most)),()))) (
 J10 (false,()))) (
 R (s3.1,()))) (⟨none,0,0⟩,0,())
theorem sumpterref04_Within_call (p_m:Sl) (p_r_0:ByteArray) (p_r_1:ByteArray) (p_most:Int) {R:TR [.sc .sl]→Pr} {w:World} (h:sumpterref04_Within p_m p_r_0 p_r_1 p_most R w):Cl Pg 20 [(.slice p_m.p p_m.len p_m.cap),(.agg #[(.string p_r_0),(.string p_r_1)]),(.int .i64 p_most)] false [.sc .sl] R w:=
 call_eq Tryz.checked.mixed (.seq .leaf (.seq .leaf (.seq (.seq .leaf (.block (.loop [(7,.sc .sl),(12,.sc (.i .i64))] (.seq .leaf (.seq (.cond .leaf .leaf) (.seq (.join [(7,.sc .sl)] (.block (.seq .leaf (.seq (.join [(29,.sc .b)] .leaf) (.cond .leaf .leaf))))) .leaf)))))) (.seq .leaf .leaf)))) Tryz.func20 (by kernel_rfl) (by kernel_rfl) h
abbrev i_sumpterref04_All:FuncId:=21
def sumpterref04_All (p_l:Sl) (R:TR [.sc (.i .i64)]→Pr):Pr:=
 Lp (σ:=Int × Int × Unit) (fun L1 s2=>
 Br (decide ((s2.2.1:Int) < ((p_l.len:Nat):Int))) (
 Ix p_l s2.2.1 6 fun a3=>
 LdI .i64 (a3.add 0) fun x4=>
 LdS (a3.add 1) fun x5=>
 LdS (a3.add 2) fun x6=>
 LdS (a3.add 3) fun x7=>
 LdS (a3.add 4) fun x8=>
 LdI .i64 (a3.add 5) fun x9=>
 New #[(.int .i64 0),(.string (BA [])),(.string (BA [])),(.string (BA [])),(.string (BA [])),(.int .i64 0)] 81 fun a10=>
 St (a10.add 0) (.int .i64 x4) <|
 St (a10.add 1) (.string x5) <|
 St (a10.add 2) (.string x6) <|
 St (a10.add 3) (.string x7) <|
 St (a10.add 4) (.string x8) <|
 St (a10.add 5) (.int .i64 x9) <|
 LdI .i64 (a10.add 0) fun x11=>
 LdS (a10.add 1) fun x12=>
 LdS (a10.add 2) fun x13=>
 LdS (a10.add 3) fun x14=>
 LdS (a10.add 4) fun x15=>
 LdI .i64 (a10.add 5) fun x16=>
 Cl Pg 43 [(.agg #[(.int .i64 x11),(.string x12),(.string x13),(.string x14),(.string x15),(.int .i64 x16)])] false [.sc (.i .i64)] fun r17=>
 Br ((r17.1:Int) != 0) (
 R (r17.1,())) (
 L1 (s2.1,(w64 (s2.2.1 + 1)),()))) (
 R (0,()))) (0,0,())
theorem sumpterref04_All_call (p_l:Sl) {R:TR [.sc (.i .i64)]→Pr} {w:World} (h:sumpterref04_All p_l R w):Cl Pg 21 [(.slice p_l.p p_l.len p_l.cap)] false [.sc (.i .i64)] R w:=
 call_eq Tryz.checked.mixed (.seq .leaf (.seq (.seq .leaf (.block (.loop [(2,.sc (.i .i64)),(8,.sc (.i .i64))] (.seq .leaf (.seq (.cond .leaf .leaf) (.seq (.block (.seq .leaf (.seq .leaf (.seq .leaf (.cond (.seq .leaf .leaf) .leaf))))) .leaf)))))) (.seq .leaf .leaf))) Tryz.func21 (by kernel_rfl) (by kernel_rfl) h
abbrev i_sumpterref04_SameMap:FuncId:=23
def sumpterref04_SameMap (p_a:Sl) (p_b:Sl) (R:TR [.sc .b]→Pr):Pr:=
 Br ((((p_a.len:Nat):Int):Int) != ((p_b.len:Nat):Int)) (
 R (false,())) (
 Lp (σ:=Bool × Int × Unit) (fun L1 s2=>
 Br (decide ((s2.2.1:Int) < ((p_a.len:Nat):Int))) (
 Dr <|
 Ix p_a s2.2.1 2 fun a3=>
 LdS (a3.add 0) fun x4=>
 LdS (a3.add 1) fun x5=>
 Ix p_b s2.2.1 2 fun a6=>
 LdS (a6.add 0) fun x7=>
 LdS (a6.add 1) fun x8=>
 Br (!((seq x4 x7) && ((seq x5 x8) && true))) (
 R (false,())) (
 L1 (s2.1,(w64 (s2.2.1 + 1)),()))) (
 R (true,()))) (false,0,()))
theorem sumpterref04_SameMap_call (p_a:Sl) (p_b:Sl) {R:TR [.sc .b]→Pr} {w:World} (h:sumpterref04_SameMap p_a p_b R w):Cl Pg 23 [(.slice p_a.p p_a.len p_a.cap),(.slice p_b.p p_b.len p_b.cap)] false [.sc .b] R w:=
 call_eq Tryz.checked.mixed (.seq .leaf (.seq (.seq .leaf (.cond (.seq .leaf .leaf) .leaf)) (.seq (.seq .leaf (.block (.loop [(4,.sc .b),(13,.sc (.i .i64))] (.seq .leaf (.seq (.cond .leaf .leaf) (.seq (.block (.seq .leaf (.seq .leaf (.cond (.seq .leaf .leaf) .leaf)))) .leaf)))))) (.seq .leaf .leaf)))) Tryz.func23 (by kernel_rfl) (by kernel_rfl) h
abbrev i_sumpterlaw20_work:FuncId:=24
def sumpterlaw20_work (p_txn:Int) (p_o_0:Int) (p_o_1:ByteArray) (p_o_2:ByteArray) (p_o_3:ByteArray) (p_o_4:ByteArray) (p_o_5:Int) (R:TR [.ag [(.i .i64),(.i .i64),(.i .i64),(.i .i64),(.i .i64),(.i .i64),(.i .u64),(.i .u64),(.i .u64),(.i .u64),(.i .u64),(.i .u64),(.i .u64),(.i .u64),(.i .u64),.b,.s,.s,.sl,.sl,.sl]]→Pr):Pr:=
 New #[(.int .i64 p_o_0),(.string p_o_1),(.string p_o_2),(.string p_o_3),(.string p_o_4),(.int .i64 p_o_5)] 81 fun a1=>
 New #[(.int .i64 0),(.int .i64 0),(.int .i64 0),(.int .i64 0),(.int .i64 0),(.int .i64 0),(.int .u64 0),(.int .u64 0),(.int .u64 0),(.int .u64 0),(.int .u64 0),(.int .u64 0),(.int .u64 0),(.int .u64 0),(.int .u64 0),(.bool false),(.string (BA [])),(.string (BA [])),(.slice none 0 0),(.slice none 0 0),(.slice none 0 0)] 47 fun a2=>
 LdI .i64 (a1.add 0) fun x3=>
 LdS (a1.add 1) fun x4=>
 LdS (a1.add 2) fun x5=>
 LdS (a1.add 3) fun x6=>
 LdS (a1.add 4) fun x7=>
 LdI .i64 (a1.add 5) fun x8=>
 New #[(.int .i64 x3),(.string x4),(.string x5),(.string x6),(.string x7),(.int .i64 x8)] 81 fun a9=>
 St (a2.add 0) (.int .i64 3) <|
 St (a2.add 1) (.int .i64 0) <|
 St (a2.add 2) (.int .i64 1) <|
 St (a2.add 3) (.int .i64 0) <|
 St (a2.add 4) (.int .i64 0) <|
 St (a2.add 5) (.int .i64 0) <|
 St (a2.add 6) (.int .u64 0) <|
 St (a2.add 7) (.int .u64 0) <|
 St (a2.add 8) (.int .u64 p_txn) <|
 St (a2.add 9) (.int .u64 0) <|
 St (a2.add 10) (.int .u64 0) <|
 St (a2.add 11) (.int .u64 1) <|
 St (a2.add 12) (.int .u64 0) <|
 St (a2.add 13) (.int .u64 0) <|
 St (a2.add 14) (.int .u64 0) <|
 St (a2.add 15) (.bool false) <|
 St (a2.add 16) (.string (BA [])) <|
 St (a2.add 17) (.string (BA [])) <|
 St (a2.add 18) (.slice (some a9) 1 1) <|
 St (a2.add 19) (.slice none 0 0) <|
 St (a2.add 20) (.slice none 0 0) <|
 LdI .i64 (a2.add 0) fun x10=>
 LdI .i64 (a2.add 1) fun x11=>
 LdI .i64 (a2.add 2) fun x12=>
 LdI .i64 (a2.add 3) fun x13=>
 LdI .i64 (a2.add 4) fun x14=>
 LdI .i64 (a2.add 5) fun x15=>
 LdI .u64 (a2.add 6) fun x16=>
 LdI .u64 (a2.add 7) fun x17=>
 LdI .u64 (a2.add 8) fun x18=>
 LdI .u64 (a2.add 9) fun x19=>
 LdI .u64 (a2.add 10) fun x20=>
 LdI .u64 (a2.add 11) fun x21=>
 LdI .u64 (a2.add 12) fun x22=>
 LdI .u64 (a2.add 13) fun x23=>
 LdI .u64 (a2.add 14) fun x24=>
 LdB (a2.add 15) fun x25=>
 LdS (a2.add 16) fun x26=>
 LdS (a2.add 17) fun x27=>
 LdL (a2.add 18) fun x28=>
 LdL (a2.add 19) fun x29=>
 LdL (a2.add 20) fun x30=>
 R ((x10,x11,x12,x13,x14,x15,x16,x17,x18,x19,x20,x21,x22,x23,x24,x25,x26,x27,x28,x29,x30,()),())
theorem sumpterlaw20_work_call (p_txn:Int) (p_o_0:Int) (p_o_1:ByteArray) (p_o_2:ByteArray) (p_o_3:ByteArray) (p_o_4:ByteArray) (p_o_5:Int) {R:TR [.ag [(.i .i64),(.i .i64),(.i .i64),(.i .i64),(.i .i64),(.i .i64),(.i .u64),(.i .u64),(.i .u64),(.i .u64),(.i .u64),(.i .u64),(.i .u64),(.i .u64),(.i .u64),.b,.s,.s,.sl,.sl,.sl]]→Pr} {w:World} (h:sumpterlaw20_work p_txn p_o_0 p_o_1 p_o_2 p_o_3 p_o_4 p_o_5 R w):Cl Pg 24 [(.int .u64 p_txn),(.agg #[(.int .i64 p_o_0),(.string p_o_1),(.string p_o_2),(.string p_o_3),(.string p_o_4),(.int .i64 p_o_5)])] false [.ag [(.i .i64),(.i .i64),(.i .i64),(.i .i64),(.i .i64),(.i .i64),(.i .u64),(.i .u64),(.i .u64),(.i .u64),(.i .u64),(.i .u64),(.i .u64),(.i .u64),(.i .u64),.b,.s,.s,.sl,.sl,.sl]] R w:=
 call_eq Tryz.checked.mixed (.seq .leaf (.seq .leaf .leaf)) Tryz.func24 (by kernel_rfl) (by kernel_rfl) h
abbrev i_record_CheckShard:FuncId:=25
def record_CheckShard (p_s_0:Int) (p_s_1:Int) (p_s_2:Int) (p_s_3:Int) (p_s_4:Int) (p_s_5:Sl) (p_s_6:Sl) (p_s_7:Sl) (p_s_8:Int) (p_s_9:Int) (p_s_10:ByteArray) (p_s_11:ByteArray) (p_s_12:Int) (p_s_13:Int) (p_s_14:Int) (p_s_15:ByteArray) (p_s_16:ByteArray) (R:TR [.sc (.i .i64)]→Pr):Pr:=
 New #[(.int .i64 p_s_0),(.int .u64 p_s_1),(.int .u64 p_s_2),(.int .u64 p_s_3),(.int .u64 p_s_4),(.slice p_s_5.p p_s_5.len p_s_5.cap),(.slice p_s_6.p p_s_6.len p_s_6.cap),(.slice p_s_7.p p_s_7.len p_s_7.cap),(.int .u64 p_s_8),(.int .u64 p_s_9),(.string p_s_10),(.string p_s_11),(.int .u64 p_s_12),(.int .u64 p_s_13),(.int .u64 p_s_14),(.string p_s_15),(.string p_s_16)] 41 fun a1=>
 Jp (σ:=Bool × Unit) (fun s3=>
 Br s3.1 (
 R (1,())) (
 LdI .u64 ((a1.add 12).add 0) fun x4=>
 Br ((x4:Int) != 0) (
 LdI .u64 (a1.add 9) fun x5=>
 Br ((x5:Int) != 0) (
 LdL (a1.add 6) fun x6=>
 Cl Pg 52 [(.slice x6.p x6.len x6.cap),(.func (.func 46) #[] #[(.pointer (some a1))])] false [.sc .b] fun r7=>
 Br (!r7.1) (
 LdL (a1.add 6) fun x8=>
 Cl Pg 53 [(.slice x8.p x8.len x8.cap),(.func (.func 54) #[] #[])] false [.sc .b] fun r9=>
 Br r9.1 (
 LdL (a1.add 7) fun x10=>
 Cl Pg 55 [(.slice x10.p x10.len x10.cap),(.func (.func 56) #[] #[])] false [.sc .b] fun r11=>
 Cl Pg 51 [(.bool r11.1)] false [.sc (.i .i64)] fun r12=>
 R (r12.1,())) (
 Cl Pg 51 [(.bool false)] false [.sc (.i .i64)] fun r13=>
 R (r13.1,()))) (
 Cl Pg 51 [(.bool false)] false [.sc (.i .i64)] fun r14=>
 R (r14.1,()))) (
 LdS ((a1.add 10).add 0) fun x15=>
 LdS ((a1.add 10).add 1) fun x16=>
 Br ((seq x15 (BA [])) && ((seq x16 (BA [])) && true)) (
 LdL (a1.add 6) fun x17=>
 Cl Pg 52 [(.slice x17.p x17.len x17.cap),(.func (.func 46) #[] #[(.pointer (some a1))])] false [.sc .b] fun r18=>
 Br (!r18.1) (
 LdL (a1.add 6) fun x19=>
 Cl Pg 53 [(.slice x19.p x19.len x19.cap),(.func (.func 54) #[] #[])] false [.sc .b] fun r20=>
 Br r20.1 (
 LdL (a1.add 7) fun x21=>
 Cl Pg 55 [(.slice x21.p x21.len x21.cap),(.func (.func 56) #[] #[])] false [.sc .b] fun r22=>
 Cl Pg 51 [(.bool r22.1)] false [.sc (.i .i64)] fun r23=>
 R (r23.1,())) (
 Cl Pg 51 [(.bool false)] false [.sc (.i .i64)] fun r24=>
 R (r24.1,()))) (
 Cl Pg 51 [(.bool false)] false [.sc (.i .i64)] fun r25=>
 R (r25.1,()))) (
 Cl Pg 51 [(.bool false)] false [.sc (.i .i64)] fun r26=>
 R (r26.1,())))) (
 LdI .u64 ((a1.add 12).add 0) fun x27=>
 LdI .u64 ((a1.add 12).add 1) fun x28=>
 LdI .u64 ((a1.add 12).add 2) fun x29=>
 LdS ((a1.add 12).add 3) fun x30=>
 LdS ((a1.add 12).add 4) fun x31=>
 Br (((x27:Int) == 0) && (((x28:Int) == 0) && (((x29:Int) == 0) && (((seq x30 (BA [])) && ((seq x31 (BA [])) && true)) && true)))) (
 LdI .u64 (a1.add 9) fun x32=>
 Br ((x32:Int) != 0) (
 LdL (a1.add 6) fun x33=>
 Cl Pg 52 [(.slice x33.p x33.len x33.cap),(.func (.func 46) #[] #[(.pointer (some a1))])] false [.sc .b] fun r34=>
 Br (!r34.1) (
 LdL (a1.add 6) fun x35=>
 Cl Pg 53 [(.slice x35.p x35.len x35.cap),(.func (.func 54) #[] #[])] false [.sc .b] fun r36=>
 Br r36.1 (
 LdL (a1.add 7) fun x37=>
 Cl Pg 55 [(.slice x37.p x37.len x37.cap),(.func (.func 56) #[] #[])] false [.sc .b] fun r38=>
 Cl Pg 51 [(.bool r38.1)] false [.sc (.i .i64)] fun r39=>
 R (r39.1,())) (
 Cl Pg 51 [(.bool false)] false [.sc (.i .i64)] fun r40=>
 R (r40.1,()))) (
 Cl Pg 51 [(.bool false)] false [.sc (.i .i64)] fun r41=>
 R (r41.1,()))) (
 LdS ((a1.add 10).add 0) fun x42=>
 LdS ((a1.add 10).add 1) fun x43=>
 Br ((seq x42 (BA [])) && ((seq x43 (BA [])) && true)) (
 LdL (a1.add 6) fun x44=>
 Cl Pg 52 [(.slice x44.p x44.len x44.cap),(.func (.func 46) #[] #[(.pointer (some a1))])] false [.sc .b] fun r45=>
 Br (!r45.1) (
 LdL (a1.add 6) fun x46=>
 Cl Pg 53 [(.slice x46.p x46.len x46.cap),(.func (.func 54) #[] #[])] false [.sc .b] fun r47=>
 Br r47.1 (
 LdL (a1.add 7) fun x48=>
 Cl Pg 55 [(.slice x48.p x48.len x48.cap),(.func (.func 56) #[] #[])] false [.sc .b] fun r49=>
 Cl Pg 51 [(.bool r49.1)] false [.sc (.i .i64)] fun r50=>
 R (r50.1,())) (
 Cl Pg 51 [(.bool false)] false [.sc (.i .i64)] fun r51=>
 R (r51.1,()))) (
 Cl Pg 51 [(.bool false)] false [.sc (.i .i64)] fun r52=>
 R (r52.1,()))) (
 Cl Pg 51 [(.bool false)] false [.sc (.i .i64)] fun r53=>
 R (r53.1,())))) (
 Cl Pg 51 [(.bool false)] false [.sc (.i .i64)] fun r54=>
 R (r54.1,()))))) fun J2=>
 LdI .i64 (a1.add 0) fun x55=>
 Br (decide ((x55:Int) < 1)) (
 J2 (true,())) (
 LdI .i64 (a1.add 0) fun x56=>
 Br (decide ((x56:Int) > 4)) (
 J2 (true,())) (
 LdL (a1.add 5) fun x57=>
 Cl Pg 44 [(.slice x57.p x57.len x57.cap)] false [.sc (.i .i64)] fun r58=>
 Br ((r58.1:Int) != 0) (
 J2 (true,())) (
 LdL (a1.add 6) fun x59=>
 Br (decide ((((x59.len:Nat):Int):Int) > 6)) (
 J2 (true,())) (
 LdL (a1.add 6) fun x60=>
 LdL (a1.add 7) fun x61=>
 Br (decide (((w64 (((x60.len:Nat):Int) + ((x61.len:Nat):Int))):Int) > 64)) (
 J2 (true,())) (
 LdS (((a1.add 12).add 3).add 0) fun x62=>
 LdS (((a1.add 12).add 3).add 1) fun x63=>
 Cl Pg 45 [(.agg #[(.string x62),(.string x63)])] false [.sc (.i .i64)] fun r64=>
 Br ((r64.1:Int) != 0) (
 J2 (true,())) (
 LdS ((a1.add 10).add 0) fun x65=>
 LdS ((a1.add 10).add 1) fun x66=>
 Cl Pg 45 [(.agg #[(.string x65),(.string x66)])] false [.sc (.i .i64)] fun r67=>
 J2 (((r67.1:Int) != 0),())))))))
theorem record_CheckShard_call (p_s_0:Int) (p_s_1:Int) (p_s_2:Int) (p_s_3:Int) (p_s_4:Int) (p_s_5:Sl) (p_s_6:Sl) (p_s_7:Sl) (p_s_8:Int) (p_s_9:Int) (p_s_10:ByteArray) (p_s_11:ByteArray) (p_s_12:Int) (p_s_13:Int) (p_s_14:Int) (p_s_15:ByteArray) (p_s_16:ByteArray) {R:TR [.sc (.i .i64)]→Pr} {w:World} (h:record_CheckShard p_s_0 p_s_1 p_s_2 p_s_3 p_s_4 p_s_5 p_s_6 p_s_7 p_s_8 p_s_9 p_s_10 p_s_11 p_s_12 p_s_13 p_s_14 p_s_15 p_s_16 R w):Cl Pg 25 [(.agg #[(.int .i64 p_s_0),(.int .u64 p_s_1),(.int .u64 p_s_2),(.int .u64 p_s_3),(.int .u64 p_s_4),(.slice p_s_5.p p_s_5.len p_s_5.cap),(.slice p_s_6.p p_s_6.len p_s_6.cap),(.slice p_s_7.p p_s_7.len p_s_7.cap),(.int .u64 p_s_8),(.int .u64 p_s_9),(.string p_s_10),(.string p_s_11),(.int .u64 p_s_12),(.int .u64 p_s_13),(.int .u64 p_s_14),(.string p_s_15),(.string p_s_16)])] false [.sc (.i .i64)] R w:=
 call_eq Tryz.checked.mixed (.seq .leaf (.seq (.seq (.join [(46,.sc .b)] .leaf) (.cond (.seq .leaf .leaf) .leaf)) (.seq .leaf (.seq .leaf .leaf)))) Tryz.func25 (by kernel_rfl) (by kernel_rfl) h
abbrev i_part_copied:FuncId:=26
def part_copied (p_s_0:Int) (p_s_1:Int) (p_s_2:Int) (p_s_3:Int) (p_s_4:Int) (p_s_5:Sl) (p_s_6:Sl) (p_s_7:Sl) (p_s_8:Int) (p_s_9:Int) (p_s_10:ByteArray) (p_s_11:ByteArray) (p_s_12:Int) (p_s_13:Int) (p_s_14:Int) (p_s_15:ByteArray) (p_s_16:ByteArray) (R:TR [.ag [(.i .i64),(.i .u64),(.i .u64),(.i .u64),(.i .u64),.sl,.sl,.sl,(.i .u64),(.i .u64),.s,.s,(.i .u64),(.i .u64),(.i .u64),.s,.s]]→Pr):Pr:=
 New #[(.int .i64 p_s_0),(.int .u64 p_s_1),(.int .u64 p_s_2),(.int .u64 p_s_3),(.int .u64 p_s_4),(.slice p_s_5.p p_s_5.len p_s_5.cap),(.slice p_s_6.p p_s_6.len p_s_6.cap),(.slice p_s_7.p p_s_7.len p_s_7.cap),(.int .u64 p_s_8),(.int .u64 p_s_9),(.string p_s_10),(.string p_s_11),(.int .u64 p_s_12),(.int .u64 p_s_13),(.int .u64 p_s_14),(.string p_s_15),(.string p_s_16)] 41 fun a1=>
 New #[(.int .i64 0),(.int .u64 0),(.int .u64 0),(.int .u64 0),(.int .u64 0),(.slice none 0 0),(.slice none 0 0),(.slice none 0 0),(.int .u64 0),(.int .u64 0),(.string (BA [])),(.string (BA [])),(.int .u64 0),(.int .u64 0),(.int .u64 0),(.string (BA [])),(.string (BA []))] 41 fun a2=>
 Dr <|
 LdL (a1.add 5) fun x3=>
 LdL (a1.add 6) fun x4=>
 LdL (a1.add 7) fun x5=>
 Cl Pg 57 [(.slice x3.p x3.len x3.cap)] false [.sc .sl] fun r6=>
 Both (LdL (a1.add 7) fun x7=>
 fun _=>((.slice x7.p x7.len x7.cap):Value)=(.slice x5.p x5.len x5.cap)) <|
 Both (LdL (a1.add 6) fun x8=>
 fun _=>((.slice x8.p x8.len x8.cap):Value)=(.slice x4.p x4.len x4.cap)) <|
 Cl Pg 58 [(.slice x4.p x4.len x4.cap)] false [.sc .sl] fun r9=>
 Both (LdL (a1.add 7) fun x10=>
 fun _=>((.slice x10.p x10.len x10.cap):Value)=(.slice x5.p x5.len x5.cap)) <|
 Cl Pg 59 [(.slice x5.p x5.len x5.cap)] false [.sc .sl] fun r11=>
 St (a1.add 5) (.slice r6.1.p r6.1.len r6.1.cap) <|
 St (a1.add 6) (.slice r9.1.p r9.1.len r9.1.cap) <|
 St (a1.add 7) (.slice r11.1.p r11.1.len r11.1.cap) <|
 LdL (a1.add 6) fun x12=>
 Lp (σ:=Int × Unit) (fun L13 s14=>
 Br (decide ((s14.1:Int) < ((x12.len:Nat):Int))) (
 Ix x12 s14.1 2 fun a15=>
 LdI .u64 (a15.add 0) fun x16=>
 LdL (a15.add 1) fun x17=>
 New #[(.int .u64 0),(.slice none 0 0)] 60 fun a18=>
 St (a18.add 0) (.int .u64 x16) <|
 St (a18.add 1) (.slice x17.p x17.len x17.cap) <|
 Dr <|
 LdL (a1.add 6) fun x19=>
 LdL (a18.add 1) fun x20=>
 Cl Pg 60 [(.slice x20.p x20.len x20.cap)] false [.sc .sl] fun r21=>
 Both (LdL (a1.add 6) fun x22=>
 fun _=>((.slice x22.p x22.len x22.cap):Value)=(.slice x19.p x19.len x19.cap)) <|
 Ix x19 s14.1 2 fun a23=>
 St (a23.add 1) (.slice r21.1.p r21.1.len r21.1.cap) <|
 L13 ((w64 (s14.1 + 1)),())) (
 LdI .i64 (a1.add 0) fun x24=>
 LdI .u64 (a1.add 1) fun x25=>
 LdI .u64 (a1.add 2) fun x26=>
 LdI .u64 (a1.add 3) fun x27=>
 LdI .u64 (a1.add 4) fun x28=>
 LdL (a1.add 5) fun x29=>
 LdL (a1.add 6) fun x30=>
 LdL (a1.add 7) fun x31=>
 LdI .u64 (a1.add 8) fun x32=>
 LdI .u64 (a1.add 9) fun x33=>
 LdS (a1.add 10) fun x34=>
 LdS (a1.add 11) fun x35=>
 LdI .u64 (a1.add 12) fun x36=>
 LdI .u64 (a1.add 13) fun x37=>
 LdI .u64 (a1.add 14) fun x38=>
 LdS (a1.add 15) fun x39=>
 LdS (a1.add 16) fun x40=>
 St (a2.add 0) (.int .i64 x24) <|
 St (a2.add 1) (.int .u64 x25) <|
 St (a2.add 2) (.int .u64 x26) <|
 St (a2.add 3) (.int .u64 x27) <|
 St (a2.add 4) (.int .u64 x28) <|
 St (a2.add 5) (.slice x29.p x29.len x29.cap) <|
 St (a2.add 6) (.slice x30.p x30.len x30.cap) <|
 St (a2.add 7) (.slice x31.p x31.len x31.cap) <|
 St (a2.add 8) (.int .u64 x32) <|
 St (a2.add 9) (.int .u64 x33) <|
 St (a2.add 10) (.string x34) <|
 St (a2.add 11) (.string x35) <|
 St (a2.add 12) (.int .u64 x36) <|
 St (a2.add 13) (.int .u64 x37) <|
 St (a2.add 14) (.int .u64 x38) <|
 St (a2.add 15) (.string x39) <|
 St (a2.add 16) (.string x40) <|
 LdI .i64 (a2.add 0) fun x41=>
 LdI .u64 (a2.add 1) fun x42=>
 LdI .u64 (a2.add 2) fun x43=>
 LdI .u64 (a2.add 3) fun x44=>
 LdI .u64 (a2.add 4) fun x45=>
 LdL (a2.add 5) fun x46=>
 LdL (a2.add 6) fun x47=>
 LdL (a2.add 7) fun x48=>
 LdI .u64 (a2.add 8) fun x49=>
 LdI .u64 (a2.add 9) fun x50=>
 LdS (a2.add 10) fun x51=>
 LdS (a2.add 11) fun x52=>
 LdI .u64 (a2.add 12) fun x53=>
 LdI .u64 (a2.add 13) fun x54=>
 LdI .u64 (a2.add 14) fun x55=>
 LdS (a2.add 15) fun x56=>
 LdS (a2.add 16) fun x57=>
 R ((x41,x42,x43,x44,x45,x46,x47,x48,x49,x50,x51,x52,x53,x54,x55,x56,x57,()),()))) (0,())
theorem part_copied_call (p_s_0:Int) (p_s_1:Int) (p_s_2:Int) (p_s_3:Int) (p_s_4:Int) (p_s_5:Sl) (p_s_6:Sl) (p_s_7:Sl) (p_s_8:Int) (p_s_9:Int) (p_s_10:ByteArray) (p_s_11:ByteArray) (p_s_12:Int) (p_s_13:Int) (p_s_14:Int) (p_s_15:ByteArray) (p_s_16:ByteArray) {R:TR [.ag [(.i .i64),(.i .u64),(.i .u64),(.i .u64),(.i .u64),.sl,.sl,.sl,(.i .u64),(.i .u64),.s,.s,(.i .u64),(.i .u64),(.i .u64),.s,.s]]→Pr} {w:World} (h:part_copied p_s_0 p_s_1 p_s_2 p_s_3 p_s_4 p_s_5 p_s_6 p_s_7 p_s_8 p_s_9 p_s_10 p_s_11 p_s_12 p_s_13 p_s_14 p_s_15 p_s_16 R w):Cl Pg 26 [(.agg #[(.int .i64 p_s_0),(.int .u64 p_s_1),(.int .u64 p_s_2),(.int .u64 p_s_3),(.int .u64 p_s_4),(.slice p_s_5.p p_s_5.len p_s_5.cap),(.slice p_s_6.p p_s_6.len p_s_6.cap),(.slice p_s_7.p p_s_7.len p_s_7.cap),(.int .u64 p_s_8),(.int .u64 p_s_9),(.string p_s_10),(.string p_s_11),(.int .u64 p_s_12),(.int .u64 p_s_13),(.int .u64 p_s_14),(.string p_s_15),(.string p_s_16)])] false [.ag [(.i .i64),(.i .u64),(.i .u64),(.i .u64),(.i .u64),.sl,.sl,.sl,(.i .u64),(.i .u64),.s,.s,(.i .u64),(.i .u64),(.i .u64),.s,.s]] R w:=
 call_eq Tryz.checked.mixed (.seq .leaf (.seq .leaf (.seq (.seq .leaf (.block (.loop [(20,.sc (.i .i64))] (.seq .leaf (.seq (.cond .leaf .leaf) (.seq (.block (.seq .leaf .leaf)) .leaf)))))) (.seq .leaf .leaf)))) Tryz.func26 (by kernel_rfl) (by kernel_rfl) h
abbrev i_locks_New:FuncId:=27
def locks_New  (R:TR [.sc .p]→Pr):Pr:=
 New #[(.slice none 0 0),(.slice none 0 0)] 141 fun a1=>
 R ((some a1),())
theorem locks_New_call  {R:TR [.sc .p]→Pr} {w:World} (h:locks_New  R w):Cl Pg 27 [] false [.sc .p] R w:=
 call_eq Tryz.checked.mixed (.seq .leaf (.seq .leaf .leaf)) Tryz.func27 (by kernel_rfl) (by kernel_rfl) h
abbrev i_op_Locks:FuncId:=28
def op_Locks (p_l:Sl) (R:TR [.sc .sl,.sc (.i .i64)]→Pr):Pr:=
 Lp (σ:=Sl × Int × Sl × Int × Unit) (fun L1 s2=>
 Br (decide ((s2.2.2.2.1:Int) < ((p_l.len:Nat):Int))) (
 Ix p_l s2.2.2.2.1 6 fun a3=>
 LdI .i64 (a3.add 0) fun x4=>
 LdS (a3.add 1) fun x5=>
 LdS (a3.add 2) fun x6=>
 LdS (a3.add 3) fun x7=>
 LdS (a3.add 4) fun x8=>
 LdI .i64 (a3.add 5) fun x9=>
 New #[(.int .i64 0),(.string (BA [])),(.string (BA [])),(.string (BA [])),(.string (BA [])),(.int .i64 0)] 81 fun a10=>
 St (a10.add 0) (.int .i64 x4) <|
 St (a10.add 1) (.string x5) <|
 St (a10.add 2) (.string x6) <|
 St (a10.add 3) (.string x7) <|
 St (a10.add 4) (.string x8) <|
 St (a10.add 5) (.int .i64 x9) <|
 LdI .i64 (a10.add 0) fun x11=>
 LdS (a10.add 1) fun x12=>
 LdS (a10.add 2) fun x13=>
 LdS (a10.add 3) fun x14=>
 LdS (a10.add 4) fun x15=>
 LdI .i64 (a10.add 5) fun x16=>
 Cl Pg 61 [(.agg #[(.int .i64 x11),(.string x12),(.string x13),(.string x14),(.string x15),(.int .i64 x16)])] true [.ag [.s,.s],.sc (.i .i64)] fun r17=>
 New #[(.string (BA [])),(.string (BA []))] 37 fun a18=>
 St (a18.add 0) (.string r17.1.1) <|
 St (a18.add 1) (.string r17.1.2.1) <|
 Br ((r17.2.1:Int) != 0) (
 R (⟨none,0,0⟩,r17.2.1,())) (
 Dr <|
 LdS (a18.add 0) fun x19=>
 LdS (a18.add 1) fun x20=>
 LdI .i64 (a10.add 0) fun x21=>
 LdS (a10.add 1) fun x22=>
 LdS (a10.add 2) fun x23=>
 LdS (a10.add 3) fun x24=>
 LdS (a10.add 4) fun x25=>
 LdI .i64 (a10.add 5) fun x26=>
 Cl Pg 62 [(.agg #[(.int .i64 x21),(.string x22),(.string x23),(.string x24),(.string x25),(.int .i64 x26)])] false [.sc .b] fun r27=>
 Both (LdS (a18.add 0) fun x28=>
 LdS (a18.add 1) fun x29=>
 fun _=>((.agg #[(.string x28),(.string x29)]):Value)=(.agg #[(.string x19),(.string x20)])) <|
 New #[(.string x19),(.string x20),(.bool r27.1)] 99 fun a30=>
 App 99 3 40 (zc Pg 99) s2.2.2.1 1 (srcS (some a30) 1 3) fun r31=>
 L1 (s2.1,s2.2.1,r31,(w64 (s2.2.2.2.1 + 1)),()))) (
 R (s2.2.2.1,0,()))) (⟨none,0,0⟩,0,⟨none,0,0⟩,0,())
theorem op_Locks_call (p_l:Sl) {R:TR [.sc .sl,.sc (.i .i64)]→Pr} {w:World} (h:op_Locks p_l R w):Cl Pg 28 [(.slice p_l.p p_l.len p_l.cap)] true [.sc .sl,.sc (.i .i64)] R w:=
 call_eq Tryz.checked.mixed (.seq .leaf (.seq .leaf (.seq (.seq .leaf (.block (.loop [(2,.sc .sl),(3,.sc (.i .i64)),(4,.sc .sl),(11,.sc (.i .i64))] (.seq .leaf (.seq (.cond .leaf .leaf) (.seq (.block (.seq .leaf (.seq .leaf (.seq (.seq .leaf (.cond (.seq .leaf .leaf) .leaf)) .leaf)))) .leaf)))))) (.seq .leaf .leaf)))) Tryz.func28 (by kernel_rfl) (by kernel_rfl) h
abbrev i_locks_Table_Ask:FuncId:=29
def locks_Table_Ask (p_t:Option Addr) (p_txn:Int) (p_l_0:ByteArray) (p_l_1:ByteArray) (p_l_2:Bool) (R:TR [.sc (.i .i64),.sc .sl,.sc .sl,.sc (.i .i64)]→Pr):Pr:=
 New #[(.string p_l_0),(.string p_l_1),(.bool p_l_2)] 99 fun a1=>
 LdS ((a1.add 0).add 0) fun x2=>
 LdS ((a1.add 0).add 1) fun x3=>
 Cl Pg 45 [(.agg #[(.string x2),(.string x3)])] false [.sc (.i .i64)] fun r4=>
 Br ((r4.1:Int) != 0) (
 R (0,⟨none,0,0⟩,⟨none,0,0⟩,21,())) (
 Dr <|
 Nn p_t fun a5=>
 LdL (a5.add 1) fun x6=>
 Cl Pg 64 [(.int .u64 p_txn)] false [.sc .v] fun r7=>
 Both (LdL (a5.add 1) fun x8=>
 fun _=>((.slice x8.p x8.len x8.cap):Value)=(.slice x6.p x6.len x6.cap)) <|
 Cl Pg 63 [(.slice x6.p x6.len x6.cap),r7.1] false [.sc .b] fun r9=>
 Br r9.1 (
 R (0,⟨none,0,0⟩,⟨none,0,0⟩,4,())) (
 LdS (a1.add 0) fun x10=>
 LdS (a1.add 1) fun x11=>
 LdB (a1.add 2) fun x12=>
 New #[(.int .u64 0),(.string (BA [])),(.string (BA [])),(.bool false)] 146 fun a13=>
 St (a13.add 0) (.int .u64 p_txn) <|
 St (a13.add 1) (.string x10) <|
 St (a13.add 2) (.string x11) <|
 St (a13.add 3) (.bool x12) <|
 Nn p_t fun a14=>
 LdL (a14.add 0) fun x15=>
 Lp (σ:=Int × Sl × Sl × Int × Int × Bool × Int × Unit) (fun L16 s17=>
 Br (decide ((s17.2.2.2.2.2.2.1:Int) < ((x15.len:Nat):Int))) (
 Jp (σ:=Int × Sl × Sl × Int × Int × Bool × Unit) (fun s19=>
 L16 (s19.1,s19.2.1,s19.2.2.1,s19.2.2.2.1,s19.2.2.2.2.1,s19.2.2.2.2.2.1,(w64 (s17.2.2.2.2.2.2.1 + 1)),())) fun J18=>
 Ix x15 s17.2.2.2.2.2.2.1 4 fun a20=>
 LdI .u64 (a20.add 0) fun x21=>
 LdS (a20.add 1) fun x22=>
 LdS (a20.add 2) fun x23=>
 LdB (a20.add 3) fun x24=>
 New #[(.int .u64 0),(.string (BA [])),(.string (BA [])),(.bool false)] 146 fun a25=>
 St (a25.add 0) (.int .u64 x21) <|
 St (a25.add 1) (.string x22) <|
 St (a25.add 2) (.string x23) <|
 St (a25.add 3) (.bool x24) <|
 Jp (σ:=Bool × Unit) (fun s27=>
 Br s27.1 (
 R (1,⟨none,0,0⟩,⟨none,0,0⟩,0,())) (
 Dr <|
 LdI .u64 (a13.add 0) fun x28=>
 LdS (a13.add 1) fun x29=>
 LdS (a13.add 2) fun x30=>
 LdB (a13.add 3) fun x31=>
 LdI .u64 (a25.add 0) fun x32=>
 LdS (a25.add 1) fun x33=>
 LdS (a25.add 2) fun x34=>
 LdB (a25.add 3) fun x35=>
 Cl Pg 66 [(.agg #[(.int .u64 x28),(.string x29),(.string x30),(.bool x31)])] false [.sc .v] fun r36=>
 Both (LdI .u64 (a25.add 0) fun x37=>
 LdS (a25.add 1) fun x38=>
 LdS (a25.add 2) fun x39=>
 LdB (a25.add 3) fun x40=>
 fun _=>((.agg #[(.int .u64 x37),(.string x38),(.string x39),(.bool x40)]):Value)=(.agg #[(.int .u64 x32),(.string x33),(.string x34),(.bool x35)])) <|
 CallV Pg r36.1 [(.agg #[(.int .u64 x32),(.string x33),(.string x34),(.bool x35)])] false [.sc .b] fun r41=>
 Br r41.1 (
 Br s17.2.2.2.2.2.1 (
 LdI .u64 (a25.add 0) fun x42=>
 J18 (s17.1,s17.2.1,s17.2.2.1,s17.2.2.2.1,(w64 (s17.2.2.2.2.1 + 1)),(decide ((x42:Int) > p_txn)),())) (
 J18 (s17.1,s17.2.1,s17.2.2.1,s17.2.2.2.1,(w64 (s17.2.2.2.2.1 + 1)),false,()))) (
 J18 (s17.1,s17.2.1,s17.2.2.1,s17.2.2.2.1,s17.2.2.2.2.1,s17.2.2.2.2.2.1,())))) fun J26=>
 LdI .u64 (a25.add 0) fun x43=>
 Br ((x43:Int) == p_txn) (
 LdS (((a25.add 1).add 0).add 0) fun x44=>
 LdS (((a25.add 1).add 0).add 1) fun x45=>
 LdS ((a1.add 0).add 0) fun x46=>
 LdS ((a1.add 0).add 1) fun x47=>
 Cl Pg 65 [(.agg #[(.string x44),(.string x45)]),(.agg #[(.string x46),(.string x47)])] false [.sc .b] fun r48=>
 Br r48.1 (
 LdB ((a25.add 1).add 2) fun x49=>
 Br x49 (
 J26 (true,())) (
 LdB (a1.add 2) fun x50=>
 J26 ((!x50),()))) (
 J26 (false,()))) (
 J26 (false,()))) (
 Dr <|
 Nn p_t fun a51=>
 LdL (a51.add 0) fun x52=>
 Nn p_t fun a53=>
 LdL (a53.add 1) fun x54=>
 Br (decide (((w64 (((x52.len:Nat):Int) + ((x54.len:Nat):Int))):Int) ≥ 192)) (
 R (3,⟨none,0,0⟩,⟨none,0,0⟩,0,())) (
 Br ((s17.2.2.2.2.1:Int) == 0) (
 LdI .u64 (a13.add 0) fun x55=>
 LdS (a13.add 1) fun x56=>
 LdS (a13.add 2) fun x57=>
 LdB (a13.add 3) fun x58=>
 Cl Pg 68 [(.pointer p_t),(.agg #[(.int .u64 x55),(.string x56),(.string x57),(.bool x58)])] false [.sc .sl] fun r59=>
 Cl Pg 67 [(.pointer p_t),(.slice r59.1.p r59.1.len r59.1.cap)] true [.sc .sl,.sc .sl] fun r60=>
 R (1,r60.1,r60.2.1,0,())) (
 Br s17.2.2.2.2.2.1 (
 Nn p_t fun a61=>
 LdL (a61.add 1) fun x62=>
 Cl Pg 69 [(.slice x62.p x62.len x62.cap),(.int .u64 p_txn),(.func (.func 70) #[] #[])] true [.sc (.i .i64),.sc .b] fun r63=>
 Dr <|
 Nn p_t fun a64=>
 LdL (a64.add 1) fun x65=>
 LdI .u64 (a13.add 0) fun x66=>
 LdS (a13.add 1) fun x67=>
 LdS (a13.add 2) fun x68=>
 LdB (a13.add 3) fun x69=>
 New #[(.int .u64 x66),(.string x67),(.string x68),(.bool x69)] 146 fun a70=>
 Both (LdL (a64.add 1) fun x71=>
 fun _=>((.slice x71.p x71.len x71.cap):Value)=(.slice x65.p x65.len x65.cap)) <|
 Cl Pg 72 [(.slice x65.p x65.len x65.cap),(.int .i64 r63.1),(.slice (some a70) 1 1)] false [.sc .sl] fun r72=>
 Nn p_t fun a73=>
 St (a73.add 1) (.slice r72.1.p r72.1.len r72.1.cap) <|
 R (2,⟨none,0,0⟩,⟨none,0,0⟩,0,())) (
 R (3,⟨none,0,0⟩,⟨none,0,0⟩,0,())))))) (0,⟨none,0,0⟩,⟨none,0,0⟩,0,0,true,0,())))
theorem locks_Table_Ask_call (p_t:Option Addr) (p_txn:Int) (p_l_0:ByteArray) (p_l_1:ByteArray) (p_l_2:Bool) {R:TR [.sc (.i .i64),.sc .sl,.sc .sl,.sc (.i .i64)]→Pr} {w:World} (h:locks_Table_Ask p_t p_txn p_l_0 p_l_1 p_l_2 R w):Cl Pg 29 [(.pointer p_t),(.int .u64 p_txn),(.agg #[(.string p_l_0),(.string p_l_1),(.bool p_l_2)])] true [.sc (.i .i64),.sc .sl,.sc .sl,.sc (.i .i64)] R w:=
 call_eq Tryz.checked.mixed (.seq .leaf (.seq (.seq .leaf (.cond (.seq .leaf .leaf) .leaf)) (.seq (.seq .leaf (.cond (.seq .leaf .leaf) .leaf)) (.seq .leaf (.seq .leaf (.seq (.seq .leaf (.block (.loop [(6,.sc (.i .i64)),(7,.sc .sl),(8,.sc .sl),(9,.sc (.i .i64)),(11,.sc (.i .i64)),(12,.sc .b),(36,.sc (.i .i64))] (.seq .leaf (.seq (.cond .leaf .leaf) (.seq (.join [(6,.sc (.i .i64)),(7,.sc .sl),(8,.sc .sl),(9,.sc (.i .i64)),(11,.sc (.i .i64)),(12,.sc .b)] (.block (.seq .leaf (.seq (.seq (.join [(61,.sc .b)] .leaf) (.cond (.seq .leaf .leaf) .leaf)) (.seq .leaf (.cond (.seq .leaf .leaf) .leaf)))))) .leaf)))))) (.seq (.block (.seq .leaf (.cond (.seq .leaf .leaf) (.seq .leaf (.cond (.seq .leaf (.seq .leaf .leaf)) (.seq .leaf (.cond (.seq .leaf (.seq .leaf (.seq .leaf .leaf))) .leaf))))))) (.seq .leaf .leaf)))))))) Tryz.func29 (by kernel_rfl) (by kernel_rfl) h
abbrev i_part_deeds:FuncId:=30
def part_deeds  (R:TR [.sc .m]→Pr):Pr:=
 NewObj (.map #[] 0) fun m1=>
 MSet (.int .i64) (some m1) (.int .i64 3) (.func (.func 73) #[] #[]) <|
 MSet (.int .i64) (some m1) (.int .i64 5) (.func (.func 74) #[] #[]) <|
 MSet (.int .i64) (some m1) (.int .i64 8) (.func (.func 75) #[] #[]) <|
 MSet (.int .i64) (some m1) (.int .i64 10) (.func (.func 76) #[] #[]) <|
 MSet (.int .i64) (some m1) (.int .i64 11) (.func (.func 77) #[] #[]) <|
 MSet (.int .i64) (some m1) (.int .i64 12) (.func (.func 78) #[] #[]) <|
 R ((some m1),())
theorem part_deeds_call  {R:TR [.sc .m]→Pr} {w:World} (h:part_deeds  R w):Cl Pg 30 [] false [.sc .m] R w:=
 call_eq Tryz.checked.mixed (.seq .leaf (.seq .leaf .leaf)) Tryz.func30 (by kernel_rfl) (by kernel_rfl) h
abbrev i_wire_Check:FuncId:=31
def wire_Check (p_m_0:Int) (p_m_1:Int) (p_m_2:Int) (p_m_3:Int) (p_m_4:Int) (p_m_5:Int) (p_m_6:Int) (p_m_7:Int) (p_m_8:Int) (p_m_9:Int) (p_m_10:Int) (p_m_11:Int) (p_m_12:Int) (p_m_13:Int) (p_m_14:Int) (p_m_15:Bool) (p_m_16:ByteArray) (p_m_17:ByteArray) (p_m_18:Sl) (p_m_19:Sl) (p_m_20:Sl) (R:TR [.sc (.i .i64)]→Pr):Pr:=
 New #[(.int .i64 p_m_0),(.int .i64 p_m_1),(.int .i64 p_m_2),(.int .i64 p_m_3),(.int .i64 p_m_4),(.int .i64 p_m_5),(.int .u64 p_m_6),(.int .u64 p_m_7),(.int .u64 p_m_8),(.int .u64 p_m_9),(.int .u64 p_m_10),(.int .u64 p_m_11),(.int .u64 p_m_12),(.int .u64 p_m_13),(.int .u64 p_m_14),(.bool p_m_15),(.string p_m_16),(.string p_m_17),(.slice p_m_18.p p_m_18.len p_m_18.cap),(.slice p_m_19.p p_m_19.len p_m_19.cap),(.slice p_m_20.p p_m_20.len p_m_20.cap)] 47 fun a1=>
 LdI .i64 (a1.add 0) fun x2=>
 Cl Pg 79 [(.int .i64 x2)] true [.ag [.s,.v,.v,.v],.sc .b] fun r3=>
 New #[(.string (BA [])),.nilFunc,.nilFunc,.nilFunc] 162 fun a4=>
 St (a4.add 0) (.string r3.1.1) <|
 St (a4.add 1) r3.1.2.1 <|
 St (a4.add 2) r3.1.2.2.1 <|
 St (a4.add 3) r3.1.2.2.2.1 <|
 Jp (σ:=Bool × Unit) (fun s6=>
 Br s6.1 (
 R (180,())) (
 Cl Pg 80 [] false [.sc .m] fun r7=>
 RgM r7.1 fun a8=>
 Lp (σ:=Int × Unit) (fun L9 s10=>
 NxM a8 (fun v11 v12=>
 EnM a8 fun v13 v14=>
 Ty (.i .i32) v13 fun x15=>
 TyA [.v,.v,.v] v14 fun y16=>
 New #[.nilFunc,.nilFunc,.nilFunc] 171 fun a17=>
 St (a17.add 0) y16.1 <|
 St (a17.add 1) y16.2.1 <|
 St (a17.add 2) y16.2.2.1 <|
 Jp (σ:=Bool × Unit) (fun s19=>
 Br s19.1 (
 R (180,())) (
 L9 (s10.1,()))) fun J18=>
 LdS (a4.add 0) fun x20=>
 StoU 21 x20 fun r21=>
 Cl Pg 81 [(.slice r21.p r21.len r21.cap),(.int .i32 x15)] false [.sc .b] fun r22=>
 Br (!r22.1) (
 LdV (a17.add 2) fun x23=>
 CallV Pg x23 [(.pointer (some a1))] false [.sc .b] fun r24=>
 J18 ((!r24.1),())) (
 J18 (false,()))) (
 R (0,()))) (0,()))) fun J5=>
 Br (!r3.2.1) (
 J5 (true,())) (
 LdV (a4.add 1) fun x25=>
 LdI .i64 (a1.add 1) fun x26=>
 CallV Pg x25 [(.int .i64 x26)] false [.sc .b] fun r27=>
 Br (!r27.1) (
 J5 (true,())) (
 LdV (a4.add 2) fun x28=>
 LdI .i64 (a1.add 2) fun x29=>
 CallV Pg x28 [(.int .i64 x29)] false [.sc .b] fun r30=>
 Br (!r30.1) (
 J5 (true,())) (
 LdI .i64 (a1.add 3) fun x31=>
 Br ((x31:Int) != 0) (
 J5 (true,())) (
 LdV (a4.add 3) fun x32=>
 LdI .i64 (a1.add 0) fun x33=>
 LdI .i64 (a1.add 1) fun x34=>
 LdI .i64 (a1.add 2) fun x35=>
 LdI .i64 (a1.add 3) fun x36=>
 LdI .i64 (a1.add 4) fun x37=>
 LdI .i64 (a1.add 5) fun x38=>
 LdI .u64 (a1.add 6) fun x39=>
 LdI .u64 (a1.add 7) fun x40=>
 LdI .u64 (a1.add 8) fun x41=>
 LdI .u64 (a1.add 9) fun x42=>
 LdI .u64 (a1.add 10) fun x43=>
 LdI .u64 (a1.add 11) fun x44=>
 LdI .u64 (a1.add 12) fun x45=>
 LdI .u64 (a1.add 13) fun x46=>
 LdI .u64 (a1.add 14) fun x47=>
 LdB (a1.add 15) fun x48=>
 LdS (a1.add 16) fun x49=>
 LdS (a1.add 17) fun x50=>
 LdL (a1.add 18) fun x51=>
 LdL (a1.add 19) fun x52=>
 LdL (a1.add 20) fun x53=>
 CallV Pg x32 [(.agg #[(.int .i64 x33),(.int .i64 x34),(.int .i64 x35),(.int .i64 x36),(.int .i64 x37),(.int .i64 x38),(.int .u64 x39),(.int .u64 x40),(.int .u64 x41),(.int .u64 x42),(.int .u64 x43),(.int .u64 x44),(.int .u64 x45),(.int .u64 x46),(.int .u64 x47),(.bool x48),(.string x49),(.string x50),(.slice x51.p x51.len x51.cap),(.slice x52.p x52.len x52.cap),(.slice x53.p x53.len x53.cap)])] false [.sc .b] fun r54=>
 J5 ((!r54.1),())))))
theorem wire_Check_call (p_m_0:Int) (p_m_1:Int) (p_m_2:Int) (p_m_3:Int) (p_m_4:Int) (p_m_5:Int) (p_m_6:Int) (p_m_7:Int) (p_m_8:Int) (p_m_9:Int) (p_m_10:Int) (p_m_11:Int) (p_m_12:Int) (p_m_13:Int) (p_m_14:Int) (p_m_15:Bool) (p_m_16:ByteArray) (p_m_17:ByteArray) (p_m_18:Sl) (p_m_19:Sl) (p_m_20:Sl) {R:TR [.sc (.i .i64)]→Pr} {w:World} (h:wire_Check p_m_0 p_m_1 p_m_2 p_m_3 p_m_4 p_m_5 p_m_6 p_m_7 p_m_8 p_m_9 p_m_10 p_m_11 p_m_12 p_m_13 p_m_14 p_m_15 p_m_16 p_m_17 p_m_18 p_m_19 p_m_20 R w):Cl Pg 31 [(.agg #[(.int .i64 p_m_0),(.int .i64 p_m_1),(.int .i64 p_m_2),(.int .i64 p_m_3),(.int .i64 p_m_4),(.int .i64 p_m_5),(.int .u64 p_m_6),(.int .u64 p_m_7),(.int .u64 p_m_8),(.int .u64 p_m_9),(.int .u64 p_m_10),(.int .u64 p_m_11),(.int .u64 p_m_12),(.int .u64 p_m_13),(.int .u64 p_m_14),(.bool p_m_15),(.string p_m_16),(.string p_m_17),(.slice p_m_18.p p_m_18.len p_m_18.cap),(.slice p_m_19.p p_m_19.len p_m_19.cap),(.slice p_m_20.p p_m_20.len p_m_20.cap)])] false [.sc (.i .i64)] R w:=
 call_eq Tryz.checked.mixed (.seq .leaf (.seq .leaf (.seq (.seq (.join [(42,.sc .b)] .leaf) (.cond (.seq .leaf .leaf) .leaf)) (.seq (.seq .leaf (.block (.loop [(2,.sc (.i .i64))] (.seq .leaf (.seq (.cond .leaf .leaf) (.block (.seq .leaf (.seq (.join [(61,.sc .b)] .leaf) (.cond (.seq .leaf .leaf) .leaf))))))))) (.seq .leaf .leaf))))) Tryz.func31 (by kernel_rfl) (by kernel_rfl) h
abbrev i_part_Machine_do:FuncId:=32
def part_Machine_do (p_m:Option Addr) (p_something:Value) (R:TR [.ag [.sl,.sl,.b],.sc (.i .i64)]→Pr):Pr:=
 New #[(.slice none 0 0),(.slice none 0 0),(.bool false)] 52 fun a1=>
 Nn p_m fun a2=>
 LdI .i64 ((a2.add 0).add 0) fun x3=>
 LdI .u64 ((a2.add 0).add 1) fun x4=>
 LdI .u64 ((a2.add 0).add 2) fun x5=>
 LdI .u64 ((a2.add 0).add 3) fun x6=>
 LdI .u64 ((a2.add 0).add 4) fun x7=>
 LdL ((a2.add 0).add 5) fun x8=>
 LdL ((a2.add 0).add 6) fun x9=>
 LdL ((a2.add 0).add 7) fun x10=>
 LdI .u64 ((a2.add 0).add 8) fun x11=>
 LdI .u64 ((a2.add 0).add 9) fun x12=>
 LdS ((a2.add 0).add 10) fun x13=>
 LdS ((a2.add 0).add 11) fun x14=>
 LdI .u64 ((a2.add 0).add 12) fun x15=>
 LdI .u64 ((a2.add 0).add 13) fun x16=>
 LdI .u64 ((a2.add 0).add 14) fun x17=>
 LdS ((a2.add 0).add 15) fun x18=>
 LdS ((a2.add 0).add 16) fun x19=>
 Cl Pg 26 [(.agg #[(.int .i64 x3),(.int .u64 x4),(.int .u64 x5),(.int .u64 x6),(.int .u64 x7),(.slice x8.p x8.len x8.cap),(.slice x9.p x9.len x9.cap),(.slice x10.p x10.len x10.cap),(.int .u64 x11),(.int .u64 x12),(.string x13),(.string x14),(.int .u64 x15),(.int .u64 x16),(.int .u64 x17),(.string x18),(.string x19)])] false [.ag [(.i .i64),(.i .u64),(.i .u64),(.i .u64),(.i .u64),.sl,.sl,.sl,(.i .u64),(.i .u64),.s,.s,(.i .u64),(.i .u64),(.i .u64),.s,.s]] fun r20=>
 New #[(.int .i64 0),(.int .u64 0),(.int .u64 0),(.int .u64 0),(.int .u64 0),(.slice none 0 0),(.slice none 0 0),(.slice none 0 0),(.int .u64 0),(.int .u64 0),(.string (BA [])),(.string (BA [])),(.int .u64 0),(.int .u64 0),(.int .u64 0),(.string (BA [])),(.string (BA []))] 41 fun a21=>
 St (a21.add 0) (.int .i64 r20.1.1) <|
 St (a21.add 1) (.int .u64 r20.1.2.1) <|
 St (a21.add 2) (.int .u64 r20.1.2.2.1) <|
 St (a21.add 3) (.int .u64 r20.1.2.2.2.1) <|
 St (a21.add 4) (.int .u64 r20.1.2.2.2.2.1) <|
 St (a21.add 5) (.slice r20.1.2.2.2.2.2.1.p r20.1.2.2.2.2.2.1.len r20.1.2.2.2.2.2.1.cap) <|
 St (a21.add 6) (.slice r20.1.2.2.2.2.2.2.1.p r20.1.2.2.2.2.2.2.1.len r20.1.2.2.2.2.2.2.1.cap) <|
 St (a21.add 7) (.slice r20.1.2.2.2.2.2.2.2.1.p r20.1.2.2.2.2.2.2.2.1.len r20.1.2.2.2.2.2.2.2.1.cap) <|
 St (a21.add 8) (.int .u64 r20.1.2.2.2.2.2.2.2.2.1) <|
 St (a21.add 9) (.int .u64 r20.1.2.2.2.2.2.2.2.2.2.1) <|
 St (a21.add 10) (.string r20.1.2.2.2.2.2.2.2.2.2.2.1) <|
 St (a21.add 11) (.string r20.1.2.2.2.2.2.2.2.2.2.2.2.1) <|
 St (a21.add 12) (.int .u64 r20.1.2.2.2.2.2.2.2.2.2.2.2.2.1) <|
 St (a21.add 13) (.int .u64 r20.1.2.2.2.2.2.2.2.2.2.2.2.2.2.1) <|
 St (a21.add 14) (.int .u64 r20.1.2.2.2.2.2.2.2.2.2.2.2.2.2.2.1) <|
 St (a21.add 15) (.string r20.1.2.2.2.2.2.2.2.2.2.2.2.2.2.2.2.1) <|
 St (a21.add 16) (.string r20.1.2.2.2.2.2.2.2.2.2.2.2.2.2.2.2.2.1) <|
 Nn p_m fun a22=>
 St ((a22.add 21).add 0) (.slice none 0 0) <|
 St ((a22.add 21).add 1) (.slice none 0 0) <|
 St ((a22.add 21).add 2) (.bool false) <|
 CallV Pg p_something [] true [] fun r23=>
 Nn p_m fun a24=>
 LdI .i64 (a24.add 25) fun x25=>
 Br ((x25:Int) != 0) (
 Dr <|
 Nn p_m fun a26=>
 LdI .i64 (a26.add 25) fun x27=>
 St (a1.add 0) (.slice none 0 0) <|
 St (a1.add 1) (.slice none 0 0) <|
 St (a1.add 2) (.bool false) <|
 Both (LdI .i64 (a26.add 25) fun x28=>
 fun _=>((.int .i64 x28):Value)=(.int .i64 x27)) <|
 LdL (a1.add 0) fun x29=>
 LdL (a1.add 1) fun x30=>
 LdB (a1.add 2) fun x31=>
 R ((x29,x30,x31,()),x27,())) (
 Nn p_m fun a32=>
 LdL ((a32.add 21).add 0) fun x33=>
 LdL ((a32.add 21).add 1) fun x34=>
 LdB ((a32.add 21).add 2) fun x35=>
 New #[(.slice none 0 0),(.slice none 0 0),(.bool false)] 52 fun a36=>
 St (a36.add 0) (.slice x33.p x33.len x33.cap) <|
 St (a36.add 1) (.slice x34.p x34.len x34.cap) <|
 St (a36.add 2) (.bool x35) <|
 Nn p_m fun a37=>
 St ((a37.add 21).add 0) (.slice none 0 0) <|
 St ((a37.add 21).add 1) (.slice none 0 0) <|
 St ((a37.add 21).add 2) (.bool false) <|
 Jp (σ:=Unit) (fun s39=>
 LdL (a36.add 0) fun x40=>
 LdL (a36.add 1) fun x41=>
 LdB (a36.add 2) fun x42=>
 St (a1.add 0) (.slice x40.p x40.len x40.cap) <|
 St (a1.add 1) (.slice x41.p x41.len x41.cap) <|
 St (a1.add 2) (.bool x42) <|
 LdL (a1.add 0) fun x43=>
 LdL (a1.add 1) fun x44=>
 LdB (a1.add 2) fun x45=>
 R ((x43,x44,x45,()),0,())) fun J38=>
 Dr <|
 LdL (a36.add 1) fun x46=>
 Br (decide ((((x46.len:Nat):Int):Int) > 0)) (
 St (a36.add 2) (.bool true) <|
 J38 ()) (
 LdI .i64 (a21.add 0) fun x47=>
 LdI .u64 (a21.add 1) fun x48=>
 LdI .u64 (a21.add 2) fun x49=>
 LdI .u64 (a21.add 3) fun x50=>
 LdI .u64 (a21.add 4) fun x51=>
 LdL (a21.add 5) fun x52=>
 LdL (a21.add 6) fun x53=>
 LdL (a21.add 7) fun x54=>
 LdI .u64 (a21.add 8) fun x55=>
 LdI .u64 (a21.add 9) fun x56=>
 LdS (a21.add 10) fun x57=>
 LdS (a21.add 11) fun x58=>
 LdI .u64 (a21.add 12) fun x59=>
 LdI .u64 (a21.add 13) fun x60=>
 LdI .u64 (a21.add 14) fun x61=>
 LdS (a21.add 15) fun x62=>
 LdS (a21.add 16) fun x63=>
 Nn p_m fun a64=>
 LdI .i64 ((a64.add 0).add 0) fun x65=>
 LdI .u64 ((a64.add 0).add 1) fun x66=>
 LdI .u64 ((a64.add 0).add 2) fun x67=>
 LdI .u64 ((a64.add 0).add 3) fun x68=>
 LdI .u64 ((a64.add 0).add 4) fun x69=>
 LdL ((a64.add 0).add 5) fun x70=>
 LdL ((a64.add 0).add 6) fun x71=>
 LdL ((a64.add 0).add 7) fun x72=>
 LdI .u64 ((a64.add 0).add 8) fun x73=>
 LdI .u64 ((a64.add 0).add 9) fun x74=>
 LdS ((a64.add 0).add 10) fun x75=>
 LdS ((a64.add 0).add 11) fun x76=>
 LdI .u64 ((a64.add 0).add 12) fun x77=>
 LdI .u64 ((a64.add 0).add 13) fun x78=>
 LdI .u64 ((a64.add 0).add 14) fun x79=>
 LdS ((a64.add 0).add 15) fun x80=>
 LdS ((a64.add 0).add 16) fun x81=>
 Cl Pg 82 [(.agg #[(.int .i64 x47),(.int .u64 x48),(.int .u64 x49),(.int .u64 x50),(.int .u64 x51),(.slice x52.p x52.len x52.cap),(.slice x53.p x53.len x53.cap),(.slice x54.p x54.len x54.cap),(.int .u64 x55),(.int .u64 x56),(.string x57),(.string x58),(.int .u64 x59),(.int .u64 x60),(.int .u64 x61),(.string x62),(.string x63)]),(.agg #[(.int .i64 x65),(.int .u64 x66),(.int .u64 x67),(.int .u64 x68),(.int .u64 x69),(.slice x70.p x70.len x70.cap),(.slice x71.p x71.len x71.cap),(.slice x72.p x72.len x72.cap),(.int .u64 x73),(.int .u64 x74),(.string x75),(.string x76),(.int .u64 x77),(.int .u64 x78),(.int .u64 x79),(.string x80),(.string x81)])] false [.sc .b] fun r82=>
 St (a36.add 2) (.bool (!r82.1)) <|
 J38 ()))
theorem part_Machine_do_call (p_m:Option Addr) (p_something:Value) {R:TR [.ag [.sl,.sl,.b],.sc (.i .i64)]→Pr} {w:World} (h:part_Machine_do p_m p_something R w):Cl Pg 32 [(.pointer p_m),p_something] true [.ag [.sl,.sl,.b],.sc (.i .i64)] R w:=
 call_eq Tryz.checked.mixed (.seq .leaf (.seq .leaf (.seq .leaf (.seq .leaf (.seq (.seq .leaf (.cond (.seq .leaf .leaf) .leaf)) (.seq .leaf (.seq .leaf (.seq (.join [] .leaf) (.seq .leaf .leaf))))))))) Tryz.func32 (by kernel_rfl) (by kernel_rfl) h
def part_Machine_Take_1 (p_c0:Addr) (p_c1:Addr) (p_c2:Addr) (R:TR []→Pr):Pr:=
 LdV p_c0 fun x1=>
 LdP p_c1 fun x2=>
 LdI .i64 (p_c2.add 0) fun x3=>
 LdI .i64 (p_c2.add 1) fun x4=>
 LdI .i64 (p_c2.add 2) fun x5=>
 LdI .i64 (p_c2.add 3) fun x6=>
 LdI .i64 (p_c2.add 4) fun x7=>
 LdI .i64 (p_c2.add 5) fun x8=>
 LdI .u64 (p_c2.add 6) fun x9=>
 LdI .u64 (p_c2.add 7) fun x10=>
 LdI .u64 (p_c2.add 8) fun x11=>
 LdI .u64 (p_c2.add 9) fun x12=>
 LdI .u64 (p_c2.add 10) fun x13=>
 LdI .u64 (p_c2.add 11) fun x14=>
 LdI .u64 (p_c2.add 12) fun x15=>
 LdI .u64 (p_c2.add 13) fun x16=>
 LdI .u64 (p_c2.add 14) fun x17=>
 LdB (p_c2.add 15) fun x18=>
 LdS (p_c2.add 16) fun x19=>
 LdS (p_c2.add 17) fun x20=>
 LdL (p_c2.add 18) fun x21=>
 LdL (p_c2.add 19) fun x22=>
 LdL (p_c2.add 20) fun x23=>
 CallV Pg x1 [(.pointer x2),(.agg #[(.int .i64 x3),(.int .i64 x4),(.int .i64 x5),(.int .i64 x6),(.int .i64 x7),(.int .i64 x8),(.int .u64 x9),(.int .u64 x10),(.int .u64 x11),(.int .u64 x12),(.int .u64 x13),(.int .u64 x14),(.int .u64 x15),(.int .u64 x16),(.int .u64 x17),(.bool x18),(.string x19),(.string x20),(.slice x21.p x21.len x21.cap),(.slice x22.p x22.len x22.cap),(.slice x23.p x23.len x23.cap)])] true [] fun r24=>
 R ()
theorem part_Machine_Take_1_call (p_c0:Addr) (p_c1:Addr) (p_c2:Addr) {R:TR []→Pr} {w:World} (h:part_Machine_Take_1 p_c0 p_c1 p_c2 R w):Cl Pg 33 [(.pointer (some p_c0)),(.pointer (some p_c1)),(.pointer (some p_c2))] true [] R w:=
 call_eq Tryz.checked.mixed (.leaf) Tryz.func33 (by kernel_rfl) (by kernel_rfl) h
abbrev i_sumpterref04_Do:FuncId:=34
def sumpterref04_Do (p_m:Sl) (p_o_0:Int) (p_o_1:ByteArray) (p_o_2:ByteArray) (p_o_3:ByteArray) (p_o_4:ByteArray) (p_o_5:Int) (R:TR [.sc .sl,.ag [.b,.s,.sl]]→Pr):Pr:=
 New #[(.int .i64 p_o_0),(.string p_o_1),(.string p_o_2),(.string p_o_3),(.string p_o_4),(.int .i64 p_o_5)] 81 fun a1=>
 New #[(.bool false),(.string (BA [])),(.slice none 0 0)] 83 fun a2=>
 LdS (a1.add 3) fun x3=>
 LdS (a1.add 4) fun x4=>
 New #[(.string (BA [])),(.string (BA []))] 37 fun a5=>
 St (a5.add 0) (.string x3) <|
 St (a5.add 1) (.string x4) <|
 LdI .i64 (a1.add 0) fun x6=>
 Br ((x6:Int) == 1) (
 LdS (a1.add 1) fun x7=>
 Cl Pg 83 [(.slice p_m.p p_m.len p_m.cap),(.string x7)] true [.sc .s,.sc .b] fun r8=>
 St (a2.add 0) (.bool r8.2.1) <|
 St (a2.add 1) (.string r8.1) <|
 St (a2.add 2) (.slice none 0 0) <|
 LdB (a2.add 0) fun x9=>
 LdS (a2.add 1) fun x10=>
 LdL (a2.add 2) fun x11=>
 R (p_m,(x9,x10,x11,()),())) (
 Br ((x6:Int) == 2) (
 LdS (a1.add 1) fun x12=>
 LdS (a1.add 2) fun x13=>
 Cl Pg 84 [(.slice p_m.p p_m.len p_m.cap),(.agg #[(.string x12),(.string x13)])] false [.sc .sl] fun r14=>
 St (a2.add 0) (.bool false) <|
 St (a2.add 1) (.string (BA [])) <|
 St (a2.add 2) (.slice none 0 0) <|
 LdB (a2.add 0) fun x15=>
 LdS (a2.add 1) fun x16=>
 LdL (a2.add 2) fun x17=>
 R (r14.1,(x15,x16,x17,()),())) (
 Br ((x6:Int) == 3) (
 LdS (a1.add 1) fun x18=>
 Cl Pg 85 [(.string x18)] true [.ag [.s,.s],.sc (.i .i64)] fun r19=>
 New #[(.string (BA [])),(.string (BA []))] 37 fun a20=>
 St (a20.add 0) (.string r19.1.1) <|
 St (a20.add 1) (.string r19.1.2.1) <|
 LdS (a20.add 0) fun x21=>
 LdS (a20.add 1) fun x22=>
 Cl Pg 86 [(.slice p_m.p p_m.len p_m.cap),(.agg #[(.string x21),(.string x22)])] false [.sc .sl] fun r23=>
 St (a2.add 0) (.bool false) <|
 St (a2.add 1) (.string (BA [])) <|
 St (a2.add 2) (.slice none 0 0) <|
 LdB (a2.add 0) fun x24=>
 LdS (a2.add 1) fun x25=>
 LdL (a2.add 2) fun x26=>
 R (r23.1,(x24,x25,x26,()),())) (
 Br ((x6:Int) == 4) (
 LdS (a5.add 0) fun x27=>
 LdS (a5.add 1) fun x28=>
 LdI .i64 (a1.add 5) fun x29=>
 Cl Pg 20 [(.slice p_m.p p_m.len p_m.cap),(.agg #[(.string x27),(.string x28)]),(.int .i64 x29)] false [.sc .sl] fun r30=>
 St (a2.add 0) (.bool false) <|
 St (a2.add 1) (.string (BA [])) <|
 St (a2.add 2) (.slice r30.1.p r30.1.len r30.1.cap) <|
 LdB (a2.add 0) fun x31=>
 LdS (a2.add 1) fun x32=>
 LdL (a2.add 2) fun x33=>
 R (p_m,(x31,x32,x33,()),())) (
 LdS (a5.add 0) fun x34=>
 LdS (a5.add 1) fun x35=>
 Cl Pg 86 [(.slice p_m.p p_m.len p_m.cap),(.agg #[(.string x34),(.string x35)])] false [.sc .sl] fun r36=>
 St (a2.add 0) (.bool false) <|
 St (a2.add 1) (.string (BA [])) <|
 St (a2.add 2) (.slice none 0 0) <|
 LdB (a2.add 0) fun x37=>
 LdS (a2.add 1) fun x38=>
 LdL (a2.add 2) fun x39=>
 R (r36.1,(x37,x38,x39,()),())))))
theorem sumpterref04_Do_call (p_m:Sl) (p_o_0:Int) (p_o_1:ByteArray) (p_o_2:ByteArray) (p_o_3:ByteArray) (p_o_4:ByteArray) (p_o_5:Int) {R:TR [.sc .sl,.ag [.b,.s,.sl]]→Pr} {w:World} (h:sumpterref04_Do p_m p_o_0 p_o_1 p_o_2 p_o_3 p_o_4 p_o_5 R w):Cl Pg 34 [(.slice p_m.p p_m.len p_m.cap),(.agg #[(.int .i64 p_o_0),(.string p_o_1),(.string p_o_2),(.string p_o_3),(.string p_o_4),(.int .i64 p_o_5)])] true [.sc .sl,.ag [.b,.s,.sl]] R w:=
 call_eq Tryz.checked.mixed (.seq .leaf (.seq .leaf (.seq (.seq .leaf (.block (.seq .leaf (.cond (.seq .leaf (.seq .leaf .leaf)) (.seq .leaf (.cond (.seq .leaf .leaf) (.seq .leaf (.cond (.seq .leaf (.seq .leaf .leaf)) (.seq .leaf (.cond (.seq .leaf .leaf) .leaf)))))))))) (.seq .leaf .leaf)))) Tryz.func34 (by kernel_rfl) (by kernel_rfl) h
abbrev i_sumpterref02_CheckKey:FuncId:=35
def sumpterref02_CheckKey (p_k:ByteArray) (R:TR [.sc (.i .i64)]→Pr):Pr:=
 Jp (σ:=Bool × Unit) (fun s2=>
 Br s2.1 (
 R (20,())) (
 R (0,()))) fun J1=>
 Br (decide ((((p_k.size:Nat):Int):Int) < 1)) (
 J1 (true,())) (
 J1 ((decide ((((p_k.size:Nat):Int):Int) > 12)),()))
theorem sumpterref02_CheckKey_call (p_k:ByteArray) {R:TR [.sc (.i .i64)]→Pr} {w:World} (h:sumpterref02_CheckKey p_k R w):Cl Pg 35 [(.string p_k)] false [.sc (.i .i64)] R w:=
 call_eq Tryz.checked.mixed (.seq .leaf (.seq (.seq (.join [(10,.sc .b)] .leaf) (.cond (.seq .leaf .leaf) .leaf)) (.seq .leaf .leaf))) Tryz.func35 (by kernel_rfl) (by kernel_rfl) h
abbrev i_slices_Sort_uint64:FuncId:=37
def slices_Sort_uint64 (p_x:Sl) (R:TR []→Pr):Pr:=
 Cl Pg 88 [(.int .u64 (IntKind.u64.wrap (((p_x.len:Nat):Int))))] false [.sc (.i .i64)] fun r1=>
 Cl Pg 87 [(.slice p_x.p p_x.len p_x.cap),(.int .i64 0),(.int .i64 ((p_x.len:Nat):Int)),(.int .i64 r1.1)] true [] fun r2=>
 R ()
theorem slices_Sort_uint64_call (p_x:Sl) {R:TR []→Pr} {w:World} (h:slices_Sort_uint64 p_x R w):Cl Pg 37 [(.slice p_x.p p_x.len p_x.cap)] true [] R w:=
 call_eq Tryz.checked.mixed (.seq .leaf .leaf) Tryz.func37 (by kernel_rfl) (by kernel_rfl) h
abbrev i_part_Machine_send:FuncId:=38
def part_Machine_send (p_m:Option Addr) (p_x_0:Int) (p_x_1:Int) (p_x_2:Int) (p_x_3:Int) (p_x_4:Int) (p_x_5:Int) (p_x_6:Int) (p_x_7:Int) (p_x_8:Int) (p_x_9:Int) (p_x_10:Int) (p_x_11:Int) (p_x_12:Int) (p_x_13:Int) (p_x_14:Int) (p_x_15:Bool) (p_x_16:ByteArray) (p_x_17:ByteArray) (p_x_18:Sl) (p_x_19:Sl) (p_x_20:Sl) (R:TR []→Pr):Pr:=
 New #[(.int .i64 p_x_0),(.int .i64 p_x_1),(.int .i64 p_x_2),(.int .i64 p_x_3),(.int .i64 p_x_4),(.int .i64 p_x_5),(.int .u64 p_x_6),(.int .u64 p_x_7),(.int .u64 p_x_8),(.int .u64 p_x_9),(.int .u64 p_x_10),(.int .u64 p_x_11),(.int .u64 p_x_12),(.int .u64 p_x_13),(.int .u64 p_x_14),(.bool p_x_15),(.string p_x_16),(.string p_x_17),(.slice p_x_18.p p_x_18.len p_x_18.cap),(.slice p_x_19.p p_x_19.len p_x_19.cap),(.slice p_x_20.p p_x_20.len p_x_20.cap)] 47 fun a1=>
 Nn p_m fun a2=>
 LdI .i64 ((a2.add 0).add 0) fun x3=>
 St (a1.add 1) (.int .i64 x3) <|
 Dr <|
 Nn p_m fun a4=>
 LdL ((a4.add 21).add 0) fun x5=>
 LdI .i64 (a1.add 0) fun x6=>
 LdI .i64 (a1.add 1) fun x7=>
 LdI .i64 (a1.add 2) fun x8=>
 LdI .i64 (a1.add 3) fun x9=>
 LdI .i64 (a1.add 4) fun x10=>
 LdI .i64 (a1.add 5) fun x11=>
 LdI .u64 (a1.add 6) fun x12=>
 LdI .u64 (a1.add 7) fun x13=>
 LdI .u64 (a1.add 8) fun x14=>
 LdI .u64 (a1.add 9) fun x15=>
 LdI .u64 (a1.add 10) fun x16=>
 LdI .u64 (a1.add 11) fun x17=>
 LdI .u64 (a1.add 12) fun x18=>
 LdI .u64 (a1.add 13) fun x19=>
 LdI .u64 (a1.add 14) fun x20=>
 LdB (a1.add 15) fun x21=>
 LdS (a1.add 16) fun x22=>
 LdS (a1.add 17) fun x23=>
 LdL (a1.add 18) fun x24=>
 LdL (a1.add 19) fun x25=>
 LdL (a1.add 20) fun x26=>
 New #[(.int .i64 x6),(.int .i64 x7),(.int .i64 x8),(.int .i64 x9),(.int .i64 x10),(.int .i64 x11),(.int .u64 x12),(.int .u64 x13),(.int .u64 x14),(.int .u64 x15),(.int .u64 x16),(.int .u64 x17),(.int .u64 x18),(.int .u64 x19),(.int .u64 x20),(.bool x21),(.string x22),(.string x23),(.slice x24.p x24.len x24.cap),(.slice x25.p x25.len x25.cap),(.slice x26.p x26.len x26.cap)] 47 fun a27=>
 Both (LdL ((a4.add 21).add 0) fun x28=>
 fun _=>((.slice x28.p x28.len x28.cap):Value)=(.slice x5.p x5.len x5.cap)) <|
 App 47 21 232 (zc Pg 47) x5 1 (srcS (some a27) 1 21) fun r29=>
 Nn p_m fun a30=>
 St ((a30.add 21).add 0) (.slice r29.p r29.len r29.cap) <|
 R ()
theorem part_Machine_send_call (p_m:Option Addr) (p_x_0:Int) (p_x_1:Int) (p_x_2:Int) (p_x_3:Int) (p_x_4:Int) (p_x_5:Int) (p_x_6:Int) (p_x_7:Int) (p_x_8:Int) (p_x_9:Int) (p_x_10:Int) (p_x_11:Int) (p_x_12:Int) (p_x_13:Int) (p_x_14:Int) (p_x_15:Bool) (p_x_16:ByteArray) (p_x_17:ByteArray) (p_x_18:Sl) (p_x_19:Sl) (p_x_20:Sl) {R:TR []→Pr} {w:World} (h:part_Machine_send p_m p_x_0 p_x_1 p_x_2 p_x_3 p_x_4 p_x_5 p_x_6 p_x_7 p_x_8 p_x_9 p_x_10 p_x_11 p_x_12 p_x_13 p_x_14 p_x_15 p_x_16 p_x_17 p_x_18 p_x_19 p_x_20 R w):Cl Pg 38 [(.pointer p_m),(.agg #[(.int .i64 p_x_0),(.int .i64 p_x_1),(.int .i64 p_x_2),(.int .i64 p_x_3),(.int .i64 p_x_4),(.int .i64 p_x_5),(.int .u64 p_x_6),(.int .u64 p_x_7),(.int .u64 p_x_8),(.int .u64 p_x_9),(.int .u64 p_x_10),(.int .u64 p_x_11),(.int .u64 p_x_12),(.int .u64 p_x_13),(.int .u64 p_x_14),(.bool p_x_15),(.string p_x_16),(.string p_x_17),(.slice p_x_18.p p_x_18.len p_x_18.cap),(.slice p_x_19.p p_x_19.len p_x_19.cap),(.slice p_x_20.p p_x_20.len p_x_20.cap)])] true [] R w:=
 call_eq Tryz.checked.mixed (.seq .leaf (.seq .leaf .leaf)) Tryz.func38 (by kernel_rfl) (by kernel_rfl) h
end Go.Proofs.YthkdehgfdllpoaaGreat
