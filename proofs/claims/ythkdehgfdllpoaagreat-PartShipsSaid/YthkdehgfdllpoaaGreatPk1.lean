/- The parts of the proof, 1: words of the program, and what they do. Conditions: none. -/
import Derived.WalkKit
import Derived.RangeFuncLeaves
import Derived.RangeFuncRecord
import Derived.RangeFuncIn
import Derived.OrdersIn
import Derived.ChangeKeysEq
import Derived.Laws.Tables
import Derived.Lib.ConvBytes
import Derived.Scope
set_option maxRecDepth 100000
set_option maxHeartbeats 1000000
set_option linter.unusedVariables false
set_option linter.unusedSimpArgs false
set_option linter.unusedSectionVars false
namespace Go.Sx
open Go
structure Sl where
 p:Option Addr
 len:Nat
 cap:Nat
inductive Kd where
 |b|i (k:IntKind)|s|p|sl|m|v
@[reducible] def Kd.T:Kd->Type
 |.b=>Bool
 |.i _=>Int
 |.s=>ByteArray
 |.p=>Option Addr
 |.sl=>Sl
 |.m=>Option Nat
 |.v=>Value
def Kd.enc:(k:Kd)->k.T->Value
 |.b,x=>.bool x
 |.i k,x=>.int k x
 |.s,x=>.string x
 |.p,x=>.pointer x
 |.sl,x=>.slice x.p x.len x.cap
 |.m,x=>.map x
 |.v,x=>x
def Kd.dec:(k:Kd)->Value->Option k.T
 |.b,x=>match x with | .bool x=>some x|_=>none
 |.i k,x=>match x with | .int k' x=>(if k'=k then some x else none)|_=>none
 |.s,x=>match x with | .string x=>some x|_=>none
 |.p,x=>match x with | .pointer x=>some x|_=>none
 |.sl,x=>match x with | .slice xp xl xc=>some ⟨xp,xl,xc⟩|_=>none
 |.m,x=>match x with | .map x=>some x|_=>none
 |.v,x=>some x
variable {k:Kd}{x:Value}
theorem Kd.OJ {y:k.T}(h:k.dec x=some y):x=k.enc y:=by
 cases k<;>simp only[Kd.dec,Kd.enc]at * <;> (try split at h)<;>(try split at h)<;>simp_all<;>(subst h;exact⟨rfl,rfl,rfl⟩)
@[simp] theorem Kd.Ag2 (k:Kd) (y:k.T):k.dec (k.enc y)=some y:=by
 cases k<;>simp[Kd.dec,Kd.enc]
inductive RK where
 |sc (k:Kd)|ag (ks:List Kd)
@[reducible] def Kw:List Kd->Type
 |[]=>Unit
 |k::ks=>k.T×Kw ks
def Cs:(ks:List Kd)->Kw ks->List Value
 |[],_=>[]
 |k::ks,x=>k.enc x.1::Cs ks x.2
def Yy:(ks:List Kd)->List Value->Option (Kw ks)
 |[],l=>match l with | []=>some ()|_=>none
 |k::ks,l=>match l with
  |v::vs=>match k.dec v with
   |some x=>match Yy ks vs with
    |some y=>some (x,y)
    |none=>none
   |none=>none
  |[]=>none
theorem XJ:∀{ks:List Kd} {l:List Value} {y:Kw ks},Yy ks l=some y->l=Cs ks y
 |[],l,y,h=>by
  cases l<;>simp_all[Yy,Cs]
 |k::ks,l,y,h=>by
  cases l with
  |nil=>simp[Yy]at h
  |cons v vs=>
   simp only[Yy]at h;split at h
   ·rename_i x hx;split at h
    ·rename_i z hz;simp only[Option.some.injEq]at h;subst h;simp[Cs,Kd.OJ hx,XJ hz]
    ·cases h
   ·cases h
@[reducible] def RK.T:RK->Type
 |.sc k=>k.T
 |.ag ks=>Kw ks
def RK.enc:(r:RK)->r.T->Value
 |.sc k,x=>k.enc x
 |.ag ks,x=>.agg (Cs ks x).toArray
def RK.dec:(r:RK)->Value->Option r.T
 |.sc k,v=>k.dec v
 |.ag ks,v=>match v with | .agg cs=>Yy ks cs.toList|_=>none
theorem RK.OJ {r:RK}{v:Value}{y:r.T}(h:r.dec v=some y):v=r.enc y:=by
 cases r with
 |sc k=>exact Kd.OJ h
 |ag ks=>
  simp only[RK.dec]at h;split at h
  ·rename_i cs;simp only[RK.enc,<-XJ h]
  ·cases h
@[reducible] def TR:List RK->Type
 |[]=>Unit
 |k::ks=>k.T×TR ks
def Qw:(ks:List RK)->TR ks->List Value
 |[],_=>[]
 |k::ks,x=>k.enc x.1::Qw ks x.2
def AaE:(ks:List RK)->List Value->Option (TR ks)
 |[],l=>match l with | []=>some ()|_=>none
 |k::ks,l=>match l with
  |v::vs=>match k.dec v with
   |some x=>match AaE ks vs with
    |some y=>some (x,y)
    |none=>none
   |none=>none
  |[]=>none
theorem XK:∀{ks:List RK} {l:List Value} {y:TR ks},AaE ks l=some y->l=Qw ks y
 |[],l,y,h=>by
  cases l<;>simp_all[AaE,Qw]
 |k::ks,l,y,h=>by
  cases l with
  |nil=>simp[AaE]at h
  |cons v vs=>
   simp only[AaE]at h;split at h
   ·rename_i x hx;split at h
    ·rename_i z hz;simp only[Option.some.injEq]at h;subst h;simp[Qw,RK.OJ hx,XK hz]
    ·cases h
   ·cases h
structure Env where
 n:Nat
 f:Nat->Option Value
def Env.length (e:Env):Nat:=e.n
def Env.get (e:Env)(t:Nat):Option Value:=
 match Nat.blt t e.n with
 |true=>e.f t
 |false=>none
def Env.set (e:Env)(t:Nat)(v:Option Value):Env:=⟨e.n,λu=>match Nat.beq u t with|true=>v|false=>e.f u⟩
def Env.put (e:Env)(d:Option Tmp)(v:Value):Env:=
 match d with
 |some d=>e.set d (some v)
 |none=>e
def bitsOf:List Nat->Nat
 |[]=>0
 |t::ts=>Nat.lor (Nat.shiftLeft 1 t) (bitsOf ts)
def Agv (m t:Nat):Bool:=Nat.beq (Nat.land (Nat.shiftRight m t) 1) 1
theorem AgC (m t:Nat):Agv m t=m.testBit t:=by
 unfold Agv;show Nat.beq ((m >>> t) &&& 1) 1=_;rw[Nat.testBit_eq_decide_div_mod_eq,Nat.and_one_is_mod,Nat.shiftRight_eq_div_pow];by_cases h:m / 2 ^ t % 2=1
 ·rw[h];rfl
 ·rw[decide_eq_false h];cases hb:Nat.beq (m / 2 ^ t % 2) 1 with
  |false=>rfl
  |true=>exact absurd (Nat.eq_of_beq_eq_true hb) h
theorem AgW {ts:List Nat}{t:Nat}:Agv (bitsOf ts) t=true↔t∈ts:=by
 rw[AgC];induction ts with
 |nil=>simp[bitsOf]
 |cons u ts ih=>
  show((1 <<< u) ||| bitsOf ts).testBit t=true↔_;rw[Nat.testBit_or,Bool.or_eq_true,ih,Nat.shiftLeft_eq,Nat.one_mul,Nat.testBit_two_pow];simp[eq_comm]
def Env.forget (e:Env)(ts:List Tmp):Env:=⟨e.n,λu=>match Agv (bitsOf ts) u with|true=>none|false=>e.f u⟩
theorem Env.length_set (e:Env)(t:Nat)(v:Option Value):(e.set t v).length=e.length:=rfl
theorem AhZ {u t:Nat}(h:u≠t):Nat.beq u t=false:=by
 cases hb:Nat.beq u t with
 |false=>rfl
 |true=>exact absurd (Nat.eq_of_beq_eq_true hb) h
theorem Env.Abc (e:Env){t u:Nat}(v:Option Value)(h:t≠u):(e.set t v).get u=e.get u:=by
 simp only[Env.get,Env.set];rw[AhZ (Ne.symm h)]
theorem Env.Xr (e:Env)(t:Nat)(v:Option Value)(h:t<e.length):(e.set t v).get t=v:=by
 simp only[Env.get,Env.set];rw[show Nat.blt t e.n=true from Nat.blt_eq▸h,show Nat.beq t t=true from Nat.beq_refl t]
theorem Env.U5 {e:Env}{t:Nat}{v:Value}(h:e.get t=some v):t<e.length:=by
 simp only[Env.get]at h;split at h
 ·rename_i hb;exact Nat.blt_eq▸hb
 ·cases h
theorem Env.G9 {e:Env}{t u:Nat}{x:Option Value}{v:Value}(h:(e.set t x).get u=some v):(t=u/\x=some v)\/(t≠u/\e.get u=some v):=by
 by_cases ht:t=u
 ·subst ht;have hl:=Env.U5 h;rw[Env.length_set]at hl;rw[Env.Xr _ _ _ hl]at h;exact .inl ⟨rfl,h⟩
 ·rw[Env.Abc _ _ ht]at h;exact .inr ⟨ht,h⟩
structure BF (ds:List Deferred)(e:Env)(a:Act):Prop where
 size:e.length<=a.tmps.size
 defers:a.defers=ds
 val:∀t v,e.get t=some v->a.tmps[t]?=some v
theorem BF.put {ds:List Deferred}{e:Env}{a:Act}(h:BF ds e a)(d:Option Tmp)(v:Value):BF ds (e.put d v) (a.put d v):=by
 cases d with
 |none=>exact h
 |some d=>
  refine⟨?_,h.defers,λt u hu=>?_⟩
  ·simpa[Env.put,Env.length_set,Act.put]using h.size
  ·simp only[Env.put]at hu;rcases Env.G9 hu with⟨rfl,hv⟩|⟨hne,hv⟩
   ·have hl:=Env.U5 hu;rw[Env.length_set]at hl;have hs:=h.size;simp only[Act.put];rw[Array.getElem?_setIfInBounds_self,if_pos (by omega)];exact hv
   ·simp only[Act.put];rw[Array.getElem?_setIfInBounds_ne hne];exact h.val t u hv
theorem Env.Lc {e:Env}{ts:List Tmp}{t:Nat}{v:Value}(h:(e.forget ts).get t=some v):t∉ts/\e.get t=some v:=by
 simp only[Env.get,Env.forget]at h ⊢;split at h
 ·rename_i hb;split at h
  ·cases h
  ·rename_i hm;exact⟨(λhh=>by rw[AgW.2 hh]at hm;cases hm),h⟩
 ·cases h
variable {ds:List Deferred}
theorem BF.forget {e:Env}{a:Act}(h:BF ds e a)(ts:List Tmp):BF ds (e.forget ts) a:=
 ⟨h.size,h.defers,λu v hv=>h.val u v (Env.Lc hv).2⟩
theorem BF.AeR {e:Env}{a:Act}(h:BF ds e a){t:Nat}{v:Value}(hv:a.tmps[t]?=some v):BF ds (e.set t (some v)) a:=
 ⟨by rw[Env.length_set];exact h.size,h.defers,λu w hw=>by
  rcases Env.G9 hw with⟨rfl,hh⟩|⟨_,hh⟩
  ·rw[hv,hh]
  ·exact h.val u w hh⟩
def V7 (e:Env):Operand->Value
 |.tmp t=>match e.get t with
  |some v=>v
  |none=>undef
 |.const v=>v
 |.global g=>.pointer (some ⟨g,0,none⟩)
 |.func f=>.func (.func f) #[] #[]
def XD (e:Env):Operand->Bool
 |.tmp t=>match e.get t with
  |some _=>true
  |none=>false
 |_=>true
theorem BF.V7 {ds:List Deferred}{e:Env}{a:Act}(h:BF ds e a){x:Operand}(hx:XD e x=true):V7 e x=a.eval x:=by
 cases x with
 |tmp t=>
  simp only[XD]at hx;simp only[Sx.V7,Act.eval];split at hx
  ·rename_i v hv;have:=h.val t v hv;simp[this]
  ·cases hx
 |_=>rfl
abbrev Pr:=World->Prop
def F:Pr:=λ_=>False
def AY (p:Prop)(K:Pr):Pr:=λw=>p/\K w
def Br (c:Bool)(T E:Pr):Pr:=λw=>match c with|true=>T w|false=>E w
def Jp {σ:Type}(J:σ->Pr)(A:(σ->Pr)->Pr):Pr:=A J
def Lp {σ:Type}(body:(σ->Pr)->σ->Pr)(s:σ):Pr:=λw=>
 ∃I:Nat->σ->World->Prop,(∃n,I n s w)/\∀n s w,I n s w->body (λs' w'=>∃m,m<n/\I m s' w') s w
def E7 (a:Addr)(K:Bool->Pr):Pr:=λw=>∃x,w.cell? a=some (.bool x)/\K x w
def A2 (k:IntKind)(a:Addr)(K:Int->Pr):Pr:=λw=>∃x,w.cell? a=some (.int k x)/\K x w
def BU (a:Addr)(K:ByteArray->Pr):Pr:=λw=>∃x,w.cell? a=some (.string x)/\K x w
def Di (a:Addr)(K:Option Addr->Pr):Pr:=λw=>∃x,w.cell? a=some (.pointer x)/\K x w
def DN (a:Addr)(K:Sl->Pr):Pr:=λw=>∃x:Sl,w.cell? a=some (.slice x.p x.len x.cap)/\K x w
def LdM (a:Addr)(K:Option Nat->Pr):Pr:=λw=>∃x,w.cell? a=some (.map x)/\K x w
def LJ (a:Addr)(K:Value->Pr):Pr:=λw=>∃x,w.cell? a=some x/\K x w
def Ld:(k:Kd)->Addr->(k.T->Pr)->Pr
 |.b,a,K=>E7 a K
 |.i k,a,K=>A2 k a K
 |.s,a,K=>BU a K
 |.p,a,K=>Di a K
 |.sl,a,K=>DN a K
 |.m,a,K=>LdM a K
 |.v,a,K=>LJ a K
variable {w:World}
theorem AbP {a:Addr}{K:k.T->Pr}(h:Ld k a K w):∃x,w.cell? a=some (k.enc x)/\K x w:=by
 cases k<;>exact h
def LdR:(ks:List Kd)->Addr->Nat->(List Value->Pr)->Pr
 |[],_,_,K=>K []
 |k::ks,a,i,K=>Ld k (a.add i) λx=>LdR ks a (i+1) λvs=>K (k.enc x::vs)
def LdN (n:Nat)(a:Addr)(K:List Value->Pr):Pr:=λw=>
 ∃vs:List Value,vs.length=n/\(∀j v,vs[j]?=some v->w.cell? (a.add j)=some v)/\K vs w
def St (a:Addr)(v:Value)(K:Pr):Pr:=λw=>
 v.oneCell'=true/\(∃x,w.cell? a=some x)/\w.frozen? a=false/\K (w.setCell a v)
def Xc:List Value->Addr->Nat->Pr->Pr
 |[],_,_,K=>K
 |v::vs,a,i,K=>St (a.add i) v (Xc vs a (i+1) K)
def StN (n:Nat)(a:Addr)(vs:List Value)(K:Pr):Pr:=λw=>vs.length=n/\Xc vs a 0 K w
def At (cs:Array Value)(t:TypeId)(K:Addr->Pr):Pr:=λw=>K ⟨w.heap.size,0,none⟩ (w.alloc (.cells cs t))
def O1 (o:Obj)(K:Nat->Pr):Pr:=λw=>K w.heap.size (w.alloc o)
def Nn (p:Option Addr)(K:Addr->Pr):Pr:=match p with|some a=>K a|none=>F
def Ix (s:Sl)(i:Int)(size:Nat)(K:Addr->Pr):Pr:=λw=>
 match s.p with
 |some a=>0<=i/\i<s.len/\K (a.add (i.toNat*size)) w
 |none=>False
def IxR (a:Addr)(n:Nat)(i:Int)(size:Nat)(K:Addr->Pr):Pr:=λw=>0<=i/\i<n/\K (a.add (i.toNat*size)) w
def IxS (s:ByteArray)(i:Int)(K:Int->Pr):Pr:=λw=>0<=i/\∃b,s[i.toNat]?=some b/\K (b.toNat:Int) w
def IxG (cs:List Value)(n:Nat)(i:Int)(size:Nat)(K:Value->Pr):Pr:=λw=>0<=i/\i<n/\∃v,cs[i.toNat*size]?=some v/\K v w
open Go
def WF (r:Option Nat):Fence:={Fence.wide with round:=r}
theorem Aby (r:Option Nat)(n:Nat):(WF r).room n:=λ_ h=>by simp[WF,Fence.wide]at h
variable {P:Program}{r:Option Nat}{args:Array Value}{R:Ending->World->Prop}
theorem UZ {n:Nat}{f:FuncId}(h:Calls P f args w R):CallsIn (WF r) n P f args w R:=
 ⟨trivial,λcs _=>(callsIn_wide (n:=n).2 h).2 cs (room_wide _)⟩
theorem VU {n:Nat}{f:FuncId}(h:CallsIn (WF r) n P f args w R):Calls P f args w R:=
 callsIn_wide (n:=n).1 ⟨trivial,λcs _=>h.2 cs (Aby _ _)⟩
variable {l:Nat}
theorem AaK {r':Option Nat}{n n':Nat}{f:FuncId}{tmps:Array Value}{assign body:Code}(h:RoundIn (WF r) n P l f tmps assign body w R):RoundIn (WF r') n' P l f tmps assign body w R:=
 ⟨trivial,λc cs _=>h.2 c cs (Aby _ _)⟩
def W6 (P:Program)(o:Oper)(ρ:Operand->Value)(K:Value->Pr)(w:World):Prop:=
 ∃v,(∀w',(execOp ρ o).run P w'=.ok (.value v) w')/\K v w
def Z3 (P:Program)(o:Oper)(ρ:Operand->Value)(K:Value->Pr)(w:World):Prop:=
 ∃v,(execOp ρ o).run P w=.ok (.value v) w/\K v w
def UD (P:Program)(o:Oper)(ρ:Operand->Value)(K:Value->Pr)(w:World):Prop:=
 ∀(r:Option Nat) (a:Act) (next:Act->World->Prop) (Q:Exit->Act->World->Prop),(∀v w',K v w'->next (a.put o.dst v) w')->o.uponIn (WF r) 0 P a next Q ((execOp ρ o).run P w)
variable {ρ:Operand->Value}{K:Value->Pr}
theorem W6.q {o:Oper}(h:W6 P o ρ K w):Z3 P o ρ K w:=
 let ⟨v,hv,hk⟩:=h;⟨v,hv w,hk⟩
theorem Z3.AjX {o:Oper}(h:Z3 P o ρ K w):UD P o ρ K w:=by
 obtain⟨v,hv,hk⟩:=h;intro r a next Q hn;rw[hv];exact hn _ _ hk
variable {w':World}
theorem Uw {o:Oper}{v:Value}(h:(execOp ρ o).run P w=.ok (.value v) w')(hk:K v w'):UD P o ρ K w:=by
 intro r a next Q hn;rw[h];exact hn _ _ hk
theorem AcQ {o:Oper}(h:(execOp ρ o).run P w=.ok .skip w')(hk:K undef w'):UD P o ρ K w:=by
 intro r a next Q hn;rw[h];exact hn _ _ hk
theorem AaQ {o:Oper}{f:FuncId}(h:(execOp ρ o).run P w=.ok (.enter f args) w')(hk:Calls P f args w' λ| .returned v,w''=>K v w''|_,_=>False):UD P o ρ K w:=by
 intro r a next Q hn;rw[h];refine⟨λh=>by simp[WF,Fence.wide]at h,(UZ (hk.mono λe w'' he=>?_))⟩;cases e with
 |returned v=>exact hn _ _ he
 |panicked c=>exact he.elim
 |outgrown=>exact he.elim
theorem Aa4 {o:Oper}{f:FuncId}{tmps:Array Value}{as bd:Code}(h:(execOp ρ o).run P w=.ok (.round l f tmps as bd) w')(hk:RoundIn (WF none) 0 P l f tmps as bd w' λ| .returned v,w''=>K v w''|_,_=>False):UD P o ρ K w:=by
 intro r a next Q hn;rw[h];refine⟨λh=>by simp[WF,Fence.wide]at h,(AaK hk).mono λe w'' he=>?_⟩;cases e with
 |returned v=>exact hn _ _ he
 |panicked c=>exact he.elim
 |outgrown=>exact he.elim
def kd (P:Program)(t:TypeId):Option Kd:=
 match P.underlying t with
 |some .bool=>some .b
 |some (.int k)=>some (.i k)
 |some .string=>some .s
 |some (.pointer _)=>some .p
 |some (.slice _)=>some .sl
 |some (.map _ _)=>some .m
 |some (.interface _)=>some .v
 |some (.func _ _ _)=>some .v
 |_=>none
def kds (P:Program):Nat->TypeId->Option (List Kd)
 |0,_=>none
 |d+1,t=>match P.underlying t with
  |some (.struct fs)=>fs.toList.foldr (λf acc=>match kds P d f.type,acc with|some a,some b=>some (a++b)|_,_=>none) (some [])
  |some (.array n e)=>match kds P d e with
   |some a=>some (List.replicate n a).flatten
   |none=>none
  |_=>match kd P t with
   |some k=>some [k]
   |none=>none
def CV (P:Program)(t:TypeId):Bool:=
 match P.underlying t with
 |some (.struct _)=>true
 |some (.array _ _)=>true
 |_=>false
def AaN (op:BinOp)(k:IntKind)(a b:Int)(K:Value->Pr):Pr:=
 match op with
 |.add=>K (.int k (k.wrap (a+b)))
 |.sub=>K (.int k (k.wrap (a-b)))
 |.mul=>K (.int k (k.wrap (a*b)))
 |.quo=>AY (b≠0) (K (.int k (k.wrap (a.tdiv b))))
 |.rem=>AY (b≠0) (K (.int k (a.tmod b)))
 |.and=>K (.int k (k.wrap ((BitVec.ofInt k.bits a) &&& (BitVec.ofInt k.bits b)).toNat))
 |.or=>K (.int k (k.wrap ((BitVec.ofInt k.bits a) ||| (BitVec.ofInt k.bits b)).toNat))
 |.xor=>K (.int k (k.wrap ((BitVec.ofInt k.bits a) ^^^ (BitVec.ofInt k.bits b)).toNat))
 |.andNot=>K (.int k (k.wrap ((BitVec.ofInt k.bits a) &&& ~~~(BitVec.ofInt k.bits b)).toNat))
 |.eql=>K (.bool (a==b))
 |.neq=>K (.bool (a !=b))
 |.lss=>K (.bool (a<b))
 |.leq=>K (.bool (a<=b))
 |.gtr=>K (.bool (a>b))
 |.geq=>K (.bool (a>=b))
 |.shl=>AY (0<=b) (K (.int k (k.wrap (a*2 ^ (min b.toNat k.bits)))))
 |.shr=>AY (0<=b) (K (.int k (a.fdiv (2 ^ (min b.toNat k.bits)))))
def seq (a b:ByteArray):Bool:=a.toList==b.toList
def slt (a b:ByteArray):Bool:=Op.bytesLess a.toList b.toList
def Aii (op:BinOp)(a b:ByteArray)(K:Value->Pr):Pr:=
 match op with
 |.add=>AY (((a.size+b.size:Nat):Int)<=9223372036854775807) (K (.string (a++b)))
 |.eql=>K (.bool (seq a b))
 |.neq=>K (.bool (!(seq a b)))
 |.lss=>K (.bool (slt a b))
 |.leq=>K (.bool (slt a b||seq a b))
 |.gtr=>K (.bool (!(slt a b||seq a b)))
 |.geq=>K (.bool (!(slt a b)))
 |_=>F
def eqD (op:BinOp)(b:Bool)(K:Value->Pr):Pr:=
 match op with
 |.eql=>K (.bool b)
 |.neq=>K (.bool (!b))
 |_=>F
def PY (P:Program)(t:TypeId)(x y:Value):Option Bool:=
 match P.underlying t with
 |some .bool=>match x with
  |.bool a=>match y with | .bool b=>some (a==b)|_=>none
  |_=>none
 |some (.int _)=>match x with
  |.int k a=>match y with | .int k' b=>if k=k' then some (a==b)else none|_=>none
  |_=>none
 |some .string=>match x with
  |.string a=>match y with | .string b=>some (seq a b)|_=>none
  |_=>none
 |_=>none
def eqG (P:Program)(rec:TypeId->List Value->List Value->Option Bool)(xs ys:List Value):List Field->Option Bool
 |[]=>some true
 | f :: fs => match decide (f.name ≠ "_") with
  |true=>match (match CV P f.type with
   |false=>match xs[f.offset]? with
    |some x=>match ys[f.offset]? with
     |some y=>PY P f.type x y
     |none=>none
    |none=>none
   |true=>match P.info? f.type with
    |some i=>rec f.type ((xs.drop f.offset).take i.size) ((ys.drop f.offset).take i.size)
    |none=>none)with
   |some b=>match eqG P rec xs ys fs with
    |some r=>some (b&&r)
    |none=>none
   |none=>none
  |false=>none
def eqT (P:Program):Nat->TypeId->List Value->List Value->Option Bool
 |0,_,_,_=>none
 |n+1,t,xs,ys=>match P.underlying t with
  |some (.struct fs)=>match P.stoodInHeld t with
   |false=>eqG P (eqT P n) xs ys fs.toList
   |true=>none
  |_=>none
def Ys:Value->Option Bool
 |.nilIface=>some true
 |.iface _ _=>some false
 |_=>none
def Yg:Value->Option Bool
 |.nilFunc=>some true
 |.func _ _ _=>some false
 |_=>none
def eqL (P:Program)(t:TypeId):List Value->List Value->Option Bool
 |[],l=>match l with
  |[]=>some true
  |_::_=>none
 |x::xs,l=>match l with
  |y::ys=>match PY P t x y with
   |some b=>match eqL P t xs ys with
    |some r=>some (b&&r)
    |none=>none
   |none=>none
  |[]=>none
def EqA (P:Program)(t:TypeId)(n:Nat)(xs ys:List Value)(K:Bool->Pr):Pr:=λw=>xs.length=n/\∃b,eqL P t xs ys=some b/\K b w
def Ajq (x:Value)(K:Bool->Pr):Pr:=λw=>∃b,Ys x=some b/\K b w
def Alr (x:Value)(K:Bool->Pr):Pr:=λw=>∃b,Yg x=some b/\K b w
def Ala (a b:Option Addr)(K:Bool->Pr):Pr:=
 match b with
 |none=>K a.isNone
 |some _=>match a with
  |none=>K false
  |some _=>F
def isConst:Operand->Bool
 |.const _=>true
 |_=>false
def TW (P:Program)(op:BinOp)(t:TypeId)(yc:Bool)(x y:Value)(K:Value->Pr)(w:World):Prop:=
 match y with
 |.int k' b=>match x with
  |.int k a=>match op with
   |.shl=>AaN .shl k a b K w
   |.shr=>AaN .shr k a b K w
   |op=>match decide (k=k')with
    |true=>AaN op k a b K w
    |false=>F w
  |_=>F w
 |.string b=>match x with
  |.string a=>Aii op a b K w
  |_=>F w
 |.bool b=>match P.underlying t with
  |some .bool=>match x with
   |.bool a=>eqD op (a==b) K w
   |_=>F w
  |_=>F w
 |.pointer b=>match P.underlying t with
  |some (.pointer _)=>match x with
   |.pointer a=>Ala a b (λr=>eqD op r K) w
   |_=>F w
  |_=>F w
 |.slice b _ _=>match P.underlying t with
  |some (.slice _)=>match b with
   |none=>match x with
    |.slice a _ _=>eqD op a.isNone K w
    |_=>F w
   |some _=>F w
  |_=>F w
 |.map b=>match P.underlying t with
  |some (.map _ _)=>match b with
   |none=>match x with
    |.map a=>eqD op a.isNone K w
    |_=>F w
   |some _=>F w
  |_=>F w
 |.nilIface=>match yc with
  |true=>match P.underlying t with
   |some (.interface _)=>Ajq x (λb=>eqD op b K) w
   |_=>F w
  |false=>F w
 |.nilFunc=>match P.underlying t with
  |some (.func _ _ _)=>Alr x (λb=>eqD op b K) w
  |_=>F w
 |.agg ys=>match x with
  |.agg xs=>match !(P.eqGuardType P.depth t)&&!(P.stoodInHeld t)with
   |true=>match P.underlying t with
    |some (.struct fs)=>match eqG P (eqT P 4) xs.toList ys.toList fs.toList with
     |some b=>eqD op b K w
     |none=>F w
    |some (.array n e)=>match P.info? e with
     |some inf=>match decide (inf.size=1)&&!(CV P e)with
      |true=>EqA P e n xs.toList ys.toList (λb=>eqD op b K) w
      |false=>F w
     |none=>F w
    |_=>F w
   |false=>F w
  |_=>F w
 |_=>F w
theorem Bi (op:BinOp)(t:TypeId)(x y:Operand)(a b:Value)(h1:∀z,b≠.agg z)(h2:b=.nilIface->isConst y=true):(eqGuard op t x y a b).run P w=.ok () w:=by
 cases op<;>simp only[eqGuard]<;>cases b<;>first
  |rfl
  |(exact absurd rfl (h1 _))
  |(cases a<;>first
    |rfl
    |(have hc:=h2 rfl;cases y<;>simp[isConst]at hc;simp))
variable {op:BinOp}
theorem Aex {k:IntKind}{a b:Int}(h:AaN op k a b K w)(t:TypeId):∃v,(∀w',(binOp op t (.int k a) (.int k b)).run P w'=.ok v w')/\K v w:=by
 cases op<;>simp only[AaN,AY]at h
 case shl=>exact⟨_,λw'=>by simp only[binOp,Op.shift];rw[if_neg (by omega)];rfl,h.2⟩
 case shr=>exact⟨_,λw'=>by simp only[binOp,Op.shift];rw[if_neg (by omega)];rfl,h.2⟩
 case quo=>exact⟨_,λw'=>by simp[binOp,Op.intDiv,h.1],h.2⟩
 case rem=>exact⟨_,λw'=>by simp[binOp,Op.intDiv,h.1],h.2⟩
 all_goals exact⟨_,λw'=>by simp[binOp,Op.intArith,Op.intBits,Op.intCmp],h⟩
theorem AjG {a b:ByteArray}(h:Aii op a b K w)(t:TypeId):∃v,(∀w',(binOp op t (.string a) (.string b)).run P w'=.ok v w')/\K v w:=by
 cases op<;>simp only[Aii,AY,F]at h<;>first
  |exact h.elim
  |exact⟨_,λw'=>by simp only[binOp,Op.stringOp];rw[if_neg (by simp only[IntKind.max,IntKind.signed,IntKind.bits];omega)];rfl,h.2⟩
  |exact⟨_,λw'=>rfl,h⟩
theorem XA {b:Bool}(h:eqD op b K w)(t:TypeId)(x y:Value)(hb:∀w',(Op.equal t x y).run P w'=.ok b w')(he:binOp .eql t x y=(do pure (.bool (<-Op.equal t x y))))(hn:binOp .neq t x y=(do pure (.bool (!(<-Op.equal t x y))))):
  ∃v,(∀w',(binOp op t x y).run P w'=.ok v w')/\K v w:=by
 cases op<;>simp only[eqD,F]at h<;>first
  |exact h.elim
  |exact⟨_,λw'=>by rw[he];simp[hb],h⟩
  |exact⟨_,λw'=>by rw[hn];simp[hb],h⟩
variable {t:TypeId}{y:Value}
theorem AbA {b:Bool}(h:PY P t x y=some b)(d:Nat)(w:World):(Op.equalIn (d+1) t x y).run P w=.ok b w:=by
 unfold PY at h;split at h
 ·rename_i hu;split at h<;>(try split at h)<;>simp_all[run_equalIn_bool]
 ·rename_i hu;split at h<;>(try split at h)<;>(try split at h)<;>simp_all[run_equalIn_int _ _ _ _ _ _ _ hu]
 ·rename_i hu;split at h<;>(try split at h)<;>simp_all[run_equalIn_string,seq]
 ·cases h
theorem EK {cs:Array Value}{off:Nat}{v:Value}(hg:CV P t=false)(hu:∃d,P.underlying t=some d)(h:cs[off]?=some v)(w:World):(part t cs off).run P w=.ok v w:=by
 obtain⟨d,hu⟩:=hu;have hi:(isAgg t).run P w=.ok false w:=by
  simp only[isAgg,Sem.run_bind,run_underlying hu,Result.andThen_ok];simp only[CV,hu]at hg;split at hg<;>simp_all
 simp only[part,Sem.run_bind,hi,Result.andThen_ok,Bool.false_eq_true,if_false,h];rfl
theorem WU {b:Bool}(h:PY P t x y=some b):∃d,P.underlying t=some d:=by
 unfold PY at h;split at h<;>first|exact⟨_,‹_›⟩|cases h
theorem Z0 (h:CV P t=true):∃d,P.underlying t=some d/\((∃fs,d=.struct fs)\/∃n e,d=.array n e):=by
 unfold CV at h;split at h
 ·exact⟨_,‹_›,.inl ⟨_,rfl⟩⟩
 ·exact⟨_,‹_›,.inr ⟨_,_,rfl⟩⟩
 ·cases h
theorem XX {cs:Array Value}{off:Nat}{i:TypeInfo}(hg:CV P t=true)(hi:P.info? t=some i)(w:World):(part t cs off).run P w=.ok (.agg ((cs.toList.drop off).take i.size).toArray) w:=by
 obtain⟨d,hd,hd'⟩:=Z0 hg;have hia:(isAgg t).run P w=.ok true w:=by
  simp only[isAgg,Sem.run_bind,run_underlying hd,Result.andThen_ok];rcases hd' with⟨fs,rfl⟩|⟨n,e,rfl⟩<;>rfl
 have hsz:(Go.sizeOf t).run P w=.ok i.size w:=by simp[Go.sizeOf,typeInfo,hi]
 simp only[part,Sem.run_bind,hia,if_true,hsz,Result.andThen_ok,Sem.run_pure]
 congr 2
 apply Array.toList_inj.1;simp[Array.toList_extract,List.extract,List.take_drop]
theorem Yw {P:Program}{rec:TypeId->List Value->List Value->Option Bool}(d:Nat)(hrec:∀t xs ys b,rec t xs ys=some b->∀w,(Op.equalIn (d+1) t (.agg xs.toArray) (.agg ys.toArray)).run P w=.ok b w){xs ys:Array Value} :
  ∀{fs:List Field} {b:Bool},eqG P rec xs.toList ys.toList fs=some b->∀w,(Op.eqFields (d+1) xs ys fs).run P w=.ok b w
 |[],b,h,w=>by
  simp only[eqG,Option.some.injEq]at h;subst h;rfl
 |f::fs,b,h,w=>by
  simp only[eqG]at h;split at h
  ·rename_i hc;simp only[decide_eq_true_eq]at hc;split at h
   ·rename_i b1 hb1;split at h
    ·rename_i r hr;simp only[Option.some.injEq]at h;subst h;have ih:=Yw d hrec hr;split at hb1
     ·rename_i hg;split at hb1
      ·rename_i x hx;split at hb1
       ·rename_i y hy;have hu:=WU hb1;simp only[Op.eqFields,if_pos hc,Sem.run_bind,EK hg hu (by simpa using hx) w,EK hg hu (by simpa using hy) w,Result.andThen_ok,AbA hb1,Sem.run_ite,ih];cases b1<;>simp
       ·cases hb1
      ·cases hb1
     ·rename_i hg;split at hb1
      ·rename_i i hi;simp only[Op.eqFields,if_pos hc,Sem.run_bind,XX hg hi w,Result.andThen_ok,hrec _ _ _ _ hb1,Sem.run_ite,ih];cases b1<;>simp
      ·cases hb1
    ·cases h
   ·cases h
  ·cases h
theorem Aca {P:Program}:∀{n d:Nat},n<=d->∀{t:TypeId} {xs ys:List Value} {b:Bool},eqT P n t xs ys=some b->∀w,(Op.equalIn (d+1) t (.agg xs.toArray) (.agg ys.toArray)).run P w=.ok b w
 |0,d,_,t,xs,ys,b,h,w=>by simp[eqT]at h
 |n+1,d,hd,t,xs,ys,b,h,w=>by
  simp only[eqT]at h;split at h
  ·rename_i fs hu;split at h
   ·rename_i hs;have hf:P.fieldsOf t=fs:=by simp[Program.fieldsOf,hu]
    have hu':P.underlying t=some (.struct (P.fieldsOf t)):=by rw[hf];exact hu
    rw[run_equalIn_struct w d t _ _ hu' hs,hf];cases d with
    |zero=>omega
    |succ d=>exact Yw d (λt' xs' ys' b' h' w'=>Aca (n:=n) (d:=d) (by omega) h' w') (xs:=xs.toArray) (ys:=ys.toArray) (by simpa using h) w
   ·cases h
  ·cases h
theorem RQ {P:Program}{t:TypeId}(d:Nat)(hg:CV P t=false):∀{xs ys:List Value} {b:Bool},eqL P t xs ys=some b->∀(X Y:Array Value) (k:Nat),(∀j v,xs[j]?=some v->X[k+j]?=some v)->(∀j v,ys[j]?=some v->Y[k+j]?=some v) ->
  ∀w,(Op.eqItems (d+1) t 1 X Y (List.range' k xs.length)).run P w=.ok b w
 |[],l,b,h,X,Y,k,hx,hy,w=>by
  cases l<;>simp_all[eqL,Op.eqItems]
 |x::xs,l,b,h,X,Y,k,hx,hy,w=>by
  cases l with
  |nil=>simp[eqL]at h
  |cons y ys=>
   simp only[eqL]at h;split at h
   ·rename_i b1 hb1;split at h
    ·rename_i r hr;simp only[Option.some.injEq]at h;subst h;have hu:=WU hb1;have ih:=RQ d hg hr X Y (k+1) (λj v hj=>by rw[show k+1+j=k+(j+1)from by omega];exact hx (j+1) v (by simpa using hj)) (λj v hj=>by rw[show k+1+j=k+(j+1)from by omega];exact hy (j+1) v (by simpa using hj));have h0:X[k*1]?=some x:=by have:=hx 0 x rfl;simpa using this
     have h1:Y[k*1]?=some y:=by have:=hy 0 y rfl;simpa using this
     simp only[List.length_cons,List.range'_succ,Op.eqItems,Sem.run_bind,EK hg hu h0 w,EK hg hu h1 w,Result.andThen_ok,AbA hb1,Sem.run_ite,ih];cases b1<;>simp
    ·cases h
   ·cases h
open Go
theorem FG (t:TypeId)(x y:Value):Op.equal t x y=Op.equalIn (9999+1) t x y:=rfl
section
variable {P:Program}(w:World)(d:Nat)
theorem Ac8 {e:TypeId}(hu:P.underlying t=some (.pointer e))(a:Option Addr):(Op.equalIn (d+1) t (.pointer a) (.pointer none)).run P w=.ok a.isNone w:=by
 simp only[Op.equalIn,Sem.run_bind,run_underlying hu,Result.andThen_ok];cases a<;>rfl
theorem Ac3 {e:TypeId}(hu:P.underlying t=some (.pointer e))(b:Addr):(Op.equalIn (d+1) t (.pointer none) (.pointer (some b))).run P w=.ok false w:=by
 simp only[Op.equalIn,Sem.run_bind,run_underlying hu,Result.andThen_ok];rfl
theorem Ado {e:TypeId}(hu:P.underlying t=some (.slice e))(a:Option Addr)(l c l' c':Nat):(Op.equalIn (d+1) t (.slice a l c) (.slice none l' c')).run P w=.ok a.isNone w:=by
 simp only[Op.equalIn,Sem.run_bind,run_underlying hu,Result.andThen_ok];cases a<;>rfl
theorem AcI {k e:TypeId}(hu:P.underlying t=some (.map k e))(a:Option Nat):(Op.equalIn (d+1) t (.map a) (.map none)).run P w=.ok a.isNone w:=by
 simp only[Op.equalIn,Sem.run_bind,run_underlying hu,Result.andThen_ok];cases a<;>rfl
theorem AcM {ms:Array (String×TypeId)}(hu:P.underlying t=some (.interface ms)){x:Value}{b:Bool}(hb:Ys x=some b):(Op.equalIn (d+1) t x .nilIface).run P w=.ok b w:=by
 simp only[Op.equalIn,Sem.run_bind,run_underlying hu,Result.andThen_ok];cases x<;>simp[Ys]at hb<;>subst hb<;>rfl
theorem Adi {ps rs:Array TypeId}{va:Bool}(hu:P.underlying t=some (.func ps rs va)){x:Value}{b:Bool}(hb:Yg x=some b):(Op.equalIn (d+1) t x .nilFunc).run P w=.ok b w:=by
 simp only[Op.equalIn,Sem.run_bind,run_underlying hu,Result.andThen_ok];cases x<;>simp[Yg]at hb<;>subst hb<;>rfl
end
theorem AaT {xo yo:Operand}(h:TW P op t (isConst yo) x y K w):
  ∃v,(∀w',(do eqGuard op t xo yo x y;binOp op t x y:Sem Value).run P w'=.ok v w')/\K v w:=by
 have key:∀(hg:∀w',(eqGuard op t xo yo x y).run P w'=.ok () w'),(∃v,(∀w',(binOp op t x y).run P w'=.ok v w')/\K v w) ->
   ∃v,(∀w',(do eqGuard op t xo yo x y;binOp op t x y:Sem Value).run P w'=.ok v w')/\K v w:=by
  intro hg ⟨v,hv,hk⟩;exact⟨v,λw'=>by simp only[Sem.run_bind,hg,Result.andThen_ok,hv],hk⟩
 cases y with
 |int k' b=>
  simp only[TW]at h;cases x<;>simp only[F]at h<;>first|exact h.elim|skip;rename_i k a;refine key (λw'=>Bi _ _ _ _ _ _ (by simp) (by simp)) ?_;cases op<;>simp only at h
  case shl=>obtain⟨v,hv,hk⟩:=Aex (P:=P) h t;exact⟨v,λw'=>hv w',hk⟩
  case shr=>obtain⟨v,hv,hk⟩:=Aex (P:=P) h t;exact⟨v,λw'=>hv w',hk⟩
  all_goals
   split at h
   ·rename_i hk;have hk:k=k':=by simpa using hk
    subst hk;exact Aex (P:=P) h t
   ·exact h.elim
 |string b=>
  simp only[TW]at h;cases x<;>simp only[F]at h<;>first|exact h.elim|skip;exact key (λw'=>Bi _ _ _ _ _ _ (by simp) (by simp)) (AjG h t)
 |bool b=>
  simp only[TW]at h;split at h
  ·rename_i hu;cases x<;>simp only[F]at h<;>first|exact h.elim|skip;exact key (λw'=>Bi _ _ _ _ _ _ (by simp) (by simp)) (XA h t _ _ (λw'=>run_equal_bool w' t _ _ hu) rfl rfl)
  ·exact h.elim
 |pointer b=>
  simp only[TW]at h;split at h
  ·rename_i e hu;cases x<;>simp only[F]at h<;>first|exact h.elim|skip;rename_i a;cases b with
   |some b=>
    cases a with
    |some a=>exact h.elim
    |none=>
     refine key (λw'=>Bi _ _ _ _ _ _ (by simp) (by simp)) (XA h t _ _ (λw'=>?_) rfl rfl);rw[FG];exact Ac3 w' 9999 hu _
   |none=>
    refine key (λw'=>Bi _ _ _ _ _ _ (by simp) (by simp)) (XA h t _ _ (λw'=>?_) rfl rfl);rw[FG];exact Ac8 w' 9999 hu _
  ·exact h.elim
 |slice b l c=>
  simp only[TW]at h;split at h
  ·rename_i e hu;cases b with
   |some b=>exact h.elim
   |none=>
    cases x<;>simp only[F]at h<;>first|exact h.elim|skip;rename_i a _ _;refine key (λw'=>Bi _ _ _ _ _ _ (by simp) (by simp)) (XA h t _ _ (λw'=>?_) rfl rfl);rw[FG];exact Ado w' 9999 hu _ _ _ _ _
  ·exact h.elim
 |map b=>
  simp only[TW]at h;split at h
  ·rename_i e hu;cases b with
   |some b=>exact h.elim
   |none=>
    cases x<;>simp only[F]at h<;>first|exact h.elim|skip;rename_i a;refine key (λw'=>Bi _ _ _ _ _ _ (by simp) (by simp)) (XA h t _ _ (λw'=>?_) rfl rfl);rw[FG];exact AcI w' 9999 hu _
  ·exact h.elim
 |nilIface=>
  simp only[TW]at h;split at h
  ·rename_i hc;split at h
   ·rename_i ms hu;obtain⟨b,hb,h⟩:=h;have hx:binOp .eql t x .nilIface=(do pure (.bool (<-Op.equal t x .nilIface)))/\binOp .neq t x .nilIface=(do pure (.bool (!(<-Op.equal t x .nilIface)))):=by
     cases x<;>simp[Ys]at hb<;>exact⟨rfl,rfl⟩
    refine key (λw'=>Bi _ _ _ _ _ _ (by simp) (λ_=>hc)) (XA h t _ _ (λw'=>?_) hx.1 hx.2);rw[FG];exact AcM w' 9999 hu hb
   ·exact h.elim
  ·exact h.elim
 |nilFunc=>
  simp only[TW]at h;split at h
  ·rename_i ps rs va hu;obtain⟨b,hb,h⟩:=h;have hx:binOp .eql t x .nilFunc=(do pure (.bool (<-Op.equal t x .nilFunc)))/\binOp .neq t x .nilFunc=(do pure (.bool (!(<-Op.equal t x .nilFunc)))):=by
    cases x<;>simp[Yg]at hb<;>exact⟨rfl,rfl⟩
   refine key (λw'=>Bi _ _ _ _ _ _ (by simp) (by simp)) (XA h t _ _ (λw'=>?_) hx.1 hx.2);rw[FG];exact Adi w' 9999 hu hb
  ·exact h.elim
 |agg ys=>
  simp only[TW]at h;cases x<;>simp only[F]at h<;>first|exact h.elim|skip;rename_i xs;split at h
  ·rename_i hc;simp only[Bool.and_eq_true,Bool.not_eq_true']at hc;split at h
   ·rename_i fs hu;split at h
    ·rename_i b hb;have hf:P.fieldsOf t=fs:=by simp[Program.fieldsOf,hu]
     have hu':P.underlying t=some (.struct (P.fieldsOf t)):=by rw[hf];exact hu
     refine key (λw'=>run_eqGuard_agg w' op t xo yo xs ys hc.1) (XA h t _ _ (λw'=>?_) rfl rfl);rw[FG,run_equalIn_struct w' 9999 t xs ys hu' hc.2,hf];exact Yw 9998 (λt' xs' ys' b' h' w''=>Aca (n:=4) (d:=9998) (by omega) h' w'') hb w'
    ·exact h.elim
   ·rename_i n e hu;split at h
    ·rename_i inf hinf;split at h
     ·rename_i hq;simp only[Bool.and_eq_true,decide_eq_true_eq,Bool.not_eq_true']at hq;obtain⟨hl,b,hb,h⟩:=h;refine key (λw'=>run_eqGuard_agg w' op t xo yo xs ys hc.1) (XA h t _ _ (λw'=>?_) rfl rfl);rw[FG,run_equalIn_array w' 9999 xs ys hu hinf];have hcs:P.cellsOf e=1:=by simp[Program.cellsOf,hinf,hq.1]
      have:=RQ 9998 hq.2 hb xs ys 0 (λj v hj=>by simpa using hj) (λj v hj=>by simpa using hj) w';rw[hcs,List.range_eq_range',<-hl];exact this
     ·exact h.elim
    ·exact h.elim
   ·exact h.elim
  ·exact h.elim
 |_=>exact h.elim
def unD (op:UnOp)(x:Value)(K:Value->Pr)(w:World):Prop:=
 match x with
 |.int k n=>match op with
  |.neg=>K (.int k (k.wrap (0-n))) w
  |.xor=>AaN .xor k (if k.signed then -1 else k.max) n K w
  |_=>F w
 |.bool b=>match op with
  |.not=>K (.bool (!b)) w
  |_=>F w
 |_=>F w
def AdJ (P:Program)(src dst:TypeId)(x:Value)(K:Value->Pr)(w:World):Prop:=
 match x with
 |.int _ n=>match P.underlying dst with
  |some (.int k)=>match P.underlying src with
   |some (.int _)=>K (.int k (k.wrap n)) w
   |_=>F w
  |_=>F w
 |.string s=>match P.underlying dst with
  |some .string=>match P.underlying src with
   |some .string=>K (.string s) w
   |_=>F w
  |_=>F w
 |_=>F w
def bnd (x:Option Value)(d y:Nat)(K:Nat->Pr)(w:World):Prop:=
 match x with
 |none=>K d w
 |some v=>match v with
  |.int _ i=>AY (0<=i/\i<=y) (K i.toNat) w
  |_=>F w
def A7 (a:Option Addr)(cap l size:Nat):Option Addr:=if cap=l then a else a.map (·.add (l*size))
def Abb (P:Program)(t:TypeId)(x:Value)(lo hi:Option Value)(K:Value->Pr)(w:World):Prop:=
 match P.underlying t with
 |some .string=>match x with
  |.string s=>bnd hi s.size s.size (λh=>bnd lo 0 h λl=>K (.string (s.extract l h))) w
  |_=>F w
 |some (.slice e)=>match x with
  |.slice a len cap=>match P.info? e with
   |some i=>bnd hi len cap (λh=>bnd lo 0 h λl=>K (.slice (A7 a cap l i.size) (h-l) (cap-l))) w
   |none=>F w
  |_=>F w
 |some (.array n e)=>match x with
  |.pointer (some a)=>match P.info? e with
   |some i=>bnd hi n n (λh=>bnd lo 0 h λl=>K (.slice (A7 (some a) n l i.size) (h-l) (n-l))) w
   |none=>F w
  |_=>F w
 |_=>F w
def Xx (P:Program)(t:TypeId)(x:Value)(lo hi:Option Value)(mx:Value)(K:Value->Pr)(w:World):Prop:=
 match P.underlying t with
 |some (.slice e)=>match x with
  |.slice a _ cap=>match P.info? e with
   |some i=>match hi with
    |some hv=>bnd (some mx) 0 cap (λm=>bnd (some hv) 0 m λh=>bnd lo 0 h λl=>K (.slice (A7 a m l i.size) (h-l) (m-l))) w
    |none=>F w
   |none=>F w
  |_=>F w
 |_=>F w
def setRow:List Value->Nat->List Value->List Value
 |l,_,[]=>l
 |l,o,v::vs=>setRow (l.set o v) (o+1) vs
theorem Ac4 (cs:List Value):∀(j off:Nat) (cells:Array Value),
  ((cs.zipIdx j).foldl (λ(a:Array Value) (p:Value×Nat)=>a.setIfInBounds (off+p.2) p.1) cells).toList=setRow cells.toList (off+j) cs:=by
 induction cs with
 |nil=>intro j off cells;rfl
 |cons c cs ih=>
  intro j off cells;simp only[List.zipIdx_cons,List.foldl_cons,setRow];rw[ih];simp[Nat.add_assoc]
def Pt (P:Program)(place:Nat->Option (Nat×TypeId)):List (Nat×Value)->List Value->(List Value->Pr)->World->Prop
 |[],cells,K,w=>K cells w
 |(i,v)::rest,cells,K,w=>match place i with
  |some (off,t)=>match P.info? t with
   |some inf=>match CV P t with
    |true=>match v with
     |.agg cs=>match decide (cs.size=inf.size)&&decide (off+cs.size<=cells.length)with
      |true=>Pt P place rest (setRow cells off cs.toList) K w
      |false=>F w
     |_=>F w
    |false=>match decide (inf.size=1)&&decide (off+1<=cells.length)with
     |true=>match kd P t with
      |some .v=>AY (v.oneCell'=true) (Pt P place rest (cells.set off v) K) w
      |_=>match v.oneCell' with
       |true=>Pt P place rest (cells.set off v) K w
       |false=>F w
     |false=>F w
   |none=>F w
  |none=>F w
theorem Q2 {v:Value}(h:v.oneCell'=true):v.cells=#[v]:=by
 cases v<;>simp_all[Value.oneCell',Value.cells]
theorem FE {P:Program}{place:Nat->Option (Nat×TypeId)}{place':Nat->Option (Nat×Nat)}(hp:∀i off t inf,place i=some (off,t)->P.info? t=some inf->place' i=some (off,inf.size)) :
  ∀{parts:List (Nat×Value)} {cells:List Value} {K:List Value->Pr} {w:World},Pt P place parts cells K w ->
   ∃r:List Value,Instr.fill place' cells.toArray parts=some r.toArray/\K r w
 |[],cells,K,w,h=>⟨cells,rfl,h⟩
 |(i,v)::rest,cells,K,w,h=>by
  simp only[Pt]at h;split at h
  ·rename_i off t hpl;split at h
   ·rename_i inf hinf;have hpl':=hp i off t inf hpl hinf;split at h
    ·cases v<;>simp only[F]at h<;>first|exact h.elim|skip;rename_i cs;split at h
     ·rename_i hc;simp only[Bool.and_eq_true,decide_eq_true_eq]at hc;obtain⟨r,hr,hk⟩:=FE hp h;refine⟨r,?_,hk⟩;simp only[Instr.fill,hpl',Value.cells,List.size_toArray];rw[if_neg (by
        have h1:=hc.1;have h2:=hc.2;simp[h1];omega)]
      rw[<-hr]
      congr 1
      have:=Ac4 cs.toList 0 off cells.toArray;apply Array.toList_inj.1;rw[<-Array.foldl_toList];simpa using this
     ·exact h.elim
    ·split at h
     ·rename_i hc;simp only[Bool.and_eq_true,decide_eq_true_eq]at hc;have go:v.oneCell'=true->Pt P place rest (cells.set off v) K w->∃r:List Value,Instr.fill place' cells.toArray ((i,v)::rest)=some r.toArray/\K r w:=by
       intro hv h;obtain⟨r,hr,hk⟩:=FE hp h;refine⟨r,?_,hk⟩;simp only[Instr.fill,hpl',Q2 hv,List.size_toArray];rw[if_neg (by simp;omega)];rw[<-hr]
       congr 1
       apply Array.toList_inj.1;simp
      split at h
      ·exact go h.1 h.2
      ·split at h
       ·exact go ‹_› h
       ·exact h.elim
     ·exact h.elim
   ·exact h.elim
  ·exact h.elim
open Go
def Ace:Value->Bool
 |.pointer none=>false
 |.nilIface=>false
 |.nilFunc=>false
 |.func (.method _) _ _=>false
 |_=>true
def NnV (v:Value)(K:Value->Pr):Pr:=λw=>Ace v=true/\K v w
def XI (P:Program)(t:TypeId)(i:Nat):Option (Nat×TypeId):=
 match P.underlying t with
 |some (.struct fs)=>match fs[i]? with
  |some f=>some (f.offset,f.type)
  |none=>none
 |some (.array _ e)=>match P.info? e with
  |some inf=>some (i*inf.size,e)
  |none=>none
 |_=>none
def zeroOf (P:Program)(t:TypeId):Option Value:=
 match P.info? t with
 |some i=>i.zero
 |none=>none
variable {z:Value}
theorem Ea (h:zeroOf P t=some z)(w:World):(zeroValue t).run P w=.ok z w:=by
 unfold zeroOf at h;split at h
 ·rename_i i hi;simp[zeroValue,typeInfo,hi,h]
 ·cases h
theorem A0 {i:TypeInfo}(h:P.info? t=some i)(w:World):(sizeOf t).run P w=.ok i.size w:=by
 simp[sizeOf,typeInfo,h]
def Gc (ρ:Operand->Value):List (Nat×Operand)->List (Nat×Value)
 |[]=>[]
 |(i,x)::r=>(i,ρ x)::Gc ρ r
theorem AdV (ρ:Operand->Value)(l:Array (Nat×Operand)):(l.map λ(i,x)=>(i,ρ x)).toList=Gc ρ l.toList:=by
 simp only[Array.toList_map];generalize l.toList=l;induction l with
 |nil=>rfl
 |cons p l ih=>obtain⟨i,x⟩:=p;simp only[List.map_cons,Gc,ih]
def placesOf (P:Program):List Field->Option (List (Nat×Nat))
 |[]=>some []
 |f::fs=>match P.info? f.type with
  |some i=>match placesOf P fs with
   |some r=>some ((f.offset,i.size)::r)
   |none=>none
  |none=>none
theorem Oh {P:Program}:∀(fs:List Field),fs.mapM (λf=>(P.info? f.type).map λi=>(f.offset,i.size))=placesOf P fs
 |[]=>rfl
 |f::fs=>by
  simp only[List.mapM_cons,placesOf,Oh fs,Option.bind_eq_bind,Option.pure_def];cases P.info? f.type with
  |none=>rfl
  |some i=>cases placesOf P fs<;>rfl
theorem Pk {P:Program}:∀{fs:List Field} {r:List (Nat×Nat)},placesOf P fs=some r->∀{i:Nat} {f:Field} {inf:TypeInfo},fs[i]?=some f->P.info? f.type=some inf->r[i]?=some (f.offset,inf.size)
 |[],r,h,i,f,inf,hf,hi=>by simp at hf
 |g::fs,r,h,i,f,inf,hf,hi=>by
  simp only[placesOf]at h;split at h
  ·rename_i j hj;split at h
   ·rename_i q hq;simp only[Option.some.injEq]at h;subst h;cases i with
    |zero=>simp only[List.getElem?_cons_zero,Option.some.injEq]at hf;subst hf;rw[hj]at hi;simp only[Option.some.injEq]at hi;subst hi;rfl
    |succ i=>simp only[List.getElem?_cons_succ]at hf ⊢;exact Pk hq hf hi
   ·cases h
  ·cases h
def AaC (P:Program)(t:TypeId)(parts:List (Nat×Value))(K:Value->Pr)(w:World):Prop:=
 match zeroOf P t with
 |some z=>match P.underlying t with
  |some (.struct fs)=>match placesOf P fs.toList with
   |some _=>Pt P (XI P t) parts z.cells.toList (λr=>K (.agg r.toArray)) w
   |none=>F w
  |some (.array _ e)=>match P.info? e with
   |some _=>Pt P (XI P t) parts z.cells.toList (λr=>K (.agg r.toArray)) w
   |none=>F w
  |_=>F w
 |none=>F w
theorem XL {parts:Array (Nat×Value)}(h:AaC P t parts.toList K w):
  ∃v,(∀w',(Instr.build t parts).run P w'=.ok v w')/\K v w:=by
 simp only[AaC]at h;split at h
 ·rename_i z hz;split at h
  ·rename_i fs hu;split at h
   ·rename_i pl hpl;obtain⟨r,hr,hk⟩:=FE (place':=λi=>pl[i]?) (λi off u inf hp hi=>by
     simp only[XI,hu]at hp;split at hp
     ·rename_i f hf;simp only[Option.some.injEq,Prod.mk.injEq]at hp;obtain⟨rfl,rfl⟩:=hp;exact Pk hpl (by simpa using hf) hi
     ·cases hp) h
    refine⟨_,λw'=>?_,hk⟩;have hm:=run_places w' _ _ ((Oh _).trans hpl);simp only[Array.toArray_toList]at hr;simp[Instr.build,run_underlying hu,Ea hz,Array.mapM_eq_mapM_toList,hm,hr]
   ·exact h.elim
  ·rename_i n e hu;split at h
   ·rename_i inf hinf;obtain⟨r,hr,hk⟩:=FE (place':=λi=>some (i*inf.size,inf.size)) (λi off u inf' hp hi=>by
     simp only[XI,hu,hinf,Option.some.injEq,Prod.mk.injEq]at hp;obtain⟨rfl,rfl⟩:=hp;rw[hinf]at hi;simp only[Option.some.injEq]at hi;subst hi;rfl) h
    refine⟨_,λw'=>?_,hk⟩;simp only[Instr.build,Sem.run_bind,Ea hz,Result.andThen_ok,run_underlying hu,A0 hinf];simp only[Array.toArray_toList]at hr;rw[hr];rfl
   ·exact h.elim
  ·exact h.elim
 ·exact h.elim
def Abd (P:Program)(t:TypeId)(x:Value)(i:Nat)(K:Value->Pr)(w:World):Prop:=
 match P.underlying t with
 |some (.struct fs)=>match fs[i]? with
  |some f=>match x with
   |.agg cs=>match P.info? f.type with
    |some inf=>match P.underlying f.type with
     |some _=>match CV P f.type with
      |true=>K (.agg ((cs.toList.drop f.offset).take inf.size).toArray) w
      |false=>match cs.toList[f.offset]? with
       |some v=>K v w
       |none=>F w
     |none=>F w
    |none=>F w
   |_=>F w
  |none=>F w
 |_=>F w
def OH (P:Program)(t:TypeId)(x:Value)(i:Nat)(K:Value->Pr)(w:World):Prop:=
 match P.underlying t with
 |some (.struct fs)=>match fs[i]? with
  |some f=>match x with
   |.pointer p=>match P.info? f.type with
    |some inf=>match decide (inf.size=0)with
     |true=>F w
     |false=>Nn p (λa=>K (.pointer (some (a.add f.offset)))) w
    |none=>F w
   |_=>F w
  |none=>F w
 |_=>F w
def OE (P:Program)(t:TypeId)(x i:Value)(K:Value->Pr)(w:World):Prop:=
 match i with
 |.int _ n=>match P.underlying t with
  |some (.slice e)=>match x with
   |.slice p l c=>match P.info? e with
    |some inf=>Ix ⟨p,l,c⟩ n inf.size (λa=>K (.pointer (some a))) w
    |none=>F w
   |_=>F w
  |some (.array len e)=>match x with
   |.pointer p=>match P.info? e with
    |some inf=>Nn p (λa=>IxR a len n inf.size (λa=>K (.pointer (some a)))) w
    |none=>F w
   |_=>F w
  |_=>F w
 |_=>F w
def Ty (k:Kd)(v:Value)(K:k.T->Pr):Pr:=λw=>match k.dec v with
 |some x=>K x w
 |none=>F w
def TyN (v:Value)(K:List Value->Pr):Pr:=λw=>match v with
 |.agg cs=>K cs.toList w
 |_=>F w
def few (P:Program)(t:TypeId):Option (List Kd):=
 match kds P 8 t with
 |some ks=>match P.info? t with
  |some i=>match decide (ks.length=i.size)with
   |true=>match decide (ks.length<=40)with
    |true=>some ks
    |false=>none
   |false=>none
  |none=>none
 |none=>none
def TyA (ks:List Kd)(v:Value)(K:Kw ks->Pr):Pr:=λw=>match v with
 |.agg cs=>match Yy ks cs.toList with
  |some x=>K x w
  |none=>F w
 |_=>F w
def tyD (P:Program)(t:TypeId)(v:Value)(K:Value->Pr)(w:World):Prop:=
 match CV P t with
 |true=>match few P t with
  |some ks=>TyA ks v (λx=>K (.agg (Cs ks x).toArray)) w
  |none=>TyN v (λl=>K (.agg l.toArray)) w
 |false=>match kd P t with
  |some k=>match k with
   |.v=>K v w
   |k=>Ty k v (λx=>K (k.enc x)) w
  |none=>K v w
theorem Qm {v:Value}(h:tyD P t v K w):K v w:=by
 simp only[tyD]at h;split at h
 ·split at h
  ·simp only[TyA]at h;split at h
   ·split at h
    ·rename_i cs _ x hx;rw[show cs=(Cs _ x).toArray from by rw[<-XJ hx]];exact h
    ·exact h.elim
   ·exact h.elim
  ·simp only[TyN]at h;split at h
   ·simpa using h
   ·exact h.elim
 ·split at h
  ·split at h
   ·exact h
   ·rename_i k _ hk _;simp only[Ty]at h;split at h
    ·rename_i x hx;rw[Kd.OJ hx];exact h
    ·exact h.elim
  ·exact h
def IxA (cs:List Value)(n:Nat)(i:Int)(size:Nat)(K:Value->Pr):Pr:=λw=>0<=i/\i<n/\K (.agg ((cs.drop (i.toNat*size)).take size).toArray) w
def Aa7 (P:Program)(t:TypeId)(x i:Value)(K:Value->Pr)(w:World):Prop:=
 match i with
 |.int _ n=>match P.underlying t with
  |some .string=>match x with
   |.string s=>IxS s n (λc=>K (.int .u8 c)) w
   |_=>F w
  |some (.array len e)=>match x with
   |.agg cs=>match P.info? e with
    |some inf=>match P.underlying e with
     |some _=>match CV P e with
      |false=>IxG cs.toList len n inf.size (λv=>tyD P e v K) w
      |true=>IxA cs.toList len n inf.size (λv=>tyD P e v K) w
     |none=>F w
    |none=>F w
   |_=>F w
  |_=>F w
 |_=>F w
def Th (mx:Bool)(x y:Value)(K:Value->Pr)(w:World):Prop:=
 match x with
 |.int k a=>match y with
  |.int _ b=>match mx with
   |true=>K (.int k (if b>a then b else a)) w
   |false=>K (.int k (if b<a then b else a)) w
  |_=>F w
 |.string a=>match y with
  |.string b=>match mx with
   |true=>K (.string (if !(slt a b)then a else b)) w
   |false=>K (.string (if slt a b||seq a b then a else b)) w
  |_=>F w
 |_=>F w
def AiI (P:Program)(t:TypeId)(x:Value)(K:Value->Pr)(w:World):Prop:=
 match P.underlying t with
 |some .string=>match x with
  |.string s=>K (.int .i64 s.size) w
  |_=>F w
 |some (.slice _)=>match x with
  |.slice _ n _=>K (.int .i64 n) w
  |_=>F w
 |some (.array n _)=>K (.int .i64 n) w
 |_=>F w
def AhW (P:Program)(t:TypeId)(x:Value)(K:Value->Pr)(w:World):Prop:=
 match P.underlying t with
 |some (.slice _)=>match x with
  |.slice _ _ n=>K (.int .i64 n) w
  |_=>F w
 |some (.array n _)=>K (.int .i64 n) w
 |_=>F w
def Nl (x:Value)(K:Value->Pr)(w:World):Prop:=
 match x with
 |.pointer p=>Nn p (λa=>K (.pointer (some a))) w
 |v=>NnV v K w
def Afn (P:Program)(o:Oper)(ρ:Operand->Value)(K:Value->Pr)(w:World):Prop:=
 match o.op with
 |.move x=>K (ρ x) w
 |.assign x=>K (ρ x) w
 |.pick c a b=>match ρ c with
  |.bool t=>Br t (K (ρ a)) (K (ρ b)) w
  |_=>F w
 |.nilCheck x=>Nl (ρ x) K w
 |.binOp op t x y _=>TW P op t (isConst y) (ρ x) (ρ y) K w
 |.unOp op _ x=>unD op (ρ x) K w
 |.convert src dst x=>AdJ P src dst (ρ x) K w
 |.makeInterface t x=>match P.concrete t with
  |true=>K (.iface t (ρ x)) w
  |false=>F w
 |.makeFunc fn first cap=>K (.func fn (first.toList.map ρ).toArray (cap.toList.map ρ).toArray) w
 |.build t parts=>AaC P t (Gc ρ parts.toList) K w
 |.slice t x lo hi mx=>match mx with
  |none=>Abb P t (ρ x) (match lo with|some l=>some (ρ l)|none=>none) (match hi with|some l=>some (ρ l)|none=>none) K w
  |some m=>Xx P t (ρ x) (match lo with|some l=>some (ρ l)|none=>none) (match hi with|some l=>some (ρ l)|none=>none) (ρ m) K w
 |.field t x i=>Abd P t (ρ x) i K w
 |.fieldAddr t x i=>OH P t (ρ x) i K w
 |.indexAddr t x i=>OE P t (ρ x) (ρ i) K w
 |.index t x i=>Aa7 P t (ρ x) (ρ i) K w
 |.extract x i=>match ρ x with
  |.tuple vs=>match vs.toList[i]? with
   |some v=>tyD P o.type v K w
   |none=>F w
  |_=>F w
 |.sliceToArrayPointer t x=>match P.underlying t with
  |some (.array n _)=>match ρ x with
   |.slice a l _=>AY (n<=l) (Nn a (λa=>K (.pointer (some a)))) w
   |_=>F w
  |_=>F w
 |.call c=>match c.callee with
  |.builtin b=>match b with
   |.len=>match c.argTypes.toList with
    |[t]=>match c.args.toList with
     |[x]=>AiI P t (ρ x) K w
     |_=>F w
    |_=>F w
   |.cap=>match c.argTypes.toList with
    |[t]=>match c.args.toList with
     |[x]=>AhW P t (ρ x) K w
     |_=>F w
    |_=>F w
   |.max=>match c.args.toList with
    |[x,y]=>Th true (ρ x) (ρ y) K w
    |_=>F w
   |.min=>match c.args.toList with
    |[x,y]=>Th false (ρ x) (ρ y) K w
    |_=>F w
   |_=>F w
  |_=>F w
 |_=>F w
variable {d:TypeDesc}
theorem Hx (hu:P.underlying t=some d)(w:World):(isAgg t).run P w=.ok (CV P t) w:=by
 simp only[isAgg,Sem.run_bind,run_underlying hu,Result.andThen_ok,CV,hu];cases d<;>rfl
theorem XP {i:Nat}(h:Abd P t x i K w):
  ∃v,(∀w',(Instr.field t x i).run P w'=.ok v w')/\K v w:=by
 simp only[Abd]at h;split at h
 ·rename_i fs hu;split at h
  ·rename_i f hf;cases x<;>simp only[F]at h<;>first|exact h.elim|skip;rename_i cs;split at h
   ·rename_i inf hinf;split at h
    ·rename_i d hd;split at h
     ·rename_i hg;refine⟨_,λw'=>?_,h⟩;simp only[Instr.field,Sem.run_bind,run_underlying hu,Result.andThen_ok,hf,asAgg,Sem.run_pure,part,Hx hd,hg,if_true,A0 hinf]
      congr 2
      apply Array.toList_inj.1;simp[Array.toList_extract,List.extract,List.take_drop]
     ·rename_i hg;split at h
      ·rename_i v hv;refine⟨_,λw'=>?_,h⟩;have hv':cs[f.offset]?=some v:=by simpa using hv
       simp only[Instr.field,Sem.run_bind,run_underlying hu,Result.andThen_ok,hf,asAgg,Sem.run_pure,part,Hx hd,hg,Bool.false_eq_true,if_false,hv']
      ·exact h.elim
    ·exact h.elim
   ·exact h.elim
  ·exact h.elim
 ·exact h.elim
theorem Rb {i:Nat}(h:OH P t x i K w):
  ∃v,(∀w',(Instr.fieldAt t x i).run P w'=.ok v w')/\K v w:=by
 simp only[OH]at h;split at h
 ·rename_i fs hu;split at h
  ·rename_i f hf;split at h
   ·rename_i p;split at h
    ·rename_i inf hinf;split at h
     ·exact h.elim
     ·rename_i hz;cases p with
      |none=>exact h.elim
      |some a=>
      refine⟨_,λw'=>?_,h⟩;have hz':inf.size≠0:=by simpa using hz
      simp[Instr.fieldAt,run_underlying hu,hf,Instr.sureAddr,fieldPlace,A0 hinf,hz']
    ·exact h.elim
   ·exact h.elim
  ·exact h.elim
 ·exact h.elim
theorem Qr {i:Value}(h:OE P t x i K w):
  ∃v,(∀w',(Instr.indexAt t x i).run P w'=.ok v w')/\K v w:=by
 simp only[OE]at h;split at h
 ·rename_i k n;split at h
  ·rename_i e hu;split at h
   ·rename_i p l c;split at h
    ·rename_i inf hinf;simp only[Ix]at h;split at h
     ·rename_i a;obtain⟨h1,h2,h⟩:=h;refine⟨_,λw'=>?_,h⟩;simp only[Instr.indexAt,asIntOf,Sem.run_bind,Sem.run_pure,Result.andThen_ok,run_underlying hu,A0 hinf];rw[if_pos ⟨h1,h2⟩];simp[A0 hinf]
     ·exact h.elim
    ·exact h.elim
   ·exact h.elim
  ·rename_i len e hu;split at h
   ·rename_i p;split at h
    ·rename_i inf hinf;cases p with
     |none=>exact h.elim
     |some a=>
     obtain⟨h1,h2,h⟩:=h;refine⟨_,λw'=>?_,h⟩;simp only[Instr.indexAt,asIntOf,Sem.run_bind,Sem.run_pure,Result.andThen_ok,run_underlying hu,A0 hinf,Instr.sureAddr];rw[if_pos ⟨h1,h2⟩];simp[A0 hinf]
    ·exact h.elim
   ·exact h.elim
  ·exact h.elim
 ·exact h.elim
theorem Xp {i:Value}(h:Aa7 P t x i K w):
  ∃v,(∀w',(Instr.index t x i).run P w'=.ok v w')/\K v w:=by
 simp only[Aa7]at h;split at h
 ·rename_i k n;split at h
  ·rename_i hu;split at h
   ·rename_i s;obtain⟨h1,b,hb,h⟩:=h;refine⟨_,λw'=>?_,h⟩;simp[Instr.index,asIntOf,run_underlying hu,h1,hb]
   ·exact h.elim
  ·rename_i len e hu;split at h
   ·rename_i cs;split at h
    ·rename_i inf hinf;split at h
     ·rename_i d hd;split at h
      ·rename_i hg;obtain⟨h0,h1,v,hv,h⟩:=h;refine⟨v,λw'=>?_,Qm h⟩;have hv':cs[n.toNat*inf.size]?=some v:=by simpa using hv
       simp only[Instr.index,asIntOf,Sem.run_bind,Sem.run_pure,Result.andThen_ok,run_underlying hu,h0,h1,and_self,if_true,A0 hinf,EK hg ⟨d,hd⟩ hv' w']
      ·rename_i hg;obtain⟨h0,h1,h⟩:=h;refine⟨_,λw'=>?_,Qm h⟩;simp only[Instr.index,asIntOf,Sem.run_bind,Sem.run_pure,Result.andThen_ok,run_underlying hu,h0,h1,and_self,if_true,A0 hinf,part,Hx hd,hg]
       congr 2
       apply Array.toList_inj.1;simp[Array.toList_extract,List.extract,List.take_drop]
     ·exact h.elim
    ·exact h.elim
   ·exact h.elim
  ·exact h.elim
 ·exact h.elim
theorem NN {mx:Bool}(h:Th mx x y K w)(ts:Array TypeId)(t:TypeId):
  ∃v,(∀w',(match mx with|true=>Builtin.max_ ts t #[x,y]|false=>Builtin.min_ ts t #[x,y]).run P w'=.ok v w')/\K v w:=by
 simp only[Th]at h;split at h
 ·split at h
  ·split at h
   ·exact⟨_,λw'=>by simp[Builtin.max_,Builtin.max2],h⟩
   ·exact⟨_,λw'=>by simp[Builtin.min_,Builtin.min2],h⟩
  ·exact h.elim
 ·split at h
  ·split at h
   ·exact⟨_,λw'=>by simp[Builtin.max_,Builtin.max2,Op.stringOp,asBool,slt],h⟩
   ·exact⟨_,λw'=>by simp[Builtin.min_,Builtin.min2,Op.stringOp,asBool,slt,seq],h⟩
  ·exact h.elim
 ·exact h.elim
theorem Aal (h:AiI P t x K w)(ty:TypeId):
  ∃v,(∀w',(Builtin.len_ #[t] ty #[x]).run P w'=.ok v w')/\K v w:=by
 simp only[AiI]at h;split at h
 ·rename_i hu;split at h
  ·exact⟨_,λw'=>by simp[Builtin.len_,run_underlying hu,goInt],h⟩
  ·exact h.elim
 ·rename_i hu;split at h
  ·exact⟨_,λw'=>by simp[Builtin.len_,run_underlying hu,goInt],h⟩
  ·exact h.elim
 ·rename_i hu;exact⟨_,λw'=>by simp[Builtin.len_,run_underlying hu,goInt],h⟩
 ·exact h.elim
theorem Aan (h:AhW P t x K w)(ty:TypeId):
  ∃v,(∀w',(Builtin.cap_ #[t] ty #[x]).run P w'=.ok v w')/\K v w:=by
 simp only[AhW]at h;split at h
 ·rename_i hu;split at h
  ·exact⟨_,λw'=>by simp[Builtin.cap_,run_underlying hu,goInt],h⟩
  ·exact h.elim
 ·rename_i hu;exact⟨_,λw'=>by simp[Builtin.cap_,run_underlying hu,goInt],h⟩
 ·exact h.elim
variable {src dst:TypeId}
theorem Zp (h:AdJ P src dst x K w):
  ∃v,(∀w',(convert src dst x).run P w'=.ok v w')/\K v w:=by
 simp only[AdJ]at h;split at h
 ·split at h
  ·rename_i hd;split at h
   ·rename_i hs;exact⟨_,λw'=>by simp[convert,run_underlying hs,run_underlying hd,Conv.intToInt],h⟩
   ·exact h.elim
  ·exact h.elim
 ·split at h
  ·rename_i hd;split at h
   ·rename_i hs;exact⟨_,λw'=>by simp[convert,run_underlying hs,run_underlying hd],h⟩
   ·exact h.elim
  ·exact h.elim
 ·exact h.elim
theorem Ada {op:UnOp}(h:unD op x K w):
  ∃v,(∀w',(Op.unary op x).run P w'=.ok v w')/\K v w:=by
 simp only[unD]at h;split at h
 ·cases op<;>simp only[F]at h<;>first|exact h.elim|skip
  ·exact⟨_,λw'=>by simp[Op.unary,Op.intArith],h⟩
  ·simp only[AaN]at h;exact⟨_,λw'=>by simp only[Op.unary,Op.intBits];rfl,h⟩
 ·cases op<;>simp only[F]at h<;>first|exact h.elim|skip;exact⟨_,λw'=>by simp[Op.unary],h⟩
 ·exact h.elim
open Go
variable {lo hi:Option Value}
theorem KP {isS:Bool}{len cap:Nat}{K:Nat->Nat->Pr}(h:bnd hi len cap (λh=>bnd lo 0 h λl=>K l h) w):
  ∃l h,(∀w',(Instr.sliceBounds isS len cap lo hi none).run P w'=.ok (l,h,cap) w')/\K l h w:=by
 cases hi with
 |none=>
  cases lo with
  |none=>exact⟨0,len,λw'=>by simp[Instr.sliceBounds],h⟩
  |some v=>
   simp only[bnd]at h;cases v<;>simp only[F]at h<;>first|exact h.elim|skip;exact⟨_,len,λw'=>by simp[Instr.sliceBounds,Instr.sliceBound,asIntOf,h.1],h.2⟩
 |some u=>
  simp only[bnd]at h;cases u<;>simp only[F]at h<;>first|exact h.elim|skip;obtain⟨hu,h⟩:=h;cases lo with
  |none=>exact⟨0,_,λw'=>by simp[Instr.sliceBounds,Instr.sliceBound,asIntOf,hu],h⟩
  |some v=>
   simp only[bnd]at h;cases v<;>simp only[F]at h<;>first|exact h.elim|skip;refine⟨_,_,λw'=>?_,h.2⟩;have h1:=h.1;simp[Instr.sliceBounds,Instr.sliceBound,asIntOf,hu,h1];intro;omega
theorem Yu (h:Abb P t x lo hi K w):
  ∃v,(∀w',(Instr.sliceAt t x lo hi none).run P w'=.ok v w')/\K v w:=by
 simp only[Abb]at h;split at h
 ·rename_i hu;split at h
  ·obtain⟨l,u,hr,hk⟩:=KP (P:=P) (isS:=false) (K:=λl h=>K (.string (_root_.ByteArray.extract _ l h))) h;exact⟨_,λw'=>by simp[Instr.sliceAt,Instr.slice,run_underlying hu,hr],hk⟩
  ·exact h.elim
 ·rename_i e hu;split at h
  ·rename_i a len cap;split at h
   ·rename_i inf hinf;obtain⟨l,u,hr,hk⟩:=KP (P:=P) (isS:=true) (K:=λl h=>K (.slice (A7 a cap l inf.size) (h-l) (cap-l))) h;exact⟨_,λw'=>by simp[Instr.sliceAt,Instr.slice,run_underlying hu,hr,A0 hinf,A7],hk⟩
   ·exact h.elim
  ·exact h.elim
 ·rename_i n e hu;split at h
  ·rename_i a;split at h
   ·rename_i inf hinf;obtain⟨l,u,hr,hk⟩:=KP (P:=P) (isS:=false) (K:=λl h=>K (.slice (A7 (some a) n l inf.size) (h-l) (n-l))) h;refine⟨_,λw'=>?_,hk⟩;simp only[Instr.sliceAt,run_underlying hu,Sem.run_bind,Result.andThen_ok,Instr.sureAddr,Sem.run_pure,hr,A0 hinf,A7];split<;>rfl
   ·exact h.elim
  ·exact h.elim
 ·exact h.elim
theorem Wf {mx:Value}(h:Xx P t x lo hi mx K w):
  ∃v,(∀w',(Instr.sliceAt t x lo hi (some mx)).run P w'=.ok v w')/\K v w:=by
 simp only[Xx]at h;split at h
 ·rename_i e hu;split at h
  ·rename_i a len cap;split at h
   ·rename_i inf hinf;split at h
    ·rename_i hv;simp only[bnd]at h;cases mx<;>(try simp only[F]at h)<;>first|exact h.elim|skip;rename_i km im;obtain⟨hm,h⟩:=h;cases hv<;>(try simp only[F]at h)<;>first|exact h.elim|skip;rename_i kh ih;obtain⟨hh,h⟩:=h;cases lo with
     |none=>
      refine⟨_,λw'=>?_,h⟩;simp only[Instr.sliceAt,Instr.slice,run_underlying hu,Sem.run_bind,Result.andThen_ok,Instr.sliceBounds,Instr.sliceBound,asIntOf,Sem.run_pure];rw[if_pos hm];simp only[Sem.run_pure,Result.andThen_ok];rw[if_pos hh];simp[A0 hinf,A7]
     |some lv=>
      (try simp only at h)
      cases lv<;>(try simp only[F]at h)<;>first|exact h.elim|skip;rename_i kl il;obtain⟨hl,h⟩:=h;refine⟨_,λw'=>?_,h⟩;simp only[Instr.sliceAt,Instr.slice,run_underlying hu,Sem.run_bind,Result.andThen_ok,Instr.sliceBounds,Instr.sliceBound,asIntOf,Sem.run_pure];rw[if_pos hm];simp only[Sem.run_pure,Result.andThen_ok];rw[if_pos hh];simp only[Sem.run_pure,Result.andThen_ok];rw[if_pos hl];simp[A0 hinf,A7]
    ·exact h.elim
   ·exact h.elim
  ·exact h.elim
 ·exact h.elim
theorem Sy {x:Operand}{o:Oper}(ho:o.op=.nilCheck x){ρ:Operand->Value}{K:Value->Pr}{w:World}(h:Nl (ρ x) K w):W6 P o ρ K w:=by
 have nn:∀v,ρ x=v->NnV v K w->W6 P o ρ K w:=by
  intro v hv h;obtain⟨h1,h⟩:=h;refine⟨v,λw'=>?_,h⟩;unfold execOp;rw[ho];simp only[hv]
  cases v<;>first
   |rfl
   |(simp[Ace]at h1;done)
   |(rename_i p;cases p<;>first|rfl|(simp[Ace]at h1;done))
   |(rename_i fn _ _;cases fn<;>first|rfl|(simp[Ace]at h1;done))
 generalize hv:ρ x=v at h;cases v<;>simp only[Nl]at h<;>first|exact nn _ hv h|skip;rename_i p;cases p with
 |none=>exact h.elim
 |some a=>
  refine⟨_,λw'=>?_,h⟩;unfold execOp;rw[ho];simp[hv]
theorem Sr {o:Oper}(h:Afn P o ρ K w):W6 P o ρ K w:=by
 have lift:∀{s:Sem Value} (he:execOp ρ o=(do pure (.value (<-s)))),(∃v,(∀w',s.run P w'=.ok v w')/\K v w)->W6 P o ρ K w:=by
  intro s he ⟨v,hv,hk⟩;exact⟨v,λw'=>by rw[he];simp[hv],hk⟩
 unfold Afn at h;split at h
 ·rename_i x ho;exact⟨_,λw'=>by simp[execOp,ho],h⟩
 ·rename_i x ho;exact⟨_,λw'=>by simp[execOp,ho],h⟩
 ·rename_i c a b ho;split at h
  ·rename_i t ht;cases t
   ·exact⟨_,λw'=>by simp[execOp,ho,ht,asBool],h⟩
   ·exact⟨_,λw'=>by simp[execOp,ho,ht,asBool],h⟩
  ·exact h.elim
 ·rename_i x ho;exact Sy ho h
 ·rename_i op t x y _ ho;exact lift (by unfold execOp;rw[ho]) (AaT (xo:=x) h)
 ·rename_i op _ x ho;exact lift (by unfold execOp;rw[ho]) (Ada h)
 ·rename_i src dst x ho;exact lift (by unfold execOp;rw[ho]) (Zp h)
 ·rename_i t x ho;split at h
  ·rename_i hc;exact lift (by unfold execOp;rw[ho]) ⟨_,λw'=>run_makeInterface w' t (ρ x) hc,h⟩
  ·exact h.elim
 ·rename_i fn first cap ho;refine lift (by unfold execOp;rw[ho]) ⟨_,λw'=>?_,h⟩;simp only[Instr.makeFunc,Sem.run_pure]
  congr 2<;>(apply Array.toList_inj.1;simp)
 ·rename_i t parts ho;rw[<-AdV]at h;exact lift (by unfold execOp;rw[ho]) (XL h)
 ·rename_i t x lo hi mx ho;cases mx with
  |none=>
   simp only at h;refine lift (s:=Instr.sliceAt t (ρ x) (lo.map ρ) (hi.map ρ) none) (by unfold execOp;rw[ho];rfl) ?_;have:=Yu h;cases lo<;>cases hi<;>exact this
  |some m=>
   simp only at h;refine lift (s:=Instr.sliceAt t (ρ x) (lo.map ρ) (hi.map ρ) (some (ρ m))) (by unfold execOp;rw[ho];rfl) ?_;have:=Wf h;cases lo<;>cases hi<;>exact this
 ·rename_i t x i ho;exact lift (by unfold execOp;rw[ho]) (XP h)
 ·rename_i t x i ho;exact lift (by unfold execOp;rw[ho]) (Rb h)
 ·rename_i t x i ho;exact lift (by unfold execOp;rw[ho]) (Qr h)
 ·rename_i t x i ho;exact lift (by unfold execOp;rw[ho]) (Xp h)
 ·rename_i x i ho;split at h
  ·rename_i vs hvs;split at h
   ·rename_i v hv;have hv':vs[i]?=some v:=by simpa using hv
    exact lift (by unfold execOp;rw[ho]) ⟨v,λw'=>by simp[Instr.extract,hvs,hv'],Qm h⟩
   ·exact h.elim
  ·exact h.elim
 ·rename_i t x ho;split at h
  ·rename_i n e hu;split at h
   ·rename_i a l c hx;have h1:=h.1
    replace h:=h.2
    cases a with
    |none=>exact h.elim
    |some a=>exact lift (by unfold execOp;rw[ho]) ⟨_,λw'=>by simp[Instr.arrayAt,run_underlying hu,hx,Nat.not_lt.2 h1],h⟩
   ·exact h.elim
  ·exact h.elim
 ·rename_i c ho;split at h
  ·rename_i b hb;have hx:∀{s:Sem Value},builtin b c.argTypes o.type (c.args.map λ| .const _=>true|_=>false) (c.args.map ρ)=(do pure (.value (<-s)))->execOp ρ o=(do pure (.value (<-s))):=by
    intro s hs;unfold execOp;rw[ho];simp only[resolve,hb,pure_bind,invoke];rw[<-hs];rfl
   split at h
   ·split at h
    ·rename_i t ht;split at h
     ·rename_i x hxs;have e1:c.argTypes=#[t]:=Array.toList_inj.1 (by simpa using ht);have e2:c.args=#[x]:=Array.toList_inj.1 (by simpa using hxs);exact lift (hx (s:=Builtin.len_ #[t] o.type #[ρ x]) (by rw[e1,e2];simp[builtin])) (Aal h _)
     ·exact h.elim
    ·exact h.elim
   ·split at h
    ·rename_i t ht;split at h
     ·rename_i x hxs;have e1:c.argTypes=#[t]:=Array.toList_inj.1 (by simpa using ht);have e2:c.args=#[x]:=Array.toList_inj.1 (by simpa using hxs);exact lift (hx (s:=Builtin.cap_ #[t] o.type #[ρ x]) (by rw[e1,e2];simp[builtin])) (Aan h _)
     ·exact h.elim
    ·exact h.elim
   ·split at h
    ·rename_i x y hxs;have e2:c.args=#[x,y]:=Array.toList_inj.1 (by simpa using hxs);exact lift (hx (s:=Builtin.max_ c.argTypes o.type #[ρ x,ρ y]) (by rw[e2];simp[builtin])) (NN h _ _)
    ·exact h.elim
   ·split at h
    ·rename_i x y hxs;have e2:c.args=#[x,y]:=Array.toList_inj.1 (by simpa using hxs);exact lift (hx (s:=Builtin.min_ c.argTypes o.type #[ρ x,ρ y]) (by rw[e2];simp[builtin])) (NN h _ _)
    ·exact h.elim
   ·exact h.elim
  ·exact h.elim
 ·exact h.elim
open Go
theorem Addr.add_zero (a:Addr):a.add 0=a:=by simp[Go.Addr.add]
def rk (P:Program)(t:TypeId):Option (Option RK):=
 match CV P t with
 |true=>match kds P 8 t with
  |some ks=>match P.info? t with
   |some i=>match decide (ks.length=i.size)with
    |true=>match decide (ks.length<=40)with
     |true=>some (some (.ag ks))
     |false=>some none
    |false=>none
   |none=>none
  |none=>none
 |false=>match kd P t with
  |some k=>some (some (.sc k))
  |none=>none
def LdD (P:Program)(t:TypeId)(a:Addr)(K:Value->Pr)(w:World):Prop:=
 match rk P t with
 |some (some r)=>match r with
  |.sc k=>Ld k a (λx=>K (k.enc x)) w
  |.ag ks=>LdR ks a 0 (λvs=>K (.agg vs.toArray)) w
 |some none=>match P.info? t with
  |some i=>LdN i.size a (λvs=>K (.agg vs.toArray)) w
  |none=>F w
 |none=>F w
theorem YL {P:Program}:∀{ks:List Kd} {a:Addr} {i:Nat} {K:List Value->Pr} {w:World},LdR ks a i K w ->
  ∃vs:List Value,vs.length=ks.length/\(∀j v,vs[j]?=some v->w.cell? (a.add (i+j))=some v)/\K vs w
 |[],a,i,K,w,h=>⟨[],rfl,λj v h=>by simp at h,h⟩
 |k::ks,a,i,K,w,h=>by
  simp only[LdR]at h;obtain⟨x,hx,h⟩:=AbP h;obtain⟨vs,h1,h2,h3⟩:=YL (P:=P) h;refine⟨k.enc x::vs,by simp[h1],λj v hj=>?_,h3⟩;cases j with
  |zero=>simp only[List.getElem?_cons_zero,Option.some.injEq]at hj;subst hj;exact hx
  |succ j=>simp only[List.getElem?_cons_succ]at hj;have:=h2 j v hj;rw[show i+(j+1)=i+1+j from by omega];exact this
theorem Ad5 (h:kd P t=some k):∃d,P.underlying t=some d:=by
 unfold kd at h;split at h<;>first|exact⟨_,‹_›⟩|cases h
theorem XW (h:CV P t=true):∃d,P.underlying t=some d:=by
 unfold CV at h;split at h<;>first|exact⟨_,‹_›⟩|cases h
theorem Wo {a:Addr}(h:LdD P t a K w):
  ∃v,(loadVar t a).run P w=.ok v w/\K v w:=by
 have agg:∀{n:Nat} {i:TypeInfo} (vs:List Value),CV P t=true->P.info? t=some i->i.size=n->vs.length=n->(∀j v,vs[j]?=some v->w.cell? (a.add j)=some v)->(loadVar t a).run P w=.ok (.agg vs.toArray) w:=by
  intro n i vs hg hi hn hl hc;obtain⟨d,hd⟩:=XW hg;have hr:=run_loadCells_list (P:=P) w a vs hc;simp only[loadVar,Sem.run_bind,Hx hd,hg,Result.andThen_ok,if_true,A0 hi,hn,<-hl,hr];rfl
 simp only[LdD]at h;split at h
 ·rename_i r hr;simp only[rk]at hr;split at hr
  ·rename_i hg;split at hr
   ·rename_i ks hks;split at hr
    ·rename_i i hi;split at hr
     ·rename_i hsz;split at hr
      ·simp only[Option.some.injEq]at hr;subst hr;obtain⟨vs,h1,h2,h3⟩:=YL (P:=P) h;exact⟨_,agg vs hg hi (by simpa using(of_decide_eq_true hsz).symm) h1 (λj v hj=>by simpa using h2 j v hj),h3⟩
      ·simp at hr
     ·cases hr
    ·cases hr
   ·cases hr
  ·rename_i hg;split at hr
   ·rename_i k hk;simp only[Option.some.injEq]at hr;subst hr;obtain⟨x,hx,h⟩:=AbP h;obtain⟨d,hd⟩:=Ad5 hk;refine⟨_,?_,h⟩;simp only[loadVar,Sem.run_bind,Hx hd,hg,Result.andThen_ok,Bool.false_eq_true,if_false,run_load,hx]
   ·cases hr
 ·rename_i hr;simp only[rk]at hr;split at hr
  ·rename_i hg;split at hr
   ·rename_i ks hks;split at hr
    ·rename_i i hi;split at hr
     ·split at hr
      ·simp at hr
      ·rw[hi]at h;simp only at h;obtain⟨vs,h1,h2,h3⟩:=h;exact⟨_,agg vs hg hi rfl h1 h2,h3⟩
     ·cases hr
    ·cases hr
   ·cases hr
  ·rename_i hg;split at hr
   ·simp at hr
   ·cases hr
 ·exact h.elim
theorem Agi {a:Addr}{v:Value}{K:Pr}(h:St a v K w):(store a v).run P w=.ok () (w.setCell a v)/\K (w.setCell a v):=by
 obtain⟨h1,⟨x,h2⟩,h3,h4⟩:=h;refine⟨?_,h4⟩;rw[run_store P w a v _ h1];simp[h2,h3]
theorem Hc {P:Program}{a:Addr}:∀{vs:List Value} {i:Nat} {K:Pr} {w:World},Xc vs a i K w->∃w',(storeCells a vs i).run P w=.ok () w'/\K w'
 |[],i,K,w,h=>⟨w,rfl,h⟩
 |v::vs,i,K,w,h=>by
  simp only[Xc]at h;obtain⟨h1,h2⟩:=Agi (P:=P) h;obtain⟨w',h3,h4⟩:=Hc (P:=P) h2;refine⟨w',?_,h4⟩;simp only[storeCells,Sem.run_bind,h1,Result.andThen_ok,h3]
def StD (P:Program)(t:TypeId)(a:Addr)(v:Value)(K:Pr)(w:World):Prop:=
 match rk P t with
 |some (some r)=>match r with
  |.sc _=>match P.info? t with
   |some i=>match decide (i.size=1)with
    |true=>St a v K w
    |false=>F w
   |none=>F w
  |.ag _=>match v with
   |.agg cs=>match P.info? t with
    |some i=>match decide (cs.toList.length=i.size)with
     |true=>Xc cs.toList a 0 K w
     |false=>F w
    |none=>F w
   |_=>F w
 |some none=>match v with
  |.agg cs=>match P.info? t with
   |some i=>StN i.size a cs.toList K w
   |none=>F w
  |_=>F w
 |none=>F w
theorem Ac2 {a:Addr}{v:Value}{K:Pr}(h:StD P t a v K w):
  ∃w',(storeVar t a v).run P w=.ok () w'/\K w':=by
 have key:∀{i:TypeInfo} {vs:List Value},P.info? t=some i->v.cells.toList=vs->vs.length=i.size->Xc vs a 0 K w->∃w',(storeVar t a v).run P w=.ok () w'/\K w':=by
  intro i vs hi hv hl hs;obtain⟨w',h1,h2⟩:=Hc (P:=P) hs;refine⟨w',?_,h2⟩;have hs':v.cells.size=i.size:=by rw[<-hl,<-hv];simp
  simp only[storeVar,Sem.run_bind,A0 hi,Result.andThen_ok,hs',ne_eq,not_true_eq_false,if_false,Sem.run_ite,Sem.run_pure,hv,h1]
 simp only[StD]at h;split at h
 ·rename_i r hr;split at h
  ·split at h
   ·rename_i i hi;split at h
    ·rename_i hsz;have h1:=h.1;exact key hi (by rw[Q2 h1]) (by simpa using(of_decide_eq_true hsz).symm) (by
      show St (a.add 0) v K w;rw[Addr.add_zero];exact h)
    ·exact h.elim
   ·exact h.elim
  ·split at h
   ·split at h
    ·rename_i i hi;split at h
     ·rename_i hsz;exact key (vs:=_root_.Array.toList _) hi rfl (of_decide_eq_true hsz) h
     ·exact h.elim
    ·exact h.elim
   ·exact h.elim
 ·split at h
  ·split at h
   ·rename_i i hi;exact key hi rfl h.1 h.2
   ·exact h.elim
  ·exact h.elim
 ·exact h.elim
def RdB (s:Sl)(bs:List UInt8)(w:World):Prop:=
 bs.length=s.len/\∀j b,bs[j]?=some b->∃a,s.p=some a/\w.cell? (a.add j)=some (.int .u8 (b.toNat:Int))
def AcH (s:Sl)(K:ByteArray->Pr):Pr:=λw=>∃bs,RdB s bs w/\K ⟨bs.toArray⟩ w
variable {c:Nat}
theorem O2 {p:Option Addr}{bs:List UInt8}(h:RdB ⟨p,l,c⟩ bs w):(Conv.bytesToString (.slice p l c)).run P w=.ok (.string ⟨bs.toArray⟩) w:=by
 obtain⟨h1,h2⟩:=h;simp only at h1 h2;cases p with
 |none=>
  cases bs with
  |nil=>rfl
  |cons b bs=>obtain⟨a,ha,_⟩:=h2 0 b rfl;cases ha
 |some a=>
  have hl:(loadCells a l).run P w=.ok ((bs.map λb=>(b.toNat:Int)).map (Value.int .u8)).toArray w:=by
   have:=run_loadCells_list (P:=P) w a ((bs.map λb=>(b.toNat:Int)).map (Value.int .u8)) (λj v hj=>by
    simp only[List.getElem?_map,Option.map_map,Option.map_eq_some_iff]at hj;obtain⟨b,hb,rfl⟩:=hj;obtain⟨a',ha',hc⟩:=h2 j b hb;simp only[Option.some.injEq]at ha';subst ha';exact hc)
   simpa[h1]using this
  rw[run_bytesToString w a l c _ hl]
  congr 2
  have:∀(bs:List UInt8) (r:ByteArray),(bs.map λb=>(b.toNat:Int)).foldl (λr n=>r.push (UInt8.ofNat n.toNat)) r=⟨r.data++bs.toArray⟩:=by
   intro bs;induction bs with
   |nil=>intro r;simp
   |cons b bs ih=>
    intro r;simp only[List.map_cons,List.foldl_cons];rw[ih];have:UInt8.ofNat ((b.toNat:Int).toNat)=b:=by simp
    rw[this]
    congr 1
    apply Array.toList_inj.1;simp[ByteArray.push]
  rw[this];have he:ByteArray.empty.data=#[]:=rfl;rw[he];simp
def plainKey (P:Program)(t:TypeId):Option TypeDesc:=
 match P.underlying t with
 |some d=>match d with
  |.int _=>some d
  |.string=>some d
  |.bool=>some d
  |_=>none
 |none=>none
theorem DC (h:plainKey P t=some d):P.underlying t=some d/\((∃k,d=.int k)\/d=.string\/d=.bool):=by
 unfold plainKey at h;split at h
 ·rename_i d' hd;split at h
  ·simp only[Option.some.injEq]at h;subst h;exact⟨hd,.inl ⟨_,rfl⟩⟩
  ·simp only[Option.some.injEq]at h;subst h;exact⟨hd,.inr (.inl rfl)⟩
  ·simp only[Option.some.injEq]at h;subst h;exact⟨hd,.inr (.inr rfl)⟩
  ·cases h
 ·cases h
theorem run_checkKey (h:plainKey P t=some d)(b:Bool)(v:Value)(w:World):(Instr.checkKey b 10000 t v).run P w=.ok () w:=by
 obtain⟨hu,hd⟩:=DC h;show(Instr.checkKey b (9999+1) t v).run P w=.ok () w;generalize 9999=n;rcases hd with⟨k,rfl⟩|rfl|rfl<;>simp only[Instr.checkKey,Sem.run_bind,run_underlying hu,Result.andThen_ok,Sem.run_pure]
def Ag0 (m:Option Nat)(es:List MapEntry)(w:World):Prop:=
 match m with
 |none=>es=[]
 |some r=>∃c,w.heap[r]?=some (.map es.toArray c)
def Lk (d:TypeDesc)(m:Option Nat)(key:Value)(K:Option Value->Pr):Pr:=λw=>
 ∃es f,Ag0 m es w/\Instr.findNow d key es 0=some f/\K (match f with|some (_,v)=>some v|none=>none) w
def LkK (k:Kd)(z:k.T)(d:TypeDesc)(m:Option Nat)(key:Value)(K:k.T->Bool->Pr):Pr:=
 Lk d m key λf w=>match f with
  |some v=>∃x,v=k.enc x/\K x true w
  |none=>K z false w
def LkN (z:Value)(d:TypeDesc)(m:Option Nat)(key:Value)(K:List Value->Bool->Pr):Pr:=
 Lk d m key λf w=>match f with
  |some v=>∃x:List Value,v=.agg x.toArray/\K x true w
  |none=>∃x:List Value,z=.agg x.toArray/\K x false w
def LkA (ks:List Kd)(z:Value)(d:TypeDesc)(m:Option Nat)(key:Value)(K:Kw ks->Bool->Pr):Pr:=
 Lk d m key λf w=>match f with
  |some v=>∃x:Kw ks,v=.agg (Cs ks x).toArray/\K x true w
  |none=>∃x:Kw ks,z=.agg (Cs ks x).toArray/\K x false w
def RV (ok:Bool)(v:Value)(b:Bool):Value:=match ok with
 |true=>.tuple #[v,.bool b]
 |false=>v
def XR (P:Program)(t:TypeId)(m key:Value)(ok:Bool)(K:Value->Pr)(w:World):Prop:=
 match P.underlying t with
 |some (.map kt et)=>match plainKey P kt with
  |some d=>match m with
   |.map r=>match zeroOf P et with
    |some z=>match rk P et with
     |some (some s)=>match s with
      |.sc k=>match k.dec z with
       |some zk=>LkK k zk d r key (λx b=>K (RV ok (k.enc x) b)) w
       |none=>F w
      |.ag ks=>LkA ks z d r key (λx b=>K (RV ok (.agg (Cs ks x).toArray) b)) w
     |some none=>LkN z d r key (λx b=>K (RV ok (.agg x.toArray) b)) w
     |none=>F w
    |none=>F w
   |_=>F w
  |none=>F w
 |_=>F w
variable {kt et:TypeId}{key:Value}
theorem UA {ok:Bool}{K:Option Value->Pr}(hu:P.underlying t=some (.map kt et))(hk:plainKey P kt=some d)(hz:zeroOf P et=some z)(h:Lk d r key K w):∃f,(Instr.lookup t (.map r) key ok).run P w=.ok (RV ok (f.getD z) f.isSome) w/\K f w:=by
 obtain⟨es,f,he,hf,h⟩:=h;have hud:=(DC hk).1;have hgo:(Instr.findKey kt key es).run P w=.ok f w:=by
  simp only[Instr.findKey,Sem.run_bind,run_underlying hud,Result.andThen_ok,hf,Sem.run_pure]
 refine⟨_,?_,h⟩;cases r with
 |none=>
  simp only[Ag0]at he;subst he;simp only[Instr.lookup,Sem.run_bind,run_underlying hu,Result.andThen_ok,Sem.run_pure,run_checkKey hk];rw[hgo];cases f with
  |none=>cases ok<;>simp[Ea hz,RV]
  |some p=>cases ok<;>simp[RV]
 |some r=>
  obtain⟨c,hc⟩:=he;have hg:(getObj r).run P w=.ok (.map es.toArray c) w:=by simp[getObj,Sem.run,hc]
  simp only[Instr.lookup,Sem.run_bind,run_underlying hu,Result.andThen_ok,hg,Sem.run_pure,run_checkKey hk];rw[hgo];cases f with
  |none=>cases ok<;>simp[Ea hz,RV]
  |some p=>cases ok<;>simp[RV]
theorem VL {m:Value}{ok:Bool}(h:XR P t m key ok K w):
  ∃v,(Instr.lookup t m key ok).run P w=.ok v w/\K v w:=by
 simp only[XR]at h;split at h
 ·rename_i kt et hu;split at h
  ·rename_i d hd;split at h
   ·rename_i r;split at h
    ·rename_i z hz;split at h
     ·split at h
      ·rename_i k;split at h
       ·rename_i zk hzk;obtain⟨f,h1,h2⟩:=UA (ok:=ok) hu hd hz h;cases f with
        |none=>refine⟨_,h1,?_⟩;rw[Kd.OJ hzk];exact h2
        |some v=>obtain⟨x,rfl,h2⟩:=h2;exact⟨_,h1,h2⟩
       ·exact h.elim
      ·obtain⟨f,h1,h2⟩:=UA (ok:=ok) hu hd hz h;cases f with
       |none=>obtain⟨x,rfl,h2⟩:=h2;exact⟨_,h1,h2⟩
       |some v=>obtain⟨x,rfl,h2⟩:=h2;exact⟨_,h1,h2⟩
     ·obtain⟨f,h1,h2⟩:=UA (ok:=ok) hu hd hz h;cases f with
      |none=>obtain⟨x,rfl,h2⟩:=h2;exact⟨_,h1,h2⟩
      |some v=>obtain⟨x,rfl,h2⟩:=h2;exact⟨_,h1,h2⟩
     ·exact h.elim
    ·exact h.elim
   ·exact h.elim
  ·exact h.elim
 ·exact h.elim
def Ali (m:Option Nat)(K:Int->Pr):Pr:=λw=>∃es,Ag0 m es w/\K (es.length:Int) w
def EnM (a:Addr)(K:Value->Value->Pr):Pr:=λw=>
 a.off=0/\∃(m since:Nat) (seen:Array Nat) (es:List MapEntry) (clock stamp:Nat) (e:MapEntry),w.heap[a.block]?=some (.mapIter (some m) since seen clock)/\w.heap[m]?=some (.map es.toArray clock) /\
  seen.back?=some stamp/\es.find? (·.born==stamp)=some e/\K e.key e.val w
def Acg (P:Program)(o:Oper)(ρ:Operand->Value)(K:Value->Pr)(w:World):Prop:=
 match o.op with
 |.load t x=>match ρ x with
  |.pointer p=>Nn p (λa=>LdD P t a K) w
  |_=>F w
 |.lookup t m k ok=>XR P t (ρ m) (ρ k) ok K w
 |.entry x=>match ρ x with
  |.pointer (some a)=>EnM a (λk v=>K (.tuple #[k,v])) w
  |_=>F w
 |.convert src dst x=>match P.underlying dst with
  |some .string=>match P.underlying src with
   |some (.slice e)=>match P.underlying e with
    |some (.int .u8)=>match ρ x with
     |.slice p l c=>AcH ⟨p,l,c⟩ (λs=>K (.string s)) w
     |_=>F w
    |_=>F w
   |_=>F w
  |_=>F w
 |.call c=>match c.callee with
  |.builtin b=>match b with
   |.len=>match c.argTypes.toList with
    |[t]=>match c.args.toList with
     |[x]=>match P.underlying t with
      |some (.map _ _)=>match ρ x with
       |.map m=>Ali m (λn=>K (.int .i64 n)) w
       |_=>F w
      |_=>F w
     |_=>F w
    |_=>F w
   |_=>F w
  |_=>F w
 |_=>F w
theorem execOp_builtin {o:Oper}{c:Call}{b:Builtin}(ho:o.op=.call c)(hb:c.callee=.builtin b){s:Sem Value}(hs:builtin b c.argTypes o.type (c.args.map λ| .const _=>true|_=>false) (c.args.map ρ)=(do pure (.value (<-s)))):execOp ρ o=(do pure (.value (<-s))):=by
 unfold execOp;rw[ho];simp only[resolve,hb,pure_bind,invoke];rw[<-hs];rfl
theorem Mt {o:Oper}(h:Acg P o ρ K w):Z3 P o ρ K w:=by
 have lift:∀{s:Sem Value} (he:execOp ρ o=(do pure (.value (<-s)))),(∃v,s.run P w=.ok v w/\K v w)->Z3 P o ρ K w:=by
  intro s he ⟨v,hv,hk⟩;exact⟨v,by rw[he];simp[hv],hk⟩
 unfold Acg at h;split at h
 ·rename_i t x ho;split at h
  ·rename_i p ha;cases p with
   |none=>exact h.elim
   |some a=>
   obtain⟨v,hv,hk⟩:=Wo h;exact lift (by unfold execOp;rw[ho]) ⟨v,by simp[ha,Instr.loadAt,Instr.sureAddr,hv],hk⟩
  ·exact h.elim
 ·rename_i t m k ok ho;exact lift (by unfold execOp;rw[ho]) (VL h)
 ·rename_i x ho;split at h
  ·rename_i a ha;obtain⟨h0,m,since,seen,es,clock,stamp,e,h1,h2,h3,h4,h⟩:=h;obtain⟨ab,ao,av⟩:=a;simp only at h0 h1;subst h0;have g1:(getObj ab).run P w=.ok (.mapIter (some m) since seen clock) w:=by simp[getObj,Sem.run,h1]
   have g2:(getObj m).run P w=.ok (.map es.toArray clock) w:=by simp[getObj,Sem.run,h2]
   have h4':es.toArray.find? (·.born==stamp)=some e:=by rw[<-Array.find?_toList];exact h4
   refine lift (by unfold execOp;rw[ho]) ⟨_,?_,h⟩;simp only[Instr.entry,ha,Sem.run_bind,g1,Result.andThen_ok,h3,g2,bne_self_eq_false,Bool.false_eq_true,if_false,h4'];rfl
  ·exact h.elim
 ·rename_i src dst x ho;split at h
  ·rename_i hd;split at h
   ·rename_i e hs;split at h
    ·rename_i he;split at h
     ·rename_i p l c hx;obtain⟨bs,hb,hk⟩:=h;refine lift (by unfold execOp;rw[ho]) ⟨_,?_,hk⟩;simp only[convert,hx,Sem.run_bind,run_underlying hs,run_underlying hd,run_underlying he,Result.andThen_ok];cases p<;>exact O2 hb
     ·exact h.elim
    ·exact h.elim
   ·exact h.elim
  ·exact h.elim
 ·rename_i c ho;split at h
  ·rename_i b hb;split at h
   ·split at h
    ·rename_i t ht;split at h
     ·rename_i x hx;split at h
      ·rename_i k e hu;split at h
       ·rename_i m hm;obtain⟨es,he,hk⟩:=h;have e1:c.argTypes=#[t]:=Array.toList_inj.1 (by simpa using ht);have e2:c.args=#[x]:=Array.toList_inj.1 (by simpa using hx);refine lift (execOp_builtin ho hb (s:=Builtin.len_ #[t] o.type #[.map m]) (by rw[e1,e2];simp[builtin,hm])) ⟨_,?_,hk⟩;cases m with
        |none=>
         simp only[Ag0]at he;subst he;simp[Builtin.len_,run_underlying hu,goInt]
        |some r=>
         obtain⟨cl,hc⟩:=he;have hg:(getObj r).run P w=.ok (.map es.toArray cl) w:=by simp[getObj,Sem.run,hc]
         simp[Builtin.len_,run_underlying hu,goInt,hg]
       ·exact h.elim
      ·exact h.elim
     ·exact h.elim
    ·exact h.elim
   ·exact h.elim
  ·exact h.elim
 ·exact h.elim
open Go
def SM (P:Program)(f:FuncId):Bool:=
 match P.funcs[f]? with
 | some fn => fn.body.isSome && !(fn.name == "runtime.NumGoroutine")
 |none=>false
def FW (tup:Bool)(rs:List RK)(s:TR rs):Value:=
 match tup with
 |true=>.tuple (Qw rs s).toArray
 |false=>(Qw rs s).headD undef
def Cl (P:Program)(f:FuncId)(args:List Value)(tup:Bool)(rs:List RK)(K:TR rs->Pr):Pr:=λw=>
 SM P f=true/\Calls P f args.toArray w λ| .returned v,w'=>∃s,v=FW tup rs s/\K s w'|_,_=>False
theorem Cl.mono {P:Program}{f:FuncId}{args:List Value}{tup:Bool}{rs:List RK}{K K':TR rs->Pr}{w:World}(h:Cl P f args tup rs K w)(hk:∀s w',K s w'->K' s w'):Cl P f args tup rs K' w:=
 ⟨h.1,h.2.mono λe w' he=>by
  cases e with
  |returned v=>obtain⟨s,hs,h⟩:=he;exact⟨s,hs,hk _ _ h⟩
  |panicked c=>exact he
  |outgrown=>exact he⟩
def Yd (P:Program)(l:Nat)(args:List Value)(tup:Bool)(rs:List RK)(K:TR rs->Pr):Pr:=λw=>
 ∃r:Loop,w.heap[l]?=some (.loop r)/\args.length=r.params.size /\
  RoundIn (WF none) 0 P l r.fn ((r.params.zip args.toArray).foldl (λtmps (t,a)=>tmps.setIfInBounds t a) r.tmps) r.assign r.body w λ| .returned v,w'=>∃s,v=FW tup rs s/\K s w'|_,_=>False
theorem Yd.mono {P:Program}{l:Nat}{args:List Value}{tup:Bool}{rs:List RK}{K K':TR rs->Pr}{w:World}(h:Yd P l args tup rs K w)(hk:∀s w',K s w'->K' s w'):Yd P l args tup rs K' w:=by
 obtain⟨r,h1,h2,h3⟩:=h;refine⟨r,h1,h2,h3.mono λe w' he=>?_⟩;cases e with
 |returned v=>obtain⟨s,hs,h⟩:=he;exact⟨s,hs,hk _ _ h⟩
 |panicked c=>exact he
 |outgrown=>exact he
def Ex (P:Program)(f:FuncId)(args:List Value)(tup:Bool)(rs:List RK)(K:TR rs->Pr):Pr:=λw=>
 ∃s w',(callFunc f args.toArray).run P w=.ok (.value (FW tup rs s)) w'/\K s w'
def AB (P:Program)(v:Value)(args:List Value)(tup:Bool)(rs:List RK)(K:TR rs->Pr)(w:World):Prop:=
 match v with
 |.func fn first cap=>match fn with
  |.func g=>match SM P g with
   |true=>Cl P g (first.toList++args++cap.toList) tup rs K w
   |false=>Ex P g (first.toList++args++cap.toList) tup rs K w
  |.yield l=>Yd P l (first.toList++args) tup rs K w
  |_=>F w
 |_=>F w
def rkL (P:Program):List TypeId->Option (List RK)
 |[]=>some []
 |t::ts=>match rk P t with
  |some (some r)=>match rkL P ts with
   |some rs=>some (r::rs)
   |none=>none
  |_=>none
def AkN (P:Program)(t:TypeId):Option (Bool×List RK):=
 match P.underlying t with
 |some d=>match d with
  |.tuple ts=>match rkL P ts.toList with
   |some rs=>some (true,rs)
   |none=>none
  |_=>match rk P t with
   |some (some r)=>some (false,[r])
   |_=>none
 |none=>none
theorem K8 {f:FuncId}(h:SM P f=true)(args:Array Value)(w:World):(callFunc f args).run P w=.ok (.enter f args) w:=by
 unfold SM at h;split at h
 ·rename_i fn hf;simp only[Bool.and_eq_true,Bool.not_eq_true']at h
  have h1 : fn.name ≠ "runtime.NumGoroutine" := by
   have:=h.2;simpa using this
  have h2:fn.body.isNone=false:=by
   cases hb:fn.body with
   |none=>rw[hb]at h;simp at h
   |some b=>rfl
  simp[callFunc,hf,h1,h2];intro hb;simp[hb]at h2
 ·cases h
def YN (P:Program)(t:TypeId)(name:String):Option FuncId:=
 match P.info? t with
 |some i=>match i.methods.toList.find? (λm=>m.name==name)with
  |some m=>match m.path.toList with
   |[]=>match m.func with
    |some (f,p)=>match P.underlying t with
     |some d=>match d with
      |.pointer _=>match p with
       |true=>some f
       |false=>none
      |_=>match p with
       |true=>none
       |false=>some f
     |none=>none
    |none=>none
   |_=>none
  |none=>none
 |none=>none
def Inv (P:Program)(v:Value)(name:String)(args:List Value)(tup:Bool)(rs:List RK)(K:TR rs->Pr)(w:World):Prop:=
 match v with
 |.iface t x=>match YN P t name with
  |some f=>Cl P f (x::args) tup rs K w
  |none=>F w
 |_=>F w
theorem AaY {name:String}{f:FuncId}(h:YN P t name=some f)(n:Nat)(w:World):(method (n+1) t x name).run P w=.ok (f,x) w:=by
 unfold YN at h;split at h
 ·rename_i i hi;split at h
  ·rename_i m hm;split at h
   ·rename_i hp;split at h
    ·rename_i g p hf;split at h
     ·rename_i d hd;have hm':i.methods.find? (λm=>m.name==name)=some m:=by rw[<-Array.find?_toList];exact hm
      split at h
      ·split at h
       ·simp only[Option.some.injEq]at h;subst h;simp only[method,Sem.run_bind,typeInfo,run_program,Result.andThen_ok,hi,Sem.run_pure,hm',hp,follow,hf,receiverAt,run_underlying hd,Place.get]
       ·cases h
      ·split at h
       ·cases h
       ·simp only[Option.some.injEq]at h;subst h;simp only[method,Sem.run_bind,typeInfo,run_program,Result.andThen_ok,hi,Sem.run_pure,hm',hp,follow,hf,receiverAt,run_underlying hd,Place.get]
     ·cases h
    ·cases h
   ·cases h
  ·cases h
 ·cases h
def FU (s:ByteArray):List Value:=s.data.toList.map λb=>.int .u8 (b.toNat:Int)
def AfV (e:TypeId)(s:ByteArray)(K:Sl->Pr):Pr:=λw=>
 ∀c,s.size<=c->K ⟨some ⟨w.heap.size,0,none⟩,s.size,c⟩ (w.drew.alloc (.cells (FU s++List.replicate (c-s.size) (Value.int .u8 0)).toArray e (c,c+1)))
theorem Xo (w:World)(cs:Array Value)(e:TypeId)(n:Nat):(w.alloc (.cells cs e)).freeze ⟨w.heap.size,n,none⟩ 1=w.alloc (.cells cs e (n,n+1)):=by
 simp only[World.freeze,World.alloc];rw[if_neg (by decide)]
 congr 1
 apply Array.ext_getElem?;intro j;rw[Array.getElem?_modify];by_cases h:w.heap.size=j
 ·subst h;simp
 ·rw[if_neg h,Array.getElem?_push,Array.getElem?_push,if_neg (Ne.symm h),if_neg (Ne.symm h)]
theorem P4 {e:TypeId}{u:TypeDesc}{s:ByteArray}{K:Sl->Pr}(hs:P.underlying src=some u)(hd:P.underlying dst=some (.slice e))(he:P.underlying e=some (.int .u8))(h:AfV e s K w):
  ∃(x:Sl) (w':World),(convert src dst (.string s)).run P w=.ok (.slice x.p x.len x.cap) w'/\K x w':=by
 have hc:s.size<=grownCap w s.size 0 e:=by simp only[grownCap,Question.cut];omega
 have hss:s.data.size=s.size:=rfl;refine⟨⟨some ⟨w.heap.size,0,none⟩,s.size,grownCap w s.size 0 e⟩,_,Lib.run_convert_string_bytes w src dst e s hs hd he,?_⟩;have hk:=h _ hc;have hcells:Lib.bytesCells w e s=(FU s++List.replicate (grownCap w s.size 0 e-s.size) (Value.int .u8 0)).toArray:=by
  apply Array.toList_inj.1;simp[FU,Lib.bytesCells]
 have hsz:(Lib.bytesCells w e s).size=grownCap w s.size 0 e:=by
  simp[Lib.bytesCells,hss];omega
 have hw:Lib.bytesWorld w e s=w.drew.alloc (.cells (FU s++List.replicate (grownCap w s.size 0 e-s.size) (Value.int .u8 0)).toArray e (grownCap w s.size 0 e,grownCap w s.size 0 e+1)):=by
  rw[Lib.bytesWorld,hsz,<-World.size_drew,Xo,hcells]
 rw[hw];exact hk
def CT (s:ByteArray):List Value:=(Conv.runesFrom s s.size 0 #[]).toList
def Ag4 (e:TypeId)(s:ByteArray)(K:Sl->Pr):Pr:=λw=>
 ∀c,(CT s).length<=c->K ⟨some ⟨w.heap.size,0,none⟩,(CT s).length,c⟩ (w.drew.alloc (.cells (CT s++List.replicate (c-(CT s).length) (Value.int .i32 0)).toArray e))
theorem PT {e:TypeId}{s:ByteArray}{K:Sl->Pr}(hs:P.underlying src=some .string)(hd:P.underlying dst=some (.slice e))(he:P.underlying e=some (.int .i32))(h:Ag4 e s K w):
  ∃(x:Sl) (w':World),(convert src dst (.string s)).run P w=.ok (.slice x.p x.len x.cap) w'/\K x w':=by
 have hl:(CT s).length=(Conv.runesFrom s s.size 0 #[]).size:=by simp[CT]
 have hc:(CT s).length<=grownCap w (CT s).length 0 e:=by simp only[grownCap,Question.cut];omega
 refine⟨_,_,?_,h _ hc⟩;simp only[convert,Sem.run_bind,run_underlying hs,run_underlying hd,Result.andThen_ok,run_underlying he,Conv.stringToRunes];rw[<-hl];simp[Question.forced,newRow,grownCap]
 congr 2
 apply Array.toList_inj.1;simp[CT]
def V0 (p:Option Addr)(n:Nat)(cs:List Value)(w:World):Prop:=
 cs.length=n/\∀j v,cs[j]?=some v->∃a,p=some a/\w.cell? (a.add j)=some v
variable {cs:List Value}
theorem V0.Akm {p:Option Addr}{a:Addr}{n:Nat}(h:V0 p n cs w)(hp:p=some a):(loadCells a n).run P w=.ok cs.toArray w:=by
 obtain⟨h1,h2⟩:=h;rw[<-h1];refine run_loadCells_list w a cs λj v hj=>?_;obtain⟨a',ha,hc⟩:=h2 j v hj;rw[hp,Option.some.injEq]at ha;subst ha;exact hc
theorem V0.first {p:Option Addr}{size n:Nat}(h:V0 p (n*size) cs w):(Builtin.firstCells size n (.slice p l c)).run P w=.ok cs.toArray w:=by
 cases p with
 |none=>
  cases cs with
  |nil=>rfl
  |cons v vs=>obtain⟨a,ha,_⟩:=h.2 0 v rfl;cases ha
 |some a=>exact h.Akm rfl
theorem V0.drew {p:Option Addr}{n:Nat}(h:V0 p n cs w):V0 p n cs w.drew:=h
def App (e:TypeId)(size bytes:Nat)(z:Array Value)(s:Sl)(m:Nat)(src:List Value->World->Prop)(K:Sl->Pr):Pr:=λw=>
 ∃new:List Value,src new w /\
  if s.len+m<=s.cap then
   (match s.p with
    |some a=>Xc new (a.add (s.len*size)) 0 (K ⟨some a,s.len+m,s.cap⟩) w
    |none=>K ⟨none,s.len+m,s.cap⟩ w)
  else(s.len+m)*bytes<=140737488355328/\((s.len+m:Nat):Int)<=9223372036854775807 /\
   ∃old:List Value,V0 s.p (s.len*size) old w /\
    ∀c,s.len+m<=c->K ⟨some ⟨w.heap.size,0,none⟩,s.len+m,c⟩ (w.drew.alloc (.cells ((old++new).toArray++Builtin.zeroCells z (c-(s.len+m))) e))
variable {st xt:TypeId}{s:Sl}
theorem WJ {e:TypeId}{i:TypeInfo}{m:Nat}{src:List Value->World->Prop}{K:Sl->Pr}(hst:P.underlying st=some (.slice e))(hi:P.info? e=some i)(hz:i.zero=some z)(hxt:∃d,P.underlying xt=some d/\∀k,d≠.int k)(hm:∀w',(Builtin.lenOf x).run P w'=.ok m w')(hsrc:∀new,src new w->(Builtin.firstCells i.size m x).run P w=.ok new.toArray w/\(Builtin.firstCells i.size m x).run P w.drew=.ok new.toArray w.drew)(ty:TypeId)(h:App e i.size i.bytes z.cells s m src K w):
  ∃(r:Sl) (w':World),(Builtin.append_ #[st,xt] ty #[.slice s.p s.len s.cap,x]).run P w=.ok (.slice r.p r.len r.cap) w'/\K r w':=by
 obtain⟨new,hn,h⟩:=h;obtain⟨hf1,hf2⟩:=hsrc new hn;obtain⟨d,hd,hdi⟩:=hxt;have hzeros:(match d with | .int _=>true|_=>false)=false:=by
  cases d<;>first|rfl|exact absurd rfl (hdi _)
 by_cases hc:s.len+m<=s.cap
 ·rw[if_pos hc]at h;cases hp:s.p with
  |none=>
   rw[hp]at h;refine⟨⟨none,s.len+m,s.cap⟩,w,?_,h⟩;simp[Builtin.append_,run_underlying hst,run_underlying hd,A0 hi,hzeros,hm,hc,hf1]
  |some a=>
   rw[hp]at h;obtain⟨w',h1,h2⟩:=Hc (P:=P) h;refine⟨⟨some a,s.len+m,s.cap⟩,w',?_,h2⟩;simp[Builtin.append_,run_underlying hst,run_underlying hd,A0 hi,hzeros,hm,hc,hf1,h1]
 ·rw[if_neg hc]at h;obtain⟨h47,h63,old,hold,h⟩:=h;have hcap:s.len+m<=grownCap w (s.len+m) s.cap e:=by simp only[grownCap,Question.cut];omega
  refine⟨_,_,?_,h _ hcap⟩;have hfo:=(hold.drew).first (P:=P) (l:=s.len) (c:=s.cap);have h48:=growslice_fits (need:=s.len+m) (old:=s.cap) (by omega) h47;have h48':¬(281474976710656<Builtin.nextslicecap (s.len+m) s.cap*i.bytes):=by omega
  have h63':¬(9223372036854775807<((s.len:Int)+(m:Int))):=by omega
  simp[Builtin.append_,run_underlying hst,run_underlying hd,A0 hi,typeInfo,zeroValue,hi,hz,hzeros,hm,hc,h48',h63',Question.forced,hfo,hf2,newRow,grownCap]
  congr 2
  apply Array.toList_inj.1;simp
def BH (p:Option Addr)(n size:Nat)(new:List Value)(w:World):Prop:=V0 p (n*size) new w
def Ais (s:ByteArray)(n:Nat)(new:List Value)(_w:World):Prop:=new=(FU s).take n
theorem EE (s:ByteArray)(size n:Nat)(w:World):(Builtin.firstCells size n (.string s)).run P w=.ok ((FU s).take n).toArray w:=by
 simp only[Builtin.firstCells,Sem.run_pure]
 congr 1
 apply Array.toList_inj.1;simp[FU,ByteArray.data_extract,Array.toList_extract,List.extract,List.map_take]
def Ale (z:Array Value)(size n:Nat)(new:List Value)(_w:World):Prop:=new=(if n*size=0 then #[]else Builtin.zeroCells z n).toList
def Air (e:TypeId)(size bytes:Nat)(z:Array Value)(s:Sl)(n:Int)(K:Sl->Pr):Pr:=λw=>
 0<=n/\n<=9223372036854775807/\n*(bytes:Int)<=281474976710656/\App e size bytes z s n.toNat (Ale z size n.toNat) K w
theorem Abn {e:TypeId}{i:TypeInfo}{k:IntKind}{n:Int}{K:Sl->Pr}(hst:P.underlying st=some (.slice e))(hi:P.info? e=some i)(hz:i.zero=some z)(hxt:∃k,P.underlying xt=some (.int k))(ty:TypeId)(h:Air e i.size i.bytes z.cells s n K w):
  ∃(r:Sl) (w':World),(Builtin.append_ #[st,xt] ty #[.slice s.p s.len s.cap,.int k n]).run P w=.ok (.slice r.p r.len r.cap) w'/\K r w':=by
 obtain⟨h0,hmax,h48,new,hn,h⟩:=h;obtain⟨k',hd⟩:=hxt;obtain⟨m,rfl⟩:∃m:Nat,n=m:=⟨n.toNat,by omega⟩;simp only[Int.toNat_natCast]at hn h;have hw:IntKind.i64.wrap (m:Int)=m:=by
  simp[IntKind.wrap,IntKind.signed,IntKind.bits];omega
 have hneg:¬((m:Int)<0):=by omega
 have hbig:¬((m:Int)*(i.bytes:Int)>2 ^ 48):=by
  have:(2:Int) ^ 48=281474976710656:=by decide
  rw[this];omega
 have hbig':¬((281474976710656:Int)<(m:Int)*(i.bytes:Int)):=by omega
 have happ:∀w',((if m*i.size=0 then pure #[]else do pure (Builtin.zeroCells z.cells m):Sem (Array Value))).run P w'=.ok new.toArray w':=by
  intro w';have hn':new=(if m*i.size=0 then #[]else Builtin.zeroCells z.cells m).toList:=hn;subst hn';split<;>simp
 by_cases hc:s.len+m<=s.cap
 ·rw[if_pos hc]at h;cases hp:s.p with
  |none=>
   rw[hp]at h;refine⟨⟨none,s.len+m,s.cap⟩,w,?_,h⟩;have:=happ w;by_cases hz0:m*i.size=0
   ·simp[Builtin.append_,run_underlying hst,run_underlying hd,A0 hi,typeInfo,hi,hw,hc,asInt,asIntOf,hneg,hbig',hz0]
   ·simp[Builtin.append_,run_underlying hst,run_underlying hd,A0 hi,typeInfo,zeroValue,hi,hz,hw,hc,asInt,asIntOf,hneg,hbig',hz0]
  |some a=>
   rw[hp]at h;obtain⟨w',h1,h2⟩:=Hc (P:=P) h;refine⟨⟨some a,s.len+m,s.cap⟩,w',?_,h2⟩;have hn':new=(if m*i.size=0 then #[]else Builtin.zeroCells z.cells m).toList:=hn;by_cases hz0:m*i.size=0
   ·have:new=[]:=by rw[hn',if_pos hz0]
    subst this;simp[Builtin.append_,run_underlying hst,run_underlying hd,A0 hi,typeInfo,hi,hw,hc,asInt,asIntOf,hneg,hbig',hz0];rw[h1];rfl
   ·rw[if_neg hz0]at hn';subst hn';simp[Builtin.append_,run_underlying hst,run_underlying hd,A0 hi,typeInfo,zeroValue,hi,hz,hw,hc,asInt,asIntOf,hneg,hbig',hz0,h1]
 ·rw[if_neg hc]at h;obtain⟨h47,h63,old,hold,h⟩:=h;have hcap:s.len+m<=grownCap w (s.len+m) s.cap e:=by simp only[grownCap,Question.cut];omega
  refine⟨_,_,?_,h _ hcap⟩;have hfo:=(hold.drew).first (P:=P) (l:=s.len) (c:=s.cap);have h48:=growslice_fits (need:=s.len+m) (old:=s.cap) (by omega) h47;have h48':¬(281474976710656<Builtin.nextslicecap (s.len+m) s.cap*i.bytes):=by omega
  have h63':¬(9223372036854775807<((s.len:Int)+(m:Int))):=by omega
  have hn':new=(if m*i.size=0 then #[]else Builtin.zeroCells z.cells m).toList:=hn;by_cases hz0:m*i.size=0
  ·have:new=[]:=by rw[hn',if_pos hz0]
   subst this;simp[Builtin.append_,run_underlying hst,run_underlying hd,A0 hi,typeInfo,zeroValue,hi,hz,hw,hc,asInt,asIntOf,hneg,hbig',hz0,h48',h63',Question.forced,hfo,newRow,grownCap]
  ·rw[if_neg hz0]at hn';subst hn';simp[Builtin.append_,run_underlying hst,run_underlying hd,A0 hi,typeInfo,zeroValue,hi,hz,hw,hc,asInt,asIntOf,hneg,hbig',hz0,h48',h63',Question.forced,hfo,newRow,grownCap]
   congr 2
   apply Array.toList_inj.1;simp
def AiF (P:Program)(st xt:TypeId)(s x:Value)(K:Value->Pr)(w:World):Prop:=
 match P.underlying st with
 |some (.slice e)=>match P.info? e with
  |some i=>match i.zero with
   |some z=>match s with
    |.slice p l c=>match P.underlying xt with
     |some d=>match d with
      |.slice _=>match x with
       |.slice q m _=>App e i.size i.bytes z.cells ⟨p,l,c⟩ m (BH q m i.size) (λr=>K (.slice r.p r.len r.cap)) w
       |_=>F w
      |.string=>match x with
       |.string b=>App e i.size i.bytes z.cells ⟨p,l,c⟩ b.size (Ais b b.size) (λr=>K (.slice r.p r.len r.cap)) w
       |_=>F w
      |.int _=>match x with
       |.int _ n=>Air e i.size i.bytes z.cells ⟨p,l,c⟩ n (λr=>K (.slice r.p r.len r.cap)) w
       |_=>F w
      |_=>F w
     |none=>F w
    |_=>F w
   |none=>F w
  |none=>F w
 |_=>F w
theorem Abp {s:Value}(ty:TypeId)(h:AiF P st xt s x K w):
  ∃v w',(Builtin.append_ #[st,xt] ty #[s,x]).run P w=.ok v w'/\K v w':=by
 simp only[AiF]at h;split at h
 ·rename_i e hst;split at h
  ·rename_i i hi;split at h
   ·rename_i z hz;split at h
    ·rename_i p l c;split at h
     ·rename_i d hd;split at h
      ·rename_i te;split at h
       ·rename_i q m c';obtain⟨r,w',h1,h2⟩:=WJ (P:=P) (x:=.slice q m c') hst hi hz ⟨_,hd,by simp⟩ (λw'=>rfl) (λnew hn=>⟨V0.first hn,V0.first (V0.drew hn)⟩) ty h;exact⟨_,w',h1,h2⟩
       ·exact h.elim
      ·split at h
       ·rename_i b;obtain⟨r,w',h1,h2⟩:=WJ (P:=P) (x:=.string b) hst hi hz ⟨_,hd,by simp⟩ (λw'=>rfl) (λnew hn=>by
         have hn':new=(FU b).take b.size:=hn;subst hn';exact⟨EE _ _ _ _,EE _ _ _ _⟩) ty h
        exact⟨_,w',h1,h2⟩
       ·exact h.elim
      ·rename_i kx;split at h
       ·rename_i k n;obtain⟨r,w',h1,h2⟩:=Abn (P:=P) (k:=k) hst hi hz ⟨_,hd⟩ ty h;exact⟨_,w',h1,h2⟩
       ·exact h.elim
      ·exact h.elim
     ·exact h.elim
    ·exact h.elim
   ·exact h.elim
  ·exact h.elim
 ·exact h.elim
def Cpy (size:Nat)(p:Option Addr)(n:Nat)(src:List Value->World->Prop)(K:Pr):Pr:=λw=>
 ∃new:List Value,src new w/\match p with
  |some a=>Xc new a 0 K w
  |none=>K w
def AeL (P:Program)(dt st:TypeId)(d x:Value)(K:Value->Pr)(w:World):Prop:=
 match P.underlying dt with
 |some (.slice e)=>match P.info? e with
  |some i=>match d with
   |.slice p l _=>match x with
    |.slice q m _=>Cpy i.size p (Nat.min m l) (BH q (Nat.min m l) i.size) (K (.int .i64 (Nat.min m l))) w
    |.string b=>Cpy i.size p (Nat.min b.size l) (Ais b (Nat.min b.size l)) (K (.int .i64 (Nat.min b.size l))) w
    |_=>F w
   |_=>F w
  |none=>F w
 |_=>F w
theorem Z5 {dt:TypeId}{d:Value}(ty:TypeId)(h:AeL P dt st d x K w):
  ∃v w',(Builtin.copy_ #[dt,st] ty #[d,x]).run P w=.ok v w'/\K v w':=by
 simp only[AeL]at h;split at h
 ·rename_i e hd;split at h
  ·rename_i i hi;split at h
   ·rename_i p l c;split at h
    ·rename_i q m c';obtain⟨new,hn,h⟩:=h;have hf:=V0.first (P:=P) (l:=m) (c:=c') hn;cases p with
     |none=>exact⟨_,w,by simp[Builtin.copy_,run_underlying hd,Builtin.lenOf,A0 hi,hf,goInt],h⟩
     |some a=>
      obtain⟨w',h1,h2⟩:=Hc (P:=P) h;exact⟨_,w',by simp[Builtin.copy_,run_underlying hd,Builtin.lenOf,A0 hi,hf,goInt,h1],h2⟩
    ·rename_i b;obtain⟨new,hn,h⟩:=h;have hn':new=(FU b).take (Nat.min b.size l):=hn;subst hn';have hf:=EE (P:=P) b i.size (Nat.min b.size l) w;cases p with
     |none=>exact⟨_,w,by simp[Builtin.copy_,run_underlying hd,Builtin.lenOf,A0 hi,hf,goInt],h⟩
     |some a=>
      obtain⟨w',h1,h2⟩:=Hc (P:=P) h;exact⟨_,w',by simp[Builtin.copy_,run_underlying hd,Builtin.lenOf,A0 hi,hf,goInt,h1],h2⟩
    ·exact h.elim
   ·exact h.elim
  ·exact h.elim
 ·exact h.elim
attribute [irreducible] SM YN
open Go
def A3 (w:World)(r:Nat)(o:Obj):World:={w with heap:=w.heap.setIfInBounds r o}
theorem DB {r:Nat}{es:Array MapEntry}(h:w.heap[r]?=some (.map es c))(o:Obj):(setObj r o).run P w=.ok () (A3 w r o):=by
 simp[setObj,Sem.run,h,A3]
theorem CN {r:Nat}{es:Array MapEntry}(h:w.heap[r]?=some (.map es c)):(getObj r).run P w=.ok (.map es c) w:=by
 simp[getObj,Sem.run,h]
theorem OV {d:TypeDesc}{key:Value}:∀{es:List MapEntry} {n i:Nat} {v:Value},Instr.findNow d key es n=some (some (i,v)) ->
  n<=i/\∃e,es[i-n]?=some e/\e.val=v/\Instr.sameNow d key e.key=some true
 |[],n,i,v,h=>by simp[Instr.findNow]at h
 |e::es,n,i,v,h=>by
  simp only[Instr.findNow]at h;split at h
  ·rename_i hs;simp only[Option.some.injEq,Prod.mk.injEq]at h;obtain⟨rfl,rfl⟩:=h;exact⟨Nat.le_refl _,e,by simp,rfl,hs⟩
  ·obtain⟨h1,e',h2,h3,h4⟩:=OV h;refine⟨by omega,e',?_,h3,h4⟩;rw[show i-n=(i-(n+1))+1 from by omega];simpa using h2
  ·cases h
theorem LA {a b:Value}(h:Instr.sameNow d a b=some true):∀n,Instr.sameBits n b a=true:=by
 intro n;unfold Instr.sameNow at h;split at h
 ·split at h
  ·rename_i hk;subst hk;simp only[Option.some.injEq,beq_iff_eq]at h;subst h;cases n<;>simp[Instr.sameBits]
  ·cases h
 ·simp only[Option.some.injEq]at h;rw[beq_toListBytes]at h;have h':=(beq_iff_eq.1 h).symm;cases n<;>simp only[Instr.sameBits]<;>rw[beq_toListBytes]<;>exact beq_iff_eq.2 h'
 ·simp only[Option.some.injEq,beq_iff_eq]at h;subst h;cases n<;>simp[Instr.sameBits]
 ·cases h
def CI (d:TypeDesc)(m:Option Nat)(key v:Value)(K:Pr):Pr:=λw=>
 ∃r es c f,m=some r/\w.heap[r]?=some (.map es c)/\Instr.findNow d key es.toList 0=some f /\
  K (A3 w r (match f with
   |some (i,_)=>.map (es.modify i λe=>{e with key,val:=v}) c
   |none=>.map (es.push {key,val:=v,born:=c}) (c+1)))
variable {m:Option Nat}
theorem U3 {v:Value}{K:Pr}(hu:P.underlying t=some (.map kt et))(hk:plainKey P kt=some d)(h:CI d m key v K w):
  ∃w',(Instr.mapUpdate t (.map m) key v).run P w=.ok () w'/\K w':=by
 obtain⟨r,es,c,f,rfl,hr,hf,hK⟩:=h;have hud:=(DC hk).1;refine⟨_,?_,hK⟩;have hgo:(Instr.findKey kt key es.toList).run P w=.ok f w:=by
  simp only[Instr.findKey,Sem.run_bind,run_underlying hud,Result.andThen_ok,hf,Sem.run_pure]
 simp only[Instr.mapUpdate,Sem.run_bind,run_underlying hu,Result.andThen_ok,CN hr,run_checkKey hk];rw[hgo];cases f with
 |none=>simp only[Result.andThen_ok];exact DB hr _
 |some p=>
  obtain⟨i,v'⟩:=p;obtain⟨_,e,he,_,hs⟩:=OV hf;have he':es[i]?=some e:=by simpa using he
  have hkey:(Instr.keyThatStays (((es[i]?).map (·.key)).getD key) key).run P w=.ok key w:=by
   simp only[Instr.keyThatStays,he',Option.map_some,Option.getD_some,LA hs 10000,if_true,Sem.run_pure]
  simp only[Result.andThen_ok,Sem.run_bind,hkey];exact DB hr _
def Tq (P:Program)(t:TypeId)(m key v:Value)(K:Pr)(w:World):Prop:=
 match P.underlying t with
 |some (.map kt _)=>match plainKey P kt with
  |some d=>match m with
   |.map r=>CI d r key v K w
   |_=>F w
  |none=>F w
 |_=>F w
def AjJ (d:TypeDesc)(m:Option Nat)(key zero:Value)(K:Value->Value->Pr):Pr:=λw=>
 ∃r es c f,m=some r/\w.heap[r]?=some (.map es c)/\Instr.findNow d key es.toList 0=some f /\
  (match f with
   |some (i,v)=>K v (goInt (((es[i]?).map (·.born)).getD 0)) (A3 w r (.map (es.modify i λe=>{e with key:=key}) c))
   |none=>K zero (goInt c) (A3 w r (.map (es.push {key,val:=zero,born:=c}) (c+1))))
theorem AaF {zero:Value}{K:Value->Value->Pr}(hu:P.underlying t=some (.map kt et))(hk:plainKey P kt=some d)(hz:zeroOf P et=some zero)(h:AjJ d m key zero K w):
  ∃v b w',(Instr.mapEntry t (.map m) key).run P w=.ok (.tuple #[v,b]) w'/\K v b w':=by
 obtain⟨r,es,c,f,rfl,hr,hf,hK⟩:=h;have hud:=(DC hk).1;have hgo:(Instr.findKey kt key es.toList).run P w=.ok f w:=by
  simp only[Instr.findKey,Sem.run_bind,run_underlying hud,Result.andThen_ok,hf,Sem.run_pure]
 cases f with
 |none=>
  refine⟨_,_,_,?_,hK⟩;simp only[Instr.mapEntry,Sem.run_bind,run_underlying hu,Result.andThen_ok,CN hr,run_checkKey hk,hgo,Ea hz,DB hr,Sem.run_pure]
 |some p=>
  obtain⟨i,v'⟩:=p;obtain⟨_,e,he,_,hs⟩:=OV hf;have he':es[i]?=some e:=by simpa using he
  have hkey:(Instr.keyThatStays (((es[i]?).map (·.key)).getD key) key).run P w=.ok key w:=by
   simp only[Instr.keyThatStays,he',Option.map_some,Option.getD_some,LA hs 10000,if_true,Sem.run_pure]
  refine⟨_,_,_,?_,hK⟩;simp only[Instr.mapEntry,Sem.run_bind,run_underlying hu,Result.andThen_ok,CN hr,run_checkKey hk,hgo,hkey,DB hr,Sem.run_pure]
def Ak0 (m:Option Nat)(stamp v:Value)(K:Pr):Pr:=λw=>
 ∃r es c n i,m=some r/\stamp=.int .i64 n/\w.heap[r]?=some (.map es c)/\es.findIdx? (λe=>(e.born:Int)==n)=some i/\K (A3 w r (.map (es.modify i λe=>{e with val:=v}) c))
theorem AaU {stamp v:Value}{K:Pr}(h:Ak0 m stamp v K w):∃w',(Instr.entryStore t (.map m) stamp v).run P w=.ok () w'/\K w':=by
 obtain⟨r,es,c,n,i,rfl,rfl,hr,hi,hK⟩:=h;refine⟨_,?_,hK⟩;simp only[Instr.entryStore,Sem.run_bind,Result.andThen_ok,CN hr,asInt,asIntOf,Sem.run_pure,hi,DB hr]
def AjY (d:TypeDesc)(m:Option Nat)(key:Value)(K:Pr):Pr:=λw=>
 match m with
 |none=>K w
 |some r=>∃es c f,w.heap[r]?=some (.map es c)/\Instr.findNow d key es.toList 0=some f /\
  K (A3 w r (match f with
   |some (i,_)=>.map (es.eraseIdxIfInBounds i) c
   |none=>.map es c))
theorem AaW {K:Pr}(hu:P.underlying t=some (.map kt et))(hk:plainKey P kt=some d)(ts:Array TypeId)(ty:TypeId)(h:AjY d m key K w):
  ∃w',(Builtin.delete_ #[t,kt] ty #[.map m,key]).run P w=.ok (.tuple #[]) w'/\K w':=by
 have hud:=(DC hk).1;cases m with
 |none=>exact⟨w,by simp[Builtin.delete_,run_underlying hu,run_checkKey hk],h⟩
 |some r=>
  obtain⟨es,c,f,hr,hf,hK⟩:=h;refine⟨_,?_,hK⟩;have hgo:(Instr.findKey kt key es.toList).run P w=.ok f w:=by
   simp only[Instr.findKey,Sem.run_bind,run_underlying hud,Result.andThen_ok,hf,Sem.run_pure]
  cases f with
  |none=>simp[Builtin.delete_,run_underlying hu,run_checkKey hk,CN hr,hgo,DB hr]
  |some p=>simp[Builtin.delete_,run_underlying hu,run_checkKey hk,CN hr,hgo,DB hr]
theorem Wv {r:Nat}{mo:Option Nat}{a:Nat}{s:Array Nat}(h:w.heap[r]?=some (.mapIter mo a s l)):(getObj r).run P w=.ok (.mapIter mo a s l) w:=by
 simp[getObj,Sem.run,h]
theorem Ac0 {r:Nat}{mo:Option Nat}{a:Nat}{s:Array Nat}(o:Obj)(h:w.heap[r]?=some (.mapIter mo a s l)):(setObj r o).run P w=.ok () (A3 w r o):=by
 simp[setObj,Sem.run,h,A3]
def RgM (m:Option Nat)(K:Addr->Pr):Pr:=λw=>
 match m with
 |none=>K ⟨w.heap.size,0,none⟩ (w.alloc (.mapIter none 0 #[] 0))
 |some r=>∃es c,w.heap[r]?=some (.map es c)/\K ⟨w.heap.size,0,none⟩ (w.alloc (.mapIter (some r) c #[] c))
theorem Ads {K:Addr->Pr}(hu:P.underlying t=some (.map kt et))(h:RgM m K w):
  ∃a w',(Instr.range t (.map m)).run P w=.ok (.pointer (some a)) w'/\K a w':=by
 cases m with
 |none=>exact⟨_,_,by simp[Instr.range,run_underlying hu],h⟩
 |some r=>
  obtain⟨es,c,hr,h⟩:=h;exact⟨_,_,by simp[Instr.range,run_underlying hu,CN hr],h⟩
def NxM (a:Addr)(Kt:Value->Value->Pr)(Kf:Pr):Pr:=λw=>
 a.off=0/\∃(mo:Option Nat) (since:Nat) (seen:Array Nat) (last:Nat),w.heap[a.block]?=some (.mapIter mo since seen last) /\
  match mo with
  |none=>Kf w
  |some m=>∃(es:List MapEntry) (clock:Nat),w.heap[m]?=some (.map es.toArray clock)/\(seen=#[]\/es=[]\/∃e∈es,e.born<last) /\
   ∀w1,(w1=w\/w1=w.drew) ->
    (∀e∈es,seen.contains e.born=false->Kt e.key e.val (A3 w1 a.block (.mapIter (some m) since (seen.push e.born) clock))) /\
    ((∀e∈es,e.born<since->seen.contains e.born=true)->Kf w1)
theorem AcX {a:Addr}{Kt:Value -> Value -> Pr}{Kf:Pr}(h : NxM a Kt Kf w):
    ∃ v w', (Instr.next (.pointer (some a)) false t).run P w = .ok v w' /\ ((∃ k x, v = .tuple #[.bool true, k, x] /\ Kt k x w') \/ (v = .tuple #[.bool false] /\ Kf w')) := by
  obtain ⟨h0, mo, since, seen, last, hit, h⟩ := h;obtain ⟨ab, ao, av⟩ := a;simp only at h0 hit;subst h0;cases mo with
  | none => exact ⟨_, _, by simp only [Instr.next, Sem.run_bind, Wv hit, Result.andThen_ok, Sem.run_pure], .inr ⟨rfl, h⟩⟩
  | some m=>
    obtain ⟨es, clock, hm, hg, h⟩ := h;have hguard : (!seen.isEmpty && !es.toArray.isEmpty && es.toArray.all (·.born >= last)) = false := by
      rcases hg with rfl | rfl | ⟨e, he, hl⟩
      · simp
      · simp
      · have : (es.toArray.all (·.born >= last)) = false := by
          simp only [List.all_toArray, List.all_eq_false, decide_eq_true_eq, Nat.not_le];exact ⟨e, he, hl⟩
        simp only [this, Bool.and_false]
    have key : ∀ (w1 : World), (w1 = w \/ w1 = w.drew) -> ∀ (c : Option MapEntry), (c = none -> (∀ e ∈ es, e.born < since -> seen.contains e.born = true)) -> (∀ e, c = some e -> e ∈ es /\ seen.contains e.born = false) ->
        ∃ v w', (match some c with
          | some (some e) => (do setObj ab (.mapIter (some m) since (seen.push e.born) clock); pure (.tuple #[.bool true, e.key, e.val]) : Sem Value)
          | some none => pure (.tuple #[.bool false])
          | none => stuck "Next: no such candidate").run P w1 = .ok v w' ∧ ((∃ k x, v = .tuple #[.bool true, k, x] ∧ Kt k x w') ∨ (v = .tuple #[.bool false] ∧ Kf w')) := by
      intro w1 hw1 c h1 h2;have h := h w1 hw1;cases c with
      | none => exact ⟨_, _, rfl, .inr ⟨rfl, h.2 (h1 rfl)⟩⟩
      | some e=>
        obtain ⟨he, hs⟩ := h2 e rfl;have hit1 : w1.heap[ab]? = some (.mapIter (some m) since seen last) := by rcases hw1 with rfl | rfl <;> exact hit
        refine ⟨_, _, ?_, .inl ⟨_, _, rfl, h.1 e he hs⟩⟩;simp only [Sem.run_bind, Ac0 _ hit1, Result.andThen_ok, Sem.run_pure]
    generalize hleft : es.toArray.filter (λe => !seen.contains e.born) = left;generalize hold : left.filter (λe => decide (e.born < since)) = old;generalize hnew : left.filter (λe => decide (e.born >= since)) = new;have hmemleft : ∀ e, e ∈ left -> e ∈ es /\ seen.contains e.born = false := by
      intro e he;rw [<- hleft] at he;simp only [Array.mem_filter, List.mem_toArray, Bool.not_eq_true'] at he;exact he
    have hcand : ∀ c, c ∈ ((if old.isEmpty then #[none] else #[]) ++ (old ++ new).map some : Array (Option MapEntry)) -> (c = none -> (∀ e ∈ es, e.born < since -> seen.contains e.born = true)) /\ (∀ e, c = some e -> e ∈ es /\ seen.contains e.born = false) := by
      intro c hc;refine ⟨λhn e he hlt => ?_, λe hce => ?_⟩
      · subst hn;have : old.isEmpty = true := by
          cases ho : old.isEmpty with
          | true => rfl
          | false => rw [ho] at hc; simp at hc
        by_cases hs : seen.contains e.born = true
        · exact hs
        · have hin : e ∈ old := by
            rw [<- hold, <- hleft];simp only [Array.mem_filter, List.mem_toArray, Bool.not_eq_true', decide_eq_true_eq];exact ⟨⟨he, by simpa using hs⟩, hlt⟩
          rw [Array.isEmpty_iff] at this;rw [this] at hin;simp at hin
      · subst hce;have : e ∈ old ++ new := by
          rcases Array.mem_append.1 hc with hc | hc
          · split at hc <;> simp at hc
          · simpa using hc
        rw [Array.mem_append] at this;rcases this with h | h
        · rw [<- hold] at h; exact hmemleft e (Array.mem_filter.1 h).1
        · rw [<- hnew] at h; exact hmemleft e (Array.mem_filter.1 h).1
    have hpos : 0 < ((if old.isEmpty then #[none] else #[]) ++ (old ++ new).map some : Array (Option MapEntry)).size := by
      cases ho : old.isEmpty with
      | true => simp; omega
      | false=>
        have : 0 < old.size := by
          rw [Nat.pos_iff_ne_zero]; intro hz;have := Array.isEmpty_iff_size_eq_zero.2 hz;rw [ho] at this; cases this
        simp; omega
    generalize hcs : ((if old.isEmpty then #[none] else #[]) ++ (old ++ new).map some : Array (Option MapEntry)) = cands at hcand hpos;have hrun : (Instr.next (.pointer (some ⟨ab, 0, av⟩)) false t).run P w = ((choose (.mapNext cands.size)).run P w).andThen λn w1 => (match cands[n]? with
          | some (some e) => (do setObj ab (.mapIter (some m) since (seen.push e.born) clock); pure (.tuple #[.bool true, e.key, e.val]) : Sem Value)
          | some none => pure (.tuple #[.bool false])
          | none => stuck "Next: no such candidate").run P w1 := by
      simp only [Instr.next, Sem.run_bind, Wv hit, CN hm, Result.andThen_ok, hguard, Bool.false_eq_true, if_false, hleft, hold, hnew, Sem.run_pure];rw [hcs];rfl
    rw [hrun, run_choose_drew];split
    · rename_i hf;simp only [Result.andThen_ok];have h0 : cands[0]? = some cands[0] := Array.getElem?_eq_getElem hpos;rw [h0];have := hcand cands[0] (Array.getElem_mem _);exact key w (.inl rfl) _ this.1 this.2
    · simp only [Result.andThen_ok];generalize hn : (Question.mapNext cands.size).cut (w.tape w.drawn (.mapNext cands.size)) = n;have hlt : n < cands.size := by
        rw [<- hn];exact Nat.mod_lt _ hpos
      rw [Array.getElem?_eq_getElem hlt];have := hcand cands[n] (Array.getElem_mem _);exact key w.drew (.inr rfl) _ this.1 this.2
def TaK (t:TypeId)(x:Value)(K:Value->Pr):Pr:=λw=>∃y,x=.iface t y/\K y w
def Zf (z:Array Value)(s:Sl)(K:Pr):Pr:=λw=>
 match s.len with
 |0=>K w
 |n+1=>match s.p with
  |none=>K w
  |some a=>Xc (Builtin.zeroCells z (n+1)).toList a 0 K w
def Akn (m:Option Nat)(K:Pr):Pr:=λw=>
 match m with
 |none=>K w
 |some r=>∃es c,w.heap[r]?=some (.map es c)/\K (A3 w r (.map #[] c))
theorem Abm {e:TypeId}{K:Pr}(hu:P.underlying t=some (.slice e))(hz:zeroOf P e=some z)(ty:TypeId)(h:Zf z.cells s K w):
  ∃w',(Builtin.clear_ #[t] ty #[.slice s.p s.len s.cap]).run P w=.ok (.tuple #[]) w'/\K w':=by
 obtain⟨p,l,c⟩:=s;unfold Zf at h;simp only at h ⊢;cases l with
 |zero=>exact⟨w,by cases p<;>simp[Builtin.clear_,run_underlying hu],h⟩
 |succ n=>
  simp only at h;cases p with
  |none=>exact⟨w,by simp[Builtin.clear_,run_underlying hu],h⟩
  |some a=>
   obtain⟨w',h1,h2⟩:=Hc (P:=P) h;refine⟨w',?_,h2⟩;simp only[Builtin.clear_,List.getElem?_toArray,List.getElem?_cons_zero,Sem.run_bind,run_underlying hu,Result.andThen_ok,Ea hz,h1,Sem.run_pure]
theorem Aap {K:Pr}(hu:P.underlying t=some (.map kt et))(ty:TypeId)(h:Akn m K w):
  ∃w',(Builtin.clear_ #[t] ty #[.map m]).run P w=.ok (.tuple #[]) w'/\K w':=by
 cases m with
 |none=>exact⟨w,by simp[Builtin.clear_,run_underlying hu],h⟩
 |some r=>
  obtain⟨es,c,hr,h⟩:=h;exact⟨_,by simp[Builtin.clear_,run_underlying hu,CN hr,DB hr],h⟩
def MkS (p:Option Addr)(K:Pr):Pr:=λw=>
 ∃a cs t,p=some a/\w.heap[a.block]?=some (.cells cs t (0,0))/\K (A3 w a.block (.cells cs t (cs.size,cs.size+1)))
theorem AcN {e:TypeId}{p:Option Addr}{K:Pr}(hs:P.underlying src=some (.slice e))(he:P.underlying e=some (.int .u8))(h:MkS p K w):
  ∃w',(convert src src (.slice p l c)).run P w=.ok (.slice p l c) w'/\K w':=by
 obtain⟨a,cs,t,rfl,hb,hk⟩:=h;refine⟨_,?_,hk⟩;have hsh:w.shape? a.block=some (t,cs.size):=by simp[World.shape?,hb]
 have hf:w.freeze {block:=a.block,off:=cs.size} 1=A3 w a.block (.cells cs t (cs.size,cs.size+1)):=by
  simp only[World.freeze,A3];rw[if_neg (by decide)]
  congr 1
  apply Array.ext_getElem?;intro j;rw[Array.getElem?_modify,Array.getElem?_setIfInBounds];by_cases hj:a.block=j
  ·subst hj;rw[if_pos rfl,if_pos rfl,hb,if_pos (Array.getElem?_eq_some_iff.1 hb).1];rfl
  ·rw[if_neg hj,if_neg hj]
 simp[convert,run_underlying hs,run_underlying he,markStringish,hsh,hf]
def Mk (e:TypeId)(size bytes:Nat)(z:Array Value)(l c:Int)(K:Sl->Pr):Pr:=λw=>
 0<=l/\l<=c/\(bytes:Int)*c<=281474976710656/\c<=9223372036854775807 /\
  K ⟨some ⟨w.heap.size,0,none⟩,l.toNat,c.toNat⟩ (w.alloc (.cells (madeCells z (c.toNat*size)) e))
def O9 (P:Program)(t:TypeId)(l c:Value)(K:Value->Pr)(w:World):Prop:=
 match P.underlying t with
 |some (.slice e)=>match P.info? e with
  |some i=>match i.zero with
   |some z=>match l with
    |.int _ l=>match c with
     |.int _ c=>Mk e i.size i.bytes z.cells l c (λr=>K (.slice r.p r.len r.cap)) w
     |_=>F w
    |_=>F w
   |none=>F w
  |none=>F w
 |_=>F w
theorem QO {l c:Value}(h:O9 P t l c K w):
  ∃v w',(Instr.makeSlice t l c).run P w=.ok v w'/\K v w':=by
 simp only[O9]at h;split at h
 ·rename_i e hu;split at h
  ·rename_i i hi;split at h
   ·rename_i z hz;split at h
    ·rename_i kl l;split at h
     ·rename_i kc c;obtain⟨h0,h1,h2,h3,hk⟩:=h;exact⟨_,_,run_make w t e i z hu hi hz kl kc l c h0 h1 h2 h3,hk⟩
     ·exact h.elim
    ·exact h.elim
   ·exact h.elim
  ·exact h.elim
 ·exact h.elim
def C4 (zs:List Value):Nat->List Value
 |0=>[]
 |n+1=>zs++C4 zs n
theorem C3 (zs:List Value)(n:Nat):(C4 zs n).length=n*zs.length:=by
 induction n with
 |zero=>simp[C4]
 |succ n ih=>simp[C4,ih,Nat.succ_mul,Nat.add_comm]
theorem UN (zs:List Value)(hz:0<zs.length):∀(n j:Nat),j<n*zs.length->(C4 zs n)[j]?=zs[j % zs.length]?
 |0,j,h=>by simp at h
 |n+1,j,h=>by
  simp only[C4];by_cases hj:j<zs.length
  ·rw[List.getElem?_append_left hj,Nat.mod_eq_of_lt hj]
  ·have hs:(n+1)*zs.length=n*zs.length+zs.length:=Nat.succ_mul _ _;have hm:j % zs.length=(j-zs.length) % zs.length:=Nat.mod_eq_sub_mod (by omega);rw[List.getElem?_append_right (by omega),UN zs hz n (j-zs.length) (by omega),hm]
theorem ZH (zs:Array Value)(n:Nat):((Array.range (n*zs.size)).map (λx=>zs[x % zs.size]!))=(C4 zs.toList n).toArray:=by
 apply Array.ext_getElem?;intro j;by_cases hz:zs.size=0
 ·have:zs=#[]:=by simpa using hz
  subst this;have h0:C4 ([]:List Value) n=[]:=by
   have:=C3 ([]:List Value) n;simpa using this
  simp[h0]
 ·have hl:(C4 zs.toList n).length=n*zs.size:=by simpa using C3 zs.toList n
  by_cases hj:j<n*zs.size
  ·have hm:j % zs.size<zs.size:=Nat.mod_lt _ (by omega);have:=UN zs.toList (by simp;omega) n j (by simpa using hj);simp only[List.getElem?_toArray,this];simp[hj,hm]
  ·rw[Array.getElem?_eq_none (by simp;omega),Array.getElem?_eq_none (by simp[hl];omega)]
def Ae9 (size:Nat)(e:TypeId)(i:Nat):Option (Nat×TypeId):=some (i*size,e)
def Mx (P:Program)(t:TypeId)(n:Nat)(parts:List (Nat×Value))(K:Value->Pr)(w:World):Prop:=
 match P.underlying t with
 |some (.slice e)=>match P.info? e with
  |some i=>match i.zero with
   |some z=>match decide (i.size=z.cells.size)&&decide (0<i.size)&&decide (n*i.size<=16777216)with
    |true=>Pt P (Ae9 i.size e) parts (C4 z.cells.toList n) (λr=>At r.toArray e (λa=>K (.slice (some a) n n))) w
    |false=>F w
   |none=>F w
  |none=>F w
 |_=>F w
theorem Qa {n:Nat}{parts:Array (Nat×Value)}(h:Mx P t n parts.toList K w):
  ∃v w',(Instr.buildSlice t n parts).run P w=.ok v w'/\K v w':=by
 simp only[Mx]at h;split at h
 ·rename_i e hu;split at h
  ·rename_i i hi;split at h
   ·rename_i z hz;split at h
    ·rename_i hc;simp only[Bool.and_eq_true,decide_eq_true_eq]at hc;obtain⟨⟨h1,h2⟩,h3⟩:=hc;obtain⟨r,hr,hk⟩:=FE (place':=λk=>some (k*i.size,i.size)) (λk off u inf hp hi'=>by
      simp only[Ae9,Option.some.injEq,Prod.mk.injEq]at hp;obtain⟨rfl,rfl⟩:=hp;rw[hi]at hi';simp only[Option.some.injEq]at hi';subst hi';rfl) h
     refine⟨_,_,?_,hk⟩;have h3':¬(16777216<n*i.size):=by omega
     simp only[Instr.buildSlice,Sem.run_bind,run_underlying hu,Result.andThen_ok,A0 hi];rw[if_neg (by simpa using h3')];split
     ·rename_i h0;have hn:n=0:=by
       rcases Nat.mul_eq_zero.1 h0 with h|h
       ·exact h
       ·omega
      subst hn;have hzz:((Array.range (0*i.size)).map (λx=>(#[]:Array Value)[x % (#[]:Array Value).size]!))=(C4 z.cells.toList 0).toArray:=by
       simp[C4]
      simp only[Sem.run_bind,Sem.run_pure,Result.andThen_ok,hzz];rw[hr];simp only[newRow,Sem.run_bind,run_newObj,Result.andThen_ok,Sem.run_pure];rfl
     ·have hzz:((Array.range (n*i.size)).map (λx=>z.cells[x % z.cells.size]!))=(C4 z.cells.toList n).toArray:=by
       rw[h1];exact ZH z.cells n
      have hzv:(zeroValue e).run P w=.ok z w:=by simp[zeroValue,typeInfo,hi,hz]
      simp only[Sem.run_bind,Sem.run_pure,Result.andThen_ok,hzv,hzz];rw[hr];simp only[newRow,Sem.run_bind,run_newObj,Result.andThen_ok,Sem.run_pure];rfl
    ·exact h.elim
   ·exact h.elim
  ·exact h.elim
 ·exact h.elim
def AgB (P:Program)(t:TypeId)(v:Value)(K:Value->Pr)(w:World):Prop:=
 match CV P t with
 |true=>match v with
  |.agg cs=>At cs t (λa=>K (.pointer (some a))) w
  |_=>F w
 |false=>match kd P t with
  |some .v=>AY (v.oneCell'=true) (At #[v] t (λa=>K (.pointer (some a)))) w
  |_=>match v.oneCell' with
   |true=>At #[v] t (λa=>K (.pointer (some a))) w
   |false=>F w
theorem Vx {v:Value}(h:AgB P t v K w):
  ∃a w',(newVar t v).run P w=.ok a w'/\K (.pointer (some a)) w':=by
 have one:v.oneCell'=true->At #[v] t (λa=>K (.pointer (some a))) w->∃a w',(newVar t v).run P w=.ok a w'/\K (.pointer (some a)) w':=λh1 h2=>
  ⟨_,_,by simp[newVar,newRow,Q2 h1],h2⟩
 simp only[AgB]at h;split at h
 ·split at h
  ·exact⟨_,_,by simp[newVar,newRow,Value.cells],h⟩
  ·exact h.elim
 ·split at h
  ·exact one h.1 h.2
  ·split at h
   ·exact one ‹_› h
   ·exact h.elim
def Ae8 (P:Program)(c:Go.Call)(t:TypeId)(ρ:Operand->Value)(K:Value->Pr)(w:World):Prop:=
 match AkN P t with
 |some (tup,rs)=>match c.callee with
  |.value f=>AB P (ρ f) (c.args.toList.map ρ) tup rs (λs=>K (FW tup rs s)) w
  |.invoke r name=>Inv P (ρ r) name (c.args.toList.map ρ) tup rs (λs=>K (FW tup rs s)) w
  |.builtin _=>F w
 |none=>F w
def Yf (P:Program)(o:Oper)(ρ:Operand->Value)(K:Value->Pr)(w:World):Prop:=
 match o.op with
 |.store t x y=>match ρ x with
  |.pointer p=>Nn p (λa=>StD P t a (ρ y) (K undef)) w
  |_=>F w
 |.alloc t=>match zeroOf P t with
  |some z=>AgB P t z K w
  |none=>F w
 |.box t x=>AgB P t (ρ x) K w
 |.buildSlice t n parts=>Mx P t n (Gc ρ parts.toList) K w
 |.makeSlice t l c=>O9 P t (ρ l) (ρ c) K w
 |.makeMap _ r=>match r with
  |none=>O1 (.map #[] 0) (λr=>K (.map (some r))) w
  |some _=>F w
 |.convert src dst x=>match ρ x with
  |.string s=>match P.underlying src with
   |some _=>match P.underlying dst with
    |some (.slice e)=>match P.underlying e with
     |some (.int .u8)=>AfV e s (λr=>K (.slice r.p r.len r.cap)) w
     |some (.int .i32)=>match P.underlying src with
      |some .string=>Ag4 e s (λr=>K (.slice r.p r.len r.cap)) w
      |_=>F w
     |_=>F w
    |_=>F w
   |none=>F w
  |.slice p l c=>match decide (src=dst)with
   |true=>match P.underlying src with
    |some (.slice e)=>match P.underlying e with
     |some (.int .u8)=>MkS p (K (.slice p l c)) w
     |_=>F w
    |_=>F w
   |false=>F w
  |_=>F w
 |.mapUpdate t m k v=>Tq P t (ρ m) (ρ k) (ρ v) (K undef) w
 |.insert t m k v=>Tq P t (ρ m) (ρ k) (ρ v) (K undef) w
 |.mapEntry t m k=>match P.underlying t with
  |some (.map kt et)=>match plainKey P kt with
   |some d=>match ρ m with
    |.map r=>match zeroOf P et with
     |some z=>AjJ d r (ρ k) z (λv b=>K (.tuple #[v,b])) w
     |none=>F w
    |_=>F w
   |none=>F w
  |_=>F w
 |.entryStore _ m st x=>match ρ m with
  |.map r=>Ak0 r (ρ st) (ρ x) (K undef) w
  |_=>F w
 |.range t x=>match P.underlying t with
  |some (.map _ _)=>match ρ x with
   |.map m=>RgM m (λa=>K (.pointer (some a))) w
   |_=>F w
  |_=>F w
 |.next x isS=>match isS with
  |false=>match ρ x with
   |.pointer (some a)=>NxM a (λk v=>K (.tuple #[.bool true,k,v])) (K (.tuple #[.bool false])) w
   |_=>F w
  |true=>F w
 |.typeAssert x _ t ok=>match ok with
  |false=>match P.underlying t with
   |some (.interface _)=>F w
   |some _=>TaK t (ρ x) (λy=>tyD P t y K) w
   |none=>F w
  |true=>F w
 |.call c=>match c.callee with
  |.builtin b=>match b with
   |.append=>match c.argTypes.toList with
    |[st,xt]=>match c.args.toList with
     |[s,x]=>AiF P st xt (ρ s) (ρ x) K w
     |_=>F w
    |_=>F w
   |.copy=>match c.argTypes.toList with
    |[dt,st]=>match c.args.toList with
     |[d,x]=>AeL P dt st (ρ d) (ρ x) K w
     |_=>F w
    |_=>F w
   |.clear=>match c.argTypes.toList with
    |[t]=>match c.args.toList with
     |[x]=>match P.underlying t with
      |some (.slice e)=>match zeroOf P e with
       |some z=>match ρ x with
        |.slice p l c=>Zf z.cells ⟨p,l,c⟩ (K (.tuple #[])) w
        |_=>F w
       |none=>F w
      |some (.map _ _)=>match ρ x with
       |.map m=>Akn m (K (.tuple #[])) w
       |_=>F w
      |_=>F w
     |_=>F w
    |_=>F w
   |.delete=>match c.argTypes.toList with
    |[t,kt]=>match c.args.toList with
     |[m,k]=>match P.underlying t with
      |some (.map kt' _)=>match plainKey P kt' with
       |some d=>match decide (kt=kt')with
        |true=>match ρ m with
         |.map r=>AjY d r (ρ k) (K (.tuple #[])) w
         |_=>F w
        |false=>F w
       |none=>F w
      |_=>F w
     |_=>F w
    |_=>F w
   |_=>F w
  |_=>Ae8 P c o.type ρ K w
 |_=>F w
theorem ZU {o:Oper}{c:Go.Call}(ho:o.op=.call c){ρ:Operand->Value}{K:Value->Pr}{w:World}(h:Ae8 P c o.type ρ K w):UD P o ρ K w:=by
 simp only[Ae8]at h;have hargs:∀(xs:Array Operand),(xs.map ρ)=(xs.toList.map ρ).toArray:=λxs=>Array.toList_inj.1 (by simp);have go:∀{f:FuncId} {args:Array Value} {tup:Bool} {rs:List RK},(execOp ρ o).run P w=.ok (.enter f args) w->Calls P f args w (λ| .returned v,w'=>∃s,v=FW tup rs s/\K (FW tup rs s) w'|_,_=>False)->UD P o ρ K w:=by
  intro f args tup rs he hc;refine AaQ he (hc.mono λe w' h=>?_);cases e with
  |returned v=>obtain⟨s,rfl,h⟩:=h;exact h
  |panicked c=>exact h
  |outgrown=>exact h
 split at h
 ·rename_i tup rs hr;split at h
  ·rename_i f hf;unfold AB at h;split at h
   ·rename_i fn first cap hv;split at h
    ·rename_i g;split at h
     ·refine go (tup:=tup) (rs:=rs) ?_ h.2;unfold execOp;rw[ho];simp only[resolve,hf,hv,Deferred.ofValue,Sem.run_bind,Sem.run_pure,Result.andThen_ok,invoke,K8 h.1,hargs]
      congr 2
      apply Array.toList_inj.1;simp
     ·obtain⟨s,w',h1,h2⟩:=h;refine Uw (v:=FW tup rs s) (w':=w') ?_ h2;unfold execOp;rw[ho];simp only[resolve,hf,hv,Deferred.ofValue,Sem.run_bind,Sem.run_pure,Result.andThen_ok,invoke,hargs];rw[show(first++(c.args.toList.map ρ).toArray++cap)=(first.toList++c.args.toList.map ρ++cap.toList).toArray from Array.toList_inj.1 (by simp)];exact h1
    ·rename_i l;obtain⟨r,h1,h2,h3⟩:=h;have hrun:(execOp ρ o).run P w=.ok (.round l r.fn ((r.params.zip ((first.toList++c.args.toList.map ρ).toArray)).foldl (λtmps (t,a)=>tmps.setIfInBounds t a) r.tmps) r.assign r.body) w:=by
      unfold execOp;rw[ho];simp only[resolve,hf,hv,Deferred.ofValue,Sem.run_bind,Sem.run_pure,Result.andThen_ok,invoke,hargs];rw[show(first++(c.args.toList.map ρ).toArray)=(first.toList++c.args.toList.map ρ).toArray from Array.toList_inj.1 (by simp)];exact run_yield h1 (by simpa using h2)
     refine Aa4 hrun (h3.mono λe w' h=>?_);cases e with
     |returned v=>obtain⟨s,rfl,h⟩:=h;exact h
     |panicked c=>exact h
     |outgrown=>exact h
    ·exact h.elim
   ·exact h.elim
  ·rename_i r name hf;unfold Inv at h;split at h
   ·rename_i t x hv;split at h
    ·rename_i f hm;refine go (tup:=tup) (rs:=rs) ?_ h.2;unfold execOp;rw[ho];have hd0:0<Made.depth:=by decide
     have hnum:P.types.size+Made.depth=(P.types.size+Made.depth-1)+1:=by omega
     simp only[resolve,hf,hv,Sem.run_bind,Sem.run_pure,Result.andThen_ok,invoke,hargs];simp only[List.getElem?_toArray,callMethod,Array.getElem?_append,Sem.run_bind,run_program,Result.andThen_ok];simp only[List.size_toArray,List.length_cons,List.length_nil,Nat.zero_add,Nat.lt_one_iff,if_true,List.getElem?_cons_zero,Sem.run_bind,run_program,Result.andThen_ok];rw[hnum,AaY hm];simp only[Result.andThen_ok];rw[K8 h.1]
     congr 2
     apply Array.toList_inj.1;simp;rw[List.take_of_length_le (by simp)]
    ·exact h.elim
   ·exact h.elim
  ·exact h.elim
 ·exact h.elim
theorem XC {o:Oper}(h:Yf P o ρ K w):UD P o ρ K w:=by
 have lift:∀{s:Sem Value} (he:execOp ρ o=(do pure (.value (<-s)))),(∃v w',s.run P w=.ok v w'/\K v w')->UD P o ρ K w:=by
  intro s he ⟨v,w',hv,hk⟩;exact Uw (by rw[he];simp[hv]) hk
 have liftU:∀{s:Sem Unit} (he:execOp ρ o=(do s;pure .skip)),(∃w',s.run P w=.ok () w'/\K undef w')->UD P o ρ K w:=by
  intro s he ⟨w',hv,hk⟩;exact AcQ (by rw[he];simp[hv]) hk
 unfold Yf at h;split at h
 ·rename_i t x y ho;split at h
  ·rename_i p ha;cases p with
   |none=>exact h.elim
   |some a=>
   obtain⟨w',h1,h2⟩:=Ac2 h;exact liftU (s:=Instr.storeAt t (ρ x) (ρ y)) (by unfold execOp;rw[ho]) ⟨w',by simp[Instr.storeAt,ha,Instr.sureAddr,h1],h2⟩
  ·exact h.elim
 ·rename_i t ho;split at h
  ·rename_i z hz;obtain⟨a,w',h1,h2⟩:=Vx h;exact lift (s:=Instr.alloc t true (.tuple #[])) (by unfold execOp;rw[ho]) ⟨_,w',by simp[Instr.alloc,Ea hz,h1],h2⟩
  ·exact h.elim
 ·rename_i t x ho;obtain⟨a,w',h1,h2⟩:=Vx h;exact lift (s:=Instr.box t (ρ x)) (by unfold execOp;rw[ho]) ⟨_,w',by simp[Instr.box,h1],h2⟩
 ·rename_i t n parts ho;rw[<-AdV]at h;exact lift (by unfold execOp;rw[ho]) (Qa h)
 ·rename_i t l c ho;exact lift (by unfold execOp;rw[ho]) (QO h)
 ·rename_i t r ho;split at h
  ·exact lift (s:=Instr.makeMap t none) (by unfold execOp;rw[ho];rfl) ⟨_,_,by simp[Instr.makeMap],h⟩
  ·exact h.elim
 ·rename_i src dst x ho;split at h
  ·rename_i s hx;split at h
   ·rename_i u hs;split at h
    ·rename_i e hd;split at h
     ·rename_i he;obtain⟨r,w',h1,h2⟩:=P4 hs hd he h;exact lift (by unfold execOp;rw[ho]) ⟨_,w',by rw[hx];exact h1,h2⟩
     ·rename_i he;split at h
      ·rename_i hs;obtain⟨r,w',h1,h2⟩:=PT hs hd he h;exact lift (by unfold execOp;rw[ho]) ⟨_,w',by rw[hx];exact h1,h2⟩
      ·exact h.elim
     ·exact h.elim
    ·exact h.elim
   ·exact h.elim
  ·rename_i p l c hx;split at h
   ·rename_i hsd;have hsd':src=dst:=by simpa using hsd
    subst hsd';split at h
    ·rename_i e hs;split at h
     ·rename_i he;obtain⟨w',h1,h2⟩:=AcN (P:=P) hs he h;exact lift (by unfold execOp;rw[ho]) ⟨_,w',by rw[hx];exact h1,h2⟩
     ·exact h.elim
    ·exact h.elim
   ·exact h.elim
  ·exact h.elim
 ·rename_i t m k v ho;simp only[Tq]at h;split at h
  ·rename_i kt et hu;split at h
   ·rename_i d hd;split at h
    ·rename_i r hr;obtain⟨w',h1,h2⟩:=U3 hu hd h;exact liftU (s:=Instr.mapUpdate t (ρ m) (ρ k) (ρ v)) (by unfold execOp;rw[ho]) ⟨w',by rw[hr];exact h1,h2⟩
    ·exact h.elim
   ·exact h.elim
  ·exact h.elim
 ·rename_i t m k v ho;simp only[Tq]at h;split at h
  ·rename_i kt et hu;split at h
   ·rename_i d hd;split at h
    ·rename_i r hr;obtain⟨w',h1,h2⟩:=U3 hu hd h;exact liftU (s:=Instr.mapUpdate t (ρ m) (ρ k) (ρ v)) (by unfold execOp;rw[ho]) ⟨w',by rw[hr];exact h1,h2⟩
    ·exact h.elim
   ·exact h.elim
  ·exact h.elim
 ·rename_i t m k ho;split at h
  ·rename_i kt et hu;split at h
   ·rename_i d hd;split at h
    ·rename_i r hr;split at h
     ·rename_i z hz;obtain⟨v,b,w',h1,h2⟩:=AaF hu hd hz h;exact lift (by unfold execOp;rw[ho]) ⟨_,w',by rw[hr];exact h1,h2⟩
     ·exact h.elim
    ·exact h.elim
   ·exact h.elim
  ·exact h.elim
 ·rename_i t m st x ho;split at h
  ·rename_i r hr;obtain⟨w',h1,h2⟩:=AaU (t:=t) h;exact liftU (s:=Instr.entryStore t (ρ m) (ρ st) (ρ x)) (by unfold execOp;rw[ho]) ⟨w',by rw[hr];exact h1,h2⟩
  ·exact h.elim
 ·rename_i t x ho;split at h
  ·rename_i kt et hu;split at h
   ·rename_i m hm;obtain⟨a,w',h1,h2⟩:=Ads hu h;exact lift (by unfold execOp;rw[ho]) ⟨_,w',by rw[hm];exact h1,h2⟩
   ·exact h.elim
  ·exact h.elim
 ·rename_i x isS ho;split at h
  ·split at h
   ·rename_i a ha;obtain⟨v,w',h1,h2⟩:=AcX (P:=P) (t:=o.type) h;refine lift (by unfold execOp;rw[ho]) ⟨v,w',by rw[ha];exact h1,?_⟩;rcases h2 with⟨k,y,rfl,h2⟩|⟨rfl,h2⟩
    ·exact h2
    ·exact h2
   ·exact h.elim
  ·exact h.elim
 ·rename_i x xt t ok ho;split at h
  ·split at h
   ·exact h.elim
   ·rename_i d hni hu;obtain⟨y,hy,h⟩:=h;refine lift (s:=Instr.typeAssert (ρ x) xt t false) (by unfold execOp;rw[ho]) ⟨y,w,?_,Qm h⟩;simp only[Instr.typeAssert,Sem.run_bind,run_underlying hu,Result.andThen_ok,hy]
    cases d<;>first
     |exact absurd rfl (hni _)
     |simp
   ·exact h.elim
  ·exact h.elim
 ·rename_i c ho;split at h
  ·rename_i b hb;split at h
   ·split at h
    ·rename_i st xt ht;split at h
     ·rename_i s x hx;have e1:c.argTypes=#[st,xt]:=Array.toList_inj.1 (by simpa using ht);have e2:c.args=#[s,x]:=Array.toList_inj.1 (by simpa using hx);exact lift (execOp_builtin ho hb (s:=Builtin.append_ #[st,xt] o.type #[ρ s,ρ x]) (by rw[e1,e2];simp[builtin])) (Abp _ h)
     ·exact h.elim
    ·exact h.elim
   ·split at h
    ·rename_i st xt ht;split at h
     ·rename_i s x hx;have e1:c.argTypes=#[st,xt]:=Array.toList_inj.1 (by simpa using ht);have e2:c.args=#[s,x]:=Array.toList_inj.1 (by simpa using hx);exact lift (execOp_builtin ho hb (s:=Builtin.copy_ #[st,xt] o.type #[ρ s,ρ x]) (by rw[e1,e2];simp[builtin])) (Z5 _ h)
     ·exact h.elim
    ·exact h.elim
   ·split at h
    ·rename_i t ht;split at h
     ·rename_i x hx;have e1:c.argTypes=#[t]:=Array.toList_inj.1 (by simpa using ht);have e2:c.args=#[x]:=Array.toList_inj.1 (by simpa using hx);split at h
      ·rename_i e hu;split at h
       ·rename_i z hz;split at h
        ·rename_i p l cc hxs;obtain⟨w',h1,h2⟩:=Abm (P:=P) hu hz o.type h;exact lift (execOp_builtin ho hb (s:=Builtin.clear_ #[t] o.type #[ρ x]) (by rw[e1,e2];simp[builtin])) ⟨_,w',by rw[hxs];exact h1,h2⟩
        ·exact h.elim
       ·exact h.elim
      ·rename_i kt et hu;split at h
       ·rename_i m hxs;obtain⟨w',h1,h2⟩:=Aap (P:=P) hu o.type h;exact lift (execOp_builtin ho hb (s:=Builtin.clear_ #[t] o.type #[ρ x]) (by rw[e1,e2];simp[builtin])) ⟨_,w',by rw[hxs];exact h1,h2⟩
       ·exact h.elim
      ·exact h.elim
     ·exact h.elim
    ·exact h.elim
   ·split at h
    ·rename_i st xt ht;split at h
     ·rename_i s x hx;have e1:c.argTypes=#[st,xt]:=Array.toList_inj.1 (by simpa using ht);have e2:c.args=#[s,x]:=Array.toList_inj.1 (by simpa using hx);split at h
      ·rename_i kt' et hu;split at h
       ·rename_i d hd;split at h
        ·rename_i hk;have hk':xt=kt':=by simpa using hk
         subst hk';split at h
         ·rename_i r hr;obtain⟨w',h1,h2⟩:=AaW (P:=P) hu hd #[] o.type h;exact lift (execOp_builtin ho hb (s:=Builtin.delete_ #[st,xt] o.type #[ρ s,ρ x]) (by rw[e1,e2];simp[builtin])) ⟨_,w',by rw[hr];exact h1,h2⟩
         ·exact h.elim
        ·exact h.elim
       ·exact h.elim
      ·exact h.elim
     ·exact h.elim
    ·exact h.elim
   ·exact h.elim
  ·exact ZU ho h
 ·exact h.elim
inductive Cls where
 |pure|read|NL
def cls (P:Program)(o:Oper):Cls:=
 match o.op with
 |.move _ | .assign _ | .pick _ _ _ | .nilCheck _ | .binOp _ _ _ _ _ | .unOp _ _ _ | .makeInterface _ _ | .makeFunc _ _ _ | .build _ _ | .slice _ _ _ _ _ | .field _ _ _ | .fieldAddr _ _ _
 |.indexAddr _ _ _ | .index _ _ _ | .extract _ _ | .sliceToArrayPointer _ _=>.pure
 |.load _ _ | .lookup _ _ _ _ | .entry _=>.read
 |.convert src dst _=>match P.underlying dst with
  |some (.slice _)=>.NL
  |some .string=>match P.underlying src with
   |some (.slice _)=>.read
   |_=>.pure
  |_=>.pure
 |.call c=>match c.callee with
  |.builtin b=>match b with
   |.len=>match c.argTypes.toList with
    |[t]=>match P.underlying t with
     |some (.map _ _)=>.read
     |_=>.pure
    |_=>.pure
   |.cap | .min | .max=>.pure
   |_=>.NL
  |_=>.NL
 |_=>.NL
def opD (P:Program)(o:Oper)(ρ:Operand->Value)(K:Value->Pr)(w:World):Prop:=
 match cls P o with
 |.pure=>Afn P o ρ K w
 |.read=>Acg P o ρ K w
 |.NL=>Yf P o ρ K w
theorem W5 {o:Oper}(h:opD P o ρ K w):UD P o ρ K w:=by
 unfold opD at h;split at h
 ·exact(Sr h).q.AjX
 ·exact(Mt h).AjX
 ·exact XC h
theorem Ry {o:Oper}(h:opD P o ρ K w):∀c,o.op≠.defer c:=by
 intro c hc;simp only[opD,cls,Yf,hc]at h;exact h
open Go
def Qn:Op->List Operand
 |.move x | .assign x | .box _ x | .load _ x | .nilCheck x | .unOp _ _ x | .convert _ _ x | .sliceToArrayPointer _ x | .makeInterface _ x
 |.makeChan _ x | .fieldAddr _ x _ | .field _ x _ | .range _ x | .next x _ | .entry x | .typeAssert x _ _ _ | .extract x _ | .panic x | .recv _ x _=>[x]
 |.pick c a b=>[c,a,b]
 |.build _ ps=>ps.toList.map (·.2)
 |.buildSlice _ _ ps=>ps.toList.map (·.2)
 |.store _ a v | .binOp _ _ a v _ | .makeSlice _ a v | .indexAddr _ a v | .index _ a v | .lookup _ a v _ | .mapEntry _ a v | .send a v=>[a,v]
 |.makeFunc _ first captured=>first.toList++captured.toList
 |.makeMap _ r=>match r with|some x=>[x]|none=>[]
 |.slice _ x l h m=>x::((match l with|some y=>[y]|none=>[])++((match h with|some y=>[y]|none=>[])++(match m with|some y=>[y]|none=>[])))
 |.mapUpdate _ m k v | .entryStore _ m k v | .insert _ m k v=>[m,k,v]
 |.call c | .go c | .defer c=>(match c.callee with | .value f=>[f] | .invoke r _=>[r] | .builtin _=>[])++c.args.toList
 |_=>[]
theorem AcC {op:Op}(hs:∀cs b,op≠.select cs b){x:Operand}(h:x∈op.operands):x∈Qn op:=by
 cases op<;>simp only[Op.operands,Qn,Go.Call.operands]at * <;> first
  |(simp_all;done)
  |skip
 case slice t x lo hi mx=>cases lo<;>cases hi<;>cases mx<;>simp_all
 case call c=>cases hc:c.callee<;>simp_all
 case go c=>cases hc:c.callee<;>simp_all
 case defer c=>cases hc:c.callee<;>simp_all
def tmpsOf:List Operand->List Tmp
 |[]=>[]
 |x::r=>match x with
  |.tmp t=>t::tmpsOf r
  |_=>tmpsOf r
theorem Aaf {l:List Operand}{t:Tmp}:t∈tmpsOf l↔Operand.tmp t∈l:=by
 induction l with
 |nil=>simp[tmpsOf]
 |cons x r ih=>cases x<;>simp[tmpsOf,ih]
def JI (ops:List Oper)(o:Oper):Option Tmp:=
 match o.guard with
 |some (g,_)=>match ops[g]? with
  |some og=>og.dst
  |none=>none
 |none=>none
def looks (ops:List Oper)(o:Oper):List Tmp:=
 match JI ops o with
 |some t=>t::tmpsOf (Qn o.op)
 |none=>tmpsOf (Qn o.op)
def Ug:Op->Bool
 |.select _ _=>false
 |_=>true
def Ot (e:Env):List Tmp->Bool
 |[]=>true
 |t::r=>match e.get t with
  |some _=>Ot e r
  |none=>false
theorem Lv {e:Env}:∀{l:List Tmp},Ot e l=true->∀t∈l,∃v,e.get t=some v
 |[],_,t,h=>by simp at h
 |u::r,hk,t,h=>by
  simp only[Ot]at hk;split at hk
  ·rename_i v hv;rcases List.mem_cons.1 h with rfl|h
   ·exact⟨v,hv⟩
   ·exact Lv hk t h
  ·cases hk
theorem Le {o:Oper}{e:Env}{a:Act}(hs:Ug o.op=true)(h:∀t∈tmpsOf (Qn o.op),∃v,e.get t=some v/\a.tmps[t]?=some v):execOp (V7 e) o=execOp a.eval o:=by
 have hs':∀cs b,o.op≠.select cs b:=by
  intro cs b hc;rw[hc]at hs;cases hs
 refine execOp_congr o hs' λx hx=>?_;have hm:=AcC hs' hx;cases x with
 |tmp t=>
  obtain⟨v,h1,h2⟩:=h t (Aaf.2 hm);simp[V7,Act.eval,h1,h2]
 |_=>rfl
def Afr (ops:List Oper)(o:Oper)(e:Env)(T E:Env->Pr)(w:World):Prop:=
 match o.guard with
 |none=>T e w
 |some (g,want)=>match ops[g]? with
  |some og=>match og.dst with
   |some t=>match e.get t with
    |some v=>match v with
     |.bool b=>Br b (match want with|true=>T (e.set t (some (.bool true)))|false=>E (e.set t (some (.bool true)))) (match want with|true=>E (e.set t (some (.bool false)))|false=>T (e.set t (some (.bool false)))) w
     |.tuple _=>E e w
     |_=>F w
    |none=>F w
   |none=>F w
  |none=>F w
theorem Afi {e:Env}{t:Nat}{v:Value}(h:e.get t=some v):e.set t (some v)=e:=by
 obtain⟨n,f⟩:=e;simp only[Env.get]at h;split at h
 ·simp only[Env.set,Env.mk.injEq,true_and]
  funext u
  split
  ·rename_i hb;rw[Nat.eq_of_beq_eq_true hb,h]
  ·rfl
 ·cases h
variable {ops:List Oper}
theorem QY {o:Oper}{e:Env}{T E:Env->Pr}(h:Afr ops o e T E w):
  ∃b:Bool,(if b then T e w else E e w)/\∀a:Act,(∀t,JI ops o=some t->∀v,e.get t=some v->a.tmps[t]?=some v)->Region.wanted o (yielded ops.toArray a.tmps)=b:=by
 simp only[Afr]at h;split at h
 ·rename_i hg;exact⟨true,h,λa _=>by simp[Region.wanted,hg]⟩
 ·rename_i g want hg;split at h
  ·rename_i og hog;split at h
   ·rename_i t ht;have hgt:JI ops o=some t:=by simp[JI,hg,hog,ht]
    have hy:∀a:Act,yielded ops.toArray a.tmps g=(match a.tmps[t]? with|some (.bool b)=>some b|_=>none):=by
     intro a;simp only[yielded,List.getElem?_toArray,hog,Option.bind_some,ht];rfl
    split at h
    ·rename_i v hv;split at h
     ·rename_i b;have hw:∀a:Act,(∀u,JI ops o=some u->∀v,e.get u=some v->a.tmps[u]?=some v)->Region.wanted o (yielded ops.toArray a.tmps)=(b==want):=by
       intro a ha;have:=ha t hgt _ hv;simp[Region.wanted,hg,hy,this]
      have hs:=Afi hv;cases b
      ·simp only[Br,hs]at h;cases want
       ·exact⟨true,h,λa ha=>hw a ha⟩
       ·exact⟨false,h,λa ha=>hw a ha⟩
      ·simp only[Br,hs]at h;cases want
       ·exact⟨false,h,λa ha=>hw a ha⟩
       ·exact⟨true,h,λa ha=>hw a ha⟩
     ·rename_i vs;exact⟨false,h,λa ha=>by
       have:=ha t hgt _ hv;simp[Region.wanted,hg,hy,this]⟩
     ·exact h.elim
    ·exact h.elim
   ·exact h.elim
  ·exact h.elim
def Ahn (P:Program)(ops:List Oper)(o:Oper)(e:Env)(K:Env->Pr):Pr:=
 Afr ops o e
  (λe w=>match Ug o.op&&Ot e (tmpsOf (Qn o.op))with
   |true=>opD P o (V7 e) (λv=>K (e.put o.dst v)) w
   |false=>F w)
  (λe=>K (e.put o.dst undef))
def AgZ (P:Program)(ops:List Oper):List Oper->Env->(Env->Pr)->Pr
 |[],e,K=>K e
 |o::r,e,K=>Ahn P ops o e (λe=>AgZ P ops r e K)
variable {Q:Exit->Act->World->Prop}
theorem KE {o:Oper}{a:Act}{next:Act->World->Prop}(hd:∀c,o.op≠.defer c)(h:o.uponIn (WF r) 0 P a next Q ((execOp a.eval o).run P w)):o.wpIn (WF r) 0 P a w next Q:=
 ⟨λ_ _=>trivial,by rw[Oper.semAt_eq _ _ _ hd];exact h⟩
theorem ZN {o:Oper}{e:Env}{K:Env->Pr}{a:Act}(h:Ahn P ops o e K w)(ha:BF ds e a){next:Act->World->Prop}{Q:Exit->Act->World->Prop}(hn:∀e' a' w',K e' w'->BF ds e' a'->next a' w'):
  if Region.wanted o (yielded ops.toArray a.tmps)then o.wpIn (WF r) 0 P a w next Q else next (a.put o.dst undef) w:=by
 obtain⟨b,hb,hw⟩:=QY h;rw[hw a (λt _ v hv=>ha.val t v hv)];cases b
 ·simp only[Bool.false_eq_true,if_false]at hb ⊢;exact hn _ _ _ hb (ha.put _ _)
 ·simp only[if_true]at hb ⊢;split at hb
  ·rename_i hk;simp only[Bool.and_eq_true]at hk;have he:execOp (V7 e) o=execOp a.eval o:=Le hk.1 λt ht=>by
    obtain⟨v,hv⟩:=Lv hk.2 t ht;exact⟨v,hv,ha.val t v hv⟩
   have:=W5 hb r a next Q (λv w' hkv=>hn _ _ _ hkv (ha.put _ _));rw[he]at this;exact KE (Ry hb) this
  ·exact hb.elim
theorem Up {ds:List Deferred}{r:Option Nat}{P:Program}{ops:List Oper}{Q:Exit->Act->World->Prop}:∀{l:List Nat} {os:List Oper} {e:Env} {K:Env->Pr} {w:World} {a:Act},l.map (ops[·]?)=os.map some->AgZ P ops os e K w->BF ds e a ->
  (∀e' a' w',K e' w'->BF ds e' a'->Q .normal a' w')->wpOpsIn (WF r) 0 P ops.toArray Q l a w
 |[],os,e,K,w,a,hl,h,ha,hq=>by
  cases os with
  |nil=>exact hq _ _ _ h ha
  |cons o os=>simp at hl
 |i::l,os,e,K,w,a,hl,h,ha,hq=>by
  cases os with
  |nil=>simp at hl
  |cons o os=>
   simp only[List.map_cons,List.cons.injEq]at hl;simp only[wpOpsIn,List.getElem?_toArray,hl.1];have:=ZN (r:=r) (next:=wpOpsIn (WF r) 0 P ops.toArray Q l) (Q:=Q) h ha (λe' a' w' hk hk'=>Up hl.2 hk hk' hq);split
   ·rename_i hw;rw[hw]at this;simpa using this
   ·rename_i hw;rw[if_neg hw]at this;exact⟨λ_ _=>trivial,this⟩
open Go
def QF (acc:List Nat):List Edge->Nat
 |[]=>0
 |e::r=>match Region.binds .any e with
  |true=>(2 ^ e.on ||| (match acc[e.on]? with|some m=>m|none=>0)) ||| QF acc r
  |false=>QF acc r
def Tm:List Oper->List Nat->List Nat
 |[],acc=>acc
 |o::r,acc=>Tm r (acc++[QF acc o.after.toList])
def Cz (ops:List Oper):List Nat:=Tm ops []
def G7 (M:List Nat)(i:Nat):Nat:=match M[i]? with|some m=>m|none=>0
theorem OM {acc:List Nat}:∀{l:List Edge} {k:Nat},(QF acc l).testBit k=true->∃e∈l,Region.binds .any e=true/\(k=e.on\/∃m,acc[e.on]?=some m/\m.testBit k=true)
 |[],k,h=>by simp[QF]at h
 |e::r,k,h=>by
  simp only[QF]at h;split at h
  ·rename_i hb;rw[Nat.testBit_or,Nat.testBit_or,Bool.or_eq_true,Bool.or_eq_true]at h;rcases h with(h|h)|h
   ·exact⟨e,List.mem_cons_self,hb,.inl (by rw[Nat.testBit_two_pow]at h;exact(of_decide_eq_true h).symm)⟩
   ·refine⟨e,List.mem_cons_self,hb,.inr ?_⟩;split at h
    ·exact⟨_,‹_›,h⟩
    ·simp at h
   ·obtain⟨e',h1,h2⟩:=OM h;exact⟨e',List.mem_cons_of_mem _ h1,h2⟩
  ·obtain⟨e',h1,h2⟩:=OM h;exact⟨e',List.mem_cons_of_mem _ h1,h2⟩
def Aa2 (ops:List Oper)(acc:List Nat):Prop:=
 ∀(j m k:Nat),acc[j]?=some m->m.testBit k=true->∃(o:Oper) (e:Edge),ops[j]?=some o/\e∈o.after.toList/\Region.binds .any e=true/\(k=e.on\/∃m',acc[e.on]?=some m'/\m'.testBit k=true)
theorem Va {ops:List Oper}:∀{r:List Oper} {acc:List Nat},ops.drop acc.length=r->Aa2 ops acc->Aa2 ops (Tm r acc)
 |[],acc,_,h=>h
 |o::r,acc,hd,h=>by
  simp only[Tm];have ho:ops[acc.length]?=some o:=by
   have:=congrArg (·[0]?) hd;simpa using this
  refine Va (by simp;rw[<-List.drop_drop,hd];rfl) ?_;intro j m k hj hk;by_cases hlt:j<acc.length
  ·rw[List.getElem?_append_left hlt]at hj;obtain⟨o',e,h1,h2,h3,h4⟩:=h j m k hj hk;refine⟨o',e,h1,h2,h3,h4.imp id λ⟨m',h5,h6⟩=>⟨m',?_,h6⟩⟩;have hl:=(List.getElem?_eq_some_iff.1 h5).1;rw[List.getElem?_append_left hl,h5]
  ·have hje:j=acc.length:=by
    have:=(List.getElem?_eq_some_iff.1 hj).1;simp at this;omega
   subst hje;simp at hj;subst hj;obtain⟨e,h1,h2,h3⟩:=OM hk;refine⟨o,e,ho,h1,h2,h3.imp id λ⟨m',h5,h6⟩=>⟨m',?_,h6⟩⟩;have hl:=(List.getElem?_eq_some_iff.1 h5).1;rw[List.getElem?_append_left hl,h5]
theorem Ad7 (ops:List Oper):Aa2 ops (Cz ops):=Va rfl (λj m k h=>by simp at h)
def AdP (ops:List Oper)(L:Nat->Prop):Prop:=∀j o,L j->ops[j]?=some o->∀e∈o.after.toList,Region.binds .any e=true->L e.on
def Kp (ops:List Oper):Nat->List Oper->Bool
 |_,[]=>true
 |j,o::r=>(o.after.toList.all λe=>!(Region.binds .any e)||decide (e.on<j))&&Kp ops (j+1) r
theorem Ly {ops:List Oper}:∀{r:List Oper} {j i:Nat} {o:Oper},Kp ops j r=true->r[i]?=some o->∀e∈o.after.toList,Region.binds .any e=true->e.on<j+i
 |[],j,i,o,h,hi,e,he,hb=>by simp at hi
 |o'::r,j,i,o,h,hi,e,he,hb=>by
  simp only[Kp,Bool.and_eq_true]at h;cases i with
  |zero=>
   simp only[List.getElem?_cons_zero,Option.some.injEq]at hi;subst hi;have:=List.all_eq_true.1 h.1 e he;simp[hb]at this;omega
  |succ i=>
   simp only[List.getElem?_cons_succ]at hi;have:=Ly h.2 hi e he hb;omega
theorem YJ {L:Nat->Prop}(hc:AdP ops L)(he:Kp ops 0 ops=true):∀(j:Nat) (o:Oper),ops[j]?=some o->(∀e∈o.after.toList,Region.binds .any e=true->L e.on)->∀k,(G7 (Cz ops) j).testBit k=true->L k:=by
 intro j;induction j using Nat.strongRecOn with
 |_ j ih=>
  intro o ho hl k hk;unfold G7 at hk;split at hk
  ·rename_i m hm;obtain⟨o',e,h1,h2,h3,h4⟩:=Ad7 ops j m k hm hk;rw[ho,Option.some.injEq]at h1;subst h1;have hlt:=Ly he ho e h2 h3;simp only[Nat.zero_add]at hlt;rcases h4 with rfl|⟨m',h5,h6⟩
   ·exact hl e h2 h3
   ·have hLe:=hl e h2 h3;cases hoe:ops[e.on]? with
    |none=>
     have:=(List.getElem?_eq_some_iff.1 ho).1;have:=List.getElem?_eq_none_iff.1 hoe;omega
    |some oe=>exact ih e.on hlt oe hoe (hc e.on oe hLe hoe) k (by simp only[G7,h5];exact h6)
  ·simp at hk
structure Rd where
 i:Nat
 o:Oper
 e:Env
 v:Value
 ex:Bool
def EC (m d:Nat):Bool:=Nat.beq (m &&& d) m
theorem Sj {m d k:Nat}(h:EC m d=true)(hk:m.testBit k=true):d.testBit k=true:=by
 have h':=Nat.eq_of_beq_eq_true h;rw[<-h',Nat.testBit_and,Bool.and_eq_true]at hk;exact hk.2
def DK (P:Program)(o:Oper):Bool:=match cls P o with | .NL=>true|_=>false
def Jg (P:Program)(o:Oper):Bool:=match cls P o with | .read=>true|_=>false
def DH (P:Program)(M:List Nat)(done:Nat):List Oper->Nat->Option (Nat×Oper)
 |[],_=>none
 |o::r,i=>match !(done.testBit i)&&(!(DK P o)&&EC (G7 M i) done)with
  |true=>some (i,o)
  |false=>DH P M done r (i+1)
def DF (P:Program)(M:List Nat)(done:Nat):List Oper->Nat->List (Nat×Oper)
 |[],_=>[]
 |o::r,i=>match !(done.testBit i)&&(DK P o&&EC (G7 M i) done)with
  |true=>(i,o)::DF P M done r (i+1)
  |false=>DF P M done r (i+1)
def again (P:Program)(m:Nat):List Rd->Pr->Pr
 |[],K=>K
 |q::r,K=>match m.testBit q.i with
  |true=>again P m r K
  |false=>λw=>Acg P q.o (V7 q.e) (λv _=>v=q.v) w/\again P m r K w
def AdG:List Pr->Pr
 |[]=>F
 |p::ps=>match ps with
  |[]=>p
  |_=>λw=>p w/\AdG ps w
theorem YM:∀{ps:List Pr} {w:World},AdG ps w->∀p∈ps,p w
 |[],w,h,p,hp=>by simp at hp
 |q::ps,w,h,p,hp=>by
  cases ps with
  |nil=>simp at hp;subst hp;exact h
  |cons r ps=>
   have h':q w/\AdG (r::ps) w:=h;rcases List.mem_cons.1 hp with rfl|hp
   ·exact h'.1
   ·exact YM h'.2 p hp
def full (n:Nat):Nat:=2 ^ n-1
def Ai4 (P:Program)(ops:List Oper)(i:Nat)(o:Oper)(e:Env)(qs:List Rd)(K:List Rd->Env->Pr):Pr:=
 Afr ops o e
  (λe w=>match Ug o.op&&Ot e (tmpsOf (Qn o.op))with
   |true=>opD P o (V7 e) (λv=>K (match Jg P o with|true=>⟨i,o,e,v,true⟩::qs|false=>qs) (e.put o.dst v)) w
   |false=>F w)
  (λe=>K qs (e.put o.dst undef))
def QR (P:Program)(ops:List Oper)(M:List Nat)(i:Nat)(o:Oper)(e:Env)(qs:List Rd)(K:Env->Pr):Pr:=
 Afr ops o e
  (λe w=>match Ug o.op&&Ot e (tmpsOf (Qn o.op))with
   |true=>opD P o (V7 e) (λv=>again P (G7 M i) qs (K (e.put o.dst v))) w
   |false=>F w)
  (λe=>K (e.put o.dst undef))
def LB (P:Program)(ops:List Oper)(M:List Nat)(K:Env->Pr):Nat->Nat->List Rd->Env->Pr
 |0,_,_,_=>F
 |n+1,done,qs,e=>match DH P M done ops 0 with
  |some (i,o)=>Ai4 P ops i o e qs (λqs e=>LB P ops M K n (done ||| 2 ^ i) qs e)
  |none=>match Nat.beq done (full ops.length)with
   |true=>K e
   |false=>AdG ((DF P M done ops 0).map λ(i,o)=>QR P ops M i o e qs (λe=>LB P ops M K n (done ||| 2 ^ i) qs e))
def AeA (l:List Tmp)(t:Tmp):Bool:=match l with
 |[]=>false
 |u::r=>Nat.beq u t||AeA r t
theorem Y7 {l:List Tmp}{t:Tmp}(h:t∈l):AeA l t=true:=by
 induction l with
 |nil=>simp at h
 |cons u r ih=>
  simp only[AeA,Bool.or_eq_true];rcases List.mem_cons.1 h with rfl|h
  ·exact .inl (Nat.beq_refl _)
  ·exact .inr (ih h)
def U2 (M:List Nat)(i j:Nat)(di dj:Option Tmp)(li lj:List Tmp):Bool:=
 (match di with
  |some t=>(match dj with|some u=>!(Nat.beq t u)|none=>true)&&(!(AeA lj t)||((G7 M j).testBit i||(G7 M i).testBit j))
  |none=>true) &&
 (match dj with
  |some t=>!(AeA li t)||((G7 M j).testBit i||(G7 M i).testBit j)
  |none=>true)
def PE (ops:List Oper)(M:List Nat)(i:Nat)(di:Option Tmp)(li:List Tmp):List Oper->Nat->Bool
 |[],_=>true
 |o::r,j=>U2 M i j di o.dst li (looks ops o)&&PE ops M i di li r (j+1)
def PR (ops:List Oper)(M:List Nat):List Oper->Nat->Bool
 |[],_=>true
 |o::r,i=>PE ops M i o.dst (looks ops o) r (i+1)&&PR ops M r (i+1)
theorem Rz {ops:List Oper}{M:List Nat}{i:Nat}{di:Option Tmp}{li:List Tmp}:∀{r:List Oper} {j k:Nat} {o:Oper},PE ops M i di li r j=true->r[k]?=some o->U2 M i (j+k) di o.dst li (looks ops o)=true
 |[],j,k,o,h,hk=>by simp at hk
 |o'::r,j,k,o,h,hk=>by
  simp only[PE,Bool.and_eq_true]at h;cases k with
  |zero=>simp only[List.getElem?_cons_zero,Option.some.injEq]at hk;subst hk;exact h.1
  |succ k=>
   simp only[List.getElem?_cons_succ]at hk;have:=Rz h.2 hk
   rwa [show j+1+k=j+(k+1)from by omega]at this
theorem Pf {ops:List Oper}{M:List Nat}:∀{r:List Oper} {n i j:Nat} {oi oj:Oper},PR ops M r n=true->r[i]?=some oi->r[j]?=some oj->i<j->U2 M (n+i) (n+j) oi.dst oj.dst (looks ops oi) (looks ops oj)=true
 |[],n,i,j,oi,oj,h,hi,hj,hlt=>by simp at hi
 |o::r,n,i,j,oi,oj,h,hi,hj,hlt=>by
  simp only[PR,Bool.and_eq_true]at h;cases j with
  |zero=>omega
  |succ j=>
   simp only[List.getElem?_cons_succ]at hj;cases i with
   |zero=>
    simp only[List.getElem?_cons_zero,Option.some.injEq]at hi;subst hi;have:=Rz h.1 hj
    rwa [show n+1+j=n+(j+1)from by omega]at this
   |succ i=>
    simp only[List.getElem?_cons_succ]at hi;have:=Pf h.2 hi hj (by omega)
    rwa [show n+1+i=n+(i+1)from by omega,show n+1+j=n+(j+1)from by omega]at this
theorem ordered {M:List Nat}(h:PR ops M ops 0=true){i j:Nat}{oi oj:Oper}(hi:ops[i]?=some oi)(hj:ops[j]?=some oj)(hne:i≠j){t:Tmp}(ht:oi.dst=some t):
  oj.dst≠some t/\(t∈looks ops oj->(G7 M j).testBit i=true\/(G7 M i).testBit j=true):=by
 rcases Nat.lt_or_gt_of_ne hne with hlt|hlt
 ·have:=Pf h hi hj hlt;simp only[Nat.zero_add,U2,ht,Bool.and_eq_true]at this;obtain⟨⟨h1,h2⟩,_⟩:=this;refine⟨λhd=>?_,λhm=>?_⟩
  ·simp[hd]at h1
  ·simp only[Y7 hm,Bool.not_true,Bool.false_or,Bool.or_eq_true]at h2;exact h2
 ·have:=Pf h hj hi hlt;simp only[Nat.zero_add,U2,ht,Bool.and_eq_true]at this;obtain⟨h1,h2⟩:=this;refine⟨λhd=>?_,λhm=>?_⟩
  ·simp[hd]at h1
  ·simp only[Y7 hm,Bool.not_true,Bool.false_or,Bool.or_eq_true]at h2;exact h2.symm
def EI (ops:List Oper):Bool:=Kp ops 0 ops&&PR ops (Cz ops) ops 0
open Go
def Li (listed:Array Bool)(i:Nat):Prop:=listed.getD i false=true
structure AeJ (P:Program)(ops:List Oper)(w:World)(x:Rd):Prop where
 want:∀a:Act,(∀t,JI ops x.o=some t->∀v,x.e.get t=some v->a.tmps[t]?=some v)->Region.wanted x.o (yielded ops.toArray a.tmps)=x.ex
 sel:x.ex=true->Ug x.o.op=true
 known:x.ex=true->Ot x.e (tmpsOf (Qn x.o.op))=true
 read:x.ex=true->Jg P x.o=true->(execOp (V7 x.e) x.o).run P w=.ok (.value x.v) w
 pure:x.ex=true->Jg P x.o=false->∀w',(execOp (V7 x.e) x.o).run P w'=.ok (.value x.v) w'
 skip:x.ex=false->x.v=undef
structure Ou (ds:List Deferred)(P:Program)(ops:List Oper)(listed:Array Bool)(a:Act)(w:World)(tr:List Rd)(done:Nat)(qs:List Rd)(e:Env):Prop where
 defers:a.defers=ds
 size:e.length<=a.tmps.size
 Acn:∀x∈tr,x.e.length<=a.tmps.size
 dn:∀i,done.testBit i=true↔∃x∈tr,x.i=i
 at_:∀x∈tr,ops[x.i]?=some x.o
 sub:∀i,Li listed i->done.testBit i=true
 closed:AdP ops (Li listed)
 hv:∀x∈tr,DK P x.o=true->Li listed x.i
 msk:∀x∈tr,∀k,(G7 (Cz ops) x.i).testBit k=true->done.testBit k=true
 Aeb:∀x∈tr,¬Li listed x.i->AeJ P ops w x
 opd:∀x∈tr,¬Li listed x.i->∀t∈looks ops x.o,∀u,x.e.get t=some u ->
  a.tmps[t]?=some u\/∃y∈tr,¬Li listed y.i/\y.o.dst=some t/\(G7 (Cz ops) x.i).testBit y.i=true/\y.v=u
 fin:∀t u,e.get t=some u->a.tmps[t]?=some u\/∃y∈tr,¬Li listed y.i/\y.o.dst=some t/\y.v=u
 AgA:∀x∈tr,∀y∈tr,(G7 (Cz ops) x.i).testBit y.i=true->∀t,y.o.dst=some t->∀u,x.e.get t=some u->u=y.v
 cur:∀y∈tr,∀t,y.o.dst=some t->∀u,e.get t=some u->u=y.v
 qsr:∀x∈tr,¬Li listed x.i->x.ex=true->Jg P x.o=true->x∈qs
theorem testBit_add {d i k:Nat}:(d ||| 2 ^ i).testBit k=true↔d.testBit k=true\/k=i:=by
 rw[Nat.testBit_or,Bool.or_eq_true,Nat.testBit_two_pow,decide_eq_true_eq];exact or_congr Iff.rfl eq_comm
variable {listed:Array Bool}{tr qs:List Rd}{done:Nat}
theorem Ou.quiet {a:Act}{e:Env}(h:Ou ds P ops listed a w tr done qs e)(hok:EI ops=true){i:Nat}{o:Oper}(ho:ops[i]?=some o)(hd:done.testBit i=false)(hq:DK P o=false)(hm:EC (G7 (Cz ops) i) done=true){v:Value}{ex:Bool}(hp:AeJ P ops w ⟨i,o,e,v,ex⟩){qs':List Rd}(hqs:∀x∈qs,x∈qs')(hqn:ex=true->Jg P o=true->(⟨i,o,e,v,ex⟩:Rd)∈qs'):
  Ou ds P ops listed a w (⟨i,o,e,v,ex⟩::tr) (done ||| 2 ^ i) qs' (e.put o.dst v):=by
 simp only[EI,Bool.and_eq_true]at hok;have hnl:¬Li listed i:=λhl=>by rw[h.sub i hl]at hd;cases hd
 have hni:∀x∈tr,x.i≠i:=λx hx he=>by rw[(h.dn i).2 ⟨x,hx,he⟩]at hd;cases hd
 have hlen:(e.put o.dst v).length=e.length:=by cases hod:o.dst<;>simp[Env.put,Env.length_set]
 have hget:∀t u,(e.put o.dst v).get t=some u->(o.dst=some t/\u=v)\/(o.dst≠some t/\e.get t=some u):=by
  intro t u hu;cases hod:o.dst with
  |none=>exact .inr ⟨by simp,by simpa[Env.put,hod]using hu⟩
  |some d=>
   simp only[Env.put,hod]at hu;rcases Env.G9 hu with⟨rfl,hh⟩|⟨hne,hh⟩
   ·exact .inl ⟨rfl,by simpa using hh.symm⟩
   ·exact .inr ⟨by simpa using hne,hh⟩
 constructor
 ·exact h.defers
 ·rw[hlen];exact h.size
 ·intro x hx;rcases List.mem_cons.1 hx with rfl|hx
  ·exact h.size
  ·exact h.Acn x hx
 ·intro k;rw[testBit_add,h.dn k];constructor
  ·rintro(⟨x,hx,rfl⟩|rfl)
   ·exact⟨x,List.mem_cons_of_mem _ hx,rfl⟩
   ·exact⟨_,List.mem_cons_self,rfl⟩
  ·rintro⟨x,hx,rfl⟩;rcases List.mem_cons.1 hx with rfl|hx
   ·exact .inr rfl
   ·exact .inl ⟨x,hx,rfl⟩
 ·intro x hx;rcases List.mem_cons.1 hx with rfl|hx
  ·exact ho
  ·exact h.at_ x hx
 ·intro k hk;exact testBit_add.2 (.inl (h.sub k hk))
 ·exact h.closed
 ·intro x hx hxh;rcases List.mem_cons.1 hx with rfl|hx
  ·simp only at hxh;rw[hq]at hxh;cases hxh
  ·exact h.hv x hx hxh
 ·intro x hx k hk;rcases List.mem_cons.1 hx with rfl|hx
  ·exact testBit_add.2 (.inl (Sj hm hk))
  ·exact testBit_add.2 (.inl (h.msk x hx k hk))
 ·intro x hx hxl;rcases List.mem_cons.1 hx with rfl|hx
  ·exact hp
  ·exact h.Aeb x hx hxl
 ·intro x hx hxl t ht u hu;rcases List.mem_cons.1 hx with rfl|hx
  ·simp only at ht hu ⊢;rcases h.fin t u hu with hh|⟨y,hy,hyl,hyd,hyv⟩
   ·exact .inl hh
   ·refine .inr ⟨y,List.mem_cons_of_mem _ hy,hyl,hyd,?_,hyv⟩;rcases(ordered hok.2 (h.at_ y hy) ho (hni y hy) hyd).2 ht with hh|hh
    ·exact hh
    ·have:=h.msk y hy i hh;rw[hd]at this;cases this
  ·rcases h.opd x hx hxl t ht u hu with hh|⟨y,hy,hr⟩
   ·exact .inl hh
   ·exact .inr ⟨y,List.mem_cons_of_mem _ hy,hr⟩
 ·intro t u hu;rcases hget t u hu with⟨hod,rfl⟩|⟨hne,hu⟩
  ·exact .inr ⟨_,List.mem_cons_self,hnl,hod,rfl⟩
  ·rcases h.fin t u hu with hh|⟨y,hy,hr⟩
   ·exact .inl hh
   ·exact .inr ⟨y,List.mem_cons_of_mem _ hy,hr⟩
 ·intro x hx y hy hxy t hyd u hu;rcases List.mem_cons.1 hx with rfl|hx
  ·simp only at hxy hu;rcases List.mem_cons.1 hy with rfl|hy
   ·have:=Sj hm hxy;rw[hd]at this;cases this
   ·exact h.cur y hy t hyd u hu
  ·rcases List.mem_cons.1 hy with rfl|hy
   ·have:=h.msk x hx _ hxy;rw[hd]at this;cases this
   ·exact h.AgA x hx y hy hxy t hyd u hu
 ·intro y hy t hyd u hu;rcases List.mem_cons.1 hy with rfl|hy'
  ·simp only at hyd ⊢;rcases hget t u hu with⟨_,hv⟩|⟨hne,_⟩
   ·exact hv
   ·exact absurd hyd hne
  ·rcases hget t u hu with⟨hod,_⟩|⟨hne,hu⟩
   ·exact absurd hod (ordered hok.2 (h.at_ y hy') ho (hni y hy') hyd).1
   ·exact h.cur y hy' t hyd u hu
 ·intro x hx hxl hxe hxr;rcases List.mem_cons.1 hx with rfl|hx
  ·exact hqn hxe hxr
  ·exact hqs x (h.qsr x hx hxl hxe hxr)
theorem MV {P:Program}{M:List Nat}{done:Nat}:∀{r:List Oper} {n i:Nat} {o:Oper},DH P M done r n=some (i,o) ->
  n<=i/\r[i-n]?=some o/\done.testBit i=false/\DK P o=false/\EC (G7 M i) done=true
 |[],n,i,o,h=>by simp[DH]at h
 |o'::r,n,i,o,h=>by
  simp only[DH]at h;split at h
  ·rename_i hc;simp only[Option.some.injEq,Prod.mk.injEq]at h;obtain⟨rfl,rfl⟩:=h;simp only[Bool.and_eq_true,Bool.not_eq_true']at hc;exact⟨Nat.le_refl _,by simp,hc.1,hc.2.1,hc.2.2⟩
  ·obtain⟨h1,h2,h3⟩:=MV h;refine⟨by omega,?_,h3⟩;rw[show i-n=(i-(n+1))+1 from by omega];simpa using h2
theorem M3 {P:Program}{M:List Nat}{done:Nat}:∀{r:List Oper} {n:Nat},DH P M done r n=none->∀k o,r[k]?=some o->done.testBit (n+k)=true\/DK P o=true\/EC (G7 M (n+k)) done=false
 |[],n,h,k,o,hk=>by simp at hk
 |o'::r,n,h,k,o,hk=>by
  simp only[DH]at h;split at h
  ·cases h
  ·rename_i hc;cases k with
   |zero=>
    simp only[List.getElem?_cons_zero,Option.some.injEq]at hk;subst hk;rw[Nat.add_zero];cases h1:done.testBit n<;>cases h2:DK P o'<;>cases h3:EC (G7 M n) done<;>simp[h1,h2,h3]at hc ⊢
   |succ k=>
    simp only[List.getElem?_cons_succ]at hk;have:=M3 h k o hk
    rwa [show n+1+k=n+(k+1)from by omega]at this
theorem RB {P:Program}{M:List Nat}{done:Nat}:∀{r:List Oper} {n k:Nat} {o:Oper},r[k]?=some o->done.testBit (n+k)=false->DK P o=true->EC (G7 M (n+k)) done=true->(n+k,o)∈DF P M done r n
 |[],n,k,o,hk,_,_,_=>by simp at hk
 |o'::r,n,k,o,hk,h1,h2,h3=>by
  cases k with
  |zero=>
   simp only[List.getElem?_cons_zero,Option.some.injEq]at hk;subst hk;simp only[Nat.add_zero]at h1 h3;simp[DF,h1,h2,h3]
  |succ k=>
   simp only[List.getElem?_cons_succ]at hk;have ih:=RB (P:=P) (M:=M) (done:=done) (r:=r) (n:=n+1) (k:=k) hk (by rwa [show n+1+k=n+(k+1)from by omega]) h2 (by rwa [show n+1+k=n+(k+1)from by omega]);rw[show n+1+k=n+(k+1)from by omega]at ih;simp only[DF];split
   ·exact List.mem_cons_of_mem _ ih
   ·exact ih
def Rest (P:Program)(ops:List Oper)(K:Env->Pr)(n done:Nat)(qs:List Rd)(e:Env)(w:World):Prop:=
 (Nat.beq done (full ops.length)=true/\K e w) \/
 AdG ((DF P (Cz ops) done ops 0).map λ(i,o)=>QR P ops (Cz ops) i o e qs (λe=>LB P ops (Cz ops) K n (done ||| 2 ^ i) qs e)) w
theorem advance {K:Env->Pr}{a:Act}(hok:EI ops=true):∀(n:Nat) {tr:List Rd} {done:Nat} {qs:List Rd} {e:Env},
  LB P ops (Cz ops) K n done qs e w->Ou ds P ops listed a w tr done qs e ->
  ∃n' tr' done' qs' e',Ou ds P ops listed a w tr' done' qs' e'/\DH P (Cz ops) done' ops 0=none/\Rest P ops K n' done' qs' e' w:=by
 intro n;induction n with
 |zero=>intro tr done qs e h _;exact h.elim
 |succ n ih=>
  intro tr done qs e h hi;simp only[LB]at h;cases hn:DH P (Cz ops) done ops 0 with
  |none=>
   rw[hn]at h;refine⟨n,tr,done,qs,e,hi,hn,?_⟩;simp only at h;cases hb:Nat.beq done (full ops.length)with
   |true=>rw[hb]at h;exact .inl ⟨hb,h⟩
   |false=>rw[hb]at h;exact .inr h
  |some p=>
   obtain⟨i,o⟩:=p;rw[hn]at h;simp only at h;obtain⟨_,ho,hd,hq,hm⟩:=MV hn;rw[Nat.sub_zero]at ho;obtain⟨b,hb,hw⟩:=QY h;cases b with
   |false=>
    simp only[Bool.false_eq_true,if_false]at hb;exact ih hb (hi.quiet hok ho hd hq hm (v:=undef) (ex:=false) ⟨hw,by simp,by simp,by simp,by simp,λ_=>rfl⟩ (λx hx=>hx) (by simp))
   |true=>
    simp only[if_true]at hb;split at hb
    ·rename_i hk;simp only[Bool.and_eq_true]at hk;cases hr:Jg P o with
     |true=>
      simp only[hr]at hb;have hc:cls P o=.read:=by
       simp only[Jg]at hr;split at hr
       ·assumption
       ·cases hr
      simp only[opD,hc]at hb;obtain⟨v,hv,hb⟩:=Mt hb
      exact ih hb (hi.quiet hok ho hd hq hm (v:=v) (ex:=true) ⟨hw,λ_=>hk.1,λ_=>hk.2,λ_ _=>hv,(λ_ hh=>by rw[hr]at hh;cases hh),by simp⟩
       (λx hx=>List.mem_cons_of_mem _ hx) (λ_ _=>List.mem_cons_self))
     |false=>
      simp only[hr]at hb;have hc:cls P o=.pure:=by
       cases hcc:cls P o with
       |pure=>rfl
       |read=>simp[Jg,hcc]at hr
       |NL=>simp[DK,hcc]at hq
      simp only[opD,hc]at hb;obtain⟨v,hv,hb⟩:=Sr hb
      exact ih hb (hi.quiet hok ho hd hq hm (v:=v) (ex:=true) ⟨hw,λ_=>hk.1,λ_=>hk.2,(λ_ hh=>by rw[hr]at hh;cases hh),λ_ _=>hv,by simp⟩
       (λx hx=>hx) (λ_ hh=>by rw[hr]at hh;cases hh))
    ·exact hb.elim
theorem O7 {P:Program}{m:Nat}{K:Pr}{w:World}:∀{qs:List Rd},again P m qs K w->K w/\∀q∈qs,m.testBit q.i=false->(execOp (V7 q.e) q.o).run P w=.ok (.value q.v) w
 |[],h=>⟨h,λq hq=>by simp at hq⟩
 |q::r,h=>by
  simp only[again]at h;cases hm:m.testBit q.i with
  |true=>
   rw[hm]at h;obtain⟨h1,h2⟩:=O7 h;refine⟨h1,λp hp hpm=>?_⟩;rcases List.mem_cons.1 hp with rfl|hp
   ·rw[hm]at hpm;cases hpm
   ·exact h2 p hp hpm
  |false=>
   rw[hm]at h;obtain⟨h0,h⟩:=h;obtain⟨h1,h2⟩:=O7 h;obtain⟨v,hv,he⟩:=Mt h0;refine⟨h1,λp hp hpm=>?_⟩;rcases List.mem_cons.1 hp with rfl|hp
   ·rw[hv,he]
   ·exact h2 p hp hpm
theorem Afa {i k:Nat}(hi:i<listed.size):Li (listed.setIfInBounds i true) k↔Li listed k\/k=i:=by
 unfold Li;by_cases h:i=k
 ·subst h;simp[hi]
 ·rw[getD_set_ne false h];simp[Ne.symm h]
open Go
theorem MG (a:Act)(d:Option Tmp)(v:Value):(a.put d v).tmps.size=a.tmps.size:=by
 cases d<;>simp[Act.put]
theorem RC (a:Act)(d:Option Tmp)(v:Value):(a.put d v).defers=a.defers:=by
 cases d<;>rfl
theorem TO (a:Act){d:Option Tmp}(v:Value){t:Tmp}(h:d≠some t):(a.put d v).tmps[t]?=a.tmps[t]?:=by
 cases d with
 |none=>rfl
 |some d=>
  simp only[Act.put];exact Array.getElem?_setIfInBounds_ne (λhe=>h (by rw[he]))
theorem put_eq (a:Act){d:Option Tmp}(v:Value){t:Tmp}(h:d=some t)(hl:t<a.tmps.size):(a.put d v).tmps[t]?=some v:=by
 subst h;simp only[Act.put];rw[Array.getElem?_setIfInBounds_self,if_pos hl]
theorem Ou.DD {a:Act}{e:Env}(h:Ou ds P ops listed a w tr done qs e)(hok:EI ops=true){i:Nat}{o:Oper}(ho:ops[i]?=some o)(hr:∀e∈o.after.toList,Region.binds .any e=true->Li listed e.on){k:Nat}(hk:(G7 (Cz ops) i).testBit k=true):Li listed k:=by
 simp only[EI,Bool.and_eq_true]at hok;exact YJ h.closed hok.1 i o ho hr k hk
theorem Ou.AjC {a:Act}{e:Env}(h:Ou ds P ops listed a w tr done qs e)(hok:EI ops=true){x:Rd}(hx:x∈tr)(hxl:¬Li listed x.i)(hs:x.i<listed.size)(hr:∀e∈x.o.after.toList,Region.binds .any e=true->Li listed e.on):
  Ou ds P ops (listed.setIfInBounds x.i true) (a.put x.o.dst x.v) w tr done qs e:=by
 have hok2:=hok;simp only[EI,Bool.and_eq_true]at hok2;have hL:∀k,Li (listed.setIfInBounds x.i true) k↔Li listed k\/k=x.i:=λk=>Afa hs;have hne:∀y∈tr,x.o.dst≠y.o.dst\/y.i≠x.i\/y.o=x.o:=λy hy=>by
  by_cases hi:y.i=x.i
  ·have h1:=h.at_ y hy;rw[hi,h.at_ x hx,Option.some.injEq]at h1;exact .inr (.inr h1.symm)
  ·exact .inr (.inl hi)
 constructor
 ·rw[RC];exact h.defers
 ·rw[MG];exact h.size
 ·intro y hy;rw[MG];exact h.Acn y hy
 ·exact h.dn
 ·exact h.at_
 ·intro k hk;rcases(hL k).1 hk with hk|rfl
  ·exact h.sub k hk
  ·exact(h.dn _).2 ⟨x,hx,rfl⟩
 ·intro j o hj ho e' he hb;rw[hL];rcases(hL j).1 hj with hj|rfl
  ·exact .inl (h.closed j o hj ho e' he hb)
  ·rw[h.at_ x hx,Option.some.injEq]at ho;subst ho;exact .inl (hr e' he hb)
 ·intro y hy hyh;exact(hL _).2 (.inl (h.hv y hy hyh))
 ·exact h.msk
 ·intro y hy hyl;exact h.Aeb y hy (λhh=>hyl ((hL _).2 (.inl hh)))
 ·intro y hy hyl t ht u hu;have hyl':¬Li listed y.i:=λhh=>hyl ((hL _).2 (.inl hh));have hyi:x.i≠y.i:=λhh=>hyl ((hL _).2 (.inr hh.symm));by_cases hd:x.o.dst=some t
  ·have hlt:t<a.tmps.size:=Nat.lt_of_lt_of_le (Env.U5 hu) (h.Acn y hy);rw[put_eq a x.v hd hlt];rcases(ordered hok2.2 (h.at_ x hx) (h.at_ y hy) hyi hd).2 ht with hh|hh
   ·rw[h.AgA y hy x hx hh t hd u hu];exact .inl rfl
   ·exact absurd (h.DD hok (h.at_ x hx) hr hh) hyl'
  ·rw[TO a x.v hd];rcases h.opd y hy hyl' t ht u hu with hh|⟨z,hz,hzl,hzd,hzm,hzv⟩
   ·exact .inl hh
   ·refine .inr ⟨z,hz,λhh=>?_,hzd,hzm,hzv⟩;rcases(hL _).1 hh with hh|hh
    ·exact hzl hh
    ·have h1:=h.at_ z hz;rw[hh,h.at_ x hx,Option.some.injEq]at h1;rw[h1]at hd;exact hd hzd
 ·intro t u hu;by_cases hd:x.o.dst=some t
  ·have hlt:t<a.tmps.size:=Nat.lt_of_lt_of_le (Env.U5 hu) h.size;rw[put_eq a x.v hd hlt,h.cur x hx t hd u hu];exact .inl rfl
  ·rw[TO a x.v hd];rcases h.fin t u hu with hh|⟨z,hz,hzl,hzd,hzv⟩
   ·exact .inl hh
   ·refine .inr ⟨z,hz,λhh=>?_,hzd,hzv⟩;rcases(hL _).1 hh with hh|hh
    ·exact hzl hh
    ·have h1:=h.at_ z hz;rw[hh,h.at_ x hx,Option.some.injEq]at h1;rw[h1]at hd;exact hd hzd
 ·exact h.AgA
 ·exact h.cur
 ·intro y hy hyl;exact h.qsr y hy (λhh=>hyl ((hL _).2 (.inl hh)))
theorem Ou.NL {a:Act}{e:Env}(h:Ou ds P ops listed a w tr done qs e)(hok:EI ops=true){i:Nat}{o:Oper}(ho:ops[i]?=some o)(hs:i<listed.size)(hd:done.testBit i=false)(hr:∀e∈o.after.toList,Region.binds .any e=true->Li listed e.on){v:Value}{ex:Bool}(hrd:∀x∈tr,¬Li listed x.i->x.ex=true->Jg P x.o=true->(execOp (V7 x.e) x.o).run P w'=.ok (.value x.v) w'):
  Ou ds P ops (listed.setIfInBounds i true) (a.put o.dst v) w' (⟨i,o,e,v,ex⟩::tr) (done ||| 2 ^ i) qs (e.put o.dst v):=by
 have hok2:=hok;simp only[EI,Bool.and_eq_true]at hok2;have hL:∀k,Li (listed.setIfInBounds i true) k↔Li listed k\/k=i:=λk=>Afa hs;have hni:∀x∈tr,x.i≠i:=λx hx he=>by rw[(h.dn i).2 ⟨x,hx,he⟩]at hd;cases hd
 have hlen:(e.put o.dst v).length=e.length:=by cases hod:o.dst<;>simp[Env.put,Env.length_set]
 have hget:∀t u,(e.put o.dst v).get t=some u->(o.dst=some t/\u=v)\/(o.dst≠some t/\e.get t=some u):=by
  intro t u hu;cases hod:o.dst with
  |none=>exact .inr ⟨by simp,by simpa[Env.put,hod]using hu⟩
  |some d=>
   simp only[Env.put,hod]at hu;rcases Env.G9 hu with⟨rfl,hh⟩|⟨hne,hh⟩
   ·exact .inl ⟨rfl,by simpa using hh.symm⟩
   ·exact .inr ⟨by simpa using hne,hh⟩
 have hmd:∀k,(G7 (Cz ops) i).testBit k=true->done.testBit k=true:=λk hk=>h.sub k (h.DD hok ho hr hk);constructor
 ·rw[RC];exact h.defers
 ·rw[MG,hlen];exact h.size
 ·intro x hx;rw[MG];rcases List.mem_cons.1 hx with rfl|hx
  ·exact h.size
  ·exact h.Acn x hx
 ·intro k;rw[testBit_add,h.dn k];constructor
  ·rintro(⟨x,hx,rfl⟩|rfl)
   ·exact⟨x,List.mem_cons_of_mem _ hx,rfl⟩
   ·exact⟨_,List.mem_cons_self,rfl⟩
  ·rintro⟨x,hx,rfl⟩;rcases List.mem_cons.1 hx with rfl|hx
   ·exact .inr rfl
   ·exact .inl ⟨x,hx,rfl⟩
 ·intro x hx;rcases List.mem_cons.1 hx with rfl|hx
  ·exact ho
  ·exact h.at_ x hx
 ·intro k hk;rcases(hL k).1 hk with hk|rfl
  ·exact testBit_add.2 (.inl (h.sub k hk))
  ·exact testBit_add.2 (.inr rfl)
 ·intro j oj hj hoj e' he hb;rw[hL];rcases(hL j).1 hj with hj|rfl
  ·exact .inl (h.closed j oj hj hoj e' he hb)
  ·rw[ho,Option.some.injEq]at hoj;subst hoj;exact .inl (hr e' he hb)
 ·intro x hx hxh;rw[hL];rcases List.mem_cons.1 hx with rfl|hx
  ·exact .inr rfl
  ·exact .inl (h.hv x hx hxh)
 ·intro x hx k hk;rcases List.mem_cons.1 hx with rfl|hx
  ·exact testBit_add.2 (.inl (hmd k hk))
  ·exact testBit_add.2 (.inl (h.msk x hx k hk))
 ·intro x hx hxl;rcases List.mem_cons.1 hx with rfl|hx
  ·exact absurd ((hL _).2 (.inr rfl)) hxl
  ·have hxl':¬Li listed x.i:=λhh=>hxl ((hL _).2 (.inl hh));have hp:=h.Aeb x hx hxl';exact⟨hp.want,hp.sel,hp.known,hrd x hx hxl',hp.pure,hp.skip⟩
 ·intro x hx hxl t ht u hu;rcases List.mem_cons.1 hx with rfl|hx
  ·exact absurd ((hL _).2 (.inr rfl)) hxl
  ·have hxl':¬Li listed x.i:=λhh=>hxl ((hL _).2 (.inl hh));have hdt:o.dst≠some t:=λhdt=>by
    rcases(ordered hok2.2 ho (h.at_ x hx) (Ne.symm (hni x hx)) hdt).2 ht with hh|hh
    ·have:=h.msk x hx _ hh;rw[hd]at this;cases this
    ·exact hxl' (h.DD hok ho hr hh)
   rw[TO a v hdt];rcases h.opd x hx hxl' t ht u hu with hh|⟨z,hz,hzl,hzr⟩
   ·exact .inl hh
   ·refine .inr ⟨z,List.mem_cons_of_mem _ hz,λhh=>?_,hzr⟩;rcases(hL _).1 hh with hh|hh
    ·exact hzl hh
    ·exact hni z hz hh
 ·intro t u hu;rcases hget t u hu with⟨hod,rfl⟩|⟨hne,hu'⟩
  ·have hlt:t<a.tmps.size:=Nat.lt_of_lt_of_le (Env.U5 hu) (by rw[hlen];exact h.size);exact .inl (put_eq a _ hod hlt)
  ·rw[TO a v hne];rcases h.fin t u hu' with hh|⟨z,hz,hzl,hzr⟩
   ·exact .inl hh
   ·refine .inr ⟨z,List.mem_cons_of_mem _ hz,λhh=>?_,hzr⟩;rcases(hL _).1 hh with hh|hh
    ·exact hzl hh
    ·exact hni z hz hh
 ·intro x hx y hy hxy t hyd u hu;rcases List.mem_cons.1 hx with rfl|hx
  ·simp only at hxy hu;rcases List.mem_cons.1 hy with rfl|hy
   ·have:=hmd _ hxy;rw[hd]at this;cases this
   ·exact h.cur y hy t hyd u hu
  ·rcases List.mem_cons.1 hy with rfl|hy
   ·have:=h.msk x hx _ hxy;rw[hd]at this;cases this
   ·exact h.AgA x hx y hy hxy t hyd u hu
 ·intro y hy t hyd u hu;rcases List.mem_cons.1 hy with rfl|hy'
  ·simp only at hyd ⊢;rcases hget t u hu with⟨_,hv⟩|⟨hne,_⟩
   ·exact hv
   ·exact absurd hyd hne
  ·rcases hget t u hu with⟨hod,_⟩|⟨hne,hu⟩
   ·exact absurd hod (ordered hok2.2 (h.at_ y hy') ho (hni y hy') hyd).1
   ·exact h.cur y hy' t hyd u hu
 ·intro x hx hxl hxe hxr;rcases List.mem_cons.1 hx with rfl|hx
  ·exact absurd ((hL _).2 (.inr rfl)) hxl
  ·exact h.qsr x hx (λhh=>hxl ((hL _).2 (.inl hh))) hxe hxr
theorem U9 {m d:Nat}(h:∀k,m.testBit k=true->d.testBit k=true):EC m d=true:=by
 unfold EC;have:m &&& d=m:=by
  apply Nat.eq_of_testBit_eq;intro k;rw[Nat.testBit_and];cases hk:m.testBit k with
  |false=>rfl
  |true=>rw[h k hk];rfl
 rw[this];exact Nat.beq_refl m
theorem count_set {l:Array Bool}{i:Nat}(h:l.getD i true=false):(l.setIfInBounds i true).toList.count false+1=l.toList.count false:=by
 have hi:i<l.size:=by
  rcases Nat.lt_or_ge i l.size with h'|h'
  ·exact h'
  ·simp[Array.getElem?_eq_none h']at h
 have hv:l[i]=false:=by simpa[hi]using h
 have hv':l.toList[i]'(by simpa using hi)=false:=by simpa using hv
 rw[Array.toList_setIfInBounds,List.count_set (by simpa using hi)];have hpos:0<l.toList.count false:=List.count_pos_iff.2 (by rw[<-hv'];exact List.getElem_mem _);rw[hv'];simp only[beq_self_eq_true,if_true,show(true==false)=false from rfl,Bool.false_eq_true,if_false];omega
theorem QM {o:Oper}(h:DK P o=false):∀c,o.op≠.defer c:=by
 intro c hc;simp[DK,cls,hc]at h
theorem AdH {K:Env->Pr}(hok:EI ops=true)(hQ:∀e' a' w',K e' w'->BF ds e' a'->Q .normal a' w'):
  ∀(fuel:Nat) {listed:Array Bool} {a:Act} {w:World} {tr:List Rd} {done n:Nat} {qs:List Rd} {e:Env},LB P ops (Cz ops) K n done qs e w->Ou ds P ops listed a w tr done qs e->listed.size=ops.length ->
   listed.toList.count false<=fuel->wpAnyIn (WF r) 0 P .any ops.toArray Q fuel listed a w:=by
 intro fuel
 have fin:∀{listed:Array Bool} {a:Act} {w:World} {tr:List Rd} {done n:Nat} {qs:List Rd} {e:Env},LB P ops (Cz ops) K n done qs e w->Ou ds P ops listed a w tr done qs e->listed.size=ops.length ->
   Region.ready .any ops.toArray listed=[]->Q .normal a w:=by
  intro listed a w tr done n qs e h hi hs hr;obtain⟨n',tr',done',qs',e',hi',hn,hR⟩:=advance hok n h hi;have hall:∀j,j<ops.length->Li listed j:=by
   intro j;induction j using Nat.strongRecOn with
   |_ j ih=>
    intro hj;have hok2:=hok;simp only[EI,Bool.and_eq_true]at hok2;cases hl:listed.getD j true with
    |true=>
     unfold Li;have:j<listed.size:=by omega
     simp[this]at hl ⊢;exact hl
    |false=>
     have hm:j∈Region.ready .any ops.toArray listed:=by
      rw[mem_ready];refine⟨hl,ops[j],by simp[hj],λe he hb=>?_⟩;have hlt:=Ly hok2.1 (List.getElem?_eq_getElem hj) e (by simpa using he) hb;exact ih e.on (by omega) (by omega)
     rw[hr]at hm;cases hm
  have hdone:∀j,j<ops.length->done'.testBit j=true:=λj hj=>hi'.sub j (hall j hj);have hK:K e' w:=by
   rcases hR with⟨_,hK⟩|hR
   ·exact hK
   ·have:DF P (Cz ops) done' ops 0=[]:=by
     have key:∀(r:List Oper) (m:Nat),(∀k,k<r.length->done'.testBit (m+k)=true)->DF P (Cz ops) done' r m=[]:=by
      intro r;induction r with
      |nil=>intro m _;rfl
      |cons o r ih=>
       intro m hm;have h0:=hm 0 (by simp);rw[Nat.add_zero]at h0;simp only[DF,h0];exact ih (m+1) (λk hk=>by have:=hm (k+1) (by simp;omega);rwa [show m+1+k=m+(k+1)from by omega])
     exact key ops 0 (λk hk=>by rw[Nat.zero_add];exact hdone k hk)
    rw[this]at hR;exact hR.elim
  refine hQ e' a w hK ⟨hi'.size,hi'.defers,λt v hv=>?_⟩;rcases hi'.fin t v hv with hh|⟨y,hy,hyl,_⟩
  ·exact hh
  ·have:=List.getElem?_eq_some_iff.1 (hi'.at_ y hy);exact absurd (hall y.i this.1) hyl
 induction fuel with
 |zero=>
  intro listed a w tr done n qs e h hi hs hc;have hr:Region.ready .any ops.toArray listed=[]:=by
   rw[List.eq_nil_iff_forall_not_mem];intro j hj;rw[mem_ready]at hj;have:=count_set hj.1;omega
  exact⟨hr,fin h hi hs hr⟩
 |succ fuel ih=>
  intro listed a w tr done n qs e h hi hs hc;refine⟨fin h hi hs,λi hir=>?_⟩;rw[mem_ready]at hir;obtain⟨hl,o,ho,hr⟩:=hir;have ho':ops[i]?=some o:=by simpa using ho
  have hlt:i<listed.size:=by
   have:=(List.getElem?_eq_some_iff.1 ho').1;omega
  have hnl:¬Li listed i:=by
   unfold Li;simp[hlt]at hl ⊢;exact hl
  have hr':∀e∈o.after.toList,Region.binds .any e=true->Li listed e.on:=λe he hb=>hr e (by simpa using he) hb;have hcs:=count_set hl;have hsz:(listed.setIfInBounds i true).size=ops.length:=by simp[hs]
  obtain⟨n',tr',done',qs',e',hi',hn,hR⟩:=advance hok n h hi;unfold wpOpIn;rw[ho];simp only;cases hd:done'.testBit i with
  |true=>
   obtain⟨x,hx,rfl⟩:=(hi'.dn i).1 hd;have hxo:=hi'.at_ x hx;rw[ho',Option.some.injEq]at hxo;subst hxo;have hp:=hi'.Aeb x hx hnl;have hlook:∀t∈looks ops x.o,∀u,x.e.get t=some u->a.tmps[t]?=some u:=by
    intro t ht u hu;rcases hi'.opd x hx hnl t ht u hu with hh|⟨y,hy,hyl,hyd,hym,hyv⟩
    ·exact hh
    ·exact absurd (hi'.DD hok ho' hr' hym) hyl
   have hw:Region.wanted x.o (yielded ops.toArray a.tmps)=x.ex:=hp.want a λt ht v hv=>hlook t (by simp[looks,ht]) v hv;rw[hw];have hnext:wpAnyIn (WF r) 0 P .any ops.toArray Q fuel (listed.setIfInBounds x.i true) (a.put x.o.dst x.v) w:=by
    have hi'':=hi'.AjC hok hx hnl hlt hr';have hD:LB P ops (Cz ops) K (n'+1) done' qs' e' w:=by
     simp only[LB,hn];rcases hR with⟨hb,hK⟩|hR
     ·rw[hb];exact hK
     ·cases hb:Nat.beq done' (full ops.length)with
      |false=>exact hR
      |true=>
       have hempty:DF P (Cz ops) done' ops 0=[]:=by
        have heq:=Nat.eq_of_beq_eq_true hb;have key:∀(r:List Oper) (m:Nat),(∀k,k<r.length->done'.testBit (m+k)=true)->DF P (Cz ops) done' r m=[]:=by
         intro r;induction r with
         |nil=>intro m _;rfl
         |cons o r ih=>
          intro m hm;have h0:=hm 0 (by simp);rw[Nat.add_zero]at h0;simp only[DF,h0];exact ih (m+1) (λk hk=>by have:=hm (k+1) (by simp;omega);rwa [show m+1+k=m+(k+1)from by omega])
        exact key ops 0 (λk hk=>by rw[heq,full,Nat.testBit_two_pow_sub_one];simp;omega)
       rw[hempty]at hR;exact hR.elim
    exact ih hD hi'' hsz (by omega)
   cases hex:x.ex with
   |false=>
    rw[hp.skip hex]at hnext;exact⟨λ_ _=>trivial,hnext⟩
   |true=>
    simp only[if_true];have he:execOp (V7 x.e) x.o=execOp a.eval x.o:=Le (hp.sel hex) λt ht=>by
     obtain⟨v,hv⟩:=Lv (hp.known hex) t ht;refine⟨v,hv,hlook t ?_ v hv⟩;unfold looks;split
     ·exact List.mem_cons_of_mem _ ht
     ·exact ht
    refine KE (QM (by cases hh:DK P x.o with|false=>rfl|true=>exact absurd (hi'.hv x hx hh) hnl)) ?_;rw[<-he];have hrun:(execOp (V7 x.e) x.o).run P w=.ok (.value x.v) w:=by
     cases hrd:Jg P x.o with
     |true=>exact hp.read hex hrd
     |false=>exact hp.pure hex hrd w
    rw[hrun];exact hnext
  |false=>
   have hheavy:DK P o=true:=by
    rcases M3 hn i o ho' with hh|hh|hh
    ·rw[Nat.zero_add,hd]at hh;cases hh
    ·exact hh
    ·rw[Nat.zero_add,U9 (λk hk=>hi'.sub k (hi'.DD hok ho' hr' hk))]at hh;cases hh
   have hsub:EC (G7 (Cz ops) i) done'=true:=U9 (λk hk=>hi'.sub k (hi'.DD hok ho' hr' hk));have hstep:QR P ops (Cz ops) i o e' qs' (λe=>LB P ops (Cz ops) K n' (done' ||| 2 ^ i) qs' e) w:=by
    rcases hR with⟨hb,_⟩|hR
    ·have heq:=Nat.eq_of_beq_eq_true hb;have hlen:=(List.getElem?_eq_some_iff.1 ho').1;rw[heq,full,Nat.testBit_two_pow_sub_one]at hd;simp at hd;omega
    ·have hm:=RB (P:=P) (M:=Cz ops) (done:=done') (r:=ops) (n:=0) (k:=i) ho' (by rw[Nat.zero_add];exact hd) hheavy (by rw[Nat.zero_add];exact hsub);rw[Nat.zero_add]at hm;exact YM hR _ (List.mem_map.2 ⟨(i,o),hm,rfl⟩)
   have hlook:∀t∈looks ops o,∀u,e'.get t=some u->a.tmps[t]?=some u:=by
    intro t ht u hu;rcases hi'.fin t u hu with hh|⟨y,hy,hyl,hyd,hyv⟩
    ·exact hh
    ·have hok2:=hok;simp only[EI,Bool.and_eq_true]at hok2;have hyi:y.i≠i:=λhh=>by rw[(hi'.dn i).2 ⟨y,hy,hh⟩]at hd;cases hd
     rcases(ordered hok2.2 (hi'.at_ y hy) ho' hyi hyd).2 ht with hh|hh
     ·exact absurd (hi'.DD hok ho' hr' hh) hyl
     ·have:=hi'.msk y hy _ hh;rw[hd]at this;cases this
   obtain⟨b,hb,hw⟩:=QY hstep;rw[hw a (λt ht v hv=>hlook t (by simp[looks,ht]) v hv)];cases b with
   |false=>
    simp only[Bool.false_eq_true,if_false]at hb ⊢;refine⟨λ_ _=>trivial,?_⟩;have hi'':=hi'.NL hok ho' hlt hd hr' (v:=undef) (ex:=false) (w':=w) (λx hx hxl hxe hxr=>(hi'.Aeb x hx hxl).read hxe hxr);exact ih hb hi'' hsz (by omega)
   |true=>
    simp only[if_true]at hb ⊢;split at hb
    ·rename_i hk;simp only[Bool.and_eq_true]at hk;have he:execOp (V7 e') o=execOp a.eval o:=Le hk.1 λt ht=>by
      obtain⟨v,hv⟩:=Lv hk.2 t ht;refine⟨v,hv,hlook t ?_ v hv⟩;unfold looks;split
      ·exact List.mem_cons_of_mem _ ht
      ·exact ht
     have hdoes:=W5 hb r a (wpAnyIn (WF r) 0 P .any ops.toArray Q fuel (listed.setIfInBounds i true)) Q (λv w' hv=>by
      obtain⟨hD,hag⟩:=O7 hv;have hi'':=hi'.NL hok ho' hlt hd hr' (v:=v) (ex:=true) (w':=w') (λx hx hxl hxe hxr=>by
       refine hag x (hi'.qsr x hx hxl hxe hxr) ?_;cases hb':(G7 (Cz ops) i).testBit x.i with
       |false=>rfl
       |true=>exact absurd (hi'.DD hok ho' hr' hb') hxl)
      exact ih hD hi'' hsz (by omega))
     refine KE (Ry hb) ?_;rw[<-he];exact hdoes
    ·exact hb.elim
open Go
def Abj:List Oper->List Tmp
 |[]=>[]
 |o::r=>match o.dst with
  |some t=>t::Abj r
  |none=>Abj r
def writes:Code->List Tmp
 |.region _ ops _=>Abj ops.toList
 |.seq a b=>writes a++writes b
 |.cond _ a b=>writes a++writes b
 |.block _ a=>writes a
 |.loop a=>writes a
 |.scope a=>writes a
 |_=>[]
def BL (W:List Tmp)(a a':Act):Prop:=a'.tmps.size=a.tmps.size/\∀t,t∉W->a'.tmps[t]?=a.tmps[t]?
theorem BL.refl (W:List Tmp)(a:Act):BL W a a:=⟨rfl,λ_ _=>rfl⟩
theorem BL.trans {W:List Tmp}{a b c:Act}(h:BL W a b)(k:BL W b c):BL W a c:=⟨k.1.trans h.1,λt ht=>(k.2 t ht).trans (h.2 t ht)⟩
variable {W:List Tmp}
theorem BL.mono {W':List Tmp}{a b:Act}(h:BL W a b)(hs:∀t∈W,t∈W'):BL W' a b:=⟨h.1,λt ht=>h.2 t (λhh=>ht (hs t hh))⟩
theorem BL.put {a b:Act}(h:BL W a b){d:Option Tmp}(hd:∀t,d=some t->t∈W)(v:Value):BL W a (b.put d v):=⟨by rw[MG];exact h.1,λt ht=>by
  rw[TO b v (λhe=>ht (hd t he))];exact h.2 t ht⟩
theorem BL.congr {a b c:Act}(h:BL W a b)(hc:c.tmps=b.tmps):BL W a c:=⟨by rw[hc];exact h.1,λt ht=>by rw[hc];exact h.2 t ht⟩
theorem Ze {l:List Oper}{o:Oper}(h:o∈l){t:Tmp}(ht:o.dst=some t):t∈Abj l:=by
 induction l with
 |nil=>simp at h
 |cons x r ih=>
  simp only[Abj];rcases List.mem_cons.1 h with rfl|h
  ·rw[ht];exact List.mem_cons_self
  ·split
   ·exact List.mem_cons_of_mem _ (ih h)
   ·exact ih h
def NQ (R:Act->World->Prop):Exit->Act->World->Prop:=λex a w=>ex=.normal/\R a w
theorem TP {o:Oper}{a:Act}{K K':Act->World->Prop}{R R':Act->World->Prop}(hK:∀(b:Act) (w:World),b.tmps=a.tmps->∀(v:Value) (w':World),K (b.put o.dst v) w'->K' (b.put o.dst v) w')(h:o.wpIn (WF r) 0 P a w K (NQ R)):o.wpIn (WF r) 0 P a w K' (NQ R'):=by
 unfold Oper.wpIn at *;refine⟨h.1,?_⟩
 replace h:=h.2
 generalize (o.semAt (WF r).round a.eval).run P w=rr at *;cases rr with
 |ok n w'=>
  cases n<;>simp only[Oper.uponIn]at h ⊢
  case value v=>exact hK a w rfl v w' h
  case skip=>exact hK a w rfl _ w' h
  case defer d=>exact hK {a with defers:=d::a.defers} w rfl _ w' h
  case enter f args=>
   refine⟨h.1,h.2.mono λe w'' he=>?_⟩;cases e with
   |returned v=>exact hK a w rfl v w'' he
   |panicked c=>exact absurd he.1 (by simp)
   |outgrown=>obtain⟨_,_,he⟩:=he;exact absurd he.1 (by simp)
  case row row args=>exact⟨h.1,h.2.mono λv w'' he=>hK a w rfl v w'' he⟩
  case round l f tmps as bd=>
   refine⟨h.1,h.2.mono λe w'' he=>?_⟩;cases e with
   |returned v=>exact hK a w rfl v w'' he
   |panicked c=>exact absurd he.1 (by simp)
   |outgrown=>obtain⟨_,_,he⟩:=he;exact absurd he.1 (by simp)
 |halt x w'=>cases x<;>simp only[Oper.uponIn]at h ⊢ <;> exact absurd h.1 (by simp)
theorem I7 {P:Program}{r:Option Nat}{ops:Array Oper}{W:List Tmp}(hW:∀(i:Nat) (o:Oper) (t:Tmp),ops[i]?=some o->o.dst=some t->t∈W){R:Act->World->Prop}{a0:Act}:∀{l:List Nat} {a:Act} {w:World},BL W a0 a ->
  wpOpsIn (WF r) 0 P ops (NQ R) l a w->wpOpsIn (WF r) 0 P ops (NQ λa' w'=>R a' w'/\BL W a0 a') l a w
 |[],a,w,ha,h=>⟨h.1,h.2,ha⟩
 |i::l,a,w,ha,h=>by
  simp only[wpOpsIn]at h ⊢;split at h
  ·exact I7 hW ha h
  ·rename_i o ho;have hd:∀t,o.dst=some t->t∈W:=λt ht=>hW i o t ho ht;split at h
   ·rename_i hw;rw[if_pos hw];refine TP (λb w hb v w' hk=>I7 hW ?_ hk) h;exact(ha.congr hb).put hd v
   ·rename_i hw;rw[if_neg hw];exact⟨h.1,I7 hW (ha.put hd _) h.2⟩
theorem Z9 {ops:Array Oper}(hW:∀(i:Nat) (o:Oper) (t:Tmp),ops[i]?=some o->o.dst=some t->t∈W){R:Act->World->Prop}{a0:Act}:∀(fuel:Nat) {listed:Array Bool} {a:Act} {w:World},BL W a0 a ->
  wpAnyIn (WF r) 0 P .any ops (NQ R) fuel listed a w->wpAnyIn (WF r) 0 P .any ops (NQ λa' w'=>R a' w'/\BL W a0 a') fuel listed a w:=by
 intro fuel;induction fuel with
 |zero=>intro listed a w ha h;exact⟨h.1,h.2.1,h.2.2,ha⟩
 |succ fuel ih=>
  intro listed a w ha h;refine⟨λhr=>⟨(h.1 hr).1,(h.1 hr).2,ha⟩,λi hi=>?_⟩;have h:=h.2 i hi;unfold wpOpIn at h ⊢;split at h
  ·exact ih ha h
  ·rename_i o ho;have hd:∀t,o.dst=some t->t∈W:=λt ht=>hW i o t ho ht;split at h
   ·rename_i hw;rw[if_pos hw];refine TP (λb w hb v w' hk=>ih ?_ hk) h;exact(ha.congr hb).put hd v
   ·rename_i hw;rw[if_neg hw];exact⟨h.1,ih (ha.put hd _) h.2⟩
variable {id:Nat}
theorem Xn {ops:Array Oper}{K:Env->Pr}{e:Env}{a:Act}(h:AgZ P ops.toList ops.toList e K w)(ha:BF ds e a):
  (Code.region id ops false).wpIn (WF r) 0 P (NQ λa' w'=>(∃e',K e' w'/\BF ds e' a')/\BL (Abj ops.toList) a a') a w:=by
 refine wpIn_region (I7 (λi o t ho ht=>Ze (l:=ops.toList) (by rw[Array.mem_toList_iff];exact Array.mem_of_getElem? ho) ht) (BL.refl _ _) ?_);have hops:ops.toList.toArray=ops:=by simp
 have:=Up (r:=r) (l:=List.range ops.size) (Q:=NQ λa' w'=>∃e',K e' w'/\BF ds e' a') (by
  apply List.ext_getElem?;intro i;by_cases hi:i<ops.size<;>simp[hi]) h ha (λe' a' w' hk hk'=>⟨rfl,e',hk,hk'⟩)
 rwa [hops]at this
def Dr (K:Pr):Pr:=λw=>K w.drew
theorem P5 {ops:Array Oper}{K:Env->Pr}{e:Env}{a:Act}{n:Nat}(hm:P.follows .mixedOrders=true)(hok:EI ops.toList=true)(h:LB P ops.toList (Cz ops.toList) K n 0 [] e w.drew)(ha:BF ds e a):
  (Code.region id ops true).wpIn (WF r) 0 P (NQ λa' w'=>(∃e',K e' w'/\BF ds e' a')/\BL (Abj ops.toList) a a') a w:=by
 refine wpIn_region_any hm (Z9 (λi o t ho ht=>Ze (l:=ops.toList) (by rw[Array.mem_toList_iff];exact Array.mem_of_getElem? ho) ht) _ (BL.refl _ _) ?_);have hops:ops.toList.toArray=ops:=by simp
 rw[<-hops];refine AdH hok (λe' a' w' hk hk'=>⟨rfl,e',hk,hk'⟩) _ (tr:=[]) h ?_ (by simp) (by simp);constructor
 ·exact ha.defers
 ·exact ha.size
 ·intro x hx;cases hx
 ·intro i;simp
 ·intro x hx;cases hx
 ·intro i hi;unfold Li at hi;simp[Array.getElem?_replicate]at hi;split at hi<;>simp at hi
 ·intro j o hj;unfold Li at hj;simp[Array.getElem?_replicate]at hj;split at hj<;>simp at hj
 ·intro x hx;cases hx
 ·intro x hx;cases hx
 ·intro x hx;cases hx
 ·intro x hx;cases hx
 ·intro t u hu;exact .inl (ha.val t u hu)
 ·intro x hx;cases hx
 ·intro y hy;cases hy
 ·intro x hx;cases hx
inductive Ann where
 |leaf
 |seq (a b:Ann)
 |cond (a b:Ann)
 |block (a:Ann)
 |join (lv:List (Tmp×RK)) (a:Ann)
 |loop (lv:List (Tmp×RK)) (a:Ann)
 |range (lv:List (Tmp×RK)) (xs:List Nat) (a b:Ann)
def AZ:Code->Bool
 |.seq a b=>AZ a||AZ b
 |.cond _ a b=>AZ a||AZ b
 |.block _ a=>AZ a
 |.loop a=>AZ a
 |.scope a=>AZ a
 |.rangeFunc _ _ _ _=>true
 |_=>false
def AbU (D:Nat):Deferred:={target:=.collected D,args:=#[]}
def marks:List Nat->List Deferred
 |[]=>[]
 |D::ds=>AbU D::marks ds
def kinds:List (Tmp×RK)->List RK
 |[]=>[]
 |(_,k)::r=>k::kinds r
def ins:(lv:List (Tmp×RK))->TR (kinds lv)->Env->Env
 |[],_,e=>e
 |(t,k)::r,s,e=>ins r s.2 (e.set t (some (k.enc s.1)))
def AeX:(lv:List (Tmp×RK))->Env->Option (TR (kinds lv))
 |[],_=>some ()
 |(t,k)::r,e=>match e.get t with
  |some v=>match k.dec v with
   |some x=>match AeX r e with
    |some y=>some (x,y)
    |none=>none
   |none=>none
  |none=>none
def AgF (lv:List (Tmp×RK))(J:TR (kinds lv)->Pr)(_:List Nat)(e:Env)(w:World):Prop:=
 match AeX lv e with
 |some s=>J s w
 |none=>F w
def ZP (K:List Nat->Env->Pr)(Q:Exit->List Nat->Env->Pr)(ex:Exit)(ds:List Nat)(e:Env):Pr:=
 match ex with
 |.normal=>K ds e
 |.exit id=>Q (.exit id) ds e
 |.goto l=>Q (.goto l) ds e
 |.ret=>Q .ret ds e
 |.panic c=>Q (.panic c) ds e
 |.outgrown=>Q .outgrown ds e
def AdY (id:Nat)(Q:Exit->List Nat->Env->Pr)(ex:Exit)(ds:List Nat)(e:Env):Pr:=
 match ex with
 |.normal=>Q .normal ds e
 |.exit id'=>match Nat.beq id' id with
  |true=>Q .normal ds e
  |false=>Q (.exit id') ds e
 |.goto l=>Q (.goto l) ds e
 |.ret=>Q .ret ds e
 |.panic c=>Q (.panic c) ds e
 |.outgrown=>Q .outgrown ds e
def AhF (Q:Exit->List Nat->Env->Pr)(ex:Exit)(ds:List Nat)(e:Env):Pr:=
 match ex with
 |.normal=>Q .normal ds e
 |.exit id=>Q (.exit id) ds e
 |.goto _=>F
 |.ret=>Q .ret ds e
 |.panic c=>Q (.panic c) ds e
 |.outgrown=>Q .outgrown ds e
def bgL (l:Nat)(rec:Loop)(k:Pr):Pr:=λw=>w.heap[l]?=some (.loop rec)/\k (w.putObj l (.loop {rec with state:=.busy}))
def enL (l:Nat)(rec:Loop)(J:Bool->Pr)(j:Option Code):Pr:=λw=>
 w.heap[l]?=some (.loop {rec with state:=.busy})/\J j.isNone (w.putObj l (.loop {rec with state:=if j.isNone then .ready else .done,pending:=j}))
def Rg (P:Program)(f:FuncId)(pre post:List Value)(rs:List RK)(rd:TR rs->(Pr->Pr)->(Option Code->Pr)->Pr)(K:Nat->Option Code->Pr):Pr:=λw=>
 ∀rec:Loop,rec.state=.ready->rec.pending=none->rec.defers=w.heap.size ->
  (∀(s:TR rs) (J:Bool->Pr) (w':World),w'.heap[w.heap.size+1]?=some (.loop rec) ->
   rd s (bgL (w.heap.size+1) rec) (enL (w.heap.size+1) rec J) w'->Yd P (w.heap.size+1) (Qw rs s) false [.sc .b] (λb=>J b.1) w') ->
  Cl P f (pre++.func (.yield (w.heap.size+1)) #[] #[]::post) true [] (λ_ w3=>∃rec':Loop,w3.heap[w.heap.size+1]?=some (.loop rec')/\rec'.state≠.busy /\
   K w.heap.size rec'.pending (w3.putObj (w.heap.size+1) (.loop {rec' with state:=.exhausted}))) ((w.alloc (.deferred (some []))).alloc (.loop rec))
def RgV (P:Program)(v:Value)(rs:List RK)(rd:TR rs->(Pr->Pr)->(Option Code->Pr)->Pr)(K:Nat->Option Code->Pr):Pr:=λw=>
 match v with
 |.func fn first cap=>match fn with
  |.func f=>Rg P f first.toList cap.toList rs rd K w
  |_=>F w
 |_=>F w
def Xj (x:Nat)(A:Pr)(B:Nat->Pr)(id:Nat):Pr:=λw=>
 match Nat.beq id x with
 |true=>A w
 |false=>B id w
def exJ:List Nat->(Nat->Pr)->Nat->Pr
 |[],_,_=>F
 |x::r,X,id=>Xj x (X x) (exJ r X) id
def Jm (N R:Pr)(X:Nat->Pr)(j:Option Code):Pr:=λw=>
 match j with
 |none=>N w
 |some c=>match c with
  |.ret=>R w
  |.exit id=>X id w
  |_=>F w
def rdA (bg:Pr->Pr)(K:Env->Pr)(ex:Exit)(_:List Nat)(e:Env):Pr:=
 match ex with
 |.normal=>bg (K e)
 |_=>F
def rdB (en:Option Code->Pr)(ex:Exit)(_:List Nat)(_:Env):Pr:=
 match ex with
 |.normal=>en none
 |.ret=>en (some .ret)
 |.exit id=>en (some (.exit id))
 |_=>F
def NZ:List (Tmp×RK)->List Tmp->Bool
 |[],l=>match l with | []=>true|_=>false
 |(t,_)::r,l=>match l with
  |u::us=>match Nat.beq t u with
   |true=>NZ r us
   |false=>false
  |[]=>false
def den (P:Program):Ann->Code->(Exit->List Nat->Env->Pr)->List Nat->Env->World->Prop
 |.leaf,c,Q,ds,e,w=>match c with
  |.skip=>Q .normal ds e w
  |.label _=>Q .normal ds e w
  |.ret=>Q .ret ds e w
  |.exit id=>Q (.exit id) ds e w
  |.region _ ops draw=>match draw with
   |false=>AgZ P ops.toList ops.toList e (Q .normal ds) w
   |true=>match EI ops.toList with
    |true=>Dr (LB P ops.toList (Cz ops.toList) (Q .normal ds) (ops.toList.length+1) 0 [] e) w
    |false=>F w
  |_=>F w
 |.seq a b,c,Q,ds,e,w=>match c with
  |.seq x y=>den P a x (ZP (den P b y Q) Q) ds e w
  |_=>F w
 |.cond a b,c,Q,ds,e,w=>match c with
  |.cond o x y=>match XD e o with
   |true=>match V7 e o with
    |.bool t=>Br t (den P a x Q ds e) (den P b y Q ds e) w
    |_=>F w
   |false=>F w
  |_=>F w
 |.block a,c,Q,ds,e,w=>match c with
  |.block id x=>den P a x (AdY id Q) ds e w
  |.scope x=>den P a x (AhF Q) ds e w
  |_=>F w
 |.join lv a,c,Q,ds,e,w=>match AZ c with
  |false=>Jp (λs=>Q .normal ds (ins lv s (e.forget (writes c)))) (λJ=>den P a c (ZP (AgF lv J) Q) ds e) w
  |true=>F w
 |.loop lv a,c,Q,ds,e,w=>match c with
  |.loop x=>match AZ x with
   |false=>match AeX lv e with
    |some s=>Lp (λrec s=>den P a x (ZP (AgF lv rec) Q) ds (ins lv s (e.forget (writes x)))) s w
    |none=>F w
   |true=>F w
  |_=>F w
 |.range lv xs a b,c,Q,ds,e,w=>match c with
  |.rangeFunc g ps as bd=>match NZ lv ps.toList&&!(AZ as||AZ bd)&&XD e g with
   |true=>RgV P (V7 e g) (kinds lv) (λs bg en=>den P a as (rdA bg (den P b bd (rdB en) [])) [] (ins lv s e))
     (λD=>Jm (Q .normal (D::ds) e) (Q .ret (D::ds) e) (exJ xs (λid=>Q (.exit id) (D::ds) e))) w
   |false=>F w
  |_=>F w
theorem Lc {e:Env}{ts:List Tmp}{t:Nat}{v:Value}(h:(e.forget ts).get t=some v):t∉ts/\e.get t=some v:=Env.Lc h
theorem Wd {e:Env}{ts:List Tmp}:(e.forget ts).length=e.length:=rfl
theorem BF.agree {ds':List Deferred}{e:Env}{a a':Act}(h:BF ds e a)(hg:BL W a a')(hd:a'.defers=ds'):BF ds' (e.forget W) a':=
 ⟨by rw[Wd,hg.1];exact h.size,hd,λt v hv=>by
  obtain⟨h1,h2⟩:=Lc hv;rw[hg.2 t h1];exact h.val t v h2⟩
theorem UT {lv:List (Tmp×RK)}:∀{e e':Env} {s:TR (kinds lv)} {a:Act},AeX lv e'=some s->BF ds e' a->BF ds e a->BF ds (ins lv s e) a:=by
 induction lv with
 |nil=>intro e e' s a _ _ h;exact h
 |cons p r ih=>
  obtain⟨t,k⟩:=p;intro e e' s a hg h' h;simp only[AeX]at hg;split at hg
  ·rename_i v hv;split at hg
   ·rename_i x hx;split at hg
    ·rename_i y hy;have hg:=Option.some.inj hg;subst hg;refine ih hy h' ?_;have:=h'.val t v hv;rw[RK.OJ hx]at this;exact h.AeR this
    ·cases hg
   ·cases hg
  ·cases hg
theorem AcD {Fn:Fence}{c:Code}{a:Act}(I:Nat->Act->World->Prop){n:Nat}(h₀:I n a w)(round:∀n a w,I n a w->c.wpIn Fn 0 P (Exit.then (λa' w'=>∃m,m<n/\I m a' w') Q) a w):(Code.loop c).wpIn Fn 0 P Q a w:=by
 intro b k cs hro hb hr;have key:∀n a w,I n a w->∃e a' w',Q e a' w'/\ArrivesIn (Machine.fenced P Fn) P (lone (b.atR a (.code c::.inLoop c::k)) cs w) b k cs e a' w':=by
  intro n;induction n using Nat.strongRecOn with
  |_ n ih=>
   intro a w hI;obtain⟨e,a₁,w₁,hq,harr⟩:=round n a w hI b (.inLoop c::k) cs hro hb hr;cases e with
   |normal=>
    obtain⟨m,hlt,hI₁⟩:=hq;obtain⟨e₂,a₂,w₂,hq₂,harr₂⟩:=ih m hlt a₁ w₁ hI₁;exact⟨e₂,a₂,w₂,hq₂,.of_steps (StepsIn.trans harr (.one (fenced_calm hb hr rfl) stepR_inLoop)) harr₂⟩
   |exit id=>exact⟨_,a₁,w₁,hq,.pass (x:=.inLoop c) rfl (λ_ _=>.inl (by simp)) harr⟩
   |goto l=>exact⟨_,a₁,w₁,hq,.pass (x:=.inLoop c) rfl (λ_ _=>.inl (by simp)) harr⟩
   |ret=>exact⟨_,a₁,w₁,hq,.pass (x:=.inLoop c) rfl (λ_ _=>.inl (by simp)) harr⟩
   |panic ch=>exact⟨_,a₁,w₁,hq,.pass (x:=.inLoop c) rfl (λ_ _=>.inl (by simp)) harr⟩
   |outgrown=>exact⟨_,a₁,w₁,hq,.pass (x:=.inLoop c) rfl (λ_ _=>.inl (by simp)) harr⟩
 obtain⟨e,a',w',hq,harr⟩:=key n a w h₀;exact⟨e,a',w',hq,.of_steps (.one (fenced_calm hb hr rfl) stepR_loop) harr⟩
theorem AaO {Fn:Fence}{n:Nat}{a:Act}{c:Code}(h:c.wpIn Fn n P (Exit.noGoto Q) a w):(Code.scope c).wpIn Fn n P Q a w:=by
 intro b k cs hro hb hr;have h0:(lone (b.atR a (.code (.scope c)::k)) cs w).fenced P Fn:=fenced_calm hb hr rfl;have s0:step P (lone (b.atR a (.code (.scope c)::k)) cs w)=.next (lone (b.atR a (.code c::.inScope c::k)) cs w):=step_lone_go (by simp[stepG,stepG.exec,Frame.atR]);obtain⟨e,a₁,w₁,hq,harr⟩:=h b (.inScope c::k) cs hro hb hr;cases e with
 |normal=>exact⟨.normal,a₁,w₁,hq,.head h0 s0 (StepsIn.trans harr (.one (fenced_calm hb hr rfl) (step_lone_go (by simp[stepG,stepG.exec,Frame.atR]))))⟩
 |exit id=>
  have hx:exitTo id (.inScope c::k)=exitTo id k:=by simp[exitTo]
  exact⟨.exit id,a₁,w₁,hq,λk' hk=>.head h0 s0 (harr.1 k' (by rw[hx];exact hk)),λhr' hk=>let ⟨k₁,h1,h2⟩:=harr.2 hr' (by rw[hx];exact hk);⟨k₁,h1,.head h0 s0 h2⟩⟩
 |goto l=>exact hq.elim
 |ret=>exact⟨_,a₁,w₁,hq,.of_steps (.one h0 s0) harr⟩
 |panic ch=>exact⟨_,a₁,w₁,hq,.of_steps (.one h0 s0) harr⟩
 |outgrown=>exact⟨_,a₁,w₁,hq,.of_steps (.one h0 s0) harr⟩
theorem Adu {lv:List (Tmp×RK)}:∀{ps:List Tmp} {e:Env} {tmps:Array Value} {s:TR (kinds lv)},NZ lv ps=true->BF ds e {tmps,defers:=ds} ->
  BF ds (ins lv s e) {tmps:=(ps.zip (Qw (kinds lv) s)).foldl (λtmps (t,a)=>tmps.setIfInBounds t a) tmps,defers:=ds}:=by
 induction lv with
 |nil=>
  intro ps e tmps s h hk;cases ps with
  |nil=>exact hk
  |cons _ _=>simp[NZ]at h
 |cons p r ih=>
  obtain⟨t,k⟩:=p;intro ps e tmps s h hk;cases ps with
  |nil=>simp[NZ]at h
  |cons u us=>
   simp only[NZ]at h;split at h
   ·rename_i hb;have:=Nat.eq_of_beq_eq_true hb;subst this;exact ih (s:=s.2) h (hk.put (some t) (k.enc s.1))
   ·cases h
theorem Adf {lv:List (Tmp×RK)}:∀{ps:List Tmp},NZ lv ps=true->(kinds lv).length=ps.length:=by
 induction lv with
 |nil=>intro ps h;cases ps with|nil=>rfl|cons _ _=>simp[NZ]at h
 |cons p r ih=>
  obtain⟨t,k⟩:=p;intro ps h;cases ps with
  |nil=>simp[NZ]at h
  |cons u us=>
   simp only[NZ]at h;split at h
   ·simp[kinds,ih h]
   ·cases h
theorem Zy:∀{ks:List RK} {s:TR ks},(Qw ks s).length=ks.length
 |[],_=>rfl
 |k::ks,s=>by simp[Qw,Zy]
theorem AdR {xs:List Nat}{X:Nat->Pr}(h:exJ xs X id w):X id w:=by
 induction xs with
 |nil=>exact h.elim
 |cons x r ih=>
  simp only[exJ,Xj]at h;split at h
  ·rename_i hb;have:=Nat.eq_of_beq_eq_true hb;subst this;exact h
  ·exact ih h
theorem Adc (hm:P.follows .mixedOrders=true):∀(ann:Ann) {r:Option Nat} {c:Code} {Q:Exit->List Nat->Env->Pr} {Q':Exit->Act->World->Prop} {ds:List Nat} {e:Env} {a:Act} {w:World},den P ann c Q ds e w->BF (marks ds) e a ->
  (AZ c=true->r=none)->(∀ex ds' e' a' w',Q ex ds' e' w'->BF (marks ds') e' a'->BL (writes c) a a'->(AZ c=false->ds'=ds)->Q' ex a' w')->c.wpIn (WF r) 0 P Q' a w:=by
 intro ann;induction ann with
 |leaf=>
  intro r c Q Q' ds e a w h ha hr hq;cases c with
  |skip=>exact wpIn_skip (hq _ _ _ _ _ h ha (BL.refl _ _) (λ_=>rfl))
  |label l=>exact wpIn_label (hq _ _ _ _ _ h ha (BL.refl _ _) (λ_=>rfl))
  |ret=>exact wpIn_ret (hq _ _ _ _ _ h ha (BL.refl _ _) (λ_=>rfl))
  |exit id=>exact wpIn_exit (hq _ _ _ _ _ h ha (BL.refl _ _) (λ_=>rfl))
  |region id ops draw=>
   cases draw with
   |false=>
    refine wpIn_mono (Xn h ha) λex a' w' hr=>?_;obtain⟨rfl,⟨e',hk,hk'⟩,hg⟩:=hr;exact hq _ _ _ _ _ hk hk' hg (λ_=>rfl)
   |true=>
    simp only[den]at h;split at h
    ·rename_i hok;refine wpIn_mono (P5 hm hok h ha) λex a' w' hr=>?_;obtain⟨rfl,⟨e',hk,hk'⟩,hg⟩:=hr;exact hq _ _ _ _ _ hk hk' hg (λ_=>rfl)
    ·exact h.elim
  |_=>exact h.elim
 |seq x y ihx ihy=>
  intro r c Q Q' ds e a w h ha hr hq;cases c with
  |seq cx cy=>
   refine wpIn_seq (ihx h ha (λhh=>hr (by simp[AZ,hh])) λex ds' e' a' w' hk hk' hg hd=>?_);have hgx:BL (writes (.seq cx cy)) a a':=hg.mono λt ht=>by simp[writes,ht]
   have hdx:AZ (.seq cx cy)=false->ds'=ds:=λhh=>hd (by simp[AZ]at hh;exact hh.1);cases ex with
   |normal=>
    refine ihy hk hk' (λhh=>hr (by simp[AZ,hh])) λex ds'' e'' a'' w'' hl hl' hg' hd'=>?_;exact hq _ _ _ _ _ hl hl' (hgx.trans (hg'.mono λt ht=>by simp[writes,ht])) (λhh=>(hd' (by simp[AZ]at hh;exact hh.2)).trans (hdx hh))
   |exit id=>exact hq _ _ _ _ _ hk hk' hgx hdx
   |goto l=>exact hq _ _ _ _ _ hk hk' hgx hdx
   |ret=>exact hq _ _ _ _ _ hk hk' hgx hdx
   |panic ch=>exact hq _ _ _ _ _ hk hk' hgx hdx
   |outgrown=>exact hq _ _ _ _ _ hk hk' hgx hdx
  |_=>exact h.elim
 |cond x y ihx ihy=>
  intro r c Q Q' ds e a w h ha hr hq;cases c with
  |cond o cx cy=>
   simp only[den]at h;split at h
   ·rename_i hk;split at h
    ·rename_i t ht;have hev:a.eval o=.bool t:=by rw[<-ha.V7 hk,ht]
     refine wpIn_cond_split hev (λhh=>?_) (λhh=>?_)
     ·subst hh;exact ihx h ha (λhh=>hr (by simp[AZ,hh])) λex ds' e' a' w' hk hk' hg hd=>hq _ _ _ _ _ hk hk' (hg.mono λt ht=>by simp[writes,ht]) (λhh=>hd (by simp[AZ]at hh;exact hh.1))
     ·subst hh;exact ihy h ha (λhh=>hr (by simp[AZ,hh])) λex ds' e' a' w' hk hk' hg hd=>hq _ _ _ _ _ hk hk' (hg.mono λt ht=>by simp[writes,ht]) (λhh=>hd (by simp[AZ]at hh;exact hh.2))
    ·exact h.elim
   ·exact h.elim
  |_=>exact h.elim
 |block x ih=>
  intro r c Q Q' ds e a w h ha hr hq;cases c with
  |block id cx=>
   refine wpIn_block (ih h ha (λhh=>hr hh) λex ds' e' a' w' hk hk' hg hd=>?_);have hgx:BL (writes (.block id cx)) a a':=hg;have hdx:AZ (.block id cx)=false->ds'=ds:=hd;cases ex with
   |normal=>exact hq _ _ _ _ _ hk hk' hgx hdx
   |exit id'=>
    simp only[AdY]at hk;simp only[Exit.inBlock];cases hb:Nat.beq id' id with
    |true=>
     rw[hb]at hk;rw[if_pos (Nat.eq_of_beq_eq_true hb)];exact hq _ _ _ _ _ hk hk' hgx hdx
    |false=>
     rw[hb]at hk;rw[if_neg (Nat.ne_of_beq_eq_false hb)];exact hq _ _ _ _ _ hk hk' hgx hdx
   |goto l=>exact hq _ _ _ _ _ hk hk' hgx hdx
   |ret=>exact hq _ _ _ _ _ hk hk' hgx hdx
   |panic ch=>exact hq _ _ _ _ _ hk hk' hgx hdx
   |outgrown=>exact hq _ _ _ _ _ hk hk' hgx hdx
  |scope cx=>
   refine AaO (ih h ha (λhh=>hr hh) λex ds' e' a' w' hk hk' hg hd=>?_);cases ex with
   |normal=>exact hq _ _ _ _ _ hk hk' hg hd
   |exit id'=>exact hq _ _ _ _ _ hk hk' hg hd
   |goto l=>exact hk.elim
   |ret=>exact hq _ _ _ _ _ hk hk' hg hd
   |panic ch=>exact hq _ _ _ _ _ hk hk' hg hd
   |outgrown=>exact hq _ _ _ _ _ hk hk' hg hd
  |_=>exact h.elim
 |join lv x ih=>
  intro r c Q Q' ds e a w h ha hr hq;simp only[den]at h;split at h
  ·rename_i hnr;refine ih (c:=c) h ha hr λex ds' e' a' w' hk hk' hg hd=>?_;have hds:=hd hnr;subst hds;cases ex with
   |normal=>
    simp only[ZP,AgF]at hk;split at hk
    ·rename_i s hs;exact hq _ _ _ _ _ hk (UT hs hk' (ha.agree hg hk'.defers)) hg (λ_=>rfl)
    ·exact hk.elim
   |exit id=>exact hq _ _ _ _ _ hk hk' hg (λ_=>rfl)
   |goto l=>exact hq _ _ _ _ _ hk hk' hg (λ_=>rfl)
   |ret=>exact hq _ _ _ _ _ hk hk' hg (λ_=>rfl)
   |panic ch=>exact hq _ _ _ _ _ hk hk' hg (λ_=>rfl)
   |outgrown=>exact hq _ _ _ _ _ hk hk' hg (λ_=>rfl)
  ·exact h.elim
 |loop lv x ih=>
  intro r c Q Q' ds e a w h ha hr hq;cases c with
  |loop cx=>
   simp only[den]at h;split at h
   ·rename_i hnr;split at h
    ·rename_i s hs;obtain⟨I,⟨n,hI⟩,hround⟩:=h;refine AcD (λn a' w'=>∃s,BF (marks ds) (ins lv s (e.forget (writes cx))) a'/\BL (writes cx) a a'/\I n s w') ⟨s,UT hs ha (ha.forget _),BL.refl _ _,hI⟩ ?_;rintro n a' w' ⟨s,hks,hg,hI⟩;refine ih (hround n s w' hI) hks (λhh=>hr hh) λex ds'' e'' a'' w'' hk hk' hg' hd=>?_;have hg'':BL (writes cx) a a'':=hg.trans hg';have hds:=hd hnr;subst hds;cases ex with
     |normal=>
      simp only[ZP,AgF]at hk;split at hk
      ·rename_i s' hs';obtain⟨m,hmn,hIm⟩:=hk;refine⟨m,hmn,s',UT hs' hk' (ha.agree hg'' hk'.defers),hg'',hIm⟩
      ·exact hk.elim
     |exit id=>exact hq _ _ _ _ _ hk hk' hg'' (λ_=>rfl)
     |goto l=>exact hq _ _ _ _ _ hk hk' hg'' (λ_=>rfl)
     |ret=>exact hq _ _ _ _ _ hk hk' hg'' (λ_=>rfl)
     |panic ch=>exact hq _ _ _ _ _ hk hk' hg'' (λ_=>rfl)
     |outgrown=>exact hq _ _ _ _ _ hk hk' hg'' (λ_=>rfl)
    ·exact h.elim
   ·exact h.elim
  |_=>exact h.elim
 |range lv xs x y ihx ihy=>
  intro r c Q Q' ds e a w h ha hr hq;cases c with
  |rangeFunc g ps as bd=>
   have hrn:r=none:=hr rfl;subst hrn;simp only[den]at h;split at h
   ·rename_i hok;simp only[Bool.and_eq_true,Bool.not_eq_true',Bool.or_eq_false_iff]at hok;obtain⟨⟨hsame,hna,hnb⟩,hkg⟩:=hok;have hev:V7 e g=a.eval g:=ha.V7 hkg;rw[hev]at h;unfold RgV at h;split at h
    ·rename_i fn first cap hv;split at h
     ·rename_i f;refine wpIn_rangeFunc λfn hfn=>?_;have h0:=h {state:=.ready,pending:=none,fn,tmps:=a.tmps,params:=ps,assign:=as,body:=bd,defers:=w.heap.size} rfl rfl rfl ?_
      ·refine⟨w.heap.size+1,[AbU w.heap.size],((w.alloc (.deferred (some []))).alloc (.loop {state:=.ready,pending:=none,fn,tmps:=a.tmps,params:=ps,assign:=as,body:=bd,defers:=w.heap.size})),{target:=.fn (.func f) cap,args:=first++#[.func (.yield (w.heap.size+1)) #[] #[]]},((w.alloc (.deferred (some []))).alloc (.loop {state:=.ready,pending:=none,fn,tmps:=a.tmps,params:=ps,assign:=as,body:=bd,defers:=w.heap.size})),f,first++#[.func (.yield (w.heap.size+1)) #[] #[]]++cap,((w.alloc (.deferred (some []))).alloc (.loop {state:=.ready,pending:=none,fn,tmps:=a.tmps,params:=ps,assign:=as,body:=bd,defers:=w.heap.size})),run_enterLoop_outer _ _ _ _ _,?_,λ_ _=>trivial,?_,λhh=>by simp[WF,Fence.wide]at hh,?_⟩
       ·simp only[resolve,hv,Deferred.ofValue,Sem.run_pure]
        congr 2
        simp[Act.eval]
       ·simp only[invoke];rw[K8 h0.1]
       ·have hargs:(first++#[Value.func (.yield (w.heap.size+1)) #[] #[]]++cap)=(first.toList++.func (.yield (w.heap.size+1)) #[] #[]::cap.toList).toArray:=Array.toList_inj.1 (by simp);rw[hargs];refine UZ (h0.2.mono λed w3 he=>?_);cases ed with
        |returned v=>
         obtain⟨_,_,rec',h1,h2,h3⟩:=he;refine⟨_,_,run_endLoop h1 h2,?_⟩;have hk':BF (marks (w.heap.size::ds)) e {a with defers:=[AbU w.heap.size]++a.defers}:=⟨ha.size,by simp[marks,ha.defers],ha.val⟩;have fin:∀ex w4,Q ex (w.heap.size::ds) e w4->Q' ex {a with defers:=[AbU w.heap.size]++a.defers} w4:=λex w4 hq4=>hq _ _ _ _ _ hq4 hk' ⟨rfl,λ_ _=>rfl⟩ (λhh=>by simp[AZ]at hh);unfold Jm at h3;cases hp:rec'.pending with
         |none=>rw[hp]at h3;exact fin _ _ h3
         |some c=>
          rw[hp]at h3;cases c with
          |ret=>exact wpIn_ret (fin _ _ h3)
          |exit id=>exact wpIn_exit (fin _ _ (AdR h3))
          |_=>exact h3.elim
        |panicked c=>exact he.elim
        |outgrown=>exact he.elim
      ·intro s J w' hl hrd;refine⟨_,hl,by rw[Zy];exact Adf hsame,?_⟩;refine roundIn_of_wpIn (F:=WF none) hfn ?_;have hz:(ps.zip (Qw (kinds lv) s).toArray)=(ps.toList.zip (Qw (kinds lv) s)).toArray:=Array.toList_inj.1 (by simp);have hK:BF (marks []) (ins lv s e) {tmps:=(ps.zip (Qw (kinds lv) s).toArray).foldl (λtmps (t,a)=>tmps.setIfInBounds t a) a.tmps,defers:=[]}:=by
        rw[hz];simp only[List.foldl_toArray'];exact Adu hsame ⟨ha.size,rfl,ha.val⟩
       refine ihx (r:=some (w.heap.size+1)) hrd hK (λhh=>by rw[hna]at hh;cases hh) λex ds' e' a' w1 hk hk' hg hd=>?_;cases ex with
       |normal=>
        obtain⟨hl1,hk⟩:=hk;have hds:=hd hna;subst hds;refine⟨_,run_beginRound hl1 rfl,?_⟩;refine ihy (r:=some (w.heap.size+1)) hk hk' (λhh=>by rw[hnb]at hh;cases hh) λex ds'' e'' a'' w2 hl2 hl2' hg' hd'=>?_;cases ex with
        |normal=>exact⟨_,_,run_endRound none hl2.1,(true,()),rfl,hl2.2⟩
        |ret=>exact⟨_,_,run_endRound (some .ret) hl2.1,(false,()),rfl,hl2.2⟩
        |exit id=>exact⟨_,_,run_endRound (some (.exit id)) hl2.1,(false,()),rfl,hl2.2⟩
        |goto l=>exact hl2.elim
        |panic ch=>exact hl2.elim
        |outgrown=>exact hl2.elim
       |exit id=>exact hk.elim
       |goto l=>exact hk.elim
       |ret=>exact hk.elim
       |panic ch=>exact hk.elim
       |outgrown=>exact hk.elim
     ·exact h.elim
    ·exact h.elim
   ·exact h.elim
  |_=>exact h.elim
def ZS (P:Program):List ResultVar->Env->(List Value->Pr)->World->Prop
 |[],_,K,w=>K [] w
 |r::rs,e,K,w=>match r with
  |.tmp t=>match e.get t with
   |some v=>ZS P rs e (λvs=>K (v::vs)) w
   |none=>F w
  |.cell a ty=>match e.get a with
   |some v=>match v with
    |.pointer (some ad)=>LdD P ty ad (λv=>ZS P rs e (λvs=>K (v::vs))) w
    |_=>F w
   |none=>F w
def AcT (tup:Bool)(rs:List RK)(R:TR rs->Pr)(vs:List Value)(w:World):Prop:=
 match tup with
 |true=>match AaE rs vs with
  |some s=>R s w
  |none=>F w
 |false=>match vs with
  |[v]=>match AaE rs [v]with
   |some s=>R s w
   |none=>F w
  |_=>F w
def Md:List Nat->Pr->Pr
 |[],K=>K
 |D::ds,K=>λw=>w.heap[D]?=some (.deferred (some []))/\Md ds K (w.putObj D (.deferred none))
def AiR (P:Program)(res:List ResultVar)(tup:Bool)(rs:List RK)(R:TR rs->Pr)(ex:Exit)(ds:List Nat)(e:Env):Pr:=
 match ex with
 |.normal=>Md ds (ZS P res e (AcT tup rs R))
 |.ret=>Md ds (ZS P res e (AcT tup rs R))
 |_=>F
def AbE:List Value->Nat->Option Value
 |[],_=>none
 |v::r,t=>match t with
  |0=>some v
  |t+1=>AbE r t
def Aam (n:Nat)(args:List Value):Env:=⟨args.length+(n-args.length),AbE args⟩
def Rc (tmps:Array Value)(r:ResultVar):Sem Value:=
 match r with
 |.tmp t=>pure (tmps.getD t undef)
 |.cell a t=>do loadVar t (<-asAddr (tmps.getD a undef))
theorem Aav (fn:Func)(tmps:Array Value):results fn tmps=(do
  let vs <-fn.results.mapM (Rc tmps)
  pure (if h:vs.size=1 then vs[0]else .tuple vs)):=by
 unfold results
 congr 1
theorem OP {ds:List Deferred}{P:Program}:∀{l:List ResultVar} {e:Env} {a:Act} {K:List Value->Pr} {w:World},ZS P l e K w->BF ds e a ->
  ∃vs:List Value,vs.length=l.length/\(l.mapM (Rc a.tmps)).run P w=.ok vs w/\K vs w
 |[],e,a,K,w,h,ha=>⟨[],rfl,by simp,h⟩
 |r::rs,e,a,K,w,h,ha=>by
  simp only[ZS]at h;split at h
  ·rename_i t;split at h
   ·rename_i v hv;obtain⟨vs,hl,h1,h2⟩:=OP h ha;have hval:=ha.val t v hv;refine⟨v::vs,by simp[hl],?_,h2⟩;have h0:(Rc a.tmps (.tmp t)).run P w=.ok v w:=by simp[Rc,hval]
    simp only[List.mapM_cons,Sem.run_bind,h0,Result.andThen_ok,h1,Sem.run_pure]
   ·exact h.elim
  ·rename_i x ty;split at h
   ·rename_i v hv;split at h
    ·rename_i ad;obtain⟨v,hv1,h⟩:=Wo h;obtain⟨vs,hl,h1,h2⟩:=OP h ha;have hval:=ha.val x _ hv;have hgd:a.tmps.getD x undef=.pointer (some ad):=by simp[hval]
     refine⟨v::vs,by simp[hl],?_,h2⟩;have h0:(Rc a.tmps (.cell x ty)).run P w=.ok v w:=by
      simp only[Rc,hgd,asAddr,Sem.run_bind,Sem.run_pure,Result.andThen_ok,hv1]
     simp only[List.mapM_cons,Sem.run_bind,h0,Result.andThen_ok,h1,Sem.run_pure]
    ·exact h.elim
   ·exact h.elim
theorem Aeh (l:List Value):∀t,AbE l t=l[t]?:=by
 induction l with
 |nil=>intro t;rfl
 |cons u r ih=>intro t;cases t<;>simp[AbE,ih]
theorem Vq (l:List Value)(n:Nat)(t:Nat)(v:Value)(h:(Aam n l).get t=some v):l[t]?=some v:=by
 simp only[Env.get,Aam]at h;split at h
 ·rw[Aeh]at h;exact h
 ·cases h
theorem Abg (n:Nat)(args:List Value):BF (marks []) (Aam n args) {tmps:=args.toArray++Array.replicate (n-args.toArray.size) undef,defers:=[]}:=by
 refine⟨?_,rfl,λt v h=>?_⟩
 ·simp[Aam,Env.length]
 ·have h1:=Vq args _ t v h;have hl:=(List.getElem?_eq_some_iff.1 h1).1;rw[Array.getElem?_append_left (by simpa using hl)];simpa using h1
theorem Ahd {f:FuncId}{fn:Func}{c:Code}{n:Nat}{args:List Value}{tup:Bool}{rs:List RK}{R:TR rs->Pr}(hm:P.follows .mixedOrders=true)(ann:Ann)(hok:SM P f=true)(hf:P.funcs[f]?=some fn)(hb:fn.body=some c)(hn:fn.ntmps=n)(hr:(match tup with|true=>Nat.beq fn.results.size 1=false|false=>fn.results.size=1))(h:den P ann c (AiR P fn.results.toList tup rs R) [] (Aam n args) w):Cl P f args tup rs R w:=by
 refine⟨hok,VU (r:=none) (callsIn_of_wp_marks (F:=WF none) (n:=0) hf hb trivial ?_)⟩;subst hn;refine Adc hm ann h (Abg _ _) (λ_=>rfl) λex ds' e' a' w' hq hk _ hdd=>?_;have go:∀{w':World},ZS P fn.results.toList e' (AcT tup rs R) w'->∃v,(results fn a'.tmps).run P w'=.ok v w'/\∃s,v=FW tup rs s/\R s w':=by
  intro w' h;obtain⟨vs,hl,h1,h2⟩:=OP h hk;have hres:∀v,(if hh:vs.length=1 then vs[0]else Value.tuple vs.toArray)=v->(results fn a'.tmps).run P w'=.ok v w':=by
   intro v hv;rw[Aav,Array.mapM_eq_mapM_toList];simp only[Sem.run_bind,Sem.run_map,h1,Result.andThen_ok,Sem.run_pure];rw[<-hv];by_cases hh:vs.length=1<;>simp[hh]
  cases tup with
  |true=>
   simp only[AcT]at h2;split at h2
   ·rename_i s hs;refine⟨_,hres (.tuple vs.toArray) ?_,s,?_,h2⟩
    ·rw[dif_neg];intro hh;have:=Nat.ne_of_beq_eq_false hr;rw[hl]at hh;exact this (by simpa using hh)
    ·simp only[FW,<-XK hs]
   ·exact h2.elim
  |false=>
   simp only[AcT]at h2;split at h2
   ·rename_i v;split at h2
    ·rename_i s hs;refine⟨_,hres v (by simp),s,?_,h2⟩;simp only[FW,<-XK hs,List.headD_cons]
    ·exact h2.elim
   ·exact h2.elim
 have out:Md ds' (ZS P fn.results.toList e' (AcT tup rs R)) w'->LeavesInM (WF none) 0 P fn a'.tmps (λ| .returned v,w'=>∃s,v=FW tup rs s/\R s w'|_,_=>False) a'.defers .returning w':=by
  rw[hk.defers];clear hq hk hdd;induction ds' generalizing w' with
  |nil=>intro h;exact go h
  |cons D ds ih=>
   rintro⟨h1,h2⟩;exact⟨by simp,.inl ⟨D,_,rfl,run_takeDeferred h1,ih _ h2⟩⟩
 cases ex with
 |normal=>exact out hq
 |ret=>exact out hq
 |exit id=>exact hq.elim
 |goto l=>exact hq.elim
 |panic ch=>exact hq.elim
 |outgrown=>exact hq.elim
def AH (A B:Pr):Pr:=λw=>A w/\B w
def zc (P:Program)(t:TypeId):Array Value:=match zeroOf P t with|some z=>z.cells|none=>#[]
abbrev An (x:Int):Int:=IntKind.i64.wrap x
def BA (l:List UInt8):ByteArray:=⟨l.toArray⟩
def AfX (k:IntKind)(a b:Int):Int:=k.wrap ((BitVec.ofInt k.bits a) &&& (BitVec.ofInt k.bits b)).toNat
def ior (k:IntKind)(a b:Int):Int:=k.wrap ((BitVec.ofInt k.bits a) ||| (BitVec.ofInt k.bits b)).toNat
def AiD (k:IntKind)(a b:Int):Int:=k.wrap ((BitVec.ofInt k.bits a) ^^^ (BitVec.ofInt k.bits b)).toNat
def Adw (k:IntKind)(a b:Int):Int:=k.wrap (a*2 ^ (min b.toNat k.bits))
def IW (k:IntKind)(a b:Int):Int:=a.fdiv (2 ^ (min b.toNat k.bits))
open Go
theorem Bt (w:World)(o:Obj):(w.alloc o).heap[w.heap.size]?=some o:=by simp[World.alloc,-World.alloc_eq]
theorem Qc (w:World)(o:Obj){b:Nat}(h:b<w.heap.size):(w.alloc o).heap[b]?=w.heap[b]?:=by
 simp only[World.alloc];rw[Array.getElem?_push,if_neg (by omega)]
theorem E8 (w:World)(r:Nat)(o:Obj):(A3 w r o).heap.size=w.heap.size:=by simp[A3]
theorem AW {r:Nat}{o:Obj}(h:r<w.heap.size):(A3 w r o).heap[r]?=some o:=by simp[A3,h]
theorem NP {r b:Nat}{o:Obj}(h:b≠r):(A3 w r o).heap[b]?=w.heap[b]?:=by
 simp only[A3];exact Array.getElem?_setIfInBounds_ne (Ne.symm h)
theorem Av {b:Nat}{o:Obj}(h:w.heap[b]?=some o):b<w.heap.size:=(Array.getElem?_eq_some_iff.1 h).1
theorem setCell_eq {b i:Nat}{cs:Array Value}{fr:Nat×Nat}(h:w.heap[b]?=some (.cells cs t fr))(v:Value):w.setCell ⟨b,i,none⟩ v=A3 w b (.cells (cs.setIfInBounds i v) t fr):=by
 simp only[World.setCell,A3]
 congr 1
 apply Array.ext_getElem?;intro j;rw[Array.getElem?_modify,Array.getElem?_setIfInBounds];by_cases hj:b=j
 ·subst hj;rw[if_pos rfl,if_pos rfl,h,if_pos (Av h)];simp
 ·rw[if_neg hj,if_neg hj]
theorem FP (w:World)(b:Nat)(o o':Obj):A3 (A3 w b o) b o'=A3 w b o':=by
 simp[A3]
theorem Yt {b:Nat}{o:Obj}(h:w.heap[b]?=some o):A3 w b o=w:=by
 have:w.heap.setIfInBounds b o=w.heap:=by
  apply Array.ext_getElem?;intro j;rw[Array.getElem?_setIfInBounds];by_cases hj:b=j
  ·subst hj;rw[if_pos rfl,if_pos (Av h),h]
  ·rw[if_neg hj]
 simp[A3,this]
theorem cell_of {b i:Nat}{cs:Array Value}{fr:Nat×Nat}(h:w.heap[b]?=some (.cells cs t fr)):w.cell? ⟨b,i,none⟩=cs[i]?:=by simp[World.cell?,h]
theorem WZ {b i:Nat}{cs:Array Value}{fr:Nat×Nat}(h:w.heap[b]?=some (.cells cs t fr)):w.frozen? ⟨b,i,none⟩=(decide (fr.1<=i)&&decide (i<fr.2)):=by
 obtain⟨lo,hi⟩:=fr;simp[World.frozen?,h]
theorem Cr (b i n:Nat):Addr.add ⟨b,i,none⟩ n=⟨b,i+n,none⟩:=by
 unfold Addr.add;split
 ·rename_i h;subst h;rfl
 ·rfl
structure Aa (m:List Nat)(w w':World):Prop where
 os:w'.os=w.os
 tape:w'.tape=w.tape
 output:w'.output=w.output
 size:w.heap.size<=w'.heap.size
 get:∀k,k<w.heap.size->k∉m->w'.heap[k]?=w.heap[k]?
theorem Aa.refl (m:List Nat)(w:World):Aa m w w:=⟨rfl,rfl,rfl,Nat.le_refl _,λ_ _ _=>rfl⟩
theorem Aa.trans {m m':List Nat}{a b c:World}(h:Aa m a b)(k:Aa m' b c)(hm:∀x∈m',x∈m\/a.heap.size<=x):Aa m a c:=
 ⟨k.os.trans h.os,k.tape.trans h.tape,k.output.trans h.output,Nat.le_trans h.size k.size,λi hi hn=>by
  rw[k.get i (Nat.lt_of_lt_of_le hi h.size) (λhh=>by rcases hm i hh with hh|hh;exact hn hh;omega)];exact h.get i hi hn⟩
theorem Aa.mono {m m':List Nat}(h:Aa m w w')(hm:∀x∈m,x∈m'\/w.heap.size<=x):Aa m' w w':=
 ⟨h.os,h.tape,h.output,h.size,λk hk hn=>h.get k hk (λhh=>by rcases hm k hh with hh|hh;exact hn hh;omega)⟩
theorem Aa.alloc {m:List Nat}{a:World}(h:Aa m a w)(o:Obj):Aa m a (w.alloc o):=
 ⟨h.os,h.tape,h.output,by rw[World.size_alloc];have:=h.size;omega,λk hk hn=>by
  have:=h.size;rw[Qc w o (by omega)];exact h.get k hk hn⟩
theorem Aa.drew {m:List Nat}{a:World}(h:Aa m a w):Aa m a w.drew:=⟨h.os,h.tape,h.output,h.size,h.get⟩
theorem Aa.A3 {m:List Nat}{a:World}(h:Aa m a w){b:Nat}(hb:b∈m\/a.heap.size<=b)(o:Obj):Aa m a (A3 w b o):=
 ⟨h.os,h.tape,h.output,by rw[E8];exact h.size,λk hk hn=>by
  rw[NP (λhe=>by subst he;rcases hb with hb|hb;exact hn hb;omega)];exact h.get k hk hn⟩
theorem Aa.at {m:List Nat}(h:Aa m w w'){b:Nat}{o:Obj}(hb:w.heap[b]?=some o)(hn:b∉m):w'.heap[b]?=some o:=(h.get b (Av hb) hn).trans hb
section
variable {w:World}{b i:Nat}{cs:Array Value}{t:TypeId}{fr:Nat×Nat}(h:w.heap[b]?=some (.cells cs t fr))
include h
theorem Lh {kd:IntKind}{x:Int}{K:Int->Pr}(hi:cs[i]?=some (.int kd x))(k:K x w):A2 kd ⟨b,i,none⟩ K w:=⟨x,(cell_of h).trans hi,k⟩
theorem Aea {v:Value}{K:Pr}(h1:v.oneCell'=true)(hi:i<cs.size)(hf:(decide (fr.1<=i)&&decide (i<fr.2))=false)(k:K (A3 w b (.cells (cs.setIfInBounds i v) t fr))):St ⟨b,i,none⟩ v K w:=by
 refine⟨h1,⟨cs[i],(cell_of h).trans (by simp[hi])⟩,(WZ h).trans hf,?_⟩;rw[setCell_eq h];exact k
end
def OT (s:Sl):List Nat:=match s.p with|some a=>[a.block]|none=>[]
def Ai (s:Sl):List Nat:=match s.cap with|0=>[]|_+1=>OT s
theorem UL (h:s.cap=0):Ai s=[]:=by unfold Ai;rw[h]
theorem Nk {b o:Nat}(h:s.cap≠0)(hp:s.p=some ⟨b,o,none⟩):Ai s=[b]:=by
 unfold Ai OT;rw[hp];cases hc:s.cap with
 |zero=>exact absurd hc h
 |succ n=>rfl
theorem PV {b o:Nat}(hp:s.p=some ⟨b,o,none⟩):∀x∈Ai s,x=b:=by
 intro x hx;by_cases h:s.cap=0
 ·rw[UL h]at hx;cases hx
 ·rw[Nk h hp]at hx;simpa using hx
theorem Ae2 (s:Sl):∀x∈Ai s,x∈OT s:=by
 intro x hx;unfold Ai at hx;split at hx
 ·cases hx
 ·exact hx
structure AE (w:World)(s:Sl)(size:Nat)(cs:List Value):Prop where
 len:cs.length=s.len*size
 cap:s.len<=s.cap
 row:s.cap=0\/∃(b o:Nat) (all:Array Value) (t:TypeId) (fr:Nat×Nat),s.p=some ⟨b,o,none⟩/\w.heap[b]?=some (.cells all t fr)/\o+s.cap*size<=all.size /\
  (∀j,j<cs.length->all[o+j]?=cs[j]?)/\(∀j,j<s.cap*size->(decide (fr.1<=o+j)&&decide (o+j<fr.2))=false)
theorem AE.keeps {size:Nat}{m:List Nat}(h:AE w s size cs)(hk:Aa m w w')(hd:∀x∈Ai s,x∉m):AE w' s size cs:=by
 refine⟨h.len,h.cap,?_⟩;rcases h.row with h1|⟨b,o,all,t,fr,hp,hb,h1,h2,h3⟩
 ·exact .inl h1
 ·by_cases hc:s.cap=0
  ·exact .inl hc
  ·exact .inr ⟨b,o,all,t,fr,hp,hk.at hb (hd b (by simp[Nk hc hp])),h1,h2,h3⟩
theorem AE.lt {size:Nat}(h:AE w s size cs):∀x∈Ai s,x<w.heap.size:=by
 intro x hx;rcases h.row with h1|⟨b,o,all,t,fr,hp,hb,_⟩
 ·rw[UL h1]at hx;cases hx
 ·rw[PV hp x hx];exact Av hb
theorem AE.nil (w:World)(size:Nat):AE w ⟨none,0,0⟩ size []:=⟨by simp,Nat.le_refl _,.inl rfl⟩
theorem AE.rdc {size:Nat}(h:AE w s size cs):V0 s.p (s.len*size) cs w:=by
 refine⟨h.len,λj v hj=>?_⟩;have hlt:=(List.getElem?_eq_some_iff.1 hj).1;rcases h.row with h2|⟨b,o,all,t,fr,hp,hb,h1,h2,h3⟩
 ·have hl:=h.len;have hc:=h.cap;have h0:s.len=0:=by omega
  rw[h0,Nat.zero_mul]at hl;omega
 ·refine⟨_,hp,?_⟩;rw[Cr,cell_of hb,h2 j hlt,hj]
def Dk (all:Array Value)(o:Nat):List Value->Array Value
 |[]=>all
 |v::vs=>Dk (all.setIfInBounds o v) (o+1) vs
theorem Qt (vs:List Value):∀(all:Array Value) (o:Nat),(Dk all o vs).size=all.size:=by
 induction vs with
 |nil=>intro all o;rfl
 |cons v vs ih=>intro all o;rw[Dk,ih];simp
theorem P7 (vs:List Value):∀(all:Array Value) (o j:Nat),o+vs.length<=all.size->(Dk all o vs)[j]?=if o<=j/\j<o+vs.length then vs[j-o]? else all[j]?:=by
 induction vs with
 |nil=>intro all o j h;rw[Dk,if_neg (by simp)]
 |cons v vs ih=>
  intro all o j h;simp only[List.length_cons]at h;rw[Dk,ih _ _ _ (by simp;omega)];by_cases h1:o=j
  ·subst h1;rw[if_neg (by omega),if_pos (by simp),Array.getElem?_setIfInBounds_self,if_pos (by omega)];simp
  ·rw[Array.getElem?_setIfInBounds_ne h1];by_cases h2:o+1<=j/\j<o+1+vs.length
   ·rw[if_pos h2,if_pos (by simp;omega),show j-o=(j-(o+1))+1 from by omega];simp
   ·rw[if_neg h2,if_neg (by simp;omega)]
theorem Ra {b o:Nat}{t:TypeId}{fr:Nat×Nat}{K:Pr}:∀{vs:List Value} {i:Nat} {all:Array Value} {w:World},w.heap[b]?=some (.cells all t fr)->o+i+vs.length<=all.size->(∀v∈vs,v.oneCell'=true) ->
  (∀j,i<=j->j<i+vs.length->(decide (fr.1<=o+j)&&decide (o+j<fr.2))=false)->K (A3 w b (.cells (Dk all (o+i) vs) t fr))->Xc vs ⟨b,o,none⟩ i K w
 |[],i,all,w,h,hr,h1,hf,k=>by
  rw[Dk,Yt h]at k;exact k
 |v::vs,i,all,w,h,hr,h1,hf,k=>by
  simp only[List.length_cons]at hr hf;simp only[Xc];rw[Cr];refine Aea h (h1 v List.mem_cons_self) (by omega) (hf i (Nat.le_refl _) (by omega)) ?_;refine Ra (all:=all.setIfInBounds (o+i) v) (AW (Av h)) (by simp;omega) (λu hu=>h1 u (List.mem_cons_of_mem _ hu)) (λj hj hj'=>hf j (by omega) (by omega)) ?_;rw[FP];rw[Dk]at k;exact k
theorem GA (z:Array Value)(n:Nat):Builtin.zeroCells z n=(C4 z.toList n).toArray:=ZH z n
theorem MZ {e size bytes:Nat}{z:Array Value}{m:Nat}{src:List Value->World->Prop}{K:Sl->Pr}{new:List Value}(hs:AE w s size cs)(hn:src new w)(hl:new.length=m*size)(h1:∀v∈new,v.oneCell'=true)(hz:z.size=size)(h47:(s.len+m)*bytes<=140737488355328)(h63:s.len+m<=9223372036854775807)(k:∀(r:Sl) (w':World),AE w' r size (cs++new)->r.len=s.len+m->Aa (Ai s) w w'->(∀x∈Ai r,x∈Ai s\/w.heap.size<=x)->K r w'):App e size bytes z s m src K w:=by
 refine⟨new,hn,?_⟩;have hlen:=hs.len;split
 ·rename_i hc;by_cases hc0:s.cap=0
  ·have hm:m=0:=by have:=hs.cap;omega
   have hnn:new=[]:=by
    subst hm;simpa using hl
   subst hnn;have hb0:∀p:Option Addr,Ai ⟨p,s.len+m,s.cap⟩=[]:=λp=>UL hc0;have hS:∀p:Option Addr,AE w ⟨p,s.len+m,s.cap⟩ size (cs++[]):=λp=>⟨by simp[hlen,hm],by simpa using hc,.inl hc0⟩;cases hp:s.p with
   |none=>exact k _ w (hS _) rfl (Aa.refl _ _) (by rw[hb0];simp)
   |some a=>exact k _ w (hS _) rfl (Aa.refl _ _) (by rw[hb0];simp)
  rcases hs.row with h0|⟨b,o,all,t,fr,hp,hb,h2,h3,h4⟩
  ·exact absurd h0 hc0
  ·rw[hp];simp only;rw[Cr];have hcap:(s.len+m)*size<=s.cap*size:=Nat.mul_le_mul_right _ hc;rw[Nat.add_mul]at hcap;refine Ra hb (by omega) h1 (λj _ hj=>by rw[Nat.add_assoc];exact h4 _ (by omega)) ?_;have hbl:b<w.heap.size:=Av hb;refine k _ _ ⟨by simp[hlen,hl,Nat.add_mul],by simpa using hc,.inr ⟨b,o,Dk all (o+s.len*size) new,t,fr,rfl,?_,by rw[Qt];exact h2,?_,h4⟩⟩ rfl ((Aa.refl _ _).A3 (.inl (by simp[Nk hc0 hp])) _) ?_
   ·rw[Nat.add_zero];exact AW hbl
   ·intro j hj;rw[List.length_append]at hj;rw[P7 _ _ _ _ (by omega)];by_cases hj2:j<cs.length
    ·rw[if_neg (by omega),h3 j hj2,List.getElem?_append_left hj2]
    ·rw[if_pos (by omega),List.getElem?_append_right (by omega),hlen]
     congr 1
     omega
   ·intro x hx;left;rw[Nk hc0 hp,PV rfl x hx];exact List.mem_singleton.2 rfl
 ·rename_i hc;refine⟨h47,by omega,cs,hs.rdc,λc hcc=>?_⟩;have hsz:((cs++new).toArray++Builtin.zeroCells z (c-(s.len+m))).size=c*size:=by
   rw[GA,Array.size_append,List.size_toArray,List.size_toArray,List.length_append,C3,hlen,hl];simp only[Array.length_toList,hz];rw[<-Nat.add_mul,<-Nat.add_mul]
   congr 1
   omega
  refine k _ _ ⟨by simp[hlen,hl,Nat.add_mul],by simpa using hcc,.inr ⟨w.heap.size,0,_,e,(0,0),rfl,Bt w.drew _,by rw[hsz];simp,?_,?_⟩⟩ rfl ((Aa.refl _ _).drew.alloc _) ?_
  ·intro j hj;rw[Nat.zero_add,Array.getElem?_append_left (by simpa using hj)];simp
  ·intro j _;simp
  ·intro x hx;right;rw[PV rfl x hx];exact Nat.le_refl _
open Go
def asI (k:IntKind)(K:Int->Pr)(v:Option Value)(w:World):Prop:=match v with|some (.int k' x)=>k'=k/\K x w|_=>False
def asB (K:Bool->Pr)(v:Option Value)(w:World):Prop:=match v with|some (.bool x)=>K x w|_=>False
def asS (K:ByteArray->Pr)(v:Option Value)(w:World):Prop:=match v with|some (.string x)=>K x w|_=>False
def asP (K:Option Addr->Pr)(v:Option Value)(w:World):Prop:=match v with|some (.pointer x)=>K x w|_=>False
def asL (K:Sl->Pr)(v:Option Value)(w:World):Prop:=match v with|some (.slice p l c)=>K ⟨p,l,c⟩ w|_=>False
def asM (K:Option Nat->Pr)(v:Option Value)(w:World):Prop:=match v with|some (.map x)=>K x w|_=>False
def asV (K:Value->Pr)(v:Option Value)(w:World):Prop:=match v with|some x=>K x w|_=>False
def Bg (o:Option Obj)(i:Nat):Option Value:=match o with|some (.cells cs _ _)=>cs[i]? | _=>none
theorem Ci (w:World)(b i:Nat):w.cell? ⟨b,i,none⟩=Bg w.heap[b]? i:=by
 unfold World.cell? Bg;cases w.heap[b]? with
 |none=>rfl
 |some o=>cases o<;>rfl
theorem RZ (k:IntKind)(b i:Nat)(K:Int->Pr)(w:World):A2 k ⟨b,i,none⟩ K w=asI k K (Bg w.heap[b]? i) w:=by
 simp only[A2,Ci,asI];apply propext;cases Bg w.heap[b]? i with
 |none=>simp
 |some v=>cases v<;>simp;exact⟨λ⟨x,⟨h1,h2⟩,h⟩=>⟨h1,h2▸h⟩,λ⟨h1,h⟩=>⟨_,⟨h1,rfl⟩,h⟩⟩
theorem Aei (b i:Nat)(K:Bool->Pr)(w:World):E7 ⟨b,i,none⟩ K w=asB K (Bg w.heap[b]? i) w:=by
 simp only[E7,Ci,asB];apply propext;cases Bg w.heap[b]? i with
 |none=>simp
 |some v=>cases v<;>simp
theorem AdQ (b i:Nat)(K:ByteArray->Pr)(w:World):BU ⟨b,i,none⟩ K w=asS K (Bg w.heap[b]? i) w:=by
 simp only[BU,Ci,asS];apply propext;cases Bg w.heap[b]? i with
 |none=>simp
 |some v=>cases v<;>simp
theorem Aer (b i:Nat)(K:Option Addr->Pr)(w:World):Di ⟨b,i,none⟩ K w=asP K (Bg w.heap[b]? i) w:=by
 simp only[Di,Ci,asP];apply propext;cases Bg w.heap[b]? i with
 |none=>simp
 |some v=>cases v<;>simp
theorem AeV (b i:Nat)(K:Option Nat->Pr)(w:World):LdM ⟨b,i,none⟩ K w=asM K (Bg w.heap[b]? i) w:=by
 simp only[LdM,Ci,asM];apply propext;cases Bg w.heap[b]? i with
 |none=>simp
 |some v=>cases v<;>simp
theorem AeG (b i:Nat)(K:Value->Pr)(w:World):LJ ⟨b,i,none⟩ K w=asV K (Bg w.heap[b]? i) w:=by
 simp only[LJ,Ci,asV];apply propext;cases Bg w.heap[b]? i with
 |none=>simp
 |some v=>simp
theorem Wn (b i:Nat)(K:Sl->Pr)(w:World):DN ⟨b,i,none⟩ K w=asL K (Bg w.heap[b]? i) w:=by
 simp only[DN,Ci,asL];apply propext;cases Bg w.heap[b]? i with
 |none=>simp
 |some v=>
  cases v<;>simp;exact⟨λ⟨x,⟨h1,h2,h3⟩,h⟩=>by subst h1 h2 h3;exact h,λh=>⟨_,⟨rfl,rfl,rfl⟩,h⟩⟩
def frz (fr:Nat×Nat)(i:Nat):Bool:=decide (fr.1<=i)&&decide (i<fr.2)
def stO (i:Nat)(v:Value)(K:Obj->Prop)(o:Option Obj):Prop:=match o with
 |some (.cells cs t fr)=>v.oneCell'=true/\i<cs.size/\frz fr i=false/\K (.cells (cs.setIfInBounds i v) t fr)
 |_=>False
theorem Alb (b i:Nat)(v:Value)(K:Pr)(w:World):St ⟨b,i,none⟩ v K w=stO i v (λo=>K (A3 w b o)) w.heap[b]?:=by
 apply propext;unfold St stO;cases hb:w.heap[b]? with
 |none=>simp[World.cell?,hb]
 |some o=>
  cases o with
  |cells cs t fr=>
   rw[WZ hb,cell_of hb,setCell_eq hb];simp only;constructor
   ·rintro⟨h1,⟨x,hx⟩,h2,h3⟩;exact⟨h1,(Array.getElem?_eq_some_iff.1 hx).1,h2,h3⟩
   ·rintro⟨h1,h2,h3,h4⟩;exact⟨h1,⟨_,by simp[h2];rfl⟩,h3,h4⟩
  |_=>simp[World.cell?,hb]
theorem sx :
  (∀(cs:Array Value) (t:TypeId) (K:Addr->Pr) (w:World),At cs t K w=K ⟨w.heap.size,0,none⟩ (w.alloc (.cells cs t))) /\
  (∀(o:Obj) (K:Nat->Pr) (w:World),O1 o K w=K w.heap.size (w.alloc o)) /\
  (∀(K:Pr) (w:World),Dr K w=K w.drew) /\
  (∀(A B:Pr) (w:World),AH A B w=(A w/\B w)) /\
  (∀(p:Prop) (K:Pr) (w:World),AY p K w=(p/\K w)) /\
  (∀(a:Addr) (K:Addr->Pr),Nn (some a) K=K a) /\
  (∀(T E:Pr) (w:World),Br true T E w=T w) /\
  (∀(T E:Pr) (w:World),Br false T E w=E w) /\
  (∀(b i n:Nat),Addr.add ⟨b,i,none⟩ n=⟨b,i+n,none⟩) /\
  (∀(k:IntKind) (b i:Nat) (K:Int->Pr) (w:World),A2 k ⟨b,i,none⟩ K w=asI k K (Bg w.heap[b]? i) w) /\
  (∀(b i:Nat) (K:Bool->Pr) (w:World),E7 ⟨b,i,none⟩ K w=asB K (Bg w.heap[b]? i) w) /\
  (∀(b i:Nat) (K:ByteArray->Pr) (w:World),BU ⟨b,i,none⟩ K w=asS K (Bg w.heap[b]? i) w) /\
  (∀(b i:Nat) (K:Option Addr->Pr) (w:World),Di ⟨b,i,none⟩ K w=asP K (Bg w.heap[b]? i) w) /\
  (∀(b i:Nat) (K:Option Nat->Pr) (w:World),LdM ⟨b,i,none⟩ K w=asM K (Bg w.heap[b]? i) w) /\
  (∀(b i:Nat) (K:Value->Pr) (w:World),LJ ⟨b,i,none⟩ K w=asV K (Bg w.heap[b]? i) w) /\
  (∀(b i:Nat) (K:Sl->Pr) (w:World),DN ⟨b,i,none⟩ K w=asL K (Bg w.heap[b]? i) w) /\
  (∀(b i:Nat) (v:Value) (K:Pr) (w:World),St ⟨b,i,none⟩ v K w=stO i v (λo=>K (A3 w b o)) w.heap[b]?) /\
  (∀(k:IntKind) (K:Int->Pr) (x:Int) (w:World),asI k K (some (.int k x)) w=K x w) /\
  (∀(K:Bool->Pr) (x:Bool) (w:World),asB K (some (.bool x)) w=K x w) /\
  (∀(K:ByteArray->Pr) (x:ByteArray) (w:World),asS K (some (.string x)) w=K x w) /\
  (∀(K:Option Addr->Pr) (x:Option Addr) (w:World),asP K (some (.pointer x)) w=K x w) /\
  (∀(K:Option Nat->Pr) (x:Option Nat) (w:World),asM K (some (.map x)) w=K x w) /\
  (∀(K:Value->Pr) (x:Value) (w:World),asV K (some x) w=K x w) /\
  (∀(K:Sl->Pr) (p:Option Addr) (l c:Nat) (w:World),asL K (some (.slice p l c)) w=K ⟨p,l,c⟩ w) /\
  (∀(cs:Array Value) (t:TypeId) (fr:Nat×Nat) (i:Nat),Bg (some (.cells cs t fr)) i=cs[i]?) /\
  (∀(i:Nat) (v:Value) (K:Obj->Prop) (cs:Array Value) (t:TypeId) (fr:Nat×Nat),stO i v K (some (.cells cs t fr)) =
   (v.oneCell'=true/\i<cs.size/\frz fr i=false/\K (.cells (cs.setIfInBounds i v) t fr))) /\
  (∀(w:World) (o:Obj),(w.alloc o).heap[w.heap.size]?=some o) /\
  (∀(w:World),w.drew.heap=w.heap) /\
  (∀(w:World) (o:Obj),(w.alloc o).heap.size=w.heap.size+1) /\
  (∀(w:World) (r:Nat) (o:Obj),(A3 w r o).heap.size=w.heap.size) /\
  (∀(w:World) (r:Nat) (o o':Obj),A3 (A3 w r o) r o'=A3 w r o') /\
  (∀(s:Sl),(⟨s.p,s.len,s.cap⟩:Sl)=s):=
 ⟨λ_ _ _ _=>rfl,λ_ _ _=>rfl,λ_ _=>rfl,λ_ _ _=>rfl,λ_ _ _=>rfl,λ_ _=>rfl,λ_ _ _=>rfl,λ_ _ _=>rfl,Cr,RZ,Aei,AdQ,Aer,AeV,AeG,Wn,Alb,
  λk K x w=>by simp[asI],λ_ _ _=>rfl,λ_ _ _=>rfl,λ_ _ _=>rfl,λ_ _ _=>rfl,λ_ _ _=>rfl,λ_ _ _ _ _=>rfl,λ_ _ _ _=>rfl,λ_ _ _ _ _ _=>rfl,Bt,λ_=>rfl,World.size_alloc,E8,FP,λ_=>rfl⟩
theorem Ck :
  (∀(l:List Value) (i:Nat),l.toArray[i]?=l[i]?) /\
  (∀(l:List Value),l.toArray.size=l.length) /\
  (∀(l:List Value) (i:Nat) (v:Value),l.toArray.setIfInBounds i v=(l.set i v).toArray) /\
  (∀(v:Value) (l:List Value),(v::l)[0]?=some v) /\
  (∀(v:Value) (l:List Value) (i:Nat),(v::l)[i+1]?=l[i]?) /\
  (∀(v u:Value) (l:List Value),(v::l).set 0 u=u::l) /\
  (∀(v u:Value) (l:List Value) (i:Nat),(v::l).set (i+1) u=v::l.set i u) /\
  (∀(v:Value) (l:List Value),(v::l).length=l.length+1) /\
  (([]:List Value).length=0) /\
  (∀(b:Bool),(Value.bool b).oneCell'=true)/\(∀(k:IntKind) (n:Int),(Value.int k n).oneCell'=true)/\(∀(s:ByteArray),(Value.string s).oneCell'=true) /\
  (∀(p:Option Addr),(Value.pointer p).oneCell'=true)/\(∀(p:Option Addr) (l c:Nat),(Value.slice p l c).oneCell'=true)/\(∀(m:Option Nat),(Value.map m).oneCell'=true) /\
  (∀(f:Fn) (a c:Array Value),(Value.func f a c).oneCell'=true)/\(∀(t:TypeId) (v:Value),(Value.iface t v).oneCell'=true)/\(Value.nilIface.oneCell'=true)/\(Value.nilFunc.oneCell'=true) /\
  (∀i:Nat,(frz (0,0) i=false)=True):=
 ⟨λ_ _=>by simp,λ_=>by simp,λ_ _ _=>by simp,λ_ _=>rfl,λ_ _ _=>by simp,λ_ _ _=>rfl,λ_ _ _ _=>rfl,λ_ _=>rfl,rfl,λ_=>rfl,λ_ _=>rfl,λ_=>rfl,λ_=>rfl,λ_ _ _=>rfl,λ_=>rfl,
  λ_ _ _=>rfl,λ_ _=>rfl,rfl,rfl,λi=>by simp[frz]⟩
theorem AG {σ:Type}{J:σ->Pr}{A:(σ->Pr)->Pr}(Φ:σ->World->Prop)(hA:∀J':σ->Pr,(∀s w',Φ s w'->J' s w')->A J' w)(hJ:∀s w',Φ s w'->J s w'):Jp J A w:=hA J hJ
theorem Afz {c:Bool}{T E:Pr}(h1:c=true->T w)(h2:c=false->E w):Br c T E w:=by
 cases c
 ·exact h2 rfl
 ·exact h1 rfl
end Go.Sx
