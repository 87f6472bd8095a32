/- The parts of the proof, 1: words of the program, and what they do. Conditions: none. -/
import Derived.WalkKit
import Derived.RangeFuncLeaves
import Derived.RangeFuncRecord
import Derived.RangeFuncIn
import Derived.OrdersIn
import Derived.ChangeKeysEq
import Derived.Laws.Tables
import Derived.Lib.ConvBytes
import Derived.Scope
import Derived.ProofKit
import Derived.OpenShut
import Derived.JoinedCond
import Derived.WideKeyArgs
import Derived.SliceStrings
import Derived.Deep.Slices
import Derived.SizedLaws
set_option maxRecDepth 100000
namespace Go.Sx
open Go
structure Sl where
 p:Option Addr
 len:Nat
 cap:Nat
inductive Kd where
 | b | i (k:IntKind) | s | p | sl | m | v
@[reducible] def Kd.T:Kd→Type
 | .b=>Bool
 | .i _=>Int
 | .s=>ByteArray
 | .p=>Option Addr
 | .sl=>Sl
 | .m=>Option Nat
 | .v=>Value
def Kd.enc:(k:Kd)→k.T→Value
 | .b,x=>.bool x
 | .i k,x=>.int k x
 | .s,x=>.string x
 | .p,x=>.pointer x
 | .sl,x=>.slice x.p x.len x.cap
 | .m,x=>.map x
 | .v,x=>x
def Kd.dec:(k:Kd)→Value→Option k.T
 | .b,x=>match x with | .bool x=>some x | _=>none
 | .i k,x=>match x with | .int k' x=>(if k'=k then some x else none) | _=>none
 | .s,x=>match x with | .string x=>some x | _=>none
 | .p,x=>match x with | .pointer x=>some x | _=>none
 | .sl,x=>match x with | .slice xp xl xc=>some ⟨xp,xl,xc⟩ | _=>none
 | .m,x=>match x with | .map x=>some x | _=>none
 | .v,x=>some x
theorem Kd.dec_eq {k:Kd} {x:Value} {y:k.T} (h:k.dec x=some y):x=k.enc y:=by
 cases k <;> simp only [Kd.dec,Kd.enc] at * <;> (try split at h) <;> (try split at h) <;> simp_all <;> (subst h;exact ⟨rfl,rfl,rfl⟩)
@[simp] theorem Kd.dec_enc (k:Kd) (y:k.T):k.dec (k.enc y)=some y:=by
 cases k <;> simp [Kd.dec,Kd.enc]
inductive RK where
 | sc (k:Kd) | ag (ks:List Kd)
@[reducible] def Tup:List Kd→Type
 | []=>Unit
 | k :: ks=>k.T × Tup ks
def encs:(ks:List Kd)→Tup ks→List Value
 | [],_=>[]
 | k :: ks,x=>k.enc x.1 :: encs ks x.2
def decs:(ks:List Kd)→List Value→Option (Tup ks)
 | [],l=>match l with | []=>some () | _=>none
 | k :: ks,l=>match l with
  | v :: vs=>match k.dec v with
   | some x=>match decs ks vs with
    | some y=>some (x,y)
    | none=>none
   | none=>none
  | []=>none
theorem decs_eq:∀ {ks:List Kd} {l:List Value} {y:Tup ks},decs ks l=some y→l=encs ks y
 | [],l,y,h=>by
  cases l <;> simp_all [decs,encs]
 | k :: ks,l,y,h=>by
  cases l with
  | nil=>simp [decs] at h
  | cons v vs=>
   simp only [decs] at h
   split at h
   ·rename_i x hx
    split at h
    ·rename_i z hz
     simp only [Option.some.injEq] at h
     subst h
     simp [encs,Kd.dec_eq hx,decs_eq hz]
    ·cases h
   ·cases h
@[reducible] def RK.T:RK→Type
 | .sc k=>k.T
 | .ag ks=>Tup ks
def RK.enc:(r:RK)→r.T→Value
 | .sc k,x=>k.enc x
 | .ag ks,x=>.agg (encs ks x).toArray
def RK.dec:(r:RK)→Value→Option r.T
 | .sc k,v=>k.dec v
 | .ag ks,v=>match v with | .agg cs=>decs ks cs.toList | _=>none
theorem RK.dec_eq {r:RK} {v:Value} {y:r.T} (h:r.dec v=some y):v=r.enc y:=by
 cases r with
 | sc k=>exact Kd.dec_eq h
 | ag ks=>
  simp only [RK.dec] at h
  split at h
  ·rename_i cs
   simp only [RK.enc,← decs_eq h]
  ·cases h
@[reducible] def TR:List RK→Type
 | []=>Unit
 | k :: ks=>k.T × TR ks
def encR:(ks:List RK)→TR ks→List Value
 | [],_=>[]
 | k :: ks,x=>k.enc x.1 :: encR ks x.2
def decR:(ks:List RK)→List Value→Option (TR ks)
 | [],l=>match l with | []=>some () | _=>none
 | k :: ks,l=>match l with
  | v :: vs=>match k.dec v with
   | some x=>match decR ks vs with
    | some y=>some (x,y)
    | none=>none
   | none=>none
  | []=>none
theorem decR_eq:∀ {ks:List RK} {l:List Value} {y:TR ks},decR ks l=some y→l=encR ks y
 | [],l,y,h=>by
  cases l <;> simp_all [decR,encR]
 | k :: ks,l,y,h=>by
  cases l with
  | nil=>simp [decR] at h
  | cons v vs=>
   simp only [decR] at h
   split at h
   ·rename_i x hx
    split at h
    ·rename_i z hz
     simp only [Option.some.injEq] at h
     subst h
     simp [encR,RK.dec_eq hx,decR_eq hz]
    ·cases h
   ·cases h
structure Env where
 n:Nat
 f:Nat→Option Value
def Env.length (e:Env):Nat:=e.n
def Env.get (e:Env) (t:Nat):Option Value:=
 match Nat.blt t e.n with
 | true=>e.f t
 | false=>none
def Env.set (e:Env) (t:Nat) (v:Option Value):Env:=⟨e.n,fun u=>match Nat.beq u t with | true=>v | false=>e.f u⟩
def Env.put (e:Env) (d:Option Tmp) (v:Value):Env:=
 match d with
 | some d=>e.set d (some v)
 | none=>e
def bitsOf:List Nat→Nat
 | []=>0
 | t :: ts=>Nat.lor (Nat.shiftLeft 1 t) (bitsOf ts)
def bitE (m t:Nat):Bool:=Nat.beq (Nat.land (Nat.shiftRight m t) 1) 1
theorem bitE_eq (m t:Nat):bitE m t=m.testBit t:=by
 unfold bitE
 show Nat.beq ((m >>> t) &&& 1) 1=_
 rw [Nat.testBit_eq_decide_div_mod_eq,Nat.and_one_is_mod,Nat.shiftRight_eq_div_pow]
 by_cases h:m / 2 ^ t % 2=1
 ·rw [h];rfl
 ·rw [decide_eq_false h]
  cases hb:Nat.beq (m / 2 ^ t % 2) 1 with
  | false=>rfl
  | true=>exact absurd (Nat.eq_of_beq_eq_true hb) h
theorem bitE_of {ts:List Nat} {t:Nat}:bitE (bitsOf ts) t=true ↔ t∈ts:=by
 rw [bitE_eq]
 induction ts with
 | nil=>simp [bitsOf]
 | cons u ts ih=>
  show ((1 <<< u) ||| bitsOf ts).testBit t=true ↔ _
  rw [Nat.testBit_or,Bool.or_eq_true,ih,Nat.shiftLeft_eq,Nat.one_mul,Nat.testBit_two_pow]
  simp [eq_comm]
def Env.forget (e:Env) (ts:List Tmp):Env:=⟨e.n,fun u=>match bitE (bitsOf ts) u with | true=>none | false=>e.f u⟩
theorem Env.length_set (e:Env) (t:Nat) (v:Option Value):(e.set t v).length=e.length:=rfl
theorem beq_ne {u t:Nat} (h:u ≠ t):Nat.beq u t=false:=by
 cases hb:Nat.beq u t with
 | false=>rfl
 | true=>exact absurd (Nat.eq_of_beq_eq_true hb) h
theorem Env.get_set_ne (e:Env) {t u:Nat} (v:Option Value) (h:t ≠ u):(e.set t v).get u=e.get u:=by
 simp only [Env.get,Env.set]
 rw [beq_ne (Ne.symm h)]
theorem Env.get_set_same (e:Env) (t:Nat) (v:Option Value) (h:t < e.length):(e.set t v).get t=v:=by
 simp only [Env.get,Env.set]
 rw [show Nat.blt t e.n=true from Nat.blt_eq ▸ h,show Nat.beq t t=true from Nat.beq_refl t]
theorem Env.get_lt {e:Env} {t:Nat} {v:Value} (h:e.get t=some v):t < e.length:=by
 simp only [Env.get] at h
 split at h
 ·rename_i hb
  exact Nat.blt_eq ▸ hb
 ·cases h
theorem Env.get_set_some {e:Env} {t u:Nat} {x:Option Value} {v:Value} (h:(e.set t x).get u=some v):(t=u∧x=some v)∨(t ≠ u∧e.get u=some v):=by
 by_cases ht:t=u
 ·subst ht
  have hl:=Env.get_lt h
  rw [Env.length_set] at hl
  rw [Env.get_set_same _ _ _ hl] at h
  exact .inl ⟨rfl,h⟩
 ·rw [Env.get_set_ne _ _ ht] at h
  exact .inr ⟨ht,h⟩
structure Knows (ds:List Deferred) (e:Env) (a:Act):Prop where
 size:e.length≤a.tmps.size
 defers:a.defers=ds
 val:∀ t v,e.get t=some v→a.tmps[t]?=some v
theorem Knows.put {ds:List Deferred} {e:Env} {a:Act} (h:Knows ds e a) (d:Option Tmp) (v:Value):Knows ds (e.put d v) (a.put d v):=by
 cases d with
 | none=>exact h
 | some d=>
  refine ⟨?_,h.defers,fun t u hu=>?_⟩
  ·simpa [Env.put,Env.length_set,Act.put] using h.size
  ·simp only [Env.put] at hu
   rcases Env.get_set_some hu with ⟨rfl,hv⟩ | ⟨hne,hv⟩
   ·have hl:=Env.get_lt hu
    rw [Env.length_set] at hl
    have hs:=h.size
    simp only [Act.put]
    rw [Array.getElem?_setIfInBounds_self,if_pos (by omega)]
    exact hv
   ·simp only [Act.put]
    rw [Array.getElem?_setIfInBounds_ne hne]
    exact h.val t u hv
theorem Env.forget_get {e:Env} {ts:List Tmp} {t:Nat} {v:Value} (h:(e.forget ts).get t=some v):t ∉ ts∧e.get t=some v:=by
 simp only [Env.get,Env.forget] at h ⊢
 split at h
 ·rename_i hb
  split at h
  ·cases h
  ·rename_i hm
   exact ⟨(fun hh=>by rw [bitE_of.2 hh] at hm;cases hm),h⟩
 ·cases h
theorem Knows.forget {ds:List Deferred} {e:Env} {a:Act} (h:Knows ds e a) (ts:List Tmp):Knows ds (e.forget ts) a:=
 ⟨h.size,h.defers,fun u v hv=>h.val u v (Env.forget_get hv).2⟩
theorem Knows.set_some {ds:List Deferred} {e:Env} {a:Act} (h:Knows ds e a) {t:Nat} {v:Value} (hv:a.tmps[t]?=some v):Knows ds (e.set t (some v)) a:=
 ⟨by rw [Env.length_set];exact h.size,h.defers,fun u w hw=>by
  rcases Env.get_set_some hw with ⟨rfl,hh⟩ | ⟨_,hh⟩
  ·rw [hv,hh]
  ·exact h.val u w hh⟩
def rho (e:Env):Operand→Value
 | .tmp t=>match e.get t with
  | some v=>v
  | none=>undef
 | .const v=>v
 | .global g=>.pointer (some ⟨g,0,none⟩)
 | .func f=>.func (.func f) #[] #[]
def known1 (e:Env):Operand→Bool
 | .tmp t=>match e.get t with
  | some _=>true
  | none=>false
 | _=>true
theorem Knows.rho {ds:List Deferred} {e:Env} {a:Act} (h:Knows ds e a) {x:Operand} (hx:known1 e x=true):rho e x=a.eval x:=by
 cases x with
 | tmp t=>
  simp only [known1] at hx
  simp only [Sx.rho,Act.eval]
  split at hx
  ·rename_i v hv
   have:=h.val t v hv
   simp [this]
  ·cases hx
 | _=>rfl
abbrev Pr:=World→Prop
def F:Pr:=fun _=>False
def Req (p:Prop) (K:Pr):Pr:=fun w=>p∧K w
def Br (c:Bool) (T E:Pr):Pr:=fun w=>match c with | true=>T w | false=>E w
def Jp {σ:Type} (J:σ→Pr) (A:(σ→Pr)→Pr):Pr:=A J
def Lp {σ:Type} (body:(σ→Pr)→σ→Pr) (s:σ):Pr:=fun w=>
 ∃ I:Nat→σ→World→Prop,(∃ n,I n s w)∧∀ n s w,I n s w→body (fun s' w'=>∃ m,m < n∧I m s' w') s w
def LdB (a:Addr) (K:Bool→Pr):Pr:=fun w=>∃ x,w.cell? a=some (.bool x)∧K x w
def LdI (k:IntKind) (a:Addr) (K:Int→Pr):Pr:=fun w=>∃ x,w.cell? a=some (.int k x)∧K x w
def LdS (a:Addr) (K:ByteArray→Pr):Pr:=fun w=>∃ x,w.cell? a=some (.string x)∧K x w
def LdP (a:Addr) (K:Option Addr→Pr):Pr:=fun w=>∃ x,w.cell? a=some (.pointer x)∧K x w
def LdL (a:Addr) (K:Sl→Pr):Pr:=fun w=>∃ x:Sl,w.cell? a=some (.slice x.p x.len x.cap)∧K x w
def LdM (a:Addr) (K:Option Nat→Pr):Pr:=fun w=>∃ x,w.cell? a=some (.map x)∧K x w
def LdV (a:Addr) (K:Value→Pr):Pr:=fun w=>∃ x,w.cell? a=some x∧K x w
def Ld:(k:Kd)→Addr→(k.T→Pr)→Pr
 | .b,a,K=>LdB a K
 | .i k,a,K=>LdI k a K
 | .s,a,K=>LdS a K
 | .p,a,K=>LdP a K
 | .sl,a,K=>LdL a K
 | .m,a,K=>LdM a K
 | .v,a,K=>LdV a K
theorem Ld_elim {k:Kd} {a:Addr} {K:k.T→Pr} {w:World} (h:Ld k a K w):∃ x,w.cell? a=some (k.enc x)∧K x w:=by
 cases k <;> exact h
def LdR:(ks:List Kd)→Addr→Nat→(List Value→Pr)→Pr
 | [],_,_,K=>K []
 | k :: ks,a,i,K=>Ld k (a.add i) fun x=>LdR ks a (i + 1) fun vs=>K (k.enc x :: vs)
def LdN (n:Nat) (a:Addr) (K:List Value→Pr):Pr:=fun w=>
 ∃ vs:List Value,vs.length=n∧(∀ j v,vs[j]?=some v→w.cell? (a.add j)=some v)∧K vs w
def St (a:Addr) (v:Value) (K:Pr):Pr:=fun w=>
 v.oneCell'=true∧(∃ x,w.cell? a=some x)∧w.frozen? a=false∧K (w.setCell a v)
def StR:List Value→Addr→Nat→Pr→Pr
 | [],_,_,K=>K
 | v :: vs,a,i,K=>St (a.add i) v (StR vs a (i + 1) K)
def StN (n:Nat) (a:Addr) (vs:List Value) (K:Pr):Pr:=fun w=>vs.length=n∧StR vs a 0 K w
def New (cs:Array Value) (t:TypeId) (K:Addr→Pr):Pr:=fun w=>K ⟨w.heap.size,0,none⟩ (w.alloc (.cells cs t))
def NewObj (o:Obj) (K:Nat→Pr):Pr:=fun w=>K w.heap.size (w.alloc o)
def Nn (p:Option Addr) (K:Addr→Pr):Pr:=match p with | some a=>K a | none=>F
def Ix (s:Sl) (i:Int) (size:Nat) (K:Addr→Pr):Pr:=fun w=>
 match s.p with
 | some a=>0≤i∧i < s.len∧K (a.add (i.toNat * size)) w
 | none=>False
def IxR (a:Addr) (n:Nat) (i:Int) (size:Nat) (K:Addr→Pr):Pr:=fun w=>0≤i∧i < n∧K (a.add (i.toNat * size)) w
def IxS (s:ByteArray) (i:Int) (K:Int→Pr):Pr:=fun w=>0≤i∧∃ b,s[i.toNat]?=some b∧K (b.toNat:Int) w
def IxG (cs:List Value) (n:Nat) (i:Int) (size:Nat) (K:Value→Pr):Pr:=fun w=>0≤i∧i < n∧∃ v,cs[i.toNat * size]?=some v∧K v w
end Go.Sx
set_option linter.unusedSimpArgs false
namespace Go.Sx
open Go
def WF (r:Option Nat):Fence:={ Fence.wide with round:=r }
theorem room_WF (r:Option Nat) (n:Nat):(WF r).room n:=fun _ h=>by simp [WF,Fence.wide] at h
theorem callsIn_WF {P:Program} {r:Option Nat} {n:Nat} {f:FuncId} {args:Array Value} {w:World} {R:Ending→World→Prop} (h:Calls P f args w R):CallsIn (WF r) n P f args w R:=
 ⟨trivial,fun cs _=>(callsIn_wide (n:=n).2 h).2 cs (room_wide _)⟩
theorem callsIn_of_WF {P:Program} {r:Option Nat} {n:Nat} {f:FuncId} {args:Array Value} {w:World} {R:Ending→World→Prop} (h:CallsIn (WF r) n P f args w R):Calls P f args w R:=
 callsIn_wide (n:=n).1 ⟨trivial,fun cs _=>h.2 cs (room_WF _ _)⟩
theorem roundIn_WF {P:Program} {r r':Option Nat} {n n':Nat} {l:Nat} {f:FuncId} {tmps:Array Value} {assign body:Code} {w:World} {R:Ending→World→Prop} (h:RoundIn (WF r) n P l f tmps assign body w R):RoundIn (WF r') n' P l f tmps assign body w R:=
 ⟨trivial,fun c cs _=>h.2 c cs (room_WF _ _)⟩
def DoesP (P:Program) (o:Oper) (ρ:Operand→Value) (K:Value→Pr) (w:World):Prop:=
 ∃ v,(∀ w',(execOp ρ o).run P w'=.ok (.value v) w')∧K v w
def DoesQ (P:Program) (o:Oper) (ρ:Operand→Value) (K:Value→Pr) (w:World):Prop:=
 ∃ v,(execOp ρ o).run P w=.ok (.value v) w∧K v w
def Does (P:Program) (o:Oper) (ρ:Operand→Value) (K:Value→Pr) (w:World):Prop:=
 ∀ (r:Option Nat) (a:Act) (next:Act→World→Prop) (Q:Exit→Act→World→Prop),(∀ v w',K v w'→next (a.put o.dst v) w')→o.uponIn (WF r) 0 P a next Q ((execOp ρ o).run P w)
theorem DoesP.q {P:Program} {o:Oper} {ρ:Operand→Value} {K:Value→Pr} {w:World} (h:DoesP P o ρ K w):DoesQ P o ρ K w:=
 let ⟨v,hv,hk⟩:=h;⟨v,hv w,hk⟩
theorem DoesQ.does {P:Program} {o:Oper} {ρ:Operand→Value} {K:Value→Pr} {w:World} (h:DoesQ P o ρ K w):Does P o ρ K w:=by
 obtain ⟨v,hv,hk⟩:=h
 intro r a next Q hn
 rw [hv]
 exact hn _ _ hk
theorem does_value {P:Program} {o:Oper} {ρ:Operand→Value} {K:Value→Pr} {w w':World} {v:Value} (h:(execOp ρ o).run P w=.ok (.value v) w') (hk:K v w'):Does P o ρ K w:=by
 intro r a next Q hn
 rw [h]
 exact hn _ _ hk
theorem does_skip {P:Program} {o:Oper} {ρ:Operand→Value} {K:Value→Pr} {w w':World} (h:(execOp ρ o).run P w=.ok .skip w') (hk:K undef w'):Does P o ρ K w:=by
 intro r a next Q hn
 rw [h]
 exact hn _ _ hk
theorem does_enter {P:Program} {o:Oper} {ρ:Operand→Value} {K:Value→Pr} {w w':World} {f:FuncId} {args:Array Value} (h:(execOp ρ o).run P w=.ok (.enter f args) w')
  (hk:Calls P f args w' fun | .returned v,w''=>K v w'' | _,_=>False):Does P o ρ K w:=by
 intro r a next Q hn
 rw [h]
 refine ⟨fun h=>by simp [WF,Fence.wide] at h,(callsIn_WF (hk.mono fun e w'' he=>?_))⟩
 cases e with
 | returned v=>exact hn _ _ he
 | panicked c=>exact he.elim
 | outgrown=>exact he.elim
theorem does_round {P:Program} {o:Oper} {ρ:Operand→Value} {K:Value→Pr} {w w':World} {l:Nat} {f:FuncId} {tmps:Array Value} {as bd:Code} (h:(execOp ρ o).run P w=.ok (.round l f tmps as bd) w')
  (hk:RoundIn (WF none) 0 P l f tmps as bd w' fun | .returned v,w''=>K v w'' | _,_=>False):Does P o ρ K w:=by
 intro r a next Q hn
 rw [h]
 refine ⟨fun h=>by simp [WF,Fence.wide] at h,(roundIn_WF hk).mono fun e w'' he=>?_⟩
 cases e with
 | returned v=>exact hn _ _ he
 | panicked c=>exact he.elim
 | outgrown=>exact he.elim
def kd (P:Program) (t:TypeId):Option Kd:=
 match P.underlying t with
 | some .bool=>some .b
 | some (.int k)=>some (.i k)
 | some .string=>some .s
 | some (.pointer _)=>some .p
 | some (.slice _)=>some .sl
 | some (.map _ _)=>some .m
 | some (.interface _)=>some .v
 | some (.func _ _ _)=>some .v
 | _=>none
def kds (P:Program):Nat→TypeId→Option (List Kd)
 | 0,_=>none
 | d + 1,t=>match P.underlying t with
  | some (.struct fs)=>fs.toList.foldr (fun f acc=>match kds P d f.type,acc with | some a,some b=>some (a ++ b) | _,_=>none) (some [])
  | some (.array n e)=>match kds P d e with
   | some a=>some (List.replicate n a).flatten
   | none=>none
  | _=>match kd P t with
   | some k=>some [k]
   | none=>none
def isAggB (P:Program) (t:TypeId):Bool:=
 match P.underlying t with
 | some (.struct _)=>true
 | some (.array _ _)=>true
 | _=>false
def intD (op:BinOp) (k:IntKind) (a b:Int) (K:Value→Pr):Pr:=
 match op with
 | .add=>K (.int k (k.wrap (a + b)))
 | .sub=>K (.int k (k.wrap (a - b)))
 | .mul=>K (.int k (k.wrap (a * b)))
 | .quo=>Req (b ≠ 0) (K (.int k (k.wrap (a.tdiv b))))
 | .rem=>Req (b ≠ 0) (K (.int k (a.tmod b)))
 | .and=>K (.int k (k.wrap ((BitVec.ofInt k.bits a) &&& (BitVec.ofInt k.bits b)).toNat))
 | .or=>K (.int k (k.wrap ((BitVec.ofInt k.bits a) ||| (BitVec.ofInt k.bits b)).toNat))
 | .xor=>K (.int k (k.wrap ((BitVec.ofInt k.bits a) ^^^ (BitVec.ofInt k.bits b)).toNat))
 | .andNot=>K (.int k (k.wrap ((BitVec.ofInt k.bits a) &&& ~~~(BitVec.ofInt k.bits b)).toNat))
 | .eql=>K (.bool (a == b))
 | .neq=>K (.bool (a != b))
 | .lss=>K (.bool (a < b))
 | .leq=>K (.bool (a≤b))
 | .gtr=>K (.bool (a > b))
 | .geq=>K (.bool (a ≥ b))
 | .shl=>Req (0≤b) (K (.int k (k.wrap (a * 2 ^ (min b.toNat k.bits)))))
 | .shr=>Req (0≤b) (K (.int k (a.fdiv (2 ^ (min b.toNat k.bits)))))
def seq (a b:ByteArray):Bool:=a.toList == b.toList
def slt (a b:ByteArray):Bool:=Op.bytesLess a.toList b.toList
def strD (op:BinOp) (a b:ByteArray) (K:Value→Pr):Pr:=
 match op with
 | .add=>Req (((a.size + b.size:Nat):Int)≤9223372036854775807) (K (.string (a ++ b)))
 | .eql=>K (.bool (seq a b))
 | .neq=>K (.bool (!(seq a b)))
 | .lss=>K (.bool (slt a b))
 | .leq=>K (.bool (slt a b || seq a b))
 | .gtr=>K (.bool (!(slt a b || seq a b)))
 | .geq=>K (.bool (!(slt a b)))
 | _=>F
def eqD (op:BinOp) (b:Bool) (K:Value→Pr):Pr:=
 match op with
 | .eql=>K (.bool b)
 | .neq=>K (.bool (!b))
 | _=>F
def eq1 (P:Program) (t:TypeId) (x y:Value):Option Bool:=
 match P.underlying t with
 | some .bool=>match x with
  | .bool a=>match y with | .bool b=>some (a == b) | _=>none
  | _=>none
 | some (.int _)=>match x with
  | .int k a=>match y with | .int k' b=>if k=k' then some (a == b) else none | _=>none
  | _=>none
 | some .string=>match x with
  | .string a=>match y with | .string b=>some (seq a b) | _=>none
  | _=>none
 | _=>none
def eqG (P:Program) (rec:TypeId→List Value→List Value→Option Bool) (xs ys:List Value):List Field→Option Bool
 | []=>some true
 | f :: fs => match decide (f.name ≠ "_") with
  | true=>match (match isAggB P f.type with
   | false=>match xs[f.offset]? with
    | some x=>match ys[f.offset]? with
     | some y=>eq1 P f.type x y
     | none=>none
    | none=>none
   | true=>match P.info? f.type with
    | some i=>rec f.type ((xs.drop f.offset).take i.size) ((ys.drop f.offset).take i.size)
    | none=>none) with
   | some b=>match eqG P rec xs ys fs with
    | some r=>some (b && r)
    | none=>none
   | none=>none
  | false=>none
def eqT (P:Program):Nat→TypeId→List Value→List Value→Option Bool
 | 0,_,_,_=>none
 | n + 1,t,xs,ys=>match P.underlying t with
  | some (.struct fs)=>match P.stoodInHeld t with
   | false=>eqG P (eqT P n) xs ys fs.toList
   | true=>none
  | _=>none
def isNilI:Value→Option Bool
 | .nilIface=>some true
 | .iface _ _=>some false
 | _=>none
def isNilF:Value→Option Bool
 | .nilFunc=>some true
 | .func _ _ _=>some false
 | _=>none
def eqL (P:Program) (t:TypeId):List Value→List Value→Option Bool
 | [],l=>match l with
  | []=>some true
  | _ :: _=>none
 | x :: xs,l=>match l with
  | y :: ys=>match eq1 P t x y with
   | some b=>match eqL P t xs ys with
    | some r=>some (b && r)
    | none=>none
   | none=>none
  | []=>none
def EqA (P:Program) (t:TypeId) (n:Nat) (xs ys:List Value) (K:Bool→Pr):Pr:=fun w=>xs.length=n∧∃ b,eqL P t xs ys=some b∧K b w
def NilI (x:Value) (K:Bool→Pr):Pr:=fun w=>∃ b,isNilI x=some b∧K b w
def NilF (x:Value) (K:Bool→Pr):Pr:=fun w=>∃ b,isNilF x=some b∧K b w
def PtrE (a b:Option Addr) (K:Bool→Pr):Pr:=
 match b with
 | none=>K a.isNone
 | some _=>match a with
  | none=>K false
  | some _=>F
def isConst:Operand→Bool
 | .const _=>true
 | _=>false
def binD (P:Program) (op:BinOp) (t:TypeId) (yc:Bool) (x y:Value) (K:Value→Pr) (w:World):Prop:=
 match y with
 | .int k' b=>match x with
  | .int k a=>match op with
   | .shl=>intD .shl k a b K w
   | .shr=>intD .shr k a b K w
   | op=>match decide (k=k') with
    | true=>intD op k a b K w
    | false=>F w
  | _=>F w
 | .string b=>match x with
  | .string a=>strD op a b K w
  | _=>F w
 | .bool b=>match P.underlying t with
  | some .bool=>match x with
   | .bool a=>eqD op (a == b) K w
   | _=>F w
  | _=>F w
 | .pointer b=>match P.underlying t with
  | some (.pointer _)=>match x with
   | .pointer a=>PtrE a b (fun r=>eqD op r K) w
   | _=>F w
  | _=>F w
 | .slice b _ _=>match P.underlying t with
  | some (.slice _)=>match b with
   | none=>match x with
    | .slice a _ _=>eqD op a.isNone K w
    | _=>F w
   | some _=>F w
  | _=>F w
 | .map b=>match P.underlying t with
  | some (.map _ _)=>match b with
   | none=>match x with
    | .map a=>eqD op a.isNone K w
    | _=>F w
   | some _=>F w
  | _=>F w
 | .nilIface=>match yc with
  | true=>match P.underlying t with
   | some (.interface _)=>NilI x (fun b=>eqD op b K) w
   | _=>F w
  | false=>F w
 | .nilFunc=>match P.underlying t with
  | some (.func _ _ _)=>NilF x (fun b=>eqD op b K) w
  | _=>F w
 | .agg ys=>match x with
  | .agg xs=>match !(P.eqGuardType P.depth t) && !(P.stoodInHeld t) with
   | true=>match P.underlying t with
    | some (.struct fs)=>match eqG P (eqT P 4) xs.toList ys.toList fs.toList with
     | some b=>eqD op b K w
     | none=>F w
    | some (.array n e)=>match P.info? e with
     | some inf=>match decide (inf.size=1) && !(isAggB P e) with
      | true=>EqA P e n xs.toList ys.toList (fun b=>eqD op b K) w
      | false=>F w
     | none=>F w
    | _=>F w
   | false=>F w
  | _=>F w
 | _=>F w
theorem run_eqGuard_nagg {P : Program} {w : World} (op : BinOp) (t : TypeId) (x y : Operand) (a b : Value) (h1 : ∀ z, b ≠ .agg z) (h2 : b = .nilIface → isConst y = true) : (eqGuard op t x y a b).run P w = .ok () w := by
  cases op <;> simp only [eqGuard] <;> cases b <;> first
    | rfl
    | (exact absurd rfl (h1 _))
    | (cases a <;> first
        | rfl
        | (have hc := h2 rfl
           cases y <;> simp [isConst] at hc
           simp))
theorem int_D {P:Program} {op:BinOp} {k:IntKind} {a b:Int} {K:Value→Pr} {w:World} (h:intD op k a b K w) (t:TypeId):∃ v,(∀ w',(binOp op t (.int k a) (.int k b)).run P w'=.ok v w')∧K v w:=by
 cases op <;> simp only [intD,Req] at h
 case shl=>exact ⟨_,fun w'=>by simp only [binOp,Op.shift];rw [if_neg (by omega)];rfl,h.2⟩
 case shr=>exact ⟨_,fun w'=>by simp only [binOp,Op.shift];rw [if_neg (by omega)];rfl,h.2⟩
 case quo=>exact ⟨_,fun w'=>by simp [binOp,Op.intDiv,h.1],h.2⟩
 case rem=>exact ⟨_,fun w'=>by simp [binOp,Op.intDiv,h.1],h.2⟩
 all_goals exact ⟨_,fun w'=>by simp [binOp,Op.intArith,Op.intBits,Op.intCmp],h⟩
theorem str_D {P:Program} {op:BinOp} {a b:ByteArray} {K:Value→Pr} {w:World} (h:strD op a b K w) (t:TypeId):∃ v,(∀ w',(binOp op t (.string a) (.string b)).run P w'=.ok v w')∧K v w:=by
 cases op <;> simp only [strD,Req,F] at h <;> first
  | exact h.elim
  | exact ⟨_,fun w'=>by simp only [binOp,Op.stringOp];rw [if_neg (by simp only [IntKind.max,IntKind.signed,IntKind.bits];omega)];rfl,h.2⟩
  | exact ⟨_,fun w'=>rfl,h⟩
theorem eq_D {P:Program} {op:BinOp} {b:Bool} {K:Value→Pr} {w:World} (h:eqD op b K w) (t:TypeId) (x y:Value) (hb:∀ w',(Op.equal t x y).run P w'=.ok b w')
  (he:binOp .eql t x y=(do pure (.bool (← Op.equal t x y)))) (hn:binOp .neq t x y=(do pure (.bool (!(← Op.equal t x y))))) :
  ∃ v,(∀ w',(binOp op t x y).run P w'=.ok v w')∧K v w:=by
 cases op <;> simp only [eqD,F] at h <;> first
  | exact h.elim
  | exact ⟨_,fun w'=>by rw [he];simp [hb],h⟩
  | exact ⟨_,fun w'=>by rw [hn];simp [hb],h⟩
theorem eq1_run {P:Program} {t:TypeId} {x y:Value} {b:Bool} (h:eq1 P t x y=some b) (d:Nat) (w:World):(Op.equalIn (d + 1) t x y).run P w=.ok b w:=by
 unfold eq1 at h
 split at h
 ·rename_i hu
  split at h <;> (try split at h) <;> simp_all [run_equalIn_bool]
 ·rename_i hu
  split at h <;> (try split at h) <;> (try split at h) <;> simp_all [run_equalIn_int _ _ _ _ _ _ _ hu]
 ·rename_i hu
  split at h <;> (try split at h) <;> simp_all [run_equalIn_string,seq]
 ·cases h
theorem run_part_one {P:Program} {t:TypeId} {cs:Array Value} {off:Nat} {v:Value} (hg:isAggB P t=false) (hu:∃ d,P.underlying t=some d) (h:cs[off]?=some v) (w:World):(part t cs off).run P w=.ok v w:=by
 obtain ⟨d,hu⟩:=hu
 have hi:(isAgg t).run P w=.ok false w:=by
  simp only [isAgg,Sem.run_bind,run_underlying hu,Result.andThen_ok]
  simp only [isAggB,hu] at hg
  split at hg <;> simp_all
 simp only [part,Sem.run_bind,hi,Result.andThen_ok,Bool.false_eq_true,if_false,h]
 rfl
theorem eq1_under {P:Program} {t:TypeId} {x y:Value} {b:Bool} (h:eq1 P t x y=some b):∃ d,P.underlying t=some d:=by
 unfold eq1 at h
 split at h <;> first | exact ⟨_,‹_›⟩ | cases h
theorem isAggB_desc {P:Program} {t:TypeId} (h:isAggB P t=true):∃ d,P.underlying t=some d∧((∃ fs,d=.struct fs)∨∃ n e,d=.array n e):=by
 unfold isAggB at h
 split at h
 ·exact ⟨_,‹_›,.inl ⟨_,rfl⟩⟩
 ·exact ⟨_,‹_›,.inr ⟨_,_,rfl⟩⟩
 ·cases h
theorem run_part_agg {P:Program} {t:TypeId} {cs:Array Value} {off:Nat} {i:TypeInfo} (hg:isAggB P t=true) (hi:P.info? t=some i) (w:World):(part t cs off).run P w=.ok (.agg ((cs.toList.drop off).take i.size).toArray) w:=by
 obtain ⟨d,hd,hd'⟩:=isAggB_desc hg
 have hia:(isAgg t).run P w=.ok true w:=by
  simp only [isAgg,Sem.run_bind,run_underlying hd,Result.andThen_ok]
  rcases hd' with ⟨fs,rfl⟩ | ⟨n,e,rfl⟩ <;> rfl
 have hsz:(Go.sizeOf t).run P w=.ok i.size w:=by simp [Go.sizeOf,typeInfo,hi]
 simp only [part,Sem.run_bind,hia,if_true,hsz,Result.andThen_ok,Sem.run_pure]
 congr 2
 apply Array.toList_inj.1
 simp [Array.toList_extract,List.extract,List.take_drop]
theorem eqG_run {P:Program} {rec:TypeId→List Value→List Value→Option Bool} (d:Nat) (hrec:∀ t xs ys b,rec t xs ys=some b→∀ w,(Op.equalIn (d + 1) t (.agg xs.toArray) (.agg ys.toArray)).run P w=.ok b w) {xs ys:Array Value} :
  ∀ {fs:List Field} {b:Bool},eqG P rec xs.toList ys.toList fs=some b→∀ w,(Op.eqFields (d + 1) xs ys fs).run P w=.ok b w
 | [],b,h,w=>by
  simp only [eqG,Option.some.injEq] at h
  subst h
  rfl
 | f :: fs,b,h,w=>by
  simp only [eqG] at h
  split at h
  ·rename_i hc
   simp only [decide_eq_true_eq] at hc
   split at h
   ·rename_i b1 hb1
    split at h
    ·rename_i r hr
     simp only [Option.some.injEq] at h
     subst h
     have ih:=eqG_run d hrec hr
     split at hb1
     ·rename_i hg
      split at hb1
      ·rename_i x hx
       split at hb1
       ·rename_i y hy
        have hu:=eq1_under hb1
        simp only [Op.eqFields,if_pos hc,Sem.run_bind,run_part_one hg hu (by simpa using hx) w,run_part_one hg hu (by simpa using hy) w,Result.andThen_ok,eq1_run hb1,Sem.run_ite,ih]
        cases b1 <;> simp
       ·cases hb1
      ·cases hb1
     ·rename_i hg
      split at hb1
      ·rename_i i hi
       simp only [Op.eqFields,if_pos hc,Sem.run_bind,run_part_agg hg hi w,Result.andThen_ok,hrec _ _ _ _ hb1,Sem.run_ite,ih]
       cases b1 <;> simp
      ·cases hb1
    ·cases h
   ·cases h
  ·cases h
theorem eqT_run {P:Program}:∀ {n d:Nat},n≤d→∀ {t:TypeId} {xs ys:List Value} {b:Bool},eqT P n t xs ys=some b→∀ w,(Op.equalIn (d + 1) t (.agg xs.toArray) (.agg ys.toArray)).run P w=.ok b w
 | 0,d,_,t,xs,ys,b,h,w=>by simp [eqT] at h
 | n + 1,d,hd,t,xs,ys,b,h,w=>by
  simp only [eqT] at h
  split at h
  ·rename_i fs hu
   split at h
   ·rename_i hs
    have hf:P.fieldsOf t=fs:=by simp [Program.fieldsOf,hu]
    have hu':P.underlying t=some (.struct (P.fieldsOf t)):=by rw [hf];exact hu
    rw [run_equalIn_struct w d t _ _ hu' hs,hf]
    cases d with
    | zero=>omega
    | succ d=>exact eqG_run d (fun t' xs' ys' b' h' w'=>eqT_run (n:=n) (d:=d) (by omega) h' w') (xs:=xs.toArray) (ys:=ys.toArray) (by simpa using h) w
   ·cases h
  ·cases h
theorem eqItems_run {P:Program} {t:TypeId} (d:Nat) (hg:isAggB P t=false):∀ {xs ys:List Value} {b:Bool},eqL P t xs ys=some b→∀ (X Y:Array Value) (k:Nat),(∀ j v,xs[j]?=some v→X[k + j]?=some v)→(∀ j v,ys[j]?=some v→Y[k + j]?=some v) →
  ∀ w,(Op.eqItems (d + 1) t 1 X Y (List.range' k xs.length)).run P w=.ok b w
 | [],l,b,h,X,Y,k,hx,hy,w=>by
  cases l <;> simp_all [eqL,Op.eqItems]
 | x :: xs,l,b,h,X,Y,k,hx,hy,w=>by
  cases l with
  | nil=>simp [eqL] at h
  | cons y ys=>
   simp only [eqL] at h
   split at h
   ·rename_i b1 hb1
    split at h
    ·rename_i r hr
     simp only [Option.some.injEq] at h
     subst h
     have hu:=eq1_under hb1
     have ih:=eqItems_run d hg hr X Y (k + 1) (fun j v hj=>by rw [show k + 1 + j=k + (j + 1) from by omega];exact hx (j + 1) v (by simpa using hj)) (fun j v hj=>by rw [show k + 1 + j=k + (j + 1) from by omega];exact hy (j + 1) v (by simpa using hj))
     have h0:X[k * 1]?=some x:=by have:=hx 0 x rfl;simpa using this
     have h1:Y[k * 1]?=some y:=by have:=hy 0 y rfl;simpa using this
     simp only [List.length_cons,List.range'_succ,Op.eqItems,Sem.run_bind,run_part_one hg hu h0 w,run_part_one hg hu h1 w,Result.andThen_ok,eq1_run hb1,Sem.run_ite,ih]
     cases b1 <;> simp
    ·cases h
   ·cases h
end Go.Sx
set_option linter.unusedSimpArgs false
set_option linter.unusedVariables false
namespace Go.Sx
open Go
theorem equal_at (t:TypeId) (x y:Value):Op.equal t x y=Op.equalIn (9999 + 1) t x y:=rfl
section
variable {P:Program} (w:World) (d:Nat)
theorem eqIn_pnil {t e:TypeId} (hu:P.underlying t=some (.pointer e)) (a:Option Addr):(Op.equalIn (d + 1) t (.pointer a) (.pointer none)).run P w=.ok a.isNone w:=by
 simp only [Op.equalIn,Sem.run_bind,run_underlying hu,Result.andThen_ok]
 cases a <;> rfl
theorem eqIn_nilp {t e:TypeId} (hu:P.underlying t=some (.pointer e)) (b:Addr):(Op.equalIn (d + 1) t (.pointer none) (.pointer (some b))).run P w=.ok false w:=by
 simp only [Op.equalIn,Sem.run_bind,run_underlying hu,Result.andThen_ok]
 rfl
theorem eqIn_snil {t e:TypeId} (hu:P.underlying t=some (.slice e)) (a:Option Addr) (l c l' c':Nat):(Op.equalIn (d + 1) t (.slice a l c) (.slice none l' c')).run P w=.ok a.isNone w:=by
 simp only [Op.equalIn,Sem.run_bind,run_underlying hu,Result.andThen_ok]
 cases a <;> rfl
theorem eqIn_mnil {t k e:TypeId} (hu:P.underlying t=some (.map k e)) (a:Option Nat):(Op.equalIn (d + 1) t (.map a) (.map none)).run P w=.ok a.isNone w:=by
 simp only [Op.equalIn,Sem.run_bind,run_underlying hu,Result.andThen_ok]
 cases a <;> rfl
theorem eqIn_inil {t:TypeId} {ms:Array (String × TypeId)} (hu:P.underlying t=some (.interface ms)) {x:Value} {b:Bool} (hb:isNilI x=some b):(Op.equalIn (d + 1) t x .nilIface).run P w=.ok b w:=by
 simp only [Op.equalIn,Sem.run_bind,run_underlying hu,Result.andThen_ok]
 cases x <;> simp [isNilI] at hb <;> subst hb <;> rfl
theorem eqIn_fnil {t:TypeId} {ps rs:Array TypeId} {va:Bool} (hu:P.underlying t=some (.func ps rs va)) {x:Value} {b:Bool} (hb:isNilF x=some b):(Op.equalIn (d + 1) t x .nilFunc).run P w=.ok b w:=by
 simp only [Op.equalIn,Sem.run_bind,run_underlying hu,Result.andThen_ok]
 cases x <;> simp [isNilF] at hb <;> subst hb <;> rfl
end
theorem binD_sound {P:Program} {op:BinOp} {t:TypeId} {xo yo:Operand} {x y:Value} {K:Value→Pr} {w:World} (h:binD P op t (isConst yo) x y K w) :
  ∃ v,(∀ w',(do eqGuard op t xo yo x y;binOp op t x y:Sem Value).run P w'=.ok v w')∧K v w:=by
 have key:∀ (hg:∀ w',(eqGuard op t xo yo x y).run P w'=.ok () w'),(∃ v,(∀ w',(binOp op t x y).run P w'=.ok v w')∧K v w) →
   ∃ v,(∀ w',(do eqGuard op t xo yo x y;binOp op t x y:Sem Value).run P w'=.ok v w')∧K v w:=by
  intro hg ⟨v,hv,hk⟩
  exact ⟨v,fun w'=>by simp only [Sem.run_bind,hg,Result.andThen_ok,hv],hk⟩
 cases y with
 | int k' b=>
  simp only [binD] at h
  cases x <;> simp only [F] at h <;> first | exact h.elim | skip
  rename_i k a
  refine key (fun w'=>run_eqGuard_nagg _ _ _ _ _ _ (by simp) (by simp)) ?_
  cases op <;> simp only at h
  case shl=>obtain ⟨v,hv,hk⟩:=int_D (P:=P) h t;exact ⟨v,fun w'=>hv w',hk⟩
  case shr=>obtain ⟨v,hv,hk⟩:=int_D (P:=P) h t;exact ⟨v,fun w'=>hv w',hk⟩
  all_goals
   split at h
   ·rename_i hk
    have hk:k=k':=by simpa using hk
    subst hk
    exact int_D (P:=P) h t
   ·exact h.elim
 | string b=>
  simp only [binD] at h
  cases x <;> simp only [F] at h <;> first | exact h.elim | skip
  exact key (fun w'=>run_eqGuard_nagg _ _ _ _ _ _ (by simp) (by simp)) (str_D h t)
 | bool b=>
  simp only [binD] at h
  split at h
  ·rename_i hu
   cases x <;> simp only [F] at h <;> first | exact h.elim | skip
   exact key (fun w'=>run_eqGuard_nagg _ _ _ _ _ _ (by simp) (by simp)) (eq_D h t _ _ (fun w'=>run_equal_bool w' t _ _ hu) rfl rfl)
  ·exact h.elim
 | pointer b=>
  simp only [binD] at h
  split at h
  ·rename_i e hu
   cases x <;> simp only [F] at h <;> first | exact h.elim | skip
   rename_i a
   cases b with
   | some b=>
    cases a with
    | some a=>exact h.elim
    | none=>
     refine key (fun w'=>run_eqGuard_nagg _ _ _ _ _ _ (by simp) (by simp)) (eq_D h t _ _ (fun w'=>?_) rfl rfl)
     rw [equal_at];exact eqIn_nilp w' 9999 hu _
   | none=>
    refine key (fun w'=>run_eqGuard_nagg _ _ _ _ _ _ (by simp) (by simp)) (eq_D h t _ _ (fun w'=>?_) rfl rfl)
    rw [equal_at];exact eqIn_pnil w' 9999 hu _
  ·exact h.elim
 | slice b l c=>
  simp only [binD] at h
  split at h
  ·rename_i e hu
   cases b with
   | some b=>exact h.elim
   | none=>
    cases x <;> simp only [F] at h <;> first | exact h.elim | skip
    rename_i a _ _
    refine key (fun w'=>run_eqGuard_nagg _ _ _ _ _ _ (by simp) (by simp)) (eq_D h t _ _ (fun w'=>?_) rfl rfl)
    rw [equal_at];exact eqIn_snil w' 9999 hu _ _ _ _ _
  ·exact h.elim
 | map b=>
  simp only [binD] at h
  split at h
  ·rename_i e hu
   cases b with
   | some b=>exact h.elim
   | none=>
    cases x <;> simp only [F] at h <;> first | exact h.elim | skip
    rename_i a
    refine key (fun w'=>run_eqGuard_nagg _ _ _ _ _ _ (by simp) (by simp)) (eq_D h t _ _ (fun w'=>?_) rfl rfl)
    rw [equal_at];exact eqIn_mnil w' 9999 hu _
  ·exact h.elim
 | nilIface=>
  simp only [binD] at h
  split at h
  ·rename_i hc
   split at h
   ·rename_i ms hu
    obtain ⟨b,hb,h⟩:=h
    have hx:binOp .eql t x .nilIface=(do pure (.bool (← Op.equal t x .nilIface)))∧binOp .neq t x .nilIface=(do pure (.bool (!(← Op.equal t x .nilIface)))):=by
     cases x <;> simp [isNilI] at hb <;> exact ⟨rfl,rfl⟩
    refine key (fun w'=>run_eqGuard_nagg _ _ _ _ _ _ (by simp) (fun _=>hc)) (eq_D h t _ _ (fun w'=>?_) hx.1 hx.2)
    rw [equal_at];exact eqIn_inil w' 9999 hu hb
   ·exact h.elim
  ·exact h.elim
 | nilFunc=>
  simp only [binD] at h
  split at h
  ·rename_i ps rs va hu
   obtain ⟨b,hb,h⟩:=h
   have hx:binOp .eql t x .nilFunc=(do pure (.bool (← Op.equal t x .nilFunc)))∧binOp .neq t x .nilFunc=(do pure (.bool (!(← Op.equal t x .nilFunc)))):=by
    cases x <;> simp [isNilF] at hb <;> exact ⟨rfl,rfl⟩
   refine key (fun w'=>run_eqGuard_nagg _ _ _ _ _ _ (by simp) (by simp)) (eq_D h t _ _ (fun w'=>?_) hx.1 hx.2)
   rw [equal_at];exact eqIn_fnil w' 9999 hu hb
  ·exact h.elim
 | agg ys=>
  simp only [binD] at h
  cases x <;> simp only [F] at h <;> first | exact h.elim | skip
  rename_i xs
  split at h
  ·rename_i hc
   simp only [Bool.and_eq_true,Bool.not_eq_true'] at hc
   split at h
   ·rename_i fs hu
    split at h
    ·rename_i b hb
     have hf:P.fieldsOf t=fs:=by simp [Program.fieldsOf,hu]
     have hu':P.underlying t=some (.struct (P.fieldsOf t)):=by rw [hf];exact hu
     refine key (fun w'=>run_eqGuard_agg w' op t xo yo xs ys hc.1) (eq_D h t _ _ (fun w'=>?_) rfl rfl)
     rw [equal_at,run_equalIn_struct w' 9999 t xs ys hu' hc.2,hf]
     exact eqG_run 9998 (fun t' xs' ys' b' h' w''=>eqT_run (n:=4) (d:=9998) (by omega) h' w'') hb w'
    ·exact h.elim
   ·rename_i n e hu
    split at h
    ·rename_i inf hinf
     split at h
     ·rename_i hq
      simp only [Bool.and_eq_true,decide_eq_true_eq,Bool.not_eq_true'] at hq
      obtain ⟨hl,b,hb,h⟩:=h
      refine key (fun w'=>run_eqGuard_agg w' op t xo yo xs ys hc.1) (eq_D h t _ _ (fun w'=>?_) rfl rfl)
      rw [equal_at,run_equalIn_array w' 9999 xs ys hu hinf]
      have hcs:P.cellsOf e=1:=by simp [Program.cellsOf,hinf,hq.1]
      have:=eqItems_run 9998 hq.2 hb xs ys 0 (fun j v hj=>by simpa using hj) (fun j v hj=>by simpa using hj) w'
      rw [hcs,List.range_eq_range',← hl]
      exact this
     ·exact h.elim
    ·exact h.elim
   ·exact h.elim
  ·exact h.elim
 | _=>exact h.elim
def unD (op:UnOp) (x:Value) (K:Value→Pr) (w:World):Prop:=
 match x with
 | .int k n=>match op with
  | .neg=>K (.int k (k.wrap (0 - n))) w
  | .xor=>intD .xor k (if k.signed then -1 else k.max) n K w
  | _=>F w
 | .bool b=>match op with
  | .not=>K (.bool (!b)) w
  | _=>F w
 | _=>F w
def convD (P:Program) (src dst:TypeId) (x:Value) (K:Value→Pr) (w:World):Prop:=
 match x with
 | .int _ n=>match P.underlying dst with
  | some (.int k)=>match P.underlying src with
   | some (.int _)=>K (.int k (k.wrap n)) w
   | _=>F w
  | _=>F w
 | .string s=>match P.underlying dst with
  | some .string=>match P.underlying src with
   | some .string=>K (.string s) w
   | _=>F w
  | _=>F w
 | _=>F w
def bnd (x:Option Value) (d y:Nat) (K:Nat→Pr) (w:World):Prop:=
 match x with
 | none=>K d w
 | some v=>match v with
  | .int _ i=>Req (0≤i∧i≤y) (K i.toNat) w
  | _=>F w
def slOff (a:Option Addr) (cap l size:Nat):Option Addr:=if cap=l then a else a.map (·.add (l * size))
def sliceD (P:Program) (t:TypeId) (x:Value) (lo hi:Option Value) (K:Value→Pr) (w:World):Prop:=
 match P.underlying t with
 | some .string=>match x with
  | .string s=>bnd hi s.size s.size (fun h=>bnd lo 0 h fun l=>K (.string (s.extract l h))) w
  | _=>F w
 | some (.slice e)=>match x with
  | .slice a len cap=>match P.info? e with
   | some i=>bnd hi len cap (fun h=>bnd lo 0 h fun l=>K (.slice (slOff a cap l i.size) (h - l) (cap - l))) w
   | none=>F w
  | _=>F w
 | some (.array n e)=>match x with
  | .pointer (some a)=>match P.info? e with
   | some i=>bnd hi n n (fun h=>bnd lo 0 h fun l=>K (.slice (slOff (some a) n l i.size) (h - l) (n - l))) w
   | none=>F w
  | _=>F w
 | _=>F w
def slice3D (P:Program) (t:TypeId) (x:Value) (lo hi:Option Value) (mx:Value) (K:Value→Pr) (w:World):Prop:=
 match P.underlying t with
 | some (.slice e)=>match x with
  | .slice a _ cap=>match P.info? e with
   | some i=>match hi with
    | some hv=>bnd (some mx) 0 cap (fun m=>bnd (some hv) 0 m fun h=>bnd lo 0 h fun l=>K (.slice (slOff a m l i.size) (h - l) (m - l))) w
    | none=>F w
   | none=>F w
  | _=>F w
 | _=>F w
def setRow:List Value→Nat→List Value→List Value
 | l,_,[]=>l
 | l,o,v :: vs=>setRow (l.set o v) (o + 1) vs
theorem foldl_set (cs:List Value):∀ (j off:Nat) (cells:Array Value),
  ((cs.zipIdx j).foldl (fun (a:Array Value) (p:Value × Nat)=>a.setIfInBounds (off + p.2) p.1) cells).toList=setRow cells.toList (off + j) cs:=by
 induction cs with
 | nil=>intro j off cells;rfl
 | cons c cs ih=>
  intro j off cells
  simp only [List.zipIdx_cons,List.foldl_cons,setRow]
  rw [ih]
  simp [Nat.add_assoc]
def fillD (P:Program) (place:Nat→Option (Nat × TypeId)):List (Nat × Value)→List Value→(List Value→Pr)→World→Prop
 | [],cells,K,w=>K cells w
 | (i,v) :: rest,cells,K,w=>match place i with
  | some (off,t)=>match P.info? t with
   | some inf=>match isAggB P t with
    | true=>match v with
     | .agg cs=>match decide (cs.size=inf.size) && decide (off + cs.size≤cells.length) with
      | true=>fillD P place rest (setRow cells off cs.toList) K w
      | false=>F w
     | _=>F w
    | false=>match decide (inf.size=1) && decide (off + 1≤cells.length) with
     | true=>match kd P t with
      | some .v=>Req (v.oneCell'=true) (fillD P place rest (cells.set off v) K) w
      | _=>match v.oneCell' with
       | true=>fillD P place rest (cells.set off v) K w
       | false=>F w
     | false=>F w
   | none=>F w
  | none=>F w
theorem cells_one {v:Value} (h:v.oneCell'=true):v.cells=#[v]:=by
 cases v <;> simp_all [Value.oneCell',Value.cells]
theorem fillD_sound {P:Program} {place:Nat→Option (Nat × TypeId)} {place':Nat→Option (Nat × Nat)} (hp:∀ i off t inf,place i=some (off,t)→P.info? t=some inf→place' i=some (off,inf.size)) :
  ∀ {parts:List (Nat × Value)} {cells:List Value} {K:List Value→Pr} {w:World},fillD P place parts cells K w →
   ∃ r:List Value,Instr.fill place' cells.toArray parts=some r.toArray∧K r w
 | [],cells,K,w,h=>⟨cells,rfl,h⟩
 | (i,v) :: rest,cells,K,w,h=>by
  simp only [fillD] at h
  split at h
  ·rename_i off t hpl
   split at h
   ·rename_i inf hinf
    have hpl':=hp i off t inf hpl hinf
    split at h
    ·cases v <;> simp only [F] at h <;> first | exact h.elim | skip
     rename_i cs
     split at h
     ·rename_i hc
      simp only [Bool.and_eq_true,decide_eq_true_eq] at hc
      obtain ⟨r,hr,hk⟩:=fillD_sound hp h
      refine ⟨r,?_,hk⟩
      simp only [Instr.fill,hpl',Value.cells,List.size_toArray]
      rw [if_neg (by
        have h1:=hc.1
        have h2:=hc.2
        simp [h1]
        omega)]
      rw [← hr]
      congr 1
      have:=foldl_set cs.toList 0 off cells.toArray
      apply Array.toList_inj.1
      rw [← Array.foldl_toList]
      simpa using this
     ·exact h.elim
    ·split at h
     ·rename_i hc
      simp only [Bool.and_eq_true,decide_eq_true_eq] at hc
      have go:v.oneCell'=true→fillD P place rest (cells.set off v) K w→∃ r:List Value,Instr.fill place' cells.toArray ((i,v) :: rest)=some r.toArray∧K r w:=by
       intro hv h
       obtain ⟨r,hr,hk⟩:=fillD_sound hp h
       refine ⟨r,?_,hk⟩
       simp only [Instr.fill,hpl',cells_one hv,List.size_toArray]
       rw [if_neg (by simp;omega)]
       rw [← hr]
       congr 1
       apply Array.toList_inj.1
       simp
      split at h
      ·exact go h.1 h.2
      ·split at h
       ·exact go ‹_› h
       ·exact h.elim
     ·exact h.elim
   ·exact h.elim
  ·exact h.elim
end Go.Sx
set_option linter.unusedSimpArgs false
set_option linter.unusedVariables false
namespace Go.Sx
open Go
def okNil:Value→Bool
 | .pointer none=>false
 | .nilIface=>false
 | .nilFunc=>false
 | .func (.method _) _ _=>false
 | _=>true
def NnV (v:Value) (K:Value→Pr):Pr:=fun w=>okNil v=true∧K v w
def placeS (P:Program) (t:TypeId) (i:Nat):Option (Nat × TypeId):=
 match P.underlying t with
 | some (.struct fs)=>match fs[i]? with
  | some f=>some (f.offset,f.type)
  | none=>none
 | some (.array _ e)=>match P.info? e with
  | some inf=>some (i * inf.size,e)
  | none=>none
 | _=>none
def zeroOf (P:Program) (t:TypeId):Option Value:=
 match P.info? t with
 | some i=>i.zero
 | none=>none
theorem run_zeroOf {P:Program} {t:TypeId} {z:Value} (h:zeroOf P t=some z) (w:World):(zeroValue t).run P w=.ok z w:=by
 unfold zeroOf at h
 split at h
 ·rename_i i hi
  simp [zeroValue,typeInfo,hi,h]
 ·cases h
theorem run_sizeOf' {P:Program} {t:TypeId} {i:TypeInfo} (h:P.info? t=some i) (w:World):(sizeOf t).run P w=.ok i.size w:=by
 simp [sizeOf,typeInfo,h]
def evs (ρ:Operand→Value):List (Nat × Operand)→List (Nat × Value)
 | []=>[]
 | (i,x) :: r=>(i,ρ x) :: evs ρ r
theorem evs_eq (ρ:Operand→Value) (l:Array (Nat × Operand)):(l.map fun (i,x)=>(i,ρ x)).toList=evs ρ l.toList:=by
 simp only [Array.toList_map]
 generalize l.toList=l
 induction l with
 | nil=>rfl
 | cons p l ih=>obtain ⟨i,x⟩:=p;simp only [List.map_cons,evs,ih]
def placesOf (P:Program):List Field→Option (List (Nat × Nat))
 | []=>some []
 | f :: fs=>match P.info? f.type with
  | some i=>match placesOf P fs with
   | some r=>some ((f.offset,i.size) :: r)
   | none=>none
  | none=>none
theorem placesOf_mapM {P:Program}:∀ (fs:List Field),fs.mapM (fun f=>(P.info? f.type).map fun i=>(f.offset,i.size))=placesOf P fs
 | []=>rfl
 | f :: fs=>by
  simp only [List.mapM_cons,placesOf,placesOf_mapM fs,Option.bind_eq_bind,Option.pure_def]
  cases P.info? f.type with
  | none=>rfl
  | some i=>cases placesOf P fs <;> rfl
theorem placesOf_get {P:Program}:∀ {fs:List Field} {r:List (Nat × Nat)},placesOf P fs=some r→∀ {i:Nat} {f:Field} {inf:TypeInfo},fs[i]?=some f→P.info? f.type=some inf→r[i]?=some (f.offset,inf.size)
 | [],r,h,i,f,inf,hf,hi=>by simp at hf
 | g :: fs,r,h,i,f,inf,hf,hi=>by
  simp only [placesOf] at h
  split at h
  ·rename_i j hj
   split at h
   ·rename_i q hq
    simp only [Option.some.injEq] at h
    subst h
    cases i with
    | zero=>simp only [List.getElem?_cons_zero,Option.some.injEq] at hf;subst hf;rw [hj] at hi;simp only [Option.some.injEq] at hi;subst hi;rfl
    | succ i=>simp only [List.getElem?_cons_succ] at hf ⊢;exact placesOf_get hq hf hi
   ·cases h
  ·cases h
def buildD (P:Program) (t:TypeId) (parts:List (Nat × Value)) (K:Value→Pr) (w:World):Prop:=
 match zeroOf P t with
 | some z=>match P.underlying t with
  | some (.struct fs)=>match placesOf P fs.toList with
   | some _=>fillD P (placeS P t) parts z.cells.toList (fun r=>K (.agg r.toArray)) w
   | none=>F w
  | some (.array _ e)=>match P.info? e with
   | some _=>fillD P (placeS P t) parts z.cells.toList (fun r=>K (.agg r.toArray)) w
   | none=>F w
  | _=>F w
 | none=>F w
theorem buildD_sound {P:Program} {t:TypeId} {parts:Array (Nat × Value)} {K:Value→Pr} {w:World} (h:buildD P t parts.toList K w) :
  ∃ v,(∀ w',(Instr.build t parts).run P w'=.ok v w')∧K v w:=by
 simp only [buildD] at h
 split at h
 ·rename_i z hz
  split at h
  ·rename_i fs hu
   split at h
   ·rename_i pl hpl
    obtain ⟨r,hr,hk⟩:=fillD_sound (place':=fun i=>pl[i]?) (fun i off u inf hp hi=>by
     simp only [placeS,hu] at hp
     split at hp
     ·rename_i f hf
      simp only [Option.some.injEq,Prod.mk.injEq] at hp
      obtain ⟨rfl,rfl⟩:=hp
      exact placesOf_get hpl (by simpa using hf) hi
     ·cases hp) h
    refine ⟨_,fun w'=>?_,hk⟩
    have hm:=run_places w' _ _ ((placesOf_mapM _).trans hpl)
    simp only [Array.toArray_toList] at hr
    simp [Instr.build,run_underlying hu,run_zeroOf hz,Array.mapM_eq_mapM_toList,hm,hr]
   ·exact h.elim
  ·rename_i n e hu
   split at h
   ·rename_i inf hinf
    obtain ⟨r,hr,hk⟩:=fillD_sound (place':=fun i=>some (i * inf.size,inf.size)) (fun i off u inf' hp hi=>by
     simp only [placeS,hu,hinf,Option.some.injEq,Prod.mk.injEq] at hp
     obtain ⟨rfl,rfl⟩:=hp
     rw [hinf] at hi
     simp only [Option.some.injEq] at hi
     subst hi
     rfl) h
    refine ⟨_,fun w'=>?_,hk⟩
    simp only [Instr.build,Sem.run_bind,run_zeroOf hz,Result.andThen_ok,run_underlying hu,run_sizeOf' hinf]
    simp only [Array.toArray_toList] at hr
    rw [hr]
    rfl
   ·exact h.elim
  ·exact h.elim
 ·exact h.elim
def fieldD (P:Program) (t:TypeId) (x:Value) (i:Nat) (K:Value→Pr) (w:World):Prop:=
 match P.underlying t with
 | some (.struct fs)=>match fs[i]? with
  | some f=>match x with
   | .agg cs=>match P.info? f.type with
    | some inf=>match P.underlying f.type with
     | some _=>match isAggB P f.type with
      | true=>K (.agg ((cs.toList.drop f.offset).take inf.size).toArray) w
      | false=>match cs.toList[f.offset]? with
       | some v=>K v w
       | none=>F w
     | none=>F w
    | none=>F w
   | _=>F w
  | none=>F w
 | _=>F w
def fieldAddrD (P:Program) (t:TypeId) (x:Value) (i:Nat) (K:Value→Pr) (w:World):Prop:=
 match P.underlying t with
 | some (.struct fs)=>match fs[i]? with
  | some f=>match x with
   | .pointer p=>match P.info? f.type with
    | some inf=>match decide (inf.size=0) with
     | true=>F w
     | false=>Nn p (fun a=>K (.pointer (some (a.add f.offset)))) w
    | none=>F w
   | _=>F w
  | none=>F w
 | _=>F w
def indexAddrD (P:Program) (t:TypeId) (x i:Value) (K:Value→Pr) (w:World):Prop:=
 match i with
 | .int _ n=>match P.underlying t with
  | some (.slice e)=>match x with
   | .slice p l c=>match P.info? e with
    | some inf=>Ix ⟨p,l,c⟩ n inf.size (fun a=>K (.pointer (some a))) w
    | none=>F w
   | _=>F w
  | some (.array len e)=>match x with
   | .pointer p=>match P.info? e with
    | some inf=>Nn p (fun a=>IxR a len n inf.size (fun a=>K (.pointer (some a)))) w
    | none=>F w
   | _=>F w
  | _=>F w
 | _=>F w
def Ty (k:Kd) (v:Value) (K:k.T→Pr):Pr:=fun w=>match k.dec v with
 | some x=>K x w
 | none=>F w
def TyN (v:Value) (K:List Value→Pr):Pr:=fun w=>match v with
 | .agg cs=>K cs.toList w
 | _=>F w
def few (P:Program) (t:TypeId):Option (List Kd):=
 match kds P 8 t with
 | some ks=>match P.info? t with
  | some i=>match decide (ks.length=i.size) with
   | true=>match decide (ks.length≤40) with
    | true=>some ks
    | false=>none
   | false=>none
  | none=>none
 | none=>none
def TyA (ks:List Kd) (v:Value) (K:Tup ks→Pr):Pr:=fun w=>match v with
 | .agg cs=>match decs ks cs.toList with
  | some x=>K x w
  | none=>F w
 | _=>F w
def tyD (P:Program) (t:TypeId) (v:Value) (K:Value→Pr) (w:World):Prop:=
 match isAggB P t with
 | true=>match few P t with
  | some ks=>TyA ks v (fun x=>K (.agg (encs ks x).toArray)) w
  | none=>TyN v (fun l=>K (.agg l.toArray)) w
 | false=>match kd P t with
  | some k=>match k with
   | .v=>K v w
   | k=>Ty k v (fun x=>K (k.enc x)) w
  | none=>K v w
theorem tyD_elim {P:Program} {t:TypeId} {v:Value} {K:Value→Pr} {w:World} (h:tyD P t v K w):K v w:=by
 simp only [tyD] at h
 split at h
 ·split at h
  ·simp only [TyA] at h
   split at h
   ·split at h
    ·rename_i cs _ x hx
     rw [show cs=(encs _ x).toArray from by rw [← decs_eq hx]]
     exact h
    ·exact h.elim
   ·exact h.elim
  ·simp only [TyN] at h
   split at h
   ·simpa using h
   ·exact h.elim
 ·split at h
  ·split at h
   ·exact h
   ·rename_i k _ hk _
    simp only [Ty] at h
    split at h
    ·rename_i x hx
     rw [Kd.dec_eq hx]
     exact h
    ·exact h.elim
  ·exact h
def IxA (cs:List Value) (n:Nat) (i:Int) (size:Nat) (K:Value→Pr):Pr:=fun w=>0≤i∧i < n∧K (.agg ((cs.drop (i.toNat * size)).take size).toArray) w
def indexD (P:Program) (t:TypeId) (x i:Value) (K:Value→Pr) (w:World):Prop:=
 match i with
 | .int _ n=>match P.underlying t with
  | some .string=>match x with
   | .string s=>IxS s n (fun c=>K (.int .u8 c)) w
   | _=>F w
  | some (.array len e)=>match x with
   | .agg cs=>match P.info? e with
    | some inf=>match P.underlying e with
     | some _=>match isAggB P e with
      | false=>IxG cs.toList len n inf.size (fun v=>tyD P e v K) w
      | true=>IxA cs.toList len n inf.size (fun v=>tyD P e v K) w
     | none=>F w
    | none=>F w
   | _=>F w
  | _=>F w
 | _=>F w
def minmaxD (mx:Bool) (x y:Value) (K:Value→Pr) (w:World):Prop:=
 match x with
 | .int k a=>match y with
  | .int _ b=>match mx with
   | true=>K (.int k (if b > a then b else a)) w
   | false=>K (.int k (if b < a then b else a)) w
  | _=>F w
 | .string a=>match y with
  | .string b=>match mx with
   | true=>K (.string (if !(slt a b) then a else b)) w
   | false=>K (.string (if slt a b || seq a b then a else b)) w
  | _=>F w
 | _=>F w
def lenD (P:Program) (t:TypeId) (x:Value) (K:Value→Pr) (w:World):Prop:=
 match P.underlying t with
 | some .string=>match x with
  | .string s=>K (.int .i64 s.size) w
  | _=>F w
 | some (.slice _)=>match x with
  | .slice _ n _=>K (.int .i64 n) w
  | _=>F w
 | some (.array n _)=>K (.int .i64 n) w
 | _=>F w
def capD (P:Program) (t:TypeId) (x:Value) (K:Value→Pr) (w:World):Prop:=
 match P.underlying t with
 | some (.slice _)=>match x with
  | .slice _ _ n=>K (.int .i64 n) w
  | _=>F w
 | some (.array n _)=>K (.int .i64 n) w
 | _=>F w
def nilCheckD (x:Value) (K:Value→Pr) (w:World):Prop:=
 match x with
 | .pointer p=>Nn p (fun a=>K (.pointer (some a))) w
 | v=>NnV v K w
def pureD (P:Program) (o:Oper) (ρ:Operand→Value) (K:Value→Pr) (w:World):Prop:=
 match o.op with
 | .move x=>K (ρ x) w
 | .assign x=>K (ρ x) w
 | .pick c a b=>match ρ c with
  | .bool t=>Br t (K (ρ a)) (K (ρ b)) w
  | _=>F w
 | .nilCheck x=>nilCheckD (ρ x) K w
 | .binOp op t x y _=>binD P op t (isConst y) (ρ x) (ρ y) K w
 | .unOp op _ x=>unD op (ρ x) K w
 | .convert src dst x=>convD P src dst (ρ x) K w
 | .makeInterface t x=>match P.concrete t with
  | true=>K (.iface t (ρ x)) w
  | false=>F w
 | .makeFunc fn first cap=>K (.func fn (first.toList.map ρ).toArray (cap.toList.map ρ).toArray) w
 | .build t parts=>buildD P t (evs ρ parts.toList) K w
 | .slice t x lo hi mx=>match mx with
  | none=>sliceD P t (ρ x) (match lo with | some l=>some (ρ l) | none=>none) (match hi with | some l=>some (ρ l) | none=>none) K w
  | some m=>slice3D P t (ρ x) (match lo with | some l=>some (ρ l) | none=>none) (match hi with | some l=>some (ρ l) | none=>none) (ρ m) K w
 | .field t x i=>fieldD P t (ρ x) i K w
 | .fieldAddr t x i=>fieldAddrD P t (ρ x) i K w
 | .indexAddr t x i=>indexAddrD P t (ρ x) (ρ i) K w
 | .index t x i=>indexD P t (ρ x) (ρ i) K w
 | .extract x i=>match ρ x with
  | .tuple vs=>match vs.toList[i]? with
   | some v=>tyD P o.type v K w
   | none=>F w
  | _=>F w
 | .sliceToArrayPointer t x=>match P.underlying t with
  | some (.array n _)=>match ρ x with
   | .slice a l _=>Req (n≤l) (Nn a (fun a=>K (.pointer (some a)))) w
   | _=>F w
  | _=>F w
 | .call c=>match c.callee with
  | .builtin b=>match b with
   | .len=>match c.argTypes.toList with
    | [t]=>match c.args.toList with
     | [x]=>lenD P t (ρ x) K w
     | _=>F w
    | _=>F w
   | .cap=>match c.argTypes.toList with
    | [t]=>match c.args.toList with
     | [x]=>capD P t (ρ x) K w
     | _=>F w
    | _=>F w
   | .max=>match c.args.toList with
    | [x,y]=>minmaxD true (ρ x) (ρ y) K w
    | _=>F w
   | .min=>match c.args.toList with
    | [x,y]=>minmaxD false (ρ x) (ρ y) K w
    | _=>F w
   | _=>F w
  | _=>F w
 | _=>F w
theorem run_isAgg' {P:Program} {t:TypeId} {d:TypeDesc} (hu:P.underlying t=some d) (w:World):(isAgg t).run P w=.ok (isAggB P t) w:=by
 simp only [isAgg,Sem.run_bind,run_underlying hu,Result.andThen_ok,isAggB,hu]
 cases d <;> rfl
theorem fieldD_sound {P:Program} {t:TypeId} {x:Value} {i:Nat} {K:Value→Pr} {w:World} (h:fieldD P t x i K w) :
  ∃ v,(∀ w',(Instr.field t x i).run P w'=.ok v w')∧K v w:=by
 simp only [fieldD] at h
 split at h
 ·rename_i fs hu
  split at h
  ·rename_i f hf
   cases x <;> simp only [F] at h <;> first | exact h.elim | skip
   rename_i cs
   split at h
   ·rename_i inf hinf
    split at h
    ·rename_i d hd
     split at h
     ·rename_i hg
      refine ⟨_,fun w'=>?_,h⟩
      simp only [Instr.field,Sem.run_bind,run_underlying hu,Result.andThen_ok,hf,asAgg,Sem.run_pure,part,run_isAgg' hd,hg,if_true,run_sizeOf' hinf]
      congr 2
      apply Array.toList_inj.1
      simp [Array.toList_extract,List.extract,List.take_drop]
     ·rename_i hg
      split at h
      ·rename_i v hv
       refine ⟨_,fun w'=>?_,h⟩
       have hv':cs[f.offset]?=some v:=by simpa using hv
       simp only [Instr.field,Sem.run_bind,run_underlying hu,Result.andThen_ok,hf,asAgg,Sem.run_pure,part,run_isAgg' hd,hg,Bool.false_eq_true,if_false,hv']
      ·exact h.elim
    ·exact h.elim
   ·exact h.elim
  ·exact h.elim
 ·exact h.elim
theorem fieldAddrD_sound {P:Program} {t:TypeId} {x:Value} {i:Nat} {K:Value→Pr} {w:World} (h:fieldAddrD P t x i K w) :
  ∃ v,(∀ w',(Instr.fieldAt t x i).run P w'=.ok v w')∧K v w:=by
 simp only [fieldAddrD] at h
 split at h
 ·rename_i fs hu
  split at h
  ·rename_i f hf
   split at h
   ·rename_i p
    split at h
    ·rename_i inf hinf
     split at h
     ·exact h.elim
     ·rename_i hz
      cases p with
      | none=>exact h.elim
      | some a=>
      refine ⟨_,fun w'=>?_,h⟩
      have hz':inf.size ≠ 0:=by simpa using hz
      simp [Instr.fieldAt,run_underlying hu,hf,Instr.sureAddr,fieldPlace,run_sizeOf' hinf,hz']
    ·exact h.elim
   ·exact h.elim
  ·exact h.elim
 ·exact h.elim
theorem indexAddrD_sound {P:Program} {t:TypeId} {x i:Value} {K:Value→Pr} {w:World} (h:indexAddrD P t x i K w) :
  ∃ v,(∀ w',(Instr.indexAt t x i).run P w'=.ok v w')∧K v w:=by
 simp only [indexAddrD] at h
 split at h
 ·rename_i k n
  split at h
  ·rename_i e hu
   split at h
   ·rename_i p l c
    split at h
    ·rename_i inf hinf
     simp only [Ix] at h
     split at h
     ·rename_i a
      obtain ⟨h1,h2,h⟩:=h
      refine ⟨_,fun w'=>?_,h⟩
      simp only [Instr.indexAt,asIntOf,Sem.run_bind,Sem.run_pure,Result.andThen_ok,run_underlying hu,run_sizeOf' hinf]
      rw [if_pos ⟨h1,h2⟩]
      simp [run_sizeOf' hinf]
     ·exact h.elim
    ·exact h.elim
   ·exact h.elim
  ·rename_i len e hu
   split at h
   ·rename_i p
    split at h
    ·rename_i inf hinf
     cases p with
     | none=>exact h.elim
     | some a=>
     obtain ⟨h1,h2,h⟩:=h
     refine ⟨_,fun w'=>?_,h⟩
     simp only [Instr.indexAt,asIntOf,Sem.run_bind,Sem.run_pure,Result.andThen_ok,run_underlying hu,run_sizeOf' hinf,Instr.sureAddr]
     rw [if_pos ⟨h1,h2⟩]
     simp [run_sizeOf' hinf]
    ·exact h.elim
   ·exact h.elim
  ·exact h.elim
 ·exact h.elim
theorem indexD_sound {P:Program} {t:TypeId} {x i:Value} {K:Value→Pr} {w:World} (h:indexD P t x i K w) :
  ∃ v,(∀ w',(Instr.index t x i).run P w'=.ok v w')∧K v w:=by
 simp only [indexD] at h
 split at h
 ·rename_i k n
  split at h
  ·rename_i hu
   split at h
   ·rename_i s
    obtain ⟨h1,b,hb,h⟩:=h
    refine ⟨_,fun w'=>?_,h⟩
    simp [Instr.index,asIntOf,run_underlying hu,h1,hb]
   ·exact h.elim
  ·rename_i len e hu
   split at h
   ·rename_i cs
    split at h
    ·rename_i inf hinf
     split at h
     ·rename_i d hd
      split at h
      ·rename_i hg
       obtain ⟨h0,h1,v,hv,h⟩:=h
       refine ⟨v,fun w'=>?_,tyD_elim h⟩
       have hv':cs[n.toNat * inf.size]?=some v:=by simpa using hv
       simp only [Instr.index,asIntOf,Sem.run_bind,Sem.run_pure,Result.andThen_ok,run_underlying hu,h0,h1,and_self,if_true,run_sizeOf' hinf,run_part_one hg ⟨d,hd⟩ hv' w']
      ·rename_i hg
       obtain ⟨h0,h1,h⟩:=h
       refine ⟨_,fun w'=>?_,tyD_elim h⟩
       simp only [Instr.index,asIntOf,Sem.run_bind,Sem.run_pure,Result.andThen_ok,run_underlying hu,h0,h1,and_self,if_true,run_sizeOf' hinf,part,run_isAgg' hd,hg]
       congr 2
       apply Array.toList_inj.1
       simp [Array.toList_extract,List.extract,List.take_drop]
     ·exact h.elim
    ·exact h.elim
   ·exact h.elim
  ·exact h.elim
 ·exact h.elim
theorem minmaxD_sound {P:Program} {mx:Bool} {x y:Value} {K:Value→Pr} {w:World} (h:minmaxD mx x y K w) (ts:Array TypeId) (t:TypeId) :
  ∃ v,(∀ w',(match mx with | true=>Builtin.max_ ts t #[x,y] | false=>Builtin.min_ ts t #[x,y]).run P w'=.ok v w')∧K v w:=by
 simp only [minmaxD] at h
 split at h
 ·split at h
  ·split at h
   ·exact ⟨_,fun w'=>by simp [Builtin.max_,Builtin.max2],h⟩
   ·exact ⟨_,fun w'=>by simp [Builtin.min_,Builtin.min2],h⟩
  ·exact h.elim
 ·split at h
  ·split at h
   ·exact ⟨_,fun w'=>by simp [Builtin.max_,Builtin.max2,Op.stringOp,asBool,slt],h⟩
   ·exact ⟨_,fun w'=>by simp [Builtin.min_,Builtin.min2,Op.stringOp,asBool,slt,seq],h⟩
  ·exact h.elim
 ·exact h.elim
theorem lenD_sound {P:Program} {t:TypeId} {x:Value} {K:Value→Pr} {w:World} (h:lenD P t x K w) (ty:TypeId) :
  ∃ v,(∀ w',(Builtin.len_ #[t] ty #[x]).run P w'=.ok v w')∧K v w:=by
 simp only [lenD] at h
 split at h
 ·rename_i hu
  split at h
  ·exact ⟨_,fun w'=>by simp [Builtin.len_,run_underlying hu,goInt],h⟩
  ·exact h.elim
 ·rename_i hu
  split at h
  ·exact ⟨_,fun w'=>by simp [Builtin.len_,run_underlying hu,goInt],h⟩
  ·exact h.elim
 ·rename_i hu
  exact ⟨_,fun w'=>by simp [Builtin.len_,run_underlying hu,goInt],h⟩
 ·exact h.elim
theorem capD_sound {P:Program} {t:TypeId} {x:Value} {K:Value→Pr} {w:World} (h:capD P t x K w) (ty:TypeId) :
  ∃ v,(∀ w',(Builtin.cap_ #[t] ty #[x]).run P w'=.ok v w')∧K v w:=by
 simp only [capD] at h
 split at h
 ·rename_i hu
  split at h
  ·exact ⟨_,fun w'=>by simp [Builtin.cap_,run_underlying hu,goInt],h⟩
  ·exact h.elim
 ·rename_i hu
  exact ⟨_,fun w'=>by simp [Builtin.cap_,run_underlying hu,goInt],h⟩
 ·exact h.elim
theorem convD_sound {P:Program} {src dst:TypeId} {x:Value} {K:Value→Pr} {w:World} (h:convD P src dst x K w) :
  ∃ v,(∀ w',(convert src dst x).run P w'=.ok v w')∧K v w:=by
 simp only [convD] at h
 split at h
 ·split at h
  ·rename_i hd
   split at h
   ·rename_i hs
    exact ⟨_,fun w'=>by simp [convert,run_underlying hs,run_underlying hd,Conv.intToInt],h⟩
   ·exact h.elim
  ·exact h.elim
 ·split at h
  ·rename_i hd
   split at h
   ·rename_i hs
    exact ⟨_,fun w'=>by simp [convert,run_underlying hs,run_underlying hd],h⟩
   ·exact h.elim
  ·exact h.elim
 ·exact h.elim
theorem unD_sound {P:Program} {op:UnOp} {x:Value} {K:Value→Pr} {w:World} (h:unD op x K w) :
  ∃ v,(∀ w',(Op.unary op x).run P w'=.ok v w')∧K v w:=by
 simp only [unD] at h
 split at h
 ·cases op <;> simp only [F] at h <;> first | exact h.elim | skip
  ·exact ⟨_,fun w'=>by simp [Op.unary,Op.intArith],h⟩
  ·simp only [intD] at h
   exact ⟨_,fun w'=>by simp only [Op.unary,Op.intBits];rfl,h⟩
 ·cases op <;> simp only [F] at h <;> first | exact h.elim | skip
  exact ⟨_,fun w'=>by simp [Op.unary],h⟩
 ·exact h.elim
end Go.Sx
set_option linter.unusedSimpArgs false
set_option linter.unusedVariables false
namespace Go.Sx
open Go
theorem bounds_sound {P:Program} {isS:Bool} {len cap:Nat} {lo hi:Option Value} {K:Nat→Nat→Pr} {w:World} (h:bnd hi len cap (fun h=>bnd lo 0 h fun l=>K l h) w) :
  ∃ l h,(∀ w',(Instr.sliceBounds isS len cap lo hi none).run P w'=.ok (l,h,cap) w')∧K l h w:=by
 cases hi with
 | none=>
  cases lo with
  | none=>exact ⟨0,len,fun w'=>by simp [Instr.sliceBounds],h⟩
  | some v=>
   simp only [bnd] at h
   cases v <;> simp only [F] at h <;> first | exact h.elim | skip
   exact ⟨_,len,fun w'=>by simp [Instr.sliceBounds,Instr.sliceBound,asIntOf,h.1],h.2⟩
 | some u=>
  simp only [bnd] at h
  cases u <;> simp only [F] at h <;> first | exact h.elim | skip
  obtain ⟨hu,h⟩:=h
  cases lo with
  | none=>exact ⟨0,_,fun w'=>by simp [Instr.sliceBounds,Instr.sliceBound,asIntOf,hu],h⟩
  | some v=>
   simp only [bnd] at h
   cases v <;> simp only [F] at h <;> first | exact h.elim | skip
   refine ⟨_,_,fun w'=>?_,h.2⟩
   have h1:=h.1
   simp [Instr.sliceBounds,Instr.sliceBound,asIntOf,hu,h1]
   intro
   omega
theorem sliceD_sound {P:Program} {t:TypeId} {x:Value} {lo hi:Option Value} {K:Value→Pr} {w:World} (h:sliceD P t x lo hi K w) :
  ∃ v,(∀ w',(Instr.sliceAt t x lo hi none).run P w'=.ok v w')∧K v w:=by
 simp only [sliceD] at h
 split at h
 ·rename_i hu
  split at h
  ·obtain ⟨l,u,hr,hk⟩:=bounds_sound (P:=P) (isS:=false) (K:=fun l h=>K (.string (_root_.ByteArray.extract _ l h))) h
   exact ⟨_,fun w'=>by simp [Instr.sliceAt,Instr.slice,run_underlying hu,hr],hk⟩
  ·exact h.elim
 ·rename_i e hu
  split at h
  ·rename_i a len cap
   split at h
   ·rename_i inf hinf
    obtain ⟨l,u,hr,hk⟩:=bounds_sound (P:=P) (isS:=true) (K:=fun l h=>K (.slice (slOff a cap l inf.size) (h - l) (cap - l))) h
    exact ⟨_,fun w'=>by simp [Instr.sliceAt,Instr.slice,run_underlying hu,hr,run_sizeOf' hinf,slOff],hk⟩
   ·exact h.elim
  ·exact h.elim
 ·rename_i n e hu
  split at h
  ·rename_i a
   split at h
   ·rename_i inf hinf
    obtain ⟨l,u,hr,hk⟩:=bounds_sound (P:=P) (isS:=false) (K:=fun l h=>K (.slice (slOff (some a) n l inf.size) (h - l) (n - l))) h
    refine ⟨_,fun w'=>?_,hk⟩
    simp only [Instr.sliceAt,run_underlying hu,Sem.run_bind,Result.andThen_ok,Instr.sureAddr,Sem.run_pure,hr,run_sizeOf' hinf,slOff]
    split <;> rfl
   ·exact h.elim
  ·exact h.elim
 ·exact h.elim
theorem slice3D_sound {P:Program} {t:TypeId} {x mx:Value} {lo hi:Option Value} {K:Value→Pr} {w:World} (h:slice3D P t x lo hi mx K w) :
  ∃ v,(∀ w',(Instr.sliceAt t x lo hi (some mx)).run P w'=.ok v w')∧K v w:=by
 simp only [slice3D] at h
 split at h
 ·rename_i e hu
  split at h
  ·rename_i a len cap
   split at h
   ·rename_i inf hinf
    split at h
    ·rename_i hv
     simp only [bnd] at h
     cases mx <;> (try simp only [F] at h) <;> first | exact h.elim | skip
     rename_i km im
     obtain ⟨hm,h⟩:=h
     cases hv <;> (try simp only [F] at h) <;> first | exact h.elim | skip
     rename_i kh ih
     obtain ⟨hh,h⟩:=h
     cases lo with
     | none=>
      refine ⟨_,fun w'=>?_,h⟩
      simp only [Instr.sliceAt,Instr.slice,run_underlying hu,Sem.run_bind,Result.andThen_ok,Instr.sliceBounds,Instr.sliceBound,asIntOf,Sem.run_pure]
      rw [if_pos hm]
      simp only [Sem.run_pure,Result.andThen_ok]
      rw [if_pos hh]
      simp [run_sizeOf' hinf,slOff]
     | some lv=>
      (try simp only at h)
      cases lv <;> (try simp only [F] at h) <;> first | exact h.elim | skip
      rename_i kl il
      obtain ⟨hl,h⟩:=h
      refine ⟨_,fun w'=>?_,h⟩
      simp only [Instr.sliceAt,Instr.slice,run_underlying hu,Sem.run_bind,Result.andThen_ok,Instr.sliceBounds,Instr.sliceBound,asIntOf,Sem.run_pure]
      rw [if_pos hm]
      simp only [Sem.run_pure,Result.andThen_ok]
      rw [if_pos hh]
      simp only [Sem.run_pure,Result.andThen_ok]
      rw [if_pos hl]
      simp [run_sizeOf' hinf,slOff]
    ·exact h.elim
   ·exact h.elim
  ·exact h.elim
 ·exact h.elim
theorem nilCheckD_sound {P:Program} {x:Operand} {o:Oper} (ho:o.op=.nilCheck x) {ρ:Operand→Value} {K:Value→Pr} {w:World} (h:nilCheckD (ρ x) K w):DoesP P o ρ K w:=by
 have nn:∀ v,ρ x=v→NnV v K w→DoesP P o ρ K w:=by
  intro v hv h
  obtain ⟨h1,h⟩:=h
  refine ⟨v,fun w'=>?_,h⟩
  unfold execOp
  rw [ho]
  simp only [hv]
  cases v <;> first
   | rfl
   | (simp [okNil] at h1;done)
   | (rename_i p;cases p <;> first | rfl | (simp [okNil] at h1;done))
   | (rename_i fn _ _;cases fn <;> first | rfl | (simp [okNil] at h1;done))
 generalize hv:ρ x=v at h
 cases v <;> simp only [nilCheckD] at h <;> first | exact nn _ hv h | skip
 rename_i p
 cases p with
 | none=>exact h.elim
 | some a=>
  refine ⟨_,fun w'=>?_,h⟩
  unfold execOp
  rw [ho]
  simp [hv]
theorem pureD_sound {P:Program} {o:Oper} {ρ:Operand→Value} {K:Value→Pr} {w:World} (h:pureD P o ρ K w):DoesP P o ρ K w:=by
 have lift:∀ {s:Sem Value} (he:execOp ρ o=(do pure (.value (← s)))),(∃ v,(∀ w',s.run P w'=.ok v w')∧K v w)→DoesP P o ρ K w:=by
  intro s he ⟨v,hv,hk⟩
  exact ⟨v,fun w'=>by rw [he];simp [hv],hk⟩
 unfold pureD at h
 split at h
 ·rename_i x ho;exact ⟨_,fun w'=>by simp [execOp,ho],h⟩
 ·rename_i x ho;exact ⟨_,fun w'=>by simp [execOp,ho],h⟩
 ·rename_i c a b ho
  split at h
  ·rename_i t ht
   cases t
   ·exact ⟨_,fun w'=>by simp [execOp,ho,ht,asBool],h⟩
   ·exact ⟨_,fun w'=>by simp [execOp,ho,ht,asBool],h⟩
  ·exact h.elim
 ·rename_i x ho;exact nilCheckD_sound ho h
 ·rename_i op t x y _ ho
  exact lift (by unfold execOp;rw [ho]) (binD_sound (xo:=x) h)
 ·rename_i op _ x ho
  exact lift (by unfold execOp;rw [ho]) (unD_sound h)
 ·rename_i src dst x ho
  exact lift (by unfold execOp;rw [ho]) (convD_sound h)
 ·rename_i t x ho
  split at h
  ·rename_i hc
   exact lift (by unfold execOp;rw [ho]) ⟨_,fun w'=>run_makeInterface w' t (ρ x) hc,h⟩
  ·exact h.elim
 ·rename_i fn first cap ho
  refine lift (by unfold execOp;rw [ho]) ⟨_,fun w'=>?_,h⟩
  simp only [Instr.makeFunc,Sem.run_pure]
  congr 2 <;> (apply Array.toList_inj.1;simp)
 ·rename_i t parts ho
  rw [← evs_eq] at h
  exact lift (by unfold execOp;rw [ho]) (buildD_sound h)
 ·rename_i t x lo hi mx ho
  cases mx with
  | none=>
   simp only at h
   refine lift (s:=Instr.sliceAt t (ρ x) (lo.map ρ) (hi.map ρ) none) (by unfold execOp;rw [ho];rfl) ?_
   have:=sliceD_sound h
   cases lo <;> cases hi <;> exact this
  | some m=>
   simp only at h
   refine lift (s:=Instr.sliceAt t (ρ x) (lo.map ρ) (hi.map ρ) (some (ρ m))) (by unfold execOp;rw [ho];rfl) ?_
   have:=slice3D_sound h
   cases lo <;> cases hi <;> exact this
 ·rename_i t x i ho
  exact lift (by unfold execOp;rw [ho]) (fieldD_sound h)
 ·rename_i t x i ho
  exact lift (by unfold execOp;rw [ho]) (fieldAddrD_sound h)
 ·rename_i t x i ho
  exact lift (by unfold execOp;rw [ho]) (indexAddrD_sound h)
 ·rename_i t x i ho
  exact lift (by unfold execOp;rw [ho]) (indexD_sound h)
 ·rename_i x i ho
  split at h
  ·rename_i vs hvs
   split at h
   ·rename_i v hv
    have hv':vs[i]?=some v:=by simpa using hv
    exact lift (by unfold execOp;rw [ho]) ⟨v,fun w'=>by simp [Instr.extract,hvs,hv'],tyD_elim h⟩
   ·exact h.elim
  ·exact h.elim
 ·rename_i t x ho
  split at h
  ·rename_i n e hu
   split at h
   ·rename_i a l c hx
    have h1:=h.1
    replace h:=h.2
    cases a with
    | none=>exact h.elim
    | some a=>exact lift (by unfold execOp;rw [ho]) ⟨_,fun w'=>by simp [Instr.arrayAt,run_underlying hu,hx,Nat.not_lt.2 h1],h⟩
   ·exact h.elim
  ·exact h.elim
 ·rename_i c ho
  split at h
  ·rename_i b hb
   have hx:∀ {s:Sem Value},builtin b c.argTypes o.type (c.args.map fun | .const _=>true | _=>false) (c.args.map ρ)=(do pure (.value (← s)))→execOp ρ o=(do pure (.value (← s))):=by
    intro s hs
    unfold execOp
    rw [ho]
    simp only [resolve,hb,pure_bind,invoke]
    rw [← hs]
    rfl
   split at h
   ·split at h
    ·rename_i t ht
     split at h
     ·rename_i x hxs
      have e1:c.argTypes=#[t]:=Array.toList_inj.1 (by simpa using ht)
      have e2:c.args=#[x]:=Array.toList_inj.1 (by simpa using hxs)
      exact lift (hx (s:=Builtin.len_ #[t] o.type #[ρ x]) (by rw [e1,e2];simp [builtin])) (lenD_sound h _)
     ·exact h.elim
    ·exact h.elim
   ·split at h
    ·rename_i t ht
     split at h
     ·rename_i x hxs
      have e1:c.argTypes=#[t]:=Array.toList_inj.1 (by simpa using ht)
      have e2:c.args=#[x]:=Array.toList_inj.1 (by simpa using hxs)
      exact lift (hx (s:=Builtin.cap_ #[t] o.type #[ρ x]) (by rw [e1,e2];simp [builtin])) (capD_sound h _)
     ·exact h.elim
    ·exact h.elim
   ·split at h
    ·rename_i x y hxs
     have e2:c.args=#[x,y]:=Array.toList_inj.1 (by simpa using hxs)
     exact lift (hx (s:=Builtin.max_ c.argTypes o.type #[ρ x,ρ y]) (by rw [e2];simp [builtin])) (minmaxD_sound h _ _)
    ·exact h.elim
   ·split at h
    ·rename_i x y hxs
     have e2:c.args=#[x,y]:=Array.toList_inj.1 (by simpa using hxs)
     exact lift (hx (s:=Builtin.min_ c.argTypes o.type #[ρ x,ρ y]) (by rw [e2];simp [builtin])) (minmaxD_sound h _ _)
    ·exact h.elim
   ·exact h.elim
  ·exact h.elim
 ·exact h.elim
end Go.Sx
set_option linter.unusedSimpArgs false
set_option linter.unusedVariables false
namespace Go.Sx
open Go
theorem Addr.add_zero (a:Addr):a.add 0=a:=by simp [Go.Addr.add]
def rk (P:Program) (t:TypeId):Option (Option RK):=
 match isAggB P t with
 | true=>match kds P 8 t with
  | some ks=>match P.info? t with
   | some i=>match decide (ks.length=i.size) with
    | true=>match decide (ks.length≤40) with
     | true=>some (some (.ag ks))
     | false=>some none
    | false=>none
   | none=>none
  | none=>none
 | false=>match kd P t with
  | some k=>some (some (.sc k))
  | none=>none
def LdD (P:Program) (t:TypeId) (a:Addr) (K:Value→Pr) (w:World):Prop:=
 match rk P t with
 | some (some r)=>match r with
  | .sc k=>Ld k a (fun x=>K (k.enc x)) w
  | .ag ks=>LdR ks a 0 (fun vs=>K (.agg vs.toArray)) w
 | some none=>match P.info? t with
  | some i=>LdN i.size a (fun vs=>K (.agg vs.toArray)) w
  | none=>F w
 | none=>F w
theorem LdR_elim {P:Program}:∀ {ks:List Kd} {a:Addr} {i:Nat} {K:List Value→Pr} {w:World},LdR ks a i K w →
  ∃ vs:List Value,vs.length=ks.length∧(∀ j v,vs[j]?=some v→w.cell? (a.add (i + j))=some v)∧K vs w
 | [],a,i,K,w,h=>⟨[],rfl,fun j v h=>by simp at h,h⟩
 | k :: ks,a,i,K,w,h=>by
  simp only [LdR] at h
  obtain ⟨x,hx,h⟩:=Ld_elim h
  obtain ⟨vs,h1,h2,h3⟩:=LdR_elim (P:=P) h
  refine ⟨k.enc x :: vs,by simp [h1],fun j v hj=>?_,h3⟩
  cases j with
  | zero=>simp only [List.getElem?_cons_zero,Option.some.injEq] at hj;subst hj;exact hx
  | succ j=>simp only [List.getElem?_cons_succ] at hj;have:=h2 j v hj;rw [show i + (j + 1)=i + 1 + j from by omega];exact this
theorem kd_under {P:Program} {t:TypeId} {k:Kd} (h:kd P t=some k):∃ d,P.underlying t=some d:=by
 unfold kd at h
 split at h <;> first | exact ⟨_,‹_›⟩ | cases h
theorem isAggB_under {P:Program} {t:TypeId} (h:isAggB P t=true):∃ d,P.underlying t=some d:=by
 unfold isAggB at h
 split at h <;> first | exact ⟨_,‹_›⟩ | cases h
theorem LdD_sound {P:Program} {t:TypeId} {a:Addr} {K:Value→Pr} {w:World} (h:LdD P t a K w) :
  ∃ v,(loadVar t a).run P w=.ok v w∧K v w:=by
 have agg:∀ {n:Nat} {i:TypeInfo} (vs:List Value),isAggB P t=true→P.info? t=some i→i.size=n→vs.length=n→(∀ j v,vs[j]?=some v→w.cell? (a.add j)=some v)→(loadVar t a).run P w=.ok (.agg vs.toArray) w:=by
  intro n i vs hg hi hn hl hc
  obtain ⟨d,hd⟩:=isAggB_under hg
  have hr:=run_loadCells_list (P:=P) w a vs hc
  simp only [loadVar,Sem.run_bind,run_isAgg' hd,hg,Result.andThen_ok,if_true,run_sizeOf' hi,hn,← hl,hr]
  rfl
 simp only [LdD] at h
 split at h
 ·rename_i r hr
  simp only [rk] at hr
  split at hr
  ·rename_i hg
   split at hr
   ·rename_i ks hks
    split at hr
    ·rename_i i hi
     split at hr
     ·rename_i hsz
      split at hr
      ·simp only [Option.some.injEq] at hr
       subst hr
       obtain ⟨vs,h1,h2,h3⟩:=LdR_elim (P:=P) h
       exact ⟨_,agg vs hg hi (by simpa using (of_decide_eq_true hsz).symm) h1 (fun j v hj=>by simpa using h2 j v hj),h3⟩
      ·simp at hr
     ·cases hr
    ·cases hr
   ·cases hr
  ·rename_i hg
   split at hr
   ·rename_i k hk
    simp only [Option.some.injEq] at hr
    subst hr
    obtain ⟨x,hx,h⟩:=Ld_elim h
    obtain ⟨d,hd⟩:=kd_under hk
    refine ⟨_,?_,h⟩
    simp only [loadVar,Sem.run_bind,run_isAgg' hd,hg,Result.andThen_ok,Bool.false_eq_true,if_false,run_load,hx]
   ·cases hr
 ·rename_i hr
  simp only [rk] at hr
  split at hr
  ·rename_i hg
   split at hr
   ·rename_i ks hks
    split at hr
    ·rename_i i hi
     split at hr
     ·split at hr
      ·simp at hr
      ·rw [hi] at h
       simp only at h
       obtain ⟨vs,h1,h2,h3⟩:=h
       exact ⟨_,agg vs hg hi rfl h1 h2,h3⟩
     ·cases hr
    ·cases hr
   ·cases hr
  ·rename_i hg
   split at hr
   ·simp at hr
   ·cases hr
 ·exact h.elim
theorem St_elim {P:Program} {a:Addr} {v:Value} {K:Pr} {w:World} (h:St a v K w):(store a v).run P w=.ok () (w.setCell a v)∧K (w.setCell a v):=by
 obtain ⟨h1,⟨x,h2⟩,h3,h4⟩:=h
 refine ⟨?_,h4⟩
 rw [run_store P w a v _ h1]
 simp [h2,h3]
theorem StR_elim {P:Program} {a:Addr}:∀ {vs:List Value} {i:Nat} {K:Pr} {w:World},StR vs a i K w→∃ w',(storeCells a vs i).run P w=.ok () w'∧K w'
 | [],i,K,w,h=>⟨w,rfl,h⟩
 | v :: vs,i,K,w,h=>by
  simp only [StR] at h
  obtain ⟨h1,h2⟩:=St_elim (P:=P) h
  obtain ⟨w',h3,h4⟩:=StR_elim (P:=P) h2
  refine ⟨w',?_,h4⟩
  simp only [storeCells,Sem.run_bind,h1,Result.andThen_ok,h3]
def StD (P:Program) (t:TypeId) (a:Addr) (v:Value) (K:Pr) (w:World):Prop:=
 match rk P t with
 | some (some r)=>match r with
  | .sc _=>match P.info? t with
   | some i=>match decide (i.size=1) with
    | true=>St a v K w
    | false=>F w
   | none=>F w
  | .ag _=>match v with
   | .agg cs=>match P.info? t with
    | some i=>match decide (cs.toList.length=i.size) with
     | true=>StR cs.toList a 0 K w
     | false=>F w
    | none=>F w
   | _=>F w
 | some none=>match v with
  | .agg cs=>match P.info? t with
   | some i=>StN i.size a cs.toList K w
   | none=>F w
  | _=>F w
 | none=>F w
theorem StD_sound {P:Program} {t:TypeId} {a:Addr} {v:Value} {K:Pr} {w:World} (h:StD P t a v K w) :
  ∃ w',(storeVar t a v).run P w=.ok () w'∧K w':=by
 have key:∀ {i:TypeInfo} {vs:List Value},P.info? t=some i→v.cells.toList=vs→vs.length=i.size→StR vs a 0 K w→∃ w',(storeVar t a v).run P w=.ok () w'∧K w':=by
  intro i vs hi hv hl hs
  obtain ⟨w',h1,h2⟩:=StR_elim (P:=P) hs
  refine ⟨w',?_,h2⟩
  have hs':v.cells.size=i.size:=by rw [← hl,← hv];simp
  simp only [storeVar,Sem.run_bind,run_sizeOf' hi,Result.andThen_ok,hs',ne_eq,not_true_eq_false,if_false,Sem.run_ite,Sem.run_pure,hv,h1]
 simp only [StD] at h
 split at h
 ·rename_i r hr
  split at h
  ·split at h
   ·rename_i i hi
    split at h
    ·rename_i hsz
     have h1:=h.1
     exact key hi (by rw [cells_one h1]) (by simpa using (of_decide_eq_true hsz).symm) (by
      show St (a.add 0) v K w
      rw [Addr.add_zero]
      exact h)
    ·exact h.elim
   ·exact h.elim
  ·split at h
   ·split at h
    ·rename_i i hi
     split at h
     ·rename_i hsz
      exact key (vs:=_root_.Array.toList _) hi rfl (of_decide_eq_true hsz) h
     ·exact h.elim
    ·exact h.elim
   ·exact h.elim
 ·split at h
  ·split at h
   ·rename_i i hi
    exact key hi rfl h.1 h.2
   ·exact h.elim
  ·exact h.elim
 ·exact h.elim
def RdB (s:Sl) (bs:List UInt8) (w:World):Prop:=
 bs.length=s.len∧∀ j b,bs[j]?=some b→∃ a,s.p=some a∧w.cell? (a.add j)=some (.int .u8 (b.toNat:Int))
def BtoS (s:Sl) (K:ByteArray→Pr):Pr:=fun w=>∃ bs,RdB s bs w∧K ⟨bs.toArray⟩ w
theorem run_bytesToString' {P:Program} {p:Option Addr} {l c:Nat} {bs:List UInt8} {w:World} (h:RdB ⟨p,l,c⟩ bs w):(Conv.bytesToString (.slice p l c)).run P w=.ok (.string ⟨bs.toArray⟩) w:=by
 obtain ⟨h1,h2⟩:=h
 simp only at h1 h2
 cases p with
 | none=>
  cases bs with
  | nil=>rfl
  | cons b bs=>obtain ⟨a,ha,_⟩:=h2 0 b rfl;cases ha
 | some a=>
  have hl:(loadCells a l).run P w=.ok ((bs.map fun b=>(b.toNat:Int)).map (Value.int .u8)).toArray w:=by
   have:=run_loadCells_list (P:=P) w a ((bs.map fun b=>(b.toNat:Int)).map (Value.int .u8)) (fun j v hj=>by
    simp only [List.getElem?_map,Option.map_map,Option.map_eq_some_iff] at hj
    obtain ⟨b,hb,rfl⟩:=hj
    obtain ⟨a',ha',hc⟩:=h2 j b hb
    simp only [Option.some.injEq] at ha'
    subst ha'
    exact hc)
   simpa [h1] using this
  rw [run_bytesToString w a l c _ hl]
  congr 2
  have:∀ (bs:List UInt8) (r:ByteArray),(bs.map fun b=>(b.toNat:Int)).foldl (fun r n=>r.push (UInt8.ofNat n.toNat)) r=⟨r.data ++ bs.toArray⟩:=by
   intro bs
   induction bs with
   | nil=>intro r;simp
   | cons b bs ih=>
    intro r
    simp only [List.map_cons,List.foldl_cons]
    rw [ih]
    have:UInt8.ofNat ((b.toNat:Int).toNat)=b:=by simp
    rw [this]
    congr 1
    apply Array.toList_inj.1
    simp [ByteArray.push]
  rw [this]
  have he:ByteArray.empty.data=#[]:=rfl
  rw [he]
  simp
def plainKey (P:Program) (t:TypeId):Option TypeDesc:=
 match P.underlying t with
 | some d=>match d with
  | .int _=>some d
  | .string=>some d
  | .bool=>some d
  | _=>none
 | none=>none
theorem plainKey_under {P:Program} {t:TypeId} {d:TypeDesc} (h:plainKey P t=some d):P.underlying t=some d∧((∃ k,d=.int k)∨d=.string∨d=.bool):=by
 unfold plainKey at h
 split at h
 ·rename_i d' hd
  split at h
  ·simp only [Option.some.injEq] at h;subst h;exact ⟨hd,.inl ⟨_,rfl⟩⟩
  ·simp only [Option.some.injEq] at h;subst h;exact ⟨hd,.inr (.inl rfl)⟩
  ·simp only [Option.some.injEq] at h;subst h;exact ⟨hd,.inr (.inr rfl)⟩
  ·cases h
 ·cases h
theorem run_checkKey {P:Program} {t:TypeId} {d:TypeDesc} (h:plainKey P t=some d) (b:Bool) (v:Value) (w:World):(Instr.checkKey b 10000 t v).run P w=.ok () w:=by
 obtain ⟨hu,hd⟩:=plainKey_under h
 show (Instr.checkKey b (9999 + 1) t v).run P w=.ok () w
 generalize 9999=n
 rcases hd with ⟨k,rfl⟩ | rfl | rfl <;> simp only [Instr.checkKey,Sem.run_bind,run_underlying hu,Result.andThen_ok,Sem.run_pure]
def Ents (m:Option Nat) (es:List MapEntry) (w:World):Prop:=
 match m with
 | none=>es=[]
 | some r=>∃ c,w.heap[r]?=some (.map es.toArray c)
def Lk (d:TypeDesc) (m:Option Nat) (key:Value) (K:Option Value→Pr):Pr:=fun w=>
 ∃ es f,Ents m es w∧Instr.findNow d key es 0=some f∧K (match f with | some (_,v)=>some v | none=>none) w
def LkK (k:Kd) (z:k.T) (d:TypeDesc) (m:Option Nat) (key:Value) (K:k.T→Bool→Pr):Pr:=
 Lk d m key fun f w=>match f with
  | some v=>∃ x,v=k.enc x∧K x true w
  | none=>K z false w
def LkN (z:Value) (d:TypeDesc) (m:Option Nat) (key:Value) (K:List Value→Bool→Pr):Pr:=
 Lk d m key fun f w=>match f with
  | some v=>∃ x:List Value,v=.agg x.toArray∧K x true w
  | none=>∃ x:List Value,z=.agg x.toArray∧K x false w
def LkA (ks:List Kd) (z:Value) (d:TypeDesc) (m:Option Nat) (key:Value) (K:Tup ks→Bool→Pr):Pr:=
 Lk d m key fun f w=>match f with
  | some v=>∃ x:Tup ks,v=.agg (encs ks x).toArray∧K x true w
  | none=>∃ x:Tup ks,z=.agg (encs ks x).toArray∧K x false w
def lkOut (ok:Bool) (v:Value) (b:Bool):Value:=match ok with
 | true=>.tuple #[v,.bool b]
 | false=>v
def lookupD (P:Program) (t:TypeId) (m key:Value) (ok:Bool) (K:Value→Pr) (w:World):Prop:=
 match P.underlying t with
 | some (.map kt et)=>match plainKey P kt with
  | some d=>match m with
   | .map r=>match zeroOf P et with
    | some z=>match rk P et with
     | some (some s)=>match s with
      | .sc k=>match k.dec z with
       | some zk=>LkK k zk d r key (fun x b=>K (lkOut ok (k.enc x) b)) w
       | none=>F w
      | .ag ks=>LkA ks z d r key (fun x b=>K (lkOut ok (.agg (encs ks x).toArray) b)) w
     | some none=>LkN z d r key (fun x b=>K (lkOut ok (.agg x.toArray) b)) w
     | none=>F w
    | none=>F w
   | _=>F w
  | none=>F w
 | _=>F w
theorem Lk_sound {P:Program} {t kt et:TypeId} {d:TypeDesc} {r:Option Nat} {key z:Value} {ok:Bool} {K:Option Value→Pr} {w:World} (hu:P.underlying t=some (.map kt et)) (hk:plainKey P kt=some d) (hz:zeroOf P et=some z)
  (h:Lk d r key K w):∃ f,(Instr.lookup t (.map r) key ok).run P w=.ok (lkOut ok (f.getD z) f.isSome) w∧K f w:=by
 obtain ⟨es,f,he,hf,h⟩:=h
 have hud:=(plainKey_under hk).1
 have hgo:(Instr.findKey kt key es).run P w=.ok f w:=by
  simp only [Instr.findKey,Sem.run_bind,run_underlying hud,Result.andThen_ok,hf,Sem.run_pure]
 refine ⟨_,?_,h⟩
 cases r with
 | none=>
  simp only [Ents] at he
  subst he
  simp only [Instr.lookup,Sem.run_bind,run_underlying hu,Result.andThen_ok,Sem.run_pure,run_checkKey hk]
  rw [hgo]
  cases f with
  | none=>cases ok <;> simp [run_zeroOf hz,lkOut]
  | some p=>cases ok <;> simp [lkOut]
 | some r=>
  obtain ⟨c,hc⟩:=he
  have hg:(getObj r).run P w=.ok (.map es.toArray c) w:=by simp [getObj,Sem.run,hc]
  simp only [Instr.lookup,Sem.run_bind,run_underlying hu,Result.andThen_ok,hg,Sem.run_pure,run_checkKey hk]
  rw [hgo]
  cases f with
  | none=>cases ok <;> simp [run_zeroOf hz,lkOut]
  | some p=>cases ok <;> simp [lkOut]
theorem lookupD_sound {P:Program} {t:TypeId} {m key:Value} {ok:Bool} {K:Value→Pr} {w:World} (h:lookupD P t m key ok K w) :
  ∃ v,(Instr.lookup t m key ok).run P w=.ok v w∧K v w:=by
 simp only [lookupD] at h
 split at h
 ·rename_i kt et hu
  split at h
  ·rename_i d hd
   split at h
   ·rename_i r
    split at h
    ·rename_i z hz
     split at h
     ·split at h
      ·rename_i k
       split at h
       ·rename_i zk hzk
        obtain ⟨f,h1,h2⟩:=Lk_sound (ok:=ok) hu hd hz h
        cases f with
        | none=>refine ⟨_,h1,?_⟩;rw [Kd.dec_eq hzk];exact h2
        | some v=>obtain ⟨x,rfl,h2⟩:=h2;exact ⟨_,h1,h2⟩
       ·exact h.elim
      ·obtain ⟨f,h1,h2⟩:=Lk_sound (ok:=ok) hu hd hz h
       cases f with
       | none=>obtain ⟨x,rfl,h2⟩:=h2;exact ⟨_,h1,h2⟩
       | some v=>obtain ⟨x,rfl,h2⟩:=h2;exact ⟨_,h1,h2⟩
     ·obtain ⟨f,h1,h2⟩:=Lk_sound (ok:=ok) hu hd hz h
      cases f with
      | none=>obtain ⟨x,rfl,h2⟩:=h2;exact ⟨_,h1,h2⟩
      | some v=>obtain ⟨x,rfl,h2⟩:=h2;exact ⟨_,h1,h2⟩
     ·exact h.elim
    ·exact h.elim
   ·exact h.elim
  ·exact h.elim
 ·exact h.elim
def LenM (m:Option Nat) (K:Int→Pr):Pr:=fun w=>∃ es,Ents m es w∧K (es.length:Int) w
def EnM (a:Addr) (K:Value→Value→Pr):Pr:=fun w=>
 a.off=0∧∃ (m since:Nat) (seen:Array Nat) (es:List MapEntry) (clock stamp:Nat) (e:MapEntry),w.heap[a.block]?=some (.mapIter (some m) since seen clock)∧w.heap[m]?=some (.map es.toArray clock) ∧
  seen.back?=some stamp∧es.find? (·.born == stamp)=some e∧K e.key e.val w
def readD (P:Program) (o:Oper) (ρ:Operand→Value) (K:Value→Pr) (w:World):Prop:=
 match o.op with
 | .load t x=>match ρ x with
  | .pointer p=>Nn p (fun a=>LdD P t a K) w
  | _=>F w
 | .lookup t m k ok=>lookupD P t (ρ m) (ρ k) ok K w
 | .entry x=>match ρ x with
  | .pointer (some a)=>EnM a (fun k v=>K (.tuple #[k,v])) w
  | _=>F w
 | .convert src dst x=>match P.underlying dst with
  | some .string=>match P.underlying src with
   | some (.slice e)=>match P.underlying e with
    | some (.int .u8)=>match ρ x with
     | .slice p l c=>BtoS ⟨p,l,c⟩ (fun s=>K (.string s)) w
     | _=>F w
    | _=>F w
   | _=>F w
  | _=>F w
 | .call c=>match c.callee with
  | .builtin b=>match b with
   | .len=>match c.argTypes.toList with
    | [t]=>match c.args.toList with
     | [x]=>match P.underlying t with
      | some (.map _ _)=>match ρ x with
       | .map m=>LenM m (fun n=>K (.int .i64 n)) w
       | _=>F w
      | _=>F w
     | _=>F w
    | _=>F w
   | _=>F w
  | _=>F w
 | _=>F w
theorem execOp_builtin {o:Oper} {ρ:Operand→Value} {c:Call} {b:Builtin} (ho:o.op=.call c) (hb:c.callee=.builtin b) {s:Sem Value}
  (hs:builtin b c.argTypes o.type (c.args.map fun | .const _=>true | _=>false) (c.args.map ρ)=(do pure (.value (← s)))):execOp ρ o=(do pure (.value (← s))):=by
 unfold execOp
 rw [ho]
 simp only [resolve,hb,pure_bind,invoke]
 rw [← hs]
 rfl
theorem readD_sound {P:Program} {o:Oper} {ρ:Operand→Value} {K:Value→Pr} {w:World} (h:readD P o ρ K w):DoesQ P o ρ K w:=by
 have lift:∀ {s:Sem Value} (he:execOp ρ o=(do pure (.value (← s)))),(∃ v,s.run P w=.ok v w∧K v w)→DoesQ P o ρ K w:=by
  intro s he ⟨v,hv,hk⟩
  exact ⟨v,by rw [he];simp [hv],hk⟩
 unfold readD at h
 split at h
 ·rename_i t x ho
  split at h
  ·rename_i p ha
   cases p with
   | none=>exact h.elim
   | some a=>
   obtain ⟨v,hv,hk⟩:=LdD_sound h
   exact lift (by unfold execOp;rw [ho]) ⟨v,by simp [ha,Instr.loadAt,Instr.sureAddr,hv],hk⟩
  ·exact h.elim
 ·rename_i t m k ok ho
  exact lift (by unfold execOp;rw [ho]) (lookupD_sound h)
 ·rename_i x ho
  split at h
  ·rename_i a ha
   obtain ⟨h0,m,since,seen,es,clock,stamp,e,h1,h2,h3,h4,h⟩:=h
   obtain ⟨ab,ao,av⟩:=a
   simp only at h0 h1
   subst h0
   have g1:(getObj ab).run P w=.ok (.mapIter (some m) since seen clock) w:=by simp [getObj,Sem.run,h1]
   have g2:(getObj m).run P w=.ok (.map es.toArray clock) w:=by simp [getObj,Sem.run,h2]
   have h4':es.toArray.find? (·.born == stamp)=some e:=by rw [← Array.find?_toList];exact h4
   refine lift (by unfold execOp;rw [ho]) ⟨_,?_,h⟩
   simp only [Instr.entry,ha,Sem.run_bind,g1,Result.andThen_ok,h3,g2,bne_self_eq_false,Bool.false_eq_true,if_false,h4']
   rfl
  ·exact h.elim
 ·rename_i src dst x ho
  split at h
  ·rename_i hd
   split at h
   ·rename_i e hs
    split at h
    ·rename_i he
     split at h
     ·rename_i p l c hx
      obtain ⟨bs,hb,hk⟩:=h
      refine lift (by unfold execOp;rw [ho]) ⟨_,?_,hk⟩
      simp only [convert,hx,Sem.run_bind,run_underlying hs,run_underlying hd,run_underlying he,Result.andThen_ok]
      cases p <;> exact run_bytesToString' hb
     ·exact h.elim
    ·exact h.elim
   ·exact h.elim
  ·exact h.elim
 ·rename_i c ho
  split at h
  ·rename_i b hb
   split at h
   ·split at h
    ·rename_i t ht
     split at h
     ·rename_i x hx
      split at h
      ·rename_i k e hu
       split at h
       ·rename_i m hm
        obtain ⟨es,he,hk⟩:=h
        have e1:c.argTypes=#[t]:=Array.toList_inj.1 (by simpa using ht)
        have e2:c.args=#[x]:=Array.toList_inj.1 (by simpa using hx)
        refine lift (execOp_builtin ho hb (s:=Builtin.len_ #[t] o.type #[.map m]) (by rw [e1,e2];simp [builtin,hm])) ⟨_,?_,hk⟩
        cases m with
        | none=>
         simp only [Ents] at he
         subst he
         simp [Builtin.len_,run_underlying hu,goInt]
        | some r=>
         obtain ⟨cl,hc⟩:=he
         have hg:(getObj r).run P w=.ok (.map es.toArray cl) w:=by simp [getObj,Sem.run,hc]
         simp [Builtin.len_,run_underlying hu,goInt,hg]
       ·exact h.elim
      ·exact h.elim
     ·exact h.elim
    ·exact h.elim
   ·exact h.elim
  ·exact h.elim
 ·exact h.elim
end Go.Sx
set_option linter.unusedSimpArgs false
set_option linter.unusedVariables false
namespace Go.Sx
open Go
def okFn (P:Program) (f:FuncId):Bool:=
 match P.funcs[f]? with
 | some fn => fn.body.isSome && !(fn.name == "runtime.NumGoroutine")
 | none=>false
def encRes (tup:Bool) (rs:List RK) (s:TR rs):Value:=
 match tup with
 | true=>.tuple (encR rs s).toArray
 | false=>(encR rs s).headD undef
def Cl (P:Program) (f:FuncId) (args:List Value) (tup:Bool) (rs:List RK) (K:TR rs→Pr):Pr:=fun w=>
 okFn P f=true∧Calls P f args.toArray w fun | .returned v,w'=>∃ s,v=encRes tup rs s∧K s w' | _,_=>False
theorem Cl.mono {P:Program} {f:FuncId} {args:List Value} {tup:Bool} {rs:List RK} {K K':TR rs→Pr} {w:World} (h:Cl P f args tup rs K w) (hk:∀ s w',K s w'→K' s w'):Cl P f args tup rs K' w:=
 ⟨h.1,h.2.mono fun e w' he=>by
  cases e with
  | returned v=>obtain ⟨s,hs,h⟩:=he;exact ⟨s,hs,hk _ _ h⟩
  | panicked c=>exact he
  | outgrown=>exact he⟩
def Yd (P:Program) (l:Nat) (args:List Value) (tup:Bool) (rs:List RK) (K:TR rs→Pr):Pr:=fun w=>
 ∃ r:Loop,w.heap[l]?=some (.loop r)∧args.length=r.params.size ∧
  RoundIn (WF none) 0 P l r.fn ((r.params.zip args.toArray).foldl (fun tmps (t,a)=>tmps.setIfInBounds t a) r.tmps) r.assign r.body w fun | .returned v,w'=>∃ s,v=encRes tup rs s∧K s w' | _,_=>False
theorem Yd.mono {P:Program} {l:Nat} {args:List Value} {tup:Bool} {rs:List RK} {K K':TR rs→Pr} {w:World} (h:Yd P l args tup rs K w) (hk:∀ s w',K s w'→K' s w'):Yd P l args tup rs K' w:=by
 obtain ⟨r,h1,h2,h3⟩:=h
 refine ⟨r,h1,h2,h3.mono fun e w' he=>?_⟩
 cases e with
 | returned v=>obtain ⟨s,hs,h⟩:=he;exact ⟨s,hs,hk _ _ h⟩
 | panicked c=>exact he
 | outgrown=>exact he
def Ex (P:Program) (f:FuncId) (args:List Value) (tup:Bool) (rs:List RK) (K:TR rs→Pr):Pr:=fun w=>
 ∃ s w',(callFunc f args.toArray).run P w=.ok (.value (encRes tup rs s)) w'∧K s w'
def CallV (P:Program) (v:Value) (args:List Value) (tup:Bool) (rs:List RK) (K:TR rs→Pr) (w:World):Prop:=
 match v with
 | .func fn first cap=>match fn with
  | .func g=>match okFn P g with
   | true=>Cl P g (first.toList ++ args ++ cap.toList) tup rs K w
   | false=>Ex P g (first.toList ++ args ++ cap.toList) tup rs K w
  | .yield l=>Yd P l (first.toList ++ args) tup rs K w
  | _=>F w
 | _=>F w
def rkL (P:Program):List TypeId→Option (List RK)
 | []=>some []
 | t :: ts=>match rk P t with
  | some (some r)=>match rkL P ts with
   | some rs=>some (r :: rs)
   | none=>none
  | _=>none
def resK (P:Program) (t:TypeId):Option (Bool × List RK):=
 match P.underlying t with
 | some d=>match d with
  | .tuple ts=>match rkL P ts.toList with
   | some rs=>some (true,rs)
   | none=>none
  | _=>match rk P t with
   | some (some r)=>some (false,[r])
   | _=>none
 | none=>none
theorem run_callFunc {P:Program} {f:FuncId} (h:okFn P f=true) (args:Array Value) (w:World):(callFunc f args).run P w=.ok (.enter f args) w:=by
 unfold okFn at h
 split at h
 ·rename_i fn hf
  simp only [Bool.and_eq_true,Bool.not_eq_true'] at h
  have h1 : fn.name ≠ "runtime.NumGoroutine" := by
   have:=h.2
   simpa using this
  have h2:fn.body.isNone=false:=by
   cases hb:fn.body with
   | none=>rw [hb] at h;simp at h
   | some b=>rfl
  simp [callFunc,hf,h1,h2]
  intro hb
  simp [hb] at h2
 ·cases h
def methD (P:Program) (t:TypeId) (name:String):Option FuncId:=
 match P.info? t with
 | some i=>match i.methods.toList.find? (fun m=>m.name == name) with
  | some m=>match m.path.toList with
   | []=>match m.func with
    | some (f,p)=>match P.underlying t with
     | some d=>match d with
      | .pointer _=>match p with
       | true=>some f
       | false=>none
      | _=>match p with
       | true=>none
       | false=>some f
     | none=>none
    | none=>none
   | _=>none
  | none=>none
 | none=>none
def Inv (P:Program) (v:Value) (name:String) (args:List Value) (tup:Bool) (rs:List RK) (K:TR rs→Pr) (w:World):Prop:=
 match v with
 | .iface t x=>match methD P t name with
  | some f=>Cl P f (x :: args) tup rs K w
  | none=>F w
 | _=>F w
theorem run_method {P:Program} {t:TypeId} {x:Value} {name:String} {f:FuncId} (h:methD P t name=some f) (n:Nat) (w:World):(method (n + 1) t x name).run P w=.ok (f,x) w:=by
 unfold methD at h
 split at h
 ·rename_i i hi
  split at h
  ·rename_i m hm
   split at h
   ·rename_i hp
    split at h
    ·rename_i g p hf
     split at h
     ·rename_i d hd
      have hm':i.methods.find? (fun m=>m.name == name)=some m:=by rw [← Array.find?_toList];exact hm
      split at h
      ·split at h
       ·simp only [Option.some.injEq] at h
        subst h
        simp only [method,Sem.run_bind,typeInfo,run_program,Result.andThen_ok,hi,Sem.run_pure,hm',hp,follow,hf,receiverAt,run_underlying hd,Place.get]
       ·cases h
      ·split at h
       ·cases h
       ·simp only [Option.some.injEq] at h
        subst h
        simp only [method,Sem.run_bind,typeInfo,run_program,Result.andThen_ok,hi,Sem.run_pure,hm',hp,follow,hf,receiverAt,run_underlying hd,Place.get]
     ·cases h
    ·cases h
   ·cases h
  ·cases h
 ·cases h
def cellsB (s:ByteArray):List Value:=s.data.toList.map fun b=>.int .u8 (b.toNat:Int)
def StoB (e:TypeId) (s:ByteArray) (K:Sl→Pr):Pr:=fun w=>
 ∀ c,s.size≤c→K ⟨some ⟨w.heap.size,0,none⟩,s.size,c⟩ (w.drew.alloc (.cells (cellsB s ++ List.replicate (c - s.size) (Value.int .u8 0)).toArray e (c,c + 1)))
theorem freeze_alloc (w:World) (cs:Array Value) (e:TypeId) (n:Nat):(w.alloc (.cells cs e)).freeze ⟨w.heap.size,n,none⟩ 1=w.alloc (.cells cs e (n,n + 1)):=by
 simp only [World.freeze,World.alloc]
 rw [if_neg (by decide)]
 congr 1
 apply Array.ext_getElem?
 intro j
 rw [Array.getElem?_modify]
 by_cases h:w.heap.size=j
 ·subst h
  simp
 ·rw [if_neg h,Array.getElem?_push,Array.getElem?_push,if_neg (Ne.symm h),if_neg (Ne.symm h)]
theorem run_stringToBytes {P:Program} {src dst e:TypeId} {u:TypeDesc} {s:ByteArray} {K:Sl→Pr} {w:World} (hs:P.underlying src=some u) (hd:P.underlying dst=some (.slice e)) (he:P.underlying e=some (.int .u8)) (h:StoB e s K w) :
  ∃ (x:Sl) (w':World),(convert src dst (.string s)).run P w=.ok (.slice x.p x.len x.cap) w'∧K x w':=by
 have hc:s.size≤grownCap w s.size 0 e:=by simp only [grownCap,Question.cut];omega
 have hss:s.data.size=s.size:=rfl
 refine ⟨⟨some ⟨w.heap.size,0,none⟩,s.size,grownCap w s.size 0 e⟩,_,Lib.run_convert_string_bytes w src dst e s hs hd he,?_⟩
 have hk:=h _ hc
 have hcells:Lib.bytesCells w e s=(cellsB s ++ List.replicate (grownCap w s.size 0 e - s.size) (Value.int .u8 0)).toArray:=by
  apply Array.toList_inj.1
  simp [cellsB,Lib.bytesCells]
 have hsz:(Lib.bytesCells w e s).size=grownCap w s.size 0 e:=by
  simp [Lib.bytesCells,hss];omega
 have hw:Lib.bytesWorld w e s=w.drew.alloc (.cells (cellsB s ++ List.replicate (grownCap w s.size 0 e - s.size) (Value.int .u8 0)).toArray e (grownCap w s.size 0 e,grownCap w s.size 0 e + 1)):=by
  rw [Lib.bytesWorld,hsz,← World.size_drew,freeze_alloc,hcells]
 rw [hw]
 exact hk
def runesOf (s:ByteArray):List Value:=(Conv.runesFrom s s.size 0 #[]).toList
def StoU (e:TypeId) (s:ByteArray) (K:Sl→Pr):Pr:=fun w=>
 ∀ c,(runesOf s).length≤c→K ⟨some ⟨w.heap.size,0,none⟩,(runesOf s).length,c⟩ (w.drew.alloc (.cells (runesOf s ++ List.replicate (c - (runesOf s).length) (Value.int .i32 0)).toArray e))
theorem run_stringToRunes {P:Program} {src dst e:TypeId} {s:ByteArray} {K:Sl→Pr} {w:World} (hs:P.underlying src=some .string) (hd:P.underlying dst=some (.slice e)) (he:P.underlying e=some (.int .i32)) (h:StoU e s K w) :
  ∃ (x:Sl) (w':World),(convert src dst (.string s)).run P w=.ok (.slice x.p x.len x.cap) w'∧K x w':=by
 have hl:(runesOf s).length=(Conv.runesFrom s s.size 0 #[]).size:=by simp [runesOf]
 have hc:(runesOf s).length≤grownCap w (runesOf s).length 0 e:=by simp only [grownCap,Question.cut];omega
 refine ⟨_,_,?_,h _ hc⟩
 simp only [convert,Sem.run_bind,run_underlying hs,run_underlying hd,Result.andThen_ok,run_underlying he,Conv.stringToRunes]
 rw [← hl]
 simp [Question.forced,newRow,grownCap]
 congr 2
 apply Array.toList_inj.1
 simp [runesOf]
def RdC (p:Option Addr) (n:Nat) (cs:List Value) (w:World):Prop:=
 cs.length=n∧∀ j v,cs[j]?=some v→∃ a,p=some a∧w.cell? (a.add j)=some v
theorem RdC.loads {P:Program} {p:Option Addr} {a:Addr} {n:Nat} {cs:List Value} {w:World} (h:RdC p n cs w) (hp:p=some a):(loadCells a n).run P w=.ok cs.toArray w:=by
 obtain ⟨h1,h2⟩:=h
 rw [← h1]
 refine run_loadCells_list w a cs fun j v hj=>?_
 obtain ⟨a',ha,hc⟩:=h2 j v hj
 rw [hp,Option.some.injEq] at ha
 subst ha
 exact hc
theorem RdC.first {P:Program} {p:Option Addr} {size n l c:Nat} {cs:List Value} {w:World} (h:RdC p (n * size) cs w):(Builtin.firstCells size n (.slice p l c)).run P w=.ok cs.toArray w:=by
 cases p with
 | none=>
  cases cs with
  | nil=>rfl
  | cons v vs=>obtain ⟨a,ha,_⟩:=h.2 0 v rfl;cases ha
 | some a=>exact h.loads rfl
theorem RdC.drew {p:Option Addr} {n:Nat} {cs:List Value} {w:World} (h:RdC p n cs w):RdC p n cs w.drew:=h
def App (e:TypeId) (size bytes:Nat) (z:Array Value) (s:Sl) (m:Nat) (src:List Value→World→Prop) (K:Sl→Pr):Pr:=fun w=>
 ∃ new:List Value,src new w ∧
  if s.len + m≤s.cap then
   (match s.p with
    | some a=>StR new (a.add (s.len * size)) 0 (K ⟨some a,s.len + m,s.cap⟩) w
    | none=>K ⟨none,s.len + m,s.cap⟩ w)
  else (s.len + m) * bytes≤140737488355328∧((s.len + m:Nat):Int)≤9223372036854775807 ∧
   ∃ old:List Value,RdC s.p (s.len * size) old w ∧
    ∀ c,s.len + m≤c→K ⟨some ⟨w.heap.size,0,none⟩,s.len + m,c⟩ (w.drew.alloc (.cells ((old ++ new).toArray ++ Builtin.zeroCells z (c - (s.len + m))) e))
theorem App_sound {P:Program} {st xt e:TypeId} {i:TypeInfo} {z:Value} {s:Sl} {x:Value} {m:Nat} {src:List Value→World→Prop} {K:Sl→Pr} {w:World} (hst:P.underlying st=some (.slice e)) (hi:P.info? e=some i) (hz:i.zero=some z)
  (hxt:∃ d,P.underlying xt=some d∧∀ k,d ≠ .int k)
  (hm:∀ w',(Builtin.lenOf x).run P w'=.ok m w') (hsrc:∀ new,src new w→(Builtin.firstCells i.size m x).run P w=.ok new.toArray w∧(Builtin.firstCells i.size m x).run P w.drew=.ok new.toArray w.drew) (ty:TypeId)
  (h:App e i.size i.bytes z.cells s m src K w) :
  ∃ (r:Sl) (w':World),(Builtin.append_ #[st,xt] ty #[.slice s.p s.len s.cap,x]).run P w=.ok (.slice r.p r.len r.cap) w'∧K r w':=by
 obtain ⟨new,hn,h⟩:=h
 obtain ⟨hf1,hf2⟩:=hsrc new hn
 obtain ⟨d,hd,hdi⟩:=hxt
 have hzeros:(match d with | .int _=>true | _=>false)=false:=by
  cases d <;> first | rfl | exact absurd rfl (hdi _)
 by_cases hc:s.len + m≤s.cap
 ·rw [if_pos hc] at h
  cases hp:s.p with
  | none=>
   rw [hp] at h
   refine ⟨⟨none,s.len + m,s.cap⟩,w,?_,h⟩
   simp [Builtin.append_,run_underlying hst,run_underlying hd,run_sizeOf' hi,hzeros,hm,hc,hf1]
  | some a=>
   rw [hp] at h
   obtain ⟨w',h1,h2⟩:=StR_elim (P:=P) h
   refine ⟨⟨some a,s.len + m,s.cap⟩,w',?_,h2⟩
   simp [Builtin.append_,run_underlying hst,run_underlying hd,run_sizeOf' hi,hzeros,hm,hc,hf1,h1]
 ·rw [if_neg hc] at h
  obtain ⟨h47,h63,old,hold,h⟩:=h
  have hcap:s.len + m≤grownCap w (s.len + m) s.cap e:=by simp only [grownCap,Question.cut];omega
  refine ⟨_,_,?_,h _ hcap⟩
  have hfo:=(hold.drew).first (P:=P) (l:=s.len) (c:=s.cap)
  have h48:=growslice_fits (need:=s.len + m) (old:=s.cap) (by omega) h47
  have h48':¬ (281474976710656 < Builtin.nextslicecap (s.len + m) s.cap * i.bytes):=by omega
  have h63':¬ (9223372036854775807 < ((s.len:Int) + (m:Int))):=by omega
  simp [Builtin.append_,run_underlying hst,run_underlying hd,run_sizeOf' hi,typeInfo,zeroValue,hi,hz,hzeros,hm,hc,h48',h63',Question.forced,hfo,hf2,newRow,grownCap]
  congr 2
  apply Array.toList_inj.1
  simp
def srcS (p:Option Addr) (n size:Nat) (new:List Value) (w:World):Prop:=RdC p (n * size) new w
def srcB (s:ByteArray) (n:Nat) (new:List Value) (_w:World):Prop:=new=(cellsB s).take n
theorem firstCells_string {P:Program} (s:ByteArray) (size n:Nat) (w:World):(Builtin.firstCells size n (.string s)).run P w=.ok ((cellsB s).take n).toArray w:=by
 simp only [Builtin.firstCells,Sem.run_pure]
 congr 1
 apply Array.toList_inj.1
 simp [cellsB,ByteArray.data_extract,Array.toList_extract,List.extract,List.map_take]
def srcZ (z:Array Value) (size n:Nat) (new:List Value) (_w:World):Prop:=new=(if n * size=0 then #[] else Builtin.zeroCells z n).toList
def AppZ (e:TypeId) (size bytes:Nat) (z:Array Value) (s:Sl) (n:Int) (K:Sl→Pr):Pr:=fun w=>
 0≤n∧n≤9223372036854775807∧n * (bytes:Int)≤281474976710656∧App e size bytes z s n.toNat (srcZ z size n.toNat) K w
theorem AppZ_sound {P:Program} {st xt e:TypeId} {i:TypeInfo} {z:Value} {s:Sl} {k:IntKind} {n:Int} {K:Sl→Pr} {w:World} (hst:P.underlying st=some (.slice e)) (hi:P.info? e=some i) (hz:i.zero=some z)
  (hxt:∃ k,P.underlying xt=some (.int k)) (ty:TypeId) (h:AppZ e i.size i.bytes z.cells s n K w) :
  ∃ (r:Sl) (w':World),(Builtin.append_ #[st,xt] ty #[.slice s.p s.len s.cap,.int k n]).run P w=.ok (.slice r.p r.len r.cap) w'∧K r w':=by
 obtain ⟨h0,hmax,h48,new,hn,h⟩:=h
 obtain ⟨k',hd⟩:=hxt
 obtain ⟨m,rfl⟩:∃ m:Nat,n=m:=⟨n.toNat,by omega⟩
 simp only [Int.toNat_natCast] at hn h
 have hw:IntKind.i64.wrap (m:Int)=m:=by
  simp [IntKind.wrap,IntKind.signed,IntKind.bits]
  omega
 have hneg:¬ ((m:Int) < 0):=by omega
 have hbig:¬ ((m:Int) * (i.bytes:Int) > 2 ^ 48):=by
  have:(2:Int) ^ 48=281474976710656:=by decide
  rw [this];omega
 have hbig':¬ ((281474976710656:Int) < (m:Int) * (i.bytes:Int)):=by omega
 have happ:∀ w',((if m * i.size=0 then pure #[] else do pure (Builtin.zeroCells z.cells m):Sem (Array Value))).run P w'=.ok new.toArray w':=by
  intro w'
  have hn':new=(if m * i.size=0 then #[] else Builtin.zeroCells z.cells m).toList:=hn
  subst hn'
  split <;> simp
 by_cases hc:s.len + m≤s.cap
 ·rw [if_pos hc] at h
  cases hp:s.p with
  | none=>
   rw [hp] at h
   refine ⟨⟨none,s.len + m,s.cap⟩,w,?_,h⟩
   have:=happ w
   by_cases hz0:m * i.size=0
   ·simp [Builtin.append_,run_underlying hst,run_underlying hd,run_sizeOf' hi,typeInfo,hi,hw,hc,asInt,asIntOf,hneg,hbig',hz0]
   ·simp [Builtin.append_,run_underlying hst,run_underlying hd,run_sizeOf' hi,typeInfo,zeroValue,hi,hz,hw,hc,asInt,asIntOf,hneg,hbig',hz0]
  | some a=>
   rw [hp] at h
   obtain ⟨w',h1,h2⟩:=StR_elim (P:=P) h
   refine ⟨⟨some a,s.len + m,s.cap⟩,w',?_,h2⟩
   have hn':new=(if m * i.size=0 then #[] else Builtin.zeroCells z.cells m).toList:=hn
   by_cases hz0:m * i.size=0
   ·have:new=[]:=by rw [hn',if_pos hz0]
    subst this
    simp [Builtin.append_,run_underlying hst,run_underlying hd,run_sizeOf' hi,typeInfo,hi,hw,hc,asInt,asIntOf,hneg,hbig',hz0]
    rw [h1]
    rfl
   ·rw [if_neg hz0] at hn'
    subst hn'
    simp [Builtin.append_,run_underlying hst,run_underlying hd,run_sizeOf' hi,typeInfo,zeroValue,hi,hz,hw,hc,asInt,asIntOf,hneg,hbig',hz0,h1]
 ·rw [if_neg hc] at h
  obtain ⟨h47,h63,old,hold,h⟩:=h
  have hcap:s.len + m≤grownCap w (s.len + m) s.cap e:=by simp only [grownCap,Question.cut];omega
  refine ⟨_,_,?_,h _ hcap⟩
  have hfo:=(hold.drew).first (P:=P) (l:=s.len) (c:=s.cap)
  have h48:=growslice_fits (need:=s.len + m) (old:=s.cap) (by omega) h47
  have h48':¬ (281474976710656 < Builtin.nextslicecap (s.len + m) s.cap * i.bytes):=by omega
  have h63':¬ (9223372036854775807 < ((s.len:Int) + (m:Int))):=by omega
  have hn':new=(if m * i.size=0 then #[] else Builtin.zeroCells z.cells m).toList:=hn
  by_cases hz0:m * i.size=0
  ·have:new=[]:=by rw [hn',if_pos hz0]
   subst this
   simp [Builtin.append_,run_underlying hst,run_underlying hd,run_sizeOf' hi,typeInfo,zeroValue,hi,hz,hw,hc,asInt,asIntOf,hneg,hbig',hz0,h48',h63',Question.forced,hfo,newRow,grownCap]
  ·rw [if_neg hz0] at hn'
   subst hn'
   simp [Builtin.append_,run_underlying hst,run_underlying hd,run_sizeOf' hi,typeInfo,zeroValue,hi,hz,hw,hc,asInt,asIntOf,hneg,hbig',hz0,h48',h63',Question.forced,hfo,newRow,grownCap]
   congr 2
   apply Array.toList_inj.1
   simp
def appD (P:Program) (st xt:TypeId) (s x:Value) (K:Value→Pr) (w:World):Prop:=
 match P.underlying st with
 | some (.slice e)=>match P.info? e with
  | some i=>match i.zero with
   | some z=>match s with
    | .slice p l c=>match P.underlying xt with
     | some d=>match d with
      | .slice _=>match x with
       | .slice q m _=>App e i.size i.bytes z.cells ⟨p,l,c⟩ m (srcS q m i.size) (fun r=>K (.slice r.p r.len r.cap)) w
       | _=>F w
      | .string=>match x with
       | .string b=>App e i.size i.bytes z.cells ⟨p,l,c⟩ b.size (srcB b b.size) (fun r=>K (.slice r.p r.len r.cap)) w
       | _=>F w
      | .int _=>match x with
       | .int _ n=>AppZ e i.size i.bytes z.cells ⟨p,l,c⟩ n (fun r=>K (.slice r.p r.len r.cap)) w
       | _=>F w
      | _=>F w
     | none=>F w
    | _=>F w
   | none=>F w
  | none=>F w
 | _=>F w
theorem appD_sound {P:Program} {st xt:TypeId} {s x:Value} {K:Value→Pr} {w:World} (ty:TypeId) (h:appD P st xt s x K w) :
  ∃ v w',(Builtin.append_ #[st,xt] ty #[s,x]).run P w=.ok v w'∧K v w':=by
 simp only [appD] at h
 split at h
 ·rename_i e hst
  split at h
  ·rename_i i hi
   split at h
   ·rename_i z hz
    split at h
    ·rename_i p l c
     split at h
     ·rename_i d hd
      split at h
      ·rename_i te
       split at h
       ·rename_i q m c'
        obtain ⟨r,w',h1,h2⟩:=App_sound (P:=P) (x:=.slice q m c') hst hi hz ⟨_,hd,by simp⟩ (fun w'=>rfl) (fun new hn=>⟨RdC.first hn,RdC.first (RdC.drew hn)⟩) ty h
        exact ⟨_,w',h1,h2⟩
       ·exact h.elim
      ·split at h
       ·rename_i b
        obtain ⟨r,w',h1,h2⟩:=App_sound (P:=P) (x:=.string b) hst hi hz ⟨_,hd,by simp⟩ (fun w'=>rfl) (fun new hn=>by
         have hn':new=(cellsB b).take b.size:=hn
         subst hn'
         exact ⟨firstCells_string _ _ _ _,firstCells_string _ _ _ _⟩) ty h
        exact ⟨_,w',h1,h2⟩
       ·exact h.elim
      ·rename_i kx
       split at h
       ·rename_i k n
        obtain ⟨r,w',h1,h2⟩:=AppZ_sound (P:=P) (k:=k) hst hi hz ⟨_,hd⟩ ty h
        exact ⟨_,w',h1,h2⟩
       ·exact h.elim
      ·exact h.elim
     ·exact h.elim
    ·exact h.elim
   ·exact h.elim
  ·exact h.elim
 ·exact h.elim
def Cpy (size:Nat) (p:Option Addr) (n:Nat) (src:List Value→World→Prop) (K:Pr):Pr:=fun w=>
 ∃ new:List Value,src new w∧match p with
  | some a=>StR new a 0 K w
  | none=>K w
def copyD (P:Program) (dt st:TypeId) (d x:Value) (K:Value→Pr) (w:World):Prop:=
 match P.underlying dt with
 | some (.slice e)=>match P.info? e with
  | some i=>match d with
   | .slice p l _=>match x with
    | .slice q m _=>Cpy i.size p (Nat.min m l) (srcS q (Nat.min m l) i.size) (K (.int .i64 (Nat.min m l))) w
    | .string b=>Cpy i.size p (Nat.min b.size l) (srcB b (Nat.min b.size l)) (K (.int .i64 (Nat.min b.size l))) w
    | _=>F w
   | _=>F w
  | none=>F w
 | _=>F w
theorem copyD_sound {P:Program} {dt st:TypeId} {d x:Value} {K:Value→Pr} {w:World} (ty:TypeId) (h:copyD P dt st d x K w) :
  ∃ v w',(Builtin.copy_ #[dt,st] ty #[d,x]).run P w=.ok v w'∧K v w':=by
 simp only [copyD] at h
 split at h
 ·rename_i e hd
  split at h
  ·rename_i i hi
   split at h
   ·rename_i p l c
    split at h
    ·rename_i q m c'
     obtain ⟨new,hn,h⟩:=h
     have hf:=RdC.first (P:=P) (l:=m) (c:=c') hn
     cases p with
     | none=>exact ⟨_,w,by simp [Builtin.copy_,run_underlying hd,Builtin.lenOf,run_sizeOf' hi,hf,goInt],h⟩
     | some a=>
      obtain ⟨w',h1,h2⟩:=StR_elim (P:=P) h
      exact ⟨_,w',by simp [Builtin.copy_,run_underlying hd,Builtin.lenOf,run_sizeOf' hi,hf,goInt,h1],h2⟩
    ·rename_i b
     obtain ⟨new,hn,h⟩:=h
     have hn':new=(cellsB b).take (Nat.min b.size l):=hn
     subst hn'
     have hf:=firstCells_string (P:=P) b i.size (Nat.min b.size l) w
     cases p with
     | none=>exact ⟨_,w,by simp [Builtin.copy_,run_underlying hd,Builtin.lenOf,run_sizeOf' hi,hf,goInt],h⟩
     | some a=>
      obtain ⟨w',h1,h2⟩:=StR_elim (P:=P) h
      exact ⟨_,w',by simp [Builtin.copy_,run_underlying hd,Builtin.lenOf,run_sizeOf' hi,hf,goInt,h1],h2⟩
    ·exact h.elim
   ·exact h.elim
  ·exact h.elim
 ·exact h.elim
attribute [irreducible] okFn methD
end Go.Sx
set_option linter.unusedSimpArgs false
set_option linter.unusedVariables false
namespace Go.Sx
open Go
def setObjW (w:World) (r:Nat) (o:Obj):World:={ w with heap:=w.heap.setIfInBounds r o }
theorem run_setObj {P:Program} {w:World} {r:Nat} {es:Array MapEntry} {c:Nat} (h:w.heap[r]?=some (.map es c)) (o:Obj):(setObj r o).run P w=.ok () (setObjW w r o):=by
 simp [setObj,Sem.run,h,setObjW]
theorem run_getObj {P:Program} {w:World} {r:Nat} {es:Array MapEntry} {c:Nat} (h:w.heap[r]?=some (.map es c)):(getObj r).run P w=.ok (.map es c) w:=by
 simp [getObj,Sem.run,h]
theorem findNow_at {d:TypeDesc} {key:Value}:∀ {es:List MapEntry} {n i:Nat} {v:Value},Instr.findNow d key es n=some (some (i,v)) →
  n≤i∧∃ e,es[i - n]?=some e∧e.val=v∧Instr.sameNow d key e.key=some true
 | [],n,i,v,h=>by simp [Instr.findNow] at h
 | e :: es,n,i,v,h=>by
  simp only [Instr.findNow] at h
  split at h
  ·rename_i hs
   simp only [Option.some.injEq,Prod.mk.injEq] at h
   obtain ⟨rfl,rfl⟩:=h
   exact ⟨Nat.le_refl _,e,by simp,rfl,hs⟩
  ·obtain ⟨h1,e',h2,h3,h4⟩:=findNow_at h
   refine ⟨by omega,e',?_,h3,h4⟩
   rw [show i - n=(i - (n + 1)) + 1 from by omega]
   simpa using h2
  ·cases h
theorem sameBits_of_now {d:TypeDesc} {a b:Value} (h:Instr.sameNow d a b=some true):∀ n,Instr.sameBits n b a=true:=by
 intro n
 unfold Instr.sameNow at h
 split at h
 ·split at h
  ·rename_i hk
   subst hk
   simp only [Option.some.injEq,beq_iff_eq] at h
   subst h
   cases n <;> simp [Instr.sameBits]
  ·cases h
 ·simp only [Option.some.injEq] at h
  rw [beq_toListBytes] at h
  have h':=(beq_iff_eq.1 h).symm
  cases n <;> simp only [Instr.sameBits] <;> rw [beq_toListBytes] <;> exact beq_iff_eq.2 h'
 ·simp only [Option.some.injEq,beq_iff_eq] at h
  subst h
  cases n <;> simp [Instr.sameBits]
 ·cases h
def MSet (d:TypeDesc) (m:Option Nat) (key v:Value) (K:Pr):Pr:=fun w=>
 ∃ r es c f,m=some r∧w.heap[r]?=some (.map es c)∧Instr.findNow d key es.toList 0=some f ∧
  K (setObjW w r (match f with
   | some (i,_)=>.map (es.modify i fun e=>{ e with key,val:=v }) c
   | none=>.map (es.push { key,val:=v,born:=c }) (c + 1)))
theorem MSet_sound {P:Program} {t kt et:TypeId} {d:TypeDesc} {m:Option Nat} {key v:Value} {K:Pr} {w:World} (hu:P.underlying t=some (.map kt et)) (hk:plainKey P kt=some d) (h:MSet d m key v K w) :
  ∃ w',(Instr.mapUpdate t (.map m) key v).run P w=.ok () w'∧K w':=by
 obtain ⟨r,es,c,f,rfl,hr,hf,hK⟩:=h
 have hud:=(plainKey_under hk).1
 refine ⟨_,?_,hK⟩
 have hgo:(Instr.findKey kt key es.toList).run P w=.ok f w:=by
  simp only [Instr.findKey,Sem.run_bind,run_underlying hud,Result.andThen_ok,hf,Sem.run_pure]
 simp only [Instr.mapUpdate,Sem.run_bind,run_underlying hu,Result.andThen_ok,run_getObj hr,run_checkKey hk]
 rw [hgo]
 cases f with
 | none=>simp only [Result.andThen_ok];exact run_setObj hr _
 | some p=>
  obtain ⟨i,v'⟩:=p
  obtain ⟨_,e,he,_,hs⟩:=findNow_at hf
  have he':es[i]?=some e:=by simpa using he
  have hkey:(Instr.keyThatStays (((es[i]?).map (·.key)).getD key) key).run P w=.ok key w:=by
   simp only [Instr.keyThatStays,he',Option.map_some,Option.getD_some,sameBits_of_now hs 10000,if_true,Sem.run_pure]
  simp only [Result.andThen_ok,Sem.run_bind,hkey]
  exact run_setObj hr _
def mapSetD (P:Program) (t:TypeId) (m key v:Value) (K:Pr) (w:World):Prop:=
 match P.underlying t with
 | some (.map kt _)=>match plainKey P kt with
  | some d=>match m with
   | .map r=>MSet d r key v K w
   | _=>F w
  | none=>F w
 | _=>F w
def MEnt (d:TypeDesc) (m:Option Nat) (key zero:Value) (K:Value→Value→Pr):Pr:=fun w=>
 ∃ r es c f,m=some r∧w.heap[r]?=some (.map es c)∧Instr.findNow d key es.toList 0=some f ∧
  (match f with
   | some (i,v)=>K v (goInt (((es[i]?).map (·.born)).getD 0)) (setObjW w r (.map (es.modify i fun e=>{ e with key:=key }) c))
   | none=>K zero (goInt c) (setObjW w r (.map (es.push { key,val:=zero,born:=c }) (c + 1))))
theorem MEnt_sound {P:Program} {t kt et:TypeId} {d:TypeDesc} {m:Option Nat} {key zero:Value} {K:Value→Value→Pr} {w:World} (hu:P.underlying t=some (.map kt et)) (hk:plainKey P kt=some d) (hz:zeroOf P et=some zero) (h:MEnt d m key zero K w) :
  ∃ v b w',(Instr.mapEntry t (.map m) key).run P w=.ok (.tuple #[v,b]) w'∧K v b w':=by
 obtain ⟨r,es,c,f,rfl,hr,hf,hK⟩:=h
 have hud:=(plainKey_under hk).1
 have hgo:(Instr.findKey kt key es.toList).run P w=.ok f w:=by
  simp only [Instr.findKey,Sem.run_bind,run_underlying hud,Result.andThen_ok,hf,Sem.run_pure]
 cases f with
 | none=>
  refine ⟨_,_,_,?_,hK⟩
  simp only [Instr.mapEntry,Sem.run_bind,run_underlying hu,Result.andThen_ok,run_getObj hr,run_checkKey hk,hgo,run_zeroOf hz,run_setObj hr,Sem.run_pure]
 | some p=>
  obtain ⟨i,v'⟩:=p
  obtain ⟨_,e,he,_,hs⟩:=findNow_at hf
  have he':es[i]?=some e:=by simpa using he
  have hkey:(Instr.keyThatStays (((es[i]?).map (·.key)).getD key) key).run P w=.ok key w:=by
   simp only [Instr.keyThatStays,he',Option.map_some,Option.getD_some,sameBits_of_now hs 10000,if_true,Sem.run_pure]
  refine ⟨_,_,_,?_,hK⟩
  simp only [Instr.mapEntry,Sem.run_bind,run_underlying hu,Result.andThen_ok,run_getObj hr,run_checkKey hk,hgo,hkey,run_setObj hr,Sem.run_pure]
def MPut (m:Option Nat) (stamp v:Value) (K:Pr):Pr:=fun w=>
 ∃ r es c n i,m=some r∧stamp=.int .i64 n∧w.heap[r]?=some (.map es c)∧es.findIdx? (fun e=>(e.born:Int) == n)=some i∧K (setObjW w r (.map (es.modify i fun e=>{ e with val:=v }) c))
theorem MPut_sound {P:Program} {t:TypeId} {m:Option Nat} {stamp v:Value} {K:Pr} {w:World} (h:MPut m stamp v K w):∃ w',(Instr.entryStore t (.map m) stamp v).run P w=.ok () w'∧K w':=by
 obtain ⟨r,es,c,n,i,rfl,rfl,hr,hi,hK⟩:=h
 refine ⟨_,?_,hK⟩
 simp only [Instr.entryStore,Sem.run_bind,Result.andThen_ok,run_getObj hr,asInt,asIntOf,Sem.run_pure,hi,run_setObj hr]
def MDel (d:TypeDesc) (m:Option Nat) (key:Value) (K:Pr):Pr:=fun w=>
 match m with
 | none=>K w
 | some r=>∃ es c f,w.heap[r]?=some (.map es c)∧Instr.findNow d key es.toList 0=some f ∧
  K (setObjW w r (match f with
   | some (i,_)=>.map (es.eraseIdxIfInBounds i) c
   | none=>.map es c))
theorem MDel_sound {P:Program} {t kt et:TypeId} {d:TypeDesc} {m:Option Nat} {key:Value} {K:Pr} {w:World} (hu:P.underlying t=some (.map kt et)) (hk:plainKey P kt=some d) (ts:Array TypeId) (ty:TypeId) (h:MDel d m key K w) :
  ∃ w',(Builtin.delete_ #[t,kt] ty #[.map m,key]).run P w=.ok (.tuple #[]) w'∧K w':=by
 have hud:=(plainKey_under hk).1
 cases m with
 | none=>exact ⟨w,by simp [Builtin.delete_,run_underlying hu,run_checkKey hk],h⟩
 | some r=>
  obtain ⟨es,c,f,hr,hf,hK⟩:=h
  refine ⟨_,?_,hK⟩
  have hgo:(Instr.findKey kt key es.toList).run P w=.ok f w:=by
   simp only [Instr.findKey,Sem.run_bind,run_underlying hud,Result.andThen_ok,hf,Sem.run_pure]
  cases f with
  | none=>simp [Builtin.delete_,run_underlying hu,run_checkKey hk,run_getObj hr,hgo,run_setObj hr]
  | some p=>simp [Builtin.delete_,run_underlying hu,run_checkKey hk,run_getObj hr,hgo,run_setObj hr]
theorem run_getIt {P:Program} {w:World} {r:Nat} {mo:Option Nat} {a:Nat} {s:Array Nat} {l:Nat} (h:w.heap[r]?=some (.mapIter mo a s l)):(getObj r).run P w=.ok (.mapIter mo a s l) w:=by
 simp [getObj,Sem.run,h]
theorem run_setIt {P:Program} {w:World} {r:Nat} {mo:Option Nat} {a:Nat} {s:Array Nat} {l:Nat} (o:Obj) (h:w.heap[r]?=some (.mapIter mo a s l)):(setObj r o).run P w=.ok () (setObjW w r o):=by
 simp [setObj,Sem.run,h,setObjW]
def RgM (m:Option Nat) (K:Addr→Pr):Pr:=fun w=>
 match m with
 | none=>K ⟨w.heap.size,0,none⟩ (w.alloc (.mapIter none 0 #[] 0))
 | some r=>∃ es c,w.heap[r]?=some (.map es c)∧K ⟨w.heap.size,0,none⟩ (w.alloc (.mapIter (some r) c #[] c))
theorem RgM_sound {P:Program} {t kt et:TypeId} {m:Option Nat} {K:Addr→Pr} {w:World} (hu:P.underlying t=some (.map kt et)) (h:RgM m K w) :
  ∃ a w',(Instr.range t (.map m)).run P w=.ok (.pointer (some a)) w'∧K a w':=by
 cases m with
 | none=>exact ⟨_,_,by simp [Instr.range,run_underlying hu],h⟩
 | some r=>
  obtain ⟨es,c,hr,h⟩:=h
  exact ⟨_,_,by simp [Instr.range,run_underlying hu,run_getObj hr],h⟩
def NxM (a:Addr) (Kt:Value→Value→Pr) (Kf:Pr):Pr:=fun w=>
 a.off=0∧∃ (mo:Option Nat) (since:Nat) (seen:Array Nat) (last:Nat),w.heap[a.block]?=some (.mapIter mo since seen last) ∧
  match mo with
  | none=>Kf w
  | some m=>∃ (es:List MapEntry) (clock:Nat),w.heap[m]?=some (.map es.toArray clock)∧(seen=#[]∨es=[]∨∃ e∈es,e.born < last) ∧
   ∀ w1,(w1=w∨w1=w.drew) →
    (∀ e∈es,seen.contains e.born=false→Kt e.key e.val (setObjW w1 a.block (.mapIter (some m) since (seen.push e.born) clock))) ∧
    ((∀ e∈es,e.born < since→seen.contains e.born=true)→Kf w1)
theorem NxM_sound {P : Program} {t : TypeId} {a : Addr} {Kt : Value → Value → Pr} {Kf : Pr} {w : World} (h : NxM a Kt Kf w) :
    ∃ v w', (Instr.next (.pointer (some a)) false t).run P w = .ok v w' ∧ ((∃ k x, v = .tuple #[.bool true, k, x] ∧ Kt k x w') ∨ (v = .tuple #[.bool false] ∧ Kf w')) := by
  obtain ⟨h0, mo, since, seen, last, hit, h⟩ := h
  obtain ⟨ab, ao, av⟩ := a
  simp only at h0 hit
  subst h0
  cases mo with
  | none => exact ⟨_, _, by simp only [Instr.next, Sem.run_bind, run_getIt hit, Result.andThen_ok, Sem.run_pure], .inr ⟨rfl, h⟩⟩
  | some m=>
    obtain ⟨es, clock, hm, hg, h⟩ := h
    have hguard : (!seen.isEmpty && !es.toArray.isEmpty && es.toArray.all (·.born ≥ last)) = false := by
      rcases hg with rfl | rfl | ⟨e, he, hl⟩
      · simp
      · simp
      · have : (es.toArray.all (·.born ≥ last)) = false := by
          simp only [List.all_toArray, List.all_eq_false, decide_eq_true_eq, Nat.not_le]
          exact ⟨e, he, hl⟩
        simp only [this, Bool.and_false]
    have key : ∀ (w1 : World), (w1 = w ∨ w1 = w.drew) → ∀ (c : Option MapEntry), (c = none → (∀ e ∈ es, e.born < since → seen.contains e.born = true)) → (∀ e, c = some e → e ∈ es ∧ seen.contains e.born = false) →
        ∃ v w', (match some c with
          | some (some e) => (do setObj ab (.mapIter (some m) since (seen.push e.born) clock); pure (.tuple #[.bool true, e.key, e.val]) : Sem Value)
          | some none => pure (.tuple #[.bool false])
          | none => stuck "Next: no such candidate").run P w1 = .ok v w' ∧ ((∃ k x, v = .tuple #[.bool true, k, x] ∧ Kt k x w') ∨ (v = .tuple #[.bool false] ∧ Kf w')) := by
      intro w1 hw1 c h1 h2
      have h := h w1 hw1
      cases c with
      | none => exact ⟨_, _, rfl, .inr ⟨rfl, h.2 (h1 rfl)⟩⟩
      | some e=>
        obtain ⟨he, hs⟩ := h2 e rfl
        have hit1 : w1.heap[ab]? = some (.mapIter (some m) since seen last) := by rcases hw1 with rfl | rfl <;> exact hit
        refine ⟨_, _, ?_, .inl ⟨_, _, rfl, h.1 e he hs⟩⟩
        simp only [Sem.run_bind, run_setIt _ hit1, Result.andThen_ok, Sem.run_pure]
    generalize hleft : es.toArray.filter (fun e => !seen.contains e.born) = left
    generalize hold : left.filter (fun e => decide (e.born < since)) = old
    generalize hnew : left.filter (fun e => decide (e.born ≥ since)) = new
    have hmemleft : ∀ e, e ∈ left → e ∈ es ∧ seen.contains e.born = false := by
      intro e he
      rw [← hleft] at he
      simp only [Array.mem_filter, List.mem_toArray, Bool.not_eq_true'] at he
      exact he
    have hcand : ∀ c, c ∈ ((if old.isEmpty then #[none] else #[]) ++ (old ++ new).map some : Array (Option MapEntry)) → (c = none → (∀ e ∈ es, e.born < since → seen.contains e.born = true)) ∧ (∀ e, c = some e → e ∈ es ∧ seen.contains e.born = false) := by
      intro c hc
      refine ⟨fun hn e he hlt => ?_, fun e hce => ?_⟩
      · subst hn
        have : old.isEmpty = true := by
          cases ho : old.isEmpty with
          | true => rfl
          | false => rw [ho] at hc; simp at hc
        by_cases hs : seen.contains e.born = true
        · exact hs
        · have hin : e ∈ old := by
            rw [← hold, ← hleft]
            simp only [Array.mem_filter, List.mem_toArray, Bool.not_eq_true', decide_eq_true_eq]
            exact ⟨⟨he, by simpa using hs⟩, hlt⟩
          rw [Array.isEmpty_iff] at this
          rw [this] at hin
          simp at hin
      · subst hce
        have : e ∈ old ++ new := by
          rcases Array.mem_append.1 hc with hc | hc
          · split at hc <;> simp at hc
          · simpa using hc
        rw [Array.mem_append] at this
        rcases this with h | h
        · rw [← hold] at h; exact hmemleft e (Array.mem_filter.1 h).1
        · rw [← hnew] at h; exact hmemleft e (Array.mem_filter.1 h).1
    have hpos : 0 < ((if old.isEmpty then #[none] else #[]) ++ (old ++ new).map some : Array (Option MapEntry)).size := by
      cases ho : old.isEmpty with
      | true => simp; omega
      | false=>
        have : 0 < old.size := by
          rw [Nat.pos_iff_ne_zero]; intro hz
          have := Array.isEmpty_iff_size_eq_zero.2 hz
          rw [ho] at this; cases this
        simp; omega
    generalize hcs : ((if old.isEmpty then #[none] else #[]) ++ (old ++ new).map some : Array (Option MapEntry)) = cands at hcand hpos
    have hrun : (Instr.next (.pointer (some ⟨ab, 0, av⟩)) false t).run P w = ((choose (.mapNext cands.size)).run P w).andThen fun n w1 => (match cands[n]? with
          | some (some e) => (do setObj ab (.mapIter (some m) since (seen.push e.born) clock); pure (.tuple #[.bool true, e.key, e.val]) : Sem Value)
          | some none => pure (.tuple #[.bool false])
          | none => stuck "Next: no such candidate").run P w1 := by
      simp only [Instr.next, Sem.run_bind, run_getIt hit, run_getObj hm, Result.andThen_ok, hguard, Bool.false_eq_true, if_false, hleft, hold, hnew, Sem.run_pure]
      rw [hcs]
      rfl
    rw [hrun, run_choose_drew]
    split
    · rename_i hf
      simp only [Result.andThen_ok]
      have h0 : cands[0]? = some cands[0] := Array.getElem?_eq_getElem hpos
      rw [h0]
      have := hcand cands[0] (Array.getElem_mem _)
      exact key w (.inl rfl) _ this.1 this.2
    · simp only [Result.andThen_ok]
      generalize hn : (Question.mapNext cands.size).cut (w.tape w.drawn (.mapNext cands.size)) = n
      have hlt : n < cands.size := by
        rw [← hn]
        exact Nat.mod_lt _ hpos
      rw [Array.getElem?_eq_getElem hlt]
      have := hcand cands[n] (Array.getElem_mem _)
      exact key w.drew (.inr rfl) _ this.1 this.2
def TaK (t:TypeId) (x:Value) (K:Value→Pr):Pr:=fun w=>∃ y,x=.iface t y∧K y w
def ClrS (z:Array Value) (s:Sl) (K:Pr):Pr:=fun w=>
 match s.len with
 | 0=>K w
 | n + 1=>match s.p with
  | none=>K w
  | some a=>StR (Builtin.zeroCells z (n + 1)).toList a 0 K w
def ClrM (m:Option Nat) (K:Pr):Pr:=fun w=>
 match m with
 | none=>K w
 | some r=>∃ es c,w.heap[r]?=some (.map es c)∧K (setObjW w r (.map #[] c))
theorem ClrS_sound {P:Program} {t e:TypeId} {z:Value} {s:Sl} {K:Pr} {w:World} (hu:P.underlying t=some (.slice e)) (hz:zeroOf P e=some z) (ty:TypeId) (h:ClrS z.cells s K w) :
  ∃ w',(Builtin.clear_ #[t] ty #[.slice s.p s.len s.cap]).run P w=.ok (.tuple #[]) w'∧K w':=by
 obtain ⟨p,l,c⟩:=s
 unfold ClrS at h
 simp only at h ⊢
 cases l with
 | zero=>exact ⟨w,by cases p <;> simp [Builtin.clear_,run_underlying hu],h⟩
 | succ n=>
  simp only at h
  cases p with
  | none=>exact ⟨w,by simp [Builtin.clear_,run_underlying hu],h⟩
  | some a=>
   obtain ⟨w',h1,h2⟩:=StR_elim (P:=P) h
   refine ⟨w',?_,h2⟩
   simp only [Builtin.clear_,List.getElem?_toArray,List.getElem?_cons_zero,Sem.run_bind,run_underlying hu,Result.andThen_ok,run_zeroOf hz,h1,Sem.run_pure]
theorem ClrM_sound {P:Program} {t kt et:TypeId} {m:Option Nat} {K:Pr} {w:World} (hu:P.underlying t=some (.map kt et)) (ty:TypeId) (h:ClrM m K w) :
  ∃ w',(Builtin.clear_ #[t] ty #[.map m]).run P w=.ok (.tuple #[]) w'∧K w':=by
 cases m with
 | none=>exact ⟨w,by simp [Builtin.clear_,run_underlying hu],h⟩
 | some r=>
  obtain ⟨es,c,hr,h⟩:=h
  exact ⟨_,by simp [Builtin.clear_,run_underlying hu,run_getObj hr,run_setObj hr],h⟩
def MkS (p:Option Addr) (K:Pr):Pr:=fun w=>
 ∃ a cs t,p=some a∧w.heap[a.block]?=some (.cells cs t (0,0))∧K (setObjW w a.block (.cells cs t (cs.size,cs.size + 1)))
theorem MkS_sound {P:Program} {src e:TypeId} {p:Option Addr} {l c:Nat} {K:Pr} {w:World} (hs:P.underlying src=some (.slice e)) (he:P.underlying e=some (.int .u8)) (h:MkS p K w) :
  ∃ w',(convert src src (.slice p l c)).run P w=.ok (.slice p l c) w'∧K w':=by
 obtain ⟨a,cs,t,rfl,hb,hk⟩:=h
 refine ⟨_,?_,hk⟩
 have hsh:w.shape? a.block=some (t,cs.size):=by simp [World.shape?,hb]
 have hf:w.freeze { block:=a.block,off:=cs.size } 1=setObjW w a.block (.cells cs t (cs.size,cs.size + 1)):=by
  simp only [World.freeze,setObjW]
  rw [if_neg (by decide)]
  congr 1
  apply Array.ext_getElem?
  intro j
  rw [Array.getElem?_modify,Array.getElem?_setIfInBounds]
  by_cases hj:a.block=j
  ·subst hj
   rw [if_pos rfl,if_pos rfl,hb,if_pos (Array.getElem?_eq_some_iff.1 hb).1]
   rfl
  ·rw [if_neg hj,if_neg hj]
 simp [convert,run_underlying hs,run_underlying he,markStringish,hsh,hf]
def Mk (e:TypeId) (size bytes:Nat) (z:Array Value) (l c:Int) (K:Sl→Pr):Pr:=fun w=>
 0≤l∧l≤c∧(bytes:Int) * c≤281474976710656∧c≤9223372036854775807 ∧
  K ⟨some ⟨w.heap.size,0,none⟩,l.toNat,c.toNat⟩ (w.alloc (.cells (madeCells z (c.toNat * size)) e))
def makeSliceD (P:Program) (t:TypeId) (l c:Value) (K:Value→Pr) (w:World):Prop:=
 match P.underlying t with
 | some (.slice e)=>match P.info? e with
  | some i=>match i.zero with
   | some z=>match l with
    | .int _ l=>match c with
     | .int _ c=>Mk e i.size i.bytes z.cells l c (fun r=>K (.slice r.p r.len r.cap)) w
     | _=>F w
    | _=>F w
   | none=>F w
  | none=>F w
 | _=>F w
theorem makeSliceD_sound {P:Program} {t:TypeId} {l c:Value} {K:Value→Pr} {w:World} (h:makeSliceD P t l c K w) :
  ∃ v w',(Instr.makeSlice t l c).run P w=.ok v w'∧K v w':=by
 simp only [makeSliceD] at h
 split at h
 ·rename_i e hu
  split at h
  ·rename_i i hi
   split at h
   ·rename_i z hz
    split at h
    ·rename_i kl l
     split at h
     ·rename_i kc c
      obtain ⟨h0,h1,h2,h3,hk⟩:=h
      exact ⟨_,_,run_make w t e i z hu hi hz kl kc l c h0 h1 h2 h3,hk⟩
     ·exact h.elim
    ·exact h.elim
   ·exact h.elim
  ·exact h.elim
 ·exact h.elim
def zerosL (zs:List Value):Nat→List Value
 | 0=>[]
 | n + 1=>zs ++ zerosL zs n
theorem zerosL_length (zs:List Value) (n:Nat):(zerosL zs n).length=n * zs.length:=by
 induction n with
 | zero=>simp [zerosL]
 | succ n ih=>simp [zerosL,ih,Nat.succ_mul,Nat.add_comm]
theorem zerosL_get (zs:List Value) (hz:0 < zs.length):∀ (n j:Nat),j < n * zs.length→(zerosL zs n)[j]?=zs[j % zs.length]?
 | 0,j,h=>by simp at h
 | n + 1,j,h=>by
  simp only [zerosL]
  by_cases hj:j < zs.length
  ·rw [List.getElem?_append_left hj,Nat.mod_eq_of_lt hj]
  ·have hs:(n + 1) * zs.length=n * zs.length + zs.length:=Nat.succ_mul _ _
   have hm:j % zs.length=(j - zs.length) % zs.length:=Nat.mod_eq_sub_mod (by omega)
   rw [List.getElem?_append_right (by omega),zerosL_get zs hz n (j - zs.length) (by omega),hm]
theorem zeros_eq (zs:Array Value) (n:Nat):((Array.range (n * zs.size)).map (fun x=>zs[x % zs.size]!))=(zerosL zs.toList n).toArray:=by
 apply Array.ext_getElem?
 intro j
 by_cases hz:zs.size=0
 ·have:zs=#[]:=by simpa using hz
  subst this
  have h0:zerosL ([]:List Value) n=[]:=by
   have:=zerosL_length ([]:List Value) n
   simpa using this
  simp [h0]
 ·have hl:(zerosL zs.toList n).length=n * zs.size:=by simpa using zerosL_length zs.toList n
  by_cases hj:j < n * zs.size
  ·have hm:j % zs.size < zs.size:=Nat.mod_lt _ (by omega)
   have:=zerosL_get zs.toList (by simp;omega) n j (by simpa using hj)
   simp only [List.getElem?_toArray,this]
   simp [hj,hm]
  ·rw [Array.getElem?_eq_none (by simp;omega),Array.getElem?_eq_none (by simp [hl];omega)]
def placeE (size:Nat) (e:TypeId) (i:Nat):Option (Nat × TypeId):=some (i * size,e)
def buildSliceD (P:Program) (t:TypeId) (n:Nat) (parts:List (Nat × Value)) (K:Value→Pr) (w:World):Prop:=
 match P.underlying t with
 | some (.slice e)=>match P.info? e with
  | some i=>match i.zero with
   | some z=>match decide (i.size=z.cells.size) && decide (0 < i.size) && decide (n * i.size≤16777216) with
    | true=>fillD P (placeE i.size e) parts (zerosL z.cells.toList n) (fun r=>New r.toArray e (fun a=>K (.slice (some a) n n))) w
    | false=>F w
   | none=>F w
  | none=>F w
 | _=>F w
theorem buildSliceD_sound {P:Program} {t:TypeId} {n:Nat} {parts:Array (Nat × Value)} {K:Value→Pr} {w:World} (h:buildSliceD P t n parts.toList K w) :
  ∃ v w',(Instr.buildSlice t n parts).run P w=.ok v w'∧K v w':=by
 simp only [buildSliceD] at h
 split at h
 ·rename_i e hu
  split at h
  ·rename_i i hi
   split at h
   ·rename_i z hz
    split at h
    ·rename_i hc
     simp only [Bool.and_eq_true,decide_eq_true_eq] at hc
     obtain ⟨⟨h1,h2⟩,h3⟩:=hc
     obtain ⟨r,hr,hk⟩:=fillD_sound (place':=fun k=>some (k * i.size,i.size)) (fun k off u inf hp hi'=>by
      simp only [placeE,Option.some.injEq,Prod.mk.injEq] at hp
      obtain ⟨rfl,rfl⟩:=hp
      rw [hi] at hi'
      simp only [Option.some.injEq] at hi'
      subst hi'
      rfl) h
     refine ⟨_,_,?_,hk⟩
     have h3':¬ (16777216 < n * i.size):=by omega
     simp only [Instr.buildSlice,Sem.run_bind,run_underlying hu,Result.andThen_ok,run_sizeOf' hi]
     rw [if_neg (by simpa using h3')]
     split
     ·rename_i h0
      have hn:n=0:=by
       rcases Nat.mul_eq_zero.1 h0 with h | h
       ·exact h
       ·omega
      subst hn
      have hzz:((Array.range (0 * i.size)).map (fun x=>(#[]:Array Value)[x % (#[]:Array Value).size]!))=(zerosL z.cells.toList 0).toArray:=by
       simp [zerosL]
      simp only [Sem.run_bind,Sem.run_pure,Result.andThen_ok,hzz]
      rw [hr]
      simp only [newRow,Sem.run_bind,run_newObj,Result.andThen_ok,Sem.run_pure]
      rfl
     ·have hzz:((Array.range (n * i.size)).map (fun x=>z.cells[x % z.cells.size]!))=(zerosL z.cells.toList n).toArray:=by
       rw [h1]
       exact zeros_eq z.cells n
      have hzv:(zeroValue e).run P w=.ok z w:=by simp [zeroValue,typeInfo,hi,hz]
      simp only [Sem.run_bind,Sem.run_pure,Result.andThen_ok,hzv,hzz]
      rw [hr]
      simp only [newRow,Sem.run_bind,run_newObj,Result.andThen_ok,Sem.run_pure]
      rfl
    ·exact h.elim
   ·exact h.elim
  ·exact h.elim
 ·exact h.elim
def newD (P:Program) (t:TypeId) (v:Value) (K:Value→Pr) (w:World):Prop:=
 match isAggB P t with
 | true=>match v with
  | .agg cs=>New cs t (fun a=>K (.pointer (some a))) w
  | _=>F w
 | false=>match kd P t with
  | some .v=>Req (v.oneCell'=true) (New #[v] t (fun a=>K (.pointer (some a)))) w
  | _=>match v.oneCell' with
   | true=>New #[v] t (fun a=>K (.pointer (some a))) w
   | false=>F w
theorem newD_sound {P:Program} {t:TypeId} {v:Value} {K:Value→Pr} {w:World} (h:newD P t v K w) :
  ∃ a w',(newVar t v).run P w=.ok a w'∧K (.pointer (some a)) w':=by
 have one:v.oneCell'=true→New #[v] t (fun a=>K (.pointer (some a))) w→∃ a w',(newVar t v).run P w=.ok a w'∧K (.pointer (some a)) w':=fun h1 h2=>
  ⟨_,_,by simp [newVar,newRow,cells_one h1],h2⟩
 simp only [newD] at h
 split at h
 ·split at h
  ·exact ⟨_,_,by simp [newVar,newRow,Value.cells],h⟩
  ·exact h.elim
 ·split at h
  ·exact one h.1 h.2
  ·split at h
   ·exact one ‹_› h
   ·exact h.elim
def callD (P:Program) (c:Go.Call) (t:TypeId) (ρ:Operand→Value) (K:Value→Pr) (w:World):Prop:=
 match resK P t with
 | some (tup,rs)=>match c.callee with
  | .value f=>CallV P (ρ f) (c.args.toList.map ρ) tup rs (fun s=>K (encRes tup rs s)) w
  | .invoke r name=>Inv P (ρ r) name (c.args.toList.map ρ) tup rs (fun s=>K (encRes tup rs s)) w
  | .builtin _=>F w
 | none=>F w
def heavyD (P:Program) (o:Oper) (ρ:Operand→Value) (K:Value→Pr) (w:World):Prop:=
 match o.op with
 | .store t x y=>match ρ x with
  | .pointer p=>Nn p (fun a=>StD P t a (ρ y) (K undef)) w
  | _=>F w
 | .alloc t=>match zeroOf P t with
  | some z=>newD P t z K w
  | none=>F w
 | .box t x=>newD P t (ρ x) K w
 | .buildSlice t n parts=>buildSliceD P t n (evs ρ parts.toList) K w
 | .makeSlice t l c=>makeSliceD P t (ρ l) (ρ c) K w
 | .makeMap _ r=>match r with
  | none=>NewObj (.map #[] 0) (fun r=>K (.map (some r))) w
  | some _=>F w
 | .convert src dst x=>match ρ x with
  | .string s=>match P.underlying src with
   | some _=>match P.underlying dst with
    | some (.slice e)=>match P.underlying e with
     | some (.int .u8)=>StoB e s (fun r=>K (.slice r.p r.len r.cap)) w
     | some (.int .i32)=>match P.underlying src with
      | some .string=>StoU e s (fun r=>K (.slice r.p r.len r.cap)) w
      | _=>F w
     | _=>F w
    | _=>F w
   | none=>F w
  | .slice p l c=>match decide (src=dst) with
   | true=>match P.underlying src with
    | some (.slice e)=>match P.underlying e with
     | some (.int .u8)=>MkS p (K (.slice p l c)) w
     | _=>F w
    | _=>F w
   | false=>F w
  | _=>F w
 | .mapUpdate t m k v=>mapSetD P t (ρ m) (ρ k) (ρ v) (K undef) w
 | .insert t m k v=>mapSetD P t (ρ m) (ρ k) (ρ v) (K undef) w
 | .mapEntry t m k=>match P.underlying t with
  | some (.map kt et)=>match plainKey P kt with
   | some d=>match ρ m with
    | .map r=>match zeroOf P et with
     | some z=>MEnt d r (ρ k) z (fun v b=>K (.tuple #[v,b])) w
     | none=>F w
    | _=>F w
   | none=>F w
  | _=>F w
 | .entryStore _ m st x=>match ρ m with
  | .map r=>MPut r (ρ st) (ρ x) (K undef) w
  | _=>F w
 | .range t x=>match P.underlying t with
  | some (.map _ _)=>match ρ x with
   | .map m=>RgM m (fun a=>K (.pointer (some a))) w
   | _=>F w
  | _=>F w
 | .next x isS=>match isS with
  | false=>match ρ x with
   | .pointer (some a)=>NxM a (fun k v=>K (.tuple #[.bool true,k,v])) (K (.tuple #[.bool false])) w
   | _=>F w
  | true=>F w
 | .typeAssert x _ t ok=>match ok with
  | false=>match P.underlying t with
   | some (.interface _)=>F w
   | some _=>TaK t (ρ x) (fun y=>tyD P t y K) w
   | none=>F w
  | true=>F w
 | .call c=>match c.callee with
  | .builtin b=>match b with
   | .append=>match c.argTypes.toList with
    | [st,xt]=>match c.args.toList with
     | [s,x]=>appD P st xt (ρ s) (ρ x) K w
     | _=>F w
    | _=>F w
   | .copy=>match c.argTypes.toList with
    | [dt,st]=>match c.args.toList with
     | [d,x]=>copyD P dt st (ρ d) (ρ x) K w
     | _=>F w
    | _=>F w
   | .clear=>match c.argTypes.toList with
    | [t]=>match c.args.toList with
     | [x]=>match P.underlying t with
      | some (.slice e)=>match zeroOf P e with
       | some z=>match ρ x with
        | .slice p l c=>ClrS z.cells ⟨p,l,c⟩ (K (.tuple #[])) w
        | _=>F w
       | none=>F w
      | some (.map _ _)=>match ρ x with
       | .map m=>ClrM m (K (.tuple #[])) w
       | _=>F w
      | _=>F w
     | _=>F w
    | _=>F w
   | .delete=>match c.argTypes.toList with
    | [t,kt]=>match c.args.toList with
     | [m,k]=>match P.underlying t with
      | some (.map kt' _)=>match plainKey P kt' with
       | some d=>match decide (kt=kt') with
        | true=>match ρ m with
         | .map r=>MDel d r (ρ k) (K (.tuple #[])) w
         | _=>F w
        | false=>F w
       | none=>F w
      | _=>F w
     | _=>F w
    | _=>F w
   | _=>F w
  | _=>callD P c o.type ρ K w
 | _=>F w
theorem callD_sound {P : Program} {o : Oper} {c : Go.Call} (ho : o.op = .call c) {ρ : Operand → Value} {K : Value → Pr} {w : World} (h : callD P c o.type ρ K w) : Does P o ρ K w := by
  simp only [callD] at h
  have hargs : ∀ (xs : Array Operand), (xs.map ρ) = (xs.toList.map ρ).toArray := fun xs => Array.toList_inj.1 (by simp)
  have go : ∀ {f : FuncId} {args : Array Value} {tup : Bool} {rs : List RK}, (execOp ρ o).run P w = .ok (.enter f args) w → Calls P f args w (fun | .returned v, w' => ∃ s, v = encRes tup rs s ∧ K (encRes tup rs s) w' | _, _ => False) → Does P o ρ K w := by
    intro f args tup rs he hc
    refine does_enter he (hc.mono fun e w' h => ?_)
    cases e with
    | returned v => obtain ⟨s, rfl, h⟩ := h; exact h
    | panicked c => exact h
    | outgrown => exact h
  split at h
  · rename_i tup rs hr
    split at h
    · rename_i f hf
      unfold CallV at h
      split at h
      · rename_i fn first cap hv
        split at h
        · rename_i g
          split at h
          · refine go (tup := tup) (rs := rs) ?_ h.2
            unfold execOp
            rw [ho]
            simp only [resolve, hf, hv, Deferred.ofValue, Sem.run_bind, Sem.run_pure, Result.andThen_ok, invoke, run_callFunc h.1, hargs]
            congr 2
            apply Array.toList_inj.1
            simp
          · obtain ⟨s, w', h1, h2⟩ := h
            refine does_value (v := encRes tup rs s) (w' := w') ?_ h2
            unfold execOp
            rw [ho]
            simp only [resolve, hf, hv, Deferred.ofValue, Sem.run_bind, Sem.run_pure, Result.andThen_ok, invoke, hargs]
            rw [show (first ++ (c.args.toList.map ρ).toArray ++ cap) = (first.toList ++ c.args.toList.map ρ ++ cap.toList).toArray from Array.toList_inj.1 (by simp)]
            exact h1
        · rename_i l
          obtain ⟨r, h1, h2, h3⟩ := h
          have hrun : (execOp ρ o).run P w = .ok (.round l r.fn ((r.params.zip ((first.toList ++ c.args.toList.map ρ).toArray)).foldl (fun tmps (t, a) => tmps.setIfInBounds t a) r.tmps) r.assign r.body) w := by
            unfold execOp
            rw [ho]
            simp only [resolve, hf, hv, Deferred.ofValue, Sem.run_bind, Sem.run_pure, Result.andThen_ok, invoke, hargs]
            rw [show (first ++ (c.args.toList.map ρ).toArray) = (first.toList ++ c.args.toList.map ρ).toArray from Array.toList_inj.1 (by simp)]
            exact run_yield h1 (by simpa using h2)
          refine does_round hrun (h3.mono fun e w' h => ?_)
          cases e with
          | returned v => obtain ⟨s, rfl, h⟩ := h; exact h
          | panicked c => exact h
          | outgrown => exact h
        · exact h.elim
      · exact h.elim
    · rename_i r name hf
      unfold Inv at h
      split at h
      · rename_i t x hv
        split at h
        · rename_i f hm
          refine go (tup := tup) (rs := rs) ?_ h.2
          unfold execOp
          rw [ho]
          have hnum : P.types.size + Made.depth = (P.types.size + Made.depth - 1) + 1 := by have : 0 < Made.depth := by decide
                                                                                            omega
          simp only [resolve, hf, hv, Sem.run_bind, Sem.run_pure, Result.andThen_ok, invoke, hargs]
          simp only [List.getElem?_toArray, callMethod, Array.getElem?_append, Sem.run_bind, run_program, Result.andThen_ok]
          simp only [List.size_toArray, List.length_cons, List.length_nil, Nat.zero_add, Nat.lt_one_iff, if_true, List.getElem?_cons_zero, Sem.run_bind, run_program, Result.andThen_ok]
          rw [hnum, run_method hm]
          simp only [Result.andThen_ok]
          rw [run_callFunc h.1]
          congr 2
          apply Array.toList_inj.1
          simp
          rw [List.take_of_length_le (by simp)]
        · exact h.elim
      · exact h.elim
    · exact h.elim
  · exact h.elim
theorem heavyD_sound {P:Program} {o:Oper} {ρ:Operand→Value} {K:Value→Pr} {w:World} (h:heavyD P o ρ K w):Does P o ρ K w:=by
 have lift:∀ {s:Sem Value} (he:execOp ρ o=(do pure (.value (← s)))),(∃ v w',s.run P w=.ok v w'∧K v w')→Does P o ρ K w:=by
  intro s he ⟨v,w',hv,hk⟩
  exact does_value (by rw [he];simp [hv]) hk
 have liftU:∀ {s:Sem Unit} (he:execOp ρ o=(do s;pure .skip)),(∃ w',s.run P w=.ok () w'∧K undef w')→Does P o ρ K w:=by
  intro s he ⟨w',hv,hk⟩
  exact does_skip (by rw [he];simp [hv]) hk
 unfold heavyD at h
 split at h
 ·rename_i t x y ho
  split at h
  ·rename_i p ha
   cases p with
   | none=>exact h.elim
   | some a=>
   obtain ⟨w',h1,h2⟩:=StD_sound h
   exact liftU (s:=Instr.storeAt t (ρ x) (ρ y)) (by unfold execOp;rw [ho]) ⟨w',by simp [Instr.storeAt,ha,Instr.sureAddr,h1],h2⟩
  ·exact h.elim
 ·rename_i t ho
  split at h
  ·rename_i z hz
   obtain ⟨a,w',h1,h2⟩:=newD_sound h
   exact lift (s:=Instr.alloc t true (.tuple #[])) (by unfold execOp;rw [ho]) ⟨_,w',by simp [Instr.alloc,run_zeroOf hz,h1],h2⟩
  ·exact h.elim
 ·rename_i t x ho
  obtain ⟨a,w',h1,h2⟩:=newD_sound h
  exact lift (s:=Instr.box t (ρ x)) (by unfold execOp;rw [ho]) ⟨_,w',by simp [Instr.box,h1],h2⟩
 ·rename_i t n parts ho
  rw [← evs_eq] at h
  exact lift (by unfold execOp;rw [ho]) (buildSliceD_sound h)
 ·rename_i t l c ho
  exact lift (by unfold execOp;rw [ho]) (makeSliceD_sound h)
 ·rename_i t r ho
  split at h
  ·exact lift (s:=Instr.makeMap t none) (by unfold execOp;rw [ho];rfl) ⟨_,_,by simp [Instr.makeMap],h⟩
  ·exact h.elim
 ·rename_i src dst x ho
  split at h
  ·rename_i s hx
   split at h
   ·rename_i u hs
    split at h
    ·rename_i e hd
     split at h
     ·rename_i he
      obtain ⟨r,w',h1,h2⟩:=run_stringToBytes hs hd he h
      exact lift (by unfold execOp;rw [ho]) ⟨_,w',by rw [hx];exact h1,h2⟩
     ·rename_i he
      split at h
      ·rename_i hs
       obtain ⟨r,w',h1,h2⟩:=run_stringToRunes hs hd he h
       exact lift (by unfold execOp;rw [ho]) ⟨_,w',by rw [hx];exact h1,h2⟩
      ·exact h.elim
     ·exact h.elim
    ·exact h.elim
   ·exact h.elim
  ·rename_i p l c hx
   split at h
   ·rename_i hsd
    have hsd':src=dst:=by simpa using hsd
    subst hsd'
    split at h
    ·rename_i e hs
     split at h
     ·rename_i he
      obtain ⟨w',h1,h2⟩:=MkS_sound (P:=P) hs he h
      exact lift (by unfold execOp;rw [ho]) ⟨_,w',by rw [hx];exact h1,h2⟩
     ·exact h.elim
    ·exact h.elim
   ·exact h.elim
  ·exact h.elim
 ·rename_i t m k v ho
  simp only [mapSetD] at h
  split at h
  ·rename_i kt et hu
   split at h
   ·rename_i d hd
    split at h
    ·rename_i r hr
     obtain ⟨w',h1,h2⟩:=MSet_sound hu hd h
     exact liftU (s:=Instr.mapUpdate t (ρ m) (ρ k) (ρ v)) (by unfold execOp;rw [ho]) ⟨w',by rw [hr];exact h1,h2⟩
    ·exact h.elim
   ·exact h.elim
  ·exact h.elim
 ·rename_i t m k v ho
  simp only [mapSetD] at h
  split at h
  ·rename_i kt et hu
   split at h
   ·rename_i d hd
    split at h
    ·rename_i r hr
     obtain ⟨w',h1,h2⟩:=MSet_sound hu hd h
     exact liftU (s:=Instr.mapUpdate t (ρ m) (ρ k) (ρ v)) (by unfold execOp;rw [ho]) ⟨w',by rw [hr];exact h1,h2⟩
    ·exact h.elim
   ·exact h.elim
  ·exact h.elim
 ·rename_i t m k ho
  split at h
  ·rename_i kt et hu
   split at h
   ·rename_i d hd
    split at h
    ·rename_i r hr
     split at h
     ·rename_i z hz
      obtain ⟨v,b,w',h1,h2⟩:=MEnt_sound hu hd hz h
      exact lift (by unfold execOp;rw [ho]) ⟨_,w',by rw [hr];exact h1,h2⟩
     ·exact h.elim
    ·exact h.elim
   ·exact h.elim
  ·exact h.elim
 ·rename_i t m st x ho
  split at h
  ·rename_i r hr
   obtain ⟨w',h1,h2⟩:=MPut_sound (t:=t) h
   exact liftU (s:=Instr.entryStore t (ρ m) (ρ st) (ρ x)) (by unfold execOp;rw [ho]) ⟨w',by rw [hr];exact h1,h2⟩
  ·exact h.elim
 ·rename_i t x ho
  split at h
  ·rename_i kt et hu
   split at h
   ·rename_i m hm
    obtain ⟨a,w',h1,h2⟩:=RgM_sound hu h
    exact lift (by unfold execOp;rw [ho]) ⟨_,w',by rw [hm];exact h1,h2⟩
   ·exact h.elim
  ·exact h.elim
 ·rename_i x isS ho
  split at h
  ·split at h
   ·rename_i a ha
    obtain ⟨v,w',h1,h2⟩:=NxM_sound (P:=P) (t:=o.type) h
    refine lift (by unfold execOp;rw [ho]) ⟨v,w',by rw [ha];exact h1,?_⟩
    rcases h2 with ⟨k,y,rfl,h2⟩ | ⟨rfl,h2⟩
    ·exact h2
    ·exact h2
   ·exact h.elim
  ·exact h.elim
 ·rename_i x xt t ok ho
  split at h
  ·split at h
   ·exact h.elim
   ·rename_i d hni hu
    obtain ⟨y,hy,h⟩:=h
    refine lift (s:=Instr.typeAssert (ρ x) xt t false) (by unfold execOp;rw [ho]) ⟨y,w,?_,tyD_elim h⟩
    simp only [Instr.typeAssert,Sem.run_bind,run_underlying hu,Result.andThen_ok,hy]
    cases d <;> first
     | exact absurd rfl (hni _)
     | simp
   ·exact h.elim
  ·exact h.elim
 ·rename_i c ho
  split at h
  ·rename_i b hb
   split at h
   ·split at h
    ·rename_i st xt ht
     split at h
     ·rename_i s x hx
      have e1:c.argTypes=#[st,xt]:=Array.toList_inj.1 (by simpa using ht)
      have e2:c.args=#[s,x]:=Array.toList_inj.1 (by simpa using hx)
      exact lift (execOp_builtin ho hb (s:=Builtin.append_ #[st,xt] o.type #[ρ s,ρ x]) (by rw [e1,e2];simp [builtin])) (appD_sound _ h)
     ·exact h.elim
    ·exact h.elim
   ·split at h
    ·rename_i st xt ht
     split at h
     ·rename_i s x hx
      have e1:c.argTypes=#[st,xt]:=Array.toList_inj.1 (by simpa using ht)
      have e2:c.args=#[s,x]:=Array.toList_inj.1 (by simpa using hx)
      exact lift (execOp_builtin ho hb (s:=Builtin.copy_ #[st,xt] o.type #[ρ s,ρ x]) (by rw [e1,e2];simp [builtin])) (copyD_sound _ h)
     ·exact h.elim
    ·exact h.elim
   ·split at h
    ·rename_i t ht
     split at h
     ·rename_i x hx
      have e1:c.argTypes=#[t]:=Array.toList_inj.1 (by simpa using ht)
      have e2:c.args=#[x]:=Array.toList_inj.1 (by simpa using hx)
      split at h
      ·rename_i e hu
       split at h
       ·rename_i z hz
        split at h
        ·rename_i p l cc hxs
         obtain ⟨w',h1,h2⟩:=ClrS_sound (P:=P) hu hz o.type h
         exact lift (execOp_builtin ho hb (s:=Builtin.clear_ #[t] o.type #[ρ x]) (by rw [e1,e2];simp [builtin])) ⟨_,w',by rw [hxs];exact h1,h2⟩
        ·exact h.elim
       ·exact h.elim
      ·rename_i kt et hu
       split at h
       ·rename_i m hxs
        obtain ⟨w',h1,h2⟩:=ClrM_sound (P:=P) hu o.type h
        exact lift (execOp_builtin ho hb (s:=Builtin.clear_ #[t] o.type #[ρ x]) (by rw [e1,e2];simp [builtin])) ⟨_,w',by rw [hxs];exact h1,h2⟩
       ·exact h.elim
      ·exact h.elim
     ·exact h.elim
    ·exact h.elim
   ·split at h
    ·rename_i st xt ht
     split at h
     ·rename_i s x hx
      have e1:c.argTypes=#[st,xt]:=Array.toList_inj.1 (by simpa using ht)
      have e2:c.args=#[s,x]:=Array.toList_inj.1 (by simpa using hx)
      split at h
      ·rename_i kt' et hu
       split at h
       ·rename_i d hd
        split at h
        ·rename_i hk
         have hk':xt=kt':=by simpa using hk
         subst hk'
         split at h
         ·rename_i r hr
          obtain ⟨w',h1,h2⟩:=MDel_sound (P:=P) hu hd #[] o.type h
          exact lift (execOp_builtin ho hb (s:=Builtin.delete_ #[st,xt] o.type #[ρ s,ρ x]) (by rw [e1,e2];simp [builtin])) ⟨_,w',by rw [hr];exact h1,h2⟩
         ·exact h.elim
        ·exact h.elim
       ·exact h.elim
      ·exact h.elim
     ·exact h.elim
    ·exact h.elim
   ·exact h.elim
  ·exact callD_sound ho h
 ·exact h.elim
inductive Cls where
 | pure | read | heavy
def cls (P:Program) (o:Oper):Cls:=
 match o.op with
 | .move _ | .assign _ | .pick _ _ _ | .nilCheck _ | .binOp _ _ _ _ _ | .unOp _ _ _ | .makeInterface _ _ | .makeFunc _ _ _ | .build _ _ | .slice _ _ _ _ _ | .field _ _ _ | .fieldAddr _ _ _
 | .indexAddr _ _ _ | .index _ _ _ | .extract _ _ | .sliceToArrayPointer _ _=>.pure
 | .load _ _ | .lookup _ _ _ _ | .entry _=>.read
 | .convert src dst _=>match P.underlying dst with
  | some (.slice _)=>.heavy
  | some .string=>match P.underlying src with
   | some (.slice _)=>.read
   | _=>.pure
  | _=>.pure
 | .call c=>match c.callee with
  | .builtin b=>match b with
   | .len=>match c.argTypes.toList with
    | [t]=>match P.underlying t with
     | some (.map _ _)=>.read
     | _=>.pure
    | _=>.pure
   | .cap | .min | .max=>.pure
   | _=>.heavy
  | _=>.heavy
 | _=>.heavy
def opD (P:Program) (o:Oper) (ρ:Operand→Value) (K:Value→Pr) (w:World):Prop:=
 match cls P o with
 | .pure=>pureD P o ρ K w
 | .read=>readD P o ρ K w
 | .heavy=>heavyD P o ρ K w
theorem opD_sound {P:Program} {o:Oper} {ρ:Operand→Value} {K:Value→Pr} {w:World} (h:opD P o ρ K w):Does P o ρ K w:=by
 unfold opD at h
 split at h
 ·exact (pureD_sound h).q.does
 ·exact (readD_sound h).does
 ·exact heavyD_sound h
theorem opD_nodefer {P:Program} {o:Oper} {ρ:Operand→Value} {K:Value→Pr} {w:World} (h:opD P o ρ K w):∀ c,o.op ≠ .defer c:=by
 intro c hc
 simp only [opD,cls,heavyD,hc] at h
 exact h
end Go.Sx
set_option linter.unusedSimpArgs false
set_option linter.unusedVariables false
namespace Go.Sx
open Go
def opnds:Op→List Operand
 | .move x | .assign x | .box _ x | .load _ x | .nilCheck x | .unOp _ _ x | .convert _ _ x | .sliceToArrayPointer _ x | .makeInterface _ x
 | .makeChan _ x | .fieldAddr _ x _ | .field _ x _ | .range _ x | .next x _ | .entry x | .typeAssert x _ _ _ | .extract x _ | .panic x | .recv _ x _=>[x]
 | .pick c a b=>[c,a,b]
 | .build _ ps=>ps.toList.map (·.2)
 | .buildSlice _ _ ps=>ps.toList.map (·.2)
 | .store _ a v | .binOp _ _ a v _ | .makeSlice _ a v | .indexAddr _ a v | .index _ a v | .lookup _ a v _ | .mapEntry _ a v | .send a v=>[a,v]
 | .makeFunc _ first captured=>first.toList ++ captured.toList
 | .makeMap _ r=>match r with | some x=>[x] | none=>[]
 | .slice _ x l h m=>x :: ((match l with | some y=>[y] | none=>[]) ++ ((match h with | some y=>[y] | none=>[]) ++ (match m with | some y=>[y] | none=>[])))
 | .mapUpdate _ m k v | .entryStore _ m k v | .insert _ m k v=>[m,k,v]
 | .call c | .go c | .defer c=>(match c.callee with | .value f=>[f] | .invoke r _=>[r] | .builtin _=>[]) ++ c.args.toList
 | _=>[]
theorem opnds_mem {op:Op} (hs:∀ cs b,op ≠ .select cs b) {x:Operand} (h:x∈op.operands):x∈opnds op:=by
 cases op <;> simp only [Op.operands,opnds,Go.Call.operands] at * <;> first
  | (simp_all;done)
  | skip
 case slice t x lo hi mx=>cases lo <;> cases hi <;> cases mx <;> simp_all
 case call c=>cases hc:c.callee <;> simp_all
 case go c=>cases hc:c.callee <;> simp_all
 case defer c=>cases hc:c.callee <;> simp_all
def tmpsOf:List Operand→List Tmp
 | []=>[]
 | x :: r=>match x with
  | .tmp t=>t :: tmpsOf r
  | _=>tmpsOf r
theorem mem_tmpsOf {l:List Operand} {t:Tmp}:t∈tmpsOf l ↔ Operand.tmp t∈l:=by
 induction l with
 | nil=>simp [tmpsOf]
 | cons x r ih=>cases x <;> simp [tmpsOf,ih]
def guardTmp (ops:List Oper) (o:Oper):Option Tmp:=
 match o.guard with
 | some (g,_)=>match ops[g]? with
  | some og=>og.dst
  | none=>none
 | none=>none
def looks (ops:List Oper) (o:Oper):List Tmp:=
 match guardTmp ops o with
 | some t=>t :: tmpsOf (opnds o.op)
 | none=>tmpsOf (opnds o.op)
def notSel:Op→Bool
 | .select _ _=>false
 | _=>true
def knownL (e:Env):List Tmp→Bool
 | []=>true
 | t :: r=>match e.get t with
  | some _=>knownL e r
  | none=>false
theorem knownL_mem {e:Env}:∀ {l:List Tmp},knownL e l=true→∀ t∈l,∃ v,e.get t=some v
 | [],_,t,h=>by simp at h
 | u :: r,hk,t,h=>by
  simp only [knownL] at hk
  split at hk
  ·rename_i v hv
   rcases List.mem_cons.1 h with rfl | h
   ·exact ⟨v,hv⟩
   ·exact knownL_mem hk t h
  ·cases hk
theorem execOp_known {o:Oper} {e:Env} {a:Act} (hs:notSel o.op=true) (h:∀ t∈tmpsOf (opnds o.op),∃ v,e.get t=some v∧a.tmps[t]?=some v):execOp (rho e) o=execOp a.eval o:=by
 have hs':∀ cs b,o.op ≠ .select cs b:=by
  intro cs b hc
  rw [hc] at hs
  cases hs
 refine execOp_congr o hs' fun x hx=>?_
 have hm:=opnds_mem hs' hx
 cases x with
 | tmp t=>
  obtain ⟨v,h1,h2⟩:=h t (mem_tmpsOf.2 hm)
  simp [rho,Act.eval,h1,h2]
 | _=>rfl
def grdD (ops:List Oper) (o:Oper) (e:Env) (T E:Env→Pr) (w:World):Prop:=
 match o.guard with
 | none=>T e w
 | some (g,want)=>match ops[g]? with
  | some og=>match og.dst with
   | some t=>match e.get t with
    | some v=>match v with
     | .bool b=>Br b (match want with | true=>T (e.set t (some (.bool true))) | false=>E (e.set t (some (.bool true)))) (match want with | true=>E (e.set t (some (.bool false))) | false=>T (e.set t (some (.bool false)))) w
     | .tuple _=>E e w
     | _=>F w
    | none=>F w
   | none=>F w
  | none=>F w
theorem set_same {e:Env} {t:Nat} {v:Value} (h:e.get t=some v):e.set t (some v)=e:=by
 obtain ⟨n,f⟩:=e
 simp only [Env.get] at h
 split at h
 ·simp only [Env.set,Env.mk.injEq,true_and]
  funext u
  split
  ·rename_i hb
   rw [Nat.eq_of_beq_eq_true hb,h]
  ·rfl
 ·cases h
theorem grdD_elim {ops:List Oper} {o:Oper} {e:Env} {T E:Env→Pr} {w:World} (h:grdD ops o e T E w) :
  ∃ b:Bool,(if b then T e w else E e w)∧∀ a:Act,(∀ t,guardTmp ops o=some t→∀ v,e.get t=some v→a.tmps[t]?=some v)→Region.wanted o (yielded ops.toArray a.tmps)=b:=by
 simp only [grdD] at h
 split at h
 ·rename_i hg
  exact ⟨true,h,fun a _=>by simp [Region.wanted,hg]⟩
 ·rename_i g want hg
  split at h
  ·rename_i og hog
   split at h
   ·rename_i t ht
    have hgt:guardTmp ops o=some t:=by simp [guardTmp,hg,hog,ht]
    have hy:∀ a:Act,yielded ops.toArray a.tmps g=(match a.tmps[t]? with | some (.bool b)=>some b | _=>none):=by
     intro a
     simp only [yielded,List.getElem?_toArray,hog,Option.bind_some,ht]
     rfl
    split at h
    ·rename_i v hv
     split at h
     ·rename_i b
      have hw:∀ a:Act,(∀ u,guardTmp ops o=some u→∀ v,e.get u=some v→a.tmps[u]?=some v)→Region.wanted o (yielded ops.toArray a.tmps)=(b == want):=by
       intro a ha
       have:=ha t hgt _ hv
       simp [Region.wanted,hg,hy,this]
      have hs:=set_same hv
      cases b
      ·simp only [Br,hs] at h
       cases want
       ·exact ⟨true,h,fun a ha=>hw a ha⟩
       ·exact ⟨false,h,fun a ha=>hw a ha⟩
      ·simp only [Br,hs] at h
       cases want
       ·exact ⟨false,h,fun a ha=>hw a ha⟩
       ·exact ⟨true,h,fun a ha=>hw a ha⟩
     ·rename_i vs
      exact ⟨false,h,fun a ha=>by
       have:=ha t hgt _ hv
       simp [Region.wanted,hg,hy,this]⟩
     ·exact h.elim
    ·exact h.elim
   ·exact h.elim
  ·exact h.elim
def stepD (P:Program) (ops:List Oper) (o:Oper) (e:Env) (K:Env→Pr):Pr:=
 grdD ops o e
  (fun e w=>match notSel o.op && knownL e (tmpsOf (opnds o.op)) with
   | true=>opD P o (rho e) (fun v=>K (e.put o.dst v)) w
   | false=>F w)
  (fun e=>K (e.put o.dst undef))
def opsD (P:Program) (ops:List Oper):List Oper→Env→(Env→Pr)→Pr
 | [],e,K=>K e
 | o :: r,e,K=>stepD P ops o e (fun e=>opsD P ops r e K)
theorem wpIn_of_does {r:Option Nat} {P:Program} {o:Oper} {a:Act} {w:World} {next:Act→World→Prop} {Q:Exit→Act→World→Prop} (hd:∀ c,o.op ≠ .defer c) (h:o.uponIn (WF r) 0 P a next Q ((execOp a.eval o).run P w)):o.wpIn (WF r) 0 P a w next Q:=
 ⟨fun _ _=>trivial,by rw [Oper.semAt_eq _ _ _ hd];exact h⟩
theorem stepD_sound {ds:List Deferred} {r:Option Nat} {P:Program} {ops:List Oper} {o:Oper} {e:Env} {K:Env→Pr} {w:World} {a:Act} (h:stepD P ops o e K w) (ha:Knows ds e a) {next:Act→World→Prop} {Q:Exit→Act→World→Prop}
  (hn:∀ e' a' w',K e' w'→Knows ds e' a'→next a' w') :
  if Region.wanted o (yielded ops.toArray a.tmps) then o.wpIn (WF r) 0 P a w next Q else next (a.put o.dst undef) w:=by
 obtain ⟨b,hb,hw⟩:=grdD_elim h
 rw [hw a (fun t _ v hv=>ha.val t v hv)]
 cases b
 ·simp only [Bool.false_eq_true,if_false] at hb ⊢
  exact hn _ _ _ hb (ha.put _ _)
 ·simp only [if_true] at hb ⊢
  split at hb
  ·rename_i hk
   simp only [Bool.and_eq_true] at hk
   have he:execOp (rho e) o=execOp a.eval o:=execOp_known hk.1 fun t ht=>by
    obtain ⟨v,hv⟩:=knownL_mem hk.2 t ht
    exact ⟨v,hv,ha.val t v hv⟩
   have:=opD_sound hb r a next Q (fun v w' hkv=>hn _ _ _ hkv (ha.put _ _))
   rw [he] at this
   exact wpIn_of_does (opD_nodefer hb) this
  ·exact hb.elim
theorem opsD_sound {ds:List Deferred} {r:Option Nat} {P:Program} {ops:List Oper} {Q:Exit→Act→World→Prop}:∀ {l:List Nat} {os:List Oper} {e:Env} {K:Env→Pr} {w:World} {a:Act},l.map (ops[·]?)=os.map some→opsD P ops os e K w→Knows ds e a →
  (∀ e' a' w',K e' w'→Knows ds e' a'→Q .normal a' w')→wpOpsIn (WF r) 0 P ops.toArray Q l a w
 | [],os,e,K,w,a,hl,h,ha,hq=>by
  cases os with
  | nil=>exact hq _ _ _ h ha
  | cons o os=>simp at hl
 | i :: l,os,e,K,w,a,hl,h,ha,hq=>by
  cases os with
  | nil=>simp at hl
  | cons o os=>
   simp only [List.map_cons,List.cons.injEq] at hl
   simp only [wpOpsIn,List.getElem?_toArray,hl.1]
   have:=stepD_sound (r:=r) (next:=wpOpsIn (WF r) 0 P ops.toArray Q l) (Q:=Q) h ha (fun e' a' w' hk hk'=>opsD_sound hl.2 hk hk' hq)
   split
   ·rename_i hw
    rw [hw] at this
    simpa using this
   ·rename_i hw
    rw [if_neg hw] at this
    exact ⟨fun _ _=>trivial,this⟩
end Go.Sx
set_option linter.unusedSimpArgs false
set_option linter.unusedVariables false
namespace Go.Sx
open Go
def maskOf (acc:List Nat):List Edge→Nat
 | []=>0
 | e :: r=>match Region.binds .any e with
  | true=>(2 ^ e.on ||| (match acc[e.on]? with | some m=>m | none=>0)) ||| maskOf acc r
  | false=>maskOf acc r
def masksGo:List Oper→List Nat→List Nat
 | [],acc=>acc
 | o :: r,acc=>masksGo r (acc ++ [maskOf acc o.after.toList])
def masks (ops:List Oper):List Nat:=masksGo ops []
def mkAt (M:List Nat) (i:Nat):Nat:=match M[i]? with | some m=>m | none=>0
theorem maskOf_bit {acc:List Nat}:∀ {l:List Edge} {k:Nat},(maskOf acc l).testBit k=true→∃ e∈l,Region.binds .any e=true∧(k=e.on∨∃ m,acc[e.on]?=some m∧m.testBit k=true)
 | [],k,h=>by simp [maskOf] at h
 | e :: r,k,h=>by
  simp only [maskOf] at h
  split at h
  ·rename_i hb
   rw [Nat.testBit_or,Nat.testBit_or,Bool.or_eq_true,Bool.or_eq_true] at h
   rcases h with (h | h) | h
   ·exact ⟨e,List.mem_cons_self,hb,.inl (by rw [Nat.testBit_two_pow] at h;exact (of_decide_eq_true h).symm)⟩
   ·refine ⟨e,List.mem_cons_self,hb,.inr ?_⟩
    split at h
    ·exact ⟨_,‹_›,h⟩
    ·simp at h
   ·obtain ⟨e',h1,h2⟩:=maskOf_bit h
    exact ⟨e',List.mem_cons_of_mem _ h1,h2⟩
  ·obtain ⟨e',h1,h2⟩:=maskOf_bit h
   exact ⟨e',List.mem_cons_of_mem _ h1,h2⟩
def MaskOk (ops:List Oper) (acc:List Nat):Prop:=
 ∀ (j m k:Nat),acc[j]?=some m→m.testBit k=true→∃ (o:Oper) (e:Edge),ops[j]?=some o∧e∈o.after.toList∧Region.binds .any e=true∧(k=e.on∨∃ m',acc[e.on]?=some m'∧m'.testBit k=true)
theorem masksGo_ok {ops:List Oper}:∀ {r:List Oper} {acc:List Nat},ops.drop acc.length=r→MaskOk ops acc→MaskOk ops (masksGo r acc)
 | [],acc,_,h=>h
 | o :: r,acc,hd,h=>by
  simp only [masksGo]
  have ho:ops[acc.length]?=some o:=by
   have:=congrArg (·[0]?) hd
   simpa using this
  refine masksGo_ok (by simp;rw [← List.drop_drop,hd];rfl) ?_
  intro j m k hj hk
  by_cases hlt:j < acc.length
  ·rw [List.getElem?_append_left hlt] at hj
   obtain ⟨o',e,h1,h2,h3,h4⟩:=h j m k hj hk
   refine ⟨o',e,h1,h2,h3,h4.imp id fun ⟨m',h5,h6⟩=>⟨m',?_,h6⟩⟩
   have hl:=(List.getElem?_eq_some_iff.1 h5).1
   rw [List.getElem?_append_left hl,h5]
  ·have hje:j=acc.length:=by
    have:=(List.getElem?_eq_some_iff.1 hj).1
    simp at this
    omega
   subst hje
   simp at hj
   subst hj
   obtain ⟨e,h1,h2,h3⟩:=maskOf_bit hk
   refine ⟨o,e,ho,h1,h2,h3.imp id fun ⟨m',h5,h6⟩=>⟨m',?_,h6⟩⟩
   have hl:=(List.getElem?_eq_some_iff.1 h5).1
   rw [List.getElem?_append_left hl,h5]
theorem masks_ok (ops:List Oper):MaskOk ops (masks ops):=masksGo_ok rfl (fun j m k h=>by simp at h)
def Closed (ops:List Oper) (L:Nat→Prop):Prop:=∀ j o,L j→ops[j]?=some o→∀ e∈o.after.toList,Region.binds .any e=true→L e.on
def edgesBack (ops:List Oper):Nat→List Oper→Bool
 | _,[]=>true
 | j,o :: r=>(o.after.toList.all fun e=>!(Region.binds .any e) || decide (e.on < j)) && edgesBack ops (j + 1) r
theorem edgesBack_at {ops:List Oper}:∀ {r:List Oper} {j i:Nat} {o:Oper},edgesBack ops j r=true→r[i]?=some o→∀ e∈o.after.toList,Region.binds .any e=true→e.on < j + i
 | [],j,i,o,h,hi,e,he,hb=>by simp at hi
 | o' :: r,j,i,o,h,hi,e,he,hb=>by
  simp only [edgesBack,Bool.and_eq_true] at h
  cases i with
  | zero=>
   simp only [List.getElem?_cons_zero,Option.some.injEq] at hi
   subst hi
   have:=List.all_eq_true.1 h.1 e he
   simp [hb] at this
   omega
  | succ i=>
   simp only [List.getElem?_cons_succ] at hi
   have:=edgesBack_at h.2 hi e he hb
   omega
theorem closed_mask {ops:List Oper} {L:Nat→Prop} (hc:Closed ops L) (he:edgesBack ops 0 ops=true):∀ (j:Nat) (o:Oper),ops[j]?=some o→(∀ e∈o.after.toList,Region.binds .any e=true→L e.on)→∀ k,(mkAt (masks ops) j).testBit k=true→L k:=by
 intro j
 induction j using Nat.strongRecOn with
 | _ j ih=>
  intro o ho hl k hk
  unfold mkAt at hk
  split at hk
  ·rename_i m hm
   obtain ⟨o',e,h1,h2,h3,h4⟩:=masks_ok ops j m k hm hk
   rw [ho,Option.some.injEq] at h1
   subst h1
   have hlt:=edgesBack_at he ho e h2 h3
   simp only [Nat.zero_add] at hlt
   rcases h4 with rfl | ⟨m',h5,h6⟩
   ·exact hl e h2 h3
   ·have hLe:=hl e h2 h3
    cases hoe:ops[e.on]? with
    | none=>
     have:=(List.getElem?_eq_some_iff.1 ho).1
     have:=List.getElem?_eq_none_iff.1 hoe
     omega
    | some oe=>exact ih e.on hlt oe hoe (hc e.on oe hLe hoe) k (by simp only [mkAt,h5];exact h6)
  ·simp at hk
structure Ent where
 i:Nat
 o:Oper
 e:Env
 v:Value
 ex:Bool
def subMask (m d:Nat):Bool:=Nat.beq (m &&& d) m
theorem subMask_bit {m d k:Nat} (h:subMask m d=true) (hk:m.testBit k=true):d.testBit k=true:=by
 have h':=Nat.eq_of_beq_eq_true h
 rw [← h',Nat.testBit_and,Bool.and_eq_true] at hk
 exact hk.2
def isHeavy (P:Program) (o:Oper):Bool:=match cls P o with | .heavy=>true | _=>false
def isRead (P:Program) (o:Oper):Bool:=match cls P o with | .read=>true | _=>false
def nextQuiet (P:Program) (M:List Nat) (done:Nat):List Oper→Nat→Option (Nat × Oper)
 | [],_=>none
 | o :: r,i=>match !(done.testBit i) && (!(isHeavy P o) && subMask (mkAt M i) done) with
  | true=>some (i,o)
  | false=>nextQuiet P M done r (i + 1)
def heavies (P:Program) (M:List Nat) (done:Nat):List Oper→Nat→List (Nat × Oper)
 | [],_=>[]
 | o :: r,i=>match !(done.testBit i) && (isHeavy P o && subMask (mkAt M i) done) with
  | true=>(i,o) :: heavies P M done r (i + 1)
  | false=>heavies P M done r (i + 1)
def again (P:Program) (m:Nat):List Ent→Pr→Pr
 | [],K=>K
 | q :: r,K=>match m.testBit q.i with
  | true=>again P m r K
  | false=>fun w=>readD P q.o (rho q.e) (fun v _=>v=q.v) w∧again P m r K w
def allP:List Pr→Pr
 | []=>F
 | p :: ps=>match ps with
  | []=>p
  | _=>fun w=>p w∧allP ps w
theorem allP_mem:∀ {ps:List Pr} {w:World},allP ps w→∀ p∈ps,p w
 | [],w,h,p,hp=>by simp at hp
 | q :: ps,w,h,p,hp=>by
  cases ps with
  | nil=>simp at hp;subst hp;exact h
  | cons r ps=>
   have h':q w∧allP (r :: ps) w:=h
   rcases List.mem_cons.1 hp with rfl | hp
   ·exact h'.1
   ·exact allP_mem h'.2 p hp
def full (n:Nat):Nat:=2 ^ n - 1
def quietD (P:Program) (ops:List Oper) (i:Nat) (o:Oper) (e:Env) (qs:List Ent) (K:List Ent→Env→Pr):Pr:=
 grdD ops o e
  (fun e w=>match notSel o.op && knownL e (tmpsOf (opnds o.op)) with
   | true=>opD P o (rho e) (fun v=>K (match isRead P o with | true=>⟨i,o,e,v,true⟩ :: qs | false=>qs) (e.put o.dst v)) w
   | false=>F w)
  (fun e=>K qs (e.put o.dst undef))
def heavyStep (P:Program) (ops:List Oper) (M:List Nat) (i:Nat) (o:Oper) (e:Env) (qs:List Ent) (K:Env→Pr):Pr:=
 grdD ops o e
  (fun e w=>match notSel o.op && knownL e (tmpsOf (opnds o.op)) with
   | true=>opD P o (rho e) (fun v=>again P (mkAt M i) qs (K (e.put o.dst v))) w
   | false=>F w)
  (fun e=>K (e.put o.dst undef))
def drawD (P:Program) (ops:List Oper) (M:List Nat) (K:Env→Pr):Nat→Nat→List Ent→Env→Pr
 | 0,_,_,_=>F
 | n + 1,done,qs,e=>match nextQuiet P M done ops 0 with
  | some (i,o)=>quietD P ops i o e qs (fun qs e=>drawD P ops M K n (done ||| 2 ^ i) qs e)
  | none=>match Nat.beq done (full ops.length) with
   | true=>K e
   | false=>allP ((heavies P M done ops 0).map fun (i,o)=>heavyStep P ops M i o e qs (fun e=>drawD P ops M K n (done ||| 2 ^ i) qs e))
def hasT (l:List Tmp) (t:Tmp):Bool:=match l with
 | []=>false
 | u :: r=>Nat.beq u t || hasT r t
theorem hasT_mem {l:List Tmp} {t:Tmp} (h:t∈l):hasT l t=true:=by
 induction l with
 | nil=>simp at h
 | cons u r ih=>
  simp only [hasT,Bool.or_eq_true]
  rcases List.mem_cons.1 h with rfl | h
  ·exact .inl (Nat.beq_refl _)
  ·exact .inr (ih h)
def pairOk (M:List Nat) (i j:Nat) (di dj:Option Tmp) (li lj:List Tmp):Bool:=
 (match di with
  | some t=>(match dj with | some u=>!(Nat.beq t u) | none=>true) && (!(hasT lj t) || ((mkAt M j).testBit i || (mkAt M i).testBit j))
  | none=>true) &&
 (match dj with
  | some t=>!(hasT li t) || ((mkAt M j).testBit i || (mkAt M i).testBit j)
  | none=>true)
def pairsOk1 (ops:List Oper) (M:List Nat) (i:Nat) (di:Option Tmp) (li:List Tmp):List Oper→Nat→Bool
 | [],_=>true
 | o :: r,j=>pairOk M i j di o.dst li (looks ops o) && pairsOk1 ops M i di li r (j + 1)
def pairsOk (ops:List Oper) (M:List Nat):List Oper→Nat→Bool
 | [],_=>true
 | o :: r,i=>pairsOk1 ops M i o.dst (looks ops o) r (i + 1) && pairsOk ops M r (i + 1)
theorem pairsOk1_at {ops:List Oper} {M:List Nat} {i:Nat} {di:Option Tmp} {li:List Tmp}:∀ {r:List Oper} {j k:Nat} {o:Oper},pairsOk1 ops M i di li r j=true→r[k]?=some o→pairOk M i (j + k) di o.dst li (looks ops o)=true
 | [],j,k,o,h,hk=>by simp at hk
 | o' :: r,j,k,o,h,hk=>by
  simp only [pairsOk1,Bool.and_eq_true] at h
  cases k with
  | zero=>simp only [List.getElem?_cons_zero,Option.some.injEq] at hk;subst hk;exact h.1
  | succ k=>
   simp only [List.getElem?_cons_succ] at hk
   have:=pairsOk1_at h.2 hk
   rwa [show j + 1 + k=j + (k + 1) from by omega] at this
theorem pairsOk_at {ops:List Oper} {M:List Nat}:∀ {r:List Oper} {n i j:Nat} {oi oj:Oper},pairsOk ops M r n=true→r[i]?=some oi→r[j]?=some oj→i < j→pairOk M (n + i) (n + j) oi.dst oj.dst (looks ops oi) (looks ops oj)=true
 | [],n,i,j,oi,oj,h,hi,hj,hlt=>by simp at hi
 | o :: r,n,i,j,oi,oj,h,hi,hj,hlt=>by
  simp only [pairsOk,Bool.and_eq_true] at h
  cases j with
  | zero=>omega
  | succ j=>
   simp only [List.getElem?_cons_succ] at hj
   cases i with
   | zero=>
    simp only [List.getElem?_cons_zero,Option.some.injEq] at hi
    subst hi
    have:=pairsOk1_at h.1 hj
    rwa [show n + 1 + j=n + (j + 1) from by omega] at this
   | succ i=>
    simp only [List.getElem?_cons_succ] at hi
    have:=pairsOk_at h.2 hi hj (by omega)
    rwa [show n + 1 + i=n + (i + 1) from by omega,show n + 1 + j=n + (j + 1) from by omega] at this
theorem ordered {ops:List Oper} {M:List Nat} (h:pairsOk ops M ops 0=true) {i j:Nat} {oi oj:Oper} (hi:ops[i]?=some oi) (hj:ops[j]?=some oj) (hne:i ≠ j) {t:Tmp} (ht:oi.dst=some t) :
  oj.dst ≠ some t∧(t∈looks ops oj→(mkAt M j).testBit i=true∨(mkAt M i).testBit j=true):=by
 rcases Nat.lt_or_gt_of_ne hne with hlt | hlt
 ·have:=pairsOk_at h hi hj hlt
  simp only [Nat.zero_add,pairOk,ht,Bool.and_eq_true] at this
  obtain ⟨⟨h1,h2⟩,_⟩:=this
  refine ⟨fun hd=>?_,fun hm=>?_⟩
  ·simp [hd] at h1
  ·simp only [hasT_mem hm,Bool.not_true,Bool.false_or,Bool.or_eq_true] at h2
   exact h2
 ·have:=pairsOk_at h hj hi hlt
  simp only [Nat.zero_add,pairOk,ht,Bool.and_eq_true] at this
  obtain ⟨h1,h2⟩:=this
  refine ⟨fun hd=>?_,fun hm=>?_⟩
  ·simp [hd] at h1
  ·simp only [hasT_mem hm,Bool.not_true,Bool.false_or,Bool.or_eq_true] at h2
   exact h2.symm
def drawOk (ops:List Oper):Bool:=edgesBack ops 0 ops && pairsOk ops (masks ops) ops 0
end Go.Sx
set_option linter.unusedSimpArgs false
set_option linter.unusedVariables false
namespace Go.Sx
open Go
def Li (listed:Array Bool) (i:Nat):Prop:=listed.getD i false=true
structure PendOk (P:Program) (ops:List Oper) (w:World) (x:Ent):Prop where
 want:∀ a:Act,(∀ t,guardTmp ops x.o=some t→∀ v,x.e.get t=some v→a.tmps[t]?=some v)→Region.wanted x.o (yielded ops.toArray a.tmps)=x.ex
 sel:x.ex=true→notSel x.o.op=true
 known:x.ex=true→knownL x.e (tmpsOf (opnds x.o.op))=true
 read:x.ex=true→isRead P x.o=true→(execOp (rho x.e) x.o).run P w=.ok (.value x.v) w
 pure:x.ex=true→isRead P x.o=false→∀ w',(execOp (rho x.e) x.o).run P w'=.ok (.value x.v) w'
 skip:x.ex=false→x.v=undef
structure DInv (ds:List Deferred) (P:Program) (ops:List Oper) (listed:Array Bool) (a:Act) (w:World) (tr:List Ent) (done:Nat) (qs:List Ent) (e:Env):Prop where
 defers:a.defers=ds
 size:e.length≤a.tmps.size
 esize:∀ x∈tr,x.e.length≤a.tmps.size
 dn:∀ i,done.testBit i=true ↔ ∃ x∈tr,x.i=i
 at_:∀ x∈tr,ops[x.i]?=some x.o
 sub:∀ i,Li listed i→done.testBit i=true
 closed:Closed ops (Li listed)
 hv:∀ x∈tr,isHeavy P x.o=true→Li listed x.i
 msk:∀ x∈tr,∀ k,(mkAt (masks ops) x.i).testBit k=true→done.testBit k=true
 pend:∀ x∈tr,¬ Li listed x.i→PendOk P ops w x
 opd:∀ x∈tr,¬ Li listed x.i→∀ t∈looks ops x.o,∀ u,x.e.get t=some u →
  a.tmps[t]?=some u∨∃ y∈tr,¬ Li listed y.i∧y.o.dst=some t∧(mkAt (masks ops) x.i).testBit y.i=true∧y.v=u
 fin:∀ t u,e.get t=some u→a.tmps[t]?=some u∨∃ y∈tr,¬ Li listed y.i∧y.o.dst=some t∧y.v=u
 vals:∀ x∈tr,∀ y∈tr,(mkAt (masks ops) x.i).testBit y.i=true→∀ t,y.o.dst=some t→∀ u,x.e.get t=some u→u=y.v
 cur:∀ y∈tr,∀ t,y.o.dst=some t→∀ u,e.get t=some u→u=y.v
 qsr:∀ x∈tr,¬ Li listed x.i→x.ex=true→isRead P x.o=true→x∈qs
theorem testBit_add {d i k:Nat}:(d ||| 2 ^ i).testBit k=true ↔ d.testBit k=true∨k=i:=by
 rw [Nat.testBit_or,Bool.or_eq_true,Nat.testBit_two_pow,decide_eq_true_eq]
 exact or_congr Iff.rfl eq_comm
theorem DInv.quiet {ds:List Deferred} {P:Program} {ops:List Oper} {listed:Array Bool} {a:Act} {w:World} {tr:List Ent} {done:Nat} {qs:List Ent} {e:Env} (h:DInv ds P ops listed a w tr done qs e) (hok:drawOk ops=true)
  {i:Nat} {o:Oper} (ho:ops[i]?=some o) (hd:done.testBit i=false) (hq:isHeavy P o=false) (hm:subMask (mkAt (masks ops) i) done=true) {v:Value} {ex:Bool}
  (hp:PendOk P ops w ⟨i,o,e,v,ex⟩) {qs':List Ent} (hqs:∀ x∈qs,x∈qs') (hqn:ex=true→isRead P o=true→(⟨i,o,e,v,ex⟩:Ent)∈qs') :
  DInv ds P ops listed a w (⟨i,o,e,v,ex⟩ :: tr) (done ||| 2 ^ i) qs' (e.put o.dst v):=by
 simp only [drawOk,Bool.and_eq_true] at hok
 have hnl:¬ Li listed i:=fun hl=>by rw [h.sub i hl] at hd;cases hd
 have hni:∀ x∈tr,x.i ≠ i:=fun x hx he=>by rw [(h.dn i).2 ⟨x,hx,he⟩] at hd;cases hd
 have hlen:(e.put o.dst v).length=e.length:=by cases hod:o.dst <;> simp [Env.put,Env.length_set]
 have hget:∀ t u,(e.put o.dst v).get t=some u→(o.dst=some t∧u=v)∨(o.dst ≠ some t∧e.get t=some u):=by
  intro t u hu
  cases hod:o.dst with
  | none=>exact .inr ⟨by simp,by simpa [Env.put,hod] using hu⟩
  | some d=>
   simp only [Env.put,hod] at hu
   rcases Env.get_set_some hu with ⟨rfl,hh⟩ | ⟨hne,hh⟩
   ·exact .inl ⟨rfl,by simpa using hh.symm⟩
   ·exact .inr ⟨by simpa using hne,hh⟩
 constructor
 ·exact h.defers
 ·rw [hlen];exact h.size
 ·intro x hx
  rcases List.mem_cons.1 hx with rfl | hx
  ·exact h.size
  ·exact h.esize x hx
 ·intro k
  rw [testBit_add,h.dn k]
  constructor
  ·rintro (⟨x,hx,rfl⟩ | rfl)
   ·exact ⟨x,List.mem_cons_of_mem _ hx,rfl⟩
   ·exact ⟨_,List.mem_cons_self,rfl⟩
  ·rintro ⟨x,hx,rfl⟩
   rcases List.mem_cons.1 hx with rfl | hx
   ·exact .inr rfl
   ·exact .inl ⟨x,hx,rfl⟩
 ·intro x hx
  rcases List.mem_cons.1 hx with rfl | hx
  ·exact ho
  ·exact h.at_ x hx
 ·intro k hk
  exact testBit_add.2 (.inl (h.sub k hk))
 ·exact h.closed
 ·intro x hx hxh
  rcases List.mem_cons.1 hx with rfl | hx
  ·simp only at hxh;rw [hq] at hxh;cases hxh
  ·exact h.hv x hx hxh
 ·intro x hx k hk
  rcases List.mem_cons.1 hx with rfl | hx
  ·exact testBit_add.2 (.inl (subMask_bit hm hk))
  ·exact testBit_add.2 (.inl (h.msk x hx k hk))
 ·intro x hx hxl
  rcases List.mem_cons.1 hx with rfl | hx
  ·exact hp
  ·exact h.pend x hx hxl
 ·intro x hx hxl t ht u hu
  rcases List.mem_cons.1 hx with rfl | hx
  ·simp only at ht hu ⊢
   rcases h.fin t u hu with hh | ⟨y,hy,hyl,hyd,hyv⟩
   ·exact .inl hh
   ·refine .inr ⟨y,List.mem_cons_of_mem _ hy,hyl,hyd,?_,hyv⟩
    rcases (ordered hok.2 (h.at_ y hy) ho (hni y hy) hyd).2 ht with hh | hh
    ·exact hh
    ·have:=h.msk y hy i hh
     rw [hd] at this
     cases this
  ·rcases h.opd x hx hxl t ht u hu with hh | ⟨y,hy,hr⟩
   ·exact .inl hh
   ·exact .inr ⟨y,List.mem_cons_of_mem _ hy,hr⟩
 ·intro t u hu
  rcases hget t u hu with ⟨hod,rfl⟩ | ⟨hne,hu⟩
  ·exact .inr ⟨_,List.mem_cons_self,hnl,hod,rfl⟩
  ·rcases h.fin t u hu with hh | ⟨y,hy,hr⟩
   ·exact .inl hh
   ·exact .inr ⟨y,List.mem_cons_of_mem _ hy,hr⟩
 ·intro x hx y hy hxy t hyd u hu
  rcases List.mem_cons.1 hx with rfl | hx
  ·simp only at hxy hu
   rcases List.mem_cons.1 hy with rfl | hy
   ·have:=subMask_bit hm hxy
    rw [hd] at this
    cases this
   ·exact h.cur y hy t hyd u hu
  ·rcases List.mem_cons.1 hy with rfl | hy
   ·have:=h.msk x hx _ hxy
    rw [hd] at this
    cases this
   ·exact h.vals x hx y hy hxy t hyd u hu
 ·intro y hy t hyd u hu
  rcases List.mem_cons.1 hy with rfl | hy'
  ·simp only at hyd ⊢
   rcases hget t u hu with ⟨_,hv⟩ | ⟨hne,_⟩
   ·exact hv
   ·exact absurd hyd hne
  ·rcases hget t u hu with ⟨hod,_⟩ | ⟨hne,hu⟩
   ·exact absurd hod (ordered hok.2 (h.at_ y hy') ho (hni y hy') hyd).1
   ·exact h.cur y hy' t hyd u hu
 ·intro x hx hxl hxe hxr
  rcases List.mem_cons.1 hx with rfl | hx
  ·exact hqn hxe hxr
  ·exact hqs x (h.qsr x hx hxl hxe hxr)
theorem nextQuiet_some {P:Program} {M:List Nat} {done:Nat}:∀ {r:List Oper} {n i:Nat} {o:Oper},nextQuiet P M done r n=some (i,o) →
  n≤i∧r[i - n]?=some o∧done.testBit i=false∧isHeavy P o=false∧subMask (mkAt M i) done=true
 | [],n,i,o,h=>by simp [nextQuiet] at h
 | o' :: r,n,i,o,h=>by
  simp only [nextQuiet] at h
  split at h
  ·rename_i hc
   simp only [Option.some.injEq,Prod.mk.injEq] at h
   obtain ⟨rfl,rfl⟩:=h
   simp only [Bool.and_eq_true,Bool.not_eq_true'] at hc
   exact ⟨Nat.le_refl _,by simp,hc.1,hc.2.1,hc.2.2⟩
  ·obtain ⟨h1,h2,h3⟩:=nextQuiet_some h
   refine ⟨by omega,?_,h3⟩
   rw [show i - n=(i - (n + 1)) + 1 from by omega]
   simpa using h2
theorem nextQuiet_none {P:Program} {M:List Nat} {done:Nat}:∀ {r:List Oper} {n:Nat},nextQuiet P M done r n=none→∀ k o,r[k]?=some o→done.testBit (n + k)=true∨isHeavy P o=true∨subMask (mkAt M (n + k)) done=false
 | [],n,h,k,o,hk=>by simp at hk
 | o' :: r,n,h,k,o,hk=>by
  simp only [nextQuiet] at h
  split at h
  ·cases h
  ·rename_i hc
   cases k with
   | zero=>
    simp only [List.getElem?_cons_zero,Option.some.injEq] at hk
    subst hk
    rw [Nat.add_zero]
    cases h1:done.testBit n <;> cases h2:isHeavy P o' <;> cases h3:subMask (mkAt M n) done <;> simp [h1,h2,h3] at hc ⊢
   | succ k=>
    simp only [List.getElem?_cons_succ] at hk
    have:=nextQuiet_none h k o hk
    rwa [show n + 1 + k=n + (k + 1) from by omega] at this
theorem mem_heavies {P:Program} {M:List Nat} {done:Nat}:∀ {r:List Oper} {n k:Nat} {o:Oper},r[k]?=some o→done.testBit (n + k)=false→isHeavy P o=true→subMask (mkAt M (n + k)) done=true→(n + k,o)∈heavies P M done r n
 | [],n,k,o,hk,_,_,_=>by simp at hk
 | o' :: r,n,k,o,hk,h1,h2,h3=>by
  cases k with
  | zero=>
   simp only [List.getElem?_cons_zero,Option.some.injEq] at hk
   subst hk
   simp only [Nat.add_zero] at h1 h3
   simp [heavies,h1,h2,h3]
  | succ k=>
   simp only [List.getElem?_cons_succ] at hk
   have ih:=mem_heavies (P:=P) (M:=M) (done:=done) (r:=r) (n:=n + 1) (k:=k) hk (by rwa [show n + 1 + k=n + (k + 1) from by omega]) h2 (by rwa [show n + 1 + k=n + (k + 1) from by omega])
   rw [show n + 1 + k=n + (k + 1) from by omega] at ih
   simp only [heavies]
   split
   ·exact List.mem_cons_of_mem _ ih
   ·exact ih
def Rest (P:Program) (ops:List Oper) (K:Env→Pr) (n done:Nat) (qs:List Ent) (e:Env) (w:World):Prop:=
 (Nat.beq done (full ops.length)=true∧K e w) ∨
 allP ((heavies P (masks ops) done ops 0).map fun (i,o)=>heavyStep P ops (masks ops) i o e qs (fun e=>drawD P ops (masks ops) K n (done ||| 2 ^ i) qs e)) w
theorem advance {ds:List Deferred} {P:Program} {ops:List Oper} {K:Env→Pr} {listed:Array Bool} {a:Act} {w:World} (hok:drawOk ops=true):∀ (n:Nat) {tr:List Ent} {done:Nat} {qs:List Ent} {e:Env},
  drawD P ops (masks ops) K n done qs e w→DInv ds P ops listed a w tr done qs e →
  ∃ n' tr' done' qs' e',DInv ds P ops listed a w tr' done' qs' e'∧nextQuiet P (masks ops) done' ops 0=none∧Rest P ops K n' done' qs' e' w:=by
 intro n
 induction n with
 | zero=>intro tr done qs e h _;exact h.elim
 | succ n ih=>
  intro tr done qs e h hi
  simp only [drawD] at h
  cases hn:nextQuiet P (masks ops) done ops 0 with
  | none=>
   rw [hn] at h
   refine ⟨n,tr,done,qs,e,hi,hn,?_⟩
   simp only at h
   cases hb:Nat.beq done (full ops.length) with
   | true=>rw [hb] at h;exact .inl ⟨hb,h⟩
   | false=>rw [hb] at h;exact .inr h
  | some p=>
   obtain ⟨i,o⟩:=p
   rw [hn] at h
   simp only at h
   obtain ⟨_,ho,hd,hq,hm⟩:=nextQuiet_some hn
   rw [Nat.sub_zero] at ho
   obtain ⟨b,hb,hw⟩:=grdD_elim h
   cases b with
   | false=>
    simp only [Bool.false_eq_true,if_false] at hb
    exact ih hb (hi.quiet hok ho hd hq hm (v:=undef) (ex:=false) ⟨hw,by simp,by simp,by simp,by simp,fun _=>rfl⟩ (fun x hx=>hx) (by simp))
   | true=>
    simp only [if_true] at hb
    split at hb
    ·rename_i hk
     simp only [Bool.and_eq_true] at hk
     cases hr:isRead P o with
     | true=>
      simp only [hr] at hb
      have hc:cls P o=.read:=by
       simp only [isRead] at hr
       split at hr
       ·assumption
       ·cases hr
      simp only [opD,hc] at hb
      obtain ⟨v,hv,hb⟩:=readD_sound hb
      exact ih hb (hi.quiet hok ho hd hq hm (v:=v) (ex:=true) ⟨hw,fun _=>hk.1,fun _=>hk.2,fun _ _=>hv,(fun _ hh=>by rw [hr] at hh;cases hh),by simp⟩
       (fun x hx=>List.mem_cons_of_mem _ hx) (fun _ _=>List.mem_cons_self))
     | false=>
      simp only [hr] at hb
      have hc:cls P o=.pure:=by
       cases hcc:cls P o with
       | pure=>rfl
       | read=>simp [isRead,hcc] at hr
       | heavy=>simp [isHeavy,hcc] at hq
      simp only [opD,hc] at hb
      obtain ⟨v,hv,hb⟩:=pureD_sound hb
      exact ih hb (hi.quiet hok ho hd hq hm (v:=v) (ex:=true) ⟨hw,fun _=>hk.1,fun _=>hk.2,(fun _ hh=>by rw [hr] at hh;cases hh),fun _ _=>hv,by simp⟩
       (fun x hx=>hx) (fun _ hh=>by rw [hr] at hh;cases hh))
    ·exact hb.elim
theorem again_elim {P:Program} {m:Nat} {K:Pr} {w:World}:∀ {qs:List Ent},again P m qs K w→K w∧∀ q∈qs,m.testBit q.i=false→(execOp (rho q.e) q.o).run P w=.ok (.value q.v) w
 | [],h=>⟨h,fun q hq=>by simp at hq⟩
 | q :: r,h=>by
  simp only [again] at h
  cases hm:m.testBit q.i with
  | true=>
   rw [hm] at h
   obtain ⟨h1,h2⟩:=again_elim h
   refine ⟨h1,fun p hp hpm=>?_⟩
   rcases List.mem_cons.1 hp with rfl | hp
   ·rw [hm] at hpm;cases hpm
   ·exact h2 p hp hpm
  | false=>
   rw [hm] at h
   obtain ⟨h0,h⟩:=h
   obtain ⟨h1,h2⟩:=again_elim h
   obtain ⟨v,hv,he⟩:=readD_sound h0
   refine ⟨h1,fun p hp hpm=>?_⟩
   rcases List.mem_cons.1 hp with rfl | hp
   ·rw [hv,he]
   ·exact h2 p hp hpm
theorem Li_set {listed:Array Bool} {i k:Nat} (hi:i < listed.size):Li (listed.setIfInBounds i true) k ↔ Li listed k∨k=i:=by
 unfold Li
 by_cases h:i=k
 ·subst h
  simp [hi]
 ·rw [getD_set_ne false h]
  simp [Ne.symm h]
end Go.Sx
set_option linter.unusedSimpArgs false
set_option linter.unusedVariables false
namespace Go.Sx
open Go
theorem put_size (a:Act) (d:Option Tmp) (v:Value):(a.put d v).tmps.size=a.tmps.size:=by
 cases d <;> simp [Act.put]
theorem put_defers' (a:Act) (d:Option Tmp) (v:Value):(a.put d v).defers=a.defers:=by
 cases d <;> rfl
theorem put_ne (a:Act) {d:Option Tmp} (v:Value) {t:Tmp} (h:d ≠ some t):(a.put d v).tmps[t]?=a.tmps[t]?:=by
 cases d with
 | none=>rfl
 | some d=>
  simp only [Act.put]
  exact Array.getElem?_setIfInBounds_ne (fun he=>h (by rw [he]))
theorem put_eq (a:Act) {d:Option Tmp} (v:Value) {t:Tmp} (h:d=some t) (hl:t < a.tmps.size):(a.put d v).tmps[t]?=some v:=by
 subst h
 simp only [Act.put]
 rw [Array.getElem?_setIfInBounds_self,if_pos hl]
theorem DInv.listedMask {ds:List Deferred} {P:Program} {ops:List Oper} {listed:Array Bool} {a:Act} {w:World} {tr:List Ent} {done:Nat} {qs:List Ent} {e:Env} (h:DInv ds P ops listed a w tr done qs e) (hok:drawOk ops=true)
  {i:Nat} {o:Oper} (ho:ops[i]?=some o) (hr:∀ e∈o.after.toList,Region.binds .any e=true→Li listed e.on) {k:Nat} (hk:(mkAt (masks ops) i).testBit k=true):Li listed k:=by
 simp only [drawOk,Bool.and_eq_true] at hok
 exact closed_mask h.closed hok.1 i o ho hr k hk
theorem DInv.pends {ds:List Deferred} {P:Program} {ops:List Oper} {listed:Array Bool} {a:Act} {w:World} {tr:List Ent} {done:Nat} {qs:List Ent} {e:Env} (h:DInv ds P ops listed a w tr done qs e) (hok:drawOk ops=true)
  {x:Ent} (hx:x∈tr) (hxl:¬ Li listed x.i) (hs:x.i < listed.size) (hr:∀ e∈x.o.after.toList,Region.binds .any e=true→Li listed e.on) :
  DInv ds P ops (listed.setIfInBounds x.i true) (a.put x.o.dst x.v) w tr done qs e:=by
 have hok2:=hok
 simp only [drawOk,Bool.and_eq_true] at hok2
 have hL:∀ k,Li (listed.setIfInBounds x.i true) k ↔ Li listed k∨k=x.i:=fun k=>Li_set hs
 have hne:∀ y∈tr,x.o.dst ≠ y.o.dst∨y.i ≠ x.i∨y.o=x.o:=fun y hy=>by
  by_cases hi:y.i=x.i
  ·have h1:=h.at_ y hy
   rw [hi,h.at_ x hx,Option.some.injEq] at h1
   exact .inr (.inr h1.symm)
  ·exact .inr (.inl hi)
 constructor
 ·rw [put_defers'];exact h.defers
 ·rw [put_size];exact h.size
 ·intro y hy;rw [put_size];exact h.esize y hy
 ·exact h.dn
 ·exact h.at_
 ·intro k hk
  rcases (hL k).1 hk with hk | rfl
  ·exact h.sub k hk
  ·exact (h.dn _).2 ⟨x,hx,rfl⟩
 ·intro j o hj ho e' he hb
  rw [hL]
  rcases (hL j).1 hj with hj | rfl
  ·exact .inl (h.closed j o hj ho e' he hb)
  ·rw [h.at_ x hx,Option.some.injEq] at ho
   subst ho
   exact .inl (hr e' he hb)
 ·intro y hy hyh
  exact (hL _).2 (.inl (h.hv y hy hyh))
 ·exact h.msk
 ·intro y hy hyl
  exact h.pend y hy (fun hh=>hyl ((hL _).2 (.inl hh)))
 ·intro y hy hyl t ht u hu
  have hyl':¬ Li listed y.i:=fun hh=>hyl ((hL _).2 (.inl hh))
  have hyi:x.i ≠ y.i:=fun hh=>hyl ((hL _).2 (.inr hh.symm))
  by_cases hd:x.o.dst=some t
  ·have hlt:t < a.tmps.size:=Nat.lt_of_lt_of_le (Env.get_lt hu) (h.esize y hy)
   rw [put_eq a x.v hd hlt]
   rcases (ordered hok2.2 (h.at_ x hx) (h.at_ y hy) hyi hd).2 ht with hh | hh
   ·rw [h.vals y hy x hx hh t hd u hu];exact .inl rfl
   ·exact absurd (h.listedMask hok (h.at_ x hx) hr hh) hyl'
  ·rw [put_ne a x.v hd]
   rcases h.opd y hy hyl' t ht u hu with hh | ⟨z,hz,hzl,hzd,hzm,hzv⟩
   ·exact .inl hh
   ·refine .inr ⟨z,hz,fun hh=>?_,hzd,hzm,hzv⟩
    rcases (hL _).1 hh with hh | hh
    ·exact hzl hh
    ·have h1:=h.at_ z hz
     rw [hh,h.at_ x hx,Option.some.injEq] at h1
     rw [h1] at hd
     exact hd hzd
 ·intro t u hu
  by_cases hd:x.o.dst=some t
  ·have hlt:t < a.tmps.size:=Nat.lt_of_lt_of_le (Env.get_lt hu) h.size
   rw [put_eq a x.v hd hlt,h.cur x hx t hd u hu]
   exact .inl rfl
  ·rw [put_ne a x.v hd]
   rcases h.fin t u hu with hh | ⟨z,hz,hzl,hzd,hzv⟩
   ·exact .inl hh
   ·refine .inr ⟨z,hz,fun hh=>?_,hzd,hzv⟩
    rcases (hL _).1 hh with hh | hh
    ·exact hzl hh
    ·have h1:=h.at_ z hz
     rw [hh,h.at_ x hx,Option.some.injEq] at h1
     rw [h1] at hd
     exact hd hzd
 ·exact h.vals
 ·exact h.cur
 ·intro y hy hyl
  exact h.qsr y hy (fun hh=>hyl ((hL _).2 (.inl hh)))
theorem DInv.heavy {ds:List Deferred} {P:Program} {ops:List Oper} {listed:Array Bool} {a:Act} {w w':World} {tr:List Ent} {done:Nat} {qs:List Ent} {e:Env} (h:DInv ds P ops listed a w tr done qs e) (hok:drawOk ops=true)
  {i:Nat} {o:Oper} (ho:ops[i]?=some o) (hs:i < listed.size) (hd:done.testBit i=false) (hr:∀ e∈o.after.toList,Region.binds .any e=true→Li listed e.on) {v:Value} {ex:Bool}
  (hrd:∀ x∈tr,¬ Li listed x.i→x.ex=true→isRead P x.o=true→(execOp (rho x.e) x.o).run P w'=.ok (.value x.v) w') :
  DInv ds P ops (listed.setIfInBounds i true) (a.put o.dst v) w' (⟨i,o,e,v,ex⟩ :: tr) (done ||| 2 ^ i) qs (e.put o.dst v):=by
 have hok2:=hok
 simp only [drawOk,Bool.and_eq_true] at hok2
 have hL:∀ k,Li (listed.setIfInBounds i true) k ↔ Li listed k∨k=i:=fun k=>Li_set hs
 have hni:∀ x∈tr,x.i ≠ i:=fun x hx he=>by rw [(h.dn i).2 ⟨x,hx,he⟩] at hd;cases hd
 have hlen:(e.put o.dst v).length=e.length:=by cases hod:o.dst <;> simp [Env.put,Env.length_set]
 have hget:∀ t u,(e.put o.dst v).get t=some u→(o.dst=some t∧u=v)∨(o.dst ≠ some t∧e.get t=some u):=by
  intro t u hu
  cases hod:o.dst with
  | none=>exact .inr ⟨by simp,by simpa [Env.put,hod] using hu⟩
  | some d=>
   simp only [Env.put,hod] at hu
   rcases Env.get_set_some hu with ⟨rfl,hh⟩ | ⟨hne,hh⟩
   ·exact .inl ⟨rfl,by simpa using hh.symm⟩
   ·exact .inr ⟨by simpa using hne,hh⟩
 have hmd:∀ k,(mkAt (masks ops) i).testBit k=true→done.testBit k=true:=fun k hk=>h.sub k (h.listedMask hok ho hr hk)
 constructor
 ·rw [put_defers'];exact h.defers
 ·rw [put_size,hlen];exact h.size
 ·intro x hx
  rw [put_size]
  rcases List.mem_cons.1 hx with rfl | hx
  ·exact h.size
  ·exact h.esize x hx
 ·intro k
  rw [testBit_add,h.dn k]
  constructor
  ·rintro (⟨x,hx,rfl⟩ | rfl)
   ·exact ⟨x,List.mem_cons_of_mem _ hx,rfl⟩
   ·exact ⟨_,List.mem_cons_self,rfl⟩
  ·rintro ⟨x,hx,rfl⟩
   rcases List.mem_cons.1 hx with rfl | hx
   ·exact .inr rfl
   ·exact .inl ⟨x,hx,rfl⟩
 ·intro x hx
  rcases List.mem_cons.1 hx with rfl | hx
  ·exact ho
  ·exact h.at_ x hx
 ·intro k hk
  rcases (hL k).1 hk with hk | rfl
  ·exact testBit_add.2 (.inl (h.sub k hk))
  ·exact testBit_add.2 (.inr rfl)
 ·intro j oj hj hoj e' he hb
  rw [hL]
  rcases (hL j).1 hj with hj | rfl
  ·exact .inl (h.closed j oj hj hoj e' he hb)
  ·rw [ho,Option.some.injEq] at hoj
   subst hoj
   exact .inl (hr e' he hb)
 ·intro x hx hxh
  rw [hL]
  rcases List.mem_cons.1 hx with rfl | hx
  ·exact .inr rfl
  ·exact .inl (h.hv x hx hxh)
 ·intro x hx k hk
  rcases List.mem_cons.1 hx with rfl | hx
  ·exact testBit_add.2 (.inl (hmd k hk))
  ·exact testBit_add.2 (.inl (h.msk x hx k hk))
 ·intro x hx hxl
  rcases List.mem_cons.1 hx with rfl | hx
  ·exact absurd ((hL _).2 (.inr rfl)) hxl
  ·have hxl':¬ Li listed x.i:=fun hh=>hxl ((hL _).2 (.inl hh))
   have hp:=h.pend x hx hxl'
   exact ⟨hp.want,hp.sel,hp.known,hrd x hx hxl',hp.pure,hp.skip⟩
 ·intro x hx hxl t ht u hu
  rcases List.mem_cons.1 hx with rfl | hx
  ·exact absurd ((hL _).2 (.inr rfl)) hxl
  ·have hxl':¬ Li listed x.i:=fun hh=>hxl ((hL _).2 (.inl hh))
   have hdt:o.dst ≠ some t:=fun hdt=>by
    rcases (ordered hok2.2 ho (h.at_ x hx) (Ne.symm (hni x hx)) hdt).2 ht with hh | hh
    ·have:=h.msk x hx _ hh
     rw [hd] at this
     cases this
    ·exact hxl' (h.listedMask hok ho hr hh)
   rw [put_ne a v hdt]
   rcases h.opd x hx hxl' t ht u hu with hh | ⟨z,hz,hzl,hzr⟩
   ·exact .inl hh
   ·refine .inr ⟨z,List.mem_cons_of_mem _ hz,fun hh=>?_,hzr⟩
    rcases (hL _).1 hh with hh | hh
    ·exact hzl hh
    ·exact hni z hz hh
 ·intro t u hu
  rcases hget t u hu with ⟨hod,rfl⟩ | ⟨hne,hu'⟩
  ·have hlt:t < a.tmps.size:=Nat.lt_of_lt_of_le (Env.get_lt hu) (by rw [hlen];exact h.size)
   exact .inl (put_eq a _ hod hlt)
  ·rw [put_ne a v hne]
   rcases h.fin t u hu' with hh | ⟨z,hz,hzl,hzr⟩
   ·exact .inl hh
   ·refine .inr ⟨z,List.mem_cons_of_mem _ hz,fun hh=>?_,hzr⟩
    rcases (hL _).1 hh with hh | hh
    ·exact hzl hh
    ·exact hni z hz hh
 ·intro x hx y hy hxy t hyd u hu
  rcases List.mem_cons.1 hx with rfl | hx
  ·simp only at hxy hu
   rcases List.mem_cons.1 hy with rfl | hy
   ·have:=hmd _ hxy
    rw [hd] at this
    cases this
   ·exact h.cur y hy t hyd u hu
  ·rcases List.mem_cons.1 hy with rfl | hy
   ·have:=h.msk x hx _ hxy
    rw [hd] at this
    cases this
   ·exact h.vals x hx y hy hxy t hyd u hu
 ·intro y hy t hyd u hu
  rcases List.mem_cons.1 hy with rfl | hy'
  ·simp only at hyd ⊢
   rcases hget t u hu with ⟨_,hv⟩ | ⟨hne,_⟩
   ·exact hv
   ·exact absurd hyd hne
  ·rcases hget t u hu with ⟨hod,_⟩ | ⟨hne,hu⟩
   ·exact absurd hod (ordered hok2.2 (h.at_ y hy') ho (hni y hy') hyd).1
   ·exact h.cur y hy' t hyd u hu
 ·intro x hx hxl hxe hxr
  rcases List.mem_cons.1 hx with rfl | hx
  ·exact absurd ((hL _).2 (.inr rfl)) hxl
  ·exact h.qsr x hx (fun hh=>hxl ((hL _).2 (.inl hh))) hxe hxr
theorem subMask_of {m d:Nat} (h:∀ k,m.testBit k=true→d.testBit k=true):subMask m d=true:=by
 unfold subMask
 have:m &&& d=m:=by
  apply Nat.eq_of_testBit_eq
  intro k
  rw [Nat.testBit_and]
  cases hk:m.testBit k with
  | false=>rfl
  | true=>rw [h k hk];rfl
 rw [this]
 exact Nat.beq_refl m
theorem count_set {l:Array Bool} {i:Nat} (h:l.getD i true=false):(l.setIfInBounds i true).toList.count false + 1=l.toList.count false:=by
 have hi:i < l.size:=by
  rcases Nat.lt_or_ge i l.size with h' | h'
  ·exact h'
  ·simp [Array.getElem?_eq_none h'] at h
 have hv:l[i]=false:=by simpa [hi] using h
 have hv':l.toList[i]'(by simpa using hi)=false:=by simpa using hv
 rw [Array.toList_setIfInBounds,List.count_set (by simpa using hi)]
 have hpos:0 < l.toList.count false:=List.count_pos_iff.2 (by rw [← hv'];exact List.getElem_mem _)
 rw [hv']
 simp only [beq_self_eq_true,if_true,show (true == false)=false from rfl,Bool.false_eq_true,if_false]
 omega
theorem nodefer_of_quiet {P:Program} {o:Oper} (h:isHeavy P o=false):∀ c,o.op ≠ .defer c:=by
 intro c hc
 simp [isHeavy,cls,hc] at h
theorem wpAny_of {ds:List Deferred} {r:Option Nat} {P:Program} {ops:List Oper} {K:Env→Pr} {Q:Exit→Act→World→Prop} (hok:drawOk ops=true) (hQ:∀ e' a' w',K e' w'→Knows ds e' a'→Q .normal a' w') :
  ∀ (fuel:Nat) {listed:Array Bool} {a:Act} {w:World} {tr:List Ent} {done n:Nat} {qs:List Ent} {e:Env},drawD P ops (masks ops) K n done qs e w→DInv ds P ops listed a w tr done qs e→listed.size=ops.length →
   listed.toList.count false≤fuel→wpAnyIn (WF r) 0 P .any ops.toArray Q fuel listed a w:=by
 intro fuel
 have fin:∀ {listed:Array Bool} {a:Act} {w:World} {tr:List Ent} {done n:Nat} {qs:List Ent} {e:Env},drawD P ops (masks ops) K n done qs e w→DInv ds P ops listed a w tr done qs e→listed.size=ops.length →
   Region.ready .any ops.toArray listed=[]→Q .normal a w:=by
  intro listed a w tr done n qs e h hi hs hr
  obtain ⟨n',tr',done',qs',e',hi',hn,hR⟩:=advance hok n h hi
  have hall:∀ j,j < ops.length→Li listed j:=by
   intro j
   induction j using Nat.strongRecOn with
   | _ j ih=>
    intro hj
    have hok2:=hok
    simp only [drawOk,Bool.and_eq_true] at hok2
    cases hl:listed.getD j true with
    | true=>
     unfold Li
     have:j < listed.size:=by omega
     simp [this] at hl ⊢
     exact hl
    | false=>
     have hm:j∈Region.ready .any ops.toArray listed:=by
      rw [mem_ready]
      refine ⟨hl,ops[j],by simp [hj],fun e he hb=>?_⟩
      have hlt:=edgesBack_at hok2.1 (List.getElem?_eq_getElem hj) e (by simpa using he) hb
      exact ih e.on (by omega) (by omega)
     rw [hr] at hm
     cases hm
  have hdone:∀ j,j < ops.length→done'.testBit j=true:=fun j hj=>hi'.sub j (hall j hj)
  have hK:K e' w:=by
   rcases hR with ⟨_,hK⟩ | hR
   ·exact hK
   ·have:heavies P (masks ops) done' ops 0=[]:=by
     have key:∀ (r:List Oper) (m:Nat),(∀ k,k < r.length→done'.testBit (m + k)=true)→heavies P (masks ops) done' r m=[]:=by
      intro r
      induction r with
      | nil=>intro m _;rfl
      | cons o r ih=>
       intro m hm
       have h0:=hm 0 (by simp)
       rw [Nat.add_zero] at h0
       simp only [heavies,h0]
       exact ih (m + 1) (fun k hk=>by have:=hm (k + 1) (by simp;omega);rwa [show m + 1 + k=m + (k + 1) from by omega])
     exact key ops 0 (fun k hk=>by rw [Nat.zero_add];exact hdone k hk)
    rw [this] at hR
    exact hR.elim
  refine hQ e' a w hK ⟨hi'.size,hi'.defers,fun t v hv=>?_⟩
  rcases hi'.fin t v hv with hh | ⟨y,hy,hyl,_⟩
  ·exact hh
  ·have:=List.getElem?_eq_some_iff.1 (hi'.at_ y hy)
   exact absurd (hall y.i this.1) hyl
 induction fuel with
 | zero=>
  intro listed a w tr done n qs e h hi hs hc
  have hr:Region.ready .any ops.toArray listed=[]:=by
   rw [List.eq_nil_iff_forall_not_mem]
   intro j hj
   rw [mem_ready] at hj
   have:=count_set hj.1
   omega
  exact ⟨hr,fin h hi hs hr⟩
 | succ fuel ih=>
  intro listed a w tr done n qs e h hi hs hc
  refine ⟨fin h hi hs,fun i hir=>?_⟩
  rw [mem_ready] at hir
  obtain ⟨hl,o,ho,hr⟩:=hir
  have ho':ops[i]?=some o:=by simpa using ho
  have hlt:i < listed.size:=by
   have:=(List.getElem?_eq_some_iff.1 ho').1
   omega
  have hnl:¬ Li listed i:=by
   unfold Li
   simp [hlt] at hl ⊢
   exact hl
  have hr':∀ e∈o.after.toList,Region.binds .any e=true→Li listed e.on:=fun e he hb=>hr e (by simpa using he) hb
  have hcs:=count_set hl
  have hsz:(listed.setIfInBounds i true).size=ops.length:=by simp [hs]
  obtain ⟨n',tr',done',qs',e',hi',hn,hR⟩:=advance hok n h hi
  unfold wpOpIn
  rw [ho]
  simp only
  cases hd:done'.testBit i with
  | true=>
   obtain ⟨x,hx,rfl⟩:=(hi'.dn i).1 hd
   have hxo:=hi'.at_ x hx
   rw [ho',Option.some.injEq] at hxo
   subst hxo
   have hp:=hi'.pend x hx hnl
   have hlook:∀ t∈looks ops x.o,∀ u,x.e.get t=some u→a.tmps[t]?=some u:=by
    intro t ht u hu
    rcases hi'.opd x hx hnl t ht u hu with hh | ⟨y,hy,hyl,hyd,hym,hyv⟩
    ·exact hh
    ·exact absurd (hi'.listedMask hok ho' hr' hym) hyl
   have hw:Region.wanted x.o (yielded ops.toArray a.tmps)=x.ex:=hp.want a fun t ht v hv=>hlook t (by simp [looks,ht]) v hv
   rw [hw]
   have hnext:wpAnyIn (WF r) 0 P .any ops.toArray Q fuel (listed.setIfInBounds x.i true) (a.put x.o.dst x.v) w:=by
    have hi'':=hi'.pends hok hx hnl hlt hr'
    have hD:drawD P ops (masks ops) K (n' + 1) done' qs' e' w:=by
     simp only [drawD,hn]
     rcases hR with ⟨hb,hK⟩ | hR
     ·rw [hb];exact hK
     ·cases hb:Nat.beq done' (full ops.length) with
      | false=>exact hR
      | true=>
       have hempty:heavies P (masks ops) done' ops 0=[]:=by
        have heq:=Nat.eq_of_beq_eq_true hb
        have key:∀ (r:List Oper) (m:Nat),(∀ k,k < r.length→done'.testBit (m + k)=true)→heavies P (masks ops) done' r m=[]:=by
         intro r
         induction r with
         | nil=>intro m _;rfl
         | cons o r ih=>
          intro m hm
          have h0:=hm 0 (by simp)
          rw [Nat.add_zero] at h0
          simp only [heavies,h0]
          exact ih (m + 1) (fun k hk=>by have:=hm (k + 1) (by simp;omega);rwa [show m + 1 + k=m + (k + 1) from by omega])
        exact key ops 0 (fun k hk=>by rw [heq,full,Nat.testBit_two_pow_sub_one];simp;omega)
       rw [hempty] at hR
       exact hR.elim
    exact ih hD hi'' hsz (by omega)
   cases hex:x.ex with
   | false=>
    rw [hp.skip hex] at hnext
    exact ⟨fun _ _=>trivial,hnext⟩
   | true=>
    simp only [if_true]
    have he:execOp (rho x.e) x.o=execOp a.eval x.o:=execOp_known (hp.sel hex) fun t ht=>by
     obtain ⟨v,hv⟩:=knownL_mem (hp.known hex) t ht
     refine ⟨v,hv,hlook t ?_ v hv⟩
     unfold looks
     split
     ·exact List.mem_cons_of_mem _ ht
     ·exact ht
    refine wpIn_of_does (nodefer_of_quiet (by cases hh:isHeavy P x.o with | false=>rfl | true=>exact absurd (hi'.hv x hx hh) hnl)) ?_
    rw [← he]
    have hrun:(execOp (rho x.e) x.o).run P w=.ok (.value x.v) w:=by
     cases hrd:isRead P x.o with
     | true=>exact hp.read hex hrd
     | false=>exact hp.pure hex hrd w
    rw [hrun]
    exact hnext
  | false=>
   have hheavy:isHeavy P o=true:=by
    rcases nextQuiet_none hn i o ho' with hh | hh | hh
    ·rw [Nat.zero_add,hd] at hh;cases hh
    ·exact hh
    ·rw [Nat.zero_add,subMask_of (fun k hk=>hi'.sub k (hi'.listedMask hok ho' hr' hk))] at hh
     cases hh
   have hsub:subMask (mkAt (masks ops) i) done'=true:=subMask_of (fun k hk=>hi'.sub k (hi'.listedMask hok ho' hr' hk))
   have hstep:heavyStep P ops (masks ops) i o e' qs' (fun e=>drawD P ops (masks ops) K n' (done' ||| 2 ^ i) qs' e) w:=by
    rcases hR with ⟨hb,_⟩ | hR
    ·have heq:=Nat.eq_of_beq_eq_true hb
     have hlen:=(List.getElem?_eq_some_iff.1 ho').1
     rw [heq,full,Nat.testBit_two_pow_sub_one] at hd
     simp at hd
     omega
    ·have hm:=mem_heavies (P:=P) (M:=masks ops) (done:=done') (r:=ops) (n:=0) (k:=i) ho' (by rw [Nat.zero_add];exact hd) hheavy (by rw [Nat.zero_add];exact hsub)
     rw [Nat.zero_add] at hm
     exact allP_mem hR _ (List.mem_map.2 ⟨(i,o),hm,rfl⟩)
   have hlook:∀ t∈looks ops o,∀ u,e'.get t=some u→a.tmps[t]?=some u:=by
    intro t ht u hu
    rcases hi'.fin t u hu with hh | ⟨y,hy,hyl,hyd,hyv⟩
    ·exact hh
    ·have hok2:=hok
     simp only [drawOk,Bool.and_eq_true] at hok2
     have hyi:y.i ≠ i:=fun hh=>by rw [(hi'.dn i).2 ⟨y,hy,hh⟩] at hd;cases hd
     rcases (ordered hok2.2 (hi'.at_ y hy) ho' hyi hyd).2 ht with hh | hh
     ·exact absurd (hi'.listedMask hok ho' hr' hh) hyl
     ·have:=hi'.msk y hy _ hh
      rw [hd] at this
      cases this
   obtain ⟨b,hb,hw⟩:=grdD_elim hstep
   rw [hw a (fun t ht v hv=>hlook t (by simp [looks,ht]) v hv)]
   cases b with
   | false=>
    simp only [Bool.false_eq_true,if_false] at hb ⊢
    refine ⟨fun _ _=>trivial,?_⟩
    have hi'':=hi'.heavy hok ho' hlt hd hr' (v:=undef) (ex:=false) (w':=w) (fun x hx hxl hxe hxr=>(hi'.pend x hx hxl).read hxe hxr)
    exact ih hb hi'' hsz (by omega)
   | true=>
    simp only [if_true] at hb ⊢
    split at hb
    ·rename_i hk
     simp only [Bool.and_eq_true] at hk
     have he:execOp (rho e') o=execOp a.eval o:=execOp_known hk.1 fun t ht=>by
      obtain ⟨v,hv⟩:=knownL_mem hk.2 t ht
      refine ⟨v,hv,hlook t ?_ v hv⟩
      unfold looks
      split
      ·exact List.mem_cons_of_mem _ ht
      ·exact ht
     have hdoes:=opD_sound hb r a (wpAnyIn (WF r) 0 P .any ops.toArray Q fuel (listed.setIfInBounds i true)) Q (fun v w' hv=>by
      obtain ⟨hD,hag⟩:=again_elim hv
      have hi'':=hi'.heavy hok ho' hlt hd hr' (v:=v) (ex:=true) (w':=w') (fun x hx hxl hxe hxr=>by
       refine hag x (hi'.qsr x hx hxl hxe hxr) ?_
       cases hb':(mkAt (masks ops) i).testBit x.i with
       | false=>rfl
       | true=>exact absurd (hi'.listedMask hok ho' hr' hb') hxl)
      exact ih hD hi'' hsz (by omega))
     refine wpIn_of_does (opD_nodefer hb) ?_
     rw [← he]
     exact hdoes
    ·exact hb.elim
end Go.Sx
set_option linter.unusedSimpArgs false
set_option linter.unusedVariables false
namespace Go.Sx
open Go
def dsts:List Oper→List Tmp
 | []=>[]
 | o :: r=>match o.dst with
  | some t=>t :: dsts r
  | none=>dsts r
def writes:Code→List Tmp
 | .region _ ops _=>dsts ops.toList
 | .seq a b=>writes a ++ writes b
 | .cond _ a b=>writes a ++ writes b
 | .block _ a=>writes a
 | .loop a=>writes a
 | .scope a=>writes a
 | _=>[]
def Agree (W:List Tmp) (a a':Act):Prop:=a'.tmps.size=a.tmps.size∧∀ t,t ∉ W→a'.tmps[t]?=a.tmps[t]?
theorem Agree.refl (W:List Tmp) (a:Act):Agree W a a:=⟨rfl,fun _ _=>rfl⟩
theorem Agree.trans {W:List Tmp} {a b c:Act} (h:Agree W a b) (k:Agree W b c):Agree W a c:=⟨k.1.trans h.1,fun t ht=>(k.2 t ht).trans (h.2 t ht)⟩
theorem Agree.mono {W W':List Tmp} {a b:Act} (h:Agree W a b) (hs:∀ t∈W,t∈W'):Agree W' a b:=⟨h.1,fun t ht=>h.2 t (fun hh=>ht (hs t hh))⟩
theorem Agree.put {W:List Tmp} {a b:Act} (h:Agree W a b) {d:Option Tmp} (hd:∀ t,d=some t→t∈W) (v:Value):Agree W a (b.put d v):=⟨by rw [put_size];exact h.1,fun t ht=>by
  rw [put_ne b v (fun he=>ht (hd t he))]
  exact h.2 t ht⟩
theorem Agree.congr {W:List Tmp} {a b c:Act} (h:Agree W a b) (hc:c.tmps=b.tmps):Agree W a c:=⟨by rw [hc];exact h.1,fun t ht=>by rw [hc];exact h.2 t ht⟩
theorem mem_dsts {l:List Oper} {o:Oper} (h:o∈l) {t:Tmp} (ht:o.dst=some t):t∈dsts l:=by
 induction l with
 | nil=>simp at h
 | cons x r ih=>
  simp only [dsts]
  rcases List.mem_cons.1 h with rfl | h
  ·rw [ht];exact List.mem_cons_self
  ·split
   ·exact List.mem_cons_of_mem _ (ih h)
   ·exact ih h
def NQ (R:Act→World→Prop):Exit→Act→World→Prop:=fun ex a w=>ex=.normal∧R a w
theorem upon_agree {P:Program} {r:Option Nat} {o:Oper} {a:Act} {w:World} {K K':Act→World→Prop} {R R':Act→World→Prop} (hK:∀ (b:Act) (w:World),b.tmps=a.tmps→∀ (v:Value) (w':World),K (b.put o.dst v) w'→K' (b.put o.dst v) w')
  (h:o.wpIn (WF r) 0 P a w K (NQ R)):o.wpIn (WF r) 0 P a w K' (NQ R'):=by
 unfold Oper.wpIn at *
 refine ⟨h.1,?_⟩
 replace h:=h.2
 generalize (o.semAt (WF r).round a.eval).run P w=rr at *
 cases rr with
 | ok n w'=>
  cases n <;> simp only [Oper.uponIn] at h ⊢
  case value v=>exact hK a w rfl v w' h
  case skip=>exact hK a w rfl _ w' h
  case defer d=>exact hK { a with defers:=d :: a.defers } w rfl _ w' h
  case enter f args=>
   refine ⟨h.1,h.2.mono fun e w'' he=>?_⟩
   cases e with
   | returned v=>exact hK a w rfl v w'' he
   | panicked c=>exact absurd he.1 (by simp)
   | outgrown=>obtain ⟨_,_,he⟩:=he;exact absurd he.1 (by simp)
  case row row args=>exact ⟨h.1,h.2.mono fun v w'' he=>hK a w rfl v w'' he⟩
  case round l f tmps as bd=>
   refine ⟨h.1,h.2.mono fun e w'' he=>?_⟩
   cases e with
   | returned v=>exact hK a w rfl v w'' he
   | panicked c=>exact absurd he.1 (by simp)
   | outgrown=>obtain ⟨_,_,he⟩:=he;exact absurd he.1 (by simp)
 | halt x w'=>cases x <;> simp only [Oper.uponIn] at h ⊢ <;> exact absurd h.1 (by simp)
theorem wpOps_agree {P:Program} {r:Option Nat} {ops:Array Oper} {W:List Tmp} (hW:∀ (i:Nat) (o:Oper) (t:Tmp),ops[i]?=some o→o.dst=some t→t∈W) {R:Act→World→Prop} {a0:Act}:∀ {l:List Nat} {a:Act} {w:World},Agree W a0 a →
  wpOpsIn (WF r) 0 P ops (NQ R) l a w→wpOpsIn (WF r) 0 P ops (NQ fun a' w'=>R a' w'∧Agree W a0 a') l a w
 | [],a,w,ha,h=>⟨h.1,h.2,ha⟩
 | i :: l,a,w,ha,h=>by
  simp only [wpOpsIn] at h ⊢
  split at h
  ·exact wpOps_agree hW ha h
  ·rename_i o ho
   have hd:∀ t,o.dst=some t→t∈W:=fun t ht=>hW i o t ho ht
   split at h
   ·rename_i hw
    rw [if_pos hw]
    refine upon_agree (fun b w hb v w' hk=>wpOps_agree hW ?_ hk) h
    exact (ha.congr hb).put hd v
   ·rename_i hw
    rw [if_neg hw]
    exact ⟨h.1,wpOps_agree hW (ha.put hd _) h.2⟩
theorem wpAny_agree {P:Program} {r:Option Nat} {ops:Array Oper} {W:List Tmp} (hW:∀ (i:Nat) (o:Oper) (t:Tmp),ops[i]?=some o→o.dst=some t→t∈W) {R:Act→World→Prop} {a0:Act}:∀ (fuel:Nat) {listed:Array Bool} {a:Act} {w:World},Agree W a0 a →
  wpAnyIn (WF r) 0 P .any ops (NQ R) fuel listed a w→wpAnyIn (WF r) 0 P .any ops (NQ fun a' w'=>R a' w'∧Agree W a0 a') fuel listed a w:=by
 intro fuel
 induction fuel with
 | zero=>intro listed a w ha h;exact ⟨h.1,h.2.1,h.2.2,ha⟩
 | succ fuel ih=>
  intro listed a w ha h
  refine ⟨fun hr=>⟨(h.1 hr).1,(h.1 hr).2,ha⟩,fun i hi=>?_⟩
  have h:=h.2 i hi
  unfold wpOpIn at h ⊢
  split at h
  ·exact ih ha h
  ·rename_i o ho
   have hd:∀ t,o.dst=some t→t∈W:=fun t ht=>hW i o t ho ht
   split at h
   ·rename_i hw
    rw [if_pos hw]
    refine upon_agree (fun b w hb v w' hk=>ih ?_ hk) h
    exact (ha.congr hb).put hd v
   ·rename_i hw
    rw [if_neg hw]
    exact ⟨h.1,ih (ha.put hd _) h.2⟩
theorem region_sound {ds:List Deferred} {r:Option Nat} {P:Program} {id:Nat} {ops:Array Oper} {K:Env→Pr} {e:Env} {a:Act} {w:World} (h:opsD P ops.toList ops.toList e K w) (ha:Knows ds e a) :
  (Code.region id ops false).wpIn (WF r) 0 P (NQ fun a' w'=>(∃ e',K e' w'∧Knows ds e' a')∧Agree (dsts ops.toList) a a') a w:=by
 refine wpIn_region (wpOps_agree (fun i o t ho ht=>mem_dsts (l:=ops.toList) (by rw [Array.mem_toList_iff];exact Array.mem_of_getElem? ho) ht) (Agree.refl _ _) ?_)
 have hops:ops.toList.toArray=ops:=by simp
 have:=opsD_sound (r:=r) (l:=List.range ops.size) (Q:=NQ fun a' w'=>∃ e',K e' w'∧Knows ds e' a') (by
  apply List.ext_getElem?
  intro i
  by_cases hi:i < ops.size <;> simp [hi]) h ha (fun e' a' w' hk hk'=>⟨rfl,e',hk,hk'⟩)
 rwa [hops] at this
def Dr (K:Pr):Pr:=fun w=>K w.drew
theorem region_draw_sound {ds:List Deferred} {r:Option Nat} {P:Program} {id:Nat} {ops:Array Oper} {K:Env→Pr} {e:Env} {a:Act} {w:World} {n:Nat} (hm:P.follows .mixedOrders=true) (hok:drawOk ops.toList=true)
  (h:drawD P ops.toList (masks ops.toList) K n 0 [] e w.drew) (ha:Knows ds e a) :
  (Code.region id ops true).wpIn (WF r) 0 P (NQ fun a' w'=>(∃ e',K e' w'∧Knows ds e' a')∧Agree (dsts ops.toList) a a') a w:=by
 refine wpIn_region_any hm (wpAny_agree (fun i o t ho ht=>mem_dsts (l:=ops.toList) (by rw [Array.mem_toList_iff];exact Array.mem_of_getElem? ho) ht) _ (Agree.refl _ _) ?_)
 have hops:ops.toList.toArray=ops:=by simp
 rw [← hops]
 refine wpAny_of hok (fun e' a' w' hk hk'=>⟨rfl,e',hk,hk'⟩) _ (tr:=[]) h ?_ (by simp) (by simp)
 constructor
 ·exact ha.defers
 ·exact ha.size
 ·intro x hx;cases hx
 ·intro i;simp
 ·intro x hx;cases hx
 ·intro i hi
  unfold Li at hi
  simp [Array.getElem?_replicate] at hi
  split at hi <;> simp at hi
 ·intro j o hj
  unfold Li at hj
  simp [Array.getElem?_replicate] at hj
  split at hj <;> simp at hj
 ·intro x hx;cases hx
 ·intro x hx;cases hx
 ·intro x hx;cases hx
 ·intro x hx;cases hx
 ·intro t u hu
  exact .inl (ha.val t u hu)
 ·intro x hx;cases hx
 ·intro y hy;cases hy
 ·intro x hx;cases hx
inductive Ann where
 | leaf
 | seq (a b:Ann)
 | cond (a b:Ann)
 | block (a:Ann)
 | join (lv:List (Tmp × RK)) (a:Ann)
 | loop (lv:List (Tmp × RK)) (a:Ann)
 | range (lv:List (Tmp × RK)) (xs:List Nat) (a b:Ann)
def hasRange:Code→Bool
 | .seq a b=>hasRange a || hasRange b
 | .cond _ a b=>hasRange a || hasRange b
 | .block _ a=>hasRange a
 | .loop a=>hasRange a
 | .scope a=>hasRange a
 | .rangeFunc _ _ _ _=>true
 | _=>false
def mark1 (D:Nat):Deferred:={ target:=.collected D,args:=#[] }
def marks:List Nat→List Deferred
 | []=>[]
 | D :: ds=>mark1 D :: marks ds
def kinds:List (Tmp × RK)→List RK
 | []=>[]
 | (_,k) :: r=>k :: kinds r
def ins:(lv:List (Tmp × RK))→TR (kinds lv)→Env→Env
 | [],_,e=>e
 | (t,k) :: r,s,e=>ins r s.2 (e.set t (some (k.enc s.1)))
def getL:(lv:List (Tmp × RK))→Env→Option (TR (kinds lv))
 | [],_=>some ()
 | (t,k) :: r,e=>match e.get t with
  | some v=>match k.dec v with
   | some x=>match getL r e with
    | some y=>some (x,y)
    | none=>none
   | none=>none
  | none=>none
def useJ (lv:List (Tmp × RK)) (J:TR (kinds lv)→Pr) (_:List Nat) (e:Env) (w:World):Prop:=
 match getL lv e with
 | some s=>J s w
 | none=>F w
def thenD (K:List Nat→Env→Pr) (Q:Exit→List Nat→Env→Pr) (ex:Exit) (ds:List Nat) (e:Env):Pr:=
 match ex with
 | .normal=>K ds e
 | .exit id=>Q (.exit id) ds e
 | .goto l=>Q (.goto l) ds e
 | .ret=>Q .ret ds e
 | .panic c=>Q (.panic c) ds e
 | .outgrown=>Q .outgrown ds e
def blockD (id:Nat) (Q:Exit→List Nat→Env→Pr) (ex:Exit) (ds:List Nat) (e:Env):Pr:=
 match ex with
 | .normal=>Q .normal ds e
 | .exit id'=>match Nat.beq id' id with
  | true=>Q .normal ds e
  | false=>Q (.exit id') ds e
 | .goto l=>Q (.goto l) ds e
 | .ret=>Q .ret ds e
 | .panic c=>Q (.panic c) ds e
 | .outgrown=>Q .outgrown ds e
def scopeD (Q:Exit→List Nat→Env→Pr) (ex:Exit) (ds:List Nat) (e:Env):Pr:=
 match ex with
 | .normal=>Q .normal ds e
 | .exit id=>Q (.exit id) ds e
 | .goto _=>F
 | .ret=>Q .ret ds e
 | .panic c=>Q (.panic c) ds e
 | .outgrown=>Q .outgrown ds e
def bgL (l:Nat) (rec:Loop) (k:Pr):Pr:=fun w=>w.heap[l]?=some (.loop rec)∧k (w.putObj l (.loop { rec with state:=.busy }))
def enL (l:Nat) (rec:Loop) (J:Bool→Pr) (j:Option Code):Pr:=fun w=>
 w.heap[l]?=some (.loop { rec with state:=.busy })∧J j.isNone (w.putObj l (.loop { rec with state:=if j.isNone then .ready else .done,pending:=j }))
def Rg (P:Program) (f:FuncId) (pre post:List Value) (rs:List RK) (rd:TR rs→(Pr→Pr)→(Option Code→Pr)→Pr) (K:Nat→Option Code→Pr):Pr:=fun w=>
 ∀ rec:Loop,rec.state=.ready→rec.pending=none→rec.defers=w.heap.size →
  (∀ (s:TR rs) (J:Bool→Pr) (w':World),w'.heap[w.heap.size + 1]?=some (.loop rec) →
   rd s (bgL (w.heap.size + 1) rec) (enL (w.heap.size + 1) rec J) w'→Yd P (w.heap.size + 1) (encR rs s) false [.sc .b] (fun b=>J b.1) w') →
  Cl P f (pre ++ .func (.yield (w.heap.size + 1)) #[] #[] :: post) true [] (fun _ w3=>∃ rec':Loop,w3.heap[w.heap.size + 1]?=some (.loop rec')∧rec'.state ≠ .busy ∧
   K w.heap.size rec'.pending (w3.putObj (w.heap.size + 1) (.loop { rec' with state:=.exhausted }))) ((w.alloc (.deferred (some []))).alloc (.loop rec))
def RgV (P:Program) (v:Value) (rs:List RK) (rd:TR rs→(Pr→Pr)→(Option Code→Pr)→Pr) (K:Nat→Option Code→Pr):Pr:=fun w=>
 match v with
 | .func fn first cap=>match fn with
  | .func f=>Rg P f first.toList cap.toList rs rd K w
  | _=>F w
 | _=>F w
def Xj (x:Nat) (A:Pr) (B:Nat→Pr) (id:Nat):Pr:=fun w=>
 match Nat.beq id x with
 | true=>A w
 | false=>B id w
def exJ:List Nat→(Nat→Pr)→Nat→Pr
 | [],_,_=>F
 | x :: r,X,id=>Xj x (X x) (exJ r X) id
def Jm (N R:Pr) (X:Nat→Pr) (j:Option Code):Pr:=fun w=>
 match j with
 | none=>N w
 | some c=>match c with
  | .ret=>R w
  | .exit id=>X id w
  | _=>F w
def rdA (bg:Pr→Pr) (K:Env→Pr) (ex:Exit) (_:List Nat) (e:Env):Pr:=
 match ex with
 | .normal=>bg (K e)
 | _=>F
def rdB (en:Option Code→Pr) (ex:Exit) (_:List Nat) (_:Env):Pr:=
 match ex with
 | .normal=>en none
 | .ret=>en (some .ret)
 | .exit id=>en (some (.exit id))
 | _=>F
def sameT:List (Tmp × RK)→List Tmp→Bool
 | [],l=>match l with | []=>true | _=>false
 | (t,_) :: r,l=>match l with
  | u :: us=>match Nat.beq t u with
   | true=>sameT r us
   | false=>false
  | []=>false
def den (P:Program):Ann→Code→(Exit→List Nat→Env→Pr)→List Nat→Env→World→Prop
 | .leaf,c,Q,ds,e,w=>match c with
  | .skip=>Q .normal ds e w
  | .label _=>Q .normal ds e w
  | .ret=>Q .ret ds e w
  | .exit id=>Q (.exit id) ds e w
  | .region _ ops draw=>match draw with
   | false=>opsD P ops.toList ops.toList e (Q .normal ds) w
   | true=>match drawOk ops.toList with
    | true=>Dr (drawD P ops.toList (masks ops.toList) (Q .normal ds) (ops.toList.length + 1) 0 [] e) w
    | false=>F w
  | _=>F w
 | .seq a b,c,Q,ds,e,w=>match c with
  | .seq x y=>den P a x (thenD (den P b y Q) Q) ds e w
  | _=>F w
 | .cond a b,c,Q,ds,e,w=>match c with
  | .cond o x y=>match known1 e o with
   | true=>match rho e o with
    | .bool t=>Br t (den P a x Q ds e) (den P b y Q ds e) w
    | _=>F w
   | false=>F w
  | _=>F w
 | .block a,c,Q,ds,e,w=>match c with
  | .block id x=>den P a x (blockD id Q) ds e w
  | .scope x=>den P a x (scopeD Q) ds e w
  | _=>F w
 | .join lv a,c,Q,ds,e,w=>match hasRange c with
  | false=>Jp (fun s=>Q .normal ds (ins lv s (e.forget (writes c)))) (fun J=>den P a c (thenD (useJ lv J) Q) ds e) w
  | true=>F w
 | .loop lv a,c,Q,ds,e,w=>match c with
  | .loop x=>match hasRange x with
   | false=>match getL lv e with
    | some s=>Lp (fun rec s=>den P a x (thenD (useJ lv rec) Q) ds (ins lv s (e.forget (writes x)))) s w
    | none=>F w
   | true=>F w
  | _=>F w
 | .range lv xs a b,c,Q,ds,e,w=>match c with
  | .rangeFunc g ps as bd=>match sameT lv ps.toList && !(hasRange as || hasRange bd) && known1 e g with
   | true=>RgV P (rho e g) (kinds lv) (fun s bg en=>den P a as (rdA bg (den P b bd (rdB en) [])) [] (ins lv s e))
     (fun D=>Jm (Q .normal (D :: ds) e) (Q .ret (D :: ds) e) (exJ xs (fun id=>Q (.exit id) (D :: ds) e))) w
   | false=>F w
  | _=>F w
theorem forget_get {e:Env} {ts:List Tmp} {t:Nat} {v:Value} (h:(e.forget ts).get t=some v):t ∉ ts∧e.get t=some v:=Env.forget_get h
theorem forget_length {e:Env} {ts:List Tmp}:(e.forget ts).length=e.length:=rfl
theorem Knows.agree {ds ds':List Deferred} {e:Env} {a a':Act} {W:List Tmp} (h:Knows ds e a) (hg:Agree W a a') (hd:a'.defers=ds'):Knows ds' (e.forget W) a':=
 ⟨by rw [forget_length,hg.1];exact h.size,hd,fun t v hv=>by
  obtain ⟨h1,h2⟩:=forget_get hv
  rw [hg.2 t h1]
  exact h.val t v h2⟩
theorem getL_ins {ds:List Deferred} {lv:List (Tmp × RK)}:∀ {e e':Env} {s:TR (kinds lv)} {a:Act},getL lv e'=some s→Knows ds e' a→Knows ds e a→Knows ds (ins lv s e) a:=by
 induction lv with
 | nil=>intro e e' s a _ _ h;exact h
 | cons p r ih=>
  obtain ⟨t,k⟩:=p
  intro e e' s a hg h' h
  simp only [getL] at hg
  split at hg
  ·rename_i v hv
   split at hg
   ·rename_i x hx
    split at hg
    ·rename_i y hy
     have hg:=Option.some.inj hg
     subst hg
     refine ih hy h' ?_
     have:=h'.val t v hv
     rw [RK.dec_eq hx] at this
     exact h.set_some this
    ·cases hg
   ·cases hg
  ·cases hg
theorem wp_loop_n {Fn:Fence} {P:Program} {c:Code} {Q:Exit→Act→World→Prop} {a:Act} {w:World} (I:Nat→Act→World→Prop) {n:Nat} (h₀:I n a w)
  (round:∀ n a w,I n a w→c.wpIn Fn 0 P (Exit.then (fun a' w'=>∃ m,m < n∧I m a' w') Q) a w):(Code.loop c).wpIn Fn 0 P Q a w:=by
 intro b k cs hro hb hr
 have key:∀ n a w,I n a w→∃ e a' w',Q e a' w'∧ArrivesIn (Machine.fenced P Fn) P (lone (b.atR a (.code c :: .inLoop c :: k)) cs w) b k cs e a' w':=by
  intro n
  induction n using Nat.strongRecOn with
  | _ n ih=>
   intro a w hI
   obtain ⟨e,a₁,w₁,hq,harr⟩:=round n a w hI b (.inLoop c :: k) cs hro hb hr
   cases e with
   | normal=>
    obtain ⟨m,hlt,hI₁⟩:=hq
    obtain ⟨e₂,a₂,w₂,hq₂,harr₂⟩:=ih m hlt a₁ w₁ hI₁
    exact ⟨e₂,a₂,w₂,hq₂,.of_steps (StepsIn.trans harr (.one (fenced_calm hb hr rfl) stepR_inLoop)) harr₂⟩
   | exit id=>exact ⟨_,a₁,w₁,hq,.pass (x:=.inLoop c) rfl (fun _ _=>.inl (by simp)) harr⟩
   | goto l=>exact ⟨_,a₁,w₁,hq,.pass (x:=.inLoop c) rfl (fun _ _=>.inl (by simp)) harr⟩
   | ret=>exact ⟨_,a₁,w₁,hq,.pass (x:=.inLoop c) rfl (fun _ _=>.inl (by simp)) harr⟩
   | panic ch=>exact ⟨_,a₁,w₁,hq,.pass (x:=.inLoop c) rfl (fun _ _=>.inl (by simp)) harr⟩
   | outgrown=>exact ⟨_,a₁,w₁,hq,.pass (x:=.inLoop c) rfl (fun _ _=>.inl (by simp)) harr⟩
 obtain ⟨e,a',w',hq,harr⟩:=key n a w h₀
 exact ⟨e,a',w',hq,.of_steps (.one (fenced_calm hb hr rfl) stepR_loop) harr⟩
theorem wpIn_scope {Fn:Fence} {n:Nat} {P:Program} {Q:Exit→Act→World→Prop} {a:Act} {w:World} {c:Code} (h:c.wpIn Fn n P (Exit.noGoto Q) a w):(Code.scope c).wpIn Fn n P Q a w:=by
 intro b k cs hro hb hr
 have h0:(lone (b.atR a (.code (.scope c) :: k)) cs w).fenced P Fn:=fenced_calm hb hr rfl
 have s0:step P (lone (b.atR a (.code (.scope c) :: k)) cs w)=.next (lone (b.atR a (.code c :: .inScope c :: k)) cs w):=step_lone_go (by simp [stepG,stepG.exec,Frame.atR])
 obtain ⟨e,a₁,w₁,hq,harr⟩:=h b (.inScope c :: k) cs hro hb hr
 cases e with
 | normal=>exact ⟨.normal,a₁,w₁,hq,.head h0 s0 (StepsIn.trans harr (.one (fenced_calm hb hr rfl) (step_lone_go (by simp [stepG,stepG.exec,Frame.atR]))))⟩
 | exit id=>
  have hx:exitTo id (.inScope c :: k)=exitTo id k:=by simp [exitTo]
  exact ⟨.exit id,a₁,w₁,hq,fun k' hk=>.head h0 s0 (harr.1 k' (by rw [hx];exact hk)),fun hr' hk=>let ⟨k₁,h1,h2⟩:=harr.2 hr' (by rw [hx];exact hk);⟨k₁,h1,.head h0 s0 h2⟩⟩
 | goto l=>exact hq.elim
 | ret=>exact ⟨_,a₁,w₁,hq,.of_steps (.one h0 s0) harr⟩
 | panic ch=>exact ⟨_,a₁,w₁,hq,.of_steps (.one h0 s0) harr⟩
 | outgrown=>exact ⟨_,a₁,w₁,hq,.of_steps (.one h0 s0) harr⟩
theorem ins_knows {lv:List (Tmp × RK)} {ds:List Deferred}:∀ {ps:List Tmp} {e:Env} {tmps:Array Value} {s:TR (kinds lv)},sameT lv ps=true→Knows ds e { tmps,defers:=ds } →
  Knows ds (ins lv s e) { tmps:=(ps.zip (encR (kinds lv) s)).foldl (fun tmps (t,a)=>tmps.setIfInBounds t a) tmps,defers:=ds }:=by
 induction lv with
 | nil=>
  intro ps e tmps s h hk
  cases ps with
  | nil=>exact hk
  | cons _ _=>simp [sameT] at h
 | cons p r ih=>
  obtain ⟨t,k⟩:=p
  intro ps e tmps s h hk
  cases ps with
  | nil=>simp [sameT] at h
  | cons u us=>
   simp only [sameT] at h
   split at h
   ·rename_i hb
    have:=Nat.eq_of_beq_eq_true hb
    subst this
    exact ih (s:=s.2) h (hk.put (some t) (k.enc s.1))
   ·cases h
theorem sameT_len {lv:List (Tmp × RK)}:∀ {ps:List Tmp},sameT lv ps=true→(kinds lv).length=ps.length:=by
 induction lv with
 | nil=>intro ps h;cases ps with | nil=>rfl | cons _ _=>simp [sameT] at h
 | cons p r ih=>
  obtain ⟨t,k⟩:=p
  intro ps h
  cases ps with
  | nil=>simp [sameT] at h
  | cons u us=>
   simp only [sameT] at h
   split at h
   ·simp [kinds,ih h]
   ·cases h
theorem encR_len:∀ {ks:List RK} {s:TR ks},(encR ks s).length=ks.length
 | [],_=>rfl
 | k :: ks,s=>by simp [encR,encR_len]
theorem exJ_elim {xs:List Nat} {X:Nat→Pr} {id:Nat} {w:World} (h:exJ xs X id w):X id w:=by
 induction xs with
 | nil=>exact h.elim
 | cons x r ih=>
  simp only [exJ,Xj] at h
  split at h
  ·rename_i hb
   have:=Nat.eq_of_beq_eq_true hb
   subst this
   exact h
  ·exact ih h
theorem den_sound {P:Program} (hm:P.follows .mixedOrders=true):∀ (ann:Ann) {r:Option Nat} {c:Code} {Q:Exit→List Nat→Env→Pr} {Q':Exit→Act→World→Prop} {ds:List Nat} {e:Env} {a:Act} {w:World},den P ann c Q ds e w→Knows (marks ds) e a →
  (hasRange c=true→r=none)→(∀ ex ds' e' a' w',Q ex ds' e' w'→Knows (marks ds') e' a'→Agree (writes c) a a'→(hasRange c=false→ds'=ds)→Q' ex a' w')→c.wpIn (WF r) 0 P Q' a w:=by
 intro ann
 induction ann with
 | leaf=>
  intro r c Q Q' ds e a w h ha hr hq
  cases c with
  | skip=>exact wpIn_skip (hq _ _ _ _ _ h ha (Agree.refl _ _) (fun _=>rfl))
  | label l=>exact wpIn_label (hq _ _ _ _ _ h ha (Agree.refl _ _) (fun _=>rfl))
  | ret=>exact wpIn_ret (hq _ _ _ _ _ h ha (Agree.refl _ _) (fun _=>rfl))
  | exit id=>exact wpIn_exit (hq _ _ _ _ _ h ha (Agree.refl _ _) (fun _=>rfl))
  | region id ops draw=>
   cases draw with
   | false=>
    refine wpIn_mono (region_sound h ha) fun ex a' w' hr=>?_
    obtain ⟨rfl,⟨e',hk,hk'⟩,hg⟩:=hr
    exact hq _ _ _ _ _ hk hk' hg (fun _=>rfl)
   | true=>
    simp only [den] at h
    split at h
    ·rename_i hok
     refine wpIn_mono (region_draw_sound hm hok h ha) fun ex a' w' hr=>?_
     obtain ⟨rfl,⟨e',hk,hk'⟩,hg⟩:=hr
     exact hq _ _ _ _ _ hk hk' hg (fun _=>rfl)
    ·exact h.elim
  | _=>exact h.elim
 | seq x y ihx ihy=>
  intro r c Q Q' ds e a w h ha hr hq
  cases c with
  | seq cx cy=>
   refine wpIn_seq (ihx h ha (fun hh=>hr (by simp [hasRange,hh])) fun ex ds' e' a' w' hk hk' hg hd=>?_)
   have hgx:Agree (writes (.seq cx cy)) a a':=hg.mono fun t ht=>by simp [writes,ht]
   have hdx:hasRange (.seq cx cy)=false→ds'=ds:=fun hh=>hd (by simp [hasRange] at hh;exact hh.1)
   cases ex with
   | normal=>
    refine ihy hk hk' (fun hh=>hr (by simp [hasRange,hh])) fun ex ds'' e'' a'' w'' hl hl' hg' hd'=>?_
    exact hq _ _ _ _ _ hl hl' (hgx.trans (hg'.mono fun t ht=>by simp [writes,ht])) (fun hh=>(hd' (by simp [hasRange] at hh;exact hh.2)).trans (hdx hh))
   | exit id=>exact hq _ _ _ _ _ hk hk' hgx hdx
   | goto l=>exact hq _ _ _ _ _ hk hk' hgx hdx
   | ret=>exact hq _ _ _ _ _ hk hk' hgx hdx
   | panic ch=>exact hq _ _ _ _ _ hk hk' hgx hdx
   | outgrown=>exact hq _ _ _ _ _ hk hk' hgx hdx
  | _=>exact h.elim
 | cond x y ihx ihy=>
  intro r c Q Q' ds e a w h ha hr hq
  cases c with
  | cond o cx cy=>
   simp only [den] at h
   split at h
   ·rename_i hk
    split at h
    ·rename_i t ht
     have hev:a.eval o=.bool t:=by rw [← ha.rho hk,ht]
     refine wpIn_cond_split hev (fun hh=>?_) (fun hh=>?_)
     ·subst hh
      exact ihx h ha (fun hh=>hr (by simp [hasRange,hh])) fun ex ds' e' a' w' hk hk' hg hd=>hq _ _ _ _ _ hk hk' (hg.mono fun t ht=>by simp [writes,ht]) (fun hh=>hd (by simp [hasRange] at hh;exact hh.1))
     ·subst hh
      exact ihy h ha (fun hh=>hr (by simp [hasRange,hh])) fun ex ds' e' a' w' hk hk' hg hd=>hq _ _ _ _ _ hk hk' (hg.mono fun t ht=>by simp [writes,ht]) (fun hh=>hd (by simp [hasRange] at hh;exact hh.2))
    ·exact h.elim
   ·exact h.elim
  | _=>exact h.elim
 | block x ih=>
  intro r c Q Q' ds e a w h ha hr hq
  cases c with
  | block id cx=>
   refine wpIn_block (ih h ha (fun hh=>hr hh) fun ex ds' e' a' w' hk hk' hg hd=>?_)
   have hgx:Agree (writes (.block id cx)) a a':=hg
   have hdx:hasRange (.block id cx)=false→ds'=ds:=hd
   cases ex with
   | normal=>exact hq _ _ _ _ _ hk hk' hgx hdx
   | exit id'=>
    simp only [blockD] at hk
    simp only [Exit.inBlock]
    cases hb:Nat.beq id' id with
    | true=>
     rw [hb] at hk
     rw [if_pos (Nat.eq_of_beq_eq_true hb)]
     exact hq _ _ _ _ _ hk hk' hgx hdx
    | false=>
     rw [hb] at hk
     rw [if_neg (Nat.ne_of_beq_eq_false hb)]
     exact hq _ _ _ _ _ hk hk' hgx hdx
   | goto l=>exact hq _ _ _ _ _ hk hk' hgx hdx
   | ret=>exact hq _ _ _ _ _ hk hk' hgx hdx
   | panic ch=>exact hq _ _ _ _ _ hk hk' hgx hdx
   | outgrown=>exact hq _ _ _ _ _ hk hk' hgx hdx
  | scope cx=>
   refine wpIn_scope (ih h ha (fun hh=>hr hh) fun ex ds' e' a' w' hk hk' hg hd=>?_)
   cases ex with
   | normal=>exact hq _ _ _ _ _ hk hk' hg hd
   | exit id'=>exact hq _ _ _ _ _ hk hk' hg hd
   | goto l=>exact hk.elim
   | ret=>exact hq _ _ _ _ _ hk hk' hg hd
   | panic ch=>exact hq _ _ _ _ _ hk hk' hg hd
   | outgrown=>exact hq _ _ _ _ _ hk hk' hg hd
  | _=>exact h.elim
 | join lv x ih=>
  intro r c Q Q' ds e a w h ha hr hq
  simp only [den] at h
  split at h
  ·rename_i hnr
   refine ih (c:=c) h ha hr fun ex ds' e' a' w' hk hk' hg hd=>?_
   have hds:=hd hnr
   subst hds
   cases ex with
   | normal=>
    simp only [thenD,useJ] at hk
    split at hk
    ·rename_i s hs
     exact hq _ _ _ _ _ hk (getL_ins hs hk' (ha.agree hg hk'.defers)) hg (fun _=>rfl)
    ·exact hk.elim
   | exit id=>exact hq _ _ _ _ _ hk hk' hg (fun _=>rfl)
   | goto l=>exact hq _ _ _ _ _ hk hk' hg (fun _=>rfl)
   | ret=>exact hq _ _ _ _ _ hk hk' hg (fun _=>rfl)
   | panic ch=>exact hq _ _ _ _ _ hk hk' hg (fun _=>rfl)
   | outgrown=>exact hq _ _ _ _ _ hk hk' hg (fun _=>rfl)
  ·exact h.elim
 | loop lv x ih=>
  intro r c Q Q' ds e a w h ha hr hq
  cases c with
  | loop cx=>
   simp only [den] at h
   split at h
   ·rename_i hnr
    split at h
    ·rename_i s hs
     obtain ⟨I,⟨n,hI⟩,hround⟩:=h
     refine wp_loop_n (fun n a' w'=>∃ s,Knows (marks ds) (ins lv s (e.forget (writes cx))) a'∧Agree (writes cx) a a'∧I n s w') ⟨s,getL_ins hs ha (ha.forget _),Agree.refl _ _,hI⟩ ?_
     rintro n a' w' ⟨s,hks,hg,hI⟩
     refine ih (hround n s w' hI) hks (fun hh=>hr hh) fun ex ds'' e'' a'' w'' hk hk' hg' hd=>?_
     have hg'':Agree (writes cx) a a'':=hg.trans hg'
     have hds:=hd hnr
     subst hds
     cases ex with
     | normal=>
      simp only [thenD,useJ] at hk
      split at hk
      ·rename_i s' hs'
       obtain ⟨m,hmn,hIm⟩:=hk
       refine ⟨m,hmn,s',getL_ins hs' hk' (ha.agree hg'' hk'.defers),hg'',hIm⟩
      ·exact hk.elim
     | exit id=>exact hq _ _ _ _ _ hk hk' hg'' (fun _=>rfl)
     | goto l=>exact hq _ _ _ _ _ hk hk' hg'' (fun _=>rfl)
     | ret=>exact hq _ _ _ _ _ hk hk' hg'' (fun _=>rfl)
     | panic ch=>exact hq _ _ _ _ _ hk hk' hg'' (fun _=>rfl)
     | outgrown=>exact hq _ _ _ _ _ hk hk' hg'' (fun _=>rfl)
    ·exact h.elim
   ·exact h.elim
  | _=>exact h.elim
 | range lv xs x y ihx ihy=>
  intro r c Q Q' ds e a w h ha hr hq
  cases c with
  | rangeFunc g ps as bd=>
   have hrn:r=none:=hr rfl
   subst hrn
   simp only [den] at h
   split at h
   ·rename_i hok
    simp only [Bool.and_eq_true,Bool.not_eq_true',Bool.or_eq_false_iff] at hok
    obtain ⟨⟨hsame,hna,hnb⟩,hkg⟩:=hok
    have hev:rho e g=a.eval g:=ha.rho hkg
    rw [hev] at h
    unfold RgV at h
    split at h
    ·rename_i fn first cap hv
     split at h
     ·rename_i f
      refine wpIn_rangeFunc fun fn hfn=>?_
      have h0:=h { state:=.ready,pending:=none,fn,tmps:=a.tmps,params:=ps,assign:=as,body:=bd,defers:=w.heap.size } rfl rfl rfl ?_
      ·refine ⟨w.heap.size + 1,[mark1 w.heap.size],((w.alloc (.deferred (some []))).alloc (.loop { state:=.ready,pending:=none,fn,tmps:=a.tmps,params:=ps,assign:=as,body:=bd,defers:=w.heap.size })),{ target:=.fn (.func f) cap,args:=first ++ #[.func (.yield (w.heap.size + 1)) #[] #[]] },((w.alloc (.deferred (some []))).alloc (.loop { state:=.ready,pending:=none,fn,tmps:=a.tmps,params:=ps,assign:=as,body:=bd,defers:=w.heap.size })),f,first ++ #[.func (.yield (w.heap.size + 1)) #[] #[]] ++ cap,((w.alloc (.deferred (some []))).alloc (.loop { state:=.ready,pending:=none,fn,tmps:=a.tmps,params:=ps,assign:=as,body:=bd,defers:=w.heap.size })),run_enterLoop_outer _ _ _ _ _,?_,fun _ _=>trivial,?_,fun hh=>by simp [WF,Fence.wide] at hh,?_⟩
       ·simp only [resolve,hv,Deferred.ofValue,Sem.run_pure]
        congr 2
        simp [Act.eval]
       ·simp only [invoke]
        rw [run_callFunc h0.1]
       ·have hargs:(first ++ #[Value.func (.yield (w.heap.size + 1)) #[] #[]] ++ cap)=(first.toList ++ .func (.yield (w.heap.size + 1)) #[] #[] :: cap.toList).toArray:=Array.toList_inj.1 (by simp)
        rw [hargs]
        refine callsIn_WF (h0.2.mono fun ed w3 he=>?_)
        cases ed with
        | returned v=>
         obtain ⟨_,_,rec',h1,h2,h3⟩:=he
         refine ⟨_,_,run_endLoop h1 h2,?_⟩
         have hk':Knows (marks (w.heap.size :: ds)) e { a with defers:=[mark1 w.heap.size] ++ a.defers }:=⟨ha.size,by simp [marks,ha.defers],ha.val⟩
         have fin:∀ ex w4,Q ex (w.heap.size :: ds) e w4→Q' ex { a with defers:=[mark1 w.heap.size] ++ a.defers } w4:=fun ex w4 hq4=>hq _ _ _ _ _ hq4 hk' ⟨rfl,fun _ _=>rfl⟩ (fun hh=>by simp [hasRange] at hh)
         unfold Jm at h3
         cases hp:rec'.pending with
         | none=>rw [hp] at h3;exact fin _ _ h3
         | some c=>
          rw [hp] at h3
          cases c with
          | ret=>exact wpIn_ret (fin _ _ h3)
          | exit id=>exact wpIn_exit (fin _ _ (exJ_elim h3))
          | _=>exact h3.elim
        | panicked c=>exact he.elim
        | outgrown=>exact he.elim
      ·intro s J w' hl hrd
       refine ⟨_,hl,by rw [encR_len];exact sameT_len hsame,?_⟩
       refine roundIn_of_wpIn (F:=WF none) hfn ?_
       have hz:(ps.zip (encR (kinds lv) s).toArray)=(ps.toList.zip (encR (kinds lv) s)).toArray:=Array.toList_inj.1 (by simp)
       have hK:Knows (marks []) (ins lv s e) { tmps:=(ps.zip (encR (kinds lv) s).toArray).foldl (fun tmps (t,a)=>tmps.setIfInBounds t a) a.tmps,defers:=[] }:=by
        rw [hz]
        simp only [List.foldl_toArray']
        exact ins_knows hsame ⟨ha.size,rfl,ha.val⟩
       refine ihx (r:=some (w.heap.size + 1)) hrd hK (fun hh=>by rw [hna] at hh;cases hh) fun ex ds' e' a' w1 hk hk' hg hd=>?_
       cases ex with
       | normal=>
        obtain ⟨hl1,hk⟩:=hk
        have hds:=hd hna
        subst hds
        refine ⟨_,run_beginRound hl1 rfl,?_⟩
        refine ihy (r:=some (w.heap.size + 1)) hk hk' (fun hh=>by rw [hnb] at hh;cases hh) fun ex ds'' e'' a'' w2 hl2 hl2' hg' hd'=>?_
        cases ex with
        | normal=>exact ⟨_,_,run_endRound none hl2.1,(true,()),rfl,hl2.2⟩
        | ret=>exact ⟨_,_,run_endRound (some .ret) hl2.1,(false,()),rfl,hl2.2⟩
        | exit id=>exact ⟨_,_,run_endRound (some (.exit id)) hl2.1,(false,()),rfl,hl2.2⟩
        | goto l=>exact hl2.elim
        | panic ch=>exact hl2.elim
        | outgrown=>exact hl2.elim
       | exit id=>exact hk.elim
       | goto l=>exact hk.elim
       | ret=>exact hk.elim
       | panic ch=>exact hk.elim
       | outgrown=>exact hk.elim
     ·exact h.elim
    ·exact h.elim
   ·exact h.elim
  | _=>exact h.elim
def resV (P:Program):List ResultVar→Env→(List Value→Pr)→World→Prop
 | [],_,K,w=>K [] w
 | r :: rs,e,K,w=>match r with
  | .tmp t=>match e.get t with
   | some v=>resV P rs e (fun vs=>K (v :: vs)) w
   | none=>F w
  | .cell a ty=>match e.get a with
   | some v=>match v with
    | .pointer (some ad)=>LdD P ty ad (fun v=>resV P rs e (fun vs=>K (v :: vs))) w
    | _=>F w
   | none=>F w
def retK (tup:Bool) (rs:List RK) (R:TR rs→Pr) (vs:List Value) (w:World):Prop:=
 match tup with
 | true=>match decR rs vs with
  | some s=>R s w
  | none=>F w
 | false=>match vs with
  | [v]=>match decR rs [v] with
   | some s=>R s w
   | none=>F w
  | _=>F w
def Md:List Nat→Pr→Pr
 | [],K=>K
 | D :: ds,K=>fun w=>w.heap[D]?=some (.deferred (some []))∧Md ds K (w.putObj D (.deferred none))
def retQ (P:Program) (res:List ResultVar) (tup:Bool) (rs:List RK) (R:TR rs→Pr) (ex:Exit) (ds:List Nat) (e:Env):Pr:=
 match ex with
 | .normal=>Md ds (resV P res e (retK tup rs R))
 | .ret=>Md ds (resV P res e (retK tup rs R))
 | _=>F
def argAt:List Value→Nat→Option Value
 | [],_=>none
 | v :: r,t=>match t with
  | 0=>some v
  | t + 1=>argAt r t
def env0 (n:Nat) (args:List Value):Env:=⟨args.length + (n - args.length),argAt args⟩
def resOne (tmps:Array Value) (r:ResultVar):Sem Value:=
 match r with
 | .tmp t=>pure (tmps.getD t undef)
 | .cell a t=>do loadVar t (← asAddr (tmps.getD a undef))
theorem results_eq (fn:Func) (tmps:Array Value):results fn tmps=(do
  let vs ← fn.results.mapM (resOne tmps)
  pure (if h:vs.size=1 then vs[0] else .tuple vs)):=by
 unfold results
 congr 1
theorem resV_sound {ds:List Deferred} {P:Program}:∀ {l:List ResultVar} {e:Env} {a:Act} {K:List Value→Pr} {w:World},resV P l e K w→Knows ds e a →
  ∃ vs:List Value,vs.length=l.length∧(l.mapM (resOne a.tmps)).run P w=.ok vs w∧K vs w
 | [],e,a,K,w,h,ha=>⟨[],rfl,by simp,h⟩
 | r :: rs,e,a,K,w,h,ha=>by
  simp only [resV] at h
  split at h
  ·rename_i t
   split at h
   ·rename_i v hv
    obtain ⟨vs,hl,h1,h2⟩:=resV_sound h ha
    have hval:=ha.val t v hv
    refine ⟨v :: vs,by simp [hl],?_,h2⟩
    have h0:(resOne a.tmps (.tmp t)).run P w=.ok v w:=by simp [resOne,hval]
    simp only [List.mapM_cons,Sem.run_bind,h0,Result.andThen_ok,h1,Sem.run_pure]
   ·exact h.elim
  ·rename_i x ty
   split at h
   ·rename_i v hv
    split at h
    ·rename_i ad
     obtain ⟨v,hv1,h⟩:=LdD_sound h
     obtain ⟨vs,hl,h1,h2⟩:=resV_sound h ha
     have hval:=ha.val x _ hv
     have hgd:a.tmps.getD x undef=.pointer (some ad):=by simp [hval]
     refine ⟨v :: vs,by simp [hl],?_,h2⟩
     have h0:(resOne a.tmps (.cell x ty)).run P w=.ok v w:=by
      simp only [resOne,hgd,asAddr,Sem.run_bind,Sem.run_pure,Result.andThen_ok,hv1]
     simp only [List.mapM_cons,Sem.run_bind,h0,Result.andThen_ok,h1,Sem.run_pure]
    ·exact h.elim
   ·exact h.elim
theorem argAt_eq (l:List Value):∀ t,argAt l t=l[t]?:=by
 induction l with
 | nil=>intro t;rfl
 | cons u r ih=>intro t;cases t <;> simp [argAt,ih]
theorem env_get_append (l:List Value) (n:Nat) (t:Nat) (v:Value) (h:(env0 n l).get t=some v):l[t]?=some v:=by
 simp only [Env.get,env0] at h
 split at h
 ·rw [argAt_eq] at h
  exact h
 ·cases h
theorem knows_env0 (n:Nat) (args:List Value):Knows (marks []) (env0 n args) { tmps:=args.toArray ++ Array.replicate (n - args.toArray.size) undef,defers:=[] }:=by
 refine ⟨?_,rfl,fun t v h=>?_⟩
 ·simp [env0,Env.length]
 ·have h1:=env_get_append args _ t v h
  have hl:=(List.getElem?_eq_some_iff.1 h1).1
  rw [Array.getElem?_append_left (by simpa using hl)]
  simpa using h1
theorem call_of {P:Program} {f:FuncId} {fn:Func} {c:Code} {n:Nat} {args:List Value} {tup:Bool} {rs:List RK} {R:TR rs→Pr} {w:World} (hm:P.follows .mixedOrders=true) (ann:Ann) (hok:okFn P f=true) (hf:P.funcs[f]?=some fn) (hb:fn.body=some c) (hn:fn.ntmps=n)
  (hr:(match tup with | true=>Nat.beq fn.results.size 1=false | false=>fn.results.size=1))
  (h:den P ann c (retQ P fn.results.toList tup rs R) [] (env0 n args) w):Cl P f args tup rs R w:=by
 refine ⟨hok,callsIn_of_WF (r:=none) (callsIn_of_wp_marks (F:=WF none) (n:=0) hf hb trivial ?_)⟩
 subst hn
 refine den_sound hm ann h (knows_env0 _ _) (fun _=>rfl) fun ex ds' e' a' w' hq hk _ hdd=>?_
 have go:∀ {w':World},resV P fn.results.toList e' (retK tup rs R) w'→∃ v,(results fn a'.tmps).run P w'=.ok v w'∧∃ s,v=encRes tup rs s∧R s w':=by
  intro w' h
  obtain ⟨vs,hl,h1,h2⟩:=resV_sound h hk
  have hres:∀ v,(if hh:vs.length=1 then vs[0] else Value.tuple vs.toArray)=v→(results fn a'.tmps).run P w'=.ok v w':=by
   intro v hv
   rw [results_eq,Array.mapM_eq_mapM_toList]
   simp only [Sem.run_bind,Sem.run_map,h1,Result.andThen_ok,Sem.run_pure]
   rw [← hv]
   by_cases hh:vs.length=1 <;> simp [hh]
  cases tup with
  | true=>
   simp only [retK] at h2
   split at h2
   ·rename_i s hs
    refine ⟨_,hres (.tuple vs.toArray) ?_,s,?_,h2⟩
    ·rw [dif_neg]
     intro hh
     have:=Nat.ne_of_beq_eq_false hr
     rw [hl] at hh
     exact this (by simpa using hh)
    ·simp only [encRes,← decR_eq hs]
   ·exact h2.elim
  | false=>
   simp only [retK] at h2
   split at h2
   ·rename_i v
    split at h2
    ·rename_i s hs
     refine ⟨_,hres v (by simp),s,?_,h2⟩
     simp only [encRes,← decR_eq hs,List.headD_cons]
    ·exact h2.elim
   ·exact h2.elim
 have out:Md ds' (resV P fn.results.toList e' (retK tup rs R)) w'→LeavesInM (WF none) 0 P fn a'.tmps (fun | .returned v,w'=>∃ s,v=encRes tup rs s∧R s w' | _,_=>False) a'.defers .returning w':=by
  rw [hk.defers]
  clear hq hk hdd
  induction ds' generalizing w' with
  | nil=>intro h;exact go h
  | cons D ds ih=>
   rintro ⟨h1,h2⟩
   exact ⟨by simp,.inl ⟨D,_,rfl,run_takeDeferred h1,ih _ h2⟩⟩
 cases ex with
 | normal=>exact out hq
 | ret=>exact out hq
 | exit id=>exact hq.elim
 | goto l=>exact hq.elim
 | panic ch=>exact hq.elim
 | outgrown=>exact hq.elim
def Both (A B:Pr):Pr:=fun w=>A w∧B w
def zc (P:Program) (t:TypeId):Array Value:=match zeroOf P t with | some z=>z.cells | none=>#[]
abbrev w64 (x:Int):Int:=IntKind.i64.wrap x
def BA (l:List UInt8):ByteArray:=⟨l.toArray⟩
def iand (k:IntKind) (a b:Int):Int:=k.wrap ((BitVec.ofInt k.bits a) &&& (BitVec.ofInt k.bits b)).toNat
def ior (k:IntKind) (a b:Int):Int:=k.wrap ((BitVec.ofInt k.bits a) ||| (BitVec.ofInt k.bits b)).toNat
def ixor (k:IntKind) (a b:Int):Int:=k.wrap ((BitVec.ofInt k.bits a) ^^^ (BitVec.ofInt k.bits b)).toNat
def ishl (k:IntKind) (a b:Int):Int:=k.wrap (a * 2 ^ (min b.toNat k.bits))
def ishr (k:IntKind) (a b:Int):Int:=a.fdiv (2 ^ (min b.toNat k.bits))
end Go.Sx
set_option linter.unusedSimpArgs false
set_option linter.unusedVariables false
namespace Go.Sx
open Go
theorem hp_alloc_new (w:World) (o:Obj):(w.alloc o).heap[w.heap.size]?=some o:=by simp [World.alloc,-World.alloc_eq]
theorem hp_alloc_old (w:World) (o:Obj) {b:Nat} (h:b < w.heap.size):(w.alloc o).heap[b]?=w.heap[b]?:=by
 simp only [World.alloc]
 rw [Array.getElem?_push,if_neg (by omega)]
theorem size_setObjW (w:World) (r:Nat) (o:Obj):(setObjW w r o).heap.size=w.heap.size:=by simp [setObjW]
theorem hp_setObjW_same {w:World} {r:Nat} {o:Obj} (h:r < w.heap.size):(setObjW w r o).heap[r]?=some o:=by simp [setObjW,h]
theorem hp_setObjW_ne {w:World} {r b:Nat} {o:Obj} (h:b ≠ r):(setObjW w r o).heap[b]?=w.heap[b]?:=by
 simp only [setObjW]
 exact Array.getElem?_setIfInBounds_ne (Ne.symm h)
theorem hp_lt {w:World} {b:Nat} {o:Obj} (h:w.heap[b]?=some o):b < w.heap.size:=(Array.getElem?_eq_some_iff.1 h).1
theorem setCell_eq {w:World} {b i:Nat} {cs:Array Value} {t:TypeId} {fr:Nat × Nat} (h:w.heap[b]?=some (.cells cs t fr)) (v:Value):w.setCell ⟨b,i,none⟩ v=setObjW w b (.cells (cs.setIfInBounds i v) t fr):=by
 simp only [World.setCell,setObjW]
 congr 1
 apply Array.ext_getElem?
 intro j
 rw [Array.getElem?_modify,Array.getElem?_setIfInBounds]
 by_cases hj:b=j
 ·subst hj
  rw [if_pos rfl,if_pos rfl,h,if_pos (hp_lt h)]
  simp
 ·rw [if_neg hj,if_neg hj]
theorem setObjW_setObjW (w:World) (b:Nat) (o o':Obj):setObjW (setObjW w b o) b o'=setObjW w b o':=by
 simp [setObjW]
theorem setObjW_self {w:World} {b:Nat} {o:Obj} (h:w.heap[b]?=some o):setObjW w b o=w:=by
 have:w.heap.setIfInBounds b o=w.heap:=by
  apply Array.ext_getElem?
  intro j
  rw [Array.getElem?_setIfInBounds]
  by_cases hj:b=j
  ·subst hj;rw [if_pos rfl,if_pos (hp_lt h),h]
  ·rw [if_neg hj]
 simp [setObjW,this]
theorem cell_of {w:World} {b i:Nat} {cs:Array Value} {t:TypeId} {fr:Nat × Nat} (h:w.heap[b]?=some (.cells cs t fr)):w.cell? ⟨b,i,none⟩=cs[i]?:=by simp [World.cell?,h]
theorem frozen_of {w:World} {b i:Nat} {cs:Array Value} {t:TypeId} {fr:Nat × Nat} (h:w.heap[b]?=some (.cells cs t fr)):w.frozen? ⟨b,i,none⟩=(decide (fr.1≤i) && decide (i < fr.2)):=by
 obtain ⟨lo,hi⟩:=fr
 simp [World.frozen?,h]
theorem add_of (b i n:Nat):Addr.add ⟨b,i,none⟩ n=⟨b,i + n,none⟩:=by
 unfold Addr.add
 split
 ·rename_i h;subst h;rfl
 ·rfl
structure Keeps (m:List Nat) (w w':World):Prop where
 os:w'.os=w.os
 tape:w'.tape=w.tape
 output:w'.output=w.output
 size:w.heap.size≤w'.heap.size
 get:∀ k,k < w.heap.size→k ∉ m→w'.heap[k]?=w.heap[k]?
theorem Keeps.refl (m:List Nat) (w:World):Keeps m w w:=⟨rfl,rfl,rfl,Nat.le_refl _,fun _ _ _=>rfl⟩
theorem Keeps.trans {m m':List Nat} {a b c:World} (h:Keeps m a b) (k:Keeps m' b c) (hm:∀ x∈m',x∈m∨a.heap.size≤x):Keeps m a c:=
 ⟨k.os.trans h.os,k.tape.trans h.tape,k.output.trans h.output,Nat.le_trans h.size k.size,fun i hi hn=>by
  rw [k.get i (Nat.lt_of_lt_of_le hi h.size) (fun hh=>by rcases hm i hh with hh | hh;exact hn hh;omega)]
  exact h.get i hi hn⟩
theorem Keeps.mono {m m':List Nat} {w w':World} (h:Keeps m w w') (hm:∀ x∈m,x∈m'∨w.heap.size≤x):Keeps m' w w':=
 ⟨h.os,h.tape,h.output,h.size,fun k hk hn=>h.get k hk (fun hh=>by rcases hm k hh with hh | hh;exact hn hh;omega)⟩
theorem Keeps.alloc {m:List Nat} {a w:World} (h:Keeps m a w) (o:Obj):Keeps m a (w.alloc o):=
 ⟨h.os,h.tape,h.output,by rw [World.size_alloc];have:=h.size;omega,fun k hk hn=>by
  have:=h.size
  rw [hp_alloc_old w o (by omega)]
  exact h.get k hk hn⟩
theorem Keeps.drew {m:List Nat} {a w:World} (h:Keeps m a w):Keeps m a w.drew:=⟨h.os,h.tape,h.output,h.size,h.get⟩
theorem Keeps.setObjW {m:List Nat} {a w:World} (h:Keeps m a w) {b:Nat} (hb:b∈m∨a.heap.size≤b) (o:Obj):Keeps m a (setObjW w b o):=
 ⟨h.os,h.tape,h.output,by rw [size_setObjW];exact h.size,fun k hk hn=>by
  rw [hp_setObjW_ne (fun he=>by subst he;rcases hb with hb | hb;exact hn hb;omega)]
  exact h.get k hk hn⟩
theorem Keeps.at {m:List Nat} {w w':World} (h:Keeps m w w') {b:Nat} {o:Obj} (hb:w.heap[b]?=some o) (hn:b ∉ m):w'.heap[b]?=some o:=(h.get b (hp_lt hb) hn).trans hb
section
variable {w:World} {b i:Nat} {cs:Array Value} {t:TypeId} {fr:Nat × Nat} (h:w.heap[b]?=some (.cells cs t fr))
include h
theorem LdI_of {kd:IntKind} {x:Int} {K:Int→Pr} (hi:cs[i]?=some (.int kd x)) (k:K x w):LdI kd ⟨b,i,none⟩ K w:=⟨x,(cell_of h).trans hi,k⟩
theorem St_of {v:Value} {K:Pr} (h1:v.oneCell'=true) (hi:i < cs.size) (hf:(decide (fr.1≤i) && decide (i < fr.2))=false) (k:K (setObjW w b (.cells (cs.setIfInBounds i v) t fr))):St ⟨b,i,none⟩ v K w:=by
 refine ⟨h1,⟨cs[i],(cell_of h).trans (by simp [hi])⟩,(frozen_of h).trans hf,?_⟩
 rw [setCell_eq h]
 exact k
end
def rblk (s:Sl):List Nat:=match s.p with | some a=>[a.block] | none=>[]
def blk (s:Sl):List Nat:=match s.cap with | 0=>[] | _ + 1=>rblk s
theorem blk_zero {s:Sl} (h:s.cap=0):blk s=[]:=by unfold blk;rw [h]
theorem blk_pos {s:Sl} {b o:Nat} (h:s.cap ≠ 0) (hp:s.p=some ⟨b,o,none⟩):blk s=[b]:=by
 unfold blk rblk
 rw [hp]
 cases hc:s.cap with
 | zero=>exact absurd hc h
 | succ n=>rfl
theorem blk_sub {s:Sl} {b o:Nat} (hp:s.p=some ⟨b,o,none⟩):∀ x∈blk s,x=b:=by
 intro x hx
 by_cases h:s.cap=0
 ·rw [blk_zero h] at hx;cases hx
 ·rw [blk_pos h hp] at hx;simpa using hx
theorem blk_rblk (s:Sl):∀ x∈blk s,x∈rblk s:=by
 intro x hx
 unfold blk at hx
 split at hx
 ·cases hx
 ·exact hx
structure SlC (w:World) (s:Sl) (size:Nat) (cs:List Value):Prop where
 len:cs.length=s.len * size
 cap:s.len≤s.cap
 row:s.cap=0∨∃ (b o:Nat) (all:Array Value) (t:TypeId) (fr:Nat × Nat),s.p=some ⟨b,o,none⟩∧w.heap[b]?=some (.cells all t fr)∧o + s.cap * size≤all.size ∧
  (∀ j,j < cs.length→all[o + j]?=cs[j]?)∧(∀ j,j < s.cap * size→(decide (fr.1≤o + j) && decide (o + j < fr.2))=false)
theorem SlC.keeps {w w':World} {s:Sl} {size:Nat} {cs:List Value} {m:List Nat} (h:SlC w s size cs) (hk:Keeps m w w') (hd:∀ x∈blk s,x ∉ m):SlC w' s size cs:=by
 refine ⟨h.len,h.cap,?_⟩
 rcases h.row with h1 | ⟨b,o,all,t,fr,hp,hb,h1,h2,h3⟩
 ·exact .inl h1
 ·by_cases hc:s.cap=0
  ·exact .inl hc
  ·exact .inr ⟨b,o,all,t,fr,hp,hk.at hb (hd b (by simp [blk_pos hc hp])),h1,h2,h3⟩
theorem SlC.lt {w:World} {s:Sl} {size:Nat} {cs:List Value} (h:SlC w s size cs):∀ x∈blk s,x < w.heap.size:=by
 intro x hx
 rcases h.row with h1 | ⟨b,o,all,t,fr,hp,hb,_⟩
 ·rw [blk_zero h1] at hx;cases hx
 ·rw [blk_sub hp x hx]
  exact hp_lt hb
theorem SlC.nil (w:World) (size:Nat):SlC w ⟨none,0,0⟩ size []:=⟨by simp,Nat.le_refl _,.inl rfl⟩
theorem SlC.rdc {w:World} {s:Sl} {size:Nat} {cs:List Value} (h:SlC w s size cs):RdC s.p (s.len * size) cs w:=by
 refine ⟨h.len,fun j v hj=>?_⟩
 have hlt:=(List.getElem?_eq_some_iff.1 hj).1
 rcases h.row with h2 | ⟨b,o,all,t,fr,hp,hb,h1,h2,h3⟩
 ·have hl:=h.len
  have hc:=h.cap
  have h0:s.len=0:=by omega
  rw [h0,Nat.zero_mul] at hl
  omega
 ·refine ⟨_,hp,?_⟩
  rw [add_of,cell_of hb,h2 j hlt,hj]
def setA (all:Array Value) (o:Nat):List Value→Array Value
 | []=>all
 | v :: vs=>setA (all.setIfInBounds o v) (o + 1) vs
theorem setA_size (vs:List Value):∀ (all:Array Value) (o:Nat),(setA all o vs).size=all.size:=by
 induction vs with
 | nil=>intro all o;rfl
 | cons v vs ih=>intro all o;rw [setA,ih];simp
theorem setA_get (vs:List Value):∀ (all:Array Value) (o j:Nat),o + vs.length≤all.size→(setA all o vs)[j]?=if o≤j∧j < o + vs.length then vs[j - o]? else all[j]?:=by
 induction vs with
 | nil=>intro all o j h;rw [setA,if_neg (by simp)]
 | cons v vs ih=>
  intro all o j h
  simp only [List.length_cons] at h
  rw [setA,ih _ _ _ (by simp;omega)]
  by_cases h1:o=j
  ·subst h1
   rw [if_neg (by omega),if_pos (by simp),Array.getElem?_setIfInBounds_self,if_pos (by omega)]
   simp
  ·rw [Array.getElem?_setIfInBounds_ne h1]
   by_cases h2:o + 1≤j∧j < o + 1 + vs.length
   ·rw [if_pos h2,if_pos (by simp;omega),show j - o=(j - (o + 1)) + 1 from by omega]
    simp
   ·rw [if_neg h2,if_neg (by simp;omega)]
theorem StR_of {b o:Nat} {t:TypeId} {fr:Nat × Nat} {K:Pr}:∀ {vs:List Value} {i:Nat} {all:Array Value} {w:World},w.heap[b]?=some (.cells all t fr)→o + i + vs.length≤all.size→(∀ v∈vs,v.oneCell'=true) →
  (∀ j,i≤j→j < i + vs.length→(decide (fr.1≤o + j) && decide (o + j < fr.2))=false)→K (setObjW w b (.cells (setA all (o + i) vs) t fr))→StR vs ⟨b,o,none⟩ i K w
 | [],i,all,w,h,hr,h1,hf,k=>by
  rw [setA,setObjW_self h] at k
  exact k
 | v :: vs,i,all,w,h,hr,h1,hf,k=>by
  simp only [List.length_cons] at hr hf
  simp only [StR]
  rw [add_of]
  refine St_of h (h1 v List.mem_cons_self) (by omega) (hf i (Nat.le_refl _) (by omega)) ?_
  refine StR_of (all:=all.setIfInBounds (o + i) v) (hp_setObjW_same (hp_lt h)) (by simp;omega) (fun u hu=>h1 u (List.mem_cons_of_mem _ hu)) (fun j hj hj'=>hf j (by omega) (by omega)) ?_
  rw [setObjW_setObjW]
  rw [setA] at k
  exact k
theorem zeroCells_eq (z:Array Value) (n:Nat):Builtin.zeroCells z n=(zerosL z.toList n).toArray:=zeros_eq z n
theorem App_of {e size bytes:Nat} {z:Array Value} {s:Sl} {m:Nat} {src:List Value→World→Prop} {K:Sl→Pr} {w:World} {cs new:List Value} (hs:SlC w s size cs) (hn:src new w) (hl:new.length=m * size)
  (h1:∀ v∈new,v.oneCell'=true) (hz:z.size=size) (h47:(s.len + m) * bytes≤140737488355328) (h63:s.len + m≤9223372036854775807)
  (k:∀ (r:Sl) (w':World),SlC w' r size (cs ++ new)→r.len=s.len + m→Keeps (blk s) w w'→(∀ x∈blk r,x∈blk s∨w.heap.size≤x)→K r w'):App e size bytes z s m src K w:=by
 refine ⟨new,hn,?_⟩
 have hlen:=hs.len
 split
 ·rename_i hc
  by_cases hc0:s.cap=0
  ·have hm:m=0:=by have:=hs.cap;omega
   have hnn:new=[]:=by
    subst hm
    simpa using hl
   subst hnn
   have hb0:∀ p:Option Addr,blk ⟨p,s.len + m,s.cap⟩=[]:=fun p=>blk_zero hc0
   have hS:∀ p:Option Addr,SlC w ⟨p,s.len + m,s.cap⟩ size (cs ++ []):=fun p=>⟨by simp [hlen,hm],by simpa using hc,.inl hc0⟩
   cases hp:s.p with
   | none=>exact k _ w (hS _) rfl (Keeps.refl _ _) (by rw [hb0];simp)
   | some a=>exact k _ w (hS _) rfl (Keeps.refl _ _) (by rw [hb0];simp)
  rcases hs.row with h0 | ⟨b,o,all,t,fr,hp,hb,h2,h3,h4⟩
  ·exact absurd h0 hc0
  ·rw [hp]
   simp only
   rw [add_of]
   have hcap:(s.len + m) * size≤s.cap * size:=Nat.mul_le_mul_right _ hc
   rw [Nat.add_mul] at hcap
   refine StR_of hb (by omega) h1 (fun j _ hj=>by rw [Nat.add_assoc];exact h4 _ (by omega)) ?_
   have hbl:b < w.heap.size:=hp_lt hb
   refine k _ _ ⟨by simp [hlen,hl,Nat.add_mul],by simpa using hc,.inr ⟨b,o,setA all (o + s.len * size) new,t,fr,rfl,?_,by rw [setA_size];exact h2,?_,h4⟩⟩ rfl ((Keeps.refl _ _).setObjW (.inl (by simp [blk_pos hc0 hp])) _) ?_
   ·rw [Nat.add_zero];exact hp_setObjW_same hbl
   ·intro j hj
    rw [List.length_append] at hj
    rw [setA_get _ _ _ _ (by omega)]
    by_cases hj2:j < cs.length
    ·rw [if_neg (by omega),h3 j hj2,List.getElem?_append_left hj2]
    ·rw [if_pos (by omega),List.getElem?_append_right (by omega),hlen]
     congr 1
     omega
   ·intro x hx
    left
    rw [blk_pos hc0 hp,blk_sub rfl x hx]
    exact List.mem_singleton.2 rfl
 ·rename_i hc
  refine ⟨h47,by omega,cs,hs.rdc,fun c hcc=>?_⟩
  have hsz:((cs ++ new).toArray ++ Builtin.zeroCells z (c - (s.len + m))).size=c * size:=by
   rw [zeroCells_eq,Array.size_append,List.size_toArray,List.size_toArray,List.length_append,zerosL_length,hlen,hl]
   simp only [Array.length_toList,hz]
   rw [← Nat.add_mul,← Nat.add_mul]
   congr 1
   omega
  refine k _ _ ⟨by simp [hlen,hl,Nat.add_mul],by simpa using hcc,.inr ⟨w.heap.size,0,_,e,(0,0),rfl,hp_alloc_new w.drew _,by rw [hsz];simp,?_,?_⟩⟩ rfl ((Keeps.refl _ _).drew.alloc _) ?_
  ·intro j hj
   rw [Nat.zero_add,Array.getElem?_append_left (by simpa using hj)]
   simp
  ·intro j _
   simp
  ·intro x hx
   right
   rw [blk_sub rfl x hx]
   exact Nat.le_refl _
end Go.Sx
set_option linter.unusedSimpArgs false
set_option linter.unusedVariables false
namespace Go.Sx
open Go
def asI (k:IntKind) (K:Int→Pr) (v:Option Value) (w:World):Prop:=match v with | some (.int k' x)=>k'=k∧K x w | _=>False
def asB (K:Bool→Pr) (v:Option Value) (w:World):Prop:=match v with | some (.bool x)=>K x w | _=>False
def asS (K:ByteArray→Pr) (v:Option Value) (w:World):Prop:=match v with | some (.string x)=>K x w | _=>False
def asP (K:Option Addr→Pr) (v:Option Value) (w:World):Prop:=match v with | some (.pointer x)=>K x w | _=>False
def asL (K:Sl→Pr) (v:Option Value) (w:World):Prop:=match v with | some (.slice p l c)=>K ⟨p,l,c⟩ w | _=>False
def asM (K:Option Nat→Pr) (v:Option Value) (w:World):Prop:=match v with | some (.map x)=>K x w | _=>False
def asV (K:Value→Pr) (v:Option Value) (w:World):Prop:=match v with | some x=>K x w | _=>False
def cellO (o:Option Obj) (i:Nat):Option Value:=match o with | some (.cells cs _ _)=>cs[i]? | _=>none
theorem cell_cellO (w:World) (b i:Nat):w.cell? ⟨b,i,none⟩=cellO w.heap[b]? i:=by
 unfold World.cell? cellO
 cases w.heap[b]? with
 | none=>rfl
 | some o=>cases o <;> rfl
theorem LdI_c (k:IntKind) (b i:Nat) (K:Int→Pr) (w:World):LdI k ⟨b,i,none⟩ K w=asI k K (cellO w.heap[b]? i) w:=by
 simp only [LdI,cell_cellO,asI]
 apply propext
 cases cellO w.heap[b]? i with
 | none=>simp
 | some v=>cases v <;> simp;exact ⟨fun ⟨x,⟨h1,h2⟩,h⟩=>⟨h1,h2 ▸ h⟩,fun ⟨h1,h⟩=>⟨_,⟨h1,rfl⟩,h⟩⟩
theorem LdB_c (b i:Nat) (K:Bool→Pr) (w:World):LdB ⟨b,i,none⟩ K w=asB K (cellO w.heap[b]? i) w:=by
 simp only [LdB,cell_cellO,asB]
 apply propext
 cases cellO w.heap[b]? i with
 | none=>simp
 | some v=>cases v <;> simp
theorem LdS_c (b i:Nat) (K:ByteArray→Pr) (w:World):LdS ⟨b,i,none⟩ K w=asS K (cellO w.heap[b]? i) w:=by
 simp only [LdS,cell_cellO,asS]
 apply propext
 cases cellO w.heap[b]? i with
 | none=>simp
 | some v=>cases v <;> simp
theorem LdP_c (b i:Nat) (K:Option Addr→Pr) (w:World):LdP ⟨b,i,none⟩ K w=asP K (cellO w.heap[b]? i) w:=by
 simp only [LdP,cell_cellO,asP]
 apply propext
 cases cellO w.heap[b]? i with
 | none=>simp
 | some v=>cases v <;> simp
theorem LdM_c (b i:Nat) (K:Option Nat→Pr) (w:World):LdM ⟨b,i,none⟩ K w=asM K (cellO w.heap[b]? i) w:=by
 simp only [LdM,cell_cellO,asM]
 apply propext
 cases cellO w.heap[b]? i with
 | none=>simp
 | some v=>cases v <;> simp
theorem LdV_c (b i:Nat) (K:Value→Pr) (w:World):LdV ⟨b,i,none⟩ K w=asV K (cellO w.heap[b]? i) w:=by
 simp only [LdV,cell_cellO,asV]
 apply propext
 cases cellO w.heap[b]? i with
 | none=>simp
 | some v=>simp
theorem LdL_c (b i:Nat) (K:Sl→Pr) (w:World):LdL ⟨b,i,none⟩ K w=asL K (cellO w.heap[b]? i) w:=by
 simp only [LdL,cell_cellO,asL]
 apply propext
 cases cellO w.heap[b]? i with
 | none=>simp
 | some v=>
  cases v <;> simp
  exact ⟨fun ⟨x,⟨h1,h2,h3⟩,h⟩=>by subst h1 h2 h3;exact h,fun h=>⟨_,⟨rfl,rfl,rfl⟩,h⟩⟩
def frz (fr:Nat × Nat) (i:Nat):Bool:=decide (fr.1≤i) && decide (i < fr.2)
def stO (i:Nat) (v:Value) (K:Obj→Prop) (o:Option Obj):Prop:=match o with
 | some (.cells cs t fr)=>v.oneCell'=true∧i < cs.size∧frz fr i=false∧K (.cells (cs.setIfInBounds i v) t fr)
 | _=>False
theorem St_c (b i:Nat) (v:Value) (K:Pr) (w:World):St ⟨b,i,none⟩ v K w=stO i v (fun o=>K (setObjW w b o)) w.heap[b]?:=by
 apply propext
 unfold St stO
 cases hb:w.heap[b]? with
 | none=>simp [World.cell?,hb]
 | some o=>
  cases o with
  | cells cs t fr=>
   rw [frozen_of hb,cell_of hb,setCell_eq hb]
   simp only
   constructor
   ·rintro ⟨h1,⟨x,hx⟩,h2,h3⟩
    exact ⟨h1,(Array.getElem?_eq_some_iff.1 hx).1,h2,h3⟩
   ·rintro ⟨h1,h2,h3,h4⟩
    exact ⟨h1,⟨_,by simp [h2];rfl⟩,h3,h4⟩
  | _=>simp [World.cell?,hb]
theorem sx :
  (∀ (cs:Array Value) (t:TypeId) (K:Addr→Pr) (w:World),New cs t K w=K ⟨w.heap.size,0,none⟩ (w.alloc (.cells cs t))) ∧
  (∀ (o:Obj) (K:Nat→Pr) (w:World),NewObj o K w=K w.heap.size (w.alloc o)) ∧
  (∀ (K:Pr) (w:World),Dr K w=K w.drew) ∧
  (∀ (A B:Pr) (w:World),Both A B w=(A w∧B w)) ∧
  (∀ (p:Prop) (K:Pr) (w:World),Req p K w=(p∧K w)) ∧
  (∀ (a:Addr) (K:Addr→Pr),Nn (some a) K=K a) ∧
  (∀ (T E:Pr) (w:World),Br true T E w=T w) ∧
  (∀ (T E:Pr) (w:World),Br false T E w=E w) ∧
  (∀ (b i n:Nat),Addr.add ⟨b,i,none⟩ n=⟨b,i + n,none⟩) ∧
  (∀ (k:IntKind) (b i:Nat) (K:Int→Pr) (w:World),LdI k ⟨b,i,none⟩ K w=asI k K (cellO w.heap[b]? i) w) ∧
  (∀ (b i:Nat) (K:Bool→Pr) (w:World),LdB ⟨b,i,none⟩ K w=asB K (cellO w.heap[b]? i) w) ∧
  (∀ (b i:Nat) (K:ByteArray→Pr) (w:World),LdS ⟨b,i,none⟩ K w=asS K (cellO w.heap[b]? i) w) ∧
  (∀ (b i:Nat) (K:Option Addr→Pr) (w:World),LdP ⟨b,i,none⟩ K w=asP K (cellO w.heap[b]? i) w) ∧
  (∀ (b i:Nat) (K:Option Nat→Pr) (w:World),LdM ⟨b,i,none⟩ K w=asM K (cellO w.heap[b]? i) w) ∧
  (∀ (b i:Nat) (K:Value→Pr) (w:World),LdV ⟨b,i,none⟩ K w=asV K (cellO w.heap[b]? i) w) ∧
  (∀ (b i:Nat) (K:Sl→Pr) (w:World),LdL ⟨b,i,none⟩ K w=asL K (cellO w.heap[b]? i) w) ∧
  (∀ (b i:Nat) (v:Value) (K:Pr) (w:World),St ⟨b,i,none⟩ v K w=stO i v (fun o=>K (setObjW w b o)) w.heap[b]?) ∧
  (∀ (k:IntKind) (K:Int→Pr) (x:Int) (w:World),asI k K (some (.int k x)) w=K x w) ∧
  (∀ (K:Bool→Pr) (x:Bool) (w:World),asB K (some (.bool x)) w=K x w) ∧
  (∀ (K:ByteArray→Pr) (x:ByteArray) (w:World),asS K (some (.string x)) w=K x w) ∧
  (∀ (K:Option Addr→Pr) (x:Option Addr) (w:World),asP K (some (.pointer x)) w=K x w) ∧
  (∀ (K:Option Nat→Pr) (x:Option Nat) (w:World),asM K (some (.map x)) w=K x w) ∧
  (∀ (K:Value→Pr) (x:Value) (w:World),asV K (some x) w=K x w) ∧
  (∀ (K:Sl→Pr) (p:Option Addr) (l c:Nat) (w:World),asL K (some (.slice p l c)) w=K ⟨p,l,c⟩ w) ∧
  (∀ (cs:Array Value) (t:TypeId) (fr:Nat × Nat) (i:Nat),cellO (some (.cells cs t fr)) i=cs[i]?) ∧
  (∀ (i:Nat) (v:Value) (K:Obj→Prop) (cs:Array Value) (t:TypeId) (fr:Nat × Nat),stO i v K (some (.cells cs t fr)) =
   (v.oneCell'=true∧i < cs.size∧frz fr i=false∧K (.cells (cs.setIfInBounds i v) t fr))) ∧
  (∀ (w:World) (o:Obj),(w.alloc o).heap[w.heap.size]?=some o) ∧
  (∀ (w:World),w.drew.heap=w.heap) ∧
  (∀ (w:World) (o:Obj),(w.alloc o).heap.size=w.heap.size + 1) ∧
  (∀ (w:World) (r:Nat) (o:Obj),(setObjW w r o).heap.size=w.heap.size) ∧
  (∀ (w:World) (r:Nat) (o o':Obj),setObjW (setObjW w r o) r o'=setObjW w r o') ∧
  (∀ (s:Sl),(⟨s.p,s.len,s.cap⟩:Sl)=s):=
 ⟨fun _ _ _ _=>rfl,fun _ _ _=>rfl,fun _ _=>rfl,fun _ _ _=>rfl,fun _ _ _=>rfl,fun _ _=>rfl,fun _ _ _=>rfl,fun _ _ _=>rfl,add_of,LdI_c,LdB_c,LdS_c,LdP_c,LdM_c,LdV_c,LdL_c,St_c,
  fun k K x w=>by simp [asI],fun _ _ _=>rfl,fun _ _ _=>rfl,fun _ _ _=>rfl,fun _ _ _=>rfl,fun _ _ _=>rfl,fun _ _ _ _ _=>rfl,fun _ _ _ _=>rfl,fun _ _ _ _ _ _=>rfl,hp_alloc_new,fun _=>rfl,World.size_alloc,size_setObjW,setObjW_setObjW,fun _=>rfl⟩
theorem sxl :
  (∀ (l:List Value) (i:Nat),l.toArray[i]?=l[i]?) ∧
  (∀ (l:List Value),l.toArray.size=l.length) ∧
  (∀ (l:List Value) (i:Nat) (v:Value),l.toArray.setIfInBounds i v=(l.set i v).toArray) ∧
  (∀ (v:Value) (l:List Value),(v :: l)[0]?=some v) ∧
  (∀ (v:Value) (l:List Value) (i:Nat),(v :: l)[i + 1]?=l[i]?) ∧
  (∀ (v u:Value) (l:List Value),(v :: l).set 0 u=u :: l) ∧
  (∀ (v u:Value) (l:List Value) (i:Nat),(v :: l).set (i + 1) u=v :: l.set i u) ∧
  (∀ (v:Value) (l:List Value),(v :: l).length=l.length + 1) ∧
  (([]:List Value).length=0) ∧
  (∀ (b:Bool),(Value.bool b).oneCell'=true)∧(∀ (k:IntKind) (n:Int),(Value.int k n).oneCell'=true)∧(∀ (s:ByteArray),(Value.string s).oneCell'=true) ∧
  (∀ (p:Option Addr),(Value.pointer p).oneCell'=true)∧(∀ (p:Option Addr) (l c:Nat),(Value.slice p l c).oneCell'=true)∧(∀ (m:Option Nat),(Value.map m).oneCell'=true) ∧
  (∀ (f:Fn) (a c:Array Value),(Value.func f a c).oneCell'=true)∧(∀ (t:TypeId) (v:Value),(Value.iface t v).oneCell'=true)∧(Value.nilIface.oneCell'=true)∧(Value.nilFunc.oneCell'=true) ∧
  (∀ i:Nat,(frz (0,0) i=false)=True):=
 ⟨fun _ _=>by simp,fun _=>by simp,fun _ _ _=>by simp,fun _ _=>rfl,fun _ _ _=>by simp,fun _ _ _=>rfl,fun _ _ _ _=>rfl,fun _ _=>rfl,rfl,fun _=>rfl,fun _ _=>rfl,fun _=>rfl,fun _=>rfl,fun _ _ _=>rfl,fun _=>rfl,
  fun _ _ _=>rfl,fun _ _=>rfl,rfl,rfl,fun i=>by simp [frz]⟩
theorem Jp_of {σ:Type} {J:σ→Pr} {A:(σ→Pr)→Pr} {w:World} (Φ:σ→World→Prop) (hA:∀ J':σ→Pr,(∀ s w',Φ s w'→J' s w')→A J' w) (hJ:∀ s w',Φ s w'→J s w'):Jp J A w:=hA J hJ
theorem Br_of {c:Bool} {T E:Pr} {w:World} (h1:c=true→T w) (h2:c=false→E w):Br c T E w:=by
 cases c
 ·exact h2 rfl
 ·exact h1 rfl
end Go.Sx
set_option linter.unusedSimpArgs false
set_option linter.unusedVariables false
namespace Go.Sx
open Go
def cB (bs:List UInt8):List Value:=bs.map fun b=>.int .u8 (b.toNat:Int)
theorem cB_length (bs:List UInt8):(cB bs).length=bs.length:=by simp [cB]
theorem cB_one (bs:List UInt8):∀ v∈cB bs,v.oneCell'=true:=by simp [cB,Value.oneCell']
theorem rdb_of_rdc {s:Sl} {bs:List UInt8} {w:World} (h:RdC s.p s.len (cB bs) w):RdB s bs w:=by
 refine ⟨by have:=h.1;simpa [cB] using this,fun j b hj=>?_⟩
 exact h.2 j _ (by simp [cB,hj])
theorem rdc_keeps {p:Option Addr} {n:Nat} {cs:List Value} {w w':World} {m:List Nat} (h:RdC p n cs w) (hk:Keeps m w w') (hd:∀ a,p=some a→a.block ∉ m):RdC p n cs w':=by
 refine ⟨h.1,fun j v hj=>?_⟩
 obtain ⟨a,ha,hc⟩:=h.2 j v hj
 refine ⟨a,ha,?_⟩
 have hb:(a.add j).block=a.block:=by unfold Addr.add;split <;> rfl
 have hlt:a.block < w.heap.size:=by
  rcases Nat.lt_or_ge a.block w.heap.size with h' | h'
  ·exact h'
  ·simp [World.cell?,hb,Array.getElem?_eq_none h'] at hc
 simp only [World.cell?,hb] at hc ⊢
 rw [hk.get _ hlt (hd a ha)]
 exact hc
theorem SlC.rdb {w:World} {s:Sl} {bs:List UInt8} (h:SlC w s 1 (cB bs)):RdB s bs w:=by
 refine rdb_of_rdc ?_
 have:=h.rdc
 rwa [Nat.mul_one] at this
theorem SlC.base {w:World} {s:Sl} {size:Nat} {cs:List Value} (h:SlC w s size cs) (hp:0 < s.len):∃ b o,s.p=some ⟨b,o,none⟩∧blk s=[b]:=by
 rcases h.row with hc | ⟨b,o,all,t,fr,hp,_⟩
 ·have:=h.cap;omega
 ·exact ⟨b,o,hp,blk_pos (by have:=h.cap;omega) hp⟩
theorem Ix_base {s:Sl} {b o:Nat} (hp:s.p=some ⟨b,o,none⟩) {i:Int} (h0:0≤i) (h1:i < s.len) (size:Nat) (K:Addr→Pr) (w:World):Ix s i size K w=K ⟨b,o + i.toNat * size,none⟩ w:=by
 unfold Ix
 rw [hp]
 simp only [add_of,h0,h1,true_and]
theorem SlC.read {w : World} {s : Sl} {size : Nat} {cs : List Value} (h : SlC w s size cs) {b o : Nat} (hp : s.p = some ⟨b, o, none⟩) {j : Nat} (hj : j < cs.length) : cellO w.heap[b]? (o + j) = cs[j]? := by
  rcases h.row with hc | ⟨b', o', all, t, fr, hp', hb, h1, h2, h3⟩
  · exact absurd hj (by have := h.len; have hc' := h.cap; have : s.len = 0 := by omega
                        simp_all)
  · rw [hp, Option.some.injEq, Addr.mk.injEq] at hp'
    obtain ⟨rfl, rfl, _⟩ := hp'
    rw [hb]
    exact h2 j hj
theorem SlC.write {w : World} {s : Sl} {size : Nat} {cs : List Value} (h : SlC w s size cs) {b o : Nat} (hp : s.p = some ⟨b, o, none⟩) {j : Nat} (hj : j < cs.length) {v : Value} (hv : v.oneCell' = true) {K : Pr}
    (k : ∀ w', SlC w' s size (cs.set j v) → Keeps [b] w w' → K w') : St ⟨b, o + j, none⟩ v K w := by
  rcases h.row with hc | ⟨b', o', all, t, fr, hp', hb, h1, h2, h3⟩
  · exact absurd hj (by have := h.len; have hc' := h.cap; have : s.len = 0 := by omega
                        simp_all)
  · rw [hp, Option.some.injEq, Addr.mk.injEq] at hp'
    obtain ⟨rfl, rfl, _⟩ := hp'
    have hl := h.len
    have hcap : s.len * size ≤ s.cap * size := Nat.mul_le_mul_right _ h.cap
    refine St_of hb hv (by omega) (h3 j (by omega)) (k _ ⟨by simpa using hl, h.cap, .inr ⟨b, o, _, t, fr, hp, hp_setObjW_same (hp_lt hb), by simpa using h1, fun i hi => ?_, h3⟩⟩ ((Keeps.refl _ _).setObjW (.inl (by simp)) _))
    rw [List.length_set] at hi
    by_cases hij : j = i
    · subst hij
      rw [Array.getElem?_setIfInBounds_self, if_pos (by omega)]
      simp [hj]
    · rw [Array.getElem?_setIfInBounds_ne (by omega), h2 i hi, List.getElem?_set_ne hij]
def setL (cs:List Value) (k:Nat) (vs:List Value):List Value:=cs.take k ++ vs ++ cs.drop (k + vs.length)
theorem setL_length {cs vs:List Value} {k:Nat} (h:k + vs.length≤cs.length):(setL cs k vs).length=cs.length:=by
 simp [setL];omega
theorem setL_get {cs vs:List Value} {k:Nat} (h:k + vs.length≤cs.length) (j:Nat):(setL cs k vs)[j]?=if k≤j∧j < k + vs.length then vs[j - k]? else cs[j]?:=by
 unfold setL
 have hk:(cs.take k).length=k:=by simp;omega
 by_cases h1:j < k
 ·rw [if_neg (by omega),List.append_assoc,List.getElem?_append_left (by omega),List.getElem?_take,if_pos h1]
 ·by_cases h2:j < k + vs.length
  ·rw [if_pos (by omega),List.append_assoc,List.getElem?_append_right (by omega),hk,List.getElem?_append_left (by omega)]
  ·rw [if_neg (by omega),List.getElem?_append_right (by simp;omega),List.getElem?_drop]
   congr 1
   simp
   omega
theorem SlC.writes {w:World} {s:Sl} {size:Nat} {cs:List Value} (h:SlC w s size cs) {b o:Nat} (hp:s.p=some ⟨b,o,none⟩) {k:Nat} {vs:List Value} (hj:k + vs.length≤cs.length) (hv:∀ v∈vs,v.oneCell'=true) {K:Pr}
  (kk:∀ w',SlC w' s size (setL cs k vs)→Keeps [b] w w'→K w'):StR vs ⟨b,o + k,none⟩ 0 K w:=by
 rcases h.row with hc | ⟨b',o',all,t,fr,hp',hb,h1,h2,h3⟩
 ·have hl:=h.len
  have hc':=h.cap
  have h0:s.len=0:=by omega
  rw [h0,Nat.zero_mul] at hl
  have hv0:vs=[]:=List.eq_nil_of_length_eq_zero (by omega)
  subst hv0
  have hcs:cs=[]:=List.eq_nil_of_length_eq_zero hl
  subst hcs
  exact kk w (by simpa [setL] using h) (Keeps.refl _ _)
 ·rw [hp,Option.some.injEq,Addr.mk.injEq] at hp'
  obtain ⟨rfl,rfl,_⟩:=hp'
  have hl:=h.len
  have hcap:s.len * size≤s.cap * size:=Nat.mul_le_mul_right _ h.cap
  refine StR_of hb (by omega) hv (fun j _ hj'=>by rw [Nat.add_assoc];exact h3 _ (by omega)) (kk _ ⟨by rw [setL_length hj];exact hl,h.cap,.inr ⟨b,o,_,t,fr,hp,hp_setObjW_same (hp_lt hb),by rw [setA_size];exact h1,fun i hi=>?_,h3⟩⟩ ((Keeps.refl _ _).setObjW (.inl (by simp)) _))
  rw [setL_length hj] at hi
  rw [setA_get _ _ _ _ (by omega),setL_get hj]
  by_cases hc:k≤i∧i < k + vs.length
  ·rw [if_pos (by omega),if_pos hc]
   congr 1
   omega
  ·rw [if_neg (by omega),if_neg hc,h2 i hi]
theorem rblk_slOff (s:Sl) (l size n c:Nat):rblk ⟨slOff s.p s.cap l size,n,c⟩=rblk s:=by
 unfold rblk slOff
 cases hp:s.p with
 | none=>simp
 | some a=>
  have hadd:(a.add (l * size)).block=a.block:=by unfold Addr.add;split <;> rfl
  by_cases hc:s.cap=l
  ·simp only [if_pos hc]
  ·simp only [if_neg hc,Option.map_some,hadd]
theorem blk_slOff (s:Sl) (l size n c:Nat) (hc:c≤s.cap):∀ x∈blk ⟨slOff s.p s.cap l size,n,c⟩,x∈blk s:=by
 intro x hx
 have h1:=blk_rblk _ x hx
 rw [rblk_slOff] at h1
 unfold blk at hx ⊢
 cases hc':c with
 | zero=>subst hc';cases hx
 | succ k=>
  cases hs:s.cap with
  | zero=>omega
  | succ n=>exact h1
theorem SlC.sub {w:World} {s:Sl} {size:Nat} {cs:List Value} (h:SlC w s size cs) {lo hi:Nat} (h1:lo≤hi) (h2:hi≤s.len):SlC w ⟨slOff s.p s.cap lo size,hi - lo,s.cap - lo⟩ size ((cs.drop (lo * size)).take ((hi - lo) * size)):=by
 have hl:=h.len
 have hc:=h.cap
 have e1:(hi - lo) * size + lo * size=hi * size:=by rw [← Nat.add_mul];congr 1;omega
 have e2:hi * size≤s.len * size:=Nat.mul_le_mul_right _ h2
 have hlen:((cs.drop (lo * size)).take ((hi - lo) * size)).length=(hi - lo) * size:=by
  simp;omega
 refine ⟨hlen,by simp only;omega,?_⟩
 rcases h.row with h0 | ⟨b,o,all,t,fr,hp,hb,h3,h4,h5⟩
 ·exact .inl (by simp only;omega)
 ·by_cases hz:s.cap=lo
  ·
   refine .inr ⟨b,o,all,t,fr,?_,hb,?_,?_,?_⟩
   ·simp [slOff,hz,hp]
   ·simp only [hz,Nat.sub_self,Nat.zero_mul];omega
   ·intro j hj
    rw [hlen] at hj
    have:hi - lo=0:=by omega
    rw [this] at hj
    omega
   ·intro j hj
    simp only [hz,Nat.sub_self,Nat.zero_mul] at hj
    omega
  ·have e3:(s.cap - lo) * size + lo * size=s.cap * size:=by rw [← Nat.add_mul];congr 1;omega
   refine .inr ⟨b,o + lo * size,all,t,fr,?_,hb,?_,?_,?_⟩
   ·simp [slOff,hz,hp,add_of]
   ·simp only;omega
   ·intro j hj
    rw [hlen] at hj
    rw [List.getElem?_take,if_pos hj,List.getElem?_drop,Nat.add_assoc]
    exact h4 _ (by omega)
   ·intro j hj
    simp only at hj
    rw [Nat.add_assoc]
    exact h5 _ (by omega)
theorem flat_length {α:Type} {enc:α→List Value} {size:Nat} (he:∀ x,(enc x).length=size) (l:List α):(l.flatMap enc).length=l.length * size:=by
 induction l with
 | nil=>simp
 | cons x l ih=>simp only [List.flatMap_cons,List.length_append,ih,he,List.length_cons,Nat.succ_mul];omega
theorem flat_get {α:Type} {enc:α→List Value} {size:Nat} (he:∀ x,(enc x).length=size):∀ (l:List α) (i j:Nat),j < size→(l.flatMap enc)[i * size + j]?=l[i]?.bind fun x=>(enc x)[j]?
 | [],i,j,hj=>by simp
 | x :: l,i,j,hj=>by
  rw [List.flatMap_cons]
  cases i with
  | zero=>
   rw [Nat.zero_mul,Nat.zero_add,List.getElem?_append_left (by rw [he];exact hj)]
   rfl
  | succ i=>
   rw [List.getElem?_append_right (by rw [he,Nat.succ_mul];omega),he,Nat.succ_mul,show i * size + size + j - size=i * size + j from by omega,flat_get he l i j hj]
   simp
theorem flat_set {α:Type} {enc:α→List Value} {size:Nat} (he:∀ x,(enc x).length=size):∀ (l:List α) (i:Nat) (y:α),i < l.length→setL (l.flatMap enc) (i * size) (enc y)=(l.set i y).flatMap enc
 | [],i,y,hi=>by simp at hi
 | x :: l,i,y,hi=>by
  cases i with
  | zero=>
   simp only [setL,Nat.zero_mul,List.take_zero,List.nil_append,Nat.zero_add,List.flatMap_cons,List.set_cons_zero,he]
   congr 1
   rw [List.drop_append]
   simp [he]
  | succ i=>
   have ih:=flat_set he l i y (by simpa using hi)
   simp only [List.set_cons_succ,List.flatMap_cons]
   rw [← ih]
   simp only [setL,Nat.succ_mul]
   rw [List.take_append,List.drop_append,List.take_of_length_le (by rw [he];omega),List.drop_of_length_le (by rw [he];omega),he]
   simp only [List.nil_append,List.append_assoc]
   congr 2
   ·congr 1
    omega
   ·congr 2
    omega
theorem flat_take {α:Type} {enc:α→List Value} {size:Nat} (he:∀ x,(enc x).length=size):∀ (l:List α) (n:Nat),(l.flatMap enc).take (n * size)=(l.take n).flatMap enc
 | [],n=>by simp
 | x :: l,n=>by
  cases n with
  | zero=>simp
  | succ n=>
   simp only [List.flatMap_cons,List.take_succ_cons]
   rw [List.take_append,List.take_of_length_le (by rw [he,Nat.succ_mul];omega),he,← flat_take he l n,Nat.succ_mul]
   congr 2
   omega
theorem flat_drop {α:Type} {enc:α→List Value} {size:Nat} (he:∀ x,(enc x).length=size):∀ (l:List α) (n:Nat),(l.flatMap enc).drop (n * size)=(l.drop n).flatMap enc
 | [],n=>by simp
 | x :: l,n=>by
  cases n with
  | zero=>simp
  | succ n=>
   simp only [List.flatMap_cons,List.drop_succ_cons]
   rw [List.drop_append,List.drop_of_length_le (by rw [he,Nat.succ_mul];omega),he,← flat_drop he l n,Nat.succ_mul,List.nil_append]
   congr 1
   omega
theorem SlC.write' {w:World} {s:Sl} {size:Nat} {cs:List Value} (h:SlC w s size cs) {b o:Nat} (hp:s.p=some ⟨b,o,none⟩) {off:Nat} (j:Nat) (ho:off=o + j) (hj:j < cs.length) {v:Value} (hv:v.oneCell'=true) {K:Pr}
  (k:∀ w',SlC w' s size (cs.set j v)→Keeps [b] w w'→K w'):St ⟨b,off,none⟩ v K w:=by
 subst ho
 exact h.write hp hj hv k
theorem cellsB_eq (s:ByteArray):cellsB s=cB s.data.toList:=by
 simp [cellsB,cB]
theorem BtoS_of {s:Sl} {bs:List UInt8} {K:ByteArray→Pr} {w:World} (h:RdB s bs w) (k:K ⟨bs.toArray⟩ w):BtoS s K w:=⟨bs,h,k⟩
end Go.Sx
set_option linter.unusedSimpArgs false
set_option linter.unusedVariables false
namespace Go.Sx
open Go Go.ChangeShapes Go.WideShapes Go.ChangeAt Go.RowKit
theorem Keeps.below {w w':World} (h:Keeps [] w w'):Below w.heap.size w w':=⟨h.os,h.tape,h.output,h.size,fun k hk=>h.get k hk (by simp)⟩
section
variable {H:Type} {enc:TypeId × Value→H} {P:Program}
theorem trodAll_stays {W W':World} {sp':Nat→Bool} (hl:laidOutB P=true):∀ {ts:List TypeId} {vs:List Value} {ds:List (DataW H)} {ps:List MemPlace},
  (ts.all fun t=>P.readableRec t && decide (t < P.types.size))=true→DataW.TrodAll enc P W 0 (fun _=>true) true ts vs ds ps→(∀ p∈ps,W.sameAt W' p)→(∀ p∈ps,sp' p.block=true)→DataW.TrodAll enc P W' 0 sp' true ts vs ds ps
 | [],_,_,_,_,h,_,_=>by
  obtain ⟨rfl,rfl,rfl⟩:=trodAll_nil h
  exact trodAll_mk0
 | t :: ts,_,_,_,hp,h,hs,hb=>by
  obtain ⟨v,vs1,d,ds1,a,b,rfl,rfl,rfl,h1,h2⟩:=trodAll_cons h
  simp only [List.all_cons,Bool.and_eq_true,decide_eq_true_eq] at hp
  exact ⟨a,b,WideElems.Trod_stays hl hp.1.1 hp.1.2 h1 (fun p hp'=>hs p (by simp [hp'])) (fun p hp'=>hb p (by simp [hp'])),
   trodAll_stays hl (by simpa using hp.2) h2 (fun p hp'=>hs p (by simp [hp'])) (fun p hp'=>hb p (by simp [hp'])),rfl⟩
theorem law_post {f:Func} {s:ChangeSpec} {apart fresh handsOn:Bool} {W W':World} {args:Array Value} {ds gs:List (DataW H)} {before:List MemPlace} {tb:TypeId}
  (hW:DataW.Whole enc P f.params.toList s.vars apart W args.toList ds gs before) (hv:s.vars=[]) (hs:s.fn H (ds ++ gs)={ results:=[.lit (.bool true)],args:=ds })
  (hr:f.resultTypes=#[tb]) (htb:P.underlying tb=some .bool) (hl:laidOutB P=true) (hp:(f.params.toList.all fun t=>P.readableRec t && decide (t < P.types.size))=true) (hk:Keeps [] W W') :
  s.post enc P f apart fresh handsOn false W args (.bool true) W':=by
 have hlt:=hW.lt
 have hW':=hW
 obtain ⟨p,q,hA,hV,rfl,hfz,hnd⟩:=hW
 rw [hv] at hV
 obtain ⟨rfl,rfl⟩:=trodVars_none hV
 rw [List.append_nil] at hlt
 refine ⟨ds,[],p ++ [],[],p,[],hW',?_,?_,?_,hk.below.frame _,by simp⟩
 ·rw [hs,hr]
  exact trodAll_cons_mk (shut_bool htb _) trodAll_mk0
 ·rw [hs]
  exact trodAll_stays hl hp hA (fun x hx=>hk.below.same (hlt x hx)) (fun x hx=>by simpa using hlt x hx)
 ·rw [hs,hv]
  rfl
theorem law_calls {f:Func} {i:FuncId} {s:ChangeSpec} {apart fresh handsOn:Bool} {W:World} {args:List Value} {ds gs:List (DataW H)} {before:List MemPlace} {tb:TypeId}
  (hW:DataW.Whole enc P f.params.toList s.vars apart W args ds gs before) (hv:s.vars=[]) (hs:s.fn H (ds ++ gs)={ results:=[.lit (.bool true)],args:=ds })
  (hr:f.resultTypes=#[tb]) (htb:P.underlying tb=some .bool) (hl:laidOutB P=true) (hp:(f.params.toList.all fun t=>P.readableRec t && decide (t < P.types.size))=true)
  (h:Cl P i args false [.sc .b] (fun r w'=>r.1=true∧Keeps [] W w') W) :
  Calls P i args.toArray W fun e W'=>∃ v,e=.returned v∧s.post enc P f apart fresh handsOn false W args.toArray v W':=by
 refine h.2.mono fun e W' he=>?_
 cases e with
 | returned v=>
  obtain ⟨r,rfl,h1,hk⟩:=he
  refine ⟨_,rfl,?_⟩
  obtain ⟨r1,r2⟩:=r
  simp only at h1
  subst h1
  exact law_post (args:=args.toArray) (by simpa using hW) hv hs hr htb hl hp hk
 | panicked c=>exact he.elim
 | outgrown=>exact he.elim
end
end Go.Sx
set_option linter.unusedSimpArgs false
set_option linter.unusedVariables false
namespace Go.Sx
open Go
theorem slOff_zero (p:Option Addr) (c size:Nat):slOff p c 0 size=p:=by
 unfold slOff
 split
 ·rfl
 ·cases p with
  | none=>rfl
  | some a=>simp [Addr.add]
theorem StoB_own {e:TypeId} {s:ByteArray} {K:Sl→Pr} {w:World}
  (k:∀ (r:Sl) (w':World),SlC w' r 1 (cB s.data.toList)→Keeps [] w w'→(∀ x∈blk r,w.heap.size≤x)→r.len=s.size→K r w'):StoB e s K w:=by
 intro c hc
 have hs:s.data.toList.length=s.size:=by rw [Array.length_toList];rfl
 refine k _ _ ⟨by rw [cB_length,hs,Nat.mul_one],hc,.inr ⟨_,0,_,_,_,rfl,hp_alloc_new w.drew _,?_,?_,?_⟩⟩ ((Keeps.refl [] w).drew.alloc _) (fun x hx=>Nat.le_of_eq (blk_sub rfl x hx).symm) rfl
 ·simp only [cellsB_eq,List.size_toArray,List.length_append,List.length_replicate,cB_length,hs]
  omega
 ·intro j hj
  rw [Nat.zero_add,List.getElem?_toArray,cellsB_eq,List.getElem?_append_left hj]
 ·intro j hj
  simp only [Nat.mul_one] at hj
  simp only [Nat.zero_add,Bool.and_eq_false_iff,decide_eq_false_iff_not]
  omega
theorem SlC.item {α:Type} {enc:α→List Value} {size:Nat} (he:∀ x,(enc x).length=size) {w:World} {s:Sl} {l:List α} (h:SlC w s size (l.flatMap enc)) {b o:Nat} (hp:s.p=some ⟨b,o,none⟩) {k:Nat} {x:α} (hx:l[k]?=some x) (j:Nat) (hj:j < size) :
  cellO w.heap[b]? (o + k * size + j)=(enc x)[j]?:=by
 have hk:=(List.getElem?_eq_some_iff.1 hx).1
 have hm:(k + 1) * size≤l.length * size:=Nat.mul_le_mul_right _ hk
 rw [Nat.succ_mul] at hm
 rw [Nat.add_assoc,h.read hp (by rw [flat_length he];omega),flat_get he l k j hj,hx]
 rfl
end Go.Sx
set_option linter.unusedSimpArgs false
set_option linter.unusedVariables false
namespace Go.Sx
open Go Go.ChangeShapes Go.WideShapes Go.ChangeAt Go.RowKit
theorem addr_add (a:Addr) (i j:Nat):(a.add i).add j=a.add (i + j):=by unfold Addr.add;split <;> split <;> split <;> simp_all <;> omega
theorem flatten_length {n:Nat}:∀ {rows:List (List Value)},(∀ r∈rows,r.length=n)→rows.flatten.length=rows.length * n
 | [],_=>by simp
 | r :: rows,h=>by
  rw [List.flatten_cons,List.length_append,flatten_length fun r hr=>h r (List.mem_cons_of_mem _ hr),h r List.mem_cons_self,List.length_cons,Nat.succ_mul]
  omega
theorem flatten_get {n:Nat}:∀ {rows:List (List Value)},(∀ r∈rows,r.length=n)→∀ (i j:Nat),j < n→rows.flatten[i * n + j]?=rows[i]?.bind fun r=>r[j]?
 | [],_,i,j,_=>by simp
 | r :: rows,h,i,j,hj=>by
  have hr:=h r List.mem_cons_self
  rw [List.flatten_cons]
  cases i with
  | zero=>rw [Nat.zero_mul,Nat.zero_add,List.getElem?_append_left (by omega)];rfl
  | succ i=>
   rw [List.getElem?_append_right (by rw [Nat.succ_mul];omega),hr,Nat.succ_mul,show i * n + n + j - n=i * n + j from by omega,flatten_get (fun r hr=>h r (List.mem_cons_of_mem _ hr)) i j hj]
   simp
end Go.Sx
set_option linter.unusedSimpArgs false
set_option linter.unusedVariables false
namespace Go.Sx
open Go
theorem wrap_u64_nat {n:Nat} (h:n < 2 ^ 64):IntKind.u64.wrap (n:Int)=n:=by
 simp [IntKind.wrap,IntKind.bits,IntKind.signed];omega
theorem wrap_u8_nat (n:Nat):IntKind.u8.wrap (n:Int)=((n % 256:Nat):Int):=by
 simp [IntKind.wrap,IntKind.bits,IntKind.signed]
theorem w64_nat {n:Nat} (h:n < 2 ^ 63):w64 (n:Int)=n:=by
 simp only [w64];exact IntWalk.i64_in _ (by omega)
theorem w64_in {n:Int} (h1:-9223372036854775808≤n) (h2:n≤9223372036854775807):w64 n=n:=by
 simp only [w64];exact IntWalk.i64_in _ (by omega)
theorem iand_u64 {a b:Nat} (ha:a < 2 ^ 64) (hb:b < 2 ^ 64):iand .u64 (a:Int) (b:Int)=((a &&& b:Nat):Int):=by
 have hab:a &&& b < 2 ^ 64:=Nat.lt_of_le_of_lt Nat.and_le_left ha
 have e:((BitVec.ofInt 64 (a:Int)) &&& (BitVec.ofInt 64 (b:Int))).toNat=a &&& b:=by
  simp only [BitVec.ofInt_natCast,BitVec.toNat_and,BitVec.toNat_ofNat,Nat.mod_eq_of_lt ha,Nat.mod_eq_of_lt hb]
 show IntKind.u64.wrap ((((BitVec.ofInt 64 (a:Int)) &&& (BitVec.ofInt 64 (b:Int))).toNat:Nat):Int)=_
 rw [e]
 exact wrap_u64_nat hab
theorem ishr_nat (k:IntKind) (a s:Nat) (hs:s≤k.bits):ishr k (a:Int) (s:Int)=((a >>> s:Nat):Int):=by
 simp only [ishr,Int.toNat_natCast,Nat.min_eq_left hs,Nat.shiftRight_eq_div_pow]
 rw [show ((2:Int) ^ s)=((2 ^ s:Nat):Int) from by simp,Int.fdiv_eq_ediv_of_nonneg _ (Int.natCast_nonneg _)]
 rfl
theorem ishl_u64 (a s:Nat) (hs:s≤64):ishl .u64 (a:Int) (s:Int)=((a <<< s % 2 ^ 64:Nat):Int):=by
 simp only [ishl,Int.toNat_natCast,IntKind.bits,Nat.min_eq_left hs,Nat.shiftLeft_eq]
 rw [show ((2:Int) ^ s)=((2 ^ s:Nat):Int) from by simp,← Int.natCast_mul]
 simp only [IntKind.wrap,IntKind.bits,IntKind.signed]
 simp
theorem tdiv_nat (j c:Nat):(j:Int).tdiv (c:Int)=((j / c:Nat):Int):=by
 rw [Int.tdiv_eq_ediv_of_nonneg (Int.natCast_nonneg _)];rfl
end Go.Sx
set_option linter.unusedSimpArgs false
set_option linter.unusedVariables false
namespace Go.Sx
open Go Go.ChangeShapes Go.WideShapes Go.ChangeAt Go.RowKit
theorem rows_of' {α:Type} {enc:α→List Value} {Q:α→Prop}:∀ {rows:List (List Value)},(∀ row∈rows,∃ x,row=enc x∧Q x)→∃ xs:List α,rows.flatten=xs.flatMap enc∧rows.length=xs.length∧∀ x∈xs,Q x
 | [],_=>⟨[],rfl,rfl,by simp⟩
 | row :: rows,h=>by
  obtain ⟨x,rfl,hx⟩:=h row List.mem_cons_self
  obtain ⟨xs,h1,h2,h3⟩:=rows_of' fun r hr=>h r (List.mem_cons_of_mem _ hr)
  exact ⟨x :: xs,by simp [h1],by simp [h2],fun y hy=>by rcases List.mem_cons.1 hy with rfl | hy;exact hx;exact h3 y hy⟩
end Go.Sx
