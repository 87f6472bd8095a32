/- The parts of the proof, 5: words of the program, and what they do. Conditions: none. -/
import Derived.Test.YthkdehgfdllpoaaGreatPk4
set_option maxRecDepth 100000
set_option maxHeartbeats 1000000
set_option linter.unusedVariables false
set_option linter.unusedSimpArgs false
set_option linter.unusedSectionVars false
namespace Go.Proofs.YthkdehgfdllpoaaGreat
open Go Go.Sx
structure Bx where
 move:Int
 n:Int
 lo:ByteArray
 hi:ByteArray
 peer:Int
 B9:Bool
 under:Bool
 all:Bool
 sl:Sl
 sr:Sl
 H5:ByteArray
 load:List Op
 row:List Op
def Gb (b:Bx):List Value:=[.int .u64 b.move,.int .u64 b.n,.string b.lo,.string b.hi,.int .i64 b.peer,.bool b.B9,.bool b.under,.bool b.all,.slice b.sl.p b.sl.len b.sl.cap,.slice b.sr.p b.sr.len b.sr.cap,.string b.H5]
structure Sc where
 id:Int
 Au:Int
 CZ:Int
 Ao:Int
 move:Int
 low:Int
 frozen:Int
 Qk:ByteArray
 MS:ByteArray
 AJ:Int
 CD:Int
 Bo:Int
 Ph:ByteArray
 Qq:ByteArray
 HA:Bool
 e:Int
structure Co where
 so:Sl
 sh:Sl
 sf:Sl
 sw:Sl
 tb:Nat
 bx:Option Nat
 BD:Nat
 Er:Sl
 Nv:Sl
 Mm:Sl
 Ac:List Ow
 held:List Hd
 fin:List Int
 wait:List Wt
 BS:TS
 tH:Nat->Prop
 out:List Mg
 writes:List Op
 line:List Ev
 box:Bx
 sM:Sl
 M:List Pa
structure Mc where
 c:Sc
 d:Co
def stV (BD:Nat):Value:=.iface 24 (.pointer (some ⟨BD,0,none⟩))
def Bs (X:Mc):List Value:=[.int .i64 X.c.id,.int .u64 X.c.Au,.int .u64 X.c.CZ,.int .u64 X.c.Ao,.int .u64 X.c.move,.slice X.d.so.p X.d.so.len X.d.so.cap,.slice X.d.sh.p X.d.sh.len X.d.sh.cap,.slice X.d.sf.p X.d.sf.len X.d.sf.cap,.int .u64 X.c.low,.int .u64 X.c.frozen,.string X.c.Qk,.string X.c.MS,.int .u64 X.c.AJ,.int .u64 X.c.CD,.int .u64 X.c.Bo,.string X.c.Ph,.string X.c.Qq,
 .slice X.d.sw.p X.d.sw.len X.d.sw.cap,.pointer (some ⟨X.d.tb,0,none⟩),.pointer (X.d.bx.map λb=>⟨b,0,none⟩),stV X.d.BD,.slice X.d.Er.p X.d.Er.len X.d.Er.cap,.slice X.d.Nv.p X.d.Nv.len X.d.Nv.cap,.bool X.c.HA,.slice X.d.Mm.p X.d.Mm.len X.d.Mm.cap,.int .i64 X.c.e]
def Yi (sr:Sl)(rs:List Rs)(w:World):Prop:=A1 Xg w sr rs/\∀y∈rs,RsD w y
def Su (x:Mg)(w:World):Prop:=A1 BQ w x.so x.ops/\Yi x.sr x.results w/\A1 Mj w x.sw x.Ac
def WtD (x:Wt)(w:World):Prop:=A1 BQ w x.so x.ops/\A1 YT w x.sk x.BB
def StD (X:Co)(w:World):Prop:=w.heap[X.BD]?=some (.cells #[.slice X.sM.p X.sM.len X.sM.cap] 27 (0,0))/\A1 C2 w X.sM X.M
def AkV (X:Co)(w:World):Prop:=∀b,X.bx=some b->w.heap[b]?=some (.cells (Gb X.box).toArray 118 (0,0))
structure Rest (w:World)(T:Nat->Nat)(X:Co):Prop where
 ow:Bq T (λw=>A1 Mj w X.so X.Ac) w
 he:FV T 2 (·∈Ai X.sh) (λw=>Bh Fo w X.sh X.held) w
 Ro:∀x∈X.held,Bq T (λw=>A1 BQ w x.so x.ops) w
 fi:FV T 3 (·∈Ai X.sf) (λw=>Bh HL w X.sf X.fin) w
 wa:FV T 4 (·∈Ai X.sw) (λw=>Bh NF w X.sw X.wait) w
 Ss:∀x∈X.wait,Bq T (WtD x) w
 ta:FV T 5 X.tH (λw=>Ny w X.tb X.tH X.BS) w
 ou:FV T 6 (·∈Ai X.Er) (λw=>Bh Yz w X.Er X.out) w
 Wp:∀x∈X.out,Bq T (Su x) w
 wr:FV T 7 (·∈Ai X.Nv) (λw=>Bh BQ w X.Nv X.writes) w
 li:FV T 8 (·∈Ai X.Mm) (λw=>Bh evR w X.Mm X.line) w
 bo:FV T 9 (λb=>X.bx=some b) (AkV X) w
 ro:FV T 10 (·∈Ai X.box.sr) (λw=>Bh BQ w X.box.sr X.box.row) w
 lo:Bq T (λw=>A1 BQ w X.box.sl X.box.load) w
 RF:FV T 12 (·=X.BD) (StD X) w
 bd:∀b,T b≠0->b<w.heap.size
structure A6 (w:World)(m:Nat)(T:Nat->Nat)(X:Mc):Prop where
 hd:w.heap[m]?=some (.cells (Bs X).toArray 94 (0,0))
 t1:T m=1
 r:Rest w T X.d
variable {w w':World}{T:Nat->Nat}
theorem Rest.k1 {X:Co}(h:Rest w T X)(s:CH 1 T T w w'):Rest w' T X:=
 ⟨h.ow.kt (by decide) s,h.he.kt (by decide) (by decide) s,λx hx=>(h.Ro x hx).kt (by decide) s,h.fi.kt (by decide) (by decide) s,h.wa.kt (by decide) (by decide) s,λx hx=>(h.Ss x hx).kt (by decide) s,h.ta.kt (by decide) (by decide) s,h.ou.kt (by decide) (by decide) s,λx hx=>(h.Wp x hx).kt (by decide) s,h.wr.kt (by decide) (by decide) s,h.li.kt (by decide) (by decide) s,h.bo.kt (by decide) (by decide) s,h.ro.kt (by decide) (by decide) s,h.lo.kt (by decide) s,h.RF.kt (by decide) (by decide) s,λb hb=>Nat.lt_of_lt_of_le (h.bd b hb) s.kp.size⟩
theorem Rest.Ab {X:Co}(h:Rest w T X)(k:Aa [] w w'):Rest w' T X:=h.k1 (CH.k0 k)
theorem A6.Ab {w w':World}{m:Nat}{T:Nat->Nat}{X:Mc}(h:A6 w m T X)(k:Aa [] w w'):A6 w' m T X:=⟨k.Aw h.hd,h.t1,h.r.Ab k⟩
variable {m:Nat}{X:Mc}
theorem A6.lt (h:A6 w m T X):m<w.heap.size:=Av h.hd
theorem A6.new (h:A6 w m T X){b:Nat}(hb:w.heap.size<=b):T b=0:=by
 rcases Nat.eq_zero_or_pos (T b)with h0|h0
 ·exact h0
 ·have:=h.r.bd b (by omega);omega
theorem A6.set {X':Mc}(hd:w.heap[m]?=some (.cells (Bs X).toArray 94 (0,0)))(t1:T m=1)(hr:Rest w T X'.d){i:Nat}{v:Value}(hi:i<26)(h1:v.oneCell'=true)(he:(Bs X).set i v=Bs X'){K:Pr}(k:∀w',A6 w' m T X'->CH 1 T T w w'->K w'):St ⟨m,i,none⟩ v K w:=by
 refine Ax hd i v h1 (by simpa[Bs]using hi) λw' hd' k'=>?_;have s:CH 1 T T w w':=⟨k'.FY λb hb=>.inl (by simp at hb;rw[hb];exact t1),λ_ _ _=>rfl⟩;refine k w' ⟨?_,t1,hr.k1 s⟩ s;rw[hd',<-he];simp
variable {s:Sl}
theorem MP {k:Nat}{r:Sl}(hm:m<w.heap.size)(t1:T m=1)(hk:k≠1)(hs:∀b∈Ai s,T b=k)(fr:∀b∈Ai r,b∈Ai s\/w.heap.size<=b):AX k r T m=1:=by
 unfold AX;rw[if_neg]
 ·exact t1
 ·intro h;rcases fr m h with h'|h'
  ·have:=hs m h';omega
  ·omega
theorem Rest.uHe {X:Co}(h:Rest w T X){r:Sl}{l:List Hd}(hk:Aa (Ai X.sh) w w')(hr:Bh Fo w' r l)(fr:∀b∈Ai r,b∈Ai X.sh\/w.heap.size<=b)(hD:∀x∈l,Bq (AX 2 r T) (λw=>A1 BQ w x.so x.ops) w'):Rest w' (AX 2 r T) {X with sh:=r,held:=l}:=by
 have s:CH 2 T (AX 2 r T) w w':=CH.row hk (λb hb=>(h.he.tag b hb).2) fr;exact⟨h.ow.kt (by decide) s,.of hr ED,hD,h.fi.kt (by decide) (by decide) s,h.wa.kt (by decide) (by decide) s,λx hx=>(h.Ss x hx).kt (by decide) s,h.ta.kt (by decide) (by decide) s,h.ou.kt (by decide) (by decide) s,λx hx=>(h.Wp x hx).kt (by decide) s,h.wr.kt (by decide) (by decide) s,h.li.kt (by decide) (by decide) s,h.bo.kt (by decide) (by decide) s,h.ro.kt (by decide) (by decide) s,h.lo.kt (by decide) s,h.RF.kt (by decide) (by decide) s,GH hr hk.size h.bd⟩
theorem A6.uHe {w w':World} {m:Nat} {T:Nat->Nat} {X:Mc} (h:A6 w m T X) {r:Sl} {l:List Hd} (hk:Aa (Ai X.d.sh) w w') (hr:Bh Fo w' r l) (fr:∀b∈Ai r,b∈Ai X.d.sh\/w.heap.size<=b) (hD:∀x∈l,Bq (AX 2 r T) (λw=>A1 BQ w x.so x.ops) w') {K:Pr}
  (k:∀w2,A6 w2 m (AX 2 r T) {X with d:={X.d with sh:=r,held:=l}}->Aq T (AX 2 r T) w w2->K w2):St ⟨m,6,none⟩ (.slice r.p r.len r.cap) K w':=by
 have s:CH 2 T (AX 2 r T) w w':=CH.row hk (λb hb=>(h.r.he.tag b hb).2) fr;have hm:w'.heap[m]?=_:=hk.at h.hd (λhm=>by have:=(h.r.he.tag m hm).2;have:=h.t1;omega);refine A6.set (X':={X with d:={X.d with sh:=r,held:=l}}) hm (MP h.lt h.t1 (by decide) (λb hb=>(h.r.he.tag b hb).2) fr) (h.r.uHe hk hr fr hD) (by decide) rfl rfl λw2 h2 s2=>?_;exact k w2 h2 ((s.Bm (by decide)).trans (s2.Bm (by decide)))
theorem Rest.uFi {X:Co}(h:Rest w T X){r:Sl}{l:List Int}(hk:Aa (Ai X.sf) w w')(hr:Bh HL w' r l)(fr:∀b∈Ai r,b∈Ai X.sf\/w.heap.size<=b):Rest w' (AX 3 r T) {X with sf:=r,fin:=l}:=by
 have s:CH 3 T (AX 3 r T) w w':=CH.row hk (λb hb=>(h.fi.tag b hb).2) fr;exact⟨h.ow.kt (by decide) s,h.he.kt (by decide) (by decide) s,λx hx=>(h.Ro x hx).kt (by decide) s,.of hr ED,h.wa.kt (by decide) (by decide) s,λx hx=>(h.Ss x hx).kt (by decide) s,h.ta.kt (by decide) (by decide) s,h.ou.kt (by decide) (by decide) s,λx hx=>(h.Wp x hx).kt (by decide) s,h.wr.kt (by decide) (by decide) s,h.li.kt (by decide) (by decide) s,h.bo.kt (by decide) (by decide) s,h.ro.kt (by decide) (by decide) s,h.lo.kt (by decide) s,h.RF.kt (by decide) (by decide) s,GH hr hk.size h.bd⟩
theorem A6.uFi {w w':World} {m:Nat} {T:Nat->Nat} {X:Mc} (h:A6 w m T X) {r:Sl} {l:List Int} (hk:Aa (Ai X.d.sf) w w') (hr:Bh HL w' r l) (fr:∀b∈Ai r,b∈Ai X.d.sf\/w.heap.size<=b) {K:Pr}
  (k:∀w2,A6 w2 m (AX 3 r T) {X with d:={X.d with sf:=r,fin:=l}}->Aq T (AX 3 r T) w w2->K w2):St ⟨m,7,none⟩ (.slice r.p r.len r.cap) K w':=by
 have s:CH 3 T (AX 3 r T) w w':=CH.row hk (λb hb=>(h.r.fi.tag b hb).2) fr;have hm:w'.heap[m]?=_:=hk.at h.hd (λhm=>by have:=(h.r.fi.tag m hm).2;have:=h.t1;omega);refine A6.set (X':={X with d:={X.d with sf:=r,fin:=l}}) hm (MP h.lt h.t1 (by decide) (λb hb=>(h.r.fi.tag b hb).2) fr) (h.r.uFi hk hr fr) (by decide) rfl rfl λw2 h2 s2=>?_;exact k w2 h2 ((s.Bm (by decide)).trans (s2.Bm (by decide)))
theorem Rest.uWa {X:Co}(h:Rest w T X){r:Sl}{l:List Wt}(hk:Aa (Ai X.sw) w w')(hr:Bh NF w' r l)(fr:∀b∈Ai r,b∈Ai X.sw\/w.heap.size<=b)(hD:∀x∈l,Bq (AX 4 r T) (WtD x) w'):Rest w' (AX 4 r T) {X with sw:=r,wait:=l}:=by
 have s:CH 4 T (AX 4 r T) w w':=CH.row hk (λb hb=>(h.wa.tag b hb).2) fr;exact⟨h.ow.kt (by decide) s,h.he.kt (by decide) (by decide) s,λx hx=>(h.Ro x hx).kt (by decide) s,h.fi.kt (by decide) (by decide) s,.of hr ED,hD,h.ta.kt (by decide) (by decide) s,h.ou.kt (by decide) (by decide) s,λx hx=>(h.Wp x hx).kt (by decide) s,h.wr.kt (by decide) (by decide) s,h.li.kt (by decide) (by decide) s,h.bo.kt (by decide) (by decide) s,h.ro.kt (by decide) (by decide) s,h.lo.kt (by decide) s,h.RF.kt (by decide) (by decide) s,GH hr hk.size h.bd⟩
theorem A6.uWa {w w':World} {m:Nat} {T:Nat->Nat} {X:Mc} (h:A6 w m T X) {r:Sl} {l:List Wt} (hk:Aa (Ai X.d.sw) w w') (hr:Bh NF w' r l) (fr:∀b∈Ai r,b∈Ai X.d.sw\/w.heap.size<=b) (hD:∀x∈l,Bq (AX 4 r T) (WtD x) w') {K:Pr}
  (k:∀w2,A6 w2 m (AX 4 r T) {X with d:={X.d with sw:=r,wait:=l}}->Aq T (AX 4 r T) w w2->K w2):St ⟨m,17,none⟩ (.slice r.p r.len r.cap) K w':=by
 have s:CH 4 T (AX 4 r T) w w':=CH.row hk (λb hb=>(h.r.wa.tag b hb).2) fr;have hm:w'.heap[m]?=_:=hk.at h.hd (λhm=>by have:=(h.r.wa.tag m hm).2;have:=h.t1;omega);refine A6.set (X':={X with d:={X.d with sw:=r,wait:=l}}) hm (MP h.lt h.t1 (by decide) (λb hb=>(h.r.wa.tag b hb).2) fr) (h.r.uWa hk hr fr hD) (by decide) rfl rfl λw2 h2 s2=>?_;exact k w2 h2 ((s.Bm (by decide)).trans (s2.Bm (by decide)))
theorem Rest.uOu {X:Co}(h:Rest w T X){r:Sl}{l:List Mg}(hk:Aa (Ai X.Er) w w')(hr:Bh Yz w' r l)(fr:∀b∈Ai r,b∈Ai X.Er\/w.heap.size<=b)(hD:∀x∈l,Bq (AX 6 r T) (Su x) w'):Rest w' (AX 6 r T) {X with Er:=r,out:=l}:=by
 have s:CH 6 T (AX 6 r T) w w':=CH.row hk (λb hb=>(h.ou.tag b hb).2) fr;exact⟨h.ow.kt (by decide) s,h.he.kt (by decide) (by decide) s,λx hx=>(h.Ro x hx).kt (by decide) s,h.fi.kt (by decide) (by decide) s,h.wa.kt (by decide) (by decide) s,λx hx=>(h.Ss x hx).kt (by decide) s,h.ta.kt (by decide) (by decide) s,.of hr ED,hD,h.wr.kt (by decide) (by decide) s,h.li.kt (by decide) (by decide) s,h.bo.kt (by decide) (by decide) s,h.ro.kt (by decide) (by decide) s,h.lo.kt (by decide) s,h.RF.kt (by decide) (by decide) s,GH hr hk.size h.bd⟩
theorem A6.uOu {w w':World} {m:Nat} {T:Nat->Nat} {X:Mc} (h:A6 w m T X) {r:Sl} {l:List Mg} (hk:Aa (Ai X.d.Er) w w') (hr:Bh Yz w' r l) (fr:∀b∈Ai r,b∈Ai X.d.Er\/w.heap.size<=b) (hD:∀x∈l,Bq (AX 6 r T) (Su x) w') {K:Pr}
  (k:∀w2,A6 w2 m (AX 6 r T) {X with d:={X.d with Er:=r,out:=l}}->Aq T (AX 6 r T) w w2->K w2):St ⟨m,21,none⟩ (.slice r.p r.len r.cap) K w':=by
 have s:CH 6 T (AX 6 r T) w w':=CH.row hk (λb hb=>(h.r.ou.tag b hb).2) fr;have hm:w'.heap[m]?=_:=hk.at h.hd (λhm=>by have:=(h.r.ou.tag m hm).2;have:=h.t1;omega);refine A6.set (X':={X with d:={X.d with Er:=r,out:=l}}) hm (MP h.lt h.t1 (by decide) (λb hb=>(h.r.ou.tag b hb).2) fr) (h.r.uOu hk hr fr hD) (by decide) rfl rfl λw2 h2 s2=>?_;exact k w2 h2 ((s.Bm (by decide)).trans (s2.Bm (by decide)))
theorem Rest.uWr {X:Co}(h:Rest w T X){r:Sl}{l:List Op}(hk:Aa (Ai X.Nv) w w')(hr:Bh BQ w' r l)(fr:∀b∈Ai r,b∈Ai X.Nv\/w.heap.size<=b):Rest w' (AX 7 r T) {X with Nv:=r,writes:=l}:=by
 have s:CH 7 T (AX 7 r T) w w':=CH.row hk (λb hb=>(h.wr.tag b hb).2) fr;exact⟨h.ow.kt (by decide) s,h.he.kt (by decide) (by decide) s,λx hx=>(h.Ro x hx).kt (by decide) s,h.fi.kt (by decide) (by decide) s,h.wa.kt (by decide) (by decide) s,λx hx=>(h.Ss x hx).kt (by decide) s,h.ta.kt (by decide) (by decide) s,h.ou.kt (by decide) (by decide) s,λx hx=>(h.Wp x hx).kt (by decide) s,.of hr ED,h.li.kt (by decide) (by decide) s,h.bo.kt (by decide) (by decide) s,h.ro.kt (by decide) (by decide) s,h.lo.kt (by decide) s,h.RF.kt (by decide) (by decide) s,GH hr hk.size h.bd⟩
theorem A6.uWr {w w':World} {m:Nat} {T:Nat->Nat} {X:Mc} (h:A6 w m T X) {r:Sl} {l:List Op} (hk:Aa (Ai X.d.Nv) w w') (hr:Bh BQ w' r l) (fr:∀b∈Ai r,b∈Ai X.d.Nv\/w.heap.size<=b) {K:Pr}
  (k:∀w2,A6 w2 m (AX 7 r T) {X with d:={X.d with Nv:=r,writes:=l}}->Aq T (AX 7 r T) w w2->K w2):St ⟨m,22,none⟩ (.slice r.p r.len r.cap) K w':=by
 have s:CH 7 T (AX 7 r T) w w':=CH.row hk (λb hb=>(h.r.wr.tag b hb).2) fr;have hm:w'.heap[m]?=_:=hk.at h.hd (λhm=>by have:=(h.r.wr.tag m hm).2;have:=h.t1;omega);refine A6.set (X':={X with d:={X.d with Nv:=r,writes:=l}}) hm (MP h.lt h.t1 (by decide) (λb hb=>(h.r.wr.tag b hb).2) fr) (h.r.uWr hk hr fr) (by decide) rfl rfl λw2 h2 s2=>?_;exact k w2 h2 ((s.Bm (by decide)).trans (s2.Bm (by decide)))
theorem Rest.uLi {X:Co}(h:Rest w T X){r:Sl}{l:List Ev}(hk:Aa (Ai X.Mm) w w')(hr:Bh evR w' r l)(fr:∀b∈Ai r,b∈Ai X.Mm\/w.heap.size<=b):Rest w' (AX 8 r T) {X with Mm:=r,line:=l}:=by
 have s:CH 8 T (AX 8 r T) w w':=CH.row hk (λb hb=>(h.li.tag b hb).2) fr;exact⟨h.ow.kt (by decide) s,h.he.kt (by decide) (by decide) s,λx hx=>(h.Ro x hx).kt (by decide) s,h.fi.kt (by decide) (by decide) s,h.wa.kt (by decide) (by decide) s,λx hx=>(h.Ss x hx).kt (by decide) s,h.ta.kt (by decide) (by decide) s,h.ou.kt (by decide) (by decide) s,λx hx=>(h.Wp x hx).kt (by decide) s,h.wr.kt (by decide) (by decide) s,.of hr ED,h.bo.kt (by decide) (by decide) s,h.ro.kt (by decide) (by decide) s,h.lo.kt (by decide) s,h.RF.kt (by decide) (by decide) s,GH hr hk.size h.bd⟩
theorem A6.uLi {w w':World} {m:Nat} {T:Nat->Nat} {X:Mc} (h:A6 w m T X) {r:Sl} {l:List Ev} (hk:Aa (Ai X.d.Mm) w w') (hr:Bh evR w' r l) (fr:∀b∈Ai r,b∈Ai X.d.Mm\/w.heap.size<=b) {K:Pr}
  (k:∀w2,A6 w2 m (AX 8 r T) {X with d:={X.d with Mm:=r,line:=l}}->Aq T (AX 8 r T) w w2->K w2):St ⟨m,24,none⟩ (.slice r.p r.len r.cap) K w':=by
 have s:CH 8 T (AX 8 r T) w w':=CH.row hk (λb hb=>(h.r.li.tag b hb).2) fr;have hm:w'.heap[m]?=_:=hk.at h.hd (λhm=>by have:=(h.r.li.tag m hm).2;have:=h.t1;omega);refine A6.set (X':={X with d:={X.d with Mm:=r,line:=l}}) hm (MP h.lt h.t1 (by decide) (λb hb=>(h.r.li.tag b hb).2) fr) (h.r.uLi hk hr fr) (by decide) rfl rfl λw2 h2 s2=>?_;exact k w2 h2 ((s.Bm (by decide)).trans (s2.Bm (by decide)))
theorem Ny.heap {w w':World}{t:Nat}{H:Nat->Prop}{s:TS}(h:Ny w t H s)(hw:∀b,H b->w'.heap[b]?=w.heap[b]?):Ny w' t H s:=by
 obtain⟨sh,sw,h⟩:=h;exact⟨sh,sw,(hw t ((h.own t).2 (.inl rfl))).trans h.hd,h.h.heap λb hb=>hw b ((h.own b).2 (.inr (.inl hb))),h.w.heap λb hb=>hw b ((h.own b).2 (.inr (.inr hb))),h.th,h.tw,h.hw,h.own⟩
theorem Rest.uTa {X:Co}(h:Rest w T X){H':Nat->Prop}{s':TS}(ht:Ny w' X.tb H' s')(fr:Fr X.tH H' w)(hk:A4 X.tH w w'):CH 5 T (XE 5 H' T) w w'/\Rest w' (XE 5 H' T) {X with tH:=H',BS:=s'}:=by
 classical
 have hbl:∀b,H' b->b<w'.heap.size:=by
  obtain⟨sh,sw,h2⟩:=ht;exact h2.bl
 have s:CH 5 T (XE 5 H' T) w w':=by
  refine⟨hk.mono λb hb=>.inl (h.ta.tag b hb).2,λb hb hn=>?_⟩;unfold XE;rw[if_neg];intro h';rcases fr b h' with h1|h1
  ·exact hn (h.ta.tag b h1).2
  ·omega
 refine⟨s,h.ow.kt (by decide) s,h.he.kt (by decide) (by decide) s,λx hx=>(h.Ro x hx).kt (by decide) s,h.fi.kt (by decide) (by decide) s,h.wa.kt (by decide) (by decide) s,λx hx=>(h.Ss x hx).kt (by decide) s,⟨ht,λw2 _ hw=>ht.heap λb hb=>hw b (hbl b hb) (.inl (if_pos hb)),λb hb=>⟨hbl b hb,if_pos hb⟩⟩,h.ou.kt (by decide) (by decide) s,λx hx=>(h.Wp x hx).kt (by decide) s,h.wr.kt (by decide) (by decide) s,h.li.kt (by decide) (by decide) s,h.bo.kt (by decide) (by decide) s,h.ro.kt (by decide) (by decide) s,h.lo.kt (by decide) s,h.RF.kt (by decide) (by decide) s,λb hb=>?_⟩;unfold XE at hb;split at hb
 ·exact hbl b (by assumption)
 ·exact Nat.lt_of_lt_of_le (h.bd b hb) hk.size
theorem A6.uTa {w w':World}{m:Nat}{T:Nat->Nat}{X:Mc}(h:A6 w m T X){H':Nat->Prop}{s':TS}(ht:Ny w' X.d.tb H' s')(fr:Fr X.d.tH H' w)(hk:A4 X.d.tH w w'):A6 w' m (XE 5 H' T) {X with d:={X.d with tH:=H',BS:=s'}}/\Aq T (XE 5 H' T) w w':=by
 obtain⟨s,hr⟩:=h.r.uTa ht fr hk;refine⟨⟨hk.at h.hd λhm=>?_,?_,hr⟩,s.Bm (by decide)⟩
 ·have:=(h.r.ta.tag m hm).2;have:=h.t1;omega
 ·exact(s.tg m h.lt (by rw[h.t1];decide)).trans h.t1
open Go Go.Sx
theorem Am (w:World):Aa [] w w.drew:=(Aa.refl _ _).drew
theorem A5 (b i n:Nat):Addr.add ⟨b,i,none⟩ n=⟨b,i+n,none⟩:=Cr b i n
theorem KD (h:A6 w m T X)(x:Mg)(hx:Bq T (Su x) w)(hN:X.d.out.length<=100000){K:TR []->Pr}(k:∀so T' w',A6 w' m T' {X with d:={X.d with Er:=so,out:=X.d.out++[{x with src:=X.c.id}]}}->Aq T T' w w'->K () w'):
  Cl Pg 38 [.pointer (some ⟨m,0,none⟩),.agg #[.int .i64 x.kind,.int .i64 x.src,.int .i64 x.dst,.int .i64 x.Ch,.int .i64 x.code,.int .i64 x.peer,.int .u64 x.VT,.int .u64 x.Au,.int .u64 x.Ah,.int .u64 x.low,.int .u64 x.CZ,.int .u64 x.Ao,.int .u64 x.move,.int .u64 x.attempt,.int .u64 x.n,.bool x.flag,.string x.FN,.string x.G6,.slice x.so.p x.so.len x.so.cap,.slice x.sr.p x.sr.len x.sr.cap,.slice x.sw.p x.sw.len x.sw.cap]] true [] K w:=by
 refine Lj _ _ _ _ _ _ _ _ _ _ _ _ _ _ _ _ _ _ _ x.so x.sr x.sw ?_;unfold Io;dsimp only[Ag,Li,Bn,Ll,Ti,Ts,Vs];refine Ad λa w1 h1 n1 k1=>?_;have g1:=h.Ab k1;simp only[sb,g1.hd,Bs,A5,Nat.reduceAdd];refine Ax h1 1 _ rfl (by simp) λw2 h2 k2=>?_;have ma:m≠a:=λe=>by have:=h.lt;omega
 have k02:=BT k1 k2 n1;have g2:=h.Ab k02;simp only[Ck]at h2;simp only[sb,g2.hd,Bs,A5,Nat.reduceAdd,h2];refine Ad λc w3 h3 n3 k3=>?_;have k03:=Aj k02.drew k3;have g3:=h.Ab k03;simp only[sb,g3.hd,Bs,A5,Nat.reduceAdd];refine⟨by trivial,?_⟩;have hs:=g3.r.ou.ok;have hl:=hs.BY;refine AE.app (ρ:=Yz) (new:=[{x with src:=X.c.id}]) hs (by rw[List.flatMap_singleton];exact BI (ρ:=Yz) (x:={x with src:=X.c.id}) h3) rfl (by rw[AhR];rfl) (by omega) (by omega) ?_;intro r w4 h4 k4 f4;have s4:CH 6 T (AX 6 r T) w3 w4:=CH.row k4 (λb hb=>(g3.r.ou.tag b hb).2) f4;refine g3.uOu k4 h4 f4 (λy hy=>?_) λw5 h5 e5=>?_
 ·rcases List.mem_append.1 hy with hy|hy
  ·exact(g3.r.Wp y hy).kt (by decide) s4
  ·rw[List.mem_singleton]at hy;subst hy;exact(hx.Ab k03).kt (by decide) s4
 ·exact k r _ w5 h5 ((Aq.k0 k03).trans e5)
theorem V6 (h:A6 w m T X)(Ah code:Int)(sr:Sl)(rs:List Rs)(hr:Bq T (Yi sr rs) w)(hN:X.d.out.length<=100000){K:TR []->Pr}(k:∀so T' w',A6 w' m T' {X with d:={X.d with Er:=so,out:=X.d.out++[⟨4,X.c.id,0,0,code,0,0,0,Ah,0,0,0,0,0,0,false,BA [],BA [],⟨none,0,0⟩,sr,⟨none,0,0⟩,[],rs,[]⟩]}}->Aq T T' w w'->K () w'):
  Cl Pg 117 [.pointer (some ⟨m,0,none⟩),.int .u64 Ah,.int .i64 code,.slice sr.p sr.len sr.cap] true [] K w:=by
 refine Lf _ _ _ _ ?_;unfold Iv;dsimp only[Vb,Vi,Vp,Vs,Vt,Vu];refine KD h ⟨4,0,0,0,code,0,0,0,Ah,0,0,0,0,0,0,false,BA [],BA [],⟨none,0,0⟩,sr,⟨none,0,0⟩,[],rs,[]⟩ ?_ hN k;exact(Bq.NI λw=>A1.nil w).and (hr.and (Bq.NI λw=>A1.nil w))
theorem Nj (h:A6 w m T X)(hs:X.d.wait.Pairwise (λa b=>a.Ah<b.Ah))(hN:X.d.wait.length<=100000)(t:Int){K:TR [.sc (.i .i64),.sc .b]->Pr}(k:∀w',Aa [] w w'->K ((Ba (λx:Wt=>BC x.Ah t) X.d.wait:Int),Ee (λx:Wt=>BC x.Ah t) X.d.wait,()) w'):Cl Pg 115 [.pointer (some ⟨m,0,none⟩),.int .u64 t] true [.sc (.i .i64),.sc .b] K w:=by
 refine HY _ _ ?_;unfold FI;dsimp only[Ll,Vs,Vu];simp only[sb,h.hd,Bs];refine VF (c:=λx:Wt=>BC x.Ah t) h.r.wa.ok.C6 ?_ ?_ (by omega) λw' k'=>k w' k'
 ·intro w1 k1 x _ K1 hK;refine Ap (by kernel_rfl) ?_;refine GB _ x.so x.sk _ _ ?_;unfold EL;dsimp only[RL,Lu,Vu];refine Ad λb w2 h2 n2 k2=>?_;simp only[sb,h2];exact QV _ _ (hK _ k2)
 ·exact hs.imp λh=>by rw[Dq,Dq];omega
theorem Aa6 (h:A6 w m T X)(hs:X.d.held.Pairwise (λa b=>a.Ah<b.Ah))(hN:X.d.held.length<=100000)(t:Int){K:TR [.sc (.i .i64),.sc .b]->Pr}(k:∀w',Aa [] w w'->K ((Ba (λx:Hd=>BC x.Ah t) X.d.held:Int),Ee (λx:Hd=>BC x.Ah t) X.d.held,()) w'):Cl Pg 116 [.pointer (some ⟨m,0,none⟩),.int .u64 t] true [.sc (.i .i64),.sc .b] K w:=by
 refine Lm _ _ ?_;unfold Iq;dsimp only[Ll,Vs,Vu];simp only[sb,h.hd,Bs];refine VE (c:=λx:Hd=>BC x.Ah t) h.r.he.ok.C6 ?_ ?_ (by omega) λw' k'=>k w' k'
 ·intro w1 k1 x _ K1 hK;refine Ap (by kernel_rfl) ?_;refine IU _ x.so _ ?_;unfold G3;dsimp only[Lu,Vs,Vu];refine Ad λb w2 h2 n2 k2=>?_;simp only[sb,h2];exact QV _ _ (hK _ k2)
 ·exact hs.imp λh=>by rw[Dq,Dq];omega
def Gc (b:Bool)(l:List Int):List Ev:=l.map (⟨·,b⟩)
theorem Af8 (h:A6 w m T X){sg sd:Sl}{g d:List Int}(hg:Bq T (λw=>AE w sg 1 (cU g)) w)(hd:Bq T (λw=>AE w sd 1 (cU d)) w)(hN:X.d.line.length+g.length+d.length<=100000){K:TR []->Pr}(k:∀sl T' w',A6 w' m T' {X with d:={X.d with Mm:=sl,line:=X.d.line++Gc true d++Gc false g}}->Aq T T' w w'->K () w'):
  Cl Pg 214 [.pointer (some ⟨m,0,none⟩),.slice sg.p sg.len sg.cap,.slice sd.p sd.len sd.cap] true [] K w:=by
 have hlg:=DJ hg.ok;have hld:=DJ hd.ok
 have add:∀{w1:World} {T1:Nat->Nat} {X1:Mc} (y:Ev) {J:Pr},A6 w1 m T1 X1->X1.d.line.length<=100000->(∀sl T' w',A6 w' m T' {X1 with d:={X1.d with Mm:=sl,line:=X1.d.line++[y]}}->Aq T1 T' w1 w'->J w') ->
   (Nn (some ⟨m,0,none⟩) λa5=>DN (a5.add 24) λx6=>At #[(.int .u64 y.Ah),(.bool y.dead)] 282 λa7=>App 282 2 16 (zc Pg 282) x6 1 (BH (some a7) 1 2) λr8=>Nn (some ⟨m,0,none⟩) λa9=>St (a9.add 24) (.slice r8.p r8.len r8.cap) J) w1:=by
  intro w1 T1 X1 y J h1 hN hJ;simp only[sb,h1.hd,Bs];refine Ad λc w2 h2 n2 k2=>?_;have g2:=h1.Ab k2;have hs:=g2.r.li.ok;have hl:=hs.BY;refine AE.app (ρ:=evR) (new:=[y]) hs (by rw[List.flatMap_singleton];exact BI (ρ:=evR) (x:=y) h2) rfl (by rw[AdC];rfl) (by omega) (by omega) ?_;intro r w3 h3 k3 f3;refine g2.uLi k3 h3 f3 λw4 h4 e4=>?_;exact hJ r _ w4 h4 ((Aq.k0 k2).trans e4)
 refine KM _ _ _ ?_;unfold Ii;dsimp only[Ll,Ts,Vb,Vu];refine⟨λn st w'=>∃(i:Nat) (sl:Sl) (T':Nat->Nat),st=((i:Int),())/\n=d.length-i/\i<=d.length/\A6 w' m T' {X with d:={X.d with Mm:=sl,line:=X.d.line++Gc true (d.take i)}}/\Aq T T' w w',⟨_,0,X.d.Mm,T,rfl,rfl,by omega,by rw[List.take_zero,Gc,List.map_nil,List.append_nil];exact h,Aq.refl _ _⟩,?_⟩;rintro n _ w1 ⟨i,sl,T1,rfl,rfl,hi,h1,e1⟩;dsimp only;by_cases hlt:i<d.length
 ·rw[decide_eq_true (by omega)];simp only[Af];obtain⟨y,hy⟩:∃y,d[i]?=some y:=⟨_,List.getElem?_eq_getElem hlt⟩;refine RT (hd.Bm e1).ok hy ?_;refine add ⟨y,true⟩ h1 (by dsimp only;rw[List.length_append,Gc,List.length_map,List.length_take];omega) ?_;intro sl' T' w2 h2 e2;refine⟨d.length-(i+1),by omega,i+1,sl',T',by rw[AK (by omega)],rfl,by omega,?_,e1.trans e2⟩;dsimp only at h2;rw[List.append_assoc]at h2;rw[List.take_add_one,hy,Gc,List.map_append];exact h2
 ·rw[decide_eq_false (by omega)];rw[List.take_of_length_le (by omega)]at h1;simp only[Ae];refine⟨λn st w'=>∃(i:Nat) (sl:Sl) (T':Nat->Nat),st=((i:Int),())/\n=g.length-i/\i<=g.length/\A6 w' m T' {X with d:={X.d with Mm:=sl,line:=X.d.line++Gc true d++Gc false (g.take i)}}/\Aq T T' w w',⟨_,0,sl,T1,rfl,rfl,by omega,by rw[List.take_zero,show Gc false []=[]from rfl,List.append_nil];exact h1,e1⟩,?_⟩;rintro n _ w2 ⟨i,sl,T2,rfl,rfl,hi,h2,e2⟩;dsimp only;by_cases hlt:i<g.length
  ·rw[decide_eq_true (by omega)];simp only[Af];obtain⟨y,hy⟩:∃y,g[i]?=some y:=⟨_,List.getElem?_eq_getElem hlt⟩;refine RT (hg.Bm e2).ok hy ?_;refine add ⟨y,false⟩ h2 (by dsimp only;rw[List.length_append,List.length_append,Gc,Gc,List.length_map,List.length_map,List.length_take];omega) ?_;intro sl' T' w3 h3 e3;refine⟨g.length-(i+1),by omega,i+1,sl',T',by rw[AK (by omega)],rfl,by omega,?_,e2.trans e3⟩;dsimp only at h3;rw[List.append_assoc]at h3;rw[List.take_add_one,hy,show Gc false (g.take i++(some y).toList)=Gc false (g.take i)++[⟨y,false⟩]from by rw[Gc,List.map_append];rfl];exact h3
  ·rw[decide_eq_false (by omega)];rw[List.take_of_length_le (by omega)]at h2;exact k sl T2 w2 h2 e2
open Go Go.Sx
variable {α:Type}
theorem WC (p:α->Bool)(l:List α):l.length=(l.filter p).length+(l.filter (λx=>!p x)).length:=by
 induction l with
 |nil=>rfl
 |cons a l ih=>simp only[List.filter_cons,List.length_cons];cases p a<;>simp<;>omega
theorem Aff (l:List Int)(n:Int):(O5 l n).length<=l.length+1:=by
 induction l with
 |nil=>simp[O5]
 |cons a l ih=>
  unfold O5
  repeat' split
  all_goals simp only[List.length_cons]
  all_goals omega
theorem JZ (l:List Int):(Dk l).length<=l.length:=by
 have:∀(l acc:List Int),(l.foldl O5 acc).length<=acc.length+l.length:=by
  intro l;induction l with
  |nil=>intro acc;simp
  |cons a l ih=>
   intro acc;have h1:=ih (O5 acc a);have h2:=Aff acc a;simp only[List.foldl_cons,List.length_cons];omega
 have h:=this l [];simp only[List.length_nil,Nat.zero_add]at h;exact h
theorem Vd (d:List Int):∀s:TS,(Ca d s).wait=s.wait.filter (λy=>!d.contains y.n):=by
 induction d with
 |nil=>intro s;exact(List.filter_eq_self.2 λ_ _=>rfl).symm
 |cons n d ih=>
  intro s;show(Ca d (CJ n s)).wait=_;rw[ih];simp only[CJ,List.filter_filter];refine List.filter_congr λy _=>?_;rw[List.contains_cons];cases y.n==n<;>simp
theorem WD (x:Ak)(l:List Ak):(l.filter (λy=>!(Ed x l).contains y.n)).length+(Ed x l).length<=l.length:=by
 unfold Ed;rw[List.length_map];have h1:=WC (λw=>decide (x.n<w.n)&&B8 x w) l;have h2:(l.filter (λy=>!((l.filter (λw=>decide (x.n<w.n)&&B8 x w)).map (·.n)).contains y.n)).length<=(l.filter (λw=>!(decide (x.n<w.n)&&B8 x w))).length:=by
  refine List.Sublist.length_le ?_;have:l.filter (λy=>!((l.filter (λw=>decide (x.n<w.n)&&B8 x w)).map (·.n)).contains y.n)=(l.filter (λw=>!(decide (x.n<w.n)&&B8 x w))).filter (λy=>!((l.filter (λw=>decide (x.n<w.n)&&B8 x w)).map (·.n)).contains y.n):=by
   rw[List.filter_filter];refine List.filter_congr λy hy=>?_;cases hq:(decide (x.n<y.n)&&B8 x y)with
   |false=>simp
   |true=>
    have:((l.filter (λw=>decide (x.n<w.n)&&B8 x w)).map (·.n)).contains y.n=true:=by
     rw[List.contains_iff_mem];exact List.mem_map.2 ⟨y,List.mem_filter.2 ⟨hy,hq⟩,rfl⟩
    rw[this];rfl
  rw[this];exact List.filter_sublist
 omega
theorem M5:∀(k:Nat) (s:TS) (g d:List Int),(AT k s g d).2.1.length+(AT k s g d).2.2.length+(AT k s g d).1.wait.length<=g.length+d.length+s.wait.length
 |0,s,g,d=>Nat.le_refl _
 |k+1,s,g,d=>by
  unfold AT;cases hf:s.wait.find? (P1 s)with
  |none=>exact Nat.le_refl _
  |some x=>
   dsimp only;have h1:=M5 k (Dd x s).2 (g++[x.n]) (d++(Dd x s).1);have h2:(Dd x s).2.wait.length+(Dd x s).1.length+1<=s.wait.length:=by
    unfold Dd AL;dsimp only;rw[Vd];have h3:=WD x (s.wait.filter (λy=>!(y.n==x.n)));have h4:=GF (List.mem_of_find?_eq_some hf);dsimp only;omega
   rw[List.length_append,List.length_append,List.length_singleton]at h1;omega
theorem Zi (n:Int)(s:TS):(ES n s).1.1.length+(ES n s).1.2.length+(ES n s).2.wait.length<=s.wait.length:=by
 unfold ES;dsimp only;have h1:=M5 (CJ n s).wait.length (CJ n s) [] [];have h2:(CJ n s).wait.length<=s.wait.length:=List.length_filter_le _ _;have h3:=JZ (AT (CJ n s).wait.length (CJ n s) [] []).2.1;have h4:=JZ (AT (CJ n s).wait.length (CJ n s) [] []).2.2;simp only[List.length_nil]at h1;omega
theorem YA (x:Ak)(s:TS):(Bc x s).1.2.1.length+(Bc x s).1.2.2.1.length+(Bc x s).2.wait.length<=s.wait.length+1:=by
 unfold Bc
 repeat' split
 all_goals (try (simp;done))
 ·have h1:=M5 (AL x s).2.wait.length (AL x s).2 [] (AL x s).1;have h3:=JZ (AT (AL x s).2.wait.length (AL x s).2 [] (AL x s).1).2.1;have h4:=JZ (AT (AL x s).2.wait.length (AL x s).2 [] (AL x s).1).2.2;have h5:(AL x s).2.wait.length+(AL x s).1.length<=s.wait.length:=by
   unfold AL;dsimp only;rw[Vd];exact WD x s.wait
  simp only[List.length_nil]at h1;dsimp only;omega
 ·have:(QN x s.wait).length=s.wait.length+1:=by
   unfold QN;have h1:=WC (λy=>decide (y.n<x.n)) s.wait;rw[List.length_append,List.length_cons];omega
  simp[this]
variable {l:List Int}
theorem Bq.cu (h:AE w s 1 (cU l))(ht:∀b∈Ai s,T b=0):Bq T (λw=>AE w s 1 (cU l)) w:=
 ⟨h,λw' _ hw=>h.heap λb hb=>hw b (h.lt b hb) (ht b hb)⟩
theorem Aet (h:A6 w m T X){s':TS}{a b:Sl}{g d:List Int}(hl:Left w w' X.d.tb X.d.tH s' a b g d):
  ∃T' H',A6 w' m T' {X with d:={X.d with tH:=H',BS:=s'}}/\Aq T T' w w'/\Bq T' (λw=>AE w a 1 (cU g)) w'/\Bq T' (λw=>AE w b 1 (cU d)) w':=by
 obtain⟨H',h1,f1,k1,ha,hb,na,nb,_⟩:=hl;obtain⟨h2,e2⟩:=h.uTa h1 f1 k1;refine⟨_,H',h2,e2,Bq.cu ha λy hy=>?_,Bq.cu hb λy hy=>?_⟩
 ·unfold XE;rw[if_neg (na y hy).2];exact h.new (na y hy).1
 ·unfold XE;rw[if_neg (nb y hy).2];exact h.new (nb y hy).1
theorem Ahs (h:A6 w m T X)(ho:IP X.d.BS)(x:Ak){K:TR [.sc (.i .i64),.sc .sl,.sc .sl,.sc (.i .i64)]->Pr}(k:∀sg sd T' H' w',A6 w' m T' {X with d:={X.d with tH:=H',BS:=(Bc x X.d.BS).2}}->Aq T T' w w'->Bq T' (λw=>AE w sg 1 (cU (Bc x X.d.BS).1.2.1)) w'->Bq T' (λw=>AE w sd 1 (cU (Bc x X.d.BS).1.2.2.1)) w' ->
   K ((Bc x X.d.BS).1.1,sg,sd,(Bc x X.d.BS).1.2.2.2,()) w'):
  Cl Pg 29 [.pointer (some ⟨X.d.tb,0,none⟩),.int .u64 x.n,.agg #[.string x.lo,.string x.hi,.bool x.wr]] true [.sc (.i .i64),.sc .sl,.sc .sl,.sc (.i .i64)] K w:=by
 refine Cl.mono (Aix h.r.ta.ok ho x) ?_;rintro⟨r,sg,sd,e,_⟩ w' ⟨h1,h2,h3⟩;dsimp only at h1 h2 h3;obtain⟨T',H',g1,g2,g3,g4⟩:=Aet h h3;rw[h1,h2];exact k sg sd T' H' w' g1 g2 g3 g4
theorem W1 (h:A6 w m T X)(ho:IP X.d.BS)(n:Int)(hN:X.d.line.length<=90000){K:TR []->Pr}(k:∀sl T' H' w',A6 w' m T' {X with d:={X.d with tH:=H',BS:=(ES n X.d.BS).2,Mm:=sl,line:=X.d.line++Gc true (ES n X.d.BS).1.2++Gc false (ES n X.d.BS).1.1}}->Aq T T' w w'->K () w'):
  Cl Pg 215 [.pointer (some ⟨m,0,none⟩),.int .u64 n] true [] K w:=by
 refine HR _ _ ?_;unfold FA;dsimp only[Hr,Vp,Vs,Vu];simp only[sb,h.hd,Bs];refine Cl.mono (Abq h.r.ta.ok ho n) ?_;rintro⟨sg,sd,_⟩ w1 h1;dsimp only at h1;obtain⟨T1,H1,g1,g2,g3,g4⟩:=Aet h h1;have ht:=Zi n X.d.BS;have hf:=ho.few;refine Af8 g1 g3 g4 (by dsimp only;omega) ?_;intro sl T2 w2 h2 e2;exact k sl T2 H1 w2 h2 (g2.trans e2)
theorem AaX {m:List Pa}(h:AU m):BM m (BA []) (BA []) (-1)=m:=by
 unfold BM;rw[if_pos (by decide)];refine List.filter_eq_self.2 λp hp=>?_;unfold DP;rw[(h.ok p hp).1];have e1:Da (BA []) (BA [])=true:=by unfold Da;rw[seq_eq,decide_eq_true rfl];rfl
 have e2:slt p.k (BA [])=false:=by
  cases hs:slt p.k (BA [])with
  |false=>rfl
  |true=>
   have:=Ct hs;rw[Ws]at this;have hk:=(h.ok p hp).1;unfold Kx at hk;simp at this;rw[this]at hk;simp at hk
 rw[e1,e2,seq_eq];rfl
theorem ZE {BD:Nat}{sM:Sl}{M:List Pa}(h:w.heap[BD]?=some (.cells #[.slice sM.p sM.len sM.cap] 27 (0,0))∧A1 C2 w sM M)(hN:M.length≤1000000)(lo hi:ByteArray)(AD:Int){K:TR [.sc .sl,.sc (.i .i64)]→Pr}(k : ∀ r w', Bh C2 w' r (BM M lo hi AD) → (∀ x ∈ Ai r, w.heap.size ≤ x) → Aa [] w w' → K (r, 0, ()) w'): Inv Pg (stV BD) "Scan" [.agg #[.string lo, .string hi], .int .i64 AD] true [.sc .sl, .sc (.i .i64)] K w := by
 refine Aie (f:=328) (by kernel_rfl) ?_;refine FZ _ _ _ _ ?_;unfold El;dsimp only[Ll,Ls,Vi,Vs,Vt];refine Ad λa w1 h1 n1 k1=>?_;have hs:=k1.Aw h.1;simp only[sb,h1,hs];refine Zj (h.2.Ab k1.drew) (by omega) lo hi AD ?_;intro r w2 h2 f2 k2;have hl:=h2.BY;have hwl:(BM M lo hi AD).length<=M.length:=by
  have:=List.length_filter_le (λp:Pa=>DP lo hi p.k) M;unfold BM;split
  ·exact this
  ·rw[List.length_take];omega
 refine AE.app (ρ:=C2) (l:=[]) (new:=BM M lo hi AD) (AE.nil _ _) h2.C6.rd hl (by rw[Fm];rfl) (by dsimp only;omega) (by dsimp only;omega) ?_;intro r' w3 h3 k3 f3;have k3:Aa [] w2 w3:=k3;have k02:=Aj k1.drew k2;refine k r' w3 h3 (λx hx=>?_) (Aj k02 k3);rcases f3 x hx with h'|h'
 ·simp[Ai]at h'
 ·have:=k02.size;omega
theorem W8 (h:A6 w m T X)(hM:AU X.d.M)(hMN:X.d.M.length<=300000)(hw:A9 X.d.writes=0)(hwN:X.d.writes.length<=100000){so:Sl}{ops:List Op}(hop:A1 BQ w so ops)(ho:A9 ops=0)(hoN:ops.length<=100000){K:TR [.sc .sl]->Pr}(k:∀sr rs w',Aa [] w w'->Bq T (Yi sr rs) w'->rs.map Rs.p=(Bd (Bd X.d.M X.d.writes).1 ops).2->K (sr,()) w'):Cl Pg 118 [.pointer (some ⟨m,0,none⟩),.slice so.p so.len so.cap] false [.sc .sl] K w:=by
 refine Ib _ _ ?_;unfold FC;dsimp only[Ll,Ti,Vi,Vs,Vt];simp only[sb,h.hd,Bs];refine ZE h.r.RF.ok (by omega) _ _ _ ?_;intro r1 w1 h1 f1 k1;rw[AaX hM]at h1;have g1:=h.Ab k1;simp only[show((0:Int) !=0)=false from rfl,sb,g1.hd,Bs,A5,Nat.reduceAdd];refine Ab5 h1.C6 g1.r.wr.ok.C6 (by omega) (by omega) ?_ ?_
 ·intro _ _ r2 r3 rs2 w2 h2 h3 h4 h5 h6 h7 k2;have k02:=Aj k1 k2;simp only[show((0:Int) !=0)=false from rfl,sb];obtain⟨l1,_⟩:=He X.d.M X.d.writes;refine Ab5 h2.C6 (hop.Ab k02) (by omega) (by omega) ?_ ?_
  ·intro _ _ r4 r5 rs5 w3 q2 q3 q4 q5 q6 q7 k3;have k03:=Aj k02 k3;have s02:=k02.size;refine k r5 rs5 w3 k03 ?_ q4;have hz:∀b,w2.heap.size<=b->T b=0:=λb hb=>h.new (by omega);refine⟨⟨q3.C6,λy hy=>(q5 y hy).1⟩,λw4 hs4 hw4=>⟨q3.C6.heap λb hb=>hw4 b (q3.C6.lt b hb) (hz b (q7 b (q3.rb b hb))),λy hy=>A1.heap (q5 y hy).1 λb hb=>hw4 b (A1.lt (q5 y hy).1 b hb) (hz b ((q5 y hy).2 b hb).1)⟩⟩
  ·intro e w3 he;rcases he with he|he
   ·exact absurd (Nq hM hw) he
   ·exact absurd ho he
 ·intro e w2 he;rcases he with he|he
  ·exact absurd hM he
  ·exact absurd hw he
open Go Go.Sx
structure PW where
 Ah:Int
 ops:List Op
 BB:List Lk
 next:Int
deriving DecidableEq
structure PH where
 Ah:Int
 ops:List Op
deriving DecidableEq
structure PM where
 kind:Int
 src:Int
 dst:Int
 Ch:Int
 code:Int
 peer:Int
 VT:Int
 Au:Int
 Ah:Int
 low:Int
 CZ:Int
 Ao:Int
 move:Int
 attempt:Int
 n:Int
 flag:Bool
 FN:ByteArray
 G6:ByteArray
 ops:List Op
 results:List Rp
 Ac:List Ow
deriving DecidableEq
structure PB where
 move:Int
 n:Int
 lo:ByteArray
 hi:ByteArray
 peer:Int
 B9:Bool
 under:Bool
 all:Bool
 H5:ByteArray
 load:List Op
 row:List Op
structure PS where
 c:Sc
 Ac:List Ow
 held:List PH
 fin:List Int
 wait:List PW
 BS:TS
 out:List PM
 writes:List Op
 line:List Ev
 box:Option PB
 M:List Pa
def Wt.p (x:Wt):PW:=⟨x.Ah,x.ops,x.BB,x.next⟩
def Hd.p (x:Hd):PH:=⟨x.Ah,x.ops⟩
def Mg.p (x:Mg):PM:=⟨x.kind,x.src,x.dst,x.Ch,x.code,x.peer,x.VT,x.Au,x.Ah,x.low,x.CZ,x.Ao,x.move,x.attempt,x.n,x.flag,x.FN,x.G6,x.ops,x.results.map Rs.p,x.Ac⟩
def Bx.p (b:Bx):PB:=⟨b.move,b.n,b.lo,b.hi,b.peer,b.B9,b.under,b.all,b.H5,b.load,b.row⟩
def Mc.p (X:Mc):PS:=⟨X.c,X.d.Ac,X.d.held.map Hd.p,X.d.fin,X.d.wait.map Wt.p,X.d.BS,X.d.out.map Mg.p,X.d.writes,X.d.line,X.d.bx.map λ_=>X.d.box.p,X.d.M⟩
def PM.zero:PM:=⟨0,0,0,0,0,0,0,0,0,0,0,0,0,0,0,false,BA [],BA [],[],[],[]⟩
namespace PS
def send (P:PS)(x:PM):PS:={P with out:=P.out++[{x with src:=P.c.id}]}
def Df (P:PS)(Ah code:Int)(rs:List Rp):PS:=P.send {PM.zero with kind:=4,Ah:=Ah,code:=code,results:=rs}
def told (P:PS)(g d:List Int):PS:={P with line:=P.line++Gc true d++Gc false g}
def release (P:PS)(n:Int):PS:=({P with BS:=(ES n P.BS).2}).told (ES n P.BS).1.1 (ES n P.BS).1.2
def results (P:PS)(ops:List Op):List Rp:=(Bd (Bd P.M P.writes).1 ops).2
def Ce (P:PS)(t:Int):Nat:=Ba (λx:PW=>BC x.Ah t) P.wait
def DY (P:PS)(t:Int):Nat:=Ba (λx:PH=>BC x.Ah t) P.held
def Pb (P:PS)(t:Int):Bool:=Ee (λx:PW=>BC x.Ah t) P.wait
def TJ (P:PS)(t:Int):Bool:=Ee (λx:PH=>BC x.Ah t) P.held
def Ay (P:PS)(i:Nat):PS:={P with wait:=P.wait.take i++P.wait.drop (i+1)}
def hold (P:PS)(t:Int)(ops:List Op):PS:={P with held:=P.held.take (P.DY t)++⟨t,ops⟩::P.held.drop (P.DY t)}
def Cq (P:PS)(i:Nat)(x:PW)(lk:Lk):PS:=({P with BS:=(Bc ⟨x.Ah,lk.lo,lk.hi,lk.wr⟩ P.BS).2,wait:=P.wait.set i {x with next:=x.next+1}}).told (Bc ⟨x.Ah,lk.lo,lk.hi,lk.wr⟩ P.BS).1.2.1 (Bc ⟨x.Ah,lk.lo,lk.hi,lk.wr⟩ P.BS).1.2.2.1
def Cw:Nat->PS->Int->PS
 |0,P,_=>P
 |f+1,P,t=>
  if !P.Pb t then P
  else match P.wait[P.Ce t]? with
   |none=>P
   |some x=>
    if x.next=x.BB.length then(((P.Ay (P.Ce t)).hold t x.ops).Df t 3 (((P.Ay (P.Ce t)).hold t x.ops).results x.ops))
    else match x.BB[x.next.toNat]? with
     |none=>P
     |some lk=>
      if(Bc ⟨x.Ah,lk.lo,lk.hi,lk.wr⟩ P.BS).1.1=2 then P.Cq (P.Ce t) x lk
      else if(Bc ⟨x.Ah,lk.lo,lk.hi,lk.wr⟩ P.BS).1.1=3 then(((P.Cq (P.Ce t) x lk).Ay (P.Ce t)).Df t 5 []).release t
      else Cw f (P.Cq (P.Ce t) x lk) t
def KL (x:PW):Nat:=x.BB.length-x.next.toNat
def left (P:PS):Nat:=2*(P.wait.map KL).sum+P.BS.wait.length+P.line.length+P.wait.length
def event (P:PS)(ev:Ev):PS:=if !ev.dead then P.Cw 30 ev.Ah else if P.Pb ev.Ah then(P.Ay (P.Ce ev.Ah)).Df ev.Ah 5 []else P
def through:Nat->PS->PS
 |0,P=>P
 |f+1,P=>match P.line with
  |[]=>P
  |ev::l=>through f (({P with line:=l}:PS).event ev)
end PS
structure Bj (P:PS):Prop where
 wt:P.wait.Pairwise (λa b=>a.Ah<b.Ah)
 hd:P.held.Pairwise (λa b=>a.Ah<b.Ah)
 dj:∀x∈P.wait,∀y∈P.held,x.Ah≠y.Ah
 fn:P.fin.Pairwise (· < ·)
 tb:IP P.BS
 wv:∀x∈P.wait,A9 x.ops=0/\x.ops.length<=24/\x.BB=x.ops.map AI/\0<=x.next/\x.next<=x.BB.length
 hv:∀x∈P.held,A9 x.ops=0/\x.ops.length<=24
 mp:AU P.M
 mn:P.M.length<=200000
 wr:A9 P.writes=0
 wn:P.writes.length<=1000
 er:P.c.e=0
 bd:P.out.length+P.left<=20000
 hn:P.held.length+P.wait.length<=1000
 fl:P.fin.length<=100000
theorem Ahp {f:α->Int}{l:List α}(hs:l.Pairwise (λa b=>f a<f b)){t:Int}(h:Ee (λx=>BC (f x) t) l=true):∃x,l[Ba (λx=>BC (f x) t) l]?=some x/\f x=t:=by
 unfold Ee at h;split at h
 ·rename_i x hx;rw[Xk,decide_eq_true_iff]at h;exact⟨x,hx,h⟩
 ·cases h
theorem Abr {f:α->Int}{l:List α}(hs:l.Pairwise (λa b=>f a<f b)){t:Int}(h:Ee (λx=>BC (f x) t) l=false):∀x∈l,f x≠t:=by
 intro x hx e;obtain⟨h1,h2⟩:=Po hs t;obtain⟨j,hj⟩:=List.getElem?_of_mem hx;have hjl:=(List.getElem?_eq_some_iff.1 hj).1;have hle:Ba (λx=>BC (f x) t) l<=j:=by
  rcases Nat.lt_or_ge j (Ba (λx=>BC (f x) t) l)with h'|h'
  ·have:=h1 x (List.mem_of_getElem? (by rw[List.getElem?_take,if_pos h',hj]));omega
  ·exact h'
 obtain⟨y,hy⟩:∃y,l[Ba (λx=>BC (f x) t) l]?=some y:=⟨_,List.getElem?_eq_getElem (by omega)⟩;have hy2:=h2 y (List.mem_of_getElem? (i:=0) (by rw[List.getElem?_drop];exact hy));unfold Ee at h;rw[hy]at h;dsimp only at h;rw[Xk,decide_eq_false_iff_not]at h;rcases Nat.lt_or_ge (Ba (λx=>BC (f x) t) l) j with h'|h'
 ·have h3:=List.pairwise_iff_getElem.1 hs _ _ (by omega) hjl h';rw[(List.getElem?_eq_some_iff.1 hy).2,(List.getElem?_eq_some_iff.1 hj).2]at h3;omega
 ·have:j=Ba (λx=>BC (f x) t) l:=by omega
  rw[<-this,hj]at hy;injection hy with hy;rw[hy]at e;exact h e
theorem Aas {f:α->Int}{l:List α}(hs:l.Pairwise (λa b=>f a<f b)){x:α}(hn:∀y∈l,f y≠f x):(l.take (Ba (λy=>BC (f y) (f x)) l)++x::l.drop (Ba (λy=>BC (f y) (f x)) l)).Pairwise (λa b=>f a<f b):=by
 obtain⟨h1,h2⟩:=Po hs (f x);rw[List.pairwise_append];refine⟨hs.sublist (List.take_sublist _ _),List.pairwise_cons.2 ⟨λy hy=>?_,hs.sublist (List.drop_sublist _ _)⟩,λa ha b hb=>?_⟩
 ·have:=h2 y hy;have:=hn y (List.mem_of_mem_drop hy);omega
 ·have:=h1 a ha;rcases List.mem_cons.1 hb with rfl|hb
  ·exact this
  ·have:=h2 b hb;omega
theorem Bp (l:List α)(i:Nat):List.Sublist (l.take i++l.drop (i+1)) l:=by
 rw[<-List.eraseIdx_eq_take_drop_succ];exact List.eraseIdx_sublist l i
theorem W7 (l:List PW)(i:Nat)(x:PW)(hx:l[i]?=some x):(l.map PS.KL).sum=((l.take i++l.drop (i+1)).map PS.KL).sum+PS.KL x:=by
 have hlt:=(List.getElem?_eq_some_iff.1 hx).1
 conv=>lhs;rw[<-List.take_append_drop i l,List.drop_eq_getElem_cons hlt,(List.getElem?_eq_some_iff.1 hx).2]
 simp only[List.map_append,List.sum_append,List.map_cons,List.sum_cons];omega
theorem Age (l:List PW)(i:Nat)(x y:PW)(hx:l[i]?=some x):((l.set i y).map PS.KL).sum+PS.KL x=(l.map PS.KL).sum+PS.KL y:=by
 have hlt:=(List.getElem?_eq_some_iff.1 hx).1;rw[W7 l i x hx,List.set_eq_take_append_cons_drop,if_pos hlt];simp only[List.map_append,List.sum_append,List.map_cons,List.sum_cons];omega
theorem Jw (l:List α)(i:Nat)(hi:i<l.length):(l.take i++l.drop (i+1)).length+1=l.length:=by
 rw[List.length_append,List.length_take,List.length_drop];omega
theorem To (b:Bool)(l:List Int):(Gc b l).length=l.length:=by simp[Gc]
theorem Bj.Ay {P:PS}(h:Bj P){i:Nat}{x:PW}(hx:P.wait[i]?=some x):Bj (P.Ay i)/\(P.Ay i).out.length+(P.Ay i).left+1<=P.out.length+P.left:=by
 have hi:=(List.getElem?_eq_some_iff.1 hx).1;have hs:=Bp P.wait i;have h1:=W7 P.wait i x hx;have h2:=Jw P.wait i hi;have hb:(P.Ay i).out.length+(P.Ay i).left+1<=P.out.length+P.left:=by
  unfold PS.Ay PS.left;dsimp only;omega
 refine⟨⟨h.wt.sublist hs,h.hd,λy hy=>h.dj y (hs.subset hy),h.fn,h.tb,λy hy=>h.wv y (hs.subset hy),h.hv,h.mp,h.mn,h.wr,h.wn,h.er,?_,?_,h.fl⟩,hb⟩
 ·have:=h.bd;omega
 ·show P.held.length+(P.wait.take i++P.wait.drop (i+1)).length<=1000;have:=h.hn;omega
variable {P:PS}
theorem Bj.Df (h:Bj P)(t code:Int)(rs:List Rp)(hb:P.out.length+1+P.left<=20000):Bj (P.Df t code rs):=
 ⟨h.wt,h.hd,h.dj,h.fn,h.tb,h.wv,h.hv,h.mp,h.mn,h.wr,h.wn,h.er,by
  show(P.out++[_]).length+P.left<=20000;rw[List.length_append,List.length_singleton];exact hb,h.hn,h.fl⟩
theorem Bj.release {P:PS}(h:Bj P)(t:Int):Bj (P.release t)/\(P.release t).out.length+(P.release t).left<=P.out.length+P.left:=by
 have h1:=Zi t P.BS;have hb:(P.release t).out.length+(P.release t).left<=P.out.length+P.left:=by
  unfold PS.release PS.told PS.left;dsimp only;rw[List.length_append,List.length_append,To,To];omega
 exact⟨⟨h.wt,h.hd,h.dj,h.fn,AfO h.tb,h.wv,h.hv,h.mp,h.mn,h.wr,h.wn,h.er,Nat.le_trans hb h.bd,h.hn,h.fl⟩,hb⟩
theorem Bj.hold (h:Bj P){t:Int}{ops:List Op}(ho:A9 ops=0)(hl:ops.length<=24)(hw:∀x∈P.wait,x.Ah≠t)(hn:∀x∈P.held,x.Ah≠t)(hc:P.held.length+P.wait.length<1000):Bj (P.hold t ops):=by
 have hmem:∀y,y∈P.held.take (P.DY t)++⟨t,ops⟩::P.held.drop (P.DY t)->y=⟨t,ops⟩\/y∈P.held:=by
  intro y hy;rcases List.mem_append.1 hy with hy|hy
  ·exact .inr (List.mem_of_mem_take hy)
  ·rcases List.mem_cons.1 hy with hy|hy
   ·exact .inl hy
   ·exact .inr (List.mem_of_mem_drop hy)
 refine⟨h.wt,Aas (f:=PH.Ah) (x:=⟨t,ops⟩) h.hd hn,λx hx y hy=>?_,h.fn,h.tb,h.wv,λy hy=>?_,h.mp,h.mn,h.wr,h.wn,h.er,h.bd,?_,h.fl⟩
 ·rcases hmem y hy with rfl|hy
  ·exact hw x hx
  ·exact h.dj x hx y hy
 ·rcases hmem y hy with rfl|hy
  ·exact⟨ho,hl⟩
  ·exact h.hv y hy
 ·show(P.held.take (P.DY t)++⟨t,ops⟩::P.held.drop (P.DY t)).length+P.wait.length<=1000;rw[List.length_append,List.length_cons,List.length_take,List.length_drop];have:P.DY t<=P.held.length:=Dv _ _;omega
theorem Bj.Cq {P:PS}(h:Bj P){i:Nat}{x:PW}{lk:Lk}(hx:P.wait[i]?=some x)(hlk:x.BB[x.next.toNat]?=some lk):Bj (P.Cq i x lk)/\(P.Cq i x lk).out.length+(P.Cq i x lk).left+1<=P.out.length+P.left:=by
 have hxm:=List.mem_of_getElem? hx;have hi:=(List.getElem?_eq_some_iff.1 hx).1;obtain⟨v1,v2,v3,v4,v5⟩:=h.wv x hxm;have hlt:=(List.getElem?_eq_some_iff.1 hlk).1;have h1:=YA ⟨x.Ah,lk.lo,lk.hi,lk.wr⟩ P.BS;have h2:=Age P.wait i x {x with next:=x.next+1} hx;have hr:PS.KL {x with next:=x.next+1}+1=PS.KL x:=by unfold PS.KL;dsimp only;omega
 have hb:(P.Cq i x lk).out.length+(P.Cq i x lk).left+1<=P.out.length+P.left:=by
  unfold PS.Cq PS.told PS.left;dsimp only;rw[List.length_append,List.length_append,To,To,List.length_set];omega
 have hmem:∀y∈P.wait.set i {x with next:=x.next+1},y={x with next:=x.next+1}\/y∈P.wait:=by
  intro y hy;rcases List.mem_or_eq_of_mem_set hy with hy|hy
  ·exact .inr hy
  ·exact .inl hy
 refine⟨⟨?_,h.hd,λy hy=>?_,h.fn,Ab9 h.tb,λy hy=>?_,h.hv,h.mp,h.mn,h.wr,h.wn,h.er,by have:=h.bd;omega,by show P.held.length+(P.wait.set i _).length<=1000;rw[List.length_set];exact h.hn,h.fl⟩,hb⟩
 ·show(P.wait.set i _).Pairwise _;have e:(P.wait.set i {x with next:=x.next+1}).map PW.Ah=P.wait.map PW.Ah:=by
   rw[List.map_set];apply List.ext_getElem?;intro j;by_cases hj:i=j
   ·subst hj;rw[List.getElem?_set_self (by simpa using hi),List.getElem?_map,hx];rfl
   ·rw[List.getElem?_set_ne hj]
  have hp:=List.pairwise_map.2 h.wt;rw[<-e]at hp;exact List.pairwise_map.1 hp
 ·rcases hmem y hy with rfl|hy
  ·exact h.dj x hxm
  ·exact h.dj y hy
 ·rcases hmem y hy with rfl|hy
  ·exact⟨v1,v2,v3,by dsimp only;omega,by dsimp only;omega⟩
  ·exact h.wv y hy
theorem D9 (h:Bj P){t:Int}(hw:P.Pb t=true):∃x,P.wait[P.Ce t]?=some x/\x.Ah=t:=Ahp (f:=PW.Ah) h.wt hw
theorem KY (h:Bj P){t:Int}(hw:P.Pb t=false):∀x∈P.wait,x.Ah≠t:=Abr (f:=PW.Ah) h.wt hw
theorem MN (h:Bj P){t:Int}(hw:P.TJ t=true):∃x,P.held[P.DY t]?=some x/\x.Ah=t:=Ahp (f:=PH.Ah) h.hd hw
theorem Nd (h:Bj P){t:Int}(hw:P.TJ t=false):∀x∈P.held,x.Ah≠t:=Abr (f:=PH.Ah) h.hd hw
theorem Fv (h:Bj P){i:Nat}{x:PW}(hx:P.wait[i]?=some x):∀y∈(P.Ay i).wait,y.Ah≠x.Ah:=by
 intro y hy e;have hi:=(List.getElem?_eq_some_iff.1 hx).1;rcases List.mem_append.1 hy with hy|hy
 ·obtain⟨j,hj,rfl⟩:=List.mem_take_iff_getElem.1 hy;have:=List.pairwise_iff_getElem.1 h.wt j i (by omega) hi (by omega);rw[(List.getElem?_eq_some_iff.1 hx).2]at this;omega
 ·obtain⟨j,hj⟩:=List.getElem?_of_mem hy;rw[List.getElem?_drop]at hj;obtain⟨h1,h2⟩:=List.getElem?_eq_some_iff.1 hj;have:=List.pairwise_iff_getElem.1 h.wt i (i+1+j) hi h1 (by omega);rw[(List.getElem?_eq_some_iff.1 hx).2,h2]at this;omega
variable {i:Nat}
theorem Vz (hi:i<P.wait.length):(P.Ay i).wait.length+1=P.wait.length:=Jw _ _ hi
theorem Bj.Cw:∀(f:Nat) {P:PS} {t:Int},Bj P->Bj (P.Cw f t)/\(P.Cw f t).out.length+(P.Cw f t).left<=P.out.length+P.left
 |0,P,t,h=>⟨h,Nat.le_refl _⟩
 |f+1,P,t,h=>by
  unfold PS.Cw;cases hw:P.Pb t with
  |false=>exact⟨h,Nat.le_refl _⟩
  |true=>
   obtain⟨x,hx,hxt⟩:=D9 h hw;rw[hx];simp only[Bool.not_true,Bool.false_eq_true,if_false];obtain⟨v1,v2,v3,v4,v5⟩:=h.wv x (List.mem_of_getElem? hx);have hi:=(List.getElem?_eq_some_iff.1 hx).1;obtain⟨u1,u2⟩:=h.Ay hx;split
   ·have hu:=Vz hi;have hb:=h.bd;have hn:=h.hn;have hh:Bj ((P.Ay (P.Ce t)).hold t x.ops):=u1.hold v1 v2 (λy hy=>hxt▸Fv h hx y hy) (λy hy e=>h.dj x (List.mem_of_getElem? hx) y hy (hxt.trans e.symm)) (by show P.held.length+_<_;omega);have e1:((P.Ay (P.Ce t)).hold t x.ops).left=(P.Ay (P.Ce t)).left:=rfl;have e2:((P.Ay (P.Ce t)).hold t x.ops).out=(P.Ay (P.Ce t)).out:=rfl;refine⟨hh.Df _ _ _ (by rw[e1,e2];omega),?_⟩;show(((P.Ay (P.Ce t)).hold t x.ops).out++[_]).length+((P.Ay (P.Ce t)).hold t x.ops).left<=_;rw[List.length_append,List.length_singleton,e1,e2];omega
   ·rename_i hne;obtain⟨lk,hlk⟩:∃lk,x.BB[x.next.toNat]?=some lk:=⟨_,List.getElem?_eq_getElem (by omega)⟩;rw[hlk];dsimp only;obtain⟨a1,a2⟩:=h.Cq hx hlk;split
    ·exact⟨a1,by omega⟩
    split
    ·have hx2:(P.Cq (P.Ce t) x lk).wait[P.Ce t]?=some {x with next:=x.next+1}:=List.getElem?_set_self hi;obtain⟨b1,b2⟩:=a1.Ay hx2;have hb:=h.bd;obtain⟨c1,c2⟩:=Bj.release (P:=((P.Cq (P.Ce t) x lk).Ay (P.Ce t)).Df t 5 []) (b1.Df _ _ _ (by omega)) t;have e3:(((P.Cq (P.Ce t) x lk).Ay (P.Ce t)).Df t 5 []).out.length+(((P.Cq (P.Ce t) x lk).Ay (P.Ce t)).Df t 5 []).left=((P.Cq (P.Ce t) x lk).Ay (P.Ce t)).out.length+1+((P.Cq (P.Ce t) x lk).Ay (P.Ce t)).left:=by
      show(((P.Cq (P.Ce t) x lk).Ay (P.Ce t)).out++[_]).length+((P.Cq (P.Ce t) x lk).Ay (P.Ce t)).left=_;rw[List.length_append,List.length_singleton]
     exact⟨c1,by omega⟩
    ·obtain⟨c1,c2⟩:=Bj.Cw f (t:=t) a1;exact⟨c1,by omega⟩
theorem Bj.pop (h:Bj P){ev:Ev}{l:List Ev}(hl:P.line=ev::l):Bj {P with line:=l}/\({P with line:=l}:PS).out.length+({P with line:=l}:PS).left+1<=P.out.length+P.left:=by
 have hb:({P with line:=l}:PS).out.length+({P with line:=l}:PS).left+1<=P.out.length+P.left:=by
  unfold PS.left;rw[hl,List.length_cons];dsimp only;omega
 exact⟨⟨h.wt,h.hd,h.dj,h.fn,h.tb,h.wv,h.hv,h.mp,h.mn,h.wr,h.wn,h.er,by have:=h.bd;omega,h.hn,h.fl⟩,hb⟩
theorem CQ {f:Nat}{ev:Ev}{l:List Ev}(hl:P.line=ev::l):P.through (f+1)=(({P with line:=l}:PS).event ev).through f:=by
 conv=>lhs;unfold PS.through
 rw[hl]
theorem Bj.event {P:PS}(h:Bj P)(ev:Ev):Bj (P.event ev)/\(P.event ev).out.length+(P.event ev).left<=P.out.length+P.left:=by
 unfold PS.event;split
 ·exact h.Cw 30
 ·split
  ·rename_i hw;obtain⟨x,hx,_⟩:=D9 h hw;obtain⟨b1,b2⟩:=h.Ay hx;have hb:=h.bd;refine⟨b1.Df _ _ _ (by omega),?_⟩;show((P.Ay _).out++[_]).length+(P.Ay _).left<=_;rw[List.length_append,List.length_singleton];omega
  ·exact⟨h,Nat.le_refl _⟩
theorem Bj.through:∀(f:Nat) {P:PS},Bj P->Bj (P.through f)/\(P.through f).out.length+(P.through f).left<=P.out.length+P.left
 |0,P,h=>⟨h,Nat.le_refl _⟩
 |f+1,P,h=>by
  cases hl:P.line with
  |nil=>
   unfold PS.through;rw[hl];exact⟨h,Nat.le_refl _⟩
  |cons ev l=>
   rw[CQ hl];obtain⟨h1,b1⟩:=h.pop hl;obtain⟨h2,b2⟩:=h1.event ev;obtain⟨h3,b3⟩:=Bj.through f h2;exact⟨h3,by omega⟩
theorem Mr:∀(f:Nat) {P:PS},Bj P->P.out.length+P.left<f->(P.through f).line=[]
 |0,P,h,hf=>by omega
 |f+1,P,h,hf=>by
  cases hl:P.line with
  |nil=>
   unfold PS.through;rw[hl];exact hl
  |cons ev l=>
   rw[CQ hl];obtain⟨h1,b1⟩:=h.pop hl;obtain⟨h2,b2⟩:=h1.event ev;exact Mr f h2 (by omega)
open Go Go.Sx
theorem Ut {β:Type}(f:α->β)(c:β->Int)(l:List α):Ba c (l.map f)=Ba (λx=>c (f x)) l:=by
 induction l with
 |nil=>rfl
 |cons a l ih=>
  unfold Ba at *;simp only[List.map_cons,List.takeWhile_cons];split<;>simp_all
theorem Y0 {β:Type}(f:α->β)(c:β->Int)(l:List α):Ee c (l.map f)=Ee (λx=>c (f x)) l:=by
 unfold Ee;rw[Ut,List.getElem?_map];cases l[Ba (λx=>c (f x)) l]?<;>rfl
theorem U7 (X:Mc)(t:Int):X.p.Ce t=Ba (λx:Wt=>BC x.Ah t) X.d.wait:=Ut Wt.p (λx:PW=>BC x.Ah t) X.d.wait
theorem XB (X:Mc)(t:Int):X.p.Pb t=Ee (λx:Wt=>BC x.Ah t) X.d.wait:=Y0 Wt.p (λx:PW=>BC x.Ah t) X.d.wait
theorem XT (X:Mc)(t:Int):X.p.DY t=Ba (λx:Hd=>BC x.Ah t) X.d.held:=Ut Hd.p (λx:PH=>BC x.Ah t) X.d.held
theorem Af1 (X:Mc)(t:Int):X.p.TJ t=Ee (λx:Hd=>BC x.Ah t) X.d.held:=Y0 Hd.p (λx:PH=>BC x.Ah t) X.d.held
theorem Bj.wtX (h:Bj X.p):X.d.wait.Pairwise (λa b=>a.Ah<b.Ah):=(List.pairwise_map (f:=Wt.p)).1 h.wt
theorem Bj.hdX (h:Bj X.p):X.d.held.Pairwise (λa b=>a.Ah<b.Ah):=(List.pairwise_map (f:=Hd.p)).1 h.hd
theorem Bj.Aem (h:Bj X.p):X.d.held.length+X.d.wait.length<=1000:=by
 have:=h.hn;simpa[Mc.p]using this
theorem Bj.Afy (h:Bj X.p):X.d.out.length<=20000:=by
 have:=h.bd;simp only[Mc.p,List.length_map]at this;omega
theorem Bj.Ad1 (h:Bj X.p):X.d.line.length<=20000:=by
 have:=h.bd;simp only[Mc.p,PS.left,List.length_map]at this;omega
theorem Aa5 {l:List α}{y z:α}(h:y∈l.set i z):y=z\/∃j,j≠i/\l[j]?=some y:=by
 obtain⟨j,hj⟩:=List.getElem?_of_mem h;by_cases hji:i=j
 ·subst hji;have hl:=(List.getElem?_eq_some_iff.1 hj).1;rw[List.length_set]at hl;rw[List.getElem?_set_self hl]at hj;injection hj with hj;exact .inl hj.symm
 ·rw[List.getElem?_set_ne hji]at hj;exact .inr ⟨j,Ne.symm hji,hj⟩
theorem AjP {l:List PW}(hs:l.Pairwise (λa b=>a.Ah<b.Ah)){i j:Nat}{x y:PW}(hx:l[i]?=some x)(hy:l[j]?=some y)(h:i≠j):x.Ah≠y.Ah:=by
 obtain⟨h1,e1⟩:=List.getElem?_eq_some_iff.1 hx;obtain⟨h2,e2⟩:=List.getElem?_eq_some_iff.1 hy;rcases Nat.lt_or_gt_of_ne h with h'|h'
 ·have:=List.pairwise_iff_getElem.1 hs i j h1 h2 h';rw[e1,e2]at this;omega
 ·have:=List.pairwise_iff_getElem.1 hs j i h2 h1 h';rw[e1,e2]at this;omega
structure Fix (X X':Mc):Prop where
 BD:X'.d.BD=X.d.BD
 sM:X'.d.sM=X.d.sM
 bx:X'.d.bx=X.d.bx
 box:X'.d.box=X.d.box
theorem Fix.refl (X:Mc):Fix X X:=⟨rfl,rfl,rfl,rfl⟩
theorem Fix.trans {X Y Z:Mc}(h:Fix X Y)(k:Fix Y Z):Fix X Z:=⟨k.BD.trans h.BD,k.sM.trans h.sM,k.bx.trans h.bx,k.box.trans h.box⟩
theorem A6.Alu (h:A6 w m T X){l:List Wt}(hk:Aa (Ai X.d.sw) w w')(hr:Bh NF w' X.d.sw l)(hD:∀x∈l,Bq (AX 4 X.d.sw T) (WtD x) w'):
  A6 w' m (AX 4 X.d.sw T) {X with d:={X.d with wait:=l}}/\Aq T (AX 4 X.d.sw T) w w':=by
 have s:CH 4 T (AX 4 X.d.sw T) w w':=CH.row hk (λb hb=>(h.r.wa.tag b hb).2) (λb hb=>.inl hb);refine⟨⟨hk.at h.hd (λhm=>by have:=(h.r.wa.tag m hm).2;have:=h.t1;omega),MP h.lt h.t1 (by decide) (λb hb=>(h.r.wa.tag b hb).2) (λb hb=>.inl hb),?_⟩,s.Bm (by decide)⟩;exact h.r.uWa hk hr (λb hb=>.inl hb) hD
theorem Pp (h:A6 w m T X)(hN:X.d.wait.length<=100000){i:Nat}(hi:i<X.d.wait.length){y:Int}(hy:y=i){J:Pr}(k:∀r T' w',A6 w' m T' {X with d:={X.d with sw:=r,wait:=X.d.wait.take i++X.d.wait.drop (i+1)}}->Aq T T' w w'->J w'):
  (Cl Pg 128 [.slice X.d.sw.p X.d.sw.len X.d.sw.cap,.int .i64 y,.int .i64 (An (y+1))] false [.sc .sl] λr=>St ⟨m,17,none⟩ (.slice r.1.p r.1.len r.1.cap) J) w:=by
 subst hy;refine VV h.r.wa.ok (Nat.le_succ i) hi (by omega) rfl (AK (by omega)) ?_;intro r w1 h1 f1 k1;have s:CH 4 T (AX 4 r T) w w1:=CH.row k1 (λb hb=>(h.r.wa.tag b hb).2) (λb hb=>.inl (f1 b hb));refine h.uWa k1 h1 (λb hb=>.inl (f1 b hb)) (λx hx=>(h.r.Ss x ((Bp _ _).subset hx)).kt (by decide) s) λw2 h2 e2=>?_;exact k r _ w2 h2 e2
variable {b:Nat}
theorem Aai {o:Nat}(hp:s.p=some ⟨b,o,none⟩){i:Nat}(h:i<s.len)(size:Nat){K:Addr->Pr}{w:World}(k:K ⟨b,o+i*size,none⟩ w):Ix s (i:Int) size K w:=by
 rw[G5 hp (by omega) (by omega),Int.toNat_natCast];exact k
theorem Ad0 (h:A6 w m T X)(hp:Bj X.p)(t:Int){K:TR []->Pr}(k:∀X' T' w',A6 w' m T' X'->X'.p=X.p.Cw 30 t->Fix X X'->Aq T T' w w'->K () w'):Cl Pg 123 [.pointer (some ⟨m,0,none⟩),.int .u64 t] true [] K w:=by
 refine Lw _ _ ?_;unfold Iy;dsimp only[SG,Li,Ll,Hr,UC,Ts,Vi,Vp,Vs,Vu];refine⟨λn st w'=>∃X1 T1,A6 w' m T1 X1/\Bj X1.p/\X1.p.Cw n t=X.p.Cw 30 t/\(∀x∈X1.p.wait,x.Ah=t->PS.KL x<n)/\Fix X X1/\Aq T T1 w w',⟨30,X,T,h,hp,rfl,λx hx _=>?_,Fix.refl _,Aq.refl _ _⟩,?_⟩
 ·obtain⟨_,v2,v3,_,_⟩:=hp.wv x hx;unfold PS.KL;rw[v3,List.length_map];omega
 rintro n _ w1 ⟨X1,T1,h1,p1,PY,hn,x1,e1⟩;simp only[sb,h1.hd,Bs,p1.er];have er:X1.c.e=0:=p1.er;rw[er];simp only[show((0:Int)==0)=true from rfl,sb];have lx:=p1.Aem;refine Nj h1 p1.wtX (by omega) t λw2 k2=>?_;have g2:=h1.Ab k2;have e2:=e1.trans (Aq.k0 k2);rw[<-U7,<-XB];dsimp only;cases hw:X1.p.Pb t with
 |false=>
  refine k X1 T1 w2 g2 ?_ x1 e2;rw[<-PY];cases n with
  |zero=>rfl
  |succ n=>unfold PS.Cw;rw[hw];rfl
 |true=>
 obtain⟨xp,hxp,hxt⟩:=D9 p1 hw;generalize hi:X1.p.Ce t=i at *;have hxp':(X1.d.wait.map Wt.p)[i]?=some xp:=hxp;rw[List.getElem?_map,Option.map_eq_some_iff]at hxp';obtain⟨x,hx,rfl⟩:=hxp';have hlt:=(List.getElem?_eq_some_iff.1 hx).1;have hxm:=List.mem_of_getElem? hx;obtain⟨v1,v2,v3,v4,v5⟩:=p1.wv x.p (List.mem_map.2 ⟨x,hxm,rfl⟩);have hnx:=hn x.p (List.mem_map.2 ⟨x,hxm,rfl⟩) hxt;obtain⟨f,rfl⟩:∃f,n=f+1:=⟨n-1,by omega⟩;have hxt:x.Ah=t:=hxt;have v1:A9 x.ops=0:=v1;have v2:x.ops.length<=24:=v2;have v3:x.BB=x.ops.map AI:=v3;have v4:0<=x.next:=v4;have v5:x.next<=x.BB.length:=v5;have hnx:x.BB.length-x.next.toNat<f+1:=hnx
 have hgo:X1.p.Cw (f+1) t=if x.next=x.BB.length then(((X1.p.Ay i).hold t x.ops).Df t 3 (((X1.p.Ay i).hold t x.ops).results x.ops))
   else match x.BB[x.next.toNat]? with
    |none=>X1.p
    |some lk=>
     if(Bc ⟨x.Ah,lk.lo,lk.hi,lk.wr⟩ X1.p.BS).1.1=2 then X1.p.Cq i x.p lk
     else if(Bc ⟨x.Ah,lk.lo,lk.hi,lk.wr⟩ X1.p.BS).1.1=3 then(((X1.p.Cq i x.p lk).Ay i).Df t 5 []).release t
     else(X1.p.Cq i x.p lk).Cw f t:=by
  conv=>lhs;unfold PS.Cw
  rw[hw,hi,hxp];rfl
 rw[hgo]at PY;have hwl:=g2.r.wa.ok.BY;obtain⟨b,o,hpp,hbb⟩:=g2.r.wa.ok.base (by omega);have hd2:=(g2.r.Ss x hxm).ok;have hsk:x.sk.len=x.BB.length:=hd2.2.len;simp only[Bool.not_true,sb,g2.hd,Bs];refine Aai hpp (by omega) 4 ?_;have it:=λj hj=>AE.item NF.len g2.r.wa.ok hpp hx j hj;simp only[sb,A5];have i1:Bg w2.heap[b]? (o+i*4+1)=some (.slice x.so.p x.so.len x.so.cap):=it 1 (by decide);have i2:Bg w2.heap[b]? (o+i*4+2)=some (.slice x.sk.p x.sk.len x.sk.cap):=it 2 (by decide);have i3:Bg w2.heap[b]? (o+i*4+3)=some (.int .i64 x.next):=it 3 (by decide);rw[i3];simp only[sb];rw[i2];simp only[sb];rw[hsk];by_cases hend:x.next=x.BB.length
 ·rw[if_pos hend]at PY;rw[show(x.next==((x.BB.length:Nat):Int))=true from by simpa using hend];simp only[sb];rw[i1];have g2d:=g2.Ab (Am w2);simp only[sb,g2.hd,Bs];refine Pp g2d (by omega) hlt rfl ?_;intro r3 T3 w3 h3 e3;obtain⟨X3,hX3⟩:∃X3:Mc,X3={X1 with d:={X1.d with sw:=r3,wait:=X1.d.wait.take i++X1.d.wait.drop (i+1)}}:=⟨_,rfl⟩;rw[<-hX3]at h3;have q3:X3.p=X1.p.Ay i:=by rw[hX3];unfold Mc.p PS.Ay;dsimp only;rw[List.map_append,List.map_take,List.map_drop]
  obtain⟨p3,b3⟩:=p1.Ay hxp;have hu3:=Fv p1 hxp;rw[<-q3]at p3 hu3 b3;have l3:=p3.Aem;refine Aa6 h3 p3.hdX (by omega) t λw4 k4=>?_;rw[<-XT];have g4:=h3.Ab k4;simp only[sb,g4.hd,Bs,A5,Nat.reduceAdd];refine Ad λc w5 h5 n5 k5=>?_;have g5:=g4.Ab k5;have hcn:c∉Ai X3.d.sh:=λhc=>by have:=(g4.r.he.tag c hc).1;omega
  have hle:X3.p.DY t<=X3.d.held.length:=by rw[XT];exact Dv _ _
  refine VX (x:=⟨t,x.so,x.ops⟩) g5.r.he.ok h5 hcn hle (by omega) ?_;intro r6 w6 h6 f6 k6;have s6:CH 2 T3 (AX 2 r6 T3) w5 w6:=CH.row k6 (λb hb=>(g5.r.he.tag b hb).2) f6;have e5:Aq T1 T3 w2 w5:=((Aq.k0 (Am w2)).trans e3).trans (Aq.k0 (Aj k4 k5));have io5:Bq T3 (λw=>A1 BQ w x.so x.ops) w5:=((g2.r.Ss x hxm).map λ_ h=>h.1).Bm e5;simp only[sb,A5,Nat.reduceAdd];refine g5.uHe k6 h6 f6 (λy hy=>?_) λw7 h7 e7=>?_
  ·rcases List.mem_append.1 hy with hy|hy
   ·exact(g5.r.Ro y (List.mem_of_mem_take hy)).kt (by decide) s6
   ·rcases List.mem_cons.1 hy with rfl|hy
    ·exact io5.kt (by decide) s6
    ·exact(g5.r.Ro y (List.mem_of_mem_drop hy)).kt (by decide) s6
  obtain⟨X7,hX7⟩:∃X7:Mc,X7={X3 with d:={X3.d with sh:=r6,held:=X3.d.held.take (X3.p.DY t)++⟨t,x.so,x.ops⟩::X3.d.held.drop (X3.p.DY t)}}:=⟨_,rfl⟩;rw[<-hX7]at h7;have q7:X7.p=X3.p.hold t x.ops:=by
   rw[hX7];unfold PS.hold;show Mc.p _=_;unfold Mc.p;dsimp only;rw[List.map_append,List.map_cons,List.map_take,List.map_drop];rfl
  have hdj:∀y∈X3.p.held,y.Ah≠t:=by
   intro y hy e;have:y∈X1.p.held:=by rw[q3]at hy;exact hy
   exact p1.dj x.p (List.mem_map.2 ⟨x,hxm,rfl⟩) y this (hxt.trans e.symm)
  have hlu:=Vz (P:=X1.p) (i:=i) (by rw[show X1.p.wait=X1.d.wait.map Wt.p from rfl,List.length_map];exact hlt);rw[<-q3]at hlu;have hhn:=p1.hn;have p7:Bj X7.p:=by
   rw[q7];refine p3.hold v1 v2 (λy hy=>hxt▸hu3 y hy) hdj ?_;have:X3.p.held=X1.p.held:=by rw[q3];rfl
   rw[this];omega
  have io7:=(io5.Bm e7).ok;have M7:X7.d.M=X7.p.M:=rfl;refine W8 h7 p7.mp (Nat.le_trans p7.mn (by omega)) p7.wr (Nat.le_trans p7.wn (by omega)) io7 v1 (by omega) ?_;intro sr rs w8 k8 ir8 hrs;have g8:=h7.Ab k8;have o7:=p7.Afy;refine V6 g8 t 3 sr rs ir8 (by omega) ?_;intro so' T9 w9 h9 e9;have efin:X3.p.out.length+X3.p.left+1<=X1.p.out.length+X1.p.left:=b3;refine k _ T9 w9 h9 ?_ ?_ ((((e1.trans (Aq.k0 k2)).trans e5).trans e7).trans ((Aq.k0 k8).trans e9))
  ·rw[<-PY,<-q3,<-q7];show Mc.p _=X7.p.Df t 3 (X7.p.results x.ops);unfold PS.Df PS.send PS.results;rw[show(Bd (Bd X7.p.M X7.p.writes).1 x.ops).2=rs.map Rs.p from hrs.symm];unfold Mc.p;dsimp only;rw[List.map_append];rfl
  ·exact x1.trans (by rw[hX7,hX3];exact⟨rfl,rfl,rfl,rfl⟩)
 ·rw[if_neg hend]at PY;rw[show(x.next==((x.BB.length:Nat):Int))=false from by simpa using hend];obtain⟨lk,hlk⟩:∃lk,x.BB[x.next.toNat]?=some lk:=⟨_,List.getElem?_eq_getElem (by omega)⟩;rw[hlk]at PY;dsimp only at PY;have kdd:Aa [] w2 w2.drew.drew:=Aj (Am w2) (Am _);have g2d:=g2.Ab kdd;simp only[sb,g2.hd,Bs];rw[i2];simp only[sb];rw[i3];simp only[sb];have hnn:x.next=((x.next.toNat:Nat):Int):=by omega
  have hlkd:A1 YT w2.drew.drew x.sk x.BB:=hd2.2.Ab kdd;rw[hnn];refine SZ hlkd hlk ?_;have ho1:IP X1.d.BS:=p1.tb;rw[<-hxt];refine Ahs g2d ho1 ⟨x.Ah,lk.lo,lk.hi,lk.wr⟩ ?_;intro sg sd T3 H3 w3 h3 e3 ig id;have hq3:Bh NF w3 X1.d.sw X1.d.wait:=h3.r.wa.ok;have i3':Bg w3.heap[b]? (o+i*4+3)=some (.int .i64 x.next):=AE.item NF.len hq3 hpp hx 3 (by decide);simp only[sb];rw[i3'];simp only[sb];have hfl:(X1.d.wait.flatMap NF.c).length=X1.d.wait.length*4:=AP NF.len _;have hmul:(i+1)*4<=X1.d.wait.length*4:=Nat.mul_le_mul_right _ hlt;refine hq3.Abh hpp (i*4+3) (by omega) (by omega) rfl ?_;intro w4 h4 k4;have hll:x.BB.length<=24:=by rw[v3,List.length_map];exact v2
  have hnw:An (x.next+1)=x.next+1:=by rw[By (by omega) (by omega)]
  have h4':Bh NF w4 X1.d.sw (X1.d.wait.set i {x with next:=x.next+1}):=by
   have:=Nf (size:=4) NF.len X1.d.wait i 3 x {x with next:=x.next+1} (.int .i64 (An (x.next+1))) hx (by decide) (by rw[hnw];rfl);show AE _ _ _ _;rw[<-this];exact h4
  have k4':Aa (Ai X1.d.sw) w3 w4:=by rw[hbb];exact k4
  have s4:CH 4 T3 (AX 4 X1.d.sw T3) w3 w4:=CH.row k4' (λb hb=>(h3.r.wa.tag b hb).2) (λb hb=>.inl hb);obtain⟨h5,e5⟩:=h3.Alu k4' h4' (λy hy=>by
   rcases List.mem_or_eq_of_mem_set hy with hy|rfl
   ·exact(h3.r.Ss y hy).kt (by decide) s4
   ·exact(h3.r.Ss x hxm).kt (by decide) s4)
  have lx1:=p1.Ad1;have ht:=YA ⟨x.Ah,lk.lo,lk.hi,lk.wr⟩ X1.d.BS;have hf:=ho1.few;refine Af8 h5 (ig.Bm e5) (id.Bm e5) (by show X1.d.line.length+_+_<=_;omega) ?_;intro sl T6 w6 h6 e6;obtain⟨X6,hX6⟩:∃X6:Mc,X6={X1 with d:={X1.d with tH:=H3,BS:=(Bc ⟨x.Ah,lk.lo,lk.hi,lk.wr⟩ X1.d.BS).2,wait:=X1.d.wait.set i {x with next:=x.next+1},Mm:=sl,line:=X1.d.line++Gc true (Bc ⟨x.Ah,lk.lo,lk.hi,lk.wr⟩ X1.d.BS).1.2.2.1++Gc false (Bc ⟨x.Ah,lk.lo,lk.hi,lk.wr⟩ X1.d.BS).1.2.1}}:=⟨_,rfl⟩;have h6:A6 w6 m T6 X6:=by rw[hX6];exact h6
  have q6:X6.p=X1.p.Cq i x.p lk:=by
   rw[hX6];unfold PS.Cq PS.told Mc.p;dsimp only;rw[List.map_set];rfl
  have f6:Fix X1 X6:=by rw[hX6];exact⟨rfl,rfl,rfl,rfl⟩
  have ev6:Aq T T6 w w6:=((((e2.trans (Aq.k0 kdd)).trans e3).trans e5).trans e6);obtain⟨p6,b6⟩:=p1.Cq hxp hlk;rw[<-q6]at p6 b6;rw[<-q6]at PY;have htab:(Bc ⟨x.Ah,lk.lo,lk.hi,lk.wr⟩ X1.p.BS).1.1=(Bc ⟨x.Ah,lk.lo,lk.hi,lk.wr⟩ X1.d.BS).1.1:=rfl;rw[htab]at PY;by_cases hs2:(Bc ⟨x.Ah,lk.lo,lk.hi,lk.wr⟩ X1.d.BS).1.1=2
  ·rw[if_pos hs2]at PY;rw[show((Bc ⟨x.Ah,lk.lo,lk.hi,lk.wr⟩ X1.d.BS).1.1==2)=true from by simpa using hs2];simp only[sb];exact k X6 T6 w6 h6 PY (x1.trans f6) ev6
  rw[if_neg hs2]at PY;rw[show((Bc ⟨x.Ah,lk.lo,lk.hi,lk.wr⟩ X1.d.BS).1.1==2)=false from by simpa using hs2];simp only[sb];by_cases hs3:(Bc ⟨x.Ah,lk.lo,lk.hi,lk.wr⟩ X1.d.BS).1.1=3
  ·rw[if_pos hs3]at PY;rw[show((Bc ⟨x.Ah,lk.lo,lk.hi,lk.wr⟩ X1.d.BS).1.1==3)=true from by simpa using hs3];have hl6:X6.d.wait.length=X1.d.wait.length:=by rw[hX6];simp
   simp only[sb,h6.hd,Bs];refine Pp h6 (by omega) (i:=i) (by omega) rfl ?_;intro r7 T7 w7 h7 e7;have hx6:X6.p.wait[i]?=some {x.p with next:=x.next+1}:=by
    rw[q6];exact List.getElem?_set_self (by rw[show X1.p.wait=X1.d.wait.map Wt.p from rfl,List.length_map];exact hlt)
   obtain⟨p7,b7⟩:=p6.Ay hx6;have q7:({X6 with d:={X6.d with sw:=r7,wait:=X6.d.wait.take i++X6.d.wait.drop (i+1)}}:Mc).p=X6.p.Ay i:=by unfold Mc.p PS.Ay;dsimp only;rw[List.map_append,List.map_take,List.map_drop]
   have o6:=p6.Afy;refine V6 h7 x.Ah 5 ⟨none,0,0⟩ [] (Bq.NI λw=>⟨A1.nil w,by simp⟩) (by show X6.d.out.length<=_;omega) ?_;intro so8 T8 w8 h8 e8;refine W1 h8 (by exact p6.tb) x.Ah (by have:=p6.Ad1;show X6.d.line.length<=_;omega) ?_;intro sl9 T9 H9 w9 h9 e9;refine k _ T9 w9 h9 ?_ ?_ (((ev6.trans e7).trans e8).trans e9)
   ·rw[<-PY,<-q7,<-hxt];unfold PS.release PS.Df PS.send PS.told Mc.p;dsimp only;simp only[List.map_append];rfl
   ·exact(x1.trans f6).trans ⟨rfl,rfl,rfl,rfl⟩
  ·rw[if_neg hs3]at PY;rw[show((Bc ⟨x.Ah,lk.lo,lk.hi,lk.wr⟩ X1.d.BS).1.1==3)=false from by simpa using hs3];simp only[sb];refine⟨f,by omega,X6,T6,h6,p6,by rw[hxt];exact PY,λy hy hyt=>?_,x1.trans f6,ev6⟩;rw[q6]at hy;rcases Aa5 hy with rfl|⟨j,hji,hj⟩
   rotate_left
   ·exact absurd hyt (AjP p1.wt hj hxp hji)
   ·show x.BB.length-(x.next+1).toNat<f;omega
def DU:Nat:=20001
theorem Xf (h:A6 w m T X)(hp:Bj X.p){K:TR []->Pr}(k:∀X' T' w',A6 w' m T' X'->X'.p=X.p.through DU->Fix X X'->Aq T T' w w'->K () w'):Cl Pg 124 [.pointer (some ⟨m,0,none⟩)] true [] K w:=by
 refine HU _ ?_;unfold FK;dsimp only[Lb,Ll,Lu,Tb,Ts,Tu,Vb,Vi,Vp,Vs,Vu];refine⟨λn st w'=>∃X1 T1,A6 w' m T1 X1/\Bj X1.p/\X1.p.through n=X.p.through DU/\X1.p.out.length+X1.p.left<n/\Fix X X1/\Aq T T1 w w',⟨DU,X,T,h,hp,rfl,by have:=hp.bd;unfold DU;omega,Fix.refl _,Aq.refl _ _⟩,?_⟩;rintro n _ w1 ⟨X1,T1,h1,p1,PY,hn,x1,e1⟩;obtain⟨f,rfl⟩:∃f,n=f+1:=⟨n-1,by omega⟩;have hll:=h1.r.li.ok.BY;have lx:=p1.Aem;simp only[sb,h1.hd,Bs];cases hl:X1.d.line with
 |nil=>
  rw[hl]at hll;have hln:X1.p.line=[]:=hl;rw[show X1.d.Mm.len=0 from hll,decide_eq_false (by decide)];simp only[sb];have hnil:Bh evR w1 ⟨none,0,0⟩ []:=AE.nil _ _;refine h1.uLi (r:=⟨none,0,0⟩) (l:=[]) (Aa.refl _ _) hnil (by simp[Ai]) λw2 h2 e2=>?_;refine k _ _ w2 h2 ?_ (x1.trans ⟨rfl,rfl,rfl,rfl⟩) (e1.trans e2);rw[<-PY];unfold PS.through;rw[hln];show Mc.p _=X1.p;unfold Mc.p;dsimp only;rw[hl]
 |cons ev l=>
  have hln:X1.p.line=ev::l:=hl;rw[CQ hln]at PY;obtain⟨p2,b2⟩:=p1.pop hln;rw[hl,List.length_cons]at hll;rw[decide_eq_true (by omega)];have h0:X1.d.line[0]?=some ev:=by rw[hl];rfl
  simp only[sb,h1.hd,Bs];refine Aej h1.r.li.ok.C6 (i:=0) h0 ?_;refine bx2 rfl rfl rfl λa w2 h2 n2 k2=>?_;have g2:=h1.Ab k2;simp only[sb,g2.hd,Bs];refine⟨⟨by decide,by omega⟩,?_⟩;have hcut:Bh evR w2 ⟨A7 X1.d.Mm.p X1.d.Mm.cap 1 2,X1.d.Mm.len-1,X1.d.Mm.cap-1⟩ l:=by
   have:=g2.r.li.ok.sub (lo:=1) (hi:=X1.d.Mm.len) (by omega) (Nat.le_refl _);have e:((X1.d.line.flatMap evR.c).drop (1*evR.n)).take ((X1.d.Mm.len-1)*evR.n)=l.flatMap evR.c:=by
    rw[Qy evR.len,hl,List.drop_succ_cons,List.drop_zero,List.take_of_length_le];rw[AP evR.len];exact Nat.mul_le_mul_right _ (by omega)
   rw[e]at this;exact this
  refine g2.uLi (r:=⟨A7 X1.d.Mm.p X1.d.Mm.cap 1 2,X1.d.Mm.len-1,X1.d.Mm.cap-1⟩) (l:=l) (Aa.refl _ _) hcut (λb hb=>.inl (AcV _ _ _ _ _ (Nat.sub_le _ _) b hb)) λw3 h3 e3=>?_;have T2a:T1 a=0:=h1.new n2;obtain⟨ha,Ta⟩:=e3.at h2 T2a;have e03:Aq T _ w w3:=(e1.trans (Aq.k0 k2)).trans e3;generalize AX 8 _ T1=T3 at *;obtain⟨X3,hX3⟩:∃X3:Mc,X3={X1 with d:={X1.d with Mm:=⟨A7 X1.d.Mm.p X1.d.Mm.cap 1 2,X1.d.Mm.len-1,X1.d.Mm.cap-1⟩,line:=l}}:=⟨_,rfl⟩;rw[<-hX3]at h3;have q3:X3.p={X1.p with line:=l}:=by rw[hX3];rfl
  have x3:Fix X1 X3:=by rw[hX3];exact⟨rfl,rfl,rfl,rfl⟩
  rw[<-q3]at p2 b2 PY;have back:∀(X5:Mc) (T5:Nat->Nat) (w5:World),A6 w5 m T5 X5->X5.p=X3.p.event ev->Fix X3 X5->Aq T3 T5 w3 w5->∃m' ,m'<f+1/\∃X1 T1,A6 w5 m T1 X1/\Bj X1.p/\X1.p.through m'=X.p.through DU/\X1.p.out.length+X1.p.left<m'/\Fix X X1/\Aq T T1 w w5:=by
   intro X5 T5 w5 h5 q5 x5 e5;obtain⟨p5,b5⟩:=p2.event ev;rw[<-q5]at p5 b5 PY;exact⟨f,by omega,X5,T5,h5,p5,PY,by omega,(x1.trans x3).trans x5,e03.trans e5⟩
  simp only[sb,ha];cases hdead:ev.dead with
  |false=>
   simp only[Bool.not_false,sb,ha];refine Ad0 h3 p2 ev.Ah λX5 T5 w5 h5 q5 x5 e5=>?_;refine back X5 T5 w5 h5 ?_ x5 e5;rw[q5];unfold PS.event;rw[hdead];rfl
  |true=>
   simp only[Bool.not_true,sb,ha];have hlx:X3.d.wait.length=X1.d.wait.length:=by rw[hX3]
   refine Nj h3 p2.wtX (by omega) ev.Ah λw4 k4=>?_;have g4:=h3.Ab k4;have ha:=k4.Aw ha;rw[<-U7,<-XB];dsimp only;cases hw:X3.p.Pb ev.Ah with
   |false=>
    refine back X3 T3 w4 g4 ?_ (Fix.refl _) (Aq.k0 k4);unfold PS.event;rw[hdead,hw];rfl
   |true=>
    obtain⟨xp,hxp,hxt⟩:=D9 p2 hw;have hlt:X3.p.Ce ev.Ah<X3.d.wait.length:=by
     have:=(List.getElem?_eq_some_iff.1 hxp).1;rw[show X3.p.wait=X3.d.wait.map Wt.p from rfl,List.length_map]at this;exact this
    simp only[sb,g4.hd,Bs];refine Pp g4 (by omega) hlt rfl ?_;intro r5 T5 w5 h5 e5;obtain⟨ha5,_⟩:=e5.at ha Ta;simp only[sb,ha5];have o2:=p2.Afy;refine V6 h5 ev.Ah 5 ⟨none,0,0⟩ [] (Bq.NI λw=>⟨A1.nil w,by simp⟩) (by show X3.d.out.length<=_;omega) ?_;intro so6 T6 w6 h6 e6;refine back _ T6 w6 h6 ?_ ⟨rfl,rfl,rfl,rfl⟩ (((Aq.k0 k4).trans e5).trans e6);unfold PS.event;rw[hdead,hw];unfold PS.Ay PS.Df PS.send Mc.p;dsimp only;simp only[List.map_append,List.map_take,List.map_drop];rfl
open Go Go.Sx
theorem ld1 {ρ:Rec α}{l:List α}(h:A1 ρ w s l){i:Nat}{x:α}(hx:l[i]?=some x)(j:Nat)(k:Kd)(y:k.T)(hj:(ρ.c x)[j]?=some (k.enc y)){K:k.T->Pr}(hK:K y w):Ix s (i:Int) ρ.n (λa=>Ld k (a.add j) K) w:=by
 obtain⟨a,ha,hc⟩:=h.at hx;have hi:=(List.getElem?_eq_some_iff.1 hx).1;have hl:=h.len;unfold Ix;rw[ha];refine⟨by omega,by omega,?_⟩;rw[Int.toNat_natCast];exact DO (hc j _ hj) hK
theorem ldn (h:A1 HL w s l){i:Nat}{x:Int}(hx:l[i]?=some x){K:Int->Pr}(k:K x w):Ix s (i:Int) 1 (λa=>A2 .u64 a K) w:=by
 obtain⟨a,ha,hc⟩:=h.at hx;have hi:=(List.getElem?_eq_some_iff.1 hx).1;have hl:s.len=l.length:=h.len;unfold Ix;rw[ha];refine⟨by omega,by omega,?_⟩;rw[Int.toNat_natCast];have h0:=hc 0 (.int .u64 x) rfl;rw[add_add,Nat.add_zero]at h0;exact DO (k:=.i .u64) (x:=x) h0 k
theorem Ai7 (z:Int){w:World}{K:TR [.sc .b]->Pr}(hK:K (false,()) w):Cl Pg 278 [.int .u64 z] false [.sc .b] K w:=by
 apply Jq;unfold Gk;rw[show(z !=z)=false from by simp];exact hK
theorem V1 (h:A1 HL w s l):s.len=l.length:=by have:=h.len;exact this
set_option maxHeartbeats 1000000 in
theorem Ajm (h:A1 HL w s l)(hs:l.Pairwise (· < ·))(t:Int)(hN:l.length<=1000000){K:TR [.sc (.i .i64),.sc .b]->Pr}(k:K ((Ba (λx:Int=>BC x t) l:Int),Ee (λx:Int=>BC x t) l,()) w):Cl Pg 216 [.slice s.p s.len s.cap,.int .u64 t] true [.sc (.i .i64),.sc .b] K w:=by
 have hl:=V1 h;have hle:=Dv (λx:Int=>BC x t) l;have hp:l.Pairwise (λa b=>BC b t<0->BC a t<0):=hs.imp λh=>by rw[Dq,Dq];omega
 refine ET _ _ ?_;unfold Dy;dsimp only[Vu];refine⟨λn st w'=>∃(i j:Nat),st=((i:Int),(j:Int),())/\n=j-i/\i<=Ba (λx:Int=>BC x t) l/\Ba (λx:Int=>BC x t) l<=j/\j<=l.length/\w'=w,⟨_,0,l.length,by rw[hl];rfl,rfl,by omega,by omega,by omega,rfl⟩,?_⟩;rintro n _ w1 ⟨i,j,rfl,rfl,hi,hij,hj,rfl⟩;dsimp only;by_cases hlt:i<j
 ·rw[decide_eq_true (by omega)];simp only[Af];refine⟨by decide,?_⟩;have e:An (IW .u64 (IntKind.u64.wrap (An ((i:Int)+(j:Int)))) 1)=(((i+j) / 2:Nat):Int):=by
   rw[Oq rfl rfl (by omega),B1 (by omega),show IW .u64 ((i+j:Nat):Int) 1=(((i+j) >>> 1:Nat):Int)from PI .u64 (i+j) 1 (by decide),Nat.shiftRight_eq_div_pow,By (by omega) (by omega)]
  rw[e];generalize hm:(i+j) / 2=m;have hm1:i<=m/\m<j:=by omega
  obtain⟨x,hx⟩:∃x,l[m]?=some x:=⟨_,List.getElem?_eq_getElem (by omega)⟩;refine ldn h hx ?_;refine Cl.mono (IF _ _) ?_;rintro⟨r,_⟩ _ ⟨rfl,hr⟩;dsimp only at hr;subst hr;dsimp only;by_cases hc:x<t
  ·rw[show lt x t=true from decide_eq_true hc];simp only[Af];refine⟨j-(m+1),by omega,m+1,j,by rw[AK (by omega)],rfl,?_,hij,hj,by trivial⟩;rcases Nat.lt_or_ge m (Ba (λx:Int=>BC x t) l)with h'|h'
   ·exact h'
   ·have:=PD hp hx h';have h3:¬(BC x t<0):=by omega
    rw[Dq]at h3;omega
  ·rw[show lt x t=false from decide_eq_false hc];simp only[Ae];refine⟨m-i,by omega,i,m,rfl,rfl,hi,?_,by omega,by trivial⟩;rcases Nat.lt_or_ge m (Ba (λx:Int=>BC x t) l)with h'|h'
   ·have:=Dq.1 (Qg (c:=λx:Int=>BC x t) hx h');omega
   ·exact h'
 ·rw[decide_eq_false (by omega)];simp only[Ae];have hb:i=Ba (λx:Int=>BC x t) l:=by omega
  unfold Ee at k;by_cases h3:i<l.length
  ·rw[decide_eq_true (by omega)];simp only[Af];obtain⟨x,hx⟩:∃x,l[i]?=some x:=⟨_,List.getElem?_eq_getElem (by omega)⟩;refine ldn h hx ?_;rw[<-hb,hx]at k;dsimp only at k;rw[Xk]at k;by_cases hxt:x=t
   ·rw[show((x:Int)==t)=true from by simpa using hxt];rw[decide_eq_true hxt]at k;exact k
   ·rw[show((x:Int)==t)=false from by simpa using hxt];rw[decide_eq_false hxt]at k;simp only[Ae];refine ldn h hx ?_;refine Ai7 _ ?_;exact k
  ·rw[decide_eq_false (by omega)];rw[<-hb,List.getElem?_eq_none (by omega)]at k;exact k
theorem UI (h:A1 HL w s l)(t:Int)(hN:l.length<=1000000){K:TR [.sc .b]->Pr}(k:K (l.contains t,()) w):Cl Pg 47 [.slice s.p s.len s.cap,.int .u64 t] false [.sc .b] K w:=by
 have hl:=V1 h;refine GG _ _ ?_;unfold EJ;dsimp only[Vs,Vu];refine Jh _ _ ?_;unfold Gg;refine⟨λn st w'=>∃(i:Nat),st=(0,(i:Int),())/\n=l.length-i/\i<=l.length/\(l.drop i).contains t=l.contains t/\w'=w,⟨_,0,rfl,rfl,by omega,rfl,rfl⟩,?_⟩;rintro n _ w1 ⟨i,rfl,rfl,hi,he,rfl⟩;dsimp only;by_cases hlt:i<l.length
 ·rw[decide_eq_true (by omega)];simp only[Af];obtain⟨x,hx⟩:∃x,l[i]?=some x:=⟨_,List.getElem?_eq_getElem hlt⟩;have hd:l.drop i=x::l.drop (i+1):=by rw[List.drop_eq_getElem_cons hlt,(List.getElem?_eq_some_iff.1 hx).2]
  rw[hd,List.contains_cons]at he;refine ldn h hx ?_;cases hc:(t==x)with
  |true=>
   rw[hc]at he;simp only[Af];rw[show decide ((i:Int)>=0)=true from decide_eq_true (by omega),show true=l.contains t from by rw[<-he];rfl];exact k
  |false=>
   rw[hc]at he;simp only[Ae];exact⟨l.length-(i+1),by omega,i+1,by rw[AK (by omega)],rfl,by omega,by rw[<-he,Bool.false_or],by trivial⟩
 ·rw[decide_eq_false (by omega)];rw[List.drop_of_length_le (by omega)]at he;simp only[Ae];rw[<-he]at k;exact k
def Qd (p:ByteArray):List Ow->Bool
 |[]=>true
 |x::l=>decide (1<=x.BO)&&decide (x.BO<=4)&&(Kx x.lo&&slt p x.lo)&&Qd x.lo l
def Be:List Ow->Bool
 |[]=>false
 |x::l=>seq x.lo (BA [])&&decide (1<=x.BO)&&decide (x.BO<=4)&&Qd x.lo l&&decide (l.length<=5)
def D7 (l:List Ow)(i:Nat):ByteArray×ByteArray:=((l[i]?.getD ⟨BA [],0⟩).lo,match l[i+1]? with|some x=>x.lo|none=>BA [])
def Afm (l:List Ow)(n:Int)(lo hi:ByteArray):Bool:=Be l&&(List.range l.length).any (λi=>decide ((l[i]?.getD ⟨BA [],0⟩).BO=n)&&CW (D7 l i).1 (D7 l i).2 lo hi)
theorem Pj {l:List Ow}(h:A1 Mj w s l)(hN:l.length<=140737488355328){K:TR [.sc (.i .i64)]->Pr}(k:∀w',Aa [] w w'->K (if Be l then 0 else 170,()) w'):Cl Pg 44 [.slice s.p s.len s.cap] false [.sc (.i .i64)] K w:=by
 have hl:=h.len;refine Re _ ?_;unfold Si;dsimp only[Li,Ls,Ti,Tt,Vi,Vt,Jp];cases l with
 |nil=>
  rw[show((((s.len:Nat):Int):Int)==0)=true from by rw[hl];rfl];exact k w (Aa.refl _ _)
 |cons y q=>
  rw[show((((s.len:Nat):Int):Int)==0)=false from by rw[hl];rfl];simp only[Ae];by_cases h6:q.length<=5
  ·rw[decide_eq_false (by rw[hl,List.length_cons];omega)];simp only[Ae];refine ld1 (i:=0) h rfl 0 .s y.lo rfl ?_;cases hy:seq y.lo (BA [])with
   |false=>
    simp only[Bool.not_false,Af];have:=k w (Aa.refl _ _);rw[Be,hy]at this;exact this
   |true=>
    simp only[Bool.not_true,Ae];have hsz:∀i:Nat,i<=(y::q).length->∀x,(y::q)[i]?=some x->∀w1:World,Aa [] w w1->True:=λ_ _ _ _ _ _=>trivial;have go:(if(decide (1<=y.BO)&&decide (y.BO<=4)&&Qd y.lo q)then(0:Int)else 170)=(if Be (y::q)then 0 else 170):=by
     rw[Be,hy,decide_eq_true h6,Bool.true_and,Bool.and_true]
    refine⟨λn st w'=>∃(i:Nat),st=(0,(i:Int),())/\n=(y::q).length-i/\i<=(y::q).length/\(0<i->∃p,(y::q)[i-1]?=some p/\Be (y::q)=Qd p.lo ((y::q).drop i))/\Aa [] w w',⟨_,0,rfl,rfl,by omega,λh=>absurd h (by omega),Aa.refl _ _⟩,?_⟩;rintro n _ w1 ⟨i,rfl,rfl,hi,he,k1⟩;dsimp only;by_cases hlt:i<(y::q).length
    ·rw[decide_eq_true (by omega)];simp only[Af];obtain⟨x,hx⟩:∃x,(y::q)[i]?=some x:=⟨_,List.getElem?_eq_getElem hlt⟩;have hd:(y::q).drop i=x::(y::q).drop (i+1):=by rw[List.drop_eq_getElem_cons hlt,(List.getElem?_eq_some_iff.1 hx).2]
     refine UP (h.Ab k1) hx ?_;refine UB x λb w2 h2 n2 k2=>?_;have k02:=Aj k1 k2;simp only[sb,h2];have bad:Be (y::q)=false->K (170,()) w2:=λhb=>by
      have:=k w2 k02;rw[hb]at this;exact this
     have badD:Be (y::q)=false->K (170,()) w2.drew:=λhb=>by
      have:=k _ k02.drew;rw[hb]at this;exact this
     have step:Be (y::q)=(decide (1<=x.BO)&&decide (x.BO<=4)&&(if i=0 then true else Kx x.lo&&slt ((y::q)[i-1]?.getD ⟨BA [],0⟩).lo x.lo)&&Qd x.lo ((y::q).drop (i+1))):=by
      rcases Nat.eq_zero_or_pos i with h0|h0
      ·subst h0;obtain rfl:y=x:=by simpa using hx
       rw[if_pos rfl,Be,hy,decide_eq_true h6,Bool.true_and,Bool.and_true,Bool.and_true];simp
      ·obtain⟨p,hp,he⟩:=he h0;rw[if_neg (by omega),he,hd,Qd,hp];rfl
     by_cases c1:x.BO<1
     ·rw[decide_eq_true c1];simp only[Af];refine badD ?_;rw[step,decide_eq_false (show ¬1<=x.BO by omega)];rfl
     ·rw[decide_eq_false c1];simp only[sb,h2];by_cases c2:x.BO>4
      ·rw[decide_eq_true c2];simp only[Af];refine badD ?_;rw[step,decide_eq_false (show ¬x.BO<=4 by omega),Bool.and_false];rfl
      ·rw[decide_eq_false c2];simp only[sb,h2];rw[decide_eq_true (show 1<=x.BO by omega),decide_eq_true (show x.BO<=4 by omega),Bool.true_and,Bool.true_and]at step;rcases Nat.eq_zero_or_pos i with h0|h0
       ·subst h0;rw[decide_eq_false (by omega)];rw[if_pos rfl,Bool.true_and]at step;simp only[Ae];refine⟨(y::q).length-1,by simp,1,by rw[AK (by decide)],rfl,by simp,λ_=>⟨x,hx,step⟩,k02.drew⟩
       ·rw[decide_eq_true (by omega)];rw[if_neg (by omega)]at step;obtain⟨p,hp,he⟩:=he h0;rw[hp]at step;simp only[sb,h2];refine Hb _ ?_;dsimp only;cases hk:Kx x.lo with
        |false=>
         rw[hk]at step;refine badD ?_;rw[step];rfl
        |true=>
         rw[hk]at step;simp only[if_true,show((0:Int) !=0)=false from rfl,Ae];have hw:An ((i:Int)-1)=((i-1:Nat):Int):=by rw[By (by omega) (by rw[List.length_cons]at hlt;omega)];omega
         rw[hw];refine ld1 (h.Ab k02.drew) hp 0 .s p.lo rfl ?_;simp only[sb,h2];cases hs:slt p.lo x.lo with
         |false=>
          refine badD ?_;rw[step];show(true&&slt p.lo x.lo&&_)=false;rw[hs];rfl
         |true=>
          refine⟨(y::q).length-(i+1),by omega,i+1,by rw[AK (by rw[List.length_cons]at hlt;omega)],rfl,by omega,λ_=>⟨x,hx,?_⟩,k02.drew⟩;rw[step];show(true&&slt p.lo x.lo&&_)=_;rw[hs];rfl
    ·rw[decide_eq_false (by omega)];simp only[Ae];obtain⟨p,hp,he⟩:=he (by rw[List.length_cons]at *;omega);rw[List.drop_of_length_le (by omega),Qd]at he;have:=k w1 k1;rw[he]at this;exact this
  ·rw[decide_eq_true (by rw[hl,List.length_cons];omega)];have:=k w (Aa.refl _ _);rw[Be,decide_eq_false h6,Bool.and_false]at this;exact this
theorem Aec {l:List Ow}(h:A1 Mj w s l){i:Nat}(hi:i<l.length)(hN:l.length<=1000000){K:TR [.ag [.s,.s]]->Pr}(k:∀w',Aa [] w w'->K (((D7 l i).1,(D7 l i).2,()),()) w'):Cl Pg 209 [.slice s.p s.len s.cap,.int .i64 (i:Int)] false [.ag [.s,.s]] K w:=by
 have hl:=h.len;obtain⟨x,hx⟩:∃x,l[i]?=some x:=⟨_,List.getElem?_eq_getElem hi⟩;refine S4 _ _ ?_;unfold UU;dsimp only[Ls,Tt,Vt];refine Ad λb w1 h1 n1 k1=>?_;rw[AK (by omega)];unfold D7 at k;rw[hx]at k;by_cases he:i+1=l.length
 ·rw[show(((i+1:Nat):Int)==((s.len:Nat):Int))=true from by rw[hl,he];exact beq_self_eq_true _];rw[List.getElem?_eq_none (by omega)]at k;simp only[Af];refine ld1 (h.Ab k1) hx 0 .s x.lo rfl ?_;refine KI h1 λw2 k2=>?_;exact k w2 (BT k1 k2 n1)
 ·obtain⟨y,hy⟩:∃y,l[i+1]?=some y:=⟨_,List.getElem?_eq_getElem (by omega)⟩;rw[show(((i+1:Nat):Int)==((s.len:Nat):Int))=false from by rw[hl];simpa using λh=>he (by omega)];rw[hy]at k;simp only[Ae];unfold Dr;refine ld1 (h.Ab k1.drew) hx 0 .s x.lo rfl ?_;refine ld1 (h.Ab k1.drew) hy 0 .s y.lo rfl ?_;refine KI (w:=w1.drew) h1 λw2 k2=>?_;exact k w2 (BT k1.drew k2 n1)
theorem AeK {l:List Ow}(h:A1 Mj w s l)(hN:l.length<=1000000)(n:Int)(lo hi:ByteArray){K:TR [.sc .b]->Pr}(k:∀w',Aa [] w w'->K (Afm l n lo hi,()) w'):Cl Pg 120 [.slice s.p s.len s.cap,.int .i64 n,.agg #[.string lo,.string hi]] false [.sc .b] K w:=by
 have hl:=h.len;refine SN _ _ _ _ ?_;unfold Uu;dsimp only[Li,Ls,Vi,Vs,Vt];refine Ad λb w1 h1 n1 k1=>?_;refine Pj (h.Ab k1) (by omega) λw2 k2=>?_;have k02:=Aj k1 k2;have h2:=k2.Aw h1;unfold Afm at k;cases hok:Be l with
 |false=>
  rw[hok]at k;exact k w2 k02
 |true=>
  rw[hok,Bool.true_and]at k;simp only[if_true,show((0:Int) !=0)=false from rfl,Ae];refine⟨λm st w'=>∃(i:Nat),st=(false,(i:Int),())/\m=l.length-i/\i<=l.length/\(List.range i).any (λi=>decide ((l[i]?.getD ⟨BA [],0⟩).BO=n)&&CW (D7 l i).1 (D7 l i).2 lo hi)=false/\Aa [] w w'/\w'.heap[b]?=some (.cells #[.string lo,.string hi] 37 (0,0)),⟨_,0,rfl,rfl,by omega,rfl,k02,h2⟩,?_⟩;rintro m _ w3 ⟨i,rfl,rfl,hil,he,k3,h3⟩;dsimp only;by_cases hlt:i<l.length
  ·rw[decide_eq_true (by omega)];simp only[Af];obtain⟨x,hx⟩:∃x,l[i]?=some x:=⟨_,List.getElem?_eq_getElem hlt⟩;have nxt:∀(c:Bool) (w4:World),(decide (x.BO=n)&&CW (D7 l i).1 (D7 l i).2 lo hi)=c->Aa [] w w4->w4.heap[b]?=some (.cells #[.string lo,.string hi] 37 (0,0))->(Br c (K (true,())) (λw'=>∃m',m'<l.length-i/\∃i_1:Nat,(false,An ((i:Int)+1),())=(false,(i_1:Int),())/\m'=l.length-i_1/\i_1<=l.length/\(List.range i_1).any (λi=>decide ((l[i]?.getD ⟨BA [],0⟩).BO=n)&&CW (D7 l i).1 (D7 l i).2 lo hi)=false/\Aa [] w w'/\w'.heap[b]?=some (.cells #[.string lo,.string hi] 37 (0,0)))) w4:=by
    intro c w4 hc k4 h4;cases c with
    |true=>
     simp only[Af];have:=k w4 k4;rw[show(List.range l.length).any (λi=>decide ((l[i]?.getD ⟨BA [],0⟩).BO=n)&&CW (D7 l i).1 (D7 l i).2 lo hi)=true from List.any_eq_true.2 ⟨i,List.mem_range.2 hlt,by rw[hx];exact hc⟩]at this;exact this
    |false=>
     simp only[Ae];refine⟨l.length-(i+1),by omega,i+1,by rw[AK (by omega)],rfl,by omega,?_,k4,h4⟩;rw[List.range_succ,List.any_append,he,List.any_cons,hx];simp only[Option.getD_some,hc,List.any_nil,Bool.or_false]
   dsimp only[Jp];unfold Dr;refine ld1 (h.Ab k3.drew) hx 1 (.i .i64) x.BO rfl ?_;by_cases hs:x.BO=n
   ·rw[show((x.BO:Int)==n)=true from by simpa using hs];simp only[Af,sb,h3];refine Aec (h.Ab k3.drew) hlt hN λw4 k4=>?_;have h4:=k4.Aw (show w3.drew.heap[b]?=_ from h3);simp only[sb,h4];refine⟨by trivial,?_⟩;refine Z1 _ _ _ _ λw5 k5=>?_;have h5:=k5.Aw h4;exact nxt _ w5 (by rw[decide_eq_true hs];rfl) (Aj (Aj k3.drew k4) k5) h5
   ·rw[show((x.BO:Int)==n)=false from by simpa using hs];simp only[Ae];exact nxt false w3.drew (by rw[decide_eq_false hs];rfl) k3.drew h3
  ·rw[decide_eq_false (by omega)];simp only[Ae];obtain rfl:i=l.length:=by omega
   rw[he]at k;exact k w3 k3
def CE (lo hi:ByteArray)(o:Op):Bool:=decide (ER o=0)&&Bw (Dp o).1 (Dp o).2 lo hi
theorem JN {l:List Op}(h:A1 BQ w s l)(hN:l.length<=1000000)(lo hi:ByteArray){K:TR [.sc .b]->Pr}(k:∀w',Aa [] w w'->K (l.any (CE lo hi),()) w'):Cl Pg 210 [.slice s.p s.len s.cap,.agg #[.string lo,.string hi]] false [.sc .b] K w:=by
 refine PL _ _ _ ?_;unfold P2;dsimp only[Vp,Vs,Vt];refine Ad λb w1 h1 n1 k1=>?_;refine BN (p:=CE lo hi) (F:=λ_=>False) (h.Ab k1) ?_ (by omega) λw2 k2=>k w2 (Aj k1 k2);intro w2 k2 x _ K1 hK;have h2:=k2.SU.Aw h1;refine BJ (by kernel_rfl) ?_;refine NA _ _ _ _ _ _ _ ?_;unfold MH;dsimp only[Ar,N6,AN,Ls,Tt,Vt];refine Ad λc w3 h3 n3 k3=>?_;have h2:=k3.Aw h2;simp only[sb,h3];refine Ya x λw4 k4=>?_;have h2:=k4.Aw h2;refine Ad λd w5 h5 n5 k5=>?_;have h2:=k5.Aw h2;have k25:=Aj (Aj k3 k4) k5;have nd:d≠b:=λe=>by subst e;have:=Av h1;have:=k2.SU.size;have:=k3.size;have:=k4.size;omega
 refine AaD h5 rfl rfl λw6 h6 k6=>?_;have h2:=k6.Mw h2 (Ne.symm nd);have k26:=BT k25 k6 (by have:=k3.size;have:=k4.size;omega);simp only[sb,h6,h2];refine Vr _ _ _ _ λw7 k7=>?_;refine Ad λe w8 h8 n8 k8=>?_;have k28:=Aj (Aj k26 k7) k8;refine AaD h8 rfl rfl λw9 h9 k9=>?_;have k29:=BT k28 k9 (by have:=k26.size;have:=k7.size;omega);have:=hK w9 k29;unfold CE at this;by_cases he:ER x=0
 ·rw[decide_eq_true he,Bool.true_and]at this;simp only[he,if_true,sb];exact this
 ·rw[decide_eq_false he,Bool.false_and]at this;rw[if_neg he];rw[show((ER x:Int)==0)=false from by simpa using he];exact this
open Go Go.Sx
namespace PS
def shut (P:PS)(ops:List Op):Bool:=match P.box with|some b=>b.B9&&ops.any (CE b.lo b.hi)|none=>false
def closed (P:PS)(ops:List Op):Bool:=(P.c.frozen !=0&&ops.any (CE P.c.Qk P.c.MS))||P.shut ops
def Afk (P:PS)(t:Int):Bool:=Ee (λx:Int=>BC x t) P.fin
def fat (P:PS)(t:Int):Nat:=Ba (λx:Int=>BC x t) P.fin
def BV (P:PS)(t:Int):PS:=if decide (P.c.low<=t)&&!P.Afk t then {P with fin:=P.fin.take (P.fat t)++t::P.fin.drop (P.fat t)}else P
def finish (P:PS)(t:Int):PS:=((P.BV t).release t).through DU
end PS
theorem Bj.BV {P:PS}(h:Bj P)(t:Int)(hf:P.fin.length<100000):Bj (P.BV t)/\(P.BV t).out.length+(P.BV t).left=P.out.length+P.left/\(P.BV t).fin.length<=P.fin.length+1:=by
 unfold PS.BV;cases hc:(decide (P.c.low<=t)&&!P.Afk t)with
 |false=>exact⟨h,rfl,Nat.le_succ _⟩
 |true=>
  rw[Bool.and_eq_true]at hc;have hn:P.Afk t=false:=by simpa using hc.2
  have hl:(P.fin.take (P.fat t)++t::P.fin.drop (P.fat t)).length=P.fin.length+1:=by
   rw[List.length_append,List.length_cons,List.length_take,List.length_drop];have:P.fat t<=P.fin.length:=Dv _ _;omega
  refine⟨⟨h.wt,h.hd,h.dj,?_,h.tb,h.wv,h.hv,h.mp,h.mn,h.wr,h.wn,h.er,h.bd,h.hn,?_⟩,rfl,Nat.le_of_eq hl⟩
  ·exact Aas (f:=id) (x:=t) h.fn (Abr (f:=id) h.fn hn)
  ·show(P.fin.take (P.fat t)++t::P.fin.drop (P.fat t)).length<=100000;omega
theorem Ad6 (h:A6 w m T X)(hp:Bj X.p)(hf:X.d.fin.length<100000)(t:Int){K:TR []->Pr}(k:∀X' T' w',A6 w' m T' X'->X'.p=X.p.finish t->Fix X X'->Aq T T' w w'->K () w'):Cl Pg 127 [.pointer (some ⟨m,0,none⟩),.int .u64 t] true [] K w:=by
 refine IY _ _ ?_;unfold Gf;dsimp only[Ll,Lu,Ts,Vi,Vp,Vs,Vu,Jp];have tail:∀(X1:Mc) (T1:Nat->Nat) (w1:World),A6 w1 m T1 X1->X1.p=X.p.BV t->Fix X X1->Aq T T1 w w1->Cl Pg 215 [.pointer (some ⟨m,0,none⟩),.int .u64 t] true [] (λr3=>Cl Pg 124 [.pointer (some ⟨m,0,none⟩)] true [] λr4=>K ()) w1:=by
  intro X1 T1 w1 h1 q1 x1 e1;obtain⟨p1,b1,_⟩:=hp.BV t hf;rw[<-q1]at p1;have l1:=p1.Ad1;refine W1 h1 p1.tb t (by omega) ?_;intro sl T2 H2 w2 h2 e2;obtain⟨p2,b2⟩:=p1.release t;refine Xf (X:={X1 with d:={X1.d with tH:=H2,BS:=(ES t X1.d.BS).2,Mm:=sl,line:=X1.d.line++Gc true (ES t X1.d.BS).1.2++Gc false (ES t X1.d.BS).1.1}}) h2 p2 ?_;intro X3 T3 w3 h3 q3 x3 e3;refine k X3 T3 w3 h3 ?_ (x1.trans ⟨x3.BD,x3.sM,x3.bx,x3.box⟩) ((e1.trans e2).trans e3);rw[q3];unfold PS.finish;rw[<-q1];rfl
 simp only[sb,h.hd,Bs];refine Ajm h.r.fi.ok.C6 hp.fn t (by omega) ?_;simp only[sb,h.hd,Bs];have hge:decide (t>=X.c.low)=decide (X.p.c.low<=t):=rfl;cases hlow:decide (t>=X.c.low)with
 |false=>
  simp only[sb];refine tail X T w h ?_ (Fix.refl _) (Aq.refl _ _);unfold PS.BV;rw[<-hge,hlow];rfl
 |true=>
  simp only[sb];cases TJ:Ee (λx:Int=>BC x t) X.d.fin with
  |true=>
   simp only[Bool.not_true,sb];refine tail X T w h ?_ (Fix.refl _) (Aq.refl _ _);unfold PS.BV;rw[<-hge,hlow,show X.p.Afk t=true from TJ];rfl
  |false=>
   simp only[Bool.not_false,sb,h.hd,Bs];refine Ad λa w1 h1 n1 k1=>?_;have g1:=h.Ab k1;refine SH g1.r.fi.ok h1 (λhb=>?_) (Dv _ _) (by omega) ?_
   ·have:=g1.r.fi.ok.lt a hb;have h':=h.r.fi.ok.lt a hb;omega
   intro r w2 h2 f2 k2;have g2:w2.heap[m]?=some (.cells (Bs X).toArray 94 (0,0)):=k2.at g1.hd (λhm=>by have:=(g1.r.fi.tag m hm).2;have:=h.t1;omega);simp only[sb,g2,A5,Nat.reduceAdd];refine g1.uFi k2 h2 f2 λw3 h3 e3=>?_;refine tail _ _ w3 h3 ?_ ⟨rfl,rfl,rfl,rfl⟩ ((Aq.k0 k1).trans e3);unfold PS.BV;rw[<-hge,hlow,show X.p.Afk t=false from TJ];rfl
theorem AdO (h:A6 w m T X){so:Sl}{ops:List Op}(ho:A1 BQ w so ops)(hN:ops.length<=1000000){K:TR [.sc .b]->Pr}(k:∀w',Aa [] w w'->K (X.p.closed ops,()) w'):Cl Pg 121 [.pointer (some ⟨m,0,none⟩),.slice so.p so.len so.cap] false [.sc .b] K w:=by
 refine IL _ _ ?_;unfold Gu;dsimp only[Lb,Hr,Ls,Lu,Vs,Vt]
 have tail:∀(w1:World),Aa [] w w1->(∀w',Aa [] w w'->K (X.p.shut ops,()) w')->
   (Nn (some ⟨m,0,none⟩) λa19=>Di (a19.add 19) λx20=>Br (!(Option.isNone x20)) (Nn (some ⟨m,0,none⟩) λa21=>Di (a21.add 19) λx22=>Nn x22 λa23=>E7 (a23.add 5) λx24=>Br x24 (
    Nn (some ⟨m,0,none⟩) λa25=>Di (a25.add 19) λx26=>Nn x26 λa27=>BU ((a27.add 2).add 0) λx28=>BU ((a27.add 2).add 1) λx29=>Cl Pg 210 [(.slice so.p so.len so.cap),(.agg #[(.string x28),(.string x29)])] false [.sc .b] λr30=>K (r30.1,())) (K (false,()))) (K (false,()))) w1:=by
  intro w1 k1 hk;have g1:=h.Ab k1;have hb:=g1.r.bo.ok;simp only[sb,g1.hd,Bs];unfold PS.shut at hk;cases hx:X.d.bx with
  |none=>
   rw[show X.p.box=none from by show X.d.bx.map _=none;rw[hx];rfl]at hk;simp only[Option.map_none,Option.isNone_none,Bool.not_true,sb];exact hk w1 k1
  |some b=>
   rw[show X.p.box=some X.d.box.p from by show X.d.bx.map _=_;rw[hx];rfl]at hk;have h1:=hb b hx;simp only[Option.map_some,Option.isNone_some,Bool.not_false,sb,h1,Gb];dsimp only at hk;cases hc:X.d.box.B9 with
   |false=>
    rw[show X.d.box.p.B9=false from hc]at hk;simp only[hc,sb,g1.hd,Bs,hx,Option.map_some,h1,Gb];exact hk w1 k1
   |true=>
    rw[show X.d.box.p.B9=true from hc]at hk;simp only[hc,sb,g1.hd,Bs,hx,Option.map_some,h1,Gb,A5,Nat.reduceAdd];refine JN (ho.Ab k1) hN _ _ λw2 k2=>?_;exact hk w2 (Aj k1 k2)
 unfold PS.closed at k;simp only[sb,h.hd,Bs];cases hf:(X.c.frozen !=0)with
 |false=>
  rw[show(X.p.c.frozen !=0)=false from hf]at k;simp only[Ae];exact tail w (Aa.refl _ _) k
 |true=>
  rw[show(X.p.c.frozen !=0)=true from hf]at k;simp only[Af];simp only[sb,h.hd,Bs,A5,Nat.reduceAdd];refine JN ho hN _ _ λw1 k1=>?_;dsimp only;rw[show X.p.c.Qk=X.c.Qk from rfl,show X.p.c.MS=X.c.MS from rfl]at k;cases ht:ops.any (CE X.c.Qk X.c.MS)with
  |true=>
   rw[ht]at k;simp only[Af];exact k w1 k1
  |false=>
   rw[ht]at k;simp only[Ae];exact tail w1 k1 k
open Go Go.Sx
theorem A6.uRo (h:A6 w m T X){b:Nat}(hx:X.d.bx=some b){r:Sl}{l:List Op}(hk:Aa (Ai X.d.box.sr) w w')(hr:Bh BQ w' r l)(fr:∀b∈Ai r,b∈Ai X.d.box.sr\/w.heap.size<=b){K:Pr}(k:∀w2,A6 w2 m (AX 10 r T) {X with d:={X.d with box:={X.d.box with sr:=r,row:=l}}}->Aq T (AX 10 r T) w w2->K w2):St ⟨b,9,none⟩ (.slice r.p r.len r.cap) K w':=by
 have s:CH 10 T (AX 10 r T) w w':=CH.row hk (λb hb=>(h.r.ro.tag b hb).2) fr;have hb:=h.r.bo.kt (by decide) (by decide) s;obtain⟨lb,tb⟩:=hb.tag b hx;have hm:w'.heap[m]?=_:=hk.at h.hd (λhm=>by have:=(h.r.ro.tag m hm).2;have:=h.t1;omega);have t1:AX 10 r T m=1:=MP h.lt h.t1 (by decide) (λb hb=>(h.r.ro.tag b hb).2) fr;have mb:m≠b:=λe=>by rw[e,tb]at t1;cases t1
 refine Ax (hb.ok b hx) 9 _ rfl (by simp[Gb]) λw2 h2 k2=>?_;have s2:CH 9 (AX 10 r T) (AX 10 r T) w' w2:=⟨k2.FY λc hc=>.inl (by simp at hc;rw[hc];exact tb),λ_ _ _=>rfl⟩;have q:=h.r;have hro:FV (AX 10 r T) 10 (·∈Ai r) (λw=>Bh BQ w r l) w':=.of hr ED;refine k w2 ⟨k2.Mw hm mb,t1,?_⟩ ((s.Bm (by decide)).trans (s2.Bm (by decide)));refine⟨(q.ow.kt (by decide) s).kt (by decide) s2,(q.he.kt (by decide) (by decide) s).kt (by decide) (by decide) s2,λx hx=>((q.Ro x hx).kt (by decide) s).kt (by decide) s2,(q.fi.kt (by decide) (by decide) s).kt (by decide) (by decide) s2,(q.wa.kt (by decide) (by decide) s).kt (by decide) (by decide) s2,λx hx=>((q.Ss x hx).kt (by decide) s).kt (by decide) s2,(q.ta.kt (by decide) (by decide) s).kt (by decide) (by decide) s2,(q.ou.kt (by decide) (by decide) s).kt (by decide) (by decide) s2,λx hx=>((q.Wp x hx).kt (by decide) s).kt (by decide) s2,(q.wr.kt (by decide) (by decide) s).kt (by decide) (by decide) s2,(q.li.kt (by decide) (by decide) s).kt (by decide) (by decide) s2,?_,hro.kt (by decide) (by decide) s2,(q.lo.kt (by decide) s).kt (by decide) s2,(q.RF.kt (by decide) (by decide) s).kt (by decide) (by decide) s2,λb hb=>Nat.lt_of_lt_of_le (GH hr hk.size q.bd b hb) k2.size⟩;have hnew:w2.heap[b]?=some (.cells (Gb {X.d.box with sr:=r,row:=l}).toArray 118 (0,0)):=by
  rw[h2];simp[Gb]
 have e0:∀c,X.d.bx=some c->c=b:=λc hc=>by rw[hx]at hc;injection hc with hc;exact hc.symm
 refine⟨λc hc=>by rw[e0 c hc];exact hnew,λw3 _ hw c hc=>?_,λc hc=>?_⟩
 ·rw[e0 c hc,hw b (by have:=k2.size;omega) (.inl tb)];exact hnew
 ·rw[e0 c hc];exact⟨by have:=k2.size;omega,tb⟩
def clip (lo hi:ByteArray)(o:Op):Op:=if o.kind=5 then {o with lo:=mLo lo hi o.lo o.hi,hi:=mHi lo hi o.lo o.hi}else o
namespace PS
def behind (P:PS)(o:Op):PS:=match P.box with
 |none=>P
 |some b=>if CE b.lo b.hi o then {P with box:=some {b with row:=b.row++[clip b.lo b.hi o]}}else P
end PS
structure DG (X X':Mc):Prop where
 BD:X'.d.BD=X.d.BD
 sM:X'.d.sM=X.d.sM
 bx:X'.d.bx=X.d.bx
theorem DG.refl (X:Mc):DG X X:=⟨rfl,rfl,rfl⟩
theorem Fix.two {X':Mc}(h:Fix X X'):DG X X':=⟨h.BD,h.sM,h.bx⟩
theorem DG.trans {X Y Z:Mc}(h:DG X Y)(k:DG Y Z):DG X Z:=⟨k.BD.trans h.BD,k.sM.trans h.sM,k.bx.trans h.bx⟩
theorem AeW {o:Op}(h:w.heap[b]?=some (.cells #[.int .i64 o.kind,.string o.key,.string o.value,.string o.lo,.string o.hi,.int .i64 o.AD] 81 (0,0))):A1 BQ w ⟨some ⟨b,0,none⟩,1,1⟩ [o]:=⟨by rw[List.flatMap_singleton];exact BI (ρ:=BQ) (x:=o) h,Nat.le_refl _⟩
def AM (P:PS)(n:Nat):Prop:=∀b,P.box=some b->b.row.length<=n
theorem Afo (h:A6 w m T X)(hN:AM X.p 1000000)(o:Op){K:TR []->Pr}(k:∀X' T' w',A6 w' m T' X'->X'.p=X.p.behind o->DG X X'->Aq T T' w w'->K () w'):
  Cl Pg 126 [.pointer (some ⟨m,0,none⟩),.agg #[.int .i64 o.kind,.string o.key,.string o.value,.string o.lo,.string o.hi,.int .i64 o.AD]] true [] K w:=by
 refine Jr _ _ _ _ _ _ _ ?_;unfold Gp;dsimp only[Ar,Li,AN,Ll,Hr,Ls,Ts,Tt,Vp,Vs,Vt];refine Ad λa w1 h1 n1 k1=>?_;have g1:=h.Ab k1;have ma:m≠a:=λe=>by have:=h.lt;omega
 unfold PS.behind at k;cases hx:X.d.bx with
 |none=>
  rw[show X.p.box=none from by show X.d.bx.map _=none;rw[hx];rfl]at k;refine BR true (λJ hJ=>?_) λw2 k2=>?_
  ·simp only[sb,g1.hd,Bs,hx];simp only[Option.map_none,Option.isNone_none,sb];exact hJ _ (Am w1)
  ·simp only[sb];exact k X T _ (g1.Ab k2) rfl (DG.refl _) (Aq.k0 (Aj k1 k2))
 |some b=>
  have hN:X.d.box.row.length<=1000000:=hN X.d.box.p (by show X.d.bx.map _=_;rw[hx];rfl);rw[show X.p.box=some X.d.box.p from by show X.d.bx.map _=_;rw[hx];rfl]at k;dsimp only at k;refine BR (!(CE X.d.box.lo X.d.box.hi o)) (λJ hJ=>?_) λw2 k2=>?_
  ·have hb:=g1.r.bo.ok b hx;simp only[sb,g1.hd,Bs,hx];simp only[Option.map_some,Option.isNone_some,sb,h1,g1.hd,Bs,hx,hb,Gb,A5,Nat.reduceAdd];refine Ad λc w2 h2 n2 k2=>?_;have k02:=k1.drew;have h12:=k2.Aw (show w1.drew.heap[a]?=_ from h1);have g2:=(g1.Ab (Am w1)).Ab k2;have hb2:=k2.Aw (show w1.drew.heap[b]?=_ from hb);simp only[sb,g2.hd,Bs,hb2,Gb,hx,Option.map_some,A5,Nat.reduceAdd];refine⟨by trivial,by trivial,?_⟩;refine JN (AeW h2) (by simp) _ _ λw3 k3=>?_;rw[show [o].any (CE X.d.box.lo X.d.box.hi)=CE X.d.box.lo X.d.box.hi o from by simp];exact hJ w3 (Aj (Aj (Am w1) k2) k3)
  ·have g2:=g1.Ab k2;have h2:=k2.Aw h1;rw[show X.d.box.p.lo=X.d.box.lo from rfl,show X.d.box.p.hi=X.d.box.hi from rfl]at k;cases ht:CE X.d.box.lo X.d.box.hi o with
   |false=>
    rw[ht]at k;simp only[Bool.not_false,sb];exact k X T _ g2 rfl (DG.refl _) (Aq.k0 (Aj k1 k2))
   |true=>
    rw[ht]at k;simp only[Bool.not_true,sb];refine AG (λ_ w3=>Aa [] w w3/\w3.heap[a]?=some (.cells #[.int .i64 (clip X.d.box.lo X.d.box.hi o).kind,.string (clip X.d.box.lo X.d.box.hi o).key,.string (clip X.d.box.lo X.d.box.hi o).value,.string (clip X.d.box.lo X.d.box.hi o).lo,.string (clip X.d.box.lo X.d.box.hi o).hi,.int .i64 (clip X.d.box.lo X.d.box.hi o).AD] 81 (0,0))) (λJ hJ=>?_) ?_
    ·simp only[sb,h2];by_cases hk:o.kind=5
     ·rw[show((o.kind:Int)==5)=true from by simpa using hk];simp only[Af];refine AG (λs w3=>∃c,s=(some ⟨c,0,none⟩,())/\Aa [] w w3/\c≠a/\w3.heap[a]?=some (.cells #[.int .i64 o.kind,.string o.key,.string o.value,.string o.lo,.string o.hi,.int .i64 o.AD] 81 (0,0))/\w3.heap[c]?=some (.cells #[.string (mLo X.d.box.lo X.d.box.hi o.lo o.hi),.string (mHi X.d.box.lo X.d.box.hi o.lo o.hi)] 37 (0,0))) (λJ2 hJ2=>?_) ?_
      ·have hb:=g2.r.bo.ok b hx;simp only[sb,g2.hd,Bs,hx,Option.map_some,hb,Gb,h2,A5,Nat.reduceAdd];refine⟨?_,?_⟩
       ·refine Vr _ _ _ _ λw3 k3=>?_;refine Ad λc w4 h4 n4 k4=>?_;have k24:=Aj (Aj (Am w2) k3) k4;have g4:=g2.Ab k24;have a4:=k24.Aw h2;have b4:=g4.r.bo.ok b hx;have nc:c≠a:=λe=>by subst e;have:=Av h1;have:=k2.size;have:=k3.size;have d2:w2.drew.heap.size=w2.heap.size:=rfl;omega
        have n0:w.heap.size<=c:=by have:=k1.size;have:=k2.size;have:=k3.size;have d2:w2.drew.heap.size=w2.heap.size:=rfl;omega
        simp only[sb,g4.hd,Bs,hx,Option.map_some,b4,Gb,a4,A5,Nat.reduceAdd];refine⟨by trivial,by trivial,by trivial,by trivial,?_⟩;refine AaD h4 rfl rfl λw5 h5 k5=>?_;exact hJ2 _ w5 ⟨c,rfl,BT (Aj (Aj k1 k2) k24) k5 n0,nc,k5.Mw a4 (Ne.symm nc),h5⟩
       ·refine Ad λc w3 h3 n3 k3=>?_;have k23:=Aj (Am w2) k3;have g3:=g2.Ab k23;have a3:=k23.Aw h2;have b3:=g3.r.bo.ok b hx;have nc:c≠a:=λe=>by subst e;have:=Av h1;have:=k2.size;have d2:w2.drew.heap.size=w2.heap.size:=rfl;omega
        have n0:w.heap.size<=c:=by have:=k1.size;have:=k2.size;have d2:w2.drew.heap.size=w2.heap.size:=rfl;omega
        simp only[sb,g3.hd,Bs,hx,Option.map_some,b3,Gb,a3,A5,Nat.reduceAdd];refine⟨by trivial,by trivial,by trivial,by trivial,?_⟩;refine Vr _ _ _ _ λw4 k4=>?_;refine AaD (k4.Aw h3) rfl rfl λw5 h5 k5=>?_;exact hJ2 _ w5 ⟨c,rfl,BT (Aj (Aj k1 k2) (Aj k23 k4)) k5 n0,nc,k5.Mw (k4.Aw a3) (Ne.symm nc),h5⟩
      ·rintro _ w3 ⟨c,rfl,k3,nc,h3,hc⟩;have h3d:w3.drew.heap[a]?=_:=h3;simp only[sb,hc];refine Ax h3d 3 _ rfl (by simp) λw4 h4 k4=>?_;have hc4:=k4.Mw (show w3.drew.heap[c]?=_ from hc) nc;simp only[Ck]at h4;simp only[sb,hc4];refine⟨by trivial,?_⟩;refine Ax h4 4 _ rfl (by simp) λw5 h5 k5=>?_;simp only[Ck]at h5;refine hJ () w5 ⟨BT (BT k3.drew k4 n1) k5 n1,?_⟩;rw[h5];unfold clip;rw[if_pos hk]
     ·rw[show((o.kind:Int)==5)=false from by simpa using hk];simp only[sb];refine hJ () w2 ⟨Aj k1 k2,?_⟩;rw[show clip X.d.box.lo X.d.box.hi o=o from if_neg hk];exact h2
    ·rintro _ w3 ⟨k3,h3⟩;generalize hc:clip X.d.box.lo X.d.box.hi o=o' at *;have g3:=h.Ab k3;have hb:=g3.r.bo.ok b hx;simp only[sb,g3.hd,Bs,hx,Option.map_some,hb,Gb,h3];refine Ad λc w4 h4 n4 k4=>?_;have g4:=(g3.Ab (Am w3)).Ab k4;have hb4:=g4.r.bo.ok b hx;simp only[sb,g4.hd,Bs,hx,Option.map_some,hb4,Gb];refine⟨by trivial,by trivial,by trivial,?_⟩;have hs:=g4.r.ro.ok;have hl:=hs.BY;refine AE.app (ρ:=BQ) (new:=[o']) hs (by rw[List.flatMap_singleton];exact BI (ρ:=BQ) (x:=o') h4) rfl (by rw[R1];rfl) (by omega) (by omega) ?_;intro r w5 h5 k5 f5;have gm:w5.heap[m]?=some (.cells (Bs X).toArray 94 (0,0)):=k5.at g4.hd (λhm=>by have:=(g4.r.ro.tag m hm).2;have:=h.t1;omega);simp only[sb,gm,Bs,hx,Option.map_some];refine⟨by trivial,?_⟩;refine g4.uRo hx k5 h5 f5 λw6 h6 e6=>?_;refine k _ _ w6 h6 ?_ ⟨rfl,rfl,rfl⟩ ((Aq.k0 (Aj k3.drew k4)).trans e6);rw[if_pos rfl];unfold Mc.p;dsimp only;rw[hx];rfl
open Go Go.Sx
namespace PS
def AO (P:PS)(i:Nat):PS:={P with held:=P.held.take i++P.held.drop (i+1)}
def FT (P:PS)(o:Op):PS:=({P with writes:=P.writes++[o]}:PS).behind o
def writeAll (P:PS)(ops:List Op):PS:=ops.foldl FT P
def Mn (flag:Bool)(ops:List Op):List Op:=ops.filter (λo=>flag&&fWr o.kind)
def Fh (P:PS)(t:Int):PS:=P.send {PM.zero with kind:=6,Ah:=t}
def decide (P:PS)(t:Int)(flag:Bool):PS:=
 if P.TJ t then match P.held[P.DY t]? with
  |none=>P.Fh t
  |some x=>(((P.Fh t).AO (P.DY t)).writeAll (Mn flag x.ops)).finish t
 else if P.Pb t then((P.Fh t).Ay (P.Ce t)).finish t
 else P.Fh t
end PS
theorem Z2 (P:PS)(o:Op):P.behind o={P with box:=(P.behind o).box}:=by
 unfold PS.behind;split
 ·rfl
 ·split<;>rfl
theorem Bj.box (h:Bj P)(b:Option PB):Bj {P with box:=b}:=⟨h.wt,h.hd,h.dj,h.fn,h.tb,h.wv,h.hv,h.mp,h.mn,h.wr,h.wn,h.er,h.bd,h.hn,h.fl⟩
theorem Uo {a b:List Op}(ha:A9 a=0)(hb:A9 b=0):A9 (a++b)=0:=by
 rw[Bu]at *;intro o ho;rcases List.mem_append.1 ho with ho|ho
 ·exact ha o ho
 ·exact hb o ho
theorem Z6 (P:PS)(o:Op):P.FT o={P with writes:=P.writes++[o],box:=(P.FT o).box}:=Z2 _ o
theorem Bz:∀(ops:List Op) (P:PS),P.writeAll ops={P with writes:=P.writes++ops,box:=(P.writeAll ops).box}
 |[],P=>by show P=_;rw[List.append_nil];rfl
 |o::l,P=>by
  show(P.FT o).writeAll l={P with writes:=P.writes++o::l,box:=((P.FT o).writeAll l).box};have h1:=Z6 P o;have h2:(P.FT o).writes++l=P.writes++o::l:=by rw[h1];simp
  generalize hb:((P.FT o).writeAll l).box=bx;rw[Bz l (P.FT o),h2,hb,h1]
theorem Bj.writeAll (h:Bj P){ops:List Op}(ho:A9 ops=0)(hn:P.writes.length+ops.length<=1000):Bj (P.writeAll ops):=by
 rw[Bz];exact Bj.box (P:={P with writes:=P.writes++ops}) ⟨h.wt,h.hd,h.dj,h.fn,h.tb,h.wv,h.hv,h.mp,h.mn,Uo h.wr ho,by show(P.writes++ops).length<=1000;rw[List.length_append];omega,h.er,h.bd,h.hn,h.fl⟩ _
theorem Bj.AO (h:Bj P)(i:Nat):Bj (P.AO i):=by
 have hs:=Bp P.held i;refine⟨h.wt,h.hd.sublist hs,λx hx y hy=>h.dj x hx y (hs.subset hy),h.fn,h.tb,h.wv,λy hy=>h.hv y (hs.subset hy),h.mp,h.mn,h.wr,h.wn,h.er,h.bd,?_,h.fl⟩;show(P.held.take i++P.held.drop (i+1)).length+P.wait.length<=1000;have:=hs.length_le;have:=h.hn;omega
theorem Bj.Fh (h:Bj P)(t:Int)(hb:P.out.length+1+P.left<=20000):Bj (P.Fh t):=
 ⟨h.wt,h.hd,h.dj,h.fn,h.tb,h.wv,h.hv,h.mp,h.mn,h.wr,h.wn,h.er,by
  show(P.out++[_]).length+P.left<=20000;rw[List.length_append,List.length_singleton];exact hb,h.hn,h.fl⟩
theorem Aa9 {n:Nat}(h:AM P n)(o:Op):AM (P.behind o) (n+1):=by
 unfold PS.behind;intro b hb;cases hp:P.box with
 |none=>rw[hp]at hb;dsimp only at hb;rw[hp]at hb;cases hb
 |some c=>
  rw[hp]at hb;dsimp only at hb;have:=h c hp;split at hb
  ·injection hb with hb;subst hb;simp only[List.length_append,List.length_singleton];omega
  ·rw[hp]at hb;injection hb with hb;subst hb;omega
theorem Aeo (h:A6 w m T X)(hN:X.d.held.length<=100000){i:Nat}(hi:i<X.d.held.length){y:Int}(hy:y=i){J:Pr}(k:∀r T' w',A6 w' m T' {X with d:={X.d with sh:=r,held:=X.d.held.take i++X.d.held.drop (i+1)}}->Aq T T' w w'->J w'):
  (Cl Pg 125 [.slice X.d.sh.p X.d.sh.len X.d.sh.cap,.int .i64 y,.int .i64 (An (y+1))] false [.sc .sl] λr=>St ⟨m,6,none⟩ (.slice r.1.p r.1.len r.1.cap) J) w:=by
 subst hy;refine VW h.r.he.ok (Nat.le_succ i) hi (by omega) rfl (AK (by omega)) ?_;intro r w1 h1 f1 k1;have s:CH 2 T (AX 2 r T) w w1:=CH.row k1 (λb hb=>(h.r.he.tag b hb).2) (λb hb=>.inl (f1 b hb));refine h.uHe k1 h1 (λb hb=>.inl (f1 b hb)) (λx hx=>(h.r.Ro x ((Bp _ _).subset hx)).kt (by decide) s) λw2 h2 e2=>?_;exact k r _ w2 h2 e2
theorem Aef (h:A6 w m T X)(hR:AM X.p 100000)(hW:X.d.writes.length<=100000)(o:Op){c:Nat}(hc:w.heap[c]?=some (.cells #[.int .i64 o.kind,.string o.key,.string o.value,.string o.lo,.string o.hi,.int .i64 o.AD] 81 (0,0)))(hT:T c=0){J:Pr}(k:∀X' T' w',A6 w' m T' X'->X'.p=X.p.FT o->DG X X'->Aq T T' w w'->J w'):
  (Dr<|Nn (some ⟨m,0,none⟩) λa28=>DN ((a28.add 21).add 1) λx29=>A2 .i64 ((⟨c,0,none⟩:Addr).add 0) λx30=>BU ((⟨c,0,none⟩:Addr).add 1) λx31=>BU ((⟨c,0,none⟩:Addr).add 2) λx32=>BU ((⟨c,0,none⟩:Addr).add 3) λx33=>BU ((⟨c,0,none⟩:Addr).add 4) λx34=>A2 .i64 ((⟨c,0,none⟩:Addr).add 5) λx35=>
   At #[(.int .i64 x30),(.string x31),(.string x32),(.string x33),(.string x34),(.int .i64 x35)] 81 λa36=>
   AH (DN ((a28.add 21).add 1) λx37=>λ_=>((.slice x37.p x37.len x37.cap):Value)=(.slice x29.p x29.len x29.cap)) <|
   App 81 6 80 (zc Pg 81) x29 1 (BH (some a36) 1 6) λr38=>
   Nn (some ⟨m,0,none⟩) λa39=>St ((a39.add 21).add 1) (.slice r38.p r38.len r38.cap) <|
   A2 .i64 ((⟨c,0,none⟩:Addr).add 0) λx40=>BU ((⟨c,0,none⟩:Addr).add 1) λx41=>BU ((⟨c,0,none⟩:Addr).add 2) λx42=>BU ((⟨c,0,none⟩:Addr).add 3) λx43=>BU ((⟨c,0,none⟩:Addr).add 4) λx44=>A2 .i64 ((⟨c,0,none⟩:Addr).add 5) λx45=>
   Cl Pg 126 [(.pointer (some ⟨m,0,none⟩)),(.agg #[(.int .i64 x40),(.string x41),(.string x42),(.string x43),(.string x44),(.int .i64 x45)])] true [] λr46=>J) w:=by
 have g0:=h.Ab (Am w);simp only[sb,h.hd,Bs,hc,A5,Nat.reduceAdd];refine Ad λd w1 h1 n1 k1=>?_;have g1:=g0.Ab k1;simp only[sb,g1.hd,Bs,A5,Nat.reduceAdd];refine⟨by trivial,?_⟩;have hs:=g1.r.wr.ok;have hl:=hs.BY;refine AE.app (ρ:=BQ) (new:=[o]) hs (by rw[List.flatMap_singleton];exact BI (ρ:=BQ) (x:=o) h1) rfl (by rw[R1];rfl) (by omega) (by omega) ?_;intro r w2 h2 k2 f2;refine g1.uWr k2 h2 f2 λw3 h3 e3=>?_;obtain⟨hc3,hT3⟩:=((Aq.k0 (Aj (Am w) k1)).trans e3).at hc hT;simp only[sb,hc3];refine Afo h3 (λb hb=>Nat.le_trans (hR b hb) (by decide)) o ?_;intro X4 T4 w4 h4 q4 x4 e4;exact k X4 T4 w4 h4 q4 ⟨x4.BD,x4.sM,x4.bx⟩ (((Aq.k0 (Aj (Am w) k1)).trans e3).trans e4)
theorem Af0 {t:Int}(hp:Bj X.p)(h:X.p.TJ t=true):∃x,X.d.held[X.p.DY t]?=some x/\x.Ah=t:=by
 obtain⟨y,h1,h2⟩:=MN hp h;have h1':(X.d.held.map Hd.p)[X.p.DY t]?=some y:=h1;rw[List.getElem?_map,Option.map_eq_some_iff]at h1';obtain⟨x,hx,rfl⟩:=h1';exact⟨x,hx,h2⟩
theorem Aih {t:Int}(hp:Bj X.p)(h:X.p.Pb t=true):∃x,X.d.wait[X.p.Ce t]?=some x/\x.Ah=t:=by
 obtain⟨y,h1,h2⟩:=D9 hp h;have h1':(X.d.wait.map Wt.p)[X.p.Ce t]?=some y:=h1;rw[List.getElem?_map,Option.map_eq_some_iff]at h1';obtain⟨x,hx,rfl⟩:=h1';exact⟨x,hx,h2⟩
theorem AdU {flag:Bool}{ops:List Op}{o:Op}(ho:ops[i]?=some o)(P:PS):P.writeAll (PS.Mn flag (ops.take (i+1)))=if flag&&fWr o.kind then(P.writeAll (PS.Mn flag (ops.take i))).FT o else P.writeAll (PS.Mn flag (ops.take i)):=by
 rw[List.take_add_one,ho];unfold PS.Mn;rw[List.filter_append];show P.writeAll (_++List.filter _ [o])=_;rw[List.filter_cons,List.filter_nil];cases (flag&&fWr o.kind)with
 |false=>rw[if_neg (by simp),if_neg (by simp),List.append_nil]
 |true=>
  rw[if_pos rfl,if_pos rfl];unfold PS.writeAll;rw[List.foldl_append];rfl
theorem OZ (flag:Bool)(ops:List Op):(PS.Mn flag ops).length<=ops.length:=List.length_filter_le _ _
theorem OC {flag:Bool}{ops:List Op}(h:A9 ops=0):A9 (PS.Mn flag ops)=0:=by
 rw[Bu]at *;exact λo ho=>h o (List.mem_filter.1 ho).1
theorem Ye:∀(ops:List Op) {P:PS} {n:Nat},AM P n->AM (P.writeAll ops) (n+ops.length)
 |[],P,n,h=>h
 |o::l,P,n,h=>by
  have h1:AM (P.FT o) (n+1):=Aa9 (P:={P with writes:=P.writes++[o]}) h o;have h2:=Ye l h1;rw[List.length_cons,show n+(l.length+1)=n+1+l.length by omega];exact h2
set_option maxHeartbeats 1000000 in
theorem YD (h:A6 w m T X)(hp:Bj X.p)(hb:X.p.out.length+1+X.p.left<=20000)(hf:X.d.fin.length<100000)(hw:X.d.writes.length<=900)(hR:AM X.p 90000)(x:Mg){K:TR []->Pr}(k:∀X' T' w',A6 w' m T' X'->X'.p=X.p.decide x.Ah x.flag->DG X X'->Aq T T' w w'->K () w'):
  Cl Pg 74 [.pointer (some ⟨m,0,none⟩),.agg #[.int .i64 x.kind,.int .i64 x.src,.int .i64 x.dst,.int .i64 x.Ch,.int .i64 x.code,.int .i64 x.peer,.int .u64 x.VT,.int .u64 x.Au,.int .u64 x.Ah,.int .u64 x.low,.int .u64 x.CZ,.int .u64 x.Ao,.int .u64 x.move,.int .u64 x.attempt,.int .u64 x.n,.bool x.flag,.string x.FN,.string x.G6,.slice x.so.p x.so.len x.so.cap,.slice x.sr.p x.sr.len x.sr.cap,.slice x.sw.p x.sw.len x.sw.cap]] true [] K w:=by
 refine IS _ _ _ _ _ _ _ _ _ _ _ _ _ _ _ _ _ _ _ x.so x.sr x.sw ?_;unfold Gi;dsimp only[Ag,Ar,Lb,AN,Ll,Lu,Gh,Ts,Vb,Vi,Vp,Vs,Vt,Vu,Gx];refine Ad λa w1 h1 n1 k1=>?_;have g1:=h.Ab k1;have Ta:T a=0:=h.new n1;simp only[sb,h1];have o1:=hp.Afy;refine KD g1 ⟨6,0,0,0,0,0,0,0,x.Ah,0,0,0,0,0,0,false,BA [],BA [],⟨none,0,0⟩,⟨none,0,0⟩,⟨none,0,0⟩,[],[],[]⟩ (Bq.NI λw=>⟨A1.nil w,⟨A1.nil w,by simp⟩,A1.nil w⟩) (by omega) ?_;intro so2 T2 w2 h2 e2;obtain⟨ha2,Ta2⟩:=e2.at h1 Ta;have e02:Aq T T2 w w2:=(Aq.k0 k1).trans e2;obtain⟨X2,hX2⟩:∃X2:Mc,X2={X with d:={X.d with Er:=so2,out:=X.d.out++[⟨6,X.c.id,0,0,0,0,0,0,x.Ah,0,0,0,0,0,0,false,BA [],BA [],⟨none,0,0⟩,⟨none,0,0⟩,⟨none,0,0⟩,[],[],[]⟩]}}:=⟨_,rfl⟩;rw[<-hX2]at h2;have q2:X2.p=X.p.Fh x.Ah:=by rw[hX2];unfold PS.Fh PS.send Mc.p;dsimp only;rw[List.map_append];rfl
 have p2:Bj X2.p:=by rw[q2];exact hp.Fh _ hb
 have x2:DG X X2:=by rw[hX2];exact⟨rfl,rfl,rfl⟩
 have f2:X2.d.fin=X.d.fin:=by rw[hX2]
 have v2:X2.d.writes=X.d.writes:=by rw[hX2]
 have R2:AM X2.p 90000:=by rw[q2];exact hR
 have lx:=p2.Aem;simp only[sb,ha2];refine Aa6 h2 p2.hdX (by omega) x.Ah λw3 k3=>?_;have g3:=h2.Ab k3;have ha3:=k3.Aw ha2;have e03:=e02.trans (Aq.k0 k3);rw[<-XT,<-Af1];dsimp only;have hdec:X.p.decide x.Ah x.flag=if X2.p.TJ x.Ah then match X2.p.held[X2.p.DY x.Ah]? with
  |none=>X2.p
  |some y=>((X2.p.AO (X2.p.DY x.Ah)).writeAll (PS.Mn x.flag y.ops)).finish x.Ah
 else if X2.p.Pb x.Ah then(X2.p.Ay (X2.p.Ce x.Ah)).finish x.Ah
 else X2.p:=by rw[q2];rfl
 rw[hdec]at k
 have fin:∀(X5:Mc) (T5:Nat->Nat) (w5:World),A6 w5 m T5 X5->Bj X5.p->X5.d.fin=X.d.fin->DG X X5->Aq T T5 w w5->(∀X' T' w',A6 w' m T' X'->X'.p=X5.p.finish x.Ah->DG X X'->Aq T T' w w'->K () w') ->
   Cl Pg 127 [(.pointer (some ⟨m,0,none⟩)),(.int .u64 x.Ah)] true [] (λr64=>K ()) w5:=by
  intro X5 T5 w5 h5 p5 f5 x5 e5 hk;refine Ad6 h5 p5 (by rw[f5];exact hf) x.Ah ?_;intro X6 T6 w6 h6 q6 x6 e6;exact hk X6 T6 w6 h6 q6 (x5.trans x6.two) (e5.trans e6)
 cases hhis:X2.p.TJ x.Ah with
 |true=>
  obtain⟨y,hy,hyt⟩:=Af0 p2 hhis;have hyp:X2.p.held[X2.p.DY x.Ah]?=some y.p:=by
   show(X2.d.held.map Hd.p)[X2.p.DY x.Ah]?=_;rw[List.getElem?_map,hy];rfl
  rw[hhis,if_pos rfl,hyp]at k;dsimp only at k;have hlt:=(List.getElem?_eq_some_iff.1 hy).1;obtain⟨v1,v2'⟩:=p2.hv y.p (List.mem_of_getElem? hyp);have v1:A9 y.ops=0:=v1;have v2':y.ops.length<=24:=v2';have himm:=(g3.r.Ro y (List.mem_of_getElem? hy));generalize hj:X2.p.DY x.Ah=j at *;simp only[sb,g3.hd,Bs];refine ld1 (ρ:=Fo) g3.r.he.ok.C6 hy 1 .sl y.so rfl ?_;simp only[sb,g3.hd,Bs];refine Aeo g3 (by omega) hlt rfl ?_;intro r4 T4 w4 h4 e4;obtain⟨ha4,Ta4⟩:=e4.at ha3 Ta2;have e04:=e03.trans e4;have himm4:=himm.Bm e4;have hyl:=himm4.ok.len;obtain⟨X4,hX4⟩:∃X4:Mc,X4={X2 with d:={X2.d with sh:=r4,held:=X2.d.held.take j++X2.d.held.drop (j+1)}}:=⟨_,rfl⟩;rw[<-hX4]at h4;have q4:X4.p=X2.p.AO j:=by rw[hX4];unfold PS.AO Mc.p;dsimp only;rw[List.map_append,List.map_take,List.map_drop]
  have p4:Bj X4.p:=by rw[q4];exact p2.AO j
  have x4:DG X X4:=x2.trans (by rw[hX4];exact⟨rfl,rfl,rfl⟩);have f4:X4.p.fin=X.d.fin:=by rw[q4];exact f2
  have u4:X4.p.writes=X.d.writes:=by rw[q4];exact v2
  have R4:AM X4.p 90000:=by rw[q4];exact R2
  rw[<-q4]at k;rw[show y.p.ops=y.ops from rfl]at k;refine⟨λn st w'=>∃(i:Nat) (X1:Mc) (T1:Nat->Nat),st=((i:Int),())/\n=y.ops.length-i/\i<=y.ops.length/\A6 w' m T1 X1/\X1.p=X4.p.writeAll (PS.Mn x.flag (y.ops.take i))/\DG X X1/\Aq T4 T1 w4 w',⟨_,0,X4,T4,rfl,rfl,by omega,h4,rfl,x4,Aq.refl _ _⟩,?_⟩;rintro n _ w5 ⟨i,X5,T5,rfl,rfl,hi,h5,q5,x5,e5⟩;obtain⟨ha5,Ta5⟩:=e5.at ha4 Ta4;have l1:=OZ x.flag (y.ops.take i);have l2:(y.ops.take i).length=i:=by rw[List.length_take];omega
  have ok5:A9 (PS.Mn x.flag (y.ops.take i))=0:=OC (by rw[Bu]at *;exact λo ho=>v1 o (List.mem_of_mem_take ho));have p5:Bj X5.p:=by rw[q5];exact p4.writeAll ok5 (by rw[u4];omega)
  have f5:X5.d.fin=X.d.fin:=by show X5.p.fin=_;rw[q5,Bz];exact f4
  have u5:X5.d.writes=X.d.writes++PS.Mn x.flag (y.ops.take i):=by show X5.p.writes=_;rw[q5,Bz,<-u4]
  have R5:AM X5.p 100000:=by
   rw[q5];intro b hb;have:=Ye (PS.Mn x.flag (y.ops.take i)) R4 b hb;omega
  dsimp only;by_cases hil:i<y.ops.length
  ·rw[decide_eq_true (by omega)];simp only[Af];obtain⟨o,ho⟩:∃o,y.ops[i]?=some o:=⟨_,List.getElem?_eq_getElem hil⟩;have step:=AdU (flag:=x.flag) ho X4.p;dsimp only[Jp];refine Sn (himm4.Bm e5).ok ho ?_;refine Sq o λc w6 h6 n6 k6=>?_;have g6:=h5.Ab k6;have Tc:T5 c=0:=h5.new n6;have ha6:=k6.Aw ha5;simp only[sb,ha6,h6];have nxt:∀(X7:Mc) (T7:Nat->Nat) (w7:World),A6 w7 m T7 X7->X7.p=X4.p.writeAll (PS.Mn x.flag (y.ops.take (i+1)))->DG X X7->Aq T4 T7 w4 w7->∃m',m'<y.ops.length-i/\∃(i_1:Nat) (X1:Mc) (T1:Nat->Nat),(An ((i:Int)+1),())=((i_1:Int),())/\m'=y.ops.length-i_1/\i_1<=y.ops.length/\A6 w7 m T1 X1/\X1.p=X4.p.writeAll (PS.Mn x.flag (y.ops.take i_1))/\DG X X1/\Aq T4 T1 w4 w7:=by
    intro X7 T7 w7 h7 q7 x7 e7;exact⟨y.ops.length-(i+1),by omega,i+1,X7,T7,by rw[AK (by omega)],rfl,by omega,h7,q7,x7,e7⟩
   cases hfl:x.flag with
   |false=>
    simp only[sb];rw[hfl]at step nxt q5;exact nxt X5 T5 w6 g6 (by rw[step];exact q5) x5 (e5.trans (Aq.k0 k6))
   |true=>
    simp only[sb,h6];rw[hfl]at step nxt q5;refine Vn o λw7 k7=>?_;have g7:=g6.Ab k7;have h7:=k7.Aw h6;dsimp only;cases hwr:fWr o.kind with
    |false=>
     rw[hwr]at step;simp only[sb];exact nxt X5 T5 w7 g7 (by rw[step];exact q5) x5 (e5.trans (Aq.k0 (Aj k6 k7)))
    |true=>
     rw[hwr]at step;simp only[Af];refine Aef g7 R5 (by rw[u5,List.length_append];omega) o h7 Tc ?_;intro X8 T8 w8 h8 q8 x8 e8;exact nxt X8 T8 w8 h8 (by rw[step,q8,q5];rfl) (x5.trans x8) ((e5.trans (Aq.k0 (Aj k6 k7))).trans e8)
  ·rw[decide_eq_false (by omega)];simp only[sb,ha5];rw[List.take_of_length_le (by omega)]at q5;rw[<-q5]at k;exact fin X5 T5 w5 h5 p5 f5 x5 (e04.trans e5) k
 |false=>
  rw[hhis,if_neg (by simp)]at k;simp only[sb,ha3];refine Nj g3 p2.wtX (by omega) x.Ah λw4 k4=>?_;have g4:=g3.Ab k4;have ha4:=k4.Aw ha3;have e04:=e03.trans (Aq.k0 k4);rw[<-U7,<-XB];dsimp only;cases hwis:X2.p.Pb x.Ah with
  |false=>
   rw[hwis,if_neg (by simp)]at k;exact k X2 T2 w4 g4 rfl x2 e04
  |true=>
   rw[hwis,if_pos rfl]at k;obtain⟨y,hy,hyt⟩:=Aih p2 hwis;have hlt:=(List.getElem?_eq_some_iff.1 hy).1;have hyp:X2.p.wait[X2.p.Ce x.Ah]?=some y.p:=by
    show(X2.d.wait.map Wt.p)[X2.p.Ce x.Ah]?=_;rw[List.getElem?_map,hy];rfl
   obtain⟨pu,_⟩:=p2.Ay hyp;generalize hj:X2.p.Ce x.Ah=j at *;simp only[sb,g4.hd,Bs];refine Pp g4 (by omega) hlt rfl ?_;intro r5 T5 w5 h5 e5;obtain⟨ha5,Ta5⟩:=e5.at ha4 Ta2;obtain⟨X5,hX5⟩:∃X5:Mc,X5={X2 with d:={X2.d with sw:=r5,wait:=X2.d.wait.take j++X2.d.wait.drop (j+1)}}:=⟨_,rfl⟩;rw[<-hX5]at h5;have q5:X5.p=X2.p.Ay j:=by rw[hX5];unfold PS.Ay Mc.p;dsimp only;rw[List.map_append,List.map_take,List.map_drop]
   rw[<-q5]at k pu;simp only[sb,ha5];exact fin X5 T5 w5 h5 pu (by rw[hX5];exact f2) (x2.trans (by rw[hX5];exact⟨rfl,rfl,rfl⟩)) (e04.trans e5) k
open Go Go.Sx
namespace PS
def Bk (P:PS)(low:Int):PS:=if P.c.low<low then {P with c:={P.c with low:=low},fin:=P.fin.filter (λn=>!(Decidable.decide (n<low)))}else P
def gone (P:PS)(t:Int):Bool:=Decidable.decide (t<P.c.low)||P.fin.contains t||P.Pb t
def Nb (P:PS)(o:Op):Bool:=Decidable.decide (ER o≠0)||!Afm P.Ac P.c.id (Dp o).1 (Dp o).2
def full (P:PS):Bool:=Decidable.decide (6<=P.held.length+P.wait.length)||Decidable.decide (64<=P.held.length+P.wait.length+P.fin.length)
def C7 (P:PS)(Ao:Int)(ops:List Op):Bool:=Decidable.decide (Ao≠P.c.Ao)||(P.full||(ops.any P.Nb||P.closed ops))
def await (P:PS)(t:Int)(ops:List Op):PS:={P with wait:=P.wait.take (P.Ce t)++⟨t,ops,ops.map AI,0⟩::P.wait.drop (P.Ce t)}
def Du (P:PS)(t Ao:Int)(ops:List Op):PS:=
 if P.gone t then P
 else if P.TJ t then match P.held[P.DY t]? with
  |none=>P
  |some x=>P.Df t 3 (P.results x.ops)
 else if P.C7 Ao ops then P.Df t 4 []
 else((P.await t ops).Cw 30 t).through DU
def work (P:PS)(t low Ao:Int)(ops:List Op):PS:=(P.Bk low).Du t Ao ops
end PS
theorem Bj.Bk {P:PS}(h:Bj P)(low:Int):Bj (P.Bk low):=by
 unfold PS.Bk;split
 ·exact⟨h.wt,h.hd,h.dj,h.fn.filter _,h.tb,h.wv,h.hv,h.mp,h.mn,h.wr,h.wn,h.er,h.bd,h.hn,Nat.le_trans (List.length_filter_le _ _) h.fl⟩
 ·exact h
theorem GP (P:PS)(low:Int):(P.Bk low).out=P.out:=by unfold PS.Bk;split<;>rfl
theorem Hj (P:PS)(low:Int):(P.Bk low).left=P.left:=by unfold PS.Bk;split<;>rfl
theorem Bj.await {P:PS}(h:Bj P){t:Int}{ops:List Op}(ho:A9 ops=0)(hl:ops.length<=24)(hw:∀x∈P.wait,x.Ah≠t)(hn:∀x∈P.held,x.Ah≠t)(hc:P.held.length+P.wait.length<1000)(hb:P.out.length+P.left+60<=20000):Bj (P.await t ops)/\(P.await t ops).out.length+(P.await t ops).left<=P.out.length+P.left+49:=by
 have hmem:∀y,y∈P.wait.take (P.Ce t)++⟨t,ops,ops.map AI,0⟩::P.wait.drop (P.Ce t)->y=⟨t,ops,ops.map AI,0⟩\/y∈P.wait:=by
  intro y hy;rcases List.mem_append.1 hy with hy|hy
  ·exact .inr (List.mem_of_mem_take hy)
  ·rcases List.mem_cons.1 hy with hy|hy
   ·exact .inl hy
   ·exact .inr (List.mem_of_mem_drop hy)
 have hle:P.Ce t<=P.wait.length:=Dv _ _;have hlen:(P.wait.take (P.Ce t)++(⟨t,ops,ops.map AI,0⟩:PW)::P.wait.drop (P.Ce t)).length=P.wait.length+1:=by
  rw[List.length_append,List.length_cons,List.length_take,List.length_drop];omega
 have hsum:((P.wait.take (P.Ce t)++(⟨t,ops,ops.map AI,0⟩:PW)::P.wait.drop (P.Ce t)).map PS.KL).sum=(P.wait.map PS.KL).sum+ops.length:=by
  conv=>rhs;rw[<-List.take_append_drop (P.Ce t) P.wait]
  simp only[List.map_append,List.sum_append,List.map_cons,List.sum_cons];have:PS.KL ⟨t,ops,ops.map AI,0⟩=ops.length:=by unfold PS.KL;simp
  omega
 have hbb:(P.await t ops).out.length+(P.await t ops).left<=P.out.length+P.left+49:=by
  unfold PS.await PS.left;dsimp only;rw[hsum,hlen];omega
 refine⟨⟨Aas (f:=PW.Ah) (x:=⟨t,ops,ops.map AI,0⟩) h.wt hw,h.hd,λx hx y hy=>?_,h.fn,h.tb,λy hy=>?_,h.hv,h.mp,h.mn,h.wr,h.wn,h.er,by omega,?_,h.fl⟩,hbb⟩
 ·rcases hmem x hx with rfl|hx
  ·exact Ne.symm (hn y hy)
  ·exact h.dj x hx y hy
 ·rcases hmem y hy with rfl|hy
  ·exact⟨ho,hl,rfl,by simp,by simp⟩
  ·exact h.wv y hy
 ·show P.held.length+(P.wait.take (P.Ce t)++_::P.wait.drop (P.Ce t)).length<=1000;rw[hlen];omega
open Go Go.Sx
theorem Adm (h:A6 w m T X){a:Nat}(ha:w.heap[a]?=some (.cells #[.pointer (some ⟨m,0,none⟩)] 28 (0,0)))(hN:X.d.Ac.length<=1000000){so:Sl}{ops:List Op}(ho:A1 BQ w so ops)(hl:ops.length<=1000000){K:TR [.sc .b]->Pr}(k:∀w',Aa [] w w'->K (ops.any X.p.Nb,()) w'):Cl Pg 48 [.slice so.p so.len so.cap,.func (.func 119) #[] #[.pointer (some ⟨a,0,none⟩)]] false [.sc .b] K w:=by
 refine BN (p:=X.p.Nb) (F:=λ_=>False) ho ?_ (by omega) λw2 k2=>k w2 k2;intro w2 k2 x _ K1 hK;have k2:=k2.SU;have g2:=h.Ab k2;have a2:=k2.Aw ha;refine BJ (by kernel_rfl) ?_;refine Jn _ _ _ _ _ _ _ ?_;unfold Gv;dsimp only[Ar,N6,Li,AN,Ll,Ls,Tt,Vi,Vs,Vt];refine Ad λc w3 h3 n3 k3=>?_;simp only[sb,h3];refine Ya x λw4 k4=>?_;refine Ad λd w5 h5 n5 k5=>?_;have k25:=Aj (Aj k3 k4) k5;refine AaD h5 rfl rfl λw6 h6 k6=>?_;have k26:=BT k25 k6 (by have:=k3.size;have:=k4.size;omega);have g6:=g2.Ab k26;have a6:=k26.Aw a2;have a6d:w6.drew.heap[a]?=_:=a6;by_cases he:ER x=0
 ·simp only[he,if_true,sb,a6,g6.hd,Bs,h6,show((0:Int) !=0)=false from rfl];refine AeK (g6.Ab (Am w6)).r.ow.ok hN _ _ _ λw7 k7=>?_;have:=hK w7 (Aj k26.drew k7);unfold PS.Nb at this;rw[decide_eq_false (by simpa using he),Bool.false_or]at this;exact this
 ·rw[if_neg he];simp only[sb];rw[show((ER x:Int) !=0)=true from by simpa using he];have:=hK _ k26.drew;unfold PS.Nb at this;rw[decide_eq_true he,Bool.true_or]at this;exact this
set_option maxHeartbeats 2000000 in
theorem Aen (h:A6 w m T X)(hp:Bj X.p)(hb:X.p.out.length+X.p.left+60<=20000)(hO:X.d.Ac.length<=1000000)(x:Mg)(hx:Bq T (Su x) w)(ho:A9 x.ops=0)(hl:x.ops.length<=24){K:TR []->Pr}(k:∀X' T' w',A6 w' m T' X'->X'.p=X.p.work x.Ah x.low x.Ao x.ops->DG X X'->Aq T T' w w'->K () w'):
  Cl Pg 73 [.pointer (some ⟨m,0,none⟩),.agg #[.int .i64 x.kind,.int .i64 x.src,.int .i64 x.dst,.int .i64 x.Ch,.int .i64 x.code,.int .i64 x.peer,.int .u64 x.VT,.int .u64 x.Au,.int .u64 x.Ah,.int .u64 x.low,.int .u64 x.CZ,.int .u64 x.Ao,.int .u64 x.move,.int .u64 x.attempt,.int .u64 x.n,.bool x.flag,.string x.FN,.string x.G6,.slice x.so.p x.so.len x.so.cap,.slice x.sr.p x.sr.len x.sr.cap,.slice x.sw.p x.sw.len x.sw.cap]] true [] K w:=by
 refine Lo _ _ _ _ _ _ _ _ _ _ _ _ _ _ _ _ _ _ _ x.so x.sr x.sw ?_;unfold IE;dsimp only[Ag,RL,Ll,Lu,Ts,Tu,Vi,Vp,Vs,Vu];refine Ad λa w1 h1 n1 k1=>?_;have g1:=h.Ab k1;have Ta:T a=0:=h.new n1;refine Ad λb w2 h2 n2 k2=>?_;have g2:=g1.Ab k2;have h1:=k2.Aw h1;have Tb:T b=0:=g1.new n2;have k02:=Aj k1 k2;obtain⟨f0,hf0⟩:∃o,o=(Obj.cells #[.int .i64 x.kind,.int .i64 x.src,.int .i64 x.dst,.int .i64 x.Ch,.int .i64 x.code,.int .i64 x.peer,.int .u64 x.VT,.int .u64 x.Au,.int .u64 x.Ah,.int .u64 x.low,.int .u64 x.CZ,.int .u64 x.Ao,.int .u64 x.move,.int .u64 x.attempt,.int .u64 x.n,.bool x.flag,.string x.FN,.string x.G6,.slice x.so.p x.so.len x.so.cap,.slice x.sr.p x.sr.len x.sr.cap,.slice x.sw.p x.sw.len x.sw.cap] 47 (0,0)):=⟨_,rfl⟩;refine AG (λ_ w3=>∃X3 T3,A6 w3 m T3 X3/\X3.p=X.p.Bk x.low/\DG X X3/\Aq T T3 w2 w3) (λJ hJ=>?_) ?_
 ·have hge:decide (x.low>X.c.low)=decide (X.p.c.low<x.low):=rfl;simp only[sb,h1,h2,g2.hd,Bs];by_cases hlow:X.p.c.low<x.low
  ·rw[hge,decide_eq_true hlow];simp only[sb,h1,h2];have h1d:w2.drew.heap[a]?=_:=h1;refine A6.set (X':={X with c:={X.c with low:=x.low}}) (show w2.drew.heap[m]?=_ from g2.hd) g2.t1 (g2.Ab (Am w2)).r (i:=8) (by decide) rfl rfl λw3 h3 s3=>?_;have e3:Aq T T w2 w3:=(Aq.k0 (Am w2)).trans (s3.Bm (by decide));obtain⟨a3,_⟩:=e3.at h1 Ta;obtain⟨b3,_⟩:=e3.at h2 Tb;simp only[sb,a3,b3,h3.hd,Bs];have g3:=h3.Ab (Am w3);refine NJ (p:=λn:Int=>decide (n<x.low)) g3.r.fi.ok ?_ (by have:=hp.fl;exact Nat.le_trans this (by omega)) ?_
   ·intro w4 k4 y _ K1 hK;refine BJ (by kernel_rfl) ?_;refine IZ _ _ ?_;unfold G2;dsimp only[Lu];have b4:w4.heap[b]?=_:=(k4.get b (Av b3) (λhb=>by have:=(g3.r.fi.tag b hb).2;rw[Tb]at this;cases this)).trans b3;simp only[sb,b4];exact hK w4 (Aa.refl _ _)
   ·intro r w4 h4 f4 k4;have a4:w4.heap[a]?=_:=k4.at (show w3.drew.heap[a]?=_ from a3) (λhb=>by have:=(g3.r.fi.tag a hb).2;rw[Ta]at this;cases this);have m4:w4.heap[m]?=_:=k4.at (show w3.drew.heap[m]?=_ from h3.hd) (λhb=>by have:=(g3.r.fi.tag m hb).2;have:=h3.t1;omega);simp only[sb,a4];refine⟨by trivial,?_⟩;refine g3.uFi k4 h4 (λy hy=>.inl (f4 y hy)) λw5 h5 e5=>?_;refine hJ () w5 ⟨_,_,h5,?_,⟨rfl,rfl,rfl⟩,(e3.trans (Aq.k0 (Am w3))).trans e5⟩;unfold PS.Bk;rw[if_pos hlow];rfl
  ·rw[hge,decide_eq_false hlow];simp only[sb];refine hJ () _ ⟨X,T,g2.Ab (Am w2),?_,DG.refl _,Aq.k0 (Am w2)⟩;unfold PS.Bk;rw[if_neg hlow]
 ·rintro _ w3 ⟨X3,T3,h3,q3,x3,e3⟩;obtain⟨a3,Ta3⟩:=e3.at h1 Ta;obtain⟨b3,Tb3⟩:=e3.at h2 Tb;have x3i:=(hx.Ab k02).Bm e3;have e03:Aq T T3 w w3:=(Aq.k0 k02).trans e3;have p3:Bj X3.p:=by rw[q3];exact hp.Bk _
  have O3:X3.d.Ac.length<=1000000:=by show X3.p.Ac.length<=_;rw[q3];unfold PS.Bk;split<;>exact hO
  have hb3:X3.p.out.length+X3.p.left+60<=20000:=by rw[q3,GP,Hj];exact hb
  have lx:=p3.Aem;have ox:=p3.Afy;have k:∀X' T' w',A6 w' m T' X'->X'.p=X3.p.Du x.Ah x.Ao x.ops->DG X3 X'->Aq T3 T' w3 w'->K () w':=by
   intro X' T' w' h' q' x' e';refine k X' T' w' h' ?_ (x3.trans x') (e03.trans e');rw[q',q3];rfl
  clear hb hO hp q3 x3 e3 e03 hx;simp only[sb,a3,b3];refine Nj h3 p3.wtX (by omega) x.Ah λw4 k4=>?_;have g4:=h3.Ab k4;have a4:=k4.Aw a3;have b4:=k4.Aw b3;rw[<-U7,<-XB];dsimp only;refine BR (X3.p.gone x.Ah) (λJ hJ=>?_) λw5 k5=>?_
  ·simp only[sb,a4,b4,g4.hd,Bs];have hge:decide (x.Ah<X3.c.low)=decide (x.Ah<X3.p.c.low):=rfl;unfold PS.gone at hJ;cases hlow:decide (x.Ah<X3.c.low)with
   |true=>
    rw[<-hge,hlow]at hJ;simp only[sb];exact hJ _ (Am w4)
   |false=>
    rw[<-hge,hlow,Bool.false_or]at hJ;simp only[sb,a4,b4,g4.hd,Bs];refine UI (g4.Ab (Am w4)).r.fi.ok.C6 x.Ah (by have:=p3.fl;exact Nat.le_trans this (by omega)) ?_;dsimp only;rw[show X3.p.fin=X3.d.fin from rfl]at hJ;cases hc:X3.d.fin.contains x.Ah with
    |true=>rw[hc,Bool.true_or]at hJ;exact hJ _ (Am w4)
    |false=>rw[hc,Bool.false_or]at hJ;exact hJ _ (Am w4)
  ·have g5:=g4.Ab k5;have k35:=Aj k4 k5;have a5:=k35.Aw a3;have b5:=k35.Aw b3;unfold PS.Du at k;cases hg:X3.p.gone x.Ah with
   |true=>
    rw[hg,if_pos rfl]at k;exact k X3 T3 w5 g5 rfl (DG.refl _) (Aq.k0 k35)
   |false=>
    rw[hg,if_neg (by simp)]at k;simp only[Ae,sb,a5,b5];refine Aa6 g5 p3.hdX (by omega) x.Ah λw6 k6=>?_;have g6:=g5.Ab k6;have k36:=Aj k35 k6;have a6:=k36.Aw a3;have b6:=k36.Aw b3;rw[<-XT,<-Af1];dsimp only;cases hh:X3.p.TJ x.Ah with
    |true=>
     obtain⟨y,hy,hyt⟩:=Af0 p3 hh;have hyp:X3.p.held[X3.p.DY x.Ah]?=some y.p:=by
      show(X3.d.held.map Hd.p)[X3.p.DY x.Ah]?=_;rw[List.getElem?_map,hy];rfl
     rw[hh,if_pos rfl,hyp]at k;dsimp only at k;obtain⟨v1,v2⟩:=p3.hv y.p (List.mem_of_getElem? hyp);have v1:A9 y.ops=0:=v1;have v2:y.ops.length<=24:=v2;have a6d:w6.drew.heap[a]?=_:=a6;have g6d:=g6.Ab (Am w6);simp only[sb,a6,b6,g6.hd,Bs];refine ld1 (ρ:=Fo) g6d.r.he.ok.C6 hy 1 .sl y.so rfl ?_;refine W8 g6d p3.mp (Nat.le_trans p3.mn (by omega)) p3.wr (Nat.le_trans p3.wn (by omega)) (g6d.r.Ro y (List.mem_of_getElem? hy)).ok v1 (by omega) ?_;intro sr rs w7 k7 ir7 hrs;have k37:=Aj k36.drew k7;have a7:=k37.Aw a3;have b7:=k37.Aw b3;have g7:=g6d.Ab k7;simp only[sb,a7,b7];refine⟨by trivial,by trivial,?_⟩;refine V6 g7 x.Ah 3 sr rs ir7 (by omega) ?_;intro so' T8 w8 h8 e8;refine k _ T8 w8 h8 ?_ ⟨rfl,rfl,rfl⟩ ((Aq.k0 k37).trans e8);show Mc.p _=X3.p.Df x.Ah 3 (X3.p.results y.ops);unfold PS.Df PS.send PS.results;rw[show(Bd (Bd X3.p.M X3.p.writes).1 y.ops).2=rs.map Rs.p from hrs.symm];unfold Mc.p;dsimp only;rw[List.map_append];rfl
    |false=>
     rw[hh,if_neg (by simp)]at k;have a6d:w6.drew.heap[a]?=_:=a6;simp only[sb,a6,b6,g6.hd,Bs];have g6d:=g6.Ab (Am w6);have k36:=k36.drew;have lh:=g6d.r.he.ok.BY;have lw:=g6d.r.wa.ok.BY;have lf:X3.d.sf.len=X3.d.fin.length:=V1 g6d.r.fi.ok.C6;have xi6:=x3i.Ab k36;refine BR (X3.p.C7 x.Ao x.ops) (λJ hJ=>?_) λw7 k7=>?_
     ·have hJ:∀c w',X3.p.C7 x.Ao x.ops=c->Aa [] w6.drew w'->J (c,()) w':=λc w' e k=>by rw[<-e];exact hJ w' k
      have kd:Aa [] w6.drew w6.drew.drew:=Am _;have h4:X3.p.held.length=X3.d.held.length:=List.length_map _;have h5:X3.p.wait.length=X3.d.wait.length:=List.length_map _;have h6:X3.p.fin.length=X3.d.fin.length:=rfl;have hfl:=p3.fl;simp only[sb,a6,b6,g6.hd,Bs];unfold PS.C7 PS.full at hJ;by_cases c1:x.Ao=X3.c.Ao
      ·rw[show((x.Ao:Int) !=X3.c.Ao)=false from by simpa using c1];rw[decide_eq_false (show ¬(x.Ao≠X3.p.c.Ao)from λh=>h c1),Bool.false_or]at hJ;simp only[Ae];rw[lh,lw,By (by omega) (by omega)];by_cases c2:6<=X3.d.held.length+X3.d.wait.length
       ·rw[decide_eq_true (by omega)];simp only[Af];refine hJ _ _ ?_ kd;rw[decide_eq_true (show 6<=X3.p.held.length+X3.p.wait.length by omega),Bool.true_or,Bool.true_or]
       ·rw[decide_eq_false (by omega)];rw[decide_eq_false (show ¬6<=X3.p.held.length+X3.p.wait.length by omega),Bool.false_or]at hJ;simp only[sb,a6,b6,g6.hd,Bs];rw[lf,By (by omega) (by omega)];by_cases c3:64<=X3.d.held.length+X3.d.wait.length+X3.d.fin.length
        ·rw[decide_eq_true (by omega)];simp only[Af];refine hJ _ _ ?_ kd;rw[decide_eq_true (show 64<=X3.p.held.length+X3.p.wait.length+X3.p.fin.length by omega),Bool.true_or]
        ·rw[decide_eq_false (by omega)];rw[decide_eq_false (show ¬64<=X3.p.held.length+X3.p.wait.length+X3.p.fin.length by omega),Bool.false_or]at hJ;simp only[sb,a6,b6,g6.hd,Bs];refine Adm (g6d.Ab kd) (show w6.drew.drew.heap[a]?=_ from a6) O3 (xi6.ok.1.Ab kd) (by omega) λw7 k7=>?_;have k67:=Aj kd k7;have g7:=g6d.Ab k67;have a7:=k67.Aw (show w6.drew.heap[a]?=_ from a6);have b7:=k67.Aw (show w6.drew.heap[b]?=_ from b6);dsimp only;cases hfo:x.ops.any X3.p.Nb with
         |true=>
          simp only[Af];refine hJ _ _ ?_ k67;rw[hfo,Bool.true_or]
         |false=>
          rw[hfo,Bool.false_or]at hJ;simp only[sb,a7,b7];refine AdO g7 (xi6.ok.1.Ab k67) (by omega) λw8 k8=>?_;exact hJ _ _ rfl (Aj k67 k8)
      ·rw[show((x.Ao:Int) !=X3.c.Ao)=true from by simpa using c1];simp only[Af];refine hJ _ _ ?_ kd;rw[decide_eq_true (show x.Ao≠X3.p.c.Ao from c1),Bool.true_or]
     ·have g7:=g6d.Ab k7;have k37:=Aj k36 k7;have a7:=k37.Aw a3;have b7:=k37.Aw b3;have xi7:=x3i.Ab k37;cases hr:X3.p.C7 x.Ao x.ops with
      |true=>
       rw[hr,if_pos rfl]at k;simp only[sb,a7,b7];refine V6 g7 x.Ah 4 ⟨none,0,0⟩ [] (Bq.NI λw=>⟨A1.nil w,by simp⟩) (by omega) ?_;intro so' T8 w8 h8 e8;refine k _ T8 w8 h8 ?_ ⟨rfl,rfl,rfl⟩ ((Aq.k0 k37).trans e8);show Mc.p _=X3.p.Df x.Ah 4 [];unfold PS.Df PS.send Mc.p;dsimp only;rw[List.map_append];rfl
      |false=>
       rw[hr,if_neg (by simp)]at k;have hwis:X3.p.Pb x.Ah=false:=by unfold PS.gone at hg;simp only[Bool.or_eq_false_iff]at hg;exact hg.2
       have hful:X3.p.full=false:=by unfold PS.C7 at hr;simp only[Bool.or_eq_false_iff]at hr;exact hr.2.1
       have hc:X3.p.held.length+X3.p.wait.length<6:=by unfold PS.full at hful;simp only[Bool.or_eq_false_iff,decide_eq_false_iff_not]at hful;omega
       obtain⟨p8,b8⟩:=p3.await ho hl (KY p3 hwis) (Nd p3 hh) (by omega) hb3;simp only[sb,a7,b7];refine Ab2 xi7.ok.1 (by omega) ?_ (λh=>absurd ho h);intro _ rk w8 h8 f8 k8;have k38:=Aj k37 k8;have a8:=k38.Aw a3;have b8':=k38.Aw b3;have g8:=g7.Ab k8;have xi8:=xi7.Ab k8;have g8d:=g8.Ab (Am w8);have imk:Bq T3 (λw=>A1 YT w rk (x.ops.map AI)) w8:=Bq.of h8.C6 λy hy=>g7.new (f8 y (h8.rb y hy));simp only[sb,a8,b8',g8.hd,Bs];refine Kz (xi8.ok.1.Ab (Am w8)) (by omega) ?_;intro rc w9 h9 f9 k9;have k89:=Aj (Am w8) k9;have k39:=Aj k38 k89;have a9:=k39.Aw a3;have b9:=k39.Aw b3;have g9:=g8.Ab k89;have imc:Bq T3 (λw=>A1 BQ w rc x.ops) w9:=Bq.of h9.C6 λy hy=>g8d.new (f9 y (h9.rb y hy));simp only[sb,a9,b9,g9.hd,Bs];refine⟨by trivial,by trivial,by trivial,by trivial,?_⟩;refine Ad λc w10 Q8 n10 k10=>?_;have k310:=Aj k39 k10;have a10:=k310.Aw a3;have b10:=k310.Aw b3;have g10:=g9.Ab k10;simp only[sb,a10,b10,g10.hd,Bs];refine⟨by trivial,by trivial,by trivial,?_⟩;have hle:X3.p.Ce x.Ah<=X3.d.wait.length:=by rw[U7];exact Dv _ _
       refine Wa (x:=⟨x.Ah,rc,rk,0,x.ops,x.ops.map AI⟩) g10.r.wa.ok Q8 (λhy=>by have:=(g10.r.wa.tag c hy).2;rw[g9.new n10]at this;cases this) hle (by omega) ?_;intro r w11 h11 f11 k11;have a11:w11.heap[a]?=_:=k11.at a10 (λhb=>by have:=(g10.r.wa.tag a hb).2;rw[Ta3]at this;cases this);have b11:w11.heap[b]?=_:=k11.at b10 (λhb=>by have:=(g10.r.wa.tag b hb).2;rw[Tb3]at this;cases this);have s11:CH 4 T3 (AX 4 r T3) w10 w11:=CH.row k11 (λy hy=>(g10.r.wa.tag y hy).2) f11;simp only[sb,a11];refine⟨by trivial,?_⟩;refine g10.uWa k11 h11 f11 (λy hy=>?_) λw12 h12 e12=>?_
       ·rcases List.mem_append.1 hy with hy|hy
        ·exact(g10.r.Ss y (List.mem_of_mem_take hy)).kt (by decide) s11
        ·rcases List.mem_cons.1 hy with rfl|hy
         ·exact((imc.Ab k10).and (imk.Ab (Aj k89 k10))).kt (by decide) s11
         ·exact(g10.r.Ss y (List.mem_of_mem_drop hy)).kt (by decide) s11
       obtain⟨a12,Ta12⟩:=e12.at a10 Ta3;obtain⟨b12,Tb12⟩:=e12.at b10 Tb3;have e312:=(Aq.k0 k310).trans e12;obtain⟨X4,hX4⟩:∃X4:Mc,X4={X3 with d:={X3.d with sw:=r,wait:=X3.d.wait.take (X3.p.Ce x.Ah)++⟨x.Ah,rc,rk,0,x.ops,x.ops.map AI⟩::X3.d.wait.drop (X3.p.Ce x.Ah)}}:=⟨_,rfl⟩;rw[<-hX4]at h12;have q4:X4.p=X3.p.await x.Ah x.ops:=by rw[hX4];unfold PS.await Mc.p;dsimp only;rw[List.map_append,List.map_cons,List.map_take,List.map_drop];rfl
       rw[<-q4]at p8 k;simp only[sb,a12,b12];refine Ad0 h12 p8 x.Ah λX5 T5 w13 h13 q5 x5 e13=>?_;obtain⟨a13,Ta13⟩:=e13.at a12 Ta12;have p9:=(p8.Cw 30 (t:=x.Ah)).1;rw[<-q5]at p9 k;simp only[sb,a13];refine Xf h13 p9 λX6 T6 w14 h14 q6 x6 e14=>?_;refine k X6 T6 w14 h14 q6 (DG.trans (by rw[hX4];exact⟨rfl,rfl,rfl⟩) (x5.trans x6).two) ((e312.trans e13).trans e14)
open Go Go.Sx
abbrev ekI (k:IntKind):Int->Value:=λx=>.int k x
theorem Vf {κ:Type}[DecidableEq κ]{ek:κ->Value}{K:Nat->Pr}{w:World}(hk:∀m w',Vj w' m ek ([]:List (κ×Value))->w.heap.size<=m->Aa [] w w'->K m w'):O1 (.map #[] 0) K w:=
 hk _ _ (Vj.new w ek) (Nat.le_refl _) ((Aa.refl _ _).alloc _)
variable {k:IntKind}
theorem Bb {kv:List (Int×Value)}(h:Vj w m (ekI k) kv)(x:Int)(v:Value)(hn:EW x kv 0=none){K:Pr}(hk:∀w',Vj w' m (ekI k) (kv++[(x,v)])->Aa [m] w w'->K w'):CI (.int k) (some m) (.int k x) v K w:=by
 refine Ahe (GM k) h x v λw' h' k'=>hk w' ?_ k';rw[(Pe hn).2.1 v]at h';exact h'
theorem AeZ {kv:List (Int×Value)}{ks:List Kd}{z:Value}(h:Vj w m (ekI k) kv){x:Int}{y:Kw ks}{K:Kw ks->Bool->Pr}(hg:Jd x kv=some (.agg (Cs ks y).toArray))(hk:K y true w):LkA ks z (.int k) (some m) (.int k x) K w:=
 AbK (GM k) h x (by rw[hg];exact⟨y,rfl,hk⟩)
theorem Afe {kv:List (Int×Value)}{ks:List Kd}(h:Vj w m (ekI k) kv){x:Int}{y:Kw ks}{K:Kw ks->Bool->Pr}(hg:Jd x kv=none)(hk:K y false w):LkA ks (.agg (Cs ks y).toArray) (.int k) (some m) (.int k x) K w:=
 AbK (GM k) h x (by rw[hg];exact⟨y,rfl,hk⟩)
abbrev fW:List Kd:=[.s,.v,.v,.v]
abbrev Ez (f:FuncId):Value:=.func (.func f) #[] #[]
abbrev fmT (s:List UInt8)(a b c:FuncId):Kw fW:=(BA s,Ez a,Ez b,Ez c,())
def GS:List (Int×Kw fW):=[(1,fmT [113,98,111] 135 136 137),(2,fmT [113,98,99,115] 136 135 139),(3,fmT [116,108,101,111] 136 141 142),(4,fmT [116,99,115] 141 136 144),(5,fmT [116,102] 136 141 145),(6,fmT [116] 141 136 145),(7,fmT [116] 141 136 145),(8,fmT [118,101,109,119] 136 141 146),(9,fmT [118] 141 136 145),(10,fmT [118,109,112,102,114] 136 141 147),(11,fmT [109,97,110,114,111] 141 141 148),(12,fmT [109,97,110] 141 141 150),(13,fmT [109] 141 136 145),(14,fmT [109] 141 136 145)]
def Alc:List (Int×Value):=GS.map λp=>(p.1,.agg (Cs fW p.2).toArray)
def fmZ:Kw fW:=(BA [],Value.nilFunc,Value.nilFunc,Value.nilFunc,())
def LC {α:Type}(k:Int):List (Int×α)->Option α
 |[]=>none
 |p::r=>if k=p.1 then some p.2 else LC k r
theorem WK {α:Type}{k:Int}:∀{l:List (Int×α)} {y:α},LC k l=some y->(k,y)∈l
 |p::r,y,h=>by
  simp only[LC]at h;split at h
  ·rename_i hk;injection h with h;subst hk h;exact List.mem_cons_self
  ·exact List.mem_cons_of_mem _ (WK h)
theorem Aay:∀{k:Int} {y:Kw fW},(k,y)∈GS->∀v∈Cs fW y,v.oneCell'=true:=by
 intro k y h;have:∀p∈GS,(Cs fW p.2).all (·.oneCell')=true:=by unfold GS;simp[Cs,Kd.enc,Value.oneCell']
 exact λv hv=>List.all_eq_true.1 (this _ h) v hv
theorem Ae4 (k:Int):∀l:List (Int×Kw fW),Jd k (l.map λp=>(p.1,(.agg (Cs fW p.2).toArray:Value)))=(LC k l).map λy=>(.agg (Cs fW y).toArray:Value)
 |[]=>rfl
 |p::l=>by
  rw[List.map_cons];simp only[Jd,LC];split
  ·rfl
  ·exact Ae4 k l
set_option maxHeartbeats 4000000 in
theorem Ab4 (kind:Int){w:World}{K:TR [.ag fW,.sc .b]->Pr}(k:∀w',Aa [] w w'->K ((LC kind GS).getD fmZ,(LC kind GS).isSome,()) w'):Cl Pg 79 [.int .i64 kind] true [.ag fW,.sc .b] K w:=by
 refine Rk _ ?_;unfold RN;dsimp only[K4',Ai1,Tt,Vi,Vt];refine Ad λa w0 h0 n0 k0=>?_;refine Vf (ek:=ekI .i64) λm w1 h1 n1 k1=>?_;have ka1:=Aj k0 k1;have nm:w.heap.size<=m:=by have:=k0.size;omega
 have ka1:Aa [] w w1/\w1.heap[a]?=some (.cells #[.string (BA []),.nilFunc,.nilFunc,.nilFunc] 162 (0,0)):=⟨ka1,k1.Aw h0⟩;have ma:a≠m:=λe=>by have:=Av h0;omega
 refine⟨rfl,rfl,rfl,?_⟩;refine Bb h1 1 _ rfl λw2 h2 k2=>?_;have ka2:Aa [] w w2/\w2.heap[a]?=some (.cells #[.string (BA []),.nilFunc,.nilFunc,.nilFunc] 162 (0,0)):=⟨BT ka1.1 k2 nm,k2.Mw ka1.2 ma⟩;refine⟨rfl,rfl,rfl,?_⟩;refine Bb h2 2 _ rfl λw3 h3 k3=>?_;have ka3:Aa [] w w3/\w3.heap[a]?=some (.cells #[.string (BA []),.nilFunc,.nilFunc,.nilFunc] 162 (0,0)):=⟨BT ka2.1 k3 nm,k3.Mw ka2.2 ma⟩;refine⟨rfl,rfl,rfl,?_⟩;refine Bb h3 3 _ rfl λw4 h4 k4=>?_;have ka4:Aa [] w w4/\w4.heap[a]?=some (.cells #[.string (BA []),.nilFunc,.nilFunc,.nilFunc] 162 (0,0)):=⟨BT ka3.1 k4 nm,k4.Mw ka3.2 ma⟩;refine⟨rfl,rfl,rfl,?_⟩;refine Bb h4 4 _ rfl λw5 h5 k5=>?_;have ka5:Aa [] w w5/\w5.heap[a]?=some (.cells #[.string (BA []),.nilFunc,.nilFunc,.nilFunc] 162 (0,0)):=⟨BT ka4.1 k5 nm,k5.Mw ka4.2 ma⟩;refine⟨rfl,rfl,rfl,?_⟩;refine Bb h5 5 _ rfl λw6 h6 k6=>?_;have ka6:Aa [] w w6/\w6.heap[a]?=some (.cells #[.string (BA []),.nilFunc,.nilFunc,.nilFunc] 162 (0,0)):=⟨BT ka5.1 k6 nm,k6.Mw ka5.2 ma⟩;refine⟨rfl,rfl,rfl,?_⟩;refine Bb h6 6 _ rfl λw7 h7 k7=>?_;have ka7:Aa [] w w7/\w7.heap[a]?=some (.cells #[.string (BA []),.nilFunc,.nilFunc,.nilFunc] 162 (0,0)):=⟨BT ka6.1 k7 nm,k7.Mw ka6.2 ma⟩;refine⟨rfl,rfl,rfl,?_⟩;refine Bb h7 7 _ rfl λw8 h8 k8=>?_;have ka8:Aa [] w w8/\w8.heap[a]?=some (.cells #[.string (BA []),.nilFunc,.nilFunc,.nilFunc] 162 (0,0)):=⟨BT ka7.1 k8 nm,k8.Mw ka7.2 ma⟩;refine⟨rfl,rfl,rfl,?_⟩;refine Bb h8 8 _ rfl λw9 h9 k9=>?_;have ka9:Aa [] w w9/\w9.heap[a]?=some (.cells #[.string (BA []),.nilFunc,.nilFunc,.nilFunc] 162 (0,0)):=⟨BT ka8.1 k9 nm,k9.Mw ka8.2 ma⟩;refine⟨rfl,rfl,rfl,?_⟩;refine Bb h9 9 _ rfl λw10 Q8 k10=>?_;have ka10:Aa [] w w10/\w10.heap[a]?=some (.cells #[.string (BA []),.nilFunc,.nilFunc,.nilFunc] 162 (0,0)):=⟨BT ka9.1 k10 nm,k10.Mw ka9.2 ma⟩;refine⟨rfl,rfl,rfl,?_⟩;refine Bb Q8 10 _ rfl λw11 h11 k11=>?_;have ka11:Aa [] w w11/\w11.heap[a]?=some (.cells #[.string (BA []),.nilFunc,.nilFunc,.nilFunc] 162 (0,0)):=⟨BT ka10.1 k11 nm,k11.Mw ka10.2 ma⟩;refine⟨rfl,rfl,rfl,?_⟩;refine Bb h11 11 _ rfl λw12 h12 k12=>?_;have ka12:Aa [] w w12/\w12.heap[a]?=some (.cells #[.string (BA []),.nilFunc,.nilFunc,.nilFunc] 162 (0,0)):=⟨BT ka11.1 k12 nm,k12.Mw ka11.2 ma⟩;refine⟨rfl,rfl,rfl,?_⟩;refine Bb h12 12 _ rfl λw13 h13 k13=>?_;have ka13:Aa [] w w13/\w13.heap[a]?=some (.cells #[.string (BA []),.nilFunc,.nilFunc,.nilFunc] 162 (0,0)):=⟨BT ka12.1 k13 nm,k13.Mw ka12.2 ma⟩;refine⟨rfl,rfl,rfl,?_⟩;refine Bb h13 13 _ rfl λw14 h14 k14=>?_;have ka14:Aa [] w w14/\w14.heap[a]?=some (.cells #[.string (BA []),.nilFunc,.nilFunc,.nilFunc] 162 (0,0)):=⟨BT ka13.1 k14 nm,k14.Mw ka13.2 ma⟩;refine⟨rfl,rfl,rfl,?_⟩;refine Bb h14 14 _ rfl λw15 h15 k15=>?_;have ka15:Aa [] w w15/\w15.heap[a]?=some (.cells #[.string (BA []),.nilFunc,.nilFunc,.nilFunc] 162 (0,0)):=⟨BT ka14.1 k15 nm,k15.Mw ka14.2 ma⟩;have hkv:Vj w15 m (ekI .i64) Alc:=h15;have hg:=Ae4 kind GS
 have fin:∀(y:Kw fW) (b:Bool),(∀v∈Cs fW y,v.oneCell'=true)->(∀w',Aa [] w w'->K (y,b,()) w')->(At #[.string (BA []),.nilFunc,.nilFunc,.nilFunc] 162 λa5=>St (a5.add 0) (.string y.1)<|St (a5.add 1) y.2.1<|St (a5.add 2) y.2.2.1<|St (a5.add 3) y.2.2.2.1 <|
   BU (a5.add 0) λx6=>LJ (a5.add 1) λx7=>LJ (a5.add 2) λx8=>LJ (a5.add 3) λx9=>
   St ((⟨a,0,none⟩:Addr).add 0) (.string x6)<|St ((⟨a,0,none⟩:Addr).add 1) x7<|St ((⟨a,0,none⟩:Addr).add 2) x8<|St ((⟨a,0,none⟩:Addr).add 3) x9 <|
   BU ((⟨a,0,none⟩:Addr).add 0) λx10=>LJ ((⟨a,0,none⟩:Addr).add 1) λx11=>LJ ((⟨a,0,none⟩:Addr).add 2) λx12=>LJ ((⟨a,0,none⟩:Addr).add 3) λx13=>
   K ((x10,x11,x12,x13,()),b,())) w15:=by
  rintro⟨y0,y1,y2,y3,⟨⟩⟩ b hone hK;have o1:y1.oneCell'=true:=hone y1 (by simp[Cs,Kd.enc]);have o2:y2.oneCell'=true:=hone y2 (by simp[Cs,Kd.enc]);have o3:y3.oneCell'=true:=hone y3 (by simp[Cs,Kd.enc]);have ha:=ka15.2;refine Aiw rfl rfl o1 o2 o3 λc w20 h20 n20 kk=>?_;simp only[sb,h20];refine AkW (kk.Aw ha) rfl o1 o2 o3 λw22 h22 k22=>?_;simp only[sb,h22];exact hK w22 (BT (Aj ka15.1 kk) k22 n0)
 cases hq:LC kind GS with
 |none=>
  rw[hq]at hg k;refine Afe (y:=fmZ) hkv hg ?_;exact fin fmZ false (by simp[fmZ,Cs,Kd.enc,Value.oneCell']) k
 |some y=>
  rw[hq]at hg k;refine AeZ hkv hg ?_;exact fin y true (Aay (WK hq)) k
open Go Go.Sx
abbrev Sm (x:Mg):Array Value:=#[.int .i64 x.kind,.int .i64 x.src,.int .i64 x.dst,.int .i64 x.Ch,.int .i64 x.code,.int .i64 x.peer,.int .u64 x.VT,.int .u64 x.Au,.int .u64 x.Ah,.int .u64 x.low,.int .u64 x.CZ,.int .u64 x.Ao,.int .u64 x.move,.int .u64 x.attempt,.int .u64 x.n,.bool x.flag,.string x.FN,.string x.G6,.slice x.so.p x.so.len x.so.cap,.slice x.sr.p x.sr.len x.sr.cap,.slice x.sw.p x.sw.len x.sw.cap]
def Zs (F:Nat->Prop)(f:Value)(z:Mg->Bool)(w:World):Prop:=∀(x:Mg) (a:Nat) (w2:World),A4 F w w2->w2.heap[a]?=some (.cells (Sm x) 47 (0,0))->∀K:TR [.sc .b]->Pr,K (z x,()) w2->AB Pg f [.pointer (some ⟨a,0,none⟩)] false [.sc .b] K w2
variable {F:Nat->Prop}{f:Value}
theorem Zs.keeps {z:Mg->Bool}(h:Zs F f z w)(k:A4 F w w'):Zs F f z w':=λx a w2 k2=>h x a w2 (k.same k2)
def Xm (f:Value)(off:Nat):Prop:=∀(a:Nat) (w:World) (K:TR [.sc .p]->Pr),K (some ⟨a,off,none⟩,()) w->AB Pg f [.pointer (some ⟨a,0,none⟩)] false [.sc .p] K w
abbrev v3:List Kd:=[.v,.v,.v]
variable {off:Nat}
theorem Py {g:Mg->Int}(h1:f.oneCell'=true)(hof:Xm f off)(hg:∀x,(Sm x)[off]?=some (.int .u64 (g x))){w:World}(hF:∀b,F b->b<w.heap.size){K:TR [.ag v3]->Pr}(k:∀f1 f2 f3 w',f1.oneCell'=true->f2.oneCell'=true->f3.oneCell'=true->Zs F f3 (λx=>g x==0) w'->Aa [] w w'->K ((f1,f2,f3,()),()) w'):Cl Pg 151 [f] false [.ag v3] K w:=by
 refine VP _ ?_;unfold Y3;dsimp only[Lv3,Vp];refine⟨h1,?_⟩;refine Ad λa w1 ha n1 k1=>?_;refine Ad λb w2 hb n2 k2=>?_;refine⟨rfl,rfl,rfl,?_⟩;refine Mf hb rfl rfl rfl λw3 hb3 k3=>?_;simp only[sb,hb3];have k03:=BT (Aj k1 k2) k3 (by have:=k1.size;omega);have ha3:=k3.Mw (k2.Aw ha) (λe=>by have:=Av ha;omega);refine k _ _ _ w3 rfl rfl rfl ?_ k03;intro x c w4 k4 hc K1 hK;have ha4:w4.heap[a]?=_:=(k4.get a (Av ha3) (λhf=>by have:=hF a hf;omega)).trans ha3;refine BJ (by kernel_rfl) ?_;refine SA _ _ ?_;unfold Ud;dsimp only[Vp];simp only[sb,ha4];refine hof c w4 _ ?_;show A2 .u64 ⟨c,off,none⟩ _ w4;rw[RZ,hc];show asI .u64 _ ((Sm x)[off]?) w4;rw[hg x];simp only[sb];exact hK
theorem Ab6 {g:Mg->Int}(h1:f.oneCell'=true)(hof:Xm f off)(hg:∀x,(Sm x)[off]?=some (.int .i64 (g x))){w:World}(hF:∀b,F b->b<w.heap.size){K:TR [.ag v3]->Pr}(k:∀f1 f2 f3 w',f1.oneCell'=true->f2.oneCell'=true->f3.oneCell'=true->Zs F f3 (λx=>g x==0) w'->Aa [] w w'->K ((f1,f2,f3,()),()) w'):Cl Pg 161 [f] false [.ag v3] K w:=by
 refine SF _ ?_;unfold V5;dsimp only[Lv3,Vp];refine⟨h1,?_⟩;refine Ad λa w1 ha n1 k1=>?_;refine Ad λb w2 hb n2 k2=>?_;refine⟨rfl,rfl,rfl,?_⟩;refine Mf hb rfl rfl rfl λw3 hb3 k3=>?_;simp only[sb,hb3];have k03:=BT (Aj k1 k2) k3 (by have:=k1.size;omega);have ha3:=k3.Mw (k2.Aw ha) (λe=>by have:=Av ha;omega);refine k _ _ _ w3 rfl rfl rfl ?_ k03;intro x c w4 k4 hc K1 hK;have ha4:w4.heap[a]?=_:=(k4.get a (Av ha3) (λhf=>by have:=hF a hf;omega)).trans ha3;refine BJ (by kernel_rfl) ?_;refine Px _ _ ?_;unfold Qi;dsimp only[Vp];simp only[sb,ha4];refine hof c w4 _ ?_;show A2 .i64 ⟨c,off,none⟩ _ w4;rw[RZ,hc];show asI .i64 _ ((Sm x)[off]?) w4;rw[hg x];simp only[sb];exact hK
variable {f' f'':Value}{g:Mg->Sl}
theorem Aez (h1:f.oneCell'=true)(h1':f'.oneCell'=true)(h1'':f''.oneCell'=true)(hof:Xm f off)(hg:∀x,(Sm x)[off]?=some (.slice (g x).p (g x).len (g x).cap)){w:World}(hF:∀b,F b->b<w.heap.size){K:TR [.ag v3]->Pr}(k:∀f1 f2 f3 w',f1.oneCell'=true->f2.oneCell'=true->f3.oneCell'=true->Zs F f3 (λx=>(((g x).len:Nat):Int)==0) w'->Aa [] w w'->K ((f1,f2,f3,()),()) w'):Cl Pg 174 [f,f',f''] false [.ag v3] K w:=by
 refine Qe _ _ _ ?_;unfold Pu;dsimp only[Lv3,Vp];refine⟨h1,?_⟩;refine Ad λa w1 ha n1 k1=>?_;refine⟨h1',?_⟩;refine Ad λa2 w12 ha2 n12 k12=>?_;refine⟨h1'',?_⟩;refine Ad λa3 w13 ha3 n13 k13=>?_;refine Ad λb w2 hb n2 k2=>?_;refine⟨rfl,rfl,rfl,?_⟩;refine Mf hb rfl rfl rfl λw3 hb3 k3=>?_;simp only[sb,hb3];have k02:=Aj (Aj (Aj k1 k12) k13) k2;have k12':=Aj (Aj k12 k13) k2;have nb:w.heap.size<=b:=by have:=k1.size;have:=k12.size;have:=k13.size;omega
 have k03:=BT k02 k3 nb;have ha3:=k3.Mw (k12'.Aw ha) (λe=>by have:=Av ha;have:=k12.size;have:=k13.size;omega);refine k _ _ _ w3 rfl rfl rfl ?_ k03;intro x c w4 k4 hc K1 hK;have ha4:w4.heap[a]?=_:=(k4.get a (Av ha3) (λhf=>by have:=hF a hf;omega)).trans ha3;refine BJ (by kernel_rfl) ?_;refine ND _ _ ?_;unfold MJ;dsimp only[Vp];simp only[sb,ha4];refine hof c w4 _ ?_;show DN ⟨c,off,none⟩ _ w4;rw[Wn,hc];show asL _ ((Sm x)[off]?) w4;rw[hg x];simp only[sb];exact hK
theorem Yb (h1:f.oneCell'=true)(h1':f'.oneCell'=true)(h1'':f''.oneCell'=true)(hof:Xm f off)(hg:∀x,(Sm x)[off]?=some (.slice (g x).p (g x).len (g x).cap)){w:World}(hF:∀b,F b->b<w.heap.size){K:TR [.ag v3]->Pr}(k:∀f1 f2 f3 w',f1.oneCell'=true->f2.oneCell'=true->f3.oneCell'=true->Zs F f3 (λx=>(((g x).len:Nat):Int)==0) w'->Aa [] w w'->K ((f1,f2,f3,()),()) w'):Cl Pg 178 [f,f',f''] false [.ag v3] K w:=by
 refine Mb _ _ _ ?_;unfold Kk;dsimp only[Lv3,Vp];refine⟨h1,?_⟩;refine Ad λa w1 ha n1 k1=>?_;refine⟨h1',?_⟩;refine Ad λa2 w12 ha2 n12 k12=>?_;refine⟨h1'',?_⟩;refine Ad λa3 w13 ha3 n13 k13=>?_;refine Ad λb w2 hb n2 k2=>?_;refine⟨rfl,rfl,rfl,?_⟩;refine Mf hb rfl rfl rfl λw3 hb3 k3=>?_;simp only[sb,hb3];have k02:=Aj (Aj (Aj k1 k12) k13) k2;have k12':=Aj (Aj k12 k13) k2;have nb:w.heap.size<=b:=by have:=k1.size;have:=k12.size;have:=k13.size;omega
 have k03:=BT k02 k3 nb;have ha3:=k3.Mw (k12'.Aw ha) (λe=>by have:=Av ha;have:=k12.size;have:=k13.size;omega);refine k _ _ _ w3 rfl rfl rfl ?_ k03;intro x c w4 k4 hc K1 hK;have ha4:w4.heap[a]?=_:=(k4.get a (Av ha3) (λhf=>by have:=hF a hf;omega)).trans ha3;refine BJ (by kernel_rfl) ?_;refine Jx _ _ ?_;unfold Hq;dsimp only[Vp];simp only[sb,ha4];refine hof c w4 _ ?_;show DN ⟨c,off,none⟩ _ w4;rw[Wn,hc];show asL _ ((Sm x)[off]?) w4;rw[hg x];simp only[sb];exact hK
theorem YU (h1:f.oneCell'=true)(h1':f'.oneCell'=true)(h1'':f''.oneCell'=true)(hof:Xm f off)(hg:∀x,(Sm x)[off]?=some (.slice (g x).p (g x).len (g x).cap)){w:World}(hF:∀b,F b->b<w.heap.size){K:TR [.ag v3]->Pr}(k:∀f1 f2 f3 w',f1.oneCell'=true->f2.oneCell'=true->f3.oneCell'=true->Zs F f3 (λx=>(((g x).len:Nat):Int)==0) w'->Aa [] w w'->K ((f1,f2,f3,()),()) w'):Cl Pg 182 [f,f',f''] false [.ag v3] K w:=by
 refine M4 _ _ _ ?_;unfold LO;dsimp only[Lv3,Vp];refine⟨h1,?_⟩;refine Ad λa w1 ha n1 k1=>?_;refine⟨h1',?_⟩;refine Ad λa2 w12 ha2 n12 k12=>?_;refine⟨h1'',?_⟩;refine Ad λa3 w13 ha3 n13 k13=>?_;refine Ad λb w2 hb n2 k2=>?_;refine⟨rfl,rfl,rfl,?_⟩;refine Mf hb rfl rfl rfl λw3 hb3 k3=>?_;simp only[sb,hb3];have k02:=Aj (Aj (Aj k1 k12) k13) k2;have k12':=Aj (Aj k12 k13) k2;have nb:w.heap.size<=b:=by have:=k1.size;have:=k12.size;have:=k13.size;omega
 have k03:=BT k02 k3 nb;have ha3:=k3.Mw (k12'.Aw ha) (λe=>by have:=Av ha;have:=k12.size;have:=k13.size;omega);refine k _ _ _ w3 rfl rfl rfl ?_ k03;intro x c w4 k4 hc K1 hK;have ha4:w4.heap[a]?=_:=(k4.get a (Av ha3) (λhf=>by have:=hF a hf;omega)).trans ha3;refine BJ (by kernel_rfl) ?_;refine K6 _ _ ?_;unfold Ik;dsimp only[Vp];simp only[sb,ha4];refine hof c w4 _ ?_;show DN ⟨c,off,none⟩ _ w4;rw[Wn,hc];show asL _ ((Sm x)[off]?) w4;rw[hg x];simp only[sb];exact hK
def zOf:List (Int×(Mg->Bool)):=[(113,λx=>x.VT==0),(98,λx=>x.Au==0),(116,λx=>x.Ah==0),(108,λx=>x.low==0),(118,λx=>x.CZ==0),(101,λx=>x.Ao==0),(109,λx=>x.move==0),(97,λx=>x.attempt==0),(110,λx=>x.n==0),(99,λx=>x.code==0),(112,λx=>x.peer==0),(102,λx=>!x.flag),(114,λx=>seq x.FN (BA [])&&(seq x.G6 (BA [])&&true)),(111,λx=>((x.so.len:Nat):Int)==0),(115,λx=>((x.sr.len:Nat):Int)==0),(119,λx=>((x.sw.len:Nat):Int)==0)]
def zW (c:Int)(x:Mg):Bool:=((LC c zOf).getD λ_=>true) x
theorem Akt:Xm (Ez 152) 6:=by
 intro a w K hK;refine Ap (by kernel_rfl) ?_;refine SR _ ?_;unfold TU;simp only[sb];exact hK
theorem Akp:Xm (Ez 153) 7:=by
 intro a w K hK;refine Ap (by kernel_rfl) ?_;refine Sw _ ?_;unfold Uc;simp only[sb];exact hK
theorem Akd:Xm (Ez 154) 8:=by
 intro a w K hK;refine Ap (by kernel_rfl) ?_;refine SV _ ?_;unfold UW;simp only[sb];exact hK
theorem AjK:Xm (Ez 155) 9:=by
 intro a w K hK;refine Ap (by kernel_rfl) ?_;refine SB _ ?_;unfold Ve;simp only[sb];exact hK
theorem Ajx:Xm (Ez 156) 10:=by
 intro a w K hK;refine Ap (by kernel_rfl) ?_;refine Sz _ ?_;unfold UJ;simp only[sb];exact hK
theorem Aj8:Xm (Ez 157) 11:=by
 intro a w K hK;refine Ap (by kernel_rfl) ?_;refine S1 _ ?_;unfold TL;simp only[sb];exact hK
theorem AjD:Xm (Ez 158) 12:=by
 intro a w K hK;refine Ap (by kernel_rfl) ?_;refine Sv _ ?_;unfold U8;simp only[sb];exact hK
theorem Ajz:Xm (Ez 159) 13:=by
 intro a w K hK;refine Ap (by kernel_rfl) ?_;refine S9 _ ?_;unfold TM;simp only[sb];exact hK
theorem Aj9:Xm (Ez 160) 14:=by
 intro a w K hK;refine Ap (by kernel_rfl) ?_;refine SS _ ?_;unfold U0;simp only[sb];exact hK
theorem Aip:Xm (Ez 162) 4:=by
 intro a w K hK;refine Ap (by kernel_rfl) ?_;refine QL _ ?_;unfold RA;simp only[sb];exact hK
theorem AiL:Xm (Ez 163) 5:=by
 intro a w K hK;refine Ap (by kernel_rfl) ?_;refine Qx _ ?_;unfold RH;simp only[sb];exact hK
theorem Ake (F:Nat->Prop)(w:World):Zs F (Ez 168) (zW 102) w:=by
 intro x a w2 k2 h2 K hK;refine Ap (by kernel_rfl) ?_;refine Rh _ ?_;unfold RS;dsimp only[Lb];simp only[sb,h2,A5,Nat.reduceAdd];exact hK
theorem Aki (F:Nat->Prop)(w:World):Zs F (Ez 173) (zW 114) w:=by
 intro x a w2 k2 h2 K hK;refine Ap (by kernel_rfl) ?_;refine QP _ ?_;unfold RI;dsimp only[Ls];simp only[sb,h2,A5,Nat.reduceAdd];exact hK
theorem AhJ:Xm (Ez 175) 18:=by
 intro a w K hK;refine Ap (by kernel_rfl) ?_;refine QE _ ?_;unfold RG;simp only[sb];exact hK
theorem AiC:Xm (Ez 179) 19:=by
 intro a w K hK;refine Ap (by kernel_rfl) ?_;refine QQ _ ?_;unfold RX;simp only[sb];exact hK
theorem AiS:Xm (Ez 183) 20:=by
 intro a w K hK;refine Ap (by kernel_rfl) ?_;refine Qv _ ?_;unfold Rl;simp only[sb];exact hK
def SW (F:Nat->Prop)(p:Int×Value)(w:World):Prop:=∃y:Kw v3,p.2=.agg (Cs v3 y).toArray/\y.1.oneCell'=true/\y.2.1.oneCell'=true/\y.2.2.1.oneCell'=true/\Zs F y.2.2.1 (zW p.1) w
theorem SW.keeps {F:Nat->Prop}{p:Int×Value}{w w':World}(h:SW F p w)(k:A4 F w w'):SW F p w':=by
 obtain⟨y,h1,h2,h3,h4,h5⟩:=h;exact⟨y,h1,h2,h3,h4,h5.keeps k⟩
theorem SW.add {kv:List (Int×Value)}{p:Int×Value}(h:∀q∈kv,SW F q w)(hp:SW F p w):∀q∈kv++[p],SW F q w:=by
 intro q hq;rcases List.mem_append.1 hq with hq|hq
 ·exact h q hq
 ·rw[List.mem_singleton]at hq;rw[hq];exact hp
set_option maxHeartbeats 4000000 in
theorem Ai8 {K:TR [.sc .m]->Pr}(k:∀m kv w',Vj w' m (ekI .i32) kv->kv.map Prod.fst=zOf.map Prod.fst->(∀p∈kv,SW (·=m) p w')->w.heap.size<=m->Aa [] w w'->K (some m,()) w'):Cl Pg 80 [] false [.sc .m] K w:=by
 refine VY ?_;unfold ZG;refine Vf (ek:=ekI .i32) λm w1 h1 n1 k1=>?_;have hF1:∀b,b=m->b<w1.heap.size:=λb hb=>by rw[hb];exact h1.lt
 have f1:∀p∈([]:List (Int×Value)),SW (·=m) p w1:=by simp
 refine Py (off:=6) (g:=λx=>x.VT) (F:=(·=m)) rfl (Akt) (λx=>rfl) hF1 ?_;intro p2 q2 r2 w2 o2 o'2 o''2 z2 k'2;have k2:=Aj k1 k'2;have h2:=h1.CM k'2 (by simp);have f2:=λp hp=>(f1 p hp).keeps k'2.Mh;have f2:=SW.add f2 (p:=(113,.agg #[p2,q2,r2])) ⟨(p2,q2,r2,()),rfl,o2,o'2,o''2,z2⟩;refine Bb h2 113 _ rfl λw3 h3 k'3=>?_;have k3:=BT k2 k'3 n1;have f3:=λp hp=>(f2 p hp).keeps (k'3.FY λb hb=>.inl (by simpa using hb));have hF3:∀b,b=m->b<w3.heap.size:=λb hb=>by rw[hb];exact h3.lt
 refine Py (off:=7) (g:=λx=>x.Au) (F:=(·=m)) rfl (Akp) (λx=>rfl) hF3 ?_;intro p4 q4 r4 w4 o4 o'4 o''4 z4 k'4;have k4:=Aj k3 k'4;have h4:=h3.CM k'4 (by simp);have f4:=λp hp=>(f3 p hp).keeps k'4.Mh;have f4:=SW.add f4 (p:=(98,.agg #[p4,q4,r4])) ⟨(p4,q4,r4,()),rfl,o4,o'4,o''4,z4⟩;refine Bb h4 98 _ rfl λw5 h5 k'5=>?_;have k5:=BT k4 k'5 n1;have f5:=λp hp=>(f4 p hp).keeps (k'5.FY λb hb=>.inl (by simpa using hb));have hF5:∀b,b=m->b<w5.heap.size:=λb hb=>by rw[hb];exact h5.lt
 refine Py (off:=8) (g:=λx=>x.Ah) (F:=(·=m)) rfl (Akd) (λx=>rfl) hF5 ?_;intro p6 q6 r6 w6 o6 o'6 o''6 z6 k'6;have k6:=Aj k5 k'6;have h6:=h5.CM k'6 (by simp);have f6:=λp hp=>(f5 p hp).keeps k'6.Mh;have f6:=SW.add f6 (p:=(116,.agg #[p6,q6,r6])) ⟨(p6,q6,r6,()),rfl,o6,o'6,o''6,z6⟩;refine Bb h6 116 _ rfl λw7 h7 k'7=>?_;have k7:=BT k6 k'7 n1;have f7:=λp hp=>(f6 p hp).keeps (k'7.FY λb hb=>.inl (by simpa using hb));have hF7:∀b,b=m->b<w7.heap.size:=λb hb=>by rw[hb];exact h7.lt
 refine Py (off:=9) (g:=λx=>x.low) (F:=(·=m)) rfl (AjK) (λx=>rfl) hF7 ?_;intro p8 q8 r8 w8 o8 o'8 o''8 z8 k'8;have k8:=Aj k7 k'8;have h8:=h7.CM k'8 (by simp);have f8:=λp hp=>(f7 p hp).keeps k'8.Mh;have f8:=SW.add f8 (p:=(108,.agg #[p8,q8,r8])) ⟨(p8,q8,r8,()),rfl,o8,o'8,o''8,z8⟩;refine Bb h8 108 _ rfl λw9 h9 k'9=>?_;have k9:=BT k8 k'9 n1;have f9:=λp hp=>(f8 p hp).keeps (k'9.FY λb hb=>.inl (by simpa using hb));have hF9:∀b,b=m->b<w9.heap.size:=λb hb=>by rw[hb];exact h9.lt
 refine Py (off:=10) (g:=λx=>x.CZ) (F:=(·=m)) rfl (Ajx) (λx=>rfl) hF9 ?_;intro p10 q10 r10 w10 o10 o'10 o''10 z10 k'10;have k10:=Aj k9 k'10;have Q8:=h9.CM k'10 (by simp);have f10:=λp hp=>(f9 p hp).keeps k'10.Mh;have f10:=SW.add f10 (p:=(118,.agg #[p10,q10,r10])) ⟨(p10,q10,r10,()),rfl,o10,o'10,o''10,z10⟩;refine Bb Q8 118 _ rfl λw11 h11 k'11=>?_;have k11:=BT k10 k'11 n1;have f11:=λp hp=>(f10 p hp).keeps (k'11.FY λb hb=>.inl (by simpa using hb));have hF11:∀b,b=m->b<w11.heap.size:=λb hb=>by rw[hb];exact h11.lt
 refine Py (off:=11) (g:=λx=>x.Ao) (F:=(·=m)) rfl (Aj8) (λx=>rfl) hF11 ?_;intro p12 q12 r12 w12 o12 o'12 o''12 z12 k'12;have k12:=Aj k11 k'12;have h12:=h11.CM k'12 (by simp);have f12:=λp hp=>(f11 p hp).keeps k'12.Mh;have f12:=SW.add f12 (p:=(101,.agg #[p12,q12,r12])) ⟨(p12,q12,r12,()),rfl,o12,o'12,o''12,z12⟩;refine Bb h12 101 _ rfl λw13 h13 k'13=>?_;have k13:=BT k12 k'13 n1;have f13:=λp hp=>(f12 p hp).keeps (k'13.FY λb hb=>.inl (by simpa using hb));have hF13:∀b,b=m->b<w13.heap.size:=λb hb=>by rw[hb];exact h13.lt
 refine Py (off:=12) (g:=λx=>x.move) (F:=(·=m)) rfl (AjD) (λx=>rfl) hF13 ?_;intro p14 q14 r14 w14 o14 o'14 o''14 z14 k'14;have k14:=Aj k13 k'14;have h14:=h13.CM k'14 (by simp);have f14:=λp hp=>(f13 p hp).keeps k'14.Mh;have f14:=SW.add f14 (p:=(109,.agg #[p14,q14,r14])) ⟨(p14,q14,r14,()),rfl,o14,o'14,o''14,z14⟩;refine Bb h14 109 _ rfl λw15 h15 k'15=>?_;have k15:=BT k14 k'15 n1;have f15:=λp hp=>(f14 p hp).keeps (k'15.FY λb hb=>.inl (by simpa using hb));have hF15:∀b,b=m->b<w15.heap.size:=λb hb=>by rw[hb];exact h15.lt
 refine Py (off:=13) (g:=λx=>x.attempt) (F:=(·=m)) rfl (Ajz) (λx=>rfl) hF15 ?_;intro p16 q16 r16 w16 o16 o'16 o''16 z16 k'16;have k16:=Aj k15 k'16;have h16:=h15.CM k'16 (by simp);have f16:=λp hp=>(f15 p hp).keeps k'16.Mh;have f16:=SW.add f16 (p:=(97,.agg #[p16,q16,r16])) ⟨(p16,q16,r16,()),rfl,o16,o'16,o''16,z16⟩;refine Bb h16 97 _ rfl λw17 h17 k'17=>?_;have k17:=BT k16 k'17 n1;have f17:=λp hp=>(f16 p hp).keeps (k'17.FY λb hb=>.inl (by simpa using hb));have hF17:∀b,b=m->b<w17.heap.size:=λb hb=>by rw[hb];exact h17.lt
 refine Py (off:=14) (g:=λx=>x.n) (F:=(·=m)) rfl (Aj9) (λx=>rfl) hF17 ?_;intro p18 q18 r18 w18 o18 o'18 o''18 z18 k'18;have k18:=Aj k17 k'18;have h18:=h17.CM k'18 (by simp);have f18:=λp hp=>(f17 p hp).keeps k'18.Mh;have f18:=SW.add f18 (p:=(110,.agg #[p18,q18,r18])) ⟨(p18,q18,r18,()),rfl,o18,o'18,o''18,z18⟩;refine Bb h18 110 _ rfl λw19 h19 k'19=>?_;have k19:=BT k18 k'19 n1;have f19:=λp hp=>(f18 p hp).keeps (k'19.FY λb hb=>.inl (by simpa using hb));have hF19:∀b,b=m->b<w19.heap.size:=λb hb=>by rw[hb];exact h19.lt
 refine Ab6 (off:=4) (g:=λx=>x.code) (F:=(·=m)) rfl (Aip) (λx=>rfl) hF19 ?_;intro p20 q20 r20 w20 o20 o'20 o''20 z20 k'20;have k20:=Aj k19 k'20;have h20:=h19.CM k'20 (by simp);have f20:=λp hp=>(f19 p hp).keeps k'20.Mh;have f20:=SW.add f20 (p:=(99,.agg #[p20,q20,r20])) ⟨(p20,q20,r20,()),rfl,o20,o'20,o''20,z20⟩;refine Bb h20 99 _ rfl λw21 h21 k'21=>?_;have k21:=BT k20 k'21 n1;have f21:=λp hp=>(f20 p hp).keeps (k'21.FY λb hb=>.inl (by simpa using hb));have hF21:∀b,b=m->b<w21.heap.size:=λb hb=>by rw[hb];exact h21.lt
 refine Ab6 (off:=5) (g:=λx=>x.peer) (F:=(·=m)) rfl (AiL) (λx=>rfl) hF21 ?_;intro p22 q22 r22 w22 o22 o'22 o''22 z22 k'22;have k22:=Aj k21 k'22;have h22:=h21.CM k'22 (by simp);have f22:=λp hp=>(f21 p hp).keeps k'22.Mh;have f22:=SW.add f22 (p:=(112,.agg #[p22,q22,r22])) ⟨(p22,q22,r22,()),rfl,o22,o'22,o''22,z22⟩;refine Bb h22 112 _ rfl λw23 h23 k'23=>?_;have k23:=BT k22 k'23 n1;have f23:=λp hp=>(f22 p hp).keeps (k'23.FY λb hb=>.inl (by simpa using hb));have hF23:∀b,b=m->b<w23.heap.size:=λb hb=>by rw[hb];exact h23.lt
 refine⟨rfl,rfl,rfl,?_⟩;have k24:=k23;have h24:=h23;have f24:=SW.add f23 (p:=(102,.agg #[Ez 164,Ez 166,Ez 168])) ⟨(Ez 164,Ez 166,Ez 168,()),rfl,rfl,rfl,rfl,Ake _ _⟩;obtain⟨w24,rfl⟩:∃w',w'=w23:=⟨_,rfl⟩;refine Bb h24 102 _ rfl λw25 h25 k'25=>?_;have k25:=BT k24 k'25 n1;have f25:=λp hp=>(f24 p hp).keeps (k'25.FY λb hb=>.inl (by simpa using hb));have hF25:∀b,b=m->b<w25.heap.size:=λb hb=>by rw[hb];exact h25.lt
 refine⟨rfl,rfl,rfl,?_⟩;have k26:=k25;have h26:=h25;have f26:=SW.add f25 (p:=(114,.agg #[Ez 169,Ez 171,Ez 173])) ⟨(Ez 169,Ez 171,Ez 173,()),rfl,rfl,rfl,rfl,Aki _ _⟩;obtain⟨w26,rfl⟩:∃w',w'=w25:=⟨_,rfl⟩;refine Bb h26 114 _ rfl λw27 h27 k'27=>?_;have k27:=BT k26 k'27 n1;have f27:=λp hp=>(f26 p hp).keeps (k'27.FY λb hb=>.inl (by simpa using hb));have hF27:∀b,b=m->b<w27.heap.size:=λb hb=>by rw[hb];exact h27.lt
 refine Aez (off:=18) (g:=λx=>x.so) (F:=(·=m)) rfl rfl rfl (AhJ) (λx=>rfl) hF27 ?_;intro p28 q28 r28 w28 o28 o'28 o''28 z28 k'28;have k28:=Aj k27 k'28;have h28:=h27.CM k'28 (by simp);have f28:=λp hp=>(f27 p hp).keeps k'28.Mh;have f28:=SW.add f28 (p:=(111,.agg #[p28,q28,r28])) ⟨(p28,q28,r28,()),rfl,o28,o'28,o''28,z28⟩;refine Bb h28 111 _ rfl λw29 h29 k'29=>?_;have k29:=BT k28 k'29 n1;have f29:=λp hp=>(f28 p hp).keeps (k'29.FY λb hb=>.inl (by simpa using hb));have hF29:∀b,b=m->b<w29.heap.size:=λb hb=>by rw[hb];exact h29.lt
 refine Yb (off:=19) (g:=λx=>x.sr) (F:=(·=m)) rfl rfl rfl (AiC) (λx=>rfl) hF29 ?_;intro p30 q30 r30 w30 o30 o'30 o''30 z30 k'30;have k30:=Aj k29 k'30;have h30:=h29.CM k'30 (by simp);have f30:=λp hp=>(f29 p hp).keeps k'30.Mh;have f30:=SW.add f30 (p:=(115,.agg #[p30,q30,r30])) ⟨(p30,q30,r30,()),rfl,o30,o'30,o''30,z30⟩;refine Bb h30 115 _ rfl λw31 h31 k'31=>?_;have k31:=BT k30 k'31 n1;have f31:=λp hp=>(f30 p hp).keeps (k'31.FY λb hb=>.inl (by simpa using hb));have hF31:∀b,b=m->b<w31.heap.size:=λb hb=>by rw[hb];exact h31.lt
 refine YU (off:=20) (g:=λx=>x.sw) (F:=(·=m)) rfl rfl rfl (AiS) (λx=>rfl) hF31 ?_;intro p32 q32 r32 w32 o32 o'32 o''32 z32 k'32;have k32:=Aj k31 k'32;have h32:=h31.CM k'32 (by simp);have f32:=λp hp=>(f31 p hp).keeps k'32.Mh;have f32:=SW.add f32 (p:=(119,.agg #[p32,q32,r32])) ⟨(p32,q32,r32,()),rfl,o32,o'32,o''32,z32⟩;refine Bb h32 119 _ rfl λw33 h33 k'33=>?_;have k33:=BT k32 k'33 n1;have f33:=λp hp=>(f32 p hp).keeps (k'33.FY λb hb=>.inl (by simpa using hb));have hF33:∀b,b=m->b<w33.heap.size:=λb hb=>by rw[hb];exact h33.lt
 exact k m _ w33 h33 rfl f33 n1 k33
open Go Go.Sx
def ruR:Rec Int:=Rec.sca (.i .i32) rfl
theorem Aiu (h:A1 ruR w s l):s.len=l.length:=h.len
theorem Akr (h:A1 ruR w s l){i:Nat}{x:Int}(hx:l[i]?=some x){K:Int->Pr}(k:K x w):Ix s (i:Int) 1 (λa=>A2 .i32 a K) w:=by
 obtain⟨a,ha,hc⟩:=h.at hx;have hi:=(List.getElem?_eq_some_iff.1 hx).1;have hl:s.len=l.length:=h.len;unfold Ix;rw[ha];refine⟨by omega,by omega,?_⟩;rw[Int.toNat_natCast];have h0:=hc 0 (.int .i32 x) rfl;rw[add_add,Nat.add_zero]at h0;exact DO (k:=.i .i32) (x:=x) h0 k
theorem AiB {s:ByteArray}(hl:CT s=l.map (Value.int .i32)){e:TypeId}{K:Sl->Pr}{w:World}(k:∀r w',A1 ruR w' r l->Aa [] w w'->K r w'):Ag4 e s K w:=by
 intro c hc;refine k _ _ ⟨⟨?_,λj v hj=>⟨⟨w.heap.size,0,none⟩,rfl,?_⟩⟩,hc⟩ ((Aa.refl _ _).drew.alloc _)
 ·rw[AP ruR.len];dsimp only;rw[hl,List.length_map]
 ·rw[Aif,Ci,show(w.drew.alloc (.cells (CT s++List.replicate (c-(CT s).length) (Value.int .i32 0)).toArray e)).heap[w.heap.size]?=_ from Bt w.drew _];have hfl:∀l:List Int,l.flatMap ruR.c=l.map (Value.int .i32):=by
   intro l;induction l with
   |nil=>rfl
   |cons a l ih=>exact congrArg (Value.int .i32 a :: ·) ih
  rw[hfl l]at hj;rw[<-hl]at hj;have hlt:=(List.getElem?_eq_some_iff.1 hj).1;show(CT s++List.replicate (c-(CT s).length) (Value.int .i32 0)).toArray[j]?=some v;rw[List.getElem?_toArray,List.getElem?_append_left hlt];exact hj
theorem YV (h:A1 ruR w s l)(t:Int)(hN:l.length<=1000000){K:TR [.sc .b]->Pr}(k:K (l.contains t,()) w):Cl Pg 81 [.slice s.p s.len s.cap,.int .i32 t] false [.sc .b] K w:=by
 have hl:=Aiu h;refine HS _ _ ?_;unfold F2;dsimp only[Vs];refine KN _ _ ?_;unfold Il;refine⟨λn st w'=>∃(i:Nat),st=(0,(i:Int),())/\n=l.length-i/\i<=l.length/\(l.drop i).contains t=l.contains t/\w'=w,⟨_,0,rfl,rfl,by omega,rfl,rfl⟩,?_⟩;rintro n _ w1 ⟨i,rfl,rfl,hi,he,rfl⟩;dsimp only;by_cases hlt:i<l.length
 ·rw[decide_eq_true (by omega)];simp only[Af];obtain⟨x,hx⟩:∃x,l[i]?=some x:=⟨_,List.getElem?_eq_getElem hlt⟩;have hd:l.drop i=x::l.drop (i+1):=by rw[List.drop_eq_getElem_cons hlt,(List.getElem?_eq_some_iff.1 hx).2]
  rw[hd,List.contains_cons]at he;refine Akr h hx ?_;cases hc:(t==x)with
  |true=>
   rw[hc]at he;simp only[Af];rw[show decide ((i:Int)>=0)=true from decide_eq_true (by omega),show true=l.contains t from by rw[<-he];rfl];exact k
  |false=>
   rw[hc]at he;simp only[Ae];exact⟨l.length-(i+1),by omega,i+1,by rw[AK (by omega)],rfl,by omega,by rw[<-he,Bool.false_or],by trivial⟩
 ·rw[decide_eq_false (by omega)];rw[List.drop_of_length_le (by omega)]at he;simp only[Ae];rw[<-he]at k;exact k
def TD (l:List Int)(x:Mg):Bool:=(zOf.map Prod.fst).all λc=>l.contains c||zW c x
def Nfn (f:Value)(p:Int->Bool):Prop:=∀(n:Int) (w:World) (K:TR [.sc .b]->Pr),K (p n,()) w->AB Pg f [.int .i64 n] false [.sc .b] K w
def CY (n:Int):Bool:=n==0
def BE (n:Int):Bool:=decide (n>=1)&&decide (n<=4)
def TB (n:Int):Bool:=decide (n>10)&&decide (n<=14)
theorem CU:Nfn (Ez 136) CY:=by
 intro n w K hK;refine Ap (by kernel_rfl) ?_;refine SP _ ?_;exact hK
theorem Cu:Nfn (Ez 141) BE:=by
 intro n w K hK;refine Ap (by kernel_rfl) ?_;refine LN _ ?_;unfold Oo;unfold BE at hK;cases h:decide (n>=1)with
 |true=>rw[h,Bool.true_and]at hK;exact hK
 |false=>rw[h,Bool.false_and]at hK;exact hK
theorem YB:Nfn (Ez 135) TB:=by
 intro n w K hK;refine Ap (by kernel_rfl) ?_;refine QG _ ?_;unfold RO;unfold TB at hK;cases h:decide (n>10)with
 |true=>rw[h,Bool.true_and]at hK;exact hK
 |false=>rw[h,Bool.false_and]at hK;exact hK
def Gfn (f:Value)(x:Mg)(g:Bool)(w:World):Prop:=∀(w1:World),Aa [] w w1->∀(K:TR [.sc .b]->Pr),(∀w',Aa [] w1 w'->K (g,()) w')->AB Pg f [.agg (Sm x)] false [.sc .b] K w1
theorem MO (x:Mg)(w:World):Gfn (Ez 145) x true w:=by
 intro w1 k1 K hK;refine Ap (by kernel_rfl) ?_;refine OO _ _ _ _ _ _ _ _ _ _ _ _ _ _ _ _ _ _ x.so x.sr x.sw ?_;unfold Od;dsimp only[Ag];refine Ad λa w2 h2 n2 k2=>?_;exact hK _ k2
theorem Ahu {l:List Op}(h:A1 BQ w s l)(AD:Int)(hm:AD<=1000000){K:TR [.sc .b]->Pr}(k:∀w',Aa [] w w'->K (decide ((l.length:Int)<=AD)&&decide (A9 l=0),()) w'):Cl Pg 143 [.slice s.p s.len s.cap,.int .i64 AD] false [.sc .b] K w:=by
 have hl:=h.len;refine VJ _ _ ?_;unfold ZY;dsimp only[Vs];rw[show decide (((s.len:Nat):Int)<=AD)=decide ((l.length:Int)<=AD)from by rw[hl]];by_cases hc:(l.length:Int)<=AD
 ·rw[decide_eq_true hc]at k ⊢;rw[Bool.true_and]at k;simp only[Af];refine BN (p:=λo=>ER o !=0) (F:=λ_=>False) h ?_ (by omega) λw1 k1=>?_
  ·intro w2 k2 x _ K1 hK;refine Ap (by kernel_rfl) ?_;refine S8 _ _ _ _ _ _ ?_;unfold Ur;dsimp only[Ar,AN];refine Ad λc w3 h3 n3 k3=>?_;simp only[sb,h3];refine Ni x λw4 k4=>?_;exact hK w4 (Aj k3 k4)
  ·have:=k w1 k1;rw[show decide (A9 l=0)=!(l.any λo=>ER o !=0)from ?_]at this
   ·exact this
   ·by_cases hz:A9 l=0
    ·rw[decide_eq_true hz];rw[Bu]at hz;rw[show(l.any λo=>ER o !=0)=false from List.any_eq_false.2 λo ho=>by simp[hz o ho]];rfl
    ·rw[decide_eq_false hz];rw[Bu]at hz;have:(l.any λo=>ER o !=0)=true:=by
      rw[List.any_eq_true];apply Classical.byContradiction;intro hn;apply hz;intro o ho;apply Classical.byContradiction;intro ho';exact hn ⟨o,ho,by simpa using ho'⟩
     rw[this];rfl
 ·rw[decide_eq_false hc]at k ⊢;exact k w (Aa.refl _ _)
theorem Afq (x:Mg){w:World}(h:A1 BQ w x.so x.ops):Gfn (Ez 142) x (decide (0<x.ops.length)&&(decide (x.ops.length<=24)&&decide (A9 x.ops=0))) w:=by
 intro w1 k1 K hK;refine Ap (by kernel_rfl) ?_;refine OF _ _ _ _ _ _ _ _ _ _ _ _ _ _ _ _ _ _ x.so x.sr x.sw ?_;unfold Om;dsimp only[Ag,Ll,Vi,Vs];refine Ad λa w2 h2 n2 k2=>?_;have hl:=h.len;simp only[sb,h2];by_cases hc:0<x.ops.length
 ·rw[decide_eq_true (by omega)];rw[decide_eq_true hc,Bool.true_and]at hK;simp only[sb,h2];refine Ahu (h.Ab (Aj k1 k2)) 24 (by decide) λw3 k3=>?_;rw[show decide ((x.ops.length:Int)<=24)=decide (x.ops.length<=24)from decide_eq_decide.2 (by omega)];exact hK w3 (Aj k2 k3)
 ·rw[decide_eq_false (by omega)];rw[decide_eq_false hc,Bool.false_and]at hK;exact hK w2 k2
def Se (fr to:Int->Bool)(gd:Bool)(x:Mg):Bool:=fr x.src&&(to x.dst&&(x.Ch==0&&gd))
set_option maxHeartbeats 2000000 in
theorem BK {x:Mg}{s:List UInt8}{a b c:FuncId}(hf:LC x.kind GS=some (fmT s a b c)){fr to:Int->Bool}{gd:Bool}(h1:Nfn (Ez a) fr)(h2:Nfn (Ez b) to)(h3:Gfn (Ez c) x gd w){l:List Int}(hl:CT (BA s)=l.map (Value.int .i32))(hN:l.length<=100){K:TR [.sc (.i .i64)]->Pr}(k:∀w',Aa [] w w'->K (if Se fr to gd x&&TD l x then 0 else 180,()) w'):Cl Pg 31 [.agg (Sm x)] false [.sc (.i .i64)] K w:=by
 refine LR _ _ _ _ _ _ _ _ _ _ _ _ _ _ _ _ _ _ x.so x.sr x.sw ?_;unfold OI;dsimp only[Ag,K4',Li,Bn,Ls,Tt,Vi,Vp,Vs,Vt];refine Ad λm w1 hm n1 k1=>?_;simp only[sb,hm];refine Ab4 x.kind λw2 k2=>?_;rw[hf];have hm2:=k2.Aw hm;refine Aiw rfl rfl rfl rfl rfl λf w3 hf3 n3 k3=>?_;have hm3:=k3.Aw hm2;have k03:=Aj (Aj k1 k2) k3;refine BR (!(Se fr to gd x)) (λJ hJ=>?_) λw4 k4=>?_
 ·unfold Se at hJ;simp only[Option.isSome_some,Bool.not_true,sb,hf3,hm3];refine h1 _ _ _ ?_;dsimp only;cases c1:fr x.src with
  |false=>rw[c1]at hJ;exact hJ _ (Aa.refl _ _)
  |true=>
   rw[c1,Bool.true_and]at hJ;simp only[Bool.not_true,sb,hf3,hm3];refine h2 _ _ _ ?_;dsimp only;cases c2:to x.dst with
   |false=>rw[c2]at hJ;exact hJ _ (Aa.refl _ _)
   |true=>
    rw[c2,Bool.true_and]at hJ;simp only[Bool.not_true,sb,hf3,hm3];rw[show((x.Ch:Int) !=0)=!(x.Ch==0)from rfl];cases c3:(x.Ch==0)with
    |false=>rw[c3]at hJ;exact hJ _ (Aa.refl _ _)
    |true=>
     rw[c3,Bool.true_and]at hJ;simp only[Bool.not_true,sb,hf3,hm3];refine h3 w3 k03 _ λw5 k5=>?_;exact hJ w5 k5
 ·have k04:=Aj k03 k4;have hm4:=k4.Aw hm3;have hf4:=k4.Aw hf3;cases hh:Se fr to gd x with
  |false=>
   rw[hh]at k;simp only[Bool.not_false,Af];exact k w4 k04
  |true=>
   rw[hh,Bool.true_and]at k;simp only[Bool.not_true,Ae];refine Ai8 λmm kv w5 h5 hkeys hfld n5 k5=>?_;have hm5:=k5.Aw hm4;have hf5:=k5.Aw hf4;have k05:=Aj k04 k5;refine Aij h5 λw6 h6 k6 s6=>?_;generalize hit:w5.heap.size=it at *;refine⟨λn st w'=>∃left:List Int,st.1=0/\n=left.length/\ItR w' it mm (ekI .i32) kv left/\Aa [] w5 w'/\(∀c∈zOf.map Prod.fst,c∈left\/(l.contains c||zW c x)=true)/\(∀c∈left,c∈zOf.map Prod.fst),⟨_,_,rfl,rfl,h6,k6,λc hc=>.inl (by rw[hkeys];exact hc),λc hc=>by rw[<-hkeys];exact hc⟩,?_⟩;rintro n ⟨st,⟨⟩⟩ w7 ⟨left,rfl,rfl,h7,k7,hl7,hl7'⟩;refine Ag9 (GM .i32) h7 ?_ ?_
   ·intro ch v left' w8 hg hp h8 k8 s8;have k58:Aa [] w5 w8:=BT k7 k8 (by omega);have hm8:=k58.Aw hm5;have hf8:=k58.Aw hf5;obtain⟨y,hv,o1,o2,o3,hz⟩:=hfld (ch,v) (Uy hg);refine AfB y hv ?_;refine bx3 rfl o1 o2 o3 λq w9 h9 n9 k9=>?_;have k59:=Aj k58 k9;have hm9:=k9.Aw hm8;have hf9:=k9.Aw hf8;have i9:=h8.CM k9 (by simp) (by simp);have hch:ch∈zOf.map Prod.fst:=hl7' ch (hp.mem_iff.2 List.mem_cons_self);refine BR (!(l.contains ch||zW ch x)) (λJ hJ=>?_) λw10 k10=>?_
    ·simp only[sb,hf9];refine AiB hl λr w11 h11 k11=>?_;refine YV h11 ch (by omega) ?_;dsimp only;cases c1:l.contains ch with
     |true=>
      rw[c1]at hJ;simp only[Bool.not_true,Ae];exact hJ w11 k11
     |false=>
      rw[c1,Bool.false_or]at hJ;simp only[Bool.not_false,sb,k11.Aw h9];refine hz x m w11 (Aj k59 k11).Mh (k11.Aw hm9) _ ?_;exact hJ w11 k11
    ·cases c1:(l.contains ch||zW ch x)with
     |false=>
      simp only[Bool.not_false,Af];have:=k w10 (Aj k05 (Aj k59 k10));rw[show TD l x=false from ?_]at this
      ·exact this
      ·unfold TD;rw[List.all_eq_false];exact⟨ch,hch,by rw[c1];simp⟩
     |true=>
      simp only[Bool.not_true,Ae];refine⟨left'.length,by rw[hp.length_eq,List.length_cons];omega,left',by trivial,rfl,i9.CM k10 (by simp) (by simp),Aj k59 k10,λc hc=>?_,λc hc=>hl7' c (hp.mem_iff.2 (List.mem_cons_of_mem _ hc))⟩;rcases hl7 c hc with h|h
      ·rcases List.mem_cons.1 (hp.mem_iff.1 h)with rfl|h
       ·exact .inr c1
       ·exact .inl h
      ·exact .inr h
   ·intro hnil w8 hw8;have kk:Aa [] w7 w8:=by rcases hw8 with rfl|rfl;exact Aa.refl _ _;exact Am _
    have:=k w8 (Aj k05 (Aj k7 kk));rw[show TD l x=true from ?_]at this
    ·exact this
    ·unfold TD;rw[List.all_eq_true];intro c hc;rcases hl7 c hc with h|h
     ·rw[hnil]at h;cases h
     ·exact h
def Ab1 (x:Mg):Bool:=
 if x.kind=3 then Se CY BE (decide (0<x.ops.length)&&(decide (x.ops.length<=24)&&decide (A9 x.ops=0))) x&&TD [116,108,101,111] x
 else if x.kind=5 then Se CY BE true x&&TD [116,102] x
 else if x.kind=6 then Se BE CY true x&&TD [116] x
 else false
theorem AeM {x:Mg}(hx:A1 BQ w x.so x.ops)(hk:x.kind=3\/x.kind=5\/x.kind=6){K:TR [.sc (.i .i64)]->Pr}(k:∀w',Aa [] w w'->K (if Ab1 x then 0 else 180,()) w'):Cl Pg 31 [.agg (Sm x)] false [.sc (.i .i64)] K w:=by
 unfold Ab1 at k;rcases hk with hk|hk|hk
 ·rw[if_pos hk]at k;exact BK (by rw[hk];rfl) CU Cu (Afq x hx) (l:=[116,108,101,111]) (by kernel_rfl) (by decide) k
 ·rw[if_neg (show ¬x.kind=3 by omega),if_pos hk]at k;exact BK (by rw[hk];rfl) CU Cu (MO x w) (l:=[116,102]) (by kernel_rfl) (by decide) k
 ·rw[if_neg (show ¬x.kind=3 by omega),if_neg (show ¬x.kind=5 by omega),if_pos hk]at k;exact BK (by rw[hk];rfl) Cu CU (MO x w) (l:=[116]) (by kernel_rfl) (by decide) k
open Go Go.Sx
structure Sd where
 c:Sc
 so:Sl
 sh:Sl
 sf:Sl
 Ac:List Ow
 held:List Hd
 fin:List Int
abbrev shA (d:Sd):Array Value:=#[.int .i64 d.c.id,.int .u64 d.c.Au,.int .u64 d.c.CZ,.int .u64 d.c.Ao,.int .u64 d.c.move,.slice d.so.p d.so.len d.so.cap,.slice d.sh.p d.sh.len d.sh.cap,.slice d.sf.p d.sf.len d.sf.cap,.int .u64 d.c.low,.int .u64 d.c.frozen,.string d.c.Qk,.string d.c.MS,.int .u64 d.c.AJ,.int .u64 d.c.CD,.int .u64 d.c.Bo,.string d.c.Ph,.string d.c.Qq]
abbrev shL (d:Sd):List Value:=[.int .i64 d.c.id,.int .u64 d.c.Au,.int .u64 d.c.CZ,.int .u64 d.c.Ao,.int .u64 d.c.move,.slice d.so.p d.so.len d.so.cap,.slice d.sh.p d.sh.len d.sh.cap,.slice d.sf.p d.sf.len d.sf.cap,.int .u64 d.c.low,.int .u64 d.c.frozen,.string d.c.Qk,.string d.c.MS,.int .u64 d.c.AJ,.int .u64 d.c.CD,.int .u64 d.c.Bo,.string d.c.Ph,.string d.c.Qq]
abbrev shK:List Kd:=[.i .i64,.i .u64,.i .u64,.i .u64,.i .u64,.sl,.sl,.sl,.i .u64,.i .u64,.s,.s,.i .u64,.i .u64,.i .u64,.s,.s]
abbrev shT (d:Sd):Kw shK:=(d.c.id,d.c.Au,d.c.CZ,d.c.Ao,d.c.move,d.so,d.sh,d.sf,d.c.low,d.c.frozen,d.c.Qk,d.c.MS,d.c.AJ,d.c.CD,d.c.Bo,d.c.Ph,d.c.Qq,())
theorem Ul {cs:Array Value}{t:TypeId}(h:w.heap[b]?=some (.cells cs t (0,0)))(hs:cs.size=17)(d:Sd){K:Pr}(k:∀w',w'.heap[b]?=some (.cells (shA d) t (0,0))->Aa [b] w w'->K w'):
  (St (Addr.add ⟨b,0,none⟩ 0) (.int .i64 d.c.id)<|St (Addr.add ⟨b,0,none⟩ 1) (.int .u64 d.c.Au)<|St (Addr.add ⟨b,0,none⟩ 2) (.int .u64 d.c.CZ)<|St (Addr.add ⟨b,0,none⟩ 3) (.int .u64 d.c.Ao)<|St (Addr.add ⟨b,0,none⟩ 4) (.int .u64 d.c.move)<|St (Addr.add ⟨b,0,none⟩ 5) (.slice d.so.p d.so.len d.so.cap)<|St (Addr.add ⟨b,0,none⟩ 6) (.slice d.sh.p d.sh.len d.sh.cap)<|St (Addr.add ⟨b,0,none⟩ 7) (.slice d.sf.p d.sf.len d.sf.cap)<|St (Addr.add ⟨b,0,none⟩ 8) (.int .u64 d.c.low)<|St (Addr.add ⟨b,0,none⟩ 9) (.int .u64 d.c.frozen)<|St (Addr.add ⟨b,0,none⟩ 10) (.string d.c.Qk)<|St (Addr.add ⟨b,0,none⟩ 11) (.string d.c.MS)<|St (Addr.add ⟨b,0,none⟩ 12) (.int .u64 d.c.AJ)<|St (Addr.add ⟨b,0,none⟩ 13) (.int .u64 d.c.CD)<|St (Addr.add ⟨b,0,none⟩ 14) (.int .u64 d.c.Bo)<|St (Addr.add ⟨b,0,none⟩ 15) (.string d.c.Ph)<|St (Addr.add ⟨b,0,none⟩ 16) (.string d.c.Qq)<|K) w:=L0 (vs:=shL d) h hs.symm (by simp[Value.oneCell']) k
theorem Ai9 {t:TypeId}{d:Sd}(h:w.heap[b]?=some (.cells (shA d) t (0,0))){K:Kw shK->Pr}(k:K (shT d) w):
  (A2 .i64 (Addr.add ⟨b,0,none⟩ 0) λx0=>A2 .u64 (Addr.add ⟨b,0,none⟩ 1) λx1=>A2 .u64 (Addr.add ⟨b,0,none⟩ 2) λx2=>A2 .u64 (Addr.add ⟨b,0,none⟩ 3) λx3=>A2 .u64 (Addr.add ⟨b,0,none⟩ 4) λx4=>DN (Addr.add ⟨b,0,none⟩ 5) λx5=>DN (Addr.add ⟨b,0,none⟩ 6) λx6=>DN (Addr.add ⟨b,0,none⟩ 7) λx7=>A2 .u64 (Addr.add ⟨b,0,none⟩ 8) λx8=>A2 .u64 (Addr.add ⟨b,0,none⟩ 9) λx9=>BU (Addr.add ⟨b,0,none⟩ 10) λx10=>BU (Addr.add ⟨b,0,none⟩ 11) λx11=>A2 .u64 (Addr.add ⟨b,0,none⟩ 12) λx12=>A2 .u64 (Addr.add ⟨b,0,none⟩ 13) λx13=>A2 .u64 (Addr.add ⟨b,0,none⟩ 14) λx14=>BU (Addr.add ⟨b,0,none⟩ 15) λx15=>BU (Addr.add ⟨b,0,none⟩ 16) λx16=>K (x0,x1,x2,x3,x4,x5,x6,x7,x8,x9,x10,x11,x12,x13,x14,x15,x16,())) w:=by
 simp only[sb,h];exact k
structure YP (d:Sd)(w:World):Prop where
 ow:A1 Mj w d.so d.Ac
 he:A1 Fo w d.sh d.held
 hd:∀x∈d.held,A1 BQ w x.so x.ops
 fi:A1 HL w d.sf d.fin
theorem YP.Ab {d:Sd}{w w':World}(h:YP d w)(k:Aa [] w w'):YP d w':=⟨h.ow.Ab k,h.he.Ab k,λx hx=>(h.hd x hx).Ab k,h.fi.Ab k⟩
structure ShN (d d':Sd)(n:Nat)(w:World):Prop where
 c:d'.c=d.c
 Ac:d'.Ac=d.Ac
 held:d'.held.map Hd.p=d.held.map Hd.p
 fin:d'.fin=d.fin
 ow:Bh Mj w d'.so d'.Ac
 he:Bh Fo w d'.sh d'.held
 hd:∀x∈d'.held,Bh BQ w x.so x.ops
 fi:Bh HL w d'.sf d'.fin
 fow:∀b∈Ai d'.so,n<=b
 fhe:∀b∈Ai d'.sh,n<=b
 fhd:∀x∈d'.held,∀b∈Ai x.so,n<=b
 ffi:∀b∈Ai d'.sf,n<=b
 d1:∀b∈Ai d'.so,b∉Ai d'.sh/\b∉Ai d'.sf
 d2:∀b∈Ai d'.sf,b∉Ai d'.sh
 d3:∀x∈d'.held,∀b∈Ai x.so,b∉Ai d'.sh/\b∉Ai d'.sf
theorem AcL {l:List Hd}{x:Hd}(hx:l[i]?=some x)(r:Sl):(l.set i {x with so:=r}).map Hd.p=l.map Hd.p:=by
 rw[List.map_set];have h2:(l.map Hd.p)[i]?=some x.p:=by rw[List.getElem?_map,hx];rfl
 apply List.ext_getElem?;intro j;by_cases hj:i=j
 ·subst hj;rw[List.getElem?_set_self (by rw[List.length_map];exact(List.getElem?_eq_some_iff.1 hx).1),h2];rfl
 ·rw[List.getElem?_set_ne hj]
set_option maxHeartbeats 2000000 in
theorem MK {d:Sd}(h:YP d w)(hN:d.Ac.length<=100000/\d.held.length<=100000/\d.fin.length<=200000/\∀x∈d.held,x.ops.length<=100000){K:TR [.ag shK]->Pr}(k:∀d' w',ShN d d' w.heap.size w'->Aa [] w w'->K (shT d',()) w'):Cl Pg 26 [.agg (shA d)] false [.ag shK] K w:=by
 refine QK _ _ _ _ _ d.so d.sh d.sf _ _ _ _ _ _ _ _ _ ?_;unfold Sf;dsimp only[Al,Ux,Az,Ll,Lu,Bf,Ts,Tu,Vs,Vu,AQ];refine Ad λa w1 h1 n1 k1=>?_;refine Ad λb w2 h2 n2 k2=>?_;have nab:a≠b:=λe=>by have:=Av h1;omega
 have h1:=k2.Aw h1;have k02:=Aj k1 k2;simp only[sb,h1];have kd:=k02.drew;refine NO (h.ow.Ab kd) (by omega) λr1 w3 h3 f3 k3=>?_;have a3:w3.heap[a]?=_:=k3.Aw (show w2.drew.heap[a]?=_ from h1);have b3:w3.heap[b]?=_:=k3.Aw (show w2.drew.heap[b]?=_ from h2);have k03:=Aj kd k3;simp only[sb,a3];refine⟨by trivial,by trivial,?_⟩;refine XV (h.he.Ab k03) (by omega) λr2 w4 h4 f4 k4=>?_;have a4:=k4.Aw a3;have b4:=k4.Aw b3;have k04:=Aj k03 k4;simp only[sb,a4];refine⟨by trivial,?_⟩;refine UM (h.fi.Ab k04) (by omega) λr3 w5 h5 f5 k5=>?_;have a5:=k5.Aw a4;have b5:=k5.Aw b4;have k05:=Aj k04 k5;have sz:w.heap.size<=w2.heap.size:=k02.size;have sz3:w.heap.size<=w3.heap.size:=k03.size;have sz4:w.heap.size<=w4.heap.size:=k04.size;have lt2:a<w2.heap.size/\b<w2.heap.size:=⟨Av h1,Av h2⟩;have d2:w2.drew.heap.size=w2.heap.size:=rfl;have lt3:w2.heap.size<=w3.heap.size:=by have:=k3.size;omega
 have lt4:w3.heap.size<=w4.heap.size:=k4.size;have na:w.heap.size<=a:=n1;have nb:w.heap.size<=b:=by have:=k1.size;omega
 refine Ax a5 5 _ rfl (by simp) λw6 a6 k6=>?_;simp only[Ck]at a6;refine Ax a6 6 _ rfl (by simp) λw7 a7 k7=>?_;simp only[Ck]at a7;refine Ax a7 7 _ rfl (by simp) λw8 a8 k8=>?_;simp only[Ck]at a8;have k58:Aa [a] w5 w8:=(k6.trans k7 (λ_ hx=>.inl hx)).trans k8 (λ_ hx=>.inl hx);have b8:=k58.Mw b5 (Ne.symm nab);have o8:Bh Mj w8 r1 d.Ac:=(h3.keeps (Aj k4 k5) (by simp)).keeps k58 (λy hy=>by have:=f3 y hy;simp;omega);have q8:Bh Fo w8 r2 d.held:=(h4.keeps k5 (by simp)).keeps k58 (λy hy=>by have:=f4 y hy;simp;omega);have i8:Bh HL w8 r3 d.fin:=h5.keeps k58 (λy hy=>by have:=f5 y hy;simp;omega);have k08:=BT k05 k58 na;have f1':∀y∈Ai r1,w2.heap.size<=y:=λy hy=>by have:=f3 y hy;omega
 have f2':∀y∈Ai r2,w3.heap.size<=y:=f4;have f3':∀y∈Ai r3,w4.heap.size<=y:=f5;have dis1:∀y∈Ai r1,y∉Ai r2:=λy hy h=>by have:=f4 y h;have:=h3.lt y hy;omega
 have dis3:∀y∈Ai r3,y∉Ai r2:=λy hy h=>by have:=f5 y hy;have:=h4.lt y h;omega
 have lb8:b<w8.heap.size:=Av b8;have sw8:w.heap.size<=w8.heap.size:=k08.size;simp only[sb,a8];have hl:=q8.BY
 refine⟨λn st w'=>∃(i:Nat) (held:List Hd),st=((i:Int),())/\n=d.held.length-i/\i<=d.held.length/\held.length=d.held.length/\held.map Hd.p=d.held.map Hd.p/\Bh Fo w' r2 held/\Bh Mj w' r1 d.Ac/\Bh HL w' r3 d.fin/\(∀x∈held.take i,Bh BQ w' x.so x.ops/\∀y∈Ai x.so,w8.heap.size<=y)/\(∀x∈held,A1 BQ w' x.so x.ops/\∀z∈rb x.so,z<w.heap.size\/w8.heap.size<=z)/\Aa [] w w' /\
  w'.heap[a]?=w8.heap[a]?/\w'.heap[b]?=w8.heap[b]?/\w8.heap.size<=w'.heap.size,⟨_,0,d.held,rfl,rfl,by omega,rfl,rfl,q8,o8,i8,by simp,λx hx=>⟨(h.hd x hx).Ab k08,λz hz=>.inl ((h.hd x hx).lt z hz)⟩,k08,rfl,rfl,Nat.le_refl _⟩,?_⟩
 rintro n _ w9 ⟨i,held,rfl,rfl,hi,hlen,hmap,q9,o9,i9,t9,r9,k9,a9,b9,s9⟩;rw[a8]at a9;rw[b8]at b9;dsimp only;by_cases hlt:i<d.held.length
 ·rw[decide_eq_true (by omega)];simp only[Af];obtain⟨x,hx⟩:∃x,held[i]?=some x:=⟨_,List.getElem?_eq_getElem (by omega)⟩;have hxr:=(r9 x (List.mem_of_getElem? hx)).1;refine I0 q9.C6 hx ?_;refine Lz x λc w10 Q8 n10 k10=>?_;have a10:=k10.Aw a9;simp only[sb,a10,Q8];have kd10:=k10.drew;refine Kz (hxr.Ab kd10) (by
   have hm:x.p∈d.held.map Hd.p:=by rw[<-hmap];exact List.mem_map.2 ⟨x,List.mem_of_getElem? hx,rfl⟩
   obtain⟨z,hz,hzx⟩:=List.mem_map.1 hm;have:=hN.2.2.2 z hz;have e:z.ops=x.ops:=congrArg PH.ops hzx;rw[<-e];omega) λrc w11 h11 f11 k11=>?_
  have a11:w11.heap[a]?=_:=k11.Aw (show w10.drew.heap[a]?=_ from a10);simp only[sb,a11];refine⟨by trivial,?_⟩;have k911:=Aj kd10 k11;have q11:=q9.keeps k911 (by simp);have hl11:=q11.BY;obtain⟨e,o,hpp,hbb⟩:=q11.base (by omega);refine Aai hpp (by omega) 2 ?_;rw[A5];have hfl:(held.flatMap Fo.c).length=held.length*2:=AP Fo.len _;have hmul:(i+1)*2<=held.length*2:=Nat.mul_le_mul_right _ (by omega);refine q11.Abh hpp (i*2+1) (by omega) (by omega) rfl λw12 h12 k12=>?_;have h12':Bh Fo w12 r2 (held.set i {x with so:=rc}):=by
   have:=Nf (size:=2) Fo.len held i 1 x {x with so:=rc} (.slice rc.p rc.len rc.cap) hx (by decide) rfl;show AE _ _ _ _;rw[<-this];exact h12
  have ek:∀y∈Ai r2,y=e:=λy hy=>by rw[hbb]at hy;simpa using hy
  have he2:e∈Ai r2:=by rw[hbb];simp
  have ne:=f2' e he2;have nlt:=q8.lt e he2;have se11:w8.heap.size<=w11.heap.size:=by have:=k911.size;omega
  have kall:Aa [e] w9 w12:=(k911.mono (by simp)).trans k12 (λ_ hx=>.inl hx);refine⟨d.held.length-(i+1),by omega,i+1,held.set i {x with so:=rc},by rw[AK (by omega)],rfl,by omega,by rw[List.length_set];exact hlen,by rw[AcL hx];exact hmap,h12',o9.keeps kall ?_,i9.keeps kall ?_,?_,?_,BT (Aj k9 k911) k12 (by omega),?_,?_,?_⟩
  ·intro y hy;have:=f1' y hy;simp;exact λh=>dis1 y hy (h▸he2)
  ·intro y hy;simp;exact λh=>dis3 y hy (h▸he2)
  ·intro y hy;rw[List.take_add_one,List.getElem?_set_self (by omega),List.take_set_of_le (Nat.le_refl i)]at hy;rcases List.mem_append.1 hy with hy|hy
   ·obtain⟨t1,t2⟩:=t9 y hy;exact⟨t1.keeps kall (λz hz=>by have:=t2 z hz;simp;omega),t2⟩
   ·simp at hy;subst hy;have f11':∀z∈Ai rc,w8.heap.size<=z:=λz hz=>by have:=f11 z hz;have:w10.drew.heap.size=w10.heap.size:=rfl;have:=k10.size;omega
    exact⟨h11.keeps k12 (λz hz=>by have:=f11' z hz;simp;omega),f11'⟩
  ·intro y hy;rcases List.mem_or_eq_of_mem_set hy with hy|rfl
   ·obtain⟨r91,r92⟩:=r9 y hy;exact⟨r91.keeps kall (λz hz=>by have:=r92 z hz;simp;omega),r92⟩
   ·have f11':∀z∈Ai rc,w8.heap.size<=z:=λz hz=>by have:=f11 z hz;have:w10.drew.heap.size=w10.heap.size:=rfl;have:=k10.size;omega
    have hh:=h11.keeps k12 (λz hz=>by have:=f11' z hz;simp;omega);exact⟨hh.C6,λz hz=>.inr (f11' z (hh.rb z hz))⟩
  ·exact(k12.Mw a11 (by omega)).trans a8.symm
  ·exact(k12.Mw (k911.Aw b9) (by omega)).trans b8.symm
  ·have:=kall.size;omega
 ·rw[decide_eq_false (by omega)];simp only[sb,a9];refine Ul b9 rfl {d with so:=r1,sh:=r2,sf:=r3} λw10 b10 k10=>?_;refine Ai9 (K:=λy=>K (y,())) b10 ?_;refine k {d with so:=r1,sh:=r2,sf:=r3,held:=held} w10 ⟨rfl,rfl,hmap,rfl,?_,?_,?_,?_,?_,?_,?_,?_,?_,dis3,?_⟩ (BT k9 k10 nb)
  ·exact o9.keeps k10 (λy hy=>by have:=f1' y hy;simp;omega)
  ·exact q9.keeps k10 (λy hy=>by have:=f2' y hy;simp;omega)
  ·intro x hx;obtain⟨t1,t2⟩:=t9 x (by rw[List.take_of_length_le (by omega)];exact hx);exact t1.keeps k10 (λy hy=>by have:=t2 y hy;simp;omega)
  ·exact i9.keeps k10 (λy hy=>by have:=f3' y hy;simp;omega)
  ·intro y hy;have:=f1' y hy;omega
  ·intro y hy;have:=f2' y hy;omega
  ·intro x hx y hy;obtain⟨t1,t2⟩:=t9 x (by rw[List.take_of_length_le (by omega)];exact hx);have:=t2 y hy;omega
  ·intro y hy;have:=f3' y hy;omega
  ·intro y hy;have l3:=h3.lt y hy;exact⟨λh=>by have:=f4 y h;omega,λh=>by have:=f5 y h;omega⟩
  ·intro x hx y hy;obtain⟨t1,t2⟩:=t9 x (by rw[List.take_of_length_le (by omega)];exact hx);have:=t2 y hy;have z5:=k5.size;have z8:=k58.size;exact⟨λh=>by have:=h4.lt y h;omega,λh=>by have:=h5.lt y h;omega⟩
def Mc.sd (X:Mc):Sd:=⟨X.c,X.d.so,X.d.sh,X.d.sf,X.d.Ac,X.d.held,X.d.fin⟩
theorem A6.shd (h:A6 w m T X):YP X.sd w:=⟨h.r.ow.ok,h.r.he.ok.C6,λx hx=>(h.r.Ro x hx).ok,h.r.fi.ok.C6⟩
def XU (d:Sd):Prop:=d.Ac.length<=100000/\d.held.length<=100000/\d.fin.length<=200000/\∀x∈d.held,x.ops.length<=100000
theorem Yr (h:A6 w m T X)(hN:XU X.sd){K:TR [.ag shK]->Pr}(k:∀d' w',ShN X.sd d' w.heap.size w'->Aa [] w w'->K (shT d',()) w'):Cl Pg 14 [.pointer (some ⟨m,0,none⟩)] false [.ag shK] K w:=by
 refine Kh _ ?_;unfold GV;dsimp only[Al,Ux,Az,Bf,AQ];refine Ad λa w1 h1 n1 k1=>?_;have g1:=h.Ab k1;simp only[sb,g1.hd,Bs];refine MK (d:=X.sd) g1.shd hN λd' w2 h2 k2=>?_;have k02:=Aj k1 k2;refine Ul (k2.Aw h1) rfl d' λw3 h3 k3=>?_;refine Ai9 (K:=λy=>K (y,())) h3 ?_;have hne:∀b,w1.heap.size<=b->b≠a:=λb hb e=>by have:=Av h1;omega
 have s1:=k1.size;refine k d' w3 ⟨h2.c,h2.Ac,h2.held,h2.fin,h2.ow.keeps k3 ?_,h2.he.keeps k3 ?_,λx hx=>(h2.hd x hx).keeps k3 ?_,h2.fi.keeps k3 ?_,λb hb=>Nat.le_trans s1 (h2.fow b hb),λb hb=>Nat.le_trans s1 (h2.fhe b hb),λx hx b hb=>Nat.le_trans s1 (h2.fhd x hx b hb),λb hb=>Nat.le_trans s1 (h2.ffi b hb),h2.d1,h2.d2,h2.d3⟩ (BT k02 k3 n1)
 ·intro b hb;simpa using hne b (h2.fow b hb)
 ·intro b hb;simpa using hne b (h2.fhe b hb)
 ·intro b hb;simpa using hne b (h2.fhd x hx b hb)
 ·intro b hb;simpa using hne b (h2.ffi b hb)
theorem AbI (h:A6 w m T X)(hN:X.d.wait.length<=100000){K:TR [.sc .sl]->Pr}(k:∀r w',Bh HL w' r (X.d.wait.map (·.Ah))->(∀b∈Ai r,w.heap.size<=b)->Aa [] w w'->K (r,()) w'):Cl Pg 16 [.pointer (some ⟨m,0,none⟩)] false [.sc .sl] K w:=by
 refine JF _ ?_;unfold HE;dsimp only[Ll,Lu,Ah5,Aho,Vu,Ahz];simp only[sb,h.hd,Bs];have hl:=h.r.wa.ok.BY;refine⟨λn st w'=>∃(i:Nat) (r:Sl),st=(r,(i:Int),())/\n=X.d.wait.length-i/\i<=X.d.wait.length/\Bh HL w' r ((X.d.wait.take i).map (·.Ah))/\(∀b∈Ai r,w.heap.size<=b)/\Aa [] w w',⟨_,0,⟨none,0,0⟩,rfl,rfl,by omega,AE.nil _ _,by simp[Ai],Aa.refl _ _⟩,?_⟩;rintro n _ w1 ⟨i,r,rfl,rfl,hi,h1,f1,k1⟩;dsimp only;by_cases hlt:i<X.d.wait.length
 ·rw[decide_eq_true (by omega)];simp only[Af];obtain⟨x,hx⟩:∃x,X.d.wait[i]?=some x:=⟨_,List.getElem?_eq_getElem hlt⟩;refine AgE (h.Ab k1).r.wa.ok.C6 hx ?_;refine AgD x λc w2 h2 n2 k2=>?_;simp only[sb,h2];refine Ad λe w3 h3 n3 k3=>?_;have k13:=Aj k2 k3;have q3:=h1.keeps k13 (by simp);have hl3:r.len=((X.d.wait.take i).map (·.Ah)).length:=h1.BY;rw[List.length_map,List.length_take]at hl3;refine AE.app (ρ:=HL) (new:=[x.Ah]) q3 (by rw[List.flatMap_singleton];exact BI (ρ:=HL) (x:=x.Ah) h3) rfl (by rw[GL];rfl) (by omega) (by omega) ?_;intro r4 w4 h4 k4 f4;have k14:Aa (Ai r) w w4:=((Aj k1 k13).mono (by simp)).trans k4 (λ_ hx=>.inl hx);refine⟨X.d.wait.length-(i+1),by omega,i+1,r4,by rw[AK (by omega)],rfl,by omega,?_,λb hb=>?_,Ky (Aj k1 k13) k4 f1⟩
  ·rw[List.take_add_one,hx,List.map_append];exact h4
  ·rcases f4 b hb with h'|h'
   ·exact f1 b h'
   ·have:=k1.size;have:=k13.size;omega
 ·rw[decide_eq_false (by omega)];rw[List.take_of_length_le (by omega)]at h1;exact k r w1 h1 f1 k1
open Go Go.Sx
def UR (l:List Int):Bool:=decide (l.Pairwise (· < ·))
theorem Yn:∀{l:List Int},(∀i x y,l[i]?=some x->l[i+1]?=some y->x<y)->l.Pairwise (· < ·)
 |[],_=>List.Pairwise.nil
 |[a],_=>List.pairwise_singleton _ _
 |a::b::l,h=>by
  have h2:(b::l).Pairwise (· < ·):=Yn λi x y hx hy=>h (i+1) x y hx hy;have hab:=h 0 a b rfl rfl;refine List.pairwise_cons.2 ⟨λc hc=>?_,h2⟩;rcases List.mem_cons.1 hc with rfl|hc
  ·exact hab
  ·have:=(List.pairwise_cons.1 h2).1 c hc;omega
theorem Abv (h:l.Pairwise (· < ·)){i:Nat}{x y:Int}(hx:l[i]?=some x)(hy:l[i+1]?=some y):x<y:=by
 have:=List.pairwise_iff_getElem.1 h i (i+1) (List.getElem?_eq_some_iff.1 hx).1 (List.getElem?_eq_some_iff.1 hy).1 (by omega);rw[(List.getElem?_eq_some_iff.1 hx).2,(List.getElem?_eq_some_iff.1 hy).2]at this;exact this
theorem Ajr {ρ:Rec α}{l:List α}(h:A1 ρ w s l){i:Nat}{x:α}(hx:l[i]?=some x){K:Addr->Pr}(k:∀a,(∀j u,(ρ.c x)[j]?=some u->w.cell? (a.add j)=some u)->K a w):Ix s (i:Int) ρ.n K w:=by
 obtain⟨a,ha,hc⟩:=h.at hx;have hi:=(List.getElem?_eq_some_iff.1 hx).1;have hl:=h.len;unfold Ix;rw[ha];refine⟨by omega,by omega,?_⟩;rw[Int.toNat_natCast];exact k _ hc
theorem Abx (k:Aa [] w w'){a:Addr}{v:Value}(h:w.cell? a=some v):w'.cell? a=some v:=by
 cases hb:w.heap[a.block]? with
 |none=>simp[World.cell?,hb]at h
 |some o=>
  have:=k.Aw hb;unfold World.cell? at h ⊢;rw[this];rw[hb]at h;exact h
theorem Akw (h:A1 HL w s l){i:Nat}{x:Int}(hx:l[i]?=some x){K:Addr->Pr}(k:∀a,w.cell? a=some (.int .u64 x)->K a w):Ix s (i:Int) 1 K w:=by
 obtain⟨a,ha,hc⟩:=h.at hx;have hi:=(List.getElem?_eq_some_iff.1 hx).1;have hl:s.len=l.length:=h.len;unfold Ix;rw[ha];refine⟨by omega,by omega,?_⟩;rw[Int.toNat_natCast];have h0:=hc 0 (.int .u64 x) rfl;rw[add_add,Nat.add_zero]at h0;exact k _ h0
theorem AgP (h:A1 HL w s l)(hN:l.length<=1000000){K:TR [.sc .b]->Pr}(k:∀w',Aa [] w w'->K (UR l,()) w'):Cl Pg 55 [.slice s.p s.len s.cap,.func (.func 56) #[] #[]] false [.sc .b] K w:=by
 have hl:=V1 h;refine Ie _ _ ?_;unfold FF;dsimp only[Vu];refine⟨λn st w'=>∃(i:Nat),st=(false,(i:Int),())/\n=l.length-i/\i<=l.length/\(∀j x y,j+1<i->l[j]?=some x->l[j+1]?=some y->x<y)/\Aa [] w w',⟨_,0,rfl,rfl,by omega,λj x y hj=>absurd hj (by omega),Aa.refl _ _⟩,?_⟩;rintro n _ w1 ⟨i,rfl,rfl,hi,he,k1⟩;dsimp only;have by1:∀(z:Int) {w:World} {K:TR [.sc (.i .u64)]->Pr},K (z,()) w->AB Pg (.func (.func 56) #[] #[]) [.int .u64 z] false [.sc (.i .u64)] K w:=by
  intro z w K hK;refine Ap (by kernel_rfl) ?_;exact IQ _ hK
 by_cases hlt:i<l.length
 ·rw[decide_eq_true (by omega)];simp only[Af];obtain⟨y,hy⟩:∃y,l[i]?=some y:=⟨_,List.getElem?_eq_getElem hlt⟩;dsimp only[Jp];unfold Dr;have kd:=k1.drew;have h1:=h.Ab kd;rcases Nat.eq_zero_or_pos i with h0|h0
  ·subst h0;rw[decide_eq_false (by omega)];simp only[Ae];exact⟨l.length-1,by omega,1,by rw[AK (by decide)],rfl,by omega,λj x y hj=>absurd hj (by omega),kd⟩
  ·rw[decide_eq_true (by omega)];obtain⟨x,hx⟩:∃x,l[i-1]?=some x:=⟨_,List.getElem?_eq_getElem (by omega)⟩;simp only[Af];rw[show An ((i:Int)-1)=((i-1:Nat):Int)from by rw[By (by omega) (by omega)];omega];refine ldn h1 hx ?_;refine Akw h1 hy λa ha=>?_;refine DO (k:=.i .u64) (x:=y) ha ?_;refine by1 x ?_;refine⟨DO (k:=.i .u64) (K:=λx10 _=>(Value.int .u64 x10)=(Value.int .u64 y)) (x:=y) ha rfl,?_⟩
   ·refine by1 y ?_;dsimp only;by_cases hxy:x<y
    ·rw[show decide (x>=y)=false from decide_eq_false (by omega)];simp only[Ae];refine⟨l.length-(i+1),by omega,i+1,by rw[AK (by omega)],rfl,by omega,λj u v hj hu hv=>?_,kd⟩;rcases Nat.lt_or_ge (j+1) i with h'|h'
     ·exact he j u v h' hu hv
     ·obtain rfl:j=i-1:=by omega
      rw[hx]at hu;rw[show i-1+1=i by omega,hy]at hv;injection hu with hu;injection hv with hv;omega
    ·rw[show decide (x>=y)=true from decide_eq_true (by omega)];have:=k _ kd;rw[show UR l=false from decide_eq_false λhr=>hxy (Abv hr hx (by rw[show i-1+1=i by omega];exact hy))]at this;exact this
 ·rw[decide_eq_false (by omega)];have:=k w1 k1;rw[show UR l=true from decide_eq_true (Yn λj x y hx hy=>he j x y (by have:=(List.getElem?_eq_some_iff.1 hy).1;omega) hx hy)]at this;exact this
theorem Agp {l:List Hd}(h:A1 Fo w s l)(hN:l.length<=1000000){K:TR [.sc .b]->Pr}(k:∀w',Aa [] w w'->K (UR (l.map (·.Ah)),()) w'):Cl Pg 53 [.slice s.p s.len s.cap,.func (.func 54) #[] #[]] false [.sc .b] K w:=by
 have hl:=h.len;have hm:(l.map (·.Ah)).length=l.length:=List.length_map _;refine JT _ _ ?_;unfold HM;dsimp only[Ll,Lu,Vs,Vu];refine⟨λn st w'=>∃(i:Nat),st=(false,(i:Int),())/\n=l.length-i/\i<=l.length/\(∀j x y,j+1<i->(l.map (·.Ah))[j]?=some x->(l.map (·.Ah))[j+1]?=some y->x<y)/\Aa [] w w',⟨_,0,rfl,rfl,by omega,λj x y hj=>absurd hj (by omega),Aa.refl _ _⟩,?_⟩;rintro n _ w1 ⟨i,rfl,rfl,hi,he,k1⟩;dsimp only;have by1:∀(z:Hd) {w:World} {K:TR [.sc (.i .u64)]->Pr},(∀w',Aa [] w w'->K (z.Ah,()) w')->AB Pg (.func (.func 54) #[] #[]) [.agg #[.int .u64 z.Ah,.slice z.so.p z.so.len z.so.cap]] false [.sc (.i .u64)] K w:=by
  intro z w K hK;refine Ap (by kernel_rfl) ?_;refine Jo _ z.so ?_;unfold Gl;dsimp only[Lu,Vs,Vu];refine Ad λb w2 h2 n2 k2=>?_;simp only[sb,h2];exact hK w2 k2
 by_cases hlt:i<l.length
 ·rw[decide_eq_true (by omega)];simp only[Af];obtain⟨y,hy⟩:∃y,l[i]?=some y:=⟨_,List.getElem?_eq_getElem hlt⟩;have hy':(l.map (·.Ah))[i]?=some y.Ah:=by rw[List.getElem?_map,hy];rfl
  dsimp only[Jp];unfold Dr;have kd:=k1.drew;have h1:=h.Ab kd;rcases Nat.eq_zero_or_pos i with h0|h0
  ·subst h0;rw[decide_eq_false (by omega)];simp only[Ae];exact⟨l.length-1,by omega,1,by rw[AK (by decide)],rfl,by omega,λj x y hj=>absurd hj (by omega),kd⟩
  ·rw[decide_eq_true (by omega)];obtain⟨x,hx⟩:∃x,l[i-1]?=some x:=⟨_,List.getElem?_eq_getElem (by omega)⟩;have hx':(l.map (·.Ah))[i-1]?=some x.Ah:=by rw[List.getElem?_map,hx];rfl
   simp only[Af];rw[show An ((i:Int)-1)=((i-1:Nat):Int)from by rw[By (by omega) (by omega)];omega];refine I0 h1 hx ?_;refine Ajr (ρ:=Fo) h1 hy λa ha=>?_;have c0:=ha 0 (.int .u64 y.Ah) rfl;have c1:=ha 1 (.slice y.so.p y.so.len y.so.cap) rfl;refine DO (k:=.i .u64) (x:=y.Ah) c0 ?_;refine DO (k:=.sl) (x:=y.so) c1 ?_;refine by1 x λw2 k2=>?_;have d0:=Abx k2 c0;have d1:=Abx k2 c1;refine⟨DO (k:=.i .u64) (K:=λx12=>DN (a.add 1) λx13 _=>(Value.agg #[.int .u64 x12,.slice x13.p x13.len x13.cap])=(.agg #[.int .u64 y.Ah,.slice y.so.p y.so.len y.so.cap])) (x:=y.Ah) d0 (DO (k:=.sl) (K:=λx13 _=>(Value.agg #[.int .u64 y.Ah,.slice x13.p x13.len x13.cap])=(.agg #[.int .u64 y.Ah,.slice y.so.p y.so.len y.so.cap])) (x:=y.so) d1 rfl),?_⟩;refine by1 y λw3 k3=>?_;have k13:=Aj (Aj kd k2) k3;dsimp only;by_cases hxy:x.Ah<y.Ah
   ·rw[show decide (x.Ah>=y.Ah)=false from decide_eq_false (by omega)];simp only[Ae];refine⟨l.length-(i+1),by omega,i+1,by rw[AK (by omega)],rfl,by omega,λj u v hj hu hv=>?_,k13⟩;rcases Nat.lt_or_ge (j+1) i with h'|h'
    ·exact he j u v h' hu hv
    ·obtain rfl:j=i-1:=by omega
     rw[hx']at hu;rw[show i-1+1=i by omega,hy']at hv;injection hu with hu;injection hv with hv;omega
   ·rw[show decide (x.Ah>=y.Ah)=true from decide_eq_true (by omega)];have:=k _ k13;rw[show UR (l.map (·.Ah))=false from decide_eq_false λhr=>hxy (Abv hr hx' (by rw[show i-1+1=i by omega];exact hy'))]at this;exact this
 ·rw[decide_eq_false (by omega)];have:=k w1 k1;rw[show UR (l.map (·.Ah))=true from decide_eq_true (Yn λj x y hx hy=>he j x y (by have:=(List.getElem?_eq_some_iff.1 hy).1;omega) hx hy)]at this;exact this
theorem Us (b:Bool){w:World}{K:TR [.sc (.i .i64)]->Pr}(k:K (if b then 0 else 1,()) w):Cl Pg 51 [.bool b] false [.sc (.i .i64)] K w:=by
 refine QH _ ?_;unfold R0;cases b<;>exact k
def Y1 (fin:List Int)(h:PH):Bool:=decide (h.ops.length=0)||(decide (24<h.ops.length)||(fin.contains h.Ah||decide (A9 h.ops≠0)))
def inZ (c:Sc):Bool:=(c.AJ==0)&&((c.CD==0)&&((c.Bo==0)&&((seq c.Ph (BA [])&&(seq c.Qq (BA [])&&true))&&true)))
def TK (c:Sc):Bool:=seq c.Qk (BA [])&&(seq c.MS (BA [])&&true)
def Xe (c:Sc)(Ac:List Ow)(held:List PH)(fin:List Int):Bool:=decide (c.id<1)||(decide (c.id>4)||(!Be Ac||(decide (6<held.length)||(decide (64<held.length+fin.length)||(!Da c.Ph c.Qq||!Da c.Qk c.MS)))))
def W0 (held:List PH)(fin:List Int):Bool:=!held.any (Y1 fin)&&(UR (held.map (·.Ah))&&UR fin)
def OA (c:Sc)(Ac:List Ow)(held:List PH)(fin:List Int):Bool:=!Xe c Ac held fin&&((c.AJ !=0||inZ c)&&((c.frozen !=0||TK c)&&W0 held fin))
theorem AiQ (l:List Op):(l.any λo=>ER o !=0)=decide (A9 l≠0):=by
 by_cases hz:A9 l=0
 ·rw[decide_eq_false (by simpa using hz)];rw[Bu]at hz;exact List.any_eq_false.2 λo ho=>by simp[hz o ho]
 ·rw[decide_eq_true hz];rw[Bu]at hz;rw[List.any_eq_true];apply Classical.byContradiction;intro hn;apply hz;intro o ho;apply Classical.byContradiction;intro ho';exact hn ⟨o,ho,by simpa using ho'⟩
theorem AiH {d:Sd}(h:YP d w)(hN:XU d){a:Nat}(ha:w.heap[a]?=some (.cells (shA d) 41 (0,0))){K:TR [.sc .b]->Pr}(k:∀w',Aa [] w w'->K ((d.held.map Hd.p).any (Y1 d.fin),()) w'):
  Cl Pg 52 [.slice d.sh.p d.sh.len d.sh.cap,.func (.func 46) #[] #[.pointer (some ⟨a,0,none⟩)]] false [.sc .b] K w:=by
 rw[List.any_map]at k;refine Gn (p:=Y1 d.fin∘Hd.p) (F:=λ_=>False) h.he ?_ (by have:=hN.2.1;omega) λw1 k1=>k w1 k1;intro w2 k2 x hx K1 hK;have k2:=k2.SU;have a2:=k2.Aw ha;have hxo:=(h.hd x hx).Ab k2;have hl:=hxo.len;have hxn:=hN.2.2.2 x hx;refine BJ (by kernel_rfl) ?_;refine Ja _ x.so _ ?_;unfold Gw;dsimp only[Ll,Lu,Vs,Vu];refine Ad λb w3 h3 n3 k3=>?_;have a3:=k3.Aw a2;simp only[sb,h3];show(Br (((x.so.len:Nat):Int)==0) _ _) w3;unfold Function.comp Y1 at hK
 change ∀w'',Aa [] w2 w''->K1 (decide (x.ops.length=0)||(decide (24<x.ops.length)||(d.fin.contains x.Ah||decide (A9 x.ops≠0))),()) w'' at hK
 by_cases c1:x.ops.length=0
 ·rw[show(((x.so.len:Nat):Int)==0)=true from by rw[hl,c1];rfl];rw[decide_eq_true c1]at hK;exact hK w3 k3
 ·rw[show(((x.so.len:Nat):Int)==0)=false from by rw[hl];simpa using(by omega:¬((x.ops.length:Nat):Int)=0)];rw[decide_eq_false c1,Bool.false_or]at hK;simp only[sb,h3];by_cases c2:24<x.ops.length
  ·rw[show decide (((x.so.len:Nat):Int)>24)=true from decide_eq_true (by omega)];rw[decide_eq_true c2]at hK;exact hK w3 k3
  ·rw[show decide (((x.so.len:Nat):Int)>24)=false from decide_eq_false (by omega)];rw[decide_eq_false c2,Bool.false_or]at hK;simp only[sb,h3,a3];refine UI ((h.fi.Ab k2).Ab k3) x.Ah (by have:=hN.2.2.1;omega) ?_;dsimp only;cases c3:d.fin.contains x.Ah with
   |true=>rw[c3]at hK;exact hK w3 k3
   |false=>
    rw[c3,Bool.false_or]at hK;simp only[sb,h3];refine BN (p:=λo=>ER o !=0) (F:=λ_=>False) (hxo.Ab k3) ?_ (by omega) λw4 k4=>?_
    ·intro w5 k5 y _ K2 hK2;refine Ap (by kernel_rfl) ?_;refine HG _ _ _ _ _ _ ?_;unfold Fe;dsimp only[Ar,AN];refine Ad λc w6 h6 n6 k6=>?_;simp only[sb,h6];refine Ni y λw7 k7=>?_;exact hK2 w7 (Aj k6 k7)
    ·rw[AiQ];exact hK w4 (Aj k3 k4)
set_option maxHeartbeats 2000000 in
theorem Lt {d:Sd}(h:YP d w)(hN:XU d){K:TR [.sc (.i .i64)]->Pr}(k:∀w',Aa [] w w'->K (if OA d.c d.Ac (d.held.map Hd.p) d.fin then 0 else 1,()) w'):Cl Pg 25 [.agg (shA d)] false [.sc (.i .i64)] K w:=by
 refine KA _ _ _ _ _ d.so d.sh d.sf _ _ _ _ _ _ _ _ _ ?_;unfold IC;dsimp only[Al,Li,Ll,Ls,Lu,Ah0,Vb,Vp,Vs,Vt];refine Ad λa w1 h1 n1 k1=>?_;obtain⟨N1,N2,N3,N4⟩:=hN;have hN:XU d:=⟨N1,N2,N3,N4⟩;have g1:=h.Ab k1;have lh:=h.he.len;have lf:=V1 h.fi;have lm:(d.held.map Hd.p).length=d.held.length:=List.length_map _;refine BR (Xe d.c d.Ac (d.held.map Hd.p) d.fin) (λJ hJ=>?_) λw2 k2=>?_
 ·unfold Xe at hJ;simp only[sb,h1];by_cases c1:d.c.id<1
  ·rw[decide_eq_true c1]at hJ ⊢;exact hJ w1 (Aa.refl _ _)
  rw[decide_eq_false c1]at hJ ⊢;rw[Bool.false_or]at hJ;simp only[sb,h1];by_cases c2:d.c.id>4
  ·rw[decide_eq_true c2]at hJ ⊢;exact hJ w1 (Aa.refl _ _)
  rw[decide_eq_false c2]at hJ ⊢;rw[Bool.false_or]at hJ;simp only[sb,h1];refine Pj g1.ow (by omega) λw2 k2=>?_;have h2:=k2.Aw h1;cases c3:Be d.Ac with
  |false=>rw[c3]at hJ;exact hJ w2 k2
  |true=>
  rw[c3,Bool.not_true,Bool.false_or]at hJ;simp only[if_true,show((0:Int) !=0)=false from rfl,sb,h2];by_cases c4:6<d.held.length
  ·rw[show decide (((d.sh.len:Nat):Int)>6)=true from decide_eq_true (by omega)];rw[lm,decide_eq_true c4]at hJ;exact hJ w2 k2
  rw[show decide (((d.sh.len:Nat):Int)>6)=false from decide_eq_false (by omega)];rw[lm,decide_eq_false c4,Bool.false_or]at hJ;simp only[sb,h2];rw[lh,lf,By (by omega) (by omega)];by_cases c5:64<d.held.length+d.fin.length
  ·rw[show decide (((d.held.length:Nat):Int)+((d.fin.length:Nat):Int)>64)=true from decide_eq_true (by omega)];rw[decide_eq_true c5]at hJ;exact hJ w2 k2
  rw[show decide (((d.held.length:Nat):Int)+((d.fin.length:Nat):Int)>64)=false from decide_eq_false (by omega)];rw[decide_eq_false c5,Bool.false_or]at hJ;simp only[sb,h2,A5,Nat.reduceAdd];refine M1 _ _ λw3 k3=>?_;have h3:=k3.Aw h2;cases c6:Da d.c.Ph d.c.Qq with
  |false=>rw[c6]at hJ;exact hJ w3 (Aj k2 k3)
  |true=>
  rw[c6,Bool.not_true,Bool.false_or]at hJ;simp only[if_true,show((0:Int) !=0)=false from rfl,sb,h3,A5,Nat.reduceAdd];refine M1 _ _ λw4 k4=>?_;rw[ok1];exact hJ w4 (Aj (Aj k2 k3) k4)
 ·have k02:=Aj k1 k2;have h2:=k2.Aw h1;unfold OA at k;cases hz:Xe d.c d.Ac (d.held.map Hd.p) d.fin with
  |true=>rw[hz]at k;exact k w2 k02
  |false=>
   rw[hz,Bool.not_false,Bool.true_and]at k;simp only[Ae]
   have tail:∀(K:TR [.sc (.i .i64)]->Pr),(∀w',Aa [] w w'->K (if W0 (d.held.map Hd.p) d.fin then 0 else 1,()) w') ->
     (DN ((⟨a,0,none⟩:Addr).add 6) λx6=>Cl Pg 52 [(.slice x6.p x6.len x6.cap),(.func (.func 46) #[] #[(.pointer (some ⟨a,0,none⟩))])] false [.sc .b] λr7=>Br (!r7.1) (DN ((⟨a,0,none⟩:Addr).add 6) λx8=>
      Cl Pg 53 [(.slice x8.p x8.len x8.cap),(.func (.func 54) #[] #[])] false [.sc .b] λr9=>Br r9.1 (DN ((⟨a,0,none⟩:Addr).add 7) λx10=>
      Cl Pg 55 [(.slice x10.p x10.len x10.cap),(.func (.func 56) #[] #[])] false [.sc .b] λr11=>Cl Pg 51 [(.bool r11.1)] false [.sc (.i .i64)] λr12=>K (r12.1,())) (Cl Pg 51 [(.bool false)] false [.sc (.i .i64)] λr13=>K (r13.1,()))) (Cl Pg 51 [(.bool false)] false [.sc (.i .i64)] λr14=>K (r14.1,()))) w2:=by
    intro K k;unfold W0 at k;simp only[sb,h2];refine AiH (h.Ab k02) hN h2 λw3 k3=>?_;have h3:=k3.Aw h2;have k03:=Aj k02 k3;dsimp only;cases c1:(d.held.map Hd.p).any (Y1 d.fin)with
    |true=>rw[c1]at k;exact Us false (k w3 k03)
    |false=>
     rw[c1,Bool.not_false,Bool.true_and]at k;simp only[Bool.not_false,sb,h3];refine Agp (h.he.Ab k03) (by omega) λw4 k4=>?_;have h4:=k4.Aw h3;have k04:=Aj k03 k4;dsimp only;rw[show(d.held.map Hd.p).map (·.Ah)=d.held.map (·.Ah)from by rw[List.map_map];rfl]at k;cases c2:UR (d.held.map (·.Ah))with
     |false=>rw[c2]at k;exact Us false (k w4 k04)
     |true=>
      rw[c2,Bool.true_and]at k;simp only[sb,h4];refine AgP (h.fi.Ab k04) (by omega) λw5 k5=>?_;exact Us _ (k w5 (Aj k04 k5))
   have cl:∀(i:Nat) (v:Value),(shA d)[i]?=some v->w2.cell? ⟨a,i,none⟩=some v:=λi v hv=>by rw[Ci,h2];exact hv
   have cold:(∀w',Aa [] w w'->K (if((d.c.frozen !=0||TK d.c)&&W0 (d.held.map Hd.p) d.fin)then 0 else 1,()) w') ->
     (A2 .u64 ((⟨a,0,none⟩:Addr).add 9) λx5=>Br ((x5:Int) !=0) (DN ((⟨a,0,none⟩:Addr).add 6) λx6=>Cl Pg 52 [(.slice x6.p x6.len x6.cap),(.func (.func 46) #[] #[(.pointer (some ⟨a,0,none⟩))])] false [.sc .b] λr7=>Br (!r7.1) (DN ((⟨a,0,none⟩:Addr).add 6) λx8=>
      Cl Pg 53 [(.slice x8.p x8.len x8.cap),(.func (.func 54) #[] #[])] false [.sc .b] λr9=>Br r9.1 (DN ((⟨a,0,none⟩:Addr).add 7) λx10=>
      Cl Pg 55 [(.slice x10.p x10.len x10.cap),(.func (.func 56) #[] #[])] false [.sc .b] λr11=>Cl Pg 51 [(.bool r11.1)] false [.sc (.i .i64)] λr12=>K (r12.1,())) (Cl Pg 51 [(.bool false)] false [.sc (.i .i64)] λr13=>K (r13.1,()))) (Cl Pg 51 [(.bool false)] false [.sc (.i .i64)] λr14=>K (r14.1,())))
      (BU (((⟨a,0,none⟩:Addr).add 10).add 0) λx15=>BU (((⟨a,0,none⟩:Addr).add 10).add 1) λx16=>Br ((seq x15 (BA []))&&((seq x16 (BA []))&&true)) (DN ((⟨a,0,none⟩:Addr).add 6) λx6=>Cl Pg 52 [(.slice x6.p x6.len x6.cap),(.func (.func 46) #[] #[(.pointer (some ⟨a,0,none⟩))])] false [.sc .b] λr7=>Br (!r7.1) (DN ((⟨a,0,none⟩:Addr).add 6) λx8=>
      Cl Pg 53 [(.slice x8.p x8.len x8.cap),(.func (.func 54) #[] #[])] false [.sc .b] λr9=>Br r9.1 (DN ((⟨a,0,none⟩:Addr).add 7) λx10=>
      Cl Pg 55 [(.slice x10.p x10.len x10.cap),(.func (.func 56) #[] #[])] false [.sc .b] λr11=>Cl Pg 51 [(.bool r11.1)] false [.sc (.i .i64)] λr12=>K (r12.1,())) (Cl Pg 51 [(.bool false)] false [.sc (.i .i64)] λr13=>K (r13.1,()))) (Cl Pg 51 [(.bool false)] false [.sc (.i .i64)] λr14=>K (r14.1,()))) (Cl Pg 51 [(.bool false)] false [.sc (.i .i64)] λr26=>K (r26.1,())))) w2:=by
    intro k;refine DO (k:=.i .u64) (x:=d.c.frozen) (cl 9 _ rfl) ?_;cases c1:(d.c.frozen !=0)with
    |true=>
     rw[c1,Bool.true_or,Bool.true_and]at k;simp only[Af];exact tail K k
    |false=>
     rw[c1,Bool.false_or]at k;simp only[Ae];refine DO (k:=.s) (x:=d.c.Qk) (cl 10 _ rfl) ?_;refine DO (k:=.s) (x:=d.c.MS) (cl 11 _ rfl) ?_;show(Br (TK d.c) _ _) w2;cases c2:TK d.c with
     |true=>
      rw[c2,Bool.true_and]at k;simp only[Af];exact tail K k
     |false=>rw[c2]at k;exact Us false (k w2 k02)
   refine DO (k:=.i .u64) (x:=d.c.AJ) (cl 12 _ rfl) ?_;cases c1:(d.c.AJ !=0)with
   |true=>
    rw[c1,Bool.true_or,Bool.true_and]at k;simp only[Af];exact cold k
   |false=>
    rw[c1,Bool.false_or]at k;simp only[Ae];refine DO (k:=.i .u64) (x:=d.c.AJ) (cl 12 _ rfl) ?_;refine DO (k:=.i .u64) (x:=d.c.CD) (cl 13 _ rfl) ?_;refine DO (k:=.i .u64) (x:=d.c.Bo) (cl 14 _ rfl) ?_;refine DO (k:=.s) (x:=d.c.Ph) (cl 15 _ rfl) ?_;refine DO (k:=.s) (x:=d.c.Qq) (cl 16 _ rfl) ?_;show(Br (inZ d.c) _ _) w2;cases c2:inZ d.c with
    |true=>
     rw[c2,Bool.true_and]at k;simp only[Af];exact cold k
    |false=>rw[c2]at k;exact Us false (k w2 k02)
open Go Go.Sx
def u8 (x:Int):UInt8:=UInt8.ofNat (IntKind.u8.wrap x).toNat
theorem Ae1 (x:Int):IntKind.u8.wrap x=x % 256:=by
 simp[IntKind.wrap,IntKind.bits,IntKind.signed]
theorem AbC (x:Int):IntKind.u8.wrap x=((u8 x).toNat:Int):=by
 unfold u8;rw[UInt8.toNat_ofNat',Ae1];omega
def YR:Nat->Int->List UInt8
 |0,n=>[u8 n]
 |f+1,n=>if 128<=n then u8 (ior .u8 (IntKind.u8.wrap n) 128)::YR f (IW .u64 n 7)else [u8 n]
def Bv (n:Int):List UInt8:=YR n.toNat n
theorem Aiz {n:Int}(h:128<=n):IW .u64 n 7=((n.toNat / 128:Nat):Int):=by
 obtain⟨m,rfl⟩:∃m:Nat,n=m:=⟨n.toNat,by omega⟩;rw[show IW .u64 (m:Int) 7=((m >>> 7:Nat):Int)from PI .u64 m 7 (by decide),Nat.shiftRight_eq_div_pow];rfl
theorem Ad2 (a b:Int):ior .u8 a b=IntKind.u8.wrap (ior .u8 a b):=by
 unfold ior;rw[Ae1,Ae1];omega
theorem YY:∀(f k:Nat) (n:Int),n.toNat<128 ^ (k+1)->(YR f n).length<=k+1
 |0,k,n,h=>by simp[YR]
 |f+1,k,n,h=>by
  unfold YR;split
  ·rename_i h2;rw[Aiz h2];cases k with
   |zero=>omega
   |succ k=>
    have:=YY f k (((n.toNat / 128:Nat):Int)) (by
     rw[Int.toNat_natCast];rw[Nat.pow_succ]at h;exact Nat.div_lt_of_lt_mul (by rw[Nat.mul_comm];exact h))
    simp only[List.length_cons];omega
  ·simp
theorem Qp {n:Int}(h:n<18446744073709551616):(Bv n).length<=10:=YY _ 9 n (by
 have:(128:Nat) ^ (9+1)=1180591620717411303424:=by decide
 omega)
theorem Vh:zc Pg 5=#[.int .u8 0]:=by kernel_rfl
theorem Ah6 (n:Int)(hn:n<18446744073709551616){w:World}{K:TR [.sc .sl]->Pr}(k:∀r w',AE w' r 1 (cB (Bv n))->(∀b∈Ai r,w.heap.size<=b)->Aa [] w w'->K (r,()) w'):Cl Pg 231 [.int .u64 n] false [.sc .sl] K w:=by
 refine Vw _ ?_;unfold Xd;have p10:(128:Nat) ^ 10=1180591620717411303424:=by decide
 refine⟨λm st w'=>∃(f:Nat) (v:Int) (r:Sl) (bs:List UInt8),st=(v,r,())/\m=v.toNat/\v.toNat<=f/\bs++YR f v=Bv n/\v.toNat*128 ^ bs.length<=n.toNat/\bs.length<=10/\AE w' r 1 (cB bs)/\(∀b∈Ai r,w.heap.size<=b)/\Aa [] w w',⟨_,n.toNat,n,⟨none,0,0⟩,[],rfl,rfl,Nat.le_refl _,rfl,by simp,by simp,AE.nil _ _,by simp[Ai],Aa.refl _ _⟩,?_⟩;rintro _ _ w1 ⟨f,v,r,bs,rfl,rfl,hv,he,hb,hc,h1,f1,k1⟩;dsimp only;have hl:=Ng h1
 have app:∀(y:UInt8) {K2:Sl->Pr},(∀r4 w4,AE w4 r4 1 (cB (bs++[y]))->(∀b∈Ai r4,w.heap.size<=b)->Aa [] w w4->K2 r4 w4) ->
   (At #[.int .u8 ((y.toNat:Nat):Int)] 5 λa3=>App 5 1 1 (zc Pg 5) r 1 (BH (some a3) 1 1) K2) w1:=by
  intro y K2 hK;refine Ad λa w2 h2 n2 k2=>?_;have h12:=h1.keeps k2 (by simp);refine MZ (new:=[.int .u8 ((y.toNat:Nat):Int)]) h12 ?_ rfl (by simp[Value.oneCell']) (by rw[Vh];rfl) (by omega) (by omega) ?_
  ·exact BI (ρ:=Rec.sca (.i .u8) rfl) (x:=((y.toNat:Nat):Int)) h2
  ·intro r4 w4 h4 _ k4 f4;refine hK r4 w4 ?_ ?_ (Ky (Aj k1 k2) k4 f1)
   ·rw[show cB (bs++[y])=cB bs++[.int .u8 ((y.toNat:Nat):Int)]from by unfold cB;rw[List.map_append];rfl];exact h4
   ·intro b hb;rcases f4 b hb with h'|h'
    ·exact f1 b h'
    ·have:=k1.size;have:=k2.size;omega
 by_cases hge:v>=128
 ·rw[decide_eq_true hge];simp only[Af];rw[Ad2,AbC];refine app _ ?_;intro r4 w4 h4 f4 k4;refine⟨by decide,?_⟩;obtain⟨f',rfl⟩:∃f',f=f'+1:=⟨f-1,by omega⟩;have hd:v.toNat / 128<v.toNat:=Nat.div_lt_self (by omega) (by decide);rw[Aiz hge];refine⟨v.toNat / 128,hd,f',_,r4,bs++[u8 (ior .u8 (IntKind.u8.wrap v) 128)],rfl,by rw[Int.toNat_natCast],by rw[Int.toNat_natCast];omega,?_,?_,?_,h4,f4,k4⟩
  ·rw[<-he]
   conv=>rhs;rw[YR,if_pos hge,Aiz hge]
   rw[List.append_assoc];rfl
  ·rw[Int.toNat_natCast,List.length_append,List.length_singleton,Nat.pow_succ,Nat.mul_comm (128 ^ bs.length),<-Nat.mul_assoc];exact Nat.le_trans (Nat.mul_le_mul_right _ (Nat.div_mul_le_self _ _)) hb
  ·rw[List.length_append,List.length_singleton];rcases Nat.lt_or_ge bs.length 10 with h'|h'
   ·omega
   ·have:bs.length=10:=by omega
    rw[this,p10]at hb;omega
 ·rw[decide_eq_false hge];simp only[Ae];rw[AbC];refine app _ ?_;intro r4 w4 h4 f4 k4;refine k r4 w4 ?_ f4 k4;rw[show bs++[u8 v]=Bv n from ?_]at h4
  ·exact h4
  ·rw[<-he];cases f with
   |zero=>rfl
   |succ f=>rw[YR,if_neg (by omega)]
def Cd (s:ByteArray):List UInt8:=Bv (s.size:Int)++s.data.toList
theorem Aiq (s:ByteArray)(hs:s.size<=1000000){w:World}{K:TR [.sc .sl]->Pr}(k:∀r w',AE w' r 1 (cB (Cd s))->(∀b∈Ai r,w.heap.size<=b)->Aa [] w w'->K (r,()) w'):Cl Pg 240 [.string s] false [.sc .sl] K w:=by
 refine S5 _ ?_;unfold UE;dsimp only[Vu];rw[B1 (by omega)];refine Ah6 _ (by omega) λr1 w1 h1 f1 k1=>?_;have hl:=Ng h1;dsimp only;have hn:=Qp (n:=(s.size:Int)) (by omega);have hsz:s.data.toList.length=s.size:=by simp
 refine MZ (new:=cB s.data.toList) h1 ?_ (by rw[En,hsz,Nat.mul_one]) (Ad3 _) (by rw[Vh];rfl) (by omega) (by omega) ?_
 ·show cB s.data.toList=(FU s).take s.size;rw[QA,List.take_of_length_le (by rw[En,hsz];exact Nat.le_refl _)]
 ·intro r4 w4 h4 _ k4 f4;refine k r4 w4 ?_ ?_ (Ky k1 k4 f1)
  ·unfold Cd;rw[show cB (Bv (s.size:Int)++s.data.toList)=cB (Bv (s.size:Int))++cB s.data.toList from by unfold cB;rw[List.map_append]];exact h4
  ·intro b hb;rcases f4 b hb with h'|h'
   ·exact f1 b h'
   ·have:=k1.size;omega
structure WR (n0:Nat)(w:World)(x:Nat)(s:Sl)(bs:List UInt8):Prop where
 hd:w.heap[x]?=some (.cells #[.slice s.p s.len s.cap] 307 (0,0))
 row:AE w s 1 (cB bs)
 ne:x∉Ai s
 nx:n0<=x
 nb:∀b∈Ai s,n0<=b
structure WE (w:World)(x:Nat)(s:Sl)(w':World)(s':Sl):Prop where
 kp:Aa (x::Ai s) w w'
 fr:∀b∈Ai s',b∈Ai s\/w.heap.size<=b
theorem WE.trans {w w' w'':World}{x:Nat}{s s' s'':Sl}(h:WE w x s w' s')(k:WE w' x s' w'' s''):WE w x s w'' s'':=
 ⟨h.kp.trans k.kp λb hb=>by
  rcases List.mem_cons.1 hb with rfl|hb
  ·exact .inl List.mem_cons_self
  ·rcases h.fr b hb with h'|h'
   ·exact .inl (List.mem_cons_of_mem _ h')
   ·exact .inr h',λb hb=>by
  rcases k.fr b hb with h'|h'
  ·exact h.fr b h'
  ·exact .inr (Nat.le_trans h.kp.size h')⟩
variable {x:Nat}
theorem WE.k0 (h:Aa [] w w'):WE w x s w' s:=⟨h.mono (by simp),λb hb=>.inl hb⟩
variable {n0:Nat}{bs:List UInt8}
theorem WR.Ab (h:WR n0 w x s bs)(k:Aa [] w w'):WR n0 w' x s bs:=⟨k.Aw h.hd,h.row.keeps k (by simp),h.ne,h.nx,h.nb⟩
theorem WE.at {n0:Nat}{w w':World}{x:Nat}{s s':Sl}{bs:List UInt8}(r:WR n0 w x s bs)(h:WE w x s w' s'){c:Nat}{o:Obj}(hc:w.heap[c]?=some o)(nx:c≠x)(ns:c∉Ai s):w'.heap[c]?=some o/\c∉Ai s':=
 ⟨h.kp.at hc (by simp[nx,ns]),λhb=>by rcases h.fr c hb with h'|h';exact ns h';have:=Av hc;omega⟩
theorem WR.new (r:WR n0 w x s bs){c:Nat}(hc:w.heap.size<=c):c≠x/\c∉Ai s:=⟨λe=>by have:=Av r.hd;omega,λhb=>by have:=r.row.lt c hb;omega⟩
theorem Aky {new:List UInt8}(h:WR n0 w x s bs)(hb:bs.length+new.length<=1000000000){w1:World}(k1:Aa [] w w1){r:Sl}(hr:AE w1 r 1 (cB new)){K:Pr}(hn:n0<=w.heap.size)(k:∀s' w',WR n0 w' x s' (bs++new)->WE w x s w' s'->K w'):App 5 1 1 (zc Pg 5) s r.len (BH r.p r.len 1) (λr5=>Nn (some ⟨x,0,none⟩) λa6=>St (a6.add 0) (.slice r5.p r5.len r5.cap) K) w1:=by
 have h1:=h.Ab k1;have l1:=Ng h1.row;have l2:=Ng hr;refine MZ (new:=cB new) h1.row hr.rdc (by rw[En,l2,Nat.mul_one]) (Ad3 _) (by rw[Vh];rfl) (by omega) (by omega) ?_;intro r5 w5 h5 _ k5 f5;have x5:=k5.at h1.hd h.ne;have n5:x∉Ai r5:=λhb=>by rcases f5 x hb with h'|h';exact h.ne h';have:=Av h1.hd;omega
 simp only[sb];refine Ax x5 0 _ rfl (by simp) λw6 h6 k6=>?_;simp only[Ck]at h6;refine k r5 w6 ⟨h6,?_,n5,h.nx,λb hb=>?_⟩ ⟨?_,λb hb=>?_⟩
 ·rw[show cB (bs++new)=cB bs++cB new from by unfold cB;rw[List.map_append]];exact h5.keeps k6 (λb hb=>by simp;intro e;subst e;exact n5 hb)
 ·rcases f5 b hb with h'|h'
  ·exact h.nb b h'
  ·have:=k1.size;omega
 ·exact((k1.mono (by simp)).trans (k5.mono (m':=x::Ai s) λy hy=>.inl (List.mem_cons_of_mem _ hy)) (λ_ hx=>.inl hx)).trans (k6.mono (m':=x::Ai s) λy hy=>.inl (by simp at hy;rw[hy];exact List.mem_cons_self)) (λ_ hx=>.inl hx)
 ·rcases f5 b hb with h'|h'
  ·exact .inl h'
  ·exact .inr (by have:=k1.size;omega)
end Go.Proofs.YthkdehgfdllpoaaGreat
