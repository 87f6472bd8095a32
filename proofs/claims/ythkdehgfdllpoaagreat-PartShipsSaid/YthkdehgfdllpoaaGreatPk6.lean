/- The parts of the proof, 6: words of the program, and what they do. Conditions: none. -/
import Derived.Test.YthkdehgfdllpoaaGreatPk5
set_option maxRecDepth 100000
set_option maxHeartbeats 1000000
set_option linter.unusedVariables false
set_option linter.unusedSimpArgs false
set_option linter.unusedSectionVars false
namespace Go.Proofs.YthkdehgfdllpoaaGreat
open Go Go.Sx
def TA:Nat:=1000000000
theorem Abf (n:Int)(hn:n<18446744073709551616){n0:Nat}{w:World}{x:Nat}{s:Sl}{bs:List UInt8}(h:WR n0 w x s bs)(h0:n0<=w.heap.size)(hb:(bs++Bv n).length<=TA){K:TR []->Pr}(k:∀s' w',WR n0 w' x s' (bs++Bv n)->WE w x s w' s'->K () w'):Cl Pg 258 [.pointer (some ⟨x,0,none⟩),.int .u64 n] true [] K w:=by
 refine KR _ _ ?_;unfold IA;dsimp only[Ll,Ts,Vs,Vu];simp only[sb,h.hd];refine Ah6 n hn λr w1 h1 f1 k1=>?_;have h2:=h.Ab (Aj (Am w) k1);simp only[sb,h2.hd];refine⟨by trivial,?_⟩;exact Aky h (by rw[List.length_append]at hb;exact hb) (Aj (Am w) k1) h1 h0 k
theorem Yx (n:Int)(hn:0<=n/\n<18446744073709551616){n0:Nat}{w:World}{x:Nat}{s:Sl}{bs:List UInt8}(h:WR n0 w x s bs)(h0:n0<=w.heap.size)(hb:(bs++Bv n).length<=TA){K:TR []->Pr}(k:∀s' w',WR n0 w' x s' (bs++Bv n)->WE w x s w' s'->K () w'):Cl Pg 286 [.pointer (some ⟨x,0,none⟩),.int .i64 n] true [] K w:=by
 refine KJ _ _ ?_;unfold Is;dsimp only[Vp,Vu];have e:IntKind.u64.wrap n=n:=by
  have:=B1 (n:=n.toNat) (by omega);rw[Int.toNat_of_nonneg hn.1]at this;exact this
 rw[e];exact Abf n hn.2 h h0 hb k
theorem Tj (t:ByteArray)(hn:t.size<=1000000){n0:Nat}{w:World}{x:Nat}{s:Sl}{bs:List UInt8}(h:WR n0 w x s bs)(h0:n0<=w.heap.size)(hb:(bs++Cd t).length<=TA){K:TR []->Pr}(k:∀s' w',WR n0 w' x s' (bs++Cd t)->WE w x s w' s'->K () w'):Cl Pg 288 [.pointer (some ⟨x,0,none⟩),.string t] true [] K w:=by
 refine JQ _ _ ?_;unfold Hk;dsimp only[Ll,Ts,Vs,Vt];simp only[sb,h.hd];refine Aiq t hn λr w1 h1 f1 k1=>?_;have h2:=h.Ab (Aj (Am w) k1);simp only[sb,h2.hd];refine⟨by trivial,?_⟩;exact Aky h (by rw[List.length_append]at hb;exact hb) (Aj (Am w) k1) h1 h0 k
theorem CR {a b c:List UInt8}(h:(a++b++c).length<=TA):(a++b).length<=TA:=by rw[List.length_append]at h;omega
def SC {α:Type}(n0:Nat)(x:Nat)(f:Value)(v:α->Value)(enc:α->List UInt8)(D:α->World->Prop):Prop:=
 ∀(y:α) (w:World) (s:Sl) (bs:List UInt8),WR n0 w x s bs->n0<=w.heap.size->D y w->(bs++enc y).length<=TA->∀K:TR []->Pr,(∀s' w',WR n0 w' x s' (bs++enc y)->WE w x s w' s'->K () w')->AB Pg f [v y] true [] K w
def Wk (n0:Nat)(x:Nat)(D:World->Prop):Prop:=∀(w w':World) (s s':Sl) (bs:List UInt8),WR n0 w x s bs->n0<=w.heap.size->D w->WE w x s w' s'->D w'
theorem Wk.k0 {n0 x:Nat}{D:World->Prop}(h:Wk n0 x D){w w':World}{s:Sl}{bs:List UInt8}(r:WR n0 w x s bs)(h0:n0<=w.heap.size)(hD:D w)(k:Aa [] w w'):D w':=h w w' s s bs r h0 hD (WE.k0 k)
variable {α:Type}{n0 x:Nat}
theorem Np {ρ:Rec α}{r:Sl}{l:List α}(hx:n0<=x)(hr:∀b∈rb r,b<n0):Wk n0 x (λw=>A1 ρ w r l):=by
 intro w w' s s' bs h h0 hD e;refine hD.keeps e.kp λb hb=>?_;have:=hr b hb;simp only[List.mem_cons,not_or];exact⟨by omega,λh'=>by have:=h.nb b h';omega⟩
theorem Tv {n m:Int}(e:n=m)(hn:0<=m/\m<18446744073709551616){n0:Nat}{w:World}{x:Nat}{s:Sl}{bs:List UInt8}(h:WR n0 w x s bs)(h0:n0<=w.heap.size)(hb:(bs++Bv m).length<=TA){K:TR []->Pr}(k:∀s' w',WR n0 w' x s' (bs++Bv m)->WE w x s w' s'->K () w'):Cl Pg 286 [.pointer (some ⟨x,0,none⟩),.int .i64 n] true [] K w:=by
 subst e;exact Yx n hn h h0 hb k
variable {w:World}{bs:List UInt8}
theorem XM {s:Sl}(h:WR n0 w x s bs)(h0:n0<=w.heap.size){r:Sl}{l:List Int}(hr:A1 HL w r l)(ho:Wk n0 x (λw=>A1 HL w r l)){f:Value}{enc:Int->List UInt8}{D:Int->World->Prop}(hf:SC n0 x f (Value.int .u64) enc D)(hD:∀y∈l,D y w)(hoD:∀y∈l,Wk n0 x (D y))(hN:l.length<=1000000)(hb:(bs++l.flatMap enc).length<=TA){K:TR []->Pr}(k:∀s' w',WR n0 w' x s' (bs++l.flatMap enc)->WE w x s w' s'->K () w'):Cl Pg 285 [.pointer (some ⟨x,0,none⟩),.slice r.p r.len r.cap,f] true [] K w:=by
 have hl:r.len=l.length:=hr.len;refine Eo _ _ _ ?_;unfold Eb;dsimp only[Vu];refine⟨λn st w'=>∃(i:Nat) (s':Sl),st=((i:Int),())/\n=l.length-i/\i<=l.length/\WR n0 w' x s' (bs++(l.take i).flatMap enc)/\WE w x s w' s'/\A1 HL w' r l/\(∀y∈l,D y w')/\n0<=w'.heap.size,⟨_,0,s,rfl,rfl,by omega,by simpa using h,WE.k0 (Aa.refl _ _),hr,hD,h0⟩,?_⟩;rintro n _ w1 ⟨i,s1,rfl,rfl,hi,h1,e1,r1,d1,z1⟩;dsimp only;by_cases hlt:i<l.length
 ·rw[decide_eq_true (by omega)];simp only[Af];obtain⟨y,hy⟩:∃y,l[i]?=some y:=⟨_,List.getElem?_eq_getElem hlt⟩;have hym:=List.mem_of_getElem? hy;have htk:(l.take (i+1)).flatMap enc=(l.take i).flatMap enc++enc y:=by rw[List.take_add_one,hy,List.flatMap_append];simp
  have hbb:(bs++(l.take i).flatMap enc++enc y).length<=TA:=by
   have e:l.flatMap enc=(l.take (i+1)).flatMap enc++(l.drop (i+1)).flatMap enc:=by rw[<-List.flatMap_append,List.take_append_drop]
   rw[e,htk]at hb;simp only[List.length_append]at hb ⊢;omega
  have nxt:∀(w2:World),Aa [] w1 w2->AB Pg f [(Value.int .u64) y] true [] (λr5=>λw'=>∃m,m<l.length-i/\∃(i_1:Nat) (s':Sl),(An ((i:Int)+1),())=((i_1:Int),())/\m=l.length-i_1/\i_1<=l.length/\WR n0 w' x s' (bs++(l.take i_1).flatMap enc)/\WE w x s w' s'/\A1 HL w' r l/\(∀y∈l,D y w')/\n0<=w'.heap.size) w2:=by
   intro w2 k2;have z2:n0<=w2.heap.size:=Nat.le_trans z1 k2.size;refine hf y w2 s1 _ (h1.Ab k2) z2 ((hoD y hym).k0 h1 z1 (d1 y hym) k2) hbb _ ?_;intro s3 w3 h3 e3;refine⟨l.length-(i+1),by omega,i+1,s3,by rw[AK (by omega)],rfl,by omega,?_,e1.trans ((WE.k0 k2).trans e3),ho _ _ _ _ _ h1 z1 r1 ((WE.k0 k2).trans e3),λz hz=>hoD z hz _ _ _ _ _ h1 z1 (d1 z hz) ((WE.k0 k2).trans e3),Nat.le_trans z2 e3.kp.size⟩;rw[htk,<-List.append_assoc];exact h3
  refine ldn r1 hy ?_;exact nxt w1 (Aa.refl _ _)
 ·rw[decide_eq_false (by omega)];rw[List.take_of_length_le (by omega)]at h1;exact k s1 w1 h1 e1
theorem VG {s:Sl}(h:WR n0 w x s bs)(h0:n0<=w.heap.size){r:Sl}{l:List Int}(hr:A1 HL w r l)(ho:Wk n0 x (λw=>A1 HL w r l)){f:Value}{enc:Int->List UInt8}{D:Int->World->Prop}(hf:SC n0 x f (Value.int .u64) enc D)(hD:∀y∈l,D y w)(hoD:∀y∈l,Wk n0 x (D y))(hN:l.length<=1000000)(hb:(bs++(Bv (l.length:Int)++l.flatMap enc)).length<=TA){K:TR []->Pr}(k:∀s' w',WR n0 w' x s' (bs++(Bv (l.length:Int)++l.flatMap enc))->WE w x s w' s'->K () w'):Cl Pg 257 [.pointer (some ⟨x,0,none⟩),.slice r.p r.len r.cap,f] true [] K w:=by
 have hl:r.len=l.length:=hr.len;refine JA _ _ _ ?_;unfold Ht;dsimp only[Vi,Vp,Vs];rw[<-List.append_assoc]at hb k;have e:(((r.len:Nat):Int))=(l.length:Int):=by rw[hl]
 refine Tv e ⟨by omega,by omega⟩ h h0 (CR hb) λs1 w1 h1 e1=>?_;have z1:n0<=w1.heap.size:=Nat.le_trans h0 e1.kp.size;refine XM h1 z1 (ho _ _ _ _ _ h h0 hr e1) ho hf (λy hy=>hoD y hy _ _ _ _ _ h h0 (hD y hy) e1) hoD hN hb λs2 w2 h2 e2=>?_;exact k s2 w2 h2 (e1.trans e2)
theorem Zv {s:Sl}(h:WR n0 w x s bs)(h0:n0<=w.heap.size){r:Sl}{l:List Ow}(hr:A1 Mj w r l)(ho:Wk n0 x (λw=>A1 Mj w r l)){f:Value}{enc:Ow->List UInt8}{D:Ow->World->Prop}(hf:SC n0 x f Mj.v enc D)(hD:∀y∈l,D y w)(hoD:∀y∈l,Wk n0 x (D y))(hN:l.length<=1000000)(hb:(bs++l.flatMap enc).length<=TA){K:TR []->Pr}(k:∀s' w',WR n0 w' x s' (bs++l.flatMap enc)->WE w x s w' s'->K () w'):Cl Pg 287 [.pointer (some ⟨x,0,none⟩),.slice r.p r.len r.cap,f] true [] K w:=by
 have hl:r.len=l.length:=hr.len;refine K4 _ _ _ ?_;unfold IJ;dsimp only[Li,Ls,Ti,Tt,Vi,Vt];refine⟨λn st w'=>∃(i:Nat) (s':Sl),st=((i:Int),())/\n=l.length-i/\i<=l.length/\WR n0 w' x s' (bs++(l.take i).flatMap enc)/\WE w x s w' s'/\A1 Mj w' r l/\(∀y∈l,D y w')/\n0<=w'.heap.size,⟨_,0,s,rfl,rfl,by omega,by simpa using h,WE.k0 (Aa.refl _ _),hr,hD,h0⟩,?_⟩;rintro n _ w1 ⟨i,s1,rfl,rfl,hi,h1,e1,r1,d1,z1⟩;dsimp only;by_cases hlt:i<l.length
 ·rw[decide_eq_true (by omega)];simp only[Af];obtain⟨y,hy⟩:∃y,l[i]?=some y:=⟨_,List.getElem?_eq_getElem hlt⟩;have hym:=List.mem_of_getElem? hy;have htk:(l.take (i+1)).flatMap enc=(l.take i).flatMap enc++enc y:=by rw[List.take_add_one,hy,List.flatMap_append];simp
  have hbb:(bs++(l.take i).flatMap enc++enc y).length<=TA:=by
   have e:l.flatMap enc=(l.take (i+1)).flatMap enc++(l.drop (i+1)).flatMap enc:=by rw[<-List.flatMap_append,List.take_append_drop]
   rw[e,htk]at hb;simp only[List.length_append]at hb ⊢;omega
  have nxt:∀(w2:World),Aa [] w1 w2->AB Pg f [Mj.v y] true [] (λr5=>λw'=>∃m,m<l.length-i/\∃(i_1:Nat) (s':Sl),(An ((i:Int)+1),())=((i_1:Int),())/\m=l.length-i_1/\i_1<=l.length/\WR n0 w' x s' (bs++(l.take i_1).flatMap enc)/\WE w x s w' s'/\A1 Mj w' r l/\(∀y∈l,D y w')/\n0<=w'.heap.size) w2:=by
   intro w2 k2;have z2:n0<=w2.heap.size:=Nat.le_trans z1 k2.size;refine hf y w2 s1 _ (h1.Ab k2) z2 ((hoD y hym).k0 h1 z1 (d1 y hym) k2) hbb _ ?_;intro s3 w3 h3 e3;refine⟨l.length-(i+1),by omega,i+1,s3,by rw[AK (by omega)],rfl,by omega,?_,e1.trans ((WE.k0 k2).trans e3),ho _ _ _ _ _ h1 z1 r1 ((WE.k0 k2).trans e3),λz hz=>hoD z hz _ _ _ _ _ h1 z1 (d1 z hz) ((WE.k0 k2).trans e3),Nat.le_trans z2 e3.kp.size⟩;rw[htk,<-List.append_assoc];exact h3
  refine UP r1 hy ?_;refine UB y λc w2 h2 n2 k2=>?_;simp only[sb,h2];exact nxt w2 k2
 ·rw[decide_eq_false (by omega)];rw[List.take_of_length_le (by omega)]at h1;exact k s1 w1 h1 e1
theorem Yj {s:Sl}(h:WR n0 w x s bs)(h0:n0<=w.heap.size){r:Sl}{l:List Ow}(hr:A1 Mj w r l)(ho:Wk n0 x (λw=>A1 Mj w r l)){f:Value}{enc:Ow->List UInt8}{D:Ow->World->Prop}(hf:SC n0 x f Mj.v enc D)(hD:∀y∈l,D y w)(hoD:∀y∈l,Wk n0 x (D y))(hN:l.length<=1000000)(hb:(bs++(Bv (l.length:Int)++l.flatMap enc)).length<=TA){K:TR []->Pr}(k:∀s' w',WR n0 w' x s' (bs++(Bv (l.length:Int)++l.flatMap enc))->WE w x s w' s'->K () w'):Cl Pg 253 [.pointer (some ⟨x,0,none⟩),.slice r.p r.len r.cap,f] true [] K w:=by
 have hl:r.len=l.length:=hr.len;refine K9 _ _ _ ?_;unfold Iz;dsimp only[Vi,Vp,Vs];rw[<-List.append_assoc]at hb k;have e:(((r.len:Nat):Int))=(l.length:Int):=by rw[hl]
 refine Tv e ⟨by omega,by omega⟩ h h0 (CR hb) λs1 w1 h1 e1=>?_;have z1:n0<=w1.heap.size:=Nat.le_trans h0 e1.kp.size;refine Zv h1 z1 (ho _ _ _ _ _ h h0 hr e1) ho hf (λy hy=>hoD y hy _ _ _ _ _ h h0 (hD y hy) e1) hoD hN hb λs2 w2 h2 e2=>?_;exact k s2 w2 h2 (e1.trans e2)
theorem AdD {s:Sl}(h:WR n0 w x s bs)(h0:n0<=w.heap.size){r:Sl}{l:List Op}(hr:A1 BQ w r l)(ho:Wk n0 x (λw=>A1 BQ w r l)){f:Value}{enc:Op->List UInt8}{D:Op->World->Prop}(hf:SC n0 x f BQ.v enc D)(hD:∀y∈l,D y w)(hoD:∀y∈l,Wk n0 x (D y))(hN:l.length<=1000000)(hb:(bs++l.flatMap enc).length<=TA){K:TR []->Pr}(k:∀s' w',WR n0 w' x s' (bs++l.flatMap enc)->WE w x s w' s'->K () w'):Cl Pg 300 [.pointer (some ⟨x,0,none⟩),.slice r.p r.len r.cap,f] true [] K w:=by
 have hl:r.len=l.length:=hr.len;refine N5 _ _ _ ?_;unfold MF;dsimp only[Ar,AN,Gh,Gx];refine⟨λn st w'=>∃(i:Nat) (s':Sl),st=((i:Int),())/\n=l.length-i/\i<=l.length/\WR n0 w' x s' (bs++(l.take i).flatMap enc)/\WE w x s w' s'/\A1 BQ w' r l/\(∀y∈l,D y w')/\n0<=w'.heap.size,⟨_,0,s,rfl,rfl,by omega,by simpa using h,WE.k0 (Aa.refl _ _),hr,hD,h0⟩,?_⟩;rintro n _ w1 ⟨i,s1,rfl,rfl,hi,h1,e1,r1,d1,z1⟩;dsimp only;by_cases hlt:i<l.length
 ·rw[decide_eq_true (by omega)];simp only[Af];obtain⟨y,hy⟩:∃y,l[i]?=some y:=⟨_,List.getElem?_eq_getElem hlt⟩;have hym:=List.mem_of_getElem? hy;have htk:(l.take (i+1)).flatMap enc=(l.take i).flatMap enc++enc y:=by rw[List.take_add_one,hy,List.flatMap_append];simp
  have hbb:(bs++(l.take i).flatMap enc++enc y).length<=TA:=by
   have e:l.flatMap enc=(l.take (i+1)).flatMap enc++(l.drop (i+1)).flatMap enc:=by rw[<-List.flatMap_append,List.take_append_drop]
   rw[e,htk]at hb;simp only[List.length_append]at hb ⊢;omega
  have nxt:∀(w2:World),Aa [] w1 w2->AB Pg f [BQ.v y] true [] (λr5=>λw'=>∃m,m<l.length-i/\∃(i_1:Nat) (s':Sl),(An ((i:Int)+1),())=((i_1:Int),())/\m=l.length-i_1/\i_1<=l.length/\WR n0 w' x s' (bs++(l.take i_1).flatMap enc)/\WE w x s w' s'/\A1 BQ w' r l/\(∀y∈l,D y w')/\n0<=w'.heap.size) w2:=by
   intro w2 k2;have z2:n0<=w2.heap.size:=Nat.le_trans z1 k2.size;refine hf y w2 s1 _ (h1.Ab k2) z2 ((hoD y hym).k0 h1 z1 (d1 y hym) k2) hbb _ ?_;intro s3 w3 h3 e3;refine⟨l.length-(i+1),by omega,i+1,s3,by rw[AK (by omega)],rfl,by omega,?_,e1.trans ((WE.k0 k2).trans e3),ho _ _ _ _ _ h1 z1 r1 ((WE.k0 k2).trans e3),λz hz=>hoD z hz _ _ _ _ _ h1 z1 (d1 z hz) ((WE.k0 k2).trans e3),Nat.le_trans z2 e3.kp.size⟩;rw[htk,<-List.append_assoc];exact h3
  refine Sn r1 hy ?_;refine Sq y λc w2 h2 n2 k2=>?_;simp only[sb,h2];exact nxt w2 k2
 ·rw[decide_eq_false (by omega)];rw[List.take_of_length_le (by omega)]at h1;exact k s1 w1 h1 e1
theorem Adj {s:Sl}(h:WR n0 w x s bs)(h0:n0<=w.heap.size){r:Sl}{l:List Op}(hr:A1 BQ w r l)(ho:Wk n0 x (λw=>A1 BQ w r l)){f:Value}{enc:Op->List UInt8}{D:Op->World->Prop}(hf:SC n0 x f BQ.v enc D)(hD:∀y∈l,D y w)(hoD:∀y∈l,Wk n0 x (D y))(hN:l.length<=1000000)(hb:(bs++(Bv (l.length:Int)++l.flatMap enc)).length<=TA){K:TR []->Pr}(k:∀s' w',WR n0 w' x s' (bs++(Bv (l.length:Int)++l.flatMap enc))->WE w x s w' s'->K () w'):Cl Pg 290 [.pointer (some ⟨x,0,none⟩),.slice r.p r.len r.cap,f] true [] K w:=by
 have hl:r.len=l.length:=hr.len;refine N9 _ _ _ ?_;unfold M8;dsimp only[Vi,Vp,Vs];rw[<-List.append_assoc]at hb k;have e:(((r.len:Nat):Int))=(l.length:Int):=by rw[hl]
 refine Tv e ⟨by omega,by omega⟩ h h0 (CR hb) λs1 w1 h1 e1=>?_;have z1:n0<=w1.heap.size:=Nat.le_trans h0 e1.kp.size;refine AdD h1 z1 (ho _ _ _ _ _ h h0 hr e1) ho hf (λy hy=>hoD y hy _ _ _ _ _ h h0 (hD y hy) e1) hoD hN hb λs2 w2 h2 e2=>?_;exact k s2 w2 h2 (e1.trans e2)
theorem Aao {s:Sl}(h:WR n0 w x s bs)(h0:n0<=w.heap.size){r:Sl}{l:List Hd}(hr:A1 Fo w r l)(ho:Wk n0 x (λw=>A1 Fo w r l)){f:Value}{enc:Hd->List UInt8}{D:Hd->World->Prop}(hf:SC n0 x f Fo.v enc D)(hD:∀y∈l,D y w)(hoD:∀y∈l,Wk n0 x (D y))(hN:l.length<=1000000)(hb:(bs++l.flatMap enc).length<=TA){K:TR []->Pr}(k:∀s' w',WR n0 w' x s' (bs++l.flatMap enc)->WE w x s w' s'->K () w'):Cl Pg 289 [.pointer (some ⟨x,0,none⟩),.slice r.p r.len r.cap,f] true [] K w:=by
 have hl:r.len=l.length:=hr.len;refine Ma _ _ _ ?_;unfold JH;dsimp only[Ll,Lu,Ts,Tu,Vs,Vu];refine⟨λn st w'=>∃(i:Nat) (s':Sl),st=((i:Int),())/\n=l.length-i/\i<=l.length/\WR n0 w' x s' (bs++(l.take i).flatMap enc)/\WE w x s w' s'/\A1 Fo w' r l/\(∀y∈l,D y w')/\n0<=w'.heap.size,⟨_,0,s,rfl,rfl,by omega,by simpa using h,WE.k0 (Aa.refl _ _),hr,hD,h0⟩,?_⟩;rintro n _ w1 ⟨i,s1,rfl,rfl,hi,h1,e1,r1,d1,z1⟩;dsimp only;by_cases hlt:i<l.length
 ·rw[decide_eq_true (by omega)];simp only[Af];obtain⟨y,hy⟩:∃y,l[i]?=some y:=⟨_,List.getElem?_eq_getElem hlt⟩;have hym:=List.mem_of_getElem? hy;have htk:(l.take (i+1)).flatMap enc=(l.take i).flatMap enc++enc y:=by rw[List.take_add_one,hy,List.flatMap_append];simp
  have hbb:(bs++(l.take i).flatMap enc++enc y).length<=TA:=by
   have e:l.flatMap enc=(l.take (i+1)).flatMap enc++(l.drop (i+1)).flatMap enc:=by rw[<-List.flatMap_append,List.take_append_drop]
   rw[e,htk]at hb;simp only[List.length_append]at hb ⊢;omega
  have nxt:∀(w2:World),Aa [] w1 w2->AB Pg f [Fo.v y] true [] (λr5=>λw'=>∃m,m<l.length-i/\∃(i_1:Nat) (s':Sl),(An ((i:Int)+1),())=((i_1:Int),())/\m=l.length-i_1/\i_1<=l.length/\WR n0 w' x s' (bs++(l.take i_1).flatMap enc)/\WE w x s w' s'/\A1 Fo w' r l/\(∀y∈l,D y w')/\n0<=w'.heap.size) w2:=by
   intro w2 k2;have z2:n0<=w2.heap.size:=Nat.le_trans z1 k2.size;refine hf y w2 s1 _ (h1.Ab k2) z2 ((hoD y hym).k0 h1 z1 (d1 y hym) k2) hbb _ ?_;intro s3 w3 h3 e3;refine⟨l.length-(i+1),by omega,i+1,s3,by rw[AK (by omega)],rfl,by omega,?_,e1.trans ((WE.k0 k2).trans e3),ho _ _ _ _ _ h1 z1 r1 ((WE.k0 k2).trans e3),λz hz=>hoD z hz _ _ _ _ _ h1 z1 (d1 z hz) ((WE.k0 k2).trans e3),Nat.le_trans z2 e3.kp.size⟩;rw[htk,<-List.append_assoc];exact h3
  refine I0 r1 hy ?_;refine Lz y λc w2 h2 n2 k2=>?_;simp only[sb,h2];exact nxt w2 k2
 ·rw[decide_eq_false (by omega)];rw[List.take_of_length_le (by omega)]at h1;exact k s1 w1 h1 e1
theorem ZC {s:Sl}(h:WR n0 w x s bs)(h0:n0<=w.heap.size){r:Sl}{l:List Hd}(hr:A1 Fo w r l)(ho:Wk n0 x (λw=>A1 Fo w r l)){f:Value}{enc:Hd->List UInt8}{D:Hd->World->Prop}(hf:SC n0 x f Fo.v enc D)(hD:∀y∈l,D y w)(hoD:∀y∈l,Wk n0 x (D y))(hN:l.length<=1000000)(hb:(bs++(Bv (l.length:Int)++l.flatMap enc)).length<=TA){K:TR []->Pr}(k:∀s' w',WR n0 w' x s' (bs++(Bv (l.length:Int)++l.flatMap enc))->WE w x s w' s'->K () w'):Cl Pg 255 [.pointer (some ⟨x,0,none⟩),.slice r.p r.len r.cap,f] true [] K w:=by
 have hl:r.len=l.length:=hr.len;refine LX _ _ _ ?_;unfold Ks;dsimp only[Vi,Vp,Vs];rw[<-List.append_assoc]at hb k;have e:(((r.len:Nat):Int))=(l.length:Int):=by rw[hl]
 refine Tv e ⟨by omega,by omega⟩ h h0 (CR hb) λs1 w1 h1 e1=>?_;have z1:n0<=w1.heap.size:=Nat.le_trans h0 e1.kp.size;refine Aao h1 z1 (ho _ _ _ _ _ h h0 hr e1) ho hf (λy hy=>hoD y hy _ _ _ _ _ h h0 (hD y hy) e1) hoD hN hb λs2 w2 h2 e2=>?_;exact k s2 w2 h2 (e1.trans e2)
theorem Tl {P:Program}{g:FuncId}(hg:SM P g=true){c:Value}{args:List Value}{tup:Bool}{rs:List RK}{K:TR rs->Pr}{w:World}(h:Cl P g (c::args) tup rs K w):AB P (.func (.func g) #[c] #[]) args tup rs K w:=by
 unfold AB;simp only[hg];simpa using h
def WT (o:Ow):List UInt8:=Cd o.lo++Bv o.BO
def Uh (o:Op):List UInt8:=Bv o.kind++Cd o.key++Cd o.value++Cd o.lo++Cd o.hi++Bv o.AD
def AbD (h:Hd):List UInt8:=Bv h.Ah++(Bv (h.ops.length:Int)++h.ops.flatMap Uh)
def DR (n:Int):Prop:=0<=n/\n<18446744073709551616
def AhD (o:Ow):Prop:=DR o.BO/\o.lo.size<=1000000
def AhX (o:Op):Prop:=DR o.kind/\DR o.AD/\o.key.size<=1000000/\o.value.size<=1000000/\o.lo.size<=1000000/\o.hi.size<=1000000
theorem TN {p:Prop}:Wk n0 x (λ_=>p):=λ_ _ _ _ _ _ _ h _=>h
theorem AbJ :SC n0 x (.func (.func 258) #[.pointer (some ⟨x,0,none⟩)] #[]) (Value.int .u64) Bv (λy _=>DR y):=by
 intro y w s bs h h0 hD hb K hK;refine Tl (by kernel_rfl) ?_;exact Abf y hD.2 h h0 hb hK
theorem Ac5 :SC n0 x (.func (.func 254) #[.pointer (some ⟨x,0,none⟩)] #[]) Mj.v WT (λy _=>AhD y):=by
 intro y w s bs h h0 hD hb K hK;refine Tl (by kernel_rfl) ?_;refine IT _ _ _ ?_;unfold Gj;dsimp only[Li,Ls,Vi,Vp,Vt];refine Ad λa w1 h1 n1 k1=>?_;have g1:=h.Ab k1;have z1:=Nat.le_trans h0 k1.size;obtain⟨na,ns⟩:=h.new n1;unfold WT at hb hK;rw[<-List.append_assoc]at hb hK;simp only[sb,h1];refine Tj _ hD.2 g1 z1 (CR hb) λs2 w2 g2 e2=>?_;obtain⟨h2,_⟩:=e2.at g1 h1 na ns;simp only[sb,h2];refine Yx _ hD.1 g2 (Nat.le_trans z1 e2.kp.size) hb λs3 w3 g3 e3=>?_;exact hK s3 w3 g3 ((WE.k0 k1).trans (e2.trans e3))
theorem Aek (lo hi:ByteArray)(hl:lo.size<=1000000)(hh:hi.size<=1000000){n0:Nat}{w:World}{x:Nat}{s:Sl}{bs:List UInt8}(h:WR n0 w x s bs)(h0:n0<=w.heap.size)(hb:(bs++(Cd lo++Cd hi)).length<=TA){K:TR []->Pr}(k:∀s' w',WR n0 w' x s' (bs++(Cd lo++Cd hi))->WE w x s w' s'->K () w'):Cl Pg 259 [.pointer (some ⟨x,0,none⟩),.agg #[.string lo,.string hi]] true [] K w:=by
 refine Kr _ _ _ ?_;unfold Ha;dsimp only[Ls,Vp,Vt];refine Ad λa w1 h1 n1 k1=>?_;have g1:=h.Ab k1;have z1:=Nat.le_trans h0 k1.size;obtain⟨na,ns⟩:=h.new n1;rw[<-List.append_assoc]at hb k;simp only[sb,h1];refine Tj _ hl g1 z1 (CR hb) λs2 w2 g2 e2=>?_;obtain⟨h2,_⟩:=e2.at g1 h1 na ns;simp only[sb,h2];refine Tj _ hh g2 (Nat.le_trans z1 e2.kp.size) hb λs3 w3 g3 e3=>?_;exact k s3 w3 g3 ((WE.k0 k1).trans (e2.trans e3))
set_option maxHeartbeats 1000000 in
theorem Aig :SC n0 x (.func (.func 291) #[.pointer (some ⟨x,0,none⟩)] #[]) BQ.v Uh (λy _=>AhX y):=by
 intro y w s bs h h0 hD hb K hK;obtain⟨d1,d2,d3,d4,d5,d6⟩:=hD;refine Tl (by kernel_rfl) ?_;refine Ml _ _ _ _ _ _ _ ?_;unfold JR;dsimp only[Ar,As4,Li,Ls,Vi,Vp,Vt];refine Ad λa w1 h1 n1 k1=>?_;have g1:=h.Ab k1;have z1:=Nat.le_trans h0 k1.size;obtain⟨na,ns⟩:=h.new n1;unfold Uh at hb hK;simp only[<-List.append_assoc]at hb hK;have b5:=CR hb;have b4:=CR b5;have b3:=CR b4;have b2:=CR b3;have b1:=CR b2;simp only[sb,h1];refine Yx _ d1 g1 z1 b1 λs2 w2 g2 e2=>?_;obtain⟨h2,ns2⟩:=e2.at g1 h1 na ns;have z2:=Nat.le_trans z1 e2.kp.size;simp only[sb,h2];refine Ad λc w3 h3 n3 k3=>?_;have g3:=g2.Ab k3;have z3:=Nat.le_trans z2 k3.size;obtain⟨nc,nsc⟩:=g2.new n3;have h23:=k3.Aw h2;have at4:∀(w':World),w'.heap[c]?=some (.cells #[.string y.key,.string y.value,.string y.lo,.string y.hi] 9 (0,0))->∀(i:Nat) (t:ByteArray),[y.key,y.value,y.lo,y.hi][i]?=some t->∀{K:ByteArray->Pr},K t w'->Ix ⟨some ⟨c,0,none⟩,4,4⟩ (i:Int) 1 (λa=>BU a K) w':=by
  intro w' hw i t ht K hK;have hi:i<4:=(List.getElem?_eq_some_iff.1 ht).1;refine Aai (b:=c) (o:=0) rfl hi 1 ?_;rw[Nat.zero_add,Nat.mul_one];refine DO (k:=.s) (x:=t) ?_ hK;rw[Ci,hw];have:i=0\/i=1\/i=2\/i=3:=by omega
  rcases this with rfl|rfl|rfl|rfl<;>(simp at ht;subst ht;rfl)
 have pre:∀i≤4,(bs++Bv y.kind++([y.key,y.value,y.lo,y.hi].take i).flatMap Cd).length<=TA:=by
  intro i hi;have:i=0\/i=1\/i=2\/i=3\/i=4:=by omega
  simp only[List.length_append]at *;rcases this with rfl|rfl|rfl|rfl|rfl<;>simp<;>omega
 refine⟨λm st w'=>∃(i:Nat) (s':Sl),st=((i:Int),())/\m=4-i/\i<=4/\WR n0 w' x s' (bs++Bv y.kind++([y.key,y.value,y.lo,y.hi].take i).flatMap Cd)/\WE w3 x s2 w' s',⟨_,0,s2,rfl,rfl,by omega,by simpa using g3,WE.k0 (Aa.refl _ _)⟩,?_⟩;rintro m _ w4 ⟨i,s4,rfl,rfl,hi,g4,e4⟩;obtain⟨hc4,nsc4⟩:=e4.at g3 h3 nc nsc;obtain⟨h4,ns4⟩:=e4.at g3 h23 na ns2;have z4:=Nat.le_trans z3 e4.kp.size;dsimp only;by_cases hlt:i<4
 ·rw[decide_eq_true (by omega)];simp only[Af];obtain⟨t,ht⟩:∃t,[y.key,y.value,y.lo,y.hi][i]?=some t:=⟨_,List.getElem?_eq_getElem hlt⟩;have htk:([y.key,y.value,y.lo,y.hi].take (i+1)).flatMap Cd=([y.key,y.value,y.lo,y.hi].take i).flatMap Cd++Cd t:=by rw[List.take_add_one,ht,List.flatMap_append];simp
  have hts:t.size<=1000000:=by
   have hm:=List.mem_of_getElem? ht;simp only[List.mem_cons,List.not_mem_nil,or_false]at hm;rcases hm with rfl|rfl|rfl|rfl<;>assumption
  have hp:=pre (i+1) (by omega);rw[htk,<-List.append_assoc]at hp;refine at4 w4 hc4 i t ht ?_;refine Tj t hts g4 z4 hp λs5 w5 g5 e5=>?_;refine⟨4-(i+1),by omega,i+1,s5,by rw[AK (by omega)],rfl,by omega,?_,e4.trans e5⟩;rw[htk,<-List.append_assoc];exact g5
 ·rw[decide_eq_false (by omega)];simp only[sb,h4];rw[List.take_of_length_le (by simp;omega)]at g4;have g4:WR n0 w4 x s4 (bs++Bv y.kind++Cd y.key++Cd y.value++Cd y.lo++Cd y.hi):=by simpa using g4
  refine Yx _ d2 g4 z4 hb λs5 w5 g5 e5=>?_;exact hK s5 w5 g5 ((WE.k0 k1).trans (e2.trans ((WE.k0 k3).trans (e4.trans e5))))
theorem Af7 (hx:n0<=x):SC n0 x (.func (.func 256) #[.pointer (some ⟨x,0,none⟩)] #[]) Fo.v AbD (λy w=>DR y.Ah/\(∀o∈y.ops,AhX o)/\y.ops.length<=100000/\A1 BQ w y.so y.ops/\∀b∈rb y.so,b<n0):=by
 intro y w s bs h h0 hD hb K hK;obtain⟨d1,d2,d3,d4,d5⟩:=hD;refine Tl (by kernel_rfl) ?_;refine JU _ _ y.so ?_;unfold HI;dsimp only[Ll,Lu,Vp,Vs,Vu];refine Ad λa w1 h1 n1 k1=>?_;have g1:=h.Ab k1;have z1:=Nat.le_trans h0 k1.size;obtain⟨na,ns⟩:=h.new n1;unfold AbD at hb hK;rw[<-List.append_assoc]at hb hK;simp only[sb,h1];refine Abf _ d1.2 g1 z1 (CR hb) λs2 w2 g2 e2=>?_;obtain⟨h2,_⟩:=e2.at g1 h1 na ns;have z2:=Nat.le_trans z1 e2.kp.size;simp only[sb,h2];have off:=Np (ρ:=BQ) (l:=y.ops) hx d5;refine Adj g2 z2 (off _ _ _ _ _ g1 z1 (d4.Ab k1) e2) off Aig d2 (λo ho=>TN) (by omega) hb λs3 w3 g3 e3=>?_;exact hK s3 w3 g3 ((WE.k0 k1).trans (e2.trans e3))
theorem XH (l:List Int):l.flatMap HL.c=l.map (Value.int .u64):=by
 induction l with
 |nil=>rfl
 |cons a l ih=>exact congrArg (Value.int .u64 a :: ·) ih
theorem AdM {c:Nat}{t:TypeId}{fr:Nat×Nat}{l:List Int}(h:w.heap[c]?=some (.cells (l.map (Value.int .u64)).toArray t fr)):A1 HL w ⟨some ⟨c,0,none⟩,l.length,l.length⟩ l:=by
 refine⟨⟨by rw[AP HL.len],λj v hj=>⟨⟨c,0,none⟩,rfl,?_⟩⟩,Nat.le_refl _⟩;rw[Aif,Ci,h];rw[XH]at hj;show(l.map (Value.int .u64)).toArray[j]?=some v;rw[List.getElem?_toArray];exact hj
theorem Abl {s:Sl}(h:WR n0 w x s bs)(h0:n0<=w.heap.size){l:List Int}{c:Nat}{t:TypeId}(hc:w.heap[c]?=some (.cells (l.map (Value.int .u64)).toArray t (0,0)))(nc:c≠x)(nsc:c∉Ai s){n:Nat}(hn:n=l.length)(hD:∀y∈l,DR y)(hN:l.length<=1000000)(hb:(bs++l.flatMap Bv).length<=TA){K:TR []->Pr}(k:∀s' w',WR n0 w' x s' (bs++l.flatMap Bv)->WE w x s w' s'->K () w'):Cl Pg 252 [.pointer (some ⟨x,0,none⟩),.slice (some ⟨c,0,none⟩) n n] true [] K w:=by
 subst hn;refine Js _ ⟨some ⟨c,0,none⟩,l.length,l.length⟩ ?_;unfold Hu;dsimp only[Vp,Vs];refine Eo _ ⟨some ⟨c,0,none⟩,l.length,l.length⟩ _ ?_;unfold Eb;dsimp only[Vu];refine⟨λn st w'=>∃(i:Nat) (s':Sl),st=((i:Int),())/\n=l.length-i/\i<=l.length/\WR n0 w' x s' (bs++(l.take i).flatMap Bv)/\WE w x s w' s',⟨_,0,s,rfl,rfl,by omega,by simpa using h,WE.k0 (Aa.refl _ _)⟩,?_⟩;rintro n _ w1 ⟨i,s1,rfl,rfl,hi,h1,e1⟩;obtain⟨hc1,_⟩:=e1.at h hc nc nsc;have z1:=Nat.le_trans h0 e1.kp.size;dsimp only;by_cases hlt:i<l.length
 ·rw[decide_eq_true (by omega)];simp only[Af];obtain⟨y,hy⟩:∃y,l[i]?=some y:=⟨_,List.getElem?_eq_getElem hlt⟩;have hym:=List.mem_of_getElem? hy;have htk:(l.take (i+1)).flatMap Bv=(l.take i).flatMap Bv++Bv y:=by rw[List.take_add_one,hy,List.flatMap_append];simp
  have hbb:(bs++(l.take i).flatMap Bv++Bv y).length<=TA:=by
   have e:l.flatMap Bv=(l.take (i+1)).flatMap Bv++(l.drop (i+1)).flatMap Bv:=by rw[<-List.flatMap_append,List.take_append_drop]
   rw[e,htk]at hb;simp only[List.length_append]at hb ⊢;omega
  refine ldn (AdM hc1) hy ?_;refine AbJ y w1 s1 _ h1 z1 (hD y hym) hbb _ ?_;intro s3 w3 h3 e3;refine⟨l.length-(i+1),by omega,i+1,s3,by rw[AK (by omega)],rfl,by omega,?_,e1.trans e3⟩;rw[htk,<-List.append_assoc];exact h3
 ·rw[decide_eq_false (by omega)];rw[List.take_of_length_le (by omega)]at h1;exact k s1 w1 h1 e1
open Go Go.Sx
def Y2 (h:PH):List UInt8:=Bv h.Ah++(Bv (h.ops.length:Int)++h.ops.flatMap Uh)
def AcB (c:Sc)(Ac:List Ow)(held:List PH)(fin:List Int):List UInt8:=
 [83]++[c.id,c.Au,c.CZ,c.Ao,c.move].flatMap Bv++(Bv (Ac.length:Int)++Ac.flatMap WT)++(Bv (held.length:Int)++held.flatMap Y2)++(Bv (fin.length:Int)++fin.flatMap Bv)++[c.low,c.frozen].flatMap Bv++(Cd c.Qk++Cd c.MS)++[c.AJ,c.CD,c.Bo].flatMap Bv++(Cd c.Ph++Cd c.Qq)
structure ScR (c:Sc):Prop where
 Au:DR c.Au
 CZ:DR c.CZ
 Ao:DR c.Ao
 move:DR c.move
 low:DR c.low
 frozen:DR c.frozen
 AJ:DR c.AJ
 CD:DR c.CD
 Bo:DR c.Bo
theorem Wl:∀{l:List Ow} {p:ByteArray},Qd p l=true->∀o∈l,AhD o/\o.lo.size<=12
 |x::l,p,h,o,ho=>by
  rw[Qd]at h;simp only[Bool.and_eq_true,decide_eq_true_iff]at h;obtain⟨⟨⟨h1,h2⟩,h3,h4⟩,h5⟩:=h;rcases List.mem_cons.1 ho with rfl|ho
  ·have:=(Pc h3).2;exact⟨⟨⟨by omega,by omega⟩,by omega⟩,this⟩
  ·exact Wl h5 o ho
variable {l:List Ow}
theorem WX (h:Be l=true):(∀o∈l,AhD o/\o.lo.size<=12)/\l.length<=6:=by
 cases l with
 |nil=>cases h
 |cons x l=>
  rw[Be]at h;simp only[Bool.and_eq_true,decide_eq_true_iff]at h;obtain⟨⟨⟨⟨h1,h2⟩,h3⟩,h4⟩,h5⟩:=h;refine⟨λo ho=>?_,by simp;omega⟩;rcases List.mem_cons.1 ho with rfl|ho
  ·rw[seq_eq,decide_eq_true_iff]at h1;have:o.lo.size=0:=by rw[h1];rfl
   exact⟨⟨⟨by omega,by omega⟩,by omega⟩,by omega⟩
  ·exact Wl h4 o ho
theorem Aa3 {a b:ByteArray}(h:Da a b=true):a.size<=12/\b.size<=12:=QW h
theorem AaJ {a:ByteArray}(h:seq a (BA [])=true):a.size=0:=by
 rw[seq_eq,decide_eq_true_iff]at h;rw[h];rfl
variable {o:Op}
theorem Afh (h:ER o=0):AhX o/\o.key.size<=12/\o.value.size<=16/\o.lo.size<=12/\o.hi.size<=12:=by
 unfold ER at h;split at h
 ·cases h
 rename_i h1;split at h
 ·cases h
 rename_i h2;split at h
 ·cases h
 rename_i h3;split at h
 ·cases h
 rename_i h4;split at h
 ·cases h
 rename_i h5;simp only[Bool.or_eq_true,Bool.and_eq_true,Bool.not_eq_true',decide_eq_true_iff,not_or,not_and,Bool.not_eq_false,Bool.not_eq_true,bne_iff_ne,ne_eq,Decidable.not_not]at h1 h2 h3 h4 h5;obtain⟨a1,a2,a3,a4,a5⟩:=h1;have hk:=PZ a1;have kr:DR o.kind:=by rcases hk with h|h|h|h|h<;>exact⟨by omega,by omega⟩
 have ks:o.key.size<=12:=by
  cases hf:Fx o.kind with
  |true=>exact(Pc (h2 hf)).2
  |false=>have:=AaJ (a2 hf);omega
 have rs:o.lo.size<=12/\o.hi.size<=12:=by
  cases hf:FH o.kind with
  |true=>exact Aa3 (h4 hf)
  |false=>
   have:=a4 hf;exact⟨by have:=AaJ this.1;omega,by have:=AaJ this.2.1;omega⟩
 have ms:DR o.AD:=by
  cases hf:FD o.kind with
  |true=>have:=h5 hf;exact⟨by omega,by omega⟩
  |false=>have:=a5 hf;exact⟨by omega,by omega⟩
 exact⟨⟨kr,ms,by omega,by omega,by omega,by omega⟩,ks,by omega,rs.1,rs.2⟩
theorem ID {α:Type}{f:α->List UInt8}{m:Nat}:∀{l:List α},(∀x∈l,(f x).length<=m)->(l.flatMap f).length<=l.length*m
 |[],_=>by simp
 |a::l,h=>by
  rw[List.flatMap_cons,List.length_append,List.length_cons,Nat.succ_mul];have h1:=h a List.mem_cons_self;have h2:=ID (l:=l) λx hx=>h x (List.mem_cons_of_mem _ hx);omega
theorem Cm {n:Int}(h:DR n):(Bv n).length<=10:=Qp h.2
theorem EB (t:ByteArray)(h:t.size<=1000000):(Cd t).length<=10+t.size:=by
 unfold Cd;rw[List.length_append];have:=Qp (n:=(t.size:Int)) (by omega);have:t.data.toList.length=t.size:=by simp
 omega
theorem AdE (h:ER o=0):(Uh o).length<=200:=by
 obtain⟨⟨a,b,_⟩,c,d,e,f⟩:=Afh h;have:=Cm a;have:=Cm b;have:=EB o.key (by omega);have:=EB o.value (by omega);have:=EB o.lo (by omega);have:=EB o.hi (by omega);unfold Uh;simp only[List.length_append];omega
variable {n:Nat}
theorem Ahf (h:n<=1000000):DR (n:Int):=⟨by omega,by omega⟩
structure ShR (c:Sc)(Ac:List Ow)(held:List PH)(fin:List Int):Prop where
 c:ScR c
 Ah:∀h∈held,DR h.Ah
 fin:∀n∈fin,DR n
theorem ZR {c:Sc}{Ac:List Ow}{held:List PH}{fin:List Int}(h:OA c Ac held fin=true):(1<=c.id/\c.id<=4)/\Be Ac=true/\held.length<=6/\held.length+fin.length<=64/\(c.Ph.size<=12/\c.Qq.size<=12)/\(c.Qk.size<=12/\c.MS.size<=12)/\∀x∈held,A9 x.ops=0/\x.ops.length<=24/\x.ops.length≠0/\x.Ah∉fin:=by
 unfold OA at h;simp only[Bool.and_eq_true,Bool.not_eq_true']at h;obtain⟨h1,h2,h3,h4⟩:=h;unfold Xe at h1;simp only[Bool.or_eq_false_iff,decide_eq_false_iff_not,Bool.not_eq_false']at h1;obtain⟨a1,a2,a3,a4,a5,a6,a7⟩:=h1;refine⟨⟨by omega,by omega⟩,a3,by omega,by omega,Aa3 a6,Aa3 a7,λx hx=>?_⟩;unfold W0 at h4;simp only[Bool.and_eq_true,Bool.not_eq_true']at h4;have hb:=List.any_eq_false.1 h4.1 x hx;unfold Y1 at hb;simp only[Bool.or_eq_true,decide_eq_true_iff,not_or,ne_eq,Decidable.not_not,List.contains_iff_mem]at hb;obtain⟨b1,b2,b3,b4⟩:=hb;exact⟨b4,by omega,b1,b3⟩
theorem Aee {x:PH}(ht:DR x.Ah)(ho:A9 x.ops=0)(hl:x.ops.length<=24):(Y2 x).length<=5000:=by
 unfold Y2;have h1:=Cm ht;have h2:=Cm (Ahf (n:=x.ops.length) (by omega));rw[Bu]at ho;have h3:=ID (f:=Uh) (m:=200) λo hm=>AdE (ho o hm);simp only[List.length_append];have:x.ops.length*200<=24*200:=Nat.mul_le_mul_right _ hl;omega
theorem Ag3 {c:Sc}{Ac:List Ow}{held:List PH}{fin:List Int}(hr:ShR c Ac held fin)(h:OA c Ac held fin=true):(AcB c Ac held fin).length<=100000:=by
 obtain⟨a1,a2,a3,a4,a5,a6,a7⟩:=ZR h;obtain⟨o1,o2⟩:=WX a2;have l1:=ID (f:=Bv) (m:=10) (l:=[c.id,c.Au,c.CZ,c.Ao,c.move]) (by
  intro x hx;simp only[List.mem_cons,List.not_mem_nil,or_false]at hx;rcases hx with rfl|rfl|rfl|rfl|rfl
  ·exact Qp (by omega)
  ·exact Cm hr.c.Au
  ·exact Cm hr.c.CZ
  ·exact Cm hr.c.Ao
  ·exact Cm hr.c.move)
 have l2:=ID (f:=Bv) (m:=10) (l:=[c.low,c.frozen]) (by
  intro x hx;simp only[List.mem_cons,List.not_mem_nil,or_false]at hx;rcases hx with rfl|rfl
  ·exact Cm hr.c.low
  ·exact Cm hr.c.frozen)
 have l3:=ID (f:=Bv) (m:=10) (l:=[c.AJ,c.CD,c.Bo]) (by
  intro x hx;simp only[List.mem_cons,List.not_mem_nil,or_false]at hx;rcases hx with rfl|rfl|rfl
  ·exact Cm hr.c.AJ
  ·exact Cm hr.c.CD
  ·exact Cm hr.c.Bo)
 have l4:=ID (f:=WT) (m:=40) (l:=Ac) (by
  intro x hx;obtain⟨⟨h1,_⟩,h2⟩:=o1 x hx;have:=Cm h1;have:=EB x.lo (by omega);unfold WT;rw[List.length_append];omega)
 have l5:=ID (f:=Y2) (m:=5000) (l:=held) λx hx=>Aee (hr.Ah x hx) (a7 x hx).1 (a7 x hx).2.1;have l6:=ID (f:=Bv) (m:=10) (l:=fin) λx hx=>Cm (hr.fin x hx);have m4:Ac.length*40<=6*40:=Nat.mul_le_mul_right _ o2;have m5:held.length*5000<=6*5000:=Nat.mul_le_mul_right _ a3;have m6:fin.length*10<=64*10:=Nat.mul_le_mul_right _ (by omega);have n1:=Cm (Ahf (n:=Ac.length) (by omega));have n2:=Cm (Ahf (n:=held.length) (by omega));have n3:=Cm (Ahf (n:=fin.length) (by omega));have t1:=EB c.Qk (by omega);have t2:=EB c.MS (by omega);have t3:=EB c.Ph (by omega);have t4:=EB c.Qq (by omega);unfold AcB;simp only[List.length_append,List.length_cons,List.length_nil]at *;omega
theorem Adg (l:List Hd):l.flatMap AbD=(l.map Hd.p).flatMap Y2:=by
 rw[List.flatMap_map];rfl
variable {b:Nat}{v:Value}
theorem AhC {t:TypeId}(h:w.heap[b]?=some (.cells #[v] t (0,0))):AE w ⟨some ⟨b,0,none⟩,1,1⟩ 1 [v]:=
 ⟨rfl,Nat.le_refl _,.inr ⟨b,0,_,_,_,rfl,h,by simp,λj _=>by rw[Nat.zero_add];simp,by simp⟩⟩
variable {d:Sd}
set_option maxHeartbeats 4000000 in
theorem Ji (h:YP d w)(hN:XU d)(hr:ShR d.c d.Ac (d.held.map Hd.p) d.fin){K:TR [.sc .sl,.sc (.i .i64)]->Pr}(k1:OA d.c d.Ac (d.held.map Hd.p) d.fin=true->∀r w',AE w' r 1 (cB (AcB d.c d.Ac (d.held.map Hd.p) d.fin))->(∀b∈Ai r,w.heap.size<=b)->Aa [] w w'->K (r,0,()) w')(k2:OA d.c d.Ac (d.held.map Hd.p) d.fin=false->∀w',Aa [] w w'->K (⟨none,0,0⟩,1,()) w'):Cl Pg 187 [.agg (shA d)] true [.sc .sl,.sc (.i .i64)] K w:=by
 refine Jy _ _ _ _ _ d.so d.sh d.sf _ _ _ _ _ _ _ _ _ ?_;unfold Hh;dsimp only[Al,Au3,Akq,Az,Ll,Ls,Lu,Lu3,Vp,Vs,Vt,Vu];refine Ad λa w1 h1 n1 q1=>?_;simp only[sb,h1];refine Lt (d:=d) (h.Ab q1) hN λw2 q2=>?_;have q02:=Aj q1 q2;have h2:=q2.Aw h1;cases hok:OA d.c d.Ac (d.held.map Hd.p) d.fin with
 |false=>exact k2 hok w2 q02
 |true=>
  have k1:=k1 hok;obtain⟨a1,a2,a3,a4,a5,a6,a7⟩:=ZR hok;obtain⟨o1,o2⟩:=WX a2;have hbig:=Ag3 hr hok;have hlen:(d.held.map Hd.p).length=d.held.length:=List.length_map _;simp only[if_true,show((0:Int) !=0)=false from rfl,Ae];refine Ad λb w3 h3 n3 q3=>?_;refine Ad λx w4 h4 n4 q4=>?_;have n0:w.heap.size<=w2.heap.size:=q02.size;have r4:WR w.heap.size w4 x ⟨some ⟨b,0,none⟩,1,1⟩ [83]:=by
   refine⟨h4,AhC (q4.Aw h3),?_,by have:=q3.size;omega,?_⟩
   ·intro hb;simp[Ai,OT]at hb;have:=Av h3;omega
   ·intro c hc;simp[Ai,OT]at hc;omega
  have z4:w.heap.size<=w4.heap.size:=by have:=q3.size;have:=q4.size;omega
  have q04:=Aj q02 (Aj q3 q4);have a4':=(Aj q3 q4).Aw h2;have lta:a<w2.heap.size:=Av h2;have nx:a≠x:=by have:=q3.size;omega
  have ns:a∉Ai (⟨some ⟨b,0,none⟩,1,1⟩:Sl):=λhb=>by simp[Ai,OT]at hb;omega
  have off_ow:=Np (ρ:=Mj) (x:=x) (l:=d.Ac) r4.nx h.ow.lt;have off_he:=Np (ρ:=Fo) (x:=x) (l:=d.held) r4.nx h.he.lt;have off_fi:=Np (ρ:=HL) (x:=x) (l:=d.fin) r4.nx h.fi.lt;unfold AcB at hbig k1;rw[hlen,<-Adg]at hbig k1;have b9:([83]++[d.c.id,d.c.Au,d.c.CZ,d.c.Ao,d.c.move].flatMap Bv++(Bv (d.Ac.length:Int)++d.Ac.flatMap WT)++(Bv (d.held.length:Int)++d.held.flatMap AbD)++(Bv (d.fin.length:Int)++d.fin.flatMap Bv)++[d.c.low,d.c.frozen].flatMap Bv++(Cd d.c.Qk++Cd d.c.MS)++[d.c.AJ,d.c.CD,d.c.Bo].flatMap Bv++(Cd d.c.Ph++Cd d.c.Qq)).length<=TA:=Nat.le_trans hbig (by decide);have b8:=CR b9;have b7:=CR b8;have b6:=CR b7;have b5:=CR b6;have b4:=CR b5;have b3:=CR b4;have b2:=CR b3;clear hbig;have wid:IntKind.u64.wrap d.c.id=d.c.id:=by
   have:=B1 (n:=d.c.id.toNat) (by omega);rw[Int.toNat_of_nonneg (by omega)]at this;exact this
  simp only[sb,a4',wid];refine Ad λc5 w5 h5 n5 q5=>?_;have r5:=r4.Ab q5;obtain⟨nc5,ns5⟩:=r4.new n5;refine Abl (l:=[d.c.id,d.c.Au,d.c.CZ,d.c.Ao,d.c.move]) r5 (Nat.le_trans z4 q5.size) h5 nc5 ns5 rfl ?_ (by simp) b2 ?_
  ·intro y hy;simp only[List.mem_cons,List.not_mem_nil,or_false]at hy;rcases hy with rfl|rfl|rfl|rfl|rfl
   ·exact⟨by omega,by omega⟩
   ·exact hr.c.Au
   ·exact hr.c.CZ
   ·exact hr.c.Ao
   ·exact hr.c.move
  intro s6 w6 r6 e6';have e6:WE w4 x _ w6 s6:=(WE.k0 q5).trans e6';have z6:=Nat.le_trans z4 e6.kp.size;obtain⟨a6',_⟩:=e6.at r4 a4' nx ns;simp only[sb,a6'];refine Yj r6 z6 (off_ow _ _ _ _ _ r4 z4 (h.ow.Ab q04) e6) off_ow Ac5 (λy hy=>(o1 y hy).1) (λy hy=>TN) (by omega) b3 ?_;intro s7 w7 r7 e7';have e7:=e6.trans e7';have z7:=Nat.le_trans z4 e7.kp.size;obtain⟨a7',_⟩:=e7.at r4 a4' nx ns;simp only[sb,a7'];refine ZC r7 z7 (off_he _ _ _ _ _ r4 z4 (h.he.Ab q04) e7) off_he (Af7 r4.nx) (λy hy=>?_) (λy hy w w' s s' bs h h0 hD e=>⟨hD.1,hD.2.1,hD.2.2.1,Np (ρ:=BQ) r4.nx hD.2.2.2.2 _ _ _ _ _ h h0 hD.2.2.2.1 e,hD.2.2.2.2⟩) (by omega) b4 ?_
  ·have hy':y.p∈d.held.map Hd.p:=List.mem_map.2 ⟨y,hy,rfl⟩;obtain⟨c1,c2,_⟩:=a7 y.p hy';have hlt:=(h.hd y hy).lt;rw[Bu]at c1;exact⟨hr.Ah y.p hy',λo ho=>(Afh (c1 o ho)).1,Nat.le_trans c2 (by omega),Np (ρ:=BQ) r4.nx hlt _ _ _ _ _ r4 z4 ((h.hd y hy).Ab q04) e7,hlt⟩
  intro s8 w8 r8 e8';have e8:=e7.trans e8';have z8:=Nat.le_trans z4 e8.kp.size;obtain⟨a8',_⟩:=e8.at r4 a4' nx ns;simp only[sb,a8'];refine VG r8 z8 (off_fi _ _ _ _ _ r4 z4 (h.fi.Ab q04) e8) off_fi AbJ (λy hy=>hr.fin y hy) (λy hy=>TN) (by omega) b5 ?_;intro s9 w9 r9 e9';have e9:=e8.trans e9';have z9:=Nat.le_trans z4 e9.kp.size;obtain⟨a9',_⟩:=e9.at r4 a4' nx ns;simp only[sb,a9'];refine Ad λc10 w10 Q8 n10 q10=>?_;have r10:=r9.Ab q10;obtain⟨nc10,ns10⟩:=r9.new n10;refine Abl (l:=[d.c.low,d.c.frozen]) r10 (Nat.le_trans z9 q10.size) Q8 nc10 ns10 rfl ?_ (by simp) b6 ?_
  ·intro y hy;simp only[List.mem_cons,List.not_mem_nil,or_false]at hy;rcases hy with rfl|rfl
   ·exact hr.c.low
   ·exact hr.c.frozen
  intro s11 w11 r11 e11';have e11:=e9.trans ((WE.k0 q10).trans e11');have z11:=Nat.le_trans z4 e11.kp.size;obtain⟨a11',_⟩:=e11.at r4 a4' nx ns;simp only[sb,a11',A5,Nat.reduceAdd];refine Aek _ _ (by omega) (by omega) r11 z11 b7 ?_;intro s12 w12 r12 e12';have e12:=e11.trans e12';have z12:=Nat.le_trans z4 e12.kp.size;obtain⟨a12',_⟩:=e12.at r4 a4' nx ns;simp only[sb,a12',A5,Nat.reduceAdd];refine Ad λc13 w13 h13 n13 q13=>?_;have r13:=r12.Ab q13;obtain⟨nc13,ns13⟩:=r12.new n13;refine Abl (l:=[d.c.AJ,d.c.CD,d.c.Bo]) r13 (Nat.le_trans z12 q13.size) h13 nc13 ns13 rfl ?_ (by simp) b8 ?_
  ·intro y hy;simp only[List.mem_cons,List.not_mem_nil,or_false]at hy;rcases hy with rfl|rfl|rfl
   ·exact hr.c.AJ
   ·exact hr.c.CD
   ·exact hr.c.Bo
  intro s14 w14 r14 e14';have e14:=e12.trans ((WE.k0 q13).trans e14');have z14:=Nat.le_trans z4 e14.kp.size;obtain⟨a14',_⟩:=e14.at r4 a4' nx ns;simp only[sb,a14',A5,Nat.reduceAdd];refine Aek _ _ (by omega) (by omega) r14 z14 b9 ?_;intro s15 w15 r15 e15';have e15:=e14.trans e15';simp only[sb,r15.hd];refine k1 s15 w15 r15.row r15.nb (q04.trans e15.kp λy hy=>.inr ?_);rcases List.mem_cons.1 hy with rfl|hy
  ·exact r4.nx
  ·exact r4.nb y hy
def Pv (c:Sc)(o:List Ow)(h:List PH)(f:List Int)(c':Sc)(o':List Ow)(h':List PH)(f':List Int):Bool:=OA c o h f&&(OA c' o' h' f'&&seq ⟨(AcB c o h f).toArray⟩ ⟨(AcB c' o' h' f').toArray⟩)
set_option maxHeartbeats 2000000 in
theorem AdT {e:Sd}(h:YP d w)(hN:XU d)(hr:ShR d.c d.Ac (d.held.map Hd.p) d.fin)(h':YP e w)(hN':XU e)(hr':ShR e.c e.Ac (e.held.map Hd.p) e.fin){K:TR [.sc .b]->Pr}(k:∀w',Aa [] w w'->K (Pv d.c d.Ac (d.held.map Hd.p) d.fin e.c e.Ac (e.held.map Hd.p) e.fin,()) w'):Cl Pg 82 [.agg (shA d),.agg (shA e)] false [.sc .b] K w:=by
 refine Vl _ _ _ _ _ d.so d.sh d.sf _ _ _ _ _ _ _ _ _ _ _ _ _ _ e.so e.sh e.sf _ _ _ _ _ _ _ _ _ ?_;unfold W3;dsimp only[Al,Az];refine Ad λa w1 h1 n1 k1=>?_;refine Ad λb w2 h2 n2 k2=>?_;have h1:=k2.Aw h1;have k02:=Aj k1 k2;unfold Pv at k;simp only[sb,h1];refine Ji (d:=d) (h.Ab k02) hN hr (λhok r1 w3 h3 f3 k3=>?_) (λhok w3 k3=>?_)
 ·have h23:=k3.Aw h2;have k03:=Aj k02 k3;rw[hok,Bool.true_and]at k;simp only[sb,h23];refine Ji (d:=e) (h'.Ab k03) hN' hr' (λhok' r2 w4 h4 f4 k4=>?_) (λhok' w4 k4=>?_)
  ·rw[hok',Bool.true_and]at k;simp only[show((0:Int)==0)=true from rfl,Af];refine TC (h3.keeps k4 (by simp)).rdb ?_;refine TC h4.rdb ?_;exact k w4 (Aj k03 k4)
  ·rw[hok',Bool.false_and]at k;exact k w4 (Aj k03 k4)
 ·have h23:=k3.Aw h2;have k03:=Aj k02 k3;rw[hok,Bool.false_and]at k;simp only[sb,h23];refine Ji (d:=e) (h'.Ab k03) hN' hr' (λhok' r2 w4 h4 f4 k4=>?_) (λhok' w4 k4=>?_)
  ·exact k w4 (Aj k03 k4)
  ·exact k w4 (Aj k03 k4)
open Go Go.Sx
def CG (k:Nat)(T:Nat->Nat):Nat->Nat:=λb=>if T b=k then 0 else T b
variable {k:Nat}{T:Nat->Nat}
theorem A8 (h:T b=0):CG k T b=0:=by unfold CG;split<;>first|rfl|exact h
theorem AS {j:Nat}(hj:j≠k)(h:T b=j):CG k T b=j:=by unfold CG;rw[if_neg (by rw[h];exact hj)];exact h
theorem Aa1 (h:T b=k):CG k T b=0:=if_pos h
theorem XN (h:CG k T b≠0):T b≠0:=λh0=>h (A8 h0)
theorem Aq.off (hk:k≠0/\k<11){T:Nat->Nat}{w:World}:Aq T (CG k T) w w:=⟨A4.refl _ _,λ_ _ h=>by unfold CG;rw[if_neg (by omega)]⟩
theorem SI {ρ:Rec α}{j:Nat}:FV T j (·∈Ai (⟨none,0,0⟩:Sl)) (λw=>Bh ρ w ⟨none,0,0⟩ []) w:=.of (AE.nil _ _) (by simp[Ai])
theorem Rest.AjS {X:Co}(h:Rest w T X):Rest w (CG 6 T) {X with Er:=⟨none,0,0⟩,out:=[]}:=
 ⟨h.ow.drop λ_=>A8,h.he.drop (λ_=>A8) (λ_=>AS (by decide)),λx hx=>(h.Ro x hx).drop λ_=>A8,h.fi.drop (λ_=>A8) (λ_=>AS (by decide)),h.wa.drop (λ_=>A8) (λ_=>AS (by decide)),λx hx=>(h.Ss x hx).drop λ_=>A8,h.ta.drop (λ_=>A8) (λ_=>AS (by decide)),SI,by simp,h.wr.drop (λ_=>A8) (λ_=>AS (by decide)),h.li.drop (λ_=>A8) (λ_=>AS (by decide)),h.bo.drop (λ_=>A8) (λ_=>AS (by decide)),h.ro.drop (λ_=>A8) (λ_=>AS (by decide)),h.lo.drop λ_=>A8,h.RF.drop (λ_=>A8) (λ_=>AS (by decide)),λb hb=>h.bd b (XN hb)⟩
theorem Rest.Aj1 {X:Co}(h:Rest w T X):Rest w (CG 7 T) {X with Nv:=⟨none,0,0⟩,writes:=[]}:=
 ⟨h.ow.drop λ_=>A8,h.he.drop (λ_=>A8) (λ_=>AS (by decide)),λx hx=>(h.Ro x hx).drop λ_=>A8,h.fi.drop (λ_=>A8) (λ_=>AS (by decide)),h.wa.drop (λ_=>A8) (λ_=>AS (by decide)),λx hx=>(h.Ss x hx).drop λ_=>A8,h.ta.drop (λ_=>A8) (λ_=>AS (by decide)),h.ou.drop (λ_=>A8) (λ_=>AS (by decide)),λx hx=>(h.Wp x hx).drop λ_=>A8,SI,h.li.drop (λ_=>A8) (λ_=>AS (by decide)),h.bo.drop (λ_=>A8) (λ_=>AS (by decide)),h.ro.drop (λ_=>A8) (λ_=>AS (by decide)),h.lo.drop λ_=>A8,h.RF.drop (λ_=>A8) (λ_=>AS (by decide)),λb hb=>h.bd b (XN hb)⟩
def MI (so sw:Sl)(out:List Mg)(writes:List Op)(w:World):Prop:=A1 Yz w so out/\(∀x∈out,Su x w)/\A1 BQ w sw writes
theorem AiG {X:Co}(h:Rest w T X):Bq (CG 7 (CG 6 T)) (MI X.Er X.Nv X.out X.writes) w:=by
 have h6:Bq (CG 7 (CG 6 T)) (λw=>Bh Yz w X.Er X.out) w:=h.ou.AcO (λb hb=>A8 (A8 hb)) (λb hb=>A8 (Aa1 hb));have h7:Bq (CG 7 (CG 6 T)) (λw=>Bh BQ w X.Nv X.writes) w:=h.wr.AcO (λb hb=>A8 (A8 hb)) (λb hb=>Aa1 (AS (by decide) hb));refine⟨⟨h6.ok.C6,λx hx=>(h.Wp x hx).ok,h7.ok.C6⟩,λw' hs hw=>⟨(h6.st w' hs hw).C6,λx hx=>((h.Wp x hx).drop λb hb=>A8 (A8 hb)).st w' hs hw,(h7.st w' hs hw).C6⟩⟩
variable {m:Nat}{X:Mc}
theorem Td (h:A6 w m T X){K:Pr}(k:∀w',A6 w' m (CG 7 (CG 6 T)) {X with c:={X.c with HA:=false},d:={X.d with Er:=⟨none,0,0⟩,out:=[],Nv:=⟨none,0,0⟩,writes:=[]}}->Bq (CG 7 (CG 6 T)) (MI X.d.Er X.d.Nv X.d.out X.d.writes) w'->Aq T (CG 7 (CG 6 T)) w w'->K w'):
  (St ⟨m,21,none⟩ (.slice none 0 0)<|St ⟨m,22,none⟩ (.slice none 0 0)<|St ⟨m,23,none⟩ (.bool false) K) w:=by
 have hI:=AiG h.r;have t1:CG 7 (CG 6 T) m=1:=AS (by decide) (AS (by decide) h.t1);have r0:=h.r.AjS.Aj1;refine Ax h.hd 21 _ rfl (by simp[Bs]) λw1 h1 k1=>?_;refine Ax h1 22 _ rfl (by simp[Bs]) λw2 h2 k2=>?_;refine Ax h2 23 _ rfl (by simp[Bs]) λw3 h3 k3=>?_;have kk:Aa [m] w w3:=(k1.trans k2 (λ_ hx=>.inl hx)).trans k3 (λ_ hx=>.inl hx);have s:CH 1 (CG 7 (CG 6 T)) (CG 7 (CG 6 T)) w w3:=⟨kk.FY λb hb=>.inl (by simp at hb;rw[hb];exact t1),λ_ _ _=>rfl⟩;have e:Aq T (CG 7 (CG 6 T)) w w3:=((Aq.off (by decide)).trans (Aq.off (by decide))).trans (s.Bm (by decide));refine k w3 ⟨?_,t1,r0.k1 s⟩ (hI.Bm (s.Bm (by decide))) e;rw[h3];simp[Bs]
def Dz (c:Nat)(T:Nat->Nat):Nat->Nat:=λb=>if b=c then 11 else T b
variable {w':World}{T':Nat->Nat}
theorem Rest.kx {X:Co}(h:Rest w T X)(s:CH 11 T T' w w')(hb:∀b,T' b≠0->b<w'.heap.size):Rest w' T' X:=
 ⟨h.ow.kt (by decide) s,h.he.kt (by decide) (by decide) s,λx hx=>(h.Ro x hx).kt (by decide) s,h.fi.kt (by decide) (by decide) s,h.wa.kt (by decide) (by decide) s,λx hx=>(h.Ss x hx).kt (by decide) s,h.ta.kt (by decide) (by decide) s,h.ou.kt (by decide) (by decide) s,λx hx=>(h.Wp x hx).kt (by decide) s,h.wr.kt (by decide) (by decide) s,h.li.kt (by decide) (by decide) s,h.bo.kt (by decide) (by decide) s,h.ro.kt (by decide) (by decide) s,h.lo.kt (by decide) s,h.RF.kt (by decide) (by decide) s,hb⟩
theorem A6.own (h:A6 w m T X)(k:Aa [] w w'){c:Nat}(hc:w.heap.size<=c)(hc':c<w'.heap.size):A6 w' m (Dz c T) X/\CH 11 T (Dz c T) w w'/\Aq T (Dz c T) w w':=by
 have tg:∀b,b<w.heap.size->Dz c T b=T b:=λb hb=>if_neg (by omega);have s:CH 11 T (Dz c T) w w':=⟨k.FY (by simp),λb hb _=>tg b hb⟩;refine⟨⟨k.Aw h.hd,(tg m h.lt).trans h.t1,h.r.kx s λb hb=>?_⟩,s,⟨k.FY (by simp),λb hb _=>tg b hb⟩⟩;unfold Dz at hb;split at hb
 ·rename_i e;rw[e];exact hc'
 ·exact Nat.lt_of_lt_of_le (h.r.bd b hb) k.size
theorem A6.LK (h:A6 w m T X){c:Nat}(hc:T c=11)(k:Aa [c] w w'):A6 w' m T X/\CH 11 T T w w':=by
 have s:CH 11 T T w w':=⟨k.FY λb hb=>.inl (by simp at hb;rw[hb];exact hc),λ_ _ _=>rfl⟩;refine⟨⟨k.Mw h.hd (λe=>by have:=h.t1;rw[e,hc]at this;cases this),h.t1,h.r.kx s λb hb=>Nat.lt_of_lt_of_le (h.r.bd b hb) k.size⟩,s⟩
theorem G8 {w'':World}{l:List Nat}(h:Aq T T' w w')(k:Aa l w' w'')(hl:∀x∈l,w.heap.size<=x):Aq T T' w w'':=
 ⟨h.kp.trans (k.FY (F:=λb=>b∈l) λb hb=>.inl hb) λx hx=>.inr (hl x hx),h.tg⟩
namespace PS
def clear (P:PS):PS:={P with out:=[],writes:=[],c:={P.c with HA:=false}}
def FR (P Q:PS):Bool:=Decidable.decide (0<Q.writes.length)||!Pv P.c P.Ac P.held P.fin Q.c Q.Ac Q.held Q.fin
end PS
theorem Bj.clear {P:PS}(h:Bj P):Bj P.clear:=
 ⟨h.wt,h.hd,h.dj,h.fn,h.tb,h.wv,h.hv,h.mp,h.mn,rfl,by simp[PS.clear],h.er,by have:=h.bd;show 0+P.left<=20000;omega,h.hn,h.fl⟩
def PN (Q:PS):Prop:=Q.Ac.length<=100000/\Q.held.length<=100000/\Q.fin.length<=200000/\∀x∈Q.held,x.ops.length<=100000
theorem PN.sd (h:PN X.p):XU X.sd:=by
 obtain⟨h1,h2,h3,h4⟩:=h;rw[show X.p.held=X.d.held.map Hd.p from rfl,List.length_map]at h2;exact⟨h1,h2,h3,λx hx=>h4 x.p (List.mem_map.2 ⟨x,hx,rfl⟩)⟩
theorem Ajo (X:Mc):X.sd.c=X.p.c/\X.sd.Ac=X.p.Ac/\X.sd.held.map Hd.p=X.p.held/\X.sd.fin=X.p.fin:=⟨rfl,rfl,rfl,rfl⟩
theorem ShR.HA {c:Sc}{o:List Ow}{h:List PH}{f:List Int}(hr:ShR c o h f)(b:Bool):ShR {c with HA:=b} o h f:=⟨⟨hr.c.Au,hr.c.CZ,hr.c.Ao,hr.c.move,hr.c.low,hr.c.frozen,hr.c.AJ,hr.c.CD,hr.c.Bo⟩,hr.Ah,hr.fin⟩
set_option maxHeartbeats 4000000 in
theorem AjW (h:A6 w m T X)(hN:XU X.sd)(hr:ShR X.p.c X.p.Ac X.p.held X.p.fin){f:Value}{Q:PS}(hQ:Q.c.e=0)(hrQ:ShR Q.c Q.Ac Q.held Q.fin)(hNQ:PN Q)(hf:∀(w1:World) (T1:Nat->Nat) (X1:Mc),A6 w1 m T1 X1->X1.p=X.p.clear->DG X X1->Aq T T1 w w1->∀K:TR []->Pr,(∀X2 T2 w2,A6 w2 m T2 X2->X2.p=Q->DG X1 X2->Aq T1 T2 w1 w2->K () w2)->AB Pg f [] true [] K w1){K:TR [.ag [.sl,.sl,.b],.sc (.i .i64)]->Pr}(k:∀so sw out writes X2 T2 w2,A6 w2 m T2 X2->X2.p=Q.clear->out.map Mg.p=Q.out->writes=Q.writes->Bq T2 (MI so sw out writes) w2->DG X X2->Aq T T2 w w2->K ((so,sw,X.p.FR Q,()),0,()) w2):
  Cl Pg 32 [.pointer (some ⟨m,0,none⟩),f] true [.ag [.sl,.sl,.b],.sc (.i .i64)] K w:=by
 refine F6 _ _ ?_;unfold FX;dsimp only[Al,Ux,Vv,Li,Az,Ll,SL,Bf,KV,Tb,Vb,Vi,AQ,LW];refine Ad λa w1 h1 n1 k1=>?_;obtain⟨g1,s1,e1⟩:=h.own k1 n1 (Av h1);generalize hT:Dz a T=T1 at *;have Ta:T1 a=11:=by rw[<-hT];exact if_pos rfl
 simp only[sb,g1.hd,Bs];refine MK (d:=X.sd) g1.shd hN λd w2 hd2 k2=>?_;have g2:=g1.Ab k2;have h2:=k2.Aw h1;refine Ad λb w3 h3 n3 k3=>?_;have g3:=g2.Ab k3;have Tb:T1 b=0:=g2.new n3;refine Ul h3 rfl d λw4 h4 k4=>?_;have k34:Aa [] w2 w4:=BT k3 k4 n3;have g4:=g2.Ab k34;have a4:=k34.Aw h2;have k04:=Aj (Aj k1 k2) k34;have z1:=k1.size;have imD:Bq T1 (YP d) w4:=by
  have q:=hd2;have fr:∀y,w1.heap.size<=y->T1 y=0:=λy hy=>g1.new hy;have ow:=(q.ow.keeps k34 (by simp)).C6;have he:=(q.he.keeps k34 (by simp)).C6;have hh:=λx hx=>((q.hd x hx).keeps k34 (by simp)).C6;have fi:=(q.fi.keeps k34 (by simp)).C6;have rbk:∀{α:Type} {ρ:Rec α} {s:Sl} {l:List α} (hs:Bh ρ w2 s l) (hf:∀y∈Ai s,w1.heap.size<=y),∀y∈rb s,T1 y=0:=λhs hf y hy=>fr y (hf y (hs.rb y hy));exact⟨⟨ow,he,hh,fi⟩,λw' hs hw=>⟨(Bq.of ow (rbk q.ow q.fow)).st w' hs hw,(Bq.of he (rbk q.he q.fhe)).st w' hs hw,λx hx=>(Bq.of (hh x hx) (rbk (q.hd x hx) (q.fhd x hx))).st w' hs hw,(Bq.of fi (rbk q.fi q.ffi)).st w' hs hw⟩⟩
 have dN:XU d:=by
  refine⟨by rw[hd2.Ac];exact hN.1,?_,by rw[hd2.fin];exact hN.2.2.1,λx hx=>?_⟩
  ·have:=congrArg List.length hd2.held;simp only[List.length_map]at this;rw[this];exact hN.2.1
  ·have hm:x.p∈X.sd.held.map Hd.p:=by rw[<-hd2.held];exact List.mem_map.2 ⟨x,hx,rfl⟩
   obtain⟨z,hz,hzx⟩:=List.mem_map.1 hm;have e:z.ops=x.ops:=congrArg PH.ops hzx;rw[<-e];exact hN.2.2.2 z hz
 have dR:ShR d.c d.Ac (d.held.map Hd.p) d.fin:=by rw[hd2.c,hd2.Ac,hd2.held,hd2.fin];exact hr
 have eqS:∀Q':PS,Pv d.c d.Ac (d.held.map Hd.p) d.fin Q'.c Q'.Ac Q'.held Q'.fin=Pv X.p.c X.p.Ac X.p.held X.p.fin Q'.c Q'.Ac Q'.held Q'.fin:=λQ'=>by rw[hd2.c,hd2.Ac,hd2.held,hd2.fin];rfl
 simp only[sb];refine Td g4 λw5 h5 i5 e5=>?_;obtain⟨a5,Ta5⟩:=e5.Ql a4 Ta;obtain⟨b5,Tb5⟩:=e5.at h4 Tb;have D5:=imD.Bm e5;have e05:Aq T _ w w5:=e1.trans ((Aq.k0 (Aj k2 k34)).trans e5);refine hf w5 _ _ h5 rfl ⟨rfl,rfl,rfl⟩ e05 _ ?_;intro X6 T6 w6 h6 q6 x6 e6;obtain⟨a6,Ta6⟩:=e6.Ql a5 Ta5;obtain⟨b6,Tb6⟩:=e6.at b5 Tb5;have D6:=D5.Bm e6;have e06:=e05.trans e6;have c6:X6.c=Q.c:=by rw[<-q6];rfl
 have ee:X6.c.e=0:=by rw[c6];exact hQ
 simp only[sb,h6.hd,Bs,ee,show((0:Int) !=0)=false from rfl,A5,Nat.reduceAdd];refine bx3 rfl rfl rfl rfl λc w7 h7 n7 k7=>?_;obtain⟨g7,s7,e7⟩:=h6.own k7 n7 (Av h7);have a7:=k7.Aw a6;have b7:=k7.Aw b6;generalize hT7:Dz c T6=T7 at *;have Tc:T7 c=11:=by rw[<-hT7];exact if_pos rfl
 have Ta7:T7 a=11:=by rw[<-hT7];unfold Dz;split;rfl;exact Ta6
 have Tb7:T7 b=0:=by rw[<-hT7];unfold Dz;rw[if_neg (by have:=Av b6;omega)];exact Tb6
 simp only[sb];refine Td g7 λw8 h8 i8 e8=>?_;obtain⟨a8,Ta8⟩:=e8.Ql a7 Ta7;obtain⟨b8,Tb8⟩:=e8.at b7 Tb7;obtain⟨c8,Tc8⟩:=e8.Ql h7 Tc;have D8:=(D6.Bm e7).Bm e8;have e08:=(e06.trans e7).trans e8;have hwl:X6.d.writes=Q.writes:=by rw[<-q6];rfl
 have hsl:X6.d.Nv.len=X6.d.writes.length:=i8.ok.2.2.len;have hx6:DG X X6:=⟨x6.BD,x6.sM,x6.bx⟩;have nac:a≠c:=by have:=Av a6;omega
 have zc:w.heap.size<=c:=by have:=e06.kp.size;omega
 generalize hT8:CG 7 (CG 6 T7)=T8 at *;obtain⟨X8,hX8⟩:∃X8:Mc,X8={X6 with c:={X6.c with HA:=false},d:={X6.d with Er:=⟨none,0,0⟩,out:=[],Nv:=⟨none,0,0⟩,writes:=[]}}:=⟨_,rfl⟩;rw[<-hX8]at h8;have q8:X8.p=Q.clear:=by rw[hX8,<-q6];rfl
 have x8:DG X X8:=by rw[hX8];exact⟨x6.BD,x6.sM,x6.bx⟩
 have hout:X6.d.out.map Mg.p=Q.out:=by rw[<-q6];rfl
 clear hf h6 x6 e6 q6 g7 h5;refine AG (λ_ w9=>A6 w9 m T8 X8/\Bq T8 (MI X6.d.Er X6.d.Nv X6.d.out X6.d.writes) w9/\Aa [c] w8 w9/\w9.heap[c]?=some (.cells #[.slice X6.d.Er.p X6.d.Er.len X6.d.Er.cap,.slice X6.d.Nv.p X6.d.Nv.len X6.d.Nv.cap,.bool (X.p.FR Q)] 52 (0,0))) (λJ hJ=>?_) ?_
 ·simp only[sb,c8];have hbm:∀(w9:World) (bv:Bool),Aa [] w8 w9->X.p.FR Q=bv->St ⟨c,2,none⟩ (.bool bv) (J ()) w9:=by
   intro w9 bv k9 hbv;refine Ax (k9.Aw c8) 2 _ rfl (by simp) λw10 c10 k10=>?_;simp only[Ck]at c10;obtain⟨Q8,s10⟩:=(h8.Ab k9).LK Tc8 k10;refine hJ () w10 ⟨Q8,(i8.Ab k9).kt (by decide) s10,(k9.mono (by simp)).trans k10 (λ_ hx=>.inl hx),?_⟩;rw[hbv];exact c10
  unfold PS.FR at hbm;by_cases hw0:0<Q.writes.length
  ·rw[show decide (((X6.d.Nv.len:Nat):Int)>0)=true from decide_eq_true (by rw[hsl,hwl];omega)];simp only[sb];refine hbm _ true (Am w8) ?_;rw[decide_eq_true hw0,Bool.true_or]
  ·rw[show decide (((X6.d.Nv.len:Nat):Int)>0)=false from decide_eq_false (by rw[hsl,hwl];omega)];simp only[sb,b8,h8.hd,Bs];have g8:=h8.Ab (Am w8);refine AdT (d:=d) (e:=X8.sd) (D8.ok.Ab (Am w8)) dN dR g8.shd ?_ ?_ λw9 k9=>?_
   ·refine PN.sd ?_;rw[q8];exact hNQ
   ·obtain⟨p1,p2,p3,p4⟩:=Ajo X8;rw[p1,p2,p3,p4,q8];exact hrQ.HA false
   ·refine hbm w9 _ (Aj (Am w8) k9) ?_;rw[decide_eq_false hw0,Bool.false_or];show _=!(Pv d.c d.Ac (d.held.map Hd.p) d.fin X8.p.c X8.p.Ac X8.p.held X8.p.fin);rw[eqS X8.p,q8];rfl
 ·rintro _ w9 ⟨h9,i9,k9,c9⟩;have a9:=k9.Mw a8 nac;simp only[sb,c9];refine Mf a9 rfl rfl rfl λw10 a10 k10=>?_;obtain⟨Q8,s10⟩:=h9.LK Ta8 k10;simp only[sb,a10];refine k _ _ X6.d.out X6.d.writes X8 T8 w10 Q8 q8 hout hwl (i9.kt (by decide) s10) x8 ?_;exact G8 (G8 e08 k9 (by simp;exact zc)) k10 (by simp;exact n1)
open Go Go.Sx
structure FM (P Q:PS):Prop where
 c:Q.c=P.c
 Ac:Q.Ac=P.Ac
 fin:Q.fin=P.fin
 M:Q.M=P.M
 writes:Q.writes=P.writes
 box:Q.box=P.box
 held:∀y∈Q.held,y∈P.held\/∃x∈P.wait,y=⟨x.Ah,x.ops⟩
 wait:∀y∈Q.wait,∃x∈P.wait,y.Ah=x.Ah/\y.ops=x.ops/\y.BB=x.BB
 len:Q.held.length+Q.wait.length<=P.held.length+P.wait.length
theorem FM.refl (P:PS):FM P P:=⟨rfl,rfl,rfl,rfl,rfl,rfl,λ_ h=>.inl h,λy h=>⟨y,h,rfl,rfl,rfl⟩,Nat.le_refl _⟩
theorem FM.trans {P Q R:PS}(h:FM P Q)(k:FM Q R):FM P R:=by
 refine⟨k.c.trans h.c,k.Ac.trans h.Ac,k.fin.trans h.fin,k.M.trans h.M,k.writes.trans h.writes,k.box.trans h.box,λy hy=>?_,λy hy=>?_,Nat.le_trans k.len h.len⟩
 ·rcases k.held y hy with h1|⟨x,hx,rfl⟩
  ·exact h.held y h1
  ·obtain⟨z,hz,e1,e2,_⟩:=h.wait x hx;exact .inr ⟨z,hz,by rw[e1,e2]⟩
 ·obtain⟨x,hx,e1,e2,e3⟩:=k.wait y hy;obtain⟨z,hz,f1,f2,f3⟩:=h.wait x hx;exact⟨z,hz,e1.trans f1,e2.trans f2,e3.trans f3⟩
theorem Ju (P:PS)(t c:Int)(rs:List Rp):FM P (P.Df t c rs):=⟨rfl,rfl,rfl,rfl,rfl,rfl,λ_ h=>.inl h,λy h=>⟨y,h,rfl,rfl,rfl⟩,Nat.le_refl _⟩
theorem Pm (P:PS)(t:Int):FM P (P.release t):=⟨rfl,rfl,rfl,rfl,rfl,rfl,λ_ h=>.inl h,λy h=>⟨y,h,rfl,rfl,rfl⟩,Nat.le_refl _⟩
theorem Adl (P:PS)(l:List Ev):FM P {P with line:=l}:=⟨rfl,rfl,rfl,rfl,rfl,rfl,λ_ h=>.inl h,λy h=>⟨y,h,rfl,rfl,rfl⟩,Nat.le_refl _⟩
theorem Im (P:PS)(i:Nat):FM P (P.Ay i):=
 ⟨rfl,rfl,rfl,rfl,rfl,rfl,λ_ h=>.inl h,λy h=>⟨y,(Bp P.wait i).subset h,rfl,rfl,rfl⟩,Nat.add_le_add_left (Bp P.wait i).length_le _⟩
variable {i:Nat}
theorem Xz {l:List α}{x y:α}(h:y∈l.take i++x::l.drop i):y=x\/y∈l:=by
 rcases List.mem_append.1 h with h|h
 ·exact .inr (List.mem_of_mem_take h)
 ·rcases List.mem_cons.1 h with h|h
  ·exact .inl h
  ·exact .inr (List.mem_of_mem_drop h)
theorem AbS (l:List α)(i:Nat)(x:α):(l.take i++x::l.drop i).length=l.length+1:=by
 rw[List.length_append,List.length_cons,List.length_take,List.length_drop];omega
variable {P:PS}
theorem Wu {x:PW}(hx:P.wait[i]?=some x):FM P ((P.Ay i).hold x.Ah x.ops):=by
 have hlt:=(List.getElem?_eq_some_iff.1 hx).1;refine⟨rfl,rfl,rfl,rfl,rfl,rfl,λy h=>?_,λy h=>⟨y,(Bp P.wait i).subset h,rfl,rfl,rfl⟩,?_⟩
 ·rcases Xz h with rfl|h
  ·exact .inr ⟨x,List.mem_of_getElem? hx,rfl⟩
  ·exact .inl h
 ·show(P.held.take _++_::P.held.drop _).length+(P.wait.take i++P.wait.drop (i+1)).length<=_;rw[AbS];have:=Jw P.wait i hlt;omega
theorem PG {x:PW}(hx:P.wait[i]?=some x)(lk:Lk):FM P (P.Cq i x lk):=by
 refine⟨rfl,rfl,rfl,rfl,rfl,rfl,λ_ h=>.inl h,λy h=>?_,?_⟩
 ·rcases List.mem_or_eq_of_mem_set h with h|rfl
  ·exact⟨y,h,rfl,rfl,rfl⟩
  ·exact⟨x,List.mem_of_getElem? hx,rfl,rfl,rfl⟩
 ·show P.held.length+(P.wait.set i _).length<=_;rw[List.length_set];exact Nat.le_refl _
theorem GO:∀(f:Nat) {P:PS} {t:Int},Bj P->FM P (P.Cw f t)
 |0,P,t,_=>FM.refl P
 |f+1,P,t,h=>by
  unfold PS.Cw;split
  ·exact FM.refl P
  ·rename_i hw;have hw:P.Pb t=true:=by simpa using hw
   obtain⟨x,hx,ht⟩:=D9 h hw;rw[hx];dsimp only;subst ht;split
   ·exact(Wu hx).trans (Ju _ _ _ _)
   ·split
    ·exact FM.refl P
    ·rename_i lk hlk;obtain⟨h1,_⟩:=h.Cq hx hlk;split
     ·exact PG hx lk
     ·split
      ·exact(((PG hx lk).trans (Im _ _)).trans (Ju _ _ _ _)).trans (Pm _ _)
      ·exact(PG hx lk).trans (GO f h1)
theorem Aar (h:Bj P)(ev:Ev):FM P (P.event ev):=by
 unfold PS.event;split
 ·exact GO 30 h
 ·split
  ·exact(Im _ _).trans (Ju _ _ _ _)
  ·exact FM.refl P
theorem Cv:∀(f:Nat) {P:PS},Bj P->FM P (P.through f)
 |0,P,_=>FM.refl P
 |f+1,P,h=>by
  cases hl:P.line with
  |nil=>
   unfold PS.through;rw[hl];exact FM.refl P
  |cons ev l=>
   rw[CQ hl];obtain⟨h1,_⟩:=h.pop hl;exact((Adl P l).trans (Aar h1 ev)).trans (Cv f (h1.event ev).1)
structure PRg (P:PS):Prop where
 c:ScR P.c
 held:∀h∈P.held,DR h.Ah
 wait:∀h∈P.wait,DR h.Ah
 fin:∀n∈P.fin,DR n
theorem PRg.sub {Q:PS}(h:PRg P)(s:FM P Q):PRg Q:=by
 refine⟨by rw[s.c];exact h.c,λy hy=>?_,λy hy=>?_,by rw[s.fin];exact h.fin⟩
 ·rcases s.held y hy with h1|⟨x,hx,rfl⟩
  ·exact h.held y h1
  ·exact h.wait x hx
 ·obtain⟨x,hx,e,_⟩:=s.wait y hy;rw[e];exact h.wait x hx
theorem PRg.shr (h:PRg P):ShR P.c P.Ac P.held P.fin:=⟨h.c,h.held,h.fin⟩
structure PCt (P:PS):Prop where
 hw:P.held.length+P.wait.length<=6
 all:P.held.length+P.wait.length+P.fin.length<=64
 ow:P.Ac.length<=6
theorem PCt.sub {Q:PS}(h:PCt P)(s:FM P Q):PCt Q:=⟨Nat.le_trans s.len h.hw,by rw[s.fin];have:=s.len;have:=h.all;omega,by rw[s.Ac];exact h.ow⟩
theorem Ru (h:Bj P)(c:PCt P):PN P:=⟨Nat.le_trans c.ow (by omega),by have:=c.hw;omega,by have:=c.all;omega,λx hx=>Nat.le_trans (h.hv x hx).2 (by omega)⟩
structure PJ (P:PS):Prop where
 ok:Bj P
 rg:PRg P
 ct:PCt P
 line:P.line=[]
theorem PJ.left {P:PS}(h:PJ P):P.left<=600:=by
 have h1:∀l:List PW,(∀x∈l,x.BB.length<=24)->(l.map PS.KL).sum<=l.length*24:=by
  intro l;induction l with
  |nil=>intro _;simp
  |cons a l ih=>
   intro hl;simp only[List.map_cons,List.sum_cons,List.length_cons];have:=ih λx hx=>hl x (List.mem_cons_of_mem _ hx);have:=hl a List.mem_cons_self;have:PS.KL a<=a.BB.length:=Nat.sub_le _ _;omega
 have h2:=h1 P.wait λx hx=>by
  obtain⟨_,v2,v3,_⟩:=h.ok.wv x hx;rw[v3,List.length_map];exact v2
 have hf:=h.ok.tb.few;have hc:=h.ct.hw;unfold PS.left;rw[h.line];simp only[List.length_nil];omega
open Go Go.Sx
theorem PJ.clear {P:PS}(h:PJ P):PJ P.clear:=⟨h.ok.clear,⟨⟨h.rg.c.Au,h.rg.c.CZ,h.rg.c.Ao,h.rg.c.move,h.rg.c.low,h.rg.c.frozen,h.rg.c.AJ,h.rg.c.CD,h.rg.c.Bo⟩,h.rg.held,h.rg.wait,h.rg.fin⟩,⟨h.ct.hw,h.ct.all,h.ct.ow⟩,h.line⟩
theorem PJ.Df {P:PS}(h:PJ P)(t c:Int)(rs:List Rp)(hb:P.out.length+1+P.left<=20000):PJ (P.Df t c rs):=⟨h.ok.Df t c rs hb,h.rg.sub (Ju _ _ _ _),h.ct.sub (Ju _ _ _ _),h.line⟩
theorem PJ.Bk {P:PS}(h:PJ P){low:Int}(hl:DR low):PJ (P.Bk low):=by
 refine⟨h.ok.Bk low,?_,?_,?_⟩
 ·unfold PS.Bk;split
  ·exact⟨⟨h.rg.c.Au,h.rg.c.CZ,h.rg.c.Ao,h.rg.c.move,hl,h.rg.c.frozen,h.rg.c.AJ,h.rg.c.CD,h.rg.c.Bo⟩,h.rg.held,h.rg.wait,λn hn=>h.rg.fin n (List.mem_filter.1 hn).1⟩
  ·exact h.rg
 ·unfold PS.Bk;split
  ·refine⟨h.ct.hw,?_,h.ct.ow⟩;have:=List.length_filter_le (λn=>!(decide (n<low))) P.fin;have:=h.ct.all;show P.held.length+P.wait.length+(P.fin.filter _).length<=64;omega
  ·exact h.ct
 ·unfold PS.Bk;split<;>exact h.line
theorem PJ.Du {P:PS}(h:PJ P){t Ao:Int}(ht:DR t){ops:List Op}(ho:A9 ops=0)(hl:ops.length<=24)(hb:P.out.length+P.left+60<=20000):PJ (P.Du t Ao ops):=by
 unfold PS.Du;cases hg:P.gone t with
 |true=>rw[if_pos rfl];exact h
 |false=>
  rw[if_neg (by simp)];cases hh:P.TJ t with
  |true=>
   rw[if_pos rfl];split
   ·exact h
   ·exact h.Df _ _ _ (by omega)
  |false=>
   rw[if_neg (by simp)];cases hr:P.C7 Ao ops with
   |true=>rw[if_pos rfl];exact h.Df _ _ _ (by omega)
   |false=>
    rw[if_neg (by simp)];have hwis:P.Pb t=false:=by unfold PS.gone at hg;simp only[Bool.or_eq_false_iff]at hg;exact hg.2
    have hful:P.full=false:=by unfold PS.C7 at hr;simp only[Bool.or_eq_false_iff]at hr;exact hr.2.1
    have hc:P.held.length+P.wait.length<6/\P.held.length+P.wait.length+P.fin.length<64:=by unfold PS.full at hful;simp only[Bool.or_eq_false_iff,decide_eq_false_iff_not]at hful;omega
    obtain⟨h1,b1⟩:=h.ok.await ho hl (KY h.ok hwis) (Nd h.ok hh) (by omega) hb;have hlen:(P.await t ops).wait.length=P.wait.length+1:=AbS _ _ _;have r1:PRg (P.await t ops):=⟨h.rg.c,h.rg.held,λy hy=>by
     rcases Xz hy with rfl|hy
     ·exact ht
     ·exact h.rg.wait y hy,h.rg.fin⟩
    have c1:PCt (P.await t ops):=⟨by show P.held.length+_<=6;rw[hlen];omega,by show P.held.length+_+P.fin.length<=64;rw[hlen];omega,h.ct.ow⟩;obtain⟨h2,b2⟩:=h1.Cw 30 (t:=t);obtain⟨h3,b3⟩:=h2.through DU;have s:=(GO 30 (t:=t) h1).trans (Cv DU h2);exact⟨h3,r1.sub s,c1.sub s,Mr _ h2 (by have:=h2.bd;unfold DU;omega)⟩
theorem PJ.work (h:PJ P){t low Ao:Int}(ht:DR t)(hlo:DR low){ops:List Op}(ho:A9 ops=0)(hl:ops.length<=24)(hb:P.out.length+P.left+60<=20000):PJ (P.work t low Ao ops):=
 (h.Bk hlo).Du ht ho hl (by rw[GP,Hj];exact hb)
theorem PJ.finish (h:Bj P)(r:PRg P)(c:PCt P){t:Int}(ht:DR t)(hl:P.held.length+P.wait.length+P.fin.length<64):PJ (P.finish t):=by
 obtain⟨h1,b1,l1⟩:=h.BV t (by omega);have r1:PRg (P.BV t):=by
  unfold PS.BV;split
  ·exact⟨r.c,r.held,r.wait,λn hn=>by rcases Xz hn with rfl|hn;exact ht;exact r.fin n hn⟩
  ·exact r
 have hw:(P.BV t).held=P.held/\(P.BV t).wait=P.wait/\(P.BV t).Ac=P.Ac:=by unfold PS.BV;split<;>exact⟨rfl,rfl,rfl⟩
 have c1:PCt (P.BV t):=by
  obtain⟨e1,e2,e3⟩:=hw;exact⟨by rw[e1,e2];exact c.hw,by rw[e1,e2];omega,by rw[e3];exact c.ow⟩
 obtain⟨h2,b2⟩:=h1.release t;obtain⟨h3,b3⟩:=h2.through DU;have s:=(Pm (P.BV t) t).trans (Cv DU h2);exact⟨h3,r1.sub s,c1.sub s,Mr _ h2 (by have:=h2.bd;unfold DU;omega)⟩
theorem PJ.decide {P:PS}(h:PJ P){t:Int}(ht:DR t)(flag:Bool)(hb:P.out.length+1+P.left<=20000)(hw:P.writes.length<=900):PJ (P.decide t flag):=by
 have ha:Bj (P.Fh t):=h.ok.Fh t hb;unfold PS.decide;cases hh:P.TJ t with
 |true=>
  rw[if_pos rfl];obtain⟨x,hx,hxt⟩:=MN h.ok hh;rw[hx];dsimp only;have hlt:=(List.getElem?_eq_some_iff.1 hx).1;obtain⟨v1,v2⟩:=h.ok.hv x (List.mem_of_getElem? hx);have hwl:=OZ flag x.ops;have hu:Bj ((P.Fh t).AO (P.DY t)):=ha.AO _;have hwa:Bj (((P.Fh t).AO (P.DY t)).writeAll (PS.Mn flag x.ops)):=hu.writeAll (OC v1) (by show P.writes.length+_<=1000;omega);have hlen:=Jw P.held (P.DY t) hlt;have hsub:=Bp P.held (P.DY t);have e:=Bz (PS.Mn flag x.ops) ((P.Fh t).AO (P.DY t));have eh:(((P.Fh t).AO (P.DY t)).writeAll (PS.Mn flag x.ops)).held=P.held.take (P.DY t)++P.held.drop (P.DY t+1):=by rw[e];rfl
  have ew:(((P.Fh t).AO (P.DY t)).writeAll (PS.Mn flag x.ops)).wait=P.wait:=by rw[e];rfl
  have ef:(((P.Fh t).AO (P.DY t)).writeAll (PS.Mn flag x.ops)).fin=P.fin:=by rw[e];rfl
  have ec:(((P.Fh t).AO (P.DY t)).writeAll (PS.Mn flag x.ops)).c=P.c:=by rw[e];rfl
  have eo:(((P.Fh t).AO (P.DY t)).writeAll (PS.Mn flag x.ops)).Ac=P.Ac:=by rw[e];rfl
  have c1:=h.ct.hw;have c2:=h.ct.all;refine PJ.finish hwa ⟨by rw[ec];exact h.rg.c,λy hy=>h.rg.held y (hsub.subset (by rw[<-eh];exact hy)),by rw[ew];exact h.rg.wait,by rw[ef];exact h.rg.fin⟩ ⟨by rw[eh,ew];omega,by rw[eh,ew,ef];omega,by rw[eo];exact h.ct.ow⟩ ht (by rw[eh,ew,ef];omega)
 |false=>
  rw[if_neg (by simp)];cases hwi:P.Pb t with
  |true=>
   rw[if_pos rfl];obtain⟨x,hx,hxt⟩:=D9 h.ok hwi;have hlt:=(List.getElem?_eq_some_iff.1 hx).1;obtain⟨hu,_⟩:=ha.Ay (i:=P.Ce t) hx;have hlen:((P.Fh t).Ay (P.Ce t)).wait.length+1=P.wait.length:=Jw P.wait (P.Ce t) hlt;have hsub:=Bp P.wait (P.Ce t);have c1:=h.ct.hw;have c2:=h.ct.all;have eh:((P.Fh t).Ay (P.Ce t)).held=P.held:=rfl;have ef:((P.Fh t).Ay (P.Ce t)).fin=P.fin:=rfl;exact PJ.finish hu ⟨h.rg.c,h.rg.held,λy hy=>h.rg.wait y (hsub.subset hy),h.rg.fin⟩ ⟨by rw[eh];omega,by rw[eh,ef];omega,h.ct.ow⟩ ht (by rw[eh,ef];omega)
  |false=>
   rw[if_neg (by simp)];exact⟨ha,⟨h.rg.c,h.rg.held,h.rg.wait,h.rg.fin⟩,⟨h.ct.hw,h.ct.all,h.ct.ow⟩,h.line⟩
open Go Go.Sx
def Akk:List (Int×(PM->Bool)):=[(113,λx=>x.VT==0),(98,λx=>x.Au==0),(116,λx=>x.Ah==0),(108,λx=>x.low==0),(118,λx=>x.CZ==0),(101,λx=>x.Ao==0),(109,λx=>x.move==0),(97,λx=>x.attempt==0),(110,λx=>x.n==0),(99,λx=>x.code==0),(112,λx=>x.peer==0),(102,λx=>!x.flag),(114,λx=>seq x.FN (BA [])&&(seq x.G6 (BA [])&&true)),(111,λx=>((x.ops.length:Nat):Int)==0),(115,λx=>((x.results.length:Nat):Int)==0),(119,λx=>((x.Ac.length:Nat):Int)==0)]
def Em (l:List Int)(x:PM):Bool:=Akk.all λp=>l.contains p.1||p.2 x
def BW (fr to:Int->Bool)(gd:Bool)(x:PM):Bool:=fr x.src&&(to x.dst&&(x.Ch==0&&gd))
def Q9 (x:PM):Bool:=
 if x.kind=3 then BW CY BE (decide (0<x.ops.length)&&(decide (x.ops.length<=24)&&decide (A9 x.ops=0))) x&&Em [116,108,101,111] x
 else if x.kind=5 then BW CY BE true x&&Em [116,102] x
 else if x.kind=6 then BW BE CY true x&&Em [116] x
 else false
theorem Afj {x:Mg}(h1:x.so.len=x.ops.length)(h2:x.sr.len=x.results.length)(h3:x.sw.len=x.Ac.length)(l:List Int):TD l x=Em l x.p:=by
 have e1:x.p.ops.length=x.so.len:=by rw[h1];rfl
 have e2:x.p.results.length=x.sr.len:=by rw[h2];exact List.length_map _
 have e3:x.p.Ac.length=x.sw.len:=by rw[h3];rfl
 unfold TD Em Akk;rw[show(zOf.map Prod.fst)=[113,98,116,108,118,101,109,97,110,99,112,102,114,111,115,119]from rfl];simp only[List.all_cons,List.all_nil,e1,e2,e3];rfl
theorem Agr {x:Mg}(h:Su x w):Ab1 x=Q9 x.p:=by
 have z:=Afj (x:=x) h.1.len h.2.1.1.len h.2.2.len;unfold Ab1 Q9;rw[z,z,z];rfl
def Fi (k:Int):Bool:=k==3||(k==5||(k==8||(k==10||(k==11||k==12))))
namespace PS
def bad (P:PS)(x:PM):Bool:=!Q9 x||(x.dst !=P.c.id||!Fi x.kind)
def taken (P:PS)(x:PM):PS:=if x.kind=3 then P.clear.work x.Ah x.low x.Ao x.ops else P.clear.decide x.Ah x.flag
end PS
theorem PJ.taken {P:PS}(h:PJ P){x:PM}(ht:DR x.Ah)(hl:DR x.low)(hb:P.bad x=false)(hk:x.kind=3\/x.kind=5\/x.kind=6):PJ (P.taken x):=by
 have hc:=h.clear;have hleft:=hc.left;have ho:P.clear.out.length=0:=rfl;unfold PS.taken;by_cases h3:x.kind=3
 ·rw[if_pos h3];unfold PS.bad at hb;simp only[Bool.or_eq_false_iff,Bool.not_eq_false']at hb;have hm:=hb.1;unfold Q9 BW at hm;rw[if_pos h3]at hm;simp only[Bool.and_eq_true,decide_eq_true_iff]at hm;exact hc.work ht hl hm.1.2.2.2.2.2 hm.1.2.2.2.2.1 (by omega)
 ·rw[if_neg h3];exact hc.decide ht x.flag (by omega) (by show 0<=900;omega)
abbrev Mu:List (Int×Value):=[(3,Ez 73),(5,Ez 74),(8,Ez 75),(10,Ez 76),(11,Ez 77),(12,Ez 78)]
theorem Tf {K:TR [.sc .m]->Pr}(k:∀m w',Vj w' m (ekI .i64) Mu->w.heap.size<=m->Aa [] w w'->K (some m,()) w'):Cl Pg 30 [] false [.sc .m] K w:=by
 refine SE ?_;unfold Ui;dsimp only[Vi];refine Vf (ek:=ekI .i64) λm w1 h1 n1 k1=>?_;refine Bb h1 3 _ rfl λw2 h2 k2=>?_;have k2:=BT k1 k2 n1;refine Bb h2 5 _ rfl λw3 h3 k3=>?_;have k3:=BT k2 k3 n1;refine Bb h3 8 _ rfl λw4 h4 k4=>?_;have k4:=BT k3 k4 n1;refine Bb h4 10 _ rfl λw5 h5 k5=>?_;have k5:=BT k4 k5 n1;refine Bb h5 11 _ rfl λw6 h6 k6=>?_;have k6:=BT k5 k6 n1;refine Bb h6 12 _ rfl λw7 h7 k7=>?_;exact k m w7 h7 n1 (BT k6 k7 n1)
def dV (k:Int):Value:=(Jd k Mu).getD Value.nilFunc
theorem Fk (h:Vj w m (ekI .i64) Mu)(x:Int){K:Value->Bool->Pr}(k:K (dV x) (Fi x) w):LkK .v Value.nilFunc (.int .i64) (some m) (.int .i64 x) K w:=by
 have hi:Fi x=(Jd x Mu).isSome:=by
  unfold Fi Mu;simp only[Jd];by_cases h1:x=3
  ·simp[h1]
  ·by_cases h2:x=5
   ·simp[h2]
   ·by_cases h3:x=8
    ·simp[h3]
    ·by_cases h4:x=10
     ·simp[h4]
     ·by_cases h5:x=11
      ·simp[h5]
      ·by_cases h6:x=12
       ·simp[h6]
       ·simp[h1,h2,h3,h4,h5,h6]
 unfold dV at k;rw[hi]at k;cases hg:Jd x Mu with
 |none=>rw[hg]at k;exact AdI (kd:=.v) (GM .i64) h hg k
 |some v=>rw[hg]at k;exact Ae6 (kd:=.v) (x:=v) (GM .i64) h hg k
theorem Yh (x:Int):(dV x).oneCell'=true:=by
 unfold dV;cases hg:Jd x Mu with
 |none=>rfl
 |some v=>
  have:=Uy hg;unfold Mu at this;simp only[List.mem_cons,Prod.mk.injEq,List.not_mem_nil,or_false]at this;rcases this with h|h|h|h|h|h<;>(rw[h.2];rfl)
open Go Go.Sx
theorem AgG (h:A6 w m T X)(hJ:PJ X.p)(ho:X.p.out=[])(hwr:X.p.writes=[])(hR:AM X.p 90000)(x:Mg)(hx:Bq T (Su x) w)(hk:x.kind=3\/x.kind=5)(h3:x.kind=3->A9 x.ops=0/\x.ops.length<=24){c a b:Nat}(hc:w.heap[c]?=some (.cells #[dV x.kind] 102 (0,0)))(ha:w.heap[a]?=some (.cells #[.pointer (some ⟨m,0,none⟩)] 28 (0,0)))(hb:w.heap[b]?=some (.cells (Sm x) 47 (0,0))){K:TR []->Pr}(k:∀X' T' w',A6 w' m T' X'->X'.p=(if x.kind=3 then X.p.work x.Ah x.low x.Ao x.ops else X.p.decide x.Ah x.flag)->DG X X'->Aq T T' w w'->K () w'):
  AB Pg (.func (.func 33) #[] #[.pointer (some ⟨c,0,none⟩),.pointer (some ⟨a,0,none⟩),.pointer (some ⟨b,0,none⟩)]) [] true [] K w:=by
 refine Q4 (cs:=[.pointer (some ⟨c,0,none⟩),.pointer (some ⟨a,0,none⟩),.pointer (some ⟨b,0,none⟩)]) (by kernel_rfl) ?_;refine DW _ _ _ ?_;unfold DQ;dsimp only[Ag,Bn,Vp];simp only[sb,hc,ha,hb];have hl:=hJ.left;have ol:X.p.out.length=0:=by rw[ho];rfl
 rcases hk with hk|hk
 ·rw[if_pos hk]at k;rw[show dV x.kind=Ez 73 from by rw[hk];rfl];refine Ap (by kernel_rfl) ?_;exact Aen h hJ.ok (by omega) (by have:=hJ.ct.ow;exact Nat.le_trans this (by omega)) x hx (h3 hk).1 (h3 hk).2 k
 ·rw[if_neg (by omega)]at k;rw[show dV x.kind=Ez 74 from by rw[hk];rfl];refine Ap (by kernel_rfl) ?_;refine YD h hJ.ok (by omega) (by have:=hJ.ct.all;have e:X.p.fin.length=X.d.fin.length:=rfl;omega) (by have e:X.p.writes.length=X.d.writes.length:=rfl;rw[<-e,hwr];simp) hR x k
set_option maxHeartbeats 4000000 in
theorem Rj (h:A6 w m T X)(hJ:PJ X.p)(hR:AM X.p 90000)(x:Mg)(hx:Bq T (Su x) w)(hk:x.kind=3\/x.kind=5\/x.kind=6)(ht:DR x.Ah)(hlo:DR x.low){K:TR [.ag [.sl,.sl,.b],.sc (.i .i64)]->Pr}(k1:X.p.bad x.p=true->∀T' w',A6 w' m T' X->Aq T T' w w'->K ((⟨none,0,0⟩,⟨none,0,0⟩,false,()),180,()) w')(k2:X.p.bad x.p=false->∀so sw out writes X2 T2 w2,A6 w2 m T2 X2->X2.p=(X.p.taken x.p).clear->out.map Mg.p=(X.p.taken x.p).out->writes=(X.p.taken x.p).writes->Bq T2 (MI so sw out writes) w2->DG X X2->Aq T T2 w w2->K ((so,sw,X.p.FR (X.p.taken x.p),()),0,()) w2):
  Cl Pg 11 [.pointer (some ⟨m,0,none⟩),.agg (Sm x)] true [.ag [.sl,.sl,.b],.sc (.i .i64)] K w:=by
 refine EO _ _ _ _ _ _ _ _ _ _ _ _ _ _ _ _ _ _ _ x.so x.sr x.sw ?_;unfold EH;dsimp only[Ag,Vv,Li,Bn,SL,KV,Tb,Vb,Vi,Vp,LW];refine Ad λa w1 h1 n1 q1=>?_;refine Ad λb w2 h2 n2 q2=>?_;refine Ad λe w3 h3 n3 q3=>?_;have q02:=Aj q1 q2;have g2:=h.Ab q02;have a2:=q2.Aw h1;have Ta2:T a=0:=h.new n1;have Tb2:T b=0:=(h.Ab q1).new n2;obtain⟨g3,s3,e3⟩:=g2.own q3 n3 (Av h3);obtain⟨a3,Ta3⟩:=e3.at a2 Ta2;obtain⟨b3,Tb3⟩:=e3.at h2 Tb2;have ev3:Aq T (Dz e T) w w3:=(Aq.k0 q02).trans e3;have x3:=hx.Bm ev3;generalize hT3:Dz e T=T3 at *;have Te:T3 e=11:=by rw[<-hT3];exact if_pos rfl
 have hm:=Agr x3.ok;refine AG (λs w4=>∃c,s=(some ⟨c,0,none⟩,Fi x.kind,())/\Aa [] w3 w4/\w4.heap[c]?=some (.cells #[dV x.kind] 102 (0,0))/\w3.heap.size<=c) (λJ hJ4=>?_) ?_
 ·simp only[sb,b3];have b3d:w3.drew.heap[b]?=_:=b3;have zd:w3.drew.heap.size=w3.heap.size:=rfl;refine⟨?_,?_⟩
  ·refine Tf λmm w4 h4 n4 q4=>?_;have b4:=q4.Aw b3d;simp only[sb,b4];refine⟨by trivial,?_⟩;refine Fk h4 x.kind ?_;refine⟨rfl,?_⟩;refine Ad λc w5 h5 n5 q5=>?_;have b5:=q5.Aw b4;have h45:=h4.CM q5 (by simp);simp only[sb,b5];refine⟨Fk h45 x.kind rfl,by trivial,?_⟩;refine Ax h5 0 _ (Yh _) (by simp) λw6 h6 q6=>?_;simp only[Ck]at h6;exact hJ4 _ w6 ⟨c,rfl,BT (Aj (Aj (Am w3) q4) q5) q6 (by have:=q4.size;omega),h6,by have:=q4.size;omega⟩
  ·refine⟨rfl,?_⟩;refine Ad λc w4 h4 n4 q4=>?_;have b4:=q4.Aw b3d;simp only[sb,b4];refine⟨by trivial,?_⟩;refine Tf λmm w5 h5 n5 q5=>?_;have b5:=q5.Aw b4;simp only[sb,b5];refine⟨by trivial,?_⟩;refine Fk h5 x.kind ?_;refine Ax (q5.Aw h4) 0 _ (Yh _) (by simp) λw6 h6 q6=>?_;simp only[Ck]at h6;exact hJ4 _ w6 ⟨c,rfl,BT (Aj (Aj (Am w3) q4) q5) q6 (by omega),h6,by omega⟩
 ·rintro _ w4 ⟨c,rfl,q4,hc4,nc4⟩;have g4:=g3.Ab q4;have a4:=q4.Aw a3;have b4:=q4.Aw b3;have d4:=q4.Aw h3;have x4:=x3.Ab q4;have Tc:T3 c=0:=g3.new nc4;refine BR (X.p.bad x.p) (λJ hJ6=>?_) λw5 q5=>?_
  ·unfold PS.bad at hJ6;simp only[sb,b4];refine AeM (x:=x) (x4.ok.1.Ab (Am w4)) hk λw5 q5=>?_;have g5:=(g4.Ab (Am w4)).Ab q5;have a5:=q5.Aw (show w4.drew.heap[a]?=_ from a4);have b5:=q5.Aw (show w4.drew.heap[b]?=_ from b4);have q45:=Aj (Am w4) q5;rw[hm];cases c1:Q9 x.p with
   |false=>rw[c1]at hJ6;exact hJ6 w5 q45
   |true=>
    rw[c1,Bool.not_true,Bool.false_or]at hJ6;simp only[if_true,show((0:Int) !=0)=false from rfl,sb,a5,b5,g5.hd,Bs];rw[show(x.p.dst !=X.p.c.id)=(x.dst !=X.c.id)from rfl,show Fi x.p.kind=Fi x.kind from rfl]at hJ6;cases c2:(x.dst !=X.c.id)with
    |true=>rw[c2]at hJ6;exact hJ6 w5 q45
    |false=>
     rw[c2,Bool.false_or]at hJ6;exact hJ6 w5 q45
  ·have g5:=g4.Ab q5;have a5:=q5.Aw a4;have b5:=q5.Aw b4;have c5:=q5.Aw hc4;have d5:=q5.Aw d4;have x5:=x4.Ab q5;have ev5:Aq T T3 w w5:=ev3.trans (Aq.k0 (Aj q4 q5));have ze:w.heap.size<=e:=by have:=q02.size;omega
   cases hbad:X.p.bad x.p with
   |true=>
    simp only[Af];refine Mf d5 rfl rfl rfl λw6 h6 q6=>?_;obtain⟨g6,_⟩:=g5.LK Te q6;simp only[sb,h6];exact k1 hbad T3 w6 g6 (G8 ev5 q6 (by simp;exact ze))
   |false=>
    have hQ:=hJ.taken ht hlo hbad hk;have hk':x.kind=3\/x.kind=5:=by
     unfold PS.bad at hbad;simp only[Bool.or_eq_false_iff,Bool.not_eq_false']at hbad;have hd:=hbad.2.2;rcases hk with h|h|h
     ·exact .inl h
     ·exact .inr h
     ·rw[show x.p.kind=6 from h]at hd;simp[Fi]at hd
    have hops:x.kind=3->A9 x.ops=0/\x.ops.length<=24:=by
     intro h3;unfold PS.bad at hbad;simp only[Bool.or_eq_false_iff,Bool.not_eq_false']at hbad;have hm:=hbad.1;unfold Q9 BW at hm;rw[if_pos (show x.p.kind=3 from h3)]at hm;simp only[Bool.and_eq_true,decide_eq_true_iff]at hm;exact⟨hm.1.2.2.2.2.2,hm.1.2.2.2.2.1⟩
    simp only[sb,a5];refine AjW (Q:=X.p.taken x.p) g5 (Ru hJ.ok hJ.ct).sd hJ.rg.shr hQ.ok.er hQ.rg.shr (Ru hQ.ok hQ.ct) ?_ ?_
    ·intro w6 T6 X6 h6 q6 x6 e6 K1 hK1;obtain⟨a6,Ta6⟩:=e6.at a5 Ta3;obtain⟨b6,Tb6⟩:=e6.at b5 Tb3;obtain⟨c6,Tc6⟩:=e6.at c5 Tc;have hJ6:PJ X6.p:=by rw[q6];exact hJ.clear
     refine AgG h6 hJ6 (by rw[q6];rfl) (by rw[q6];rfl) (by rw[q6];exact hR) x (x5.Bm e6) hk' hops c6 a6 b6 ?_;intro X7 T7 w7 h7 q7 x7 e7;refine hK1 X7 T7 w7 h7 ?_ x7 e7;rw[q7,q6];rfl
    ·intro so sw out writes X7 T7 w7 h7 q7 ho hw i7 x7 e7;obtain⟨d7,Td7⟩:=e7.Ql d5 Te;refine Mf d7 rfl rfl rfl λw8 h8 q8=>?_;obtain⟨g8,s8⟩:=h7.LK Td7 q8;simp only[sb,h8];exact k2 hbad so sw out writes X7 T7 w8 g8 q7 ho hw (i7.kt (by decide) s8) x7 (G8 (ev5.trans e7) q8 (by simp;exact ze))
open Go Go.Sx
theorem A6.st (h:A6 w m T X)(k:Aa [X.d.BD] w w'){sM:Sl}{M:List Pa}(hs:w'.heap[X.d.BD]?=some (.cells #[.slice sM.p sM.len sM.cap] 27 (0,0)))(hM:A1 C2 w' sM M)(h0:∀b∈rb sM,T b=0):A6 w' m T {X with d:={X.d with sM:=sM,M:=M}}:=by
 have ht:=(h.r.RF.tag X.d.BD rfl).2;have s:CH 12 T T w w':=⟨k.FY λb hb=>.inl (by simp at hb;rw[hb];exact ht),λ_ _ _=>rfl⟩;have q:=h.r;refine⟨k.Mw h.hd (λe=>by have:=h.t1;rw[e,ht]at this;cases this),h.t1,q.ow.kt (by decide) s,q.he.kt (by decide) (by decide) s,λx hx=>(q.Ro x hx).kt (by decide) s,q.fi.kt (by decide) (by decide) s,q.wa.kt (by decide) (by decide) s,λx hx=>(q.Ss x hx).kt (by decide) s,q.ta.kt (by decide) (by decide) s,q.ou.kt (by decide) (by decide) s,λx hx=>(q.Wp x hx).kt (by decide) s,q.wr.kt (by decide) (by decide) s,q.li.kt (by decide) (by decide) s,q.bo.kt (by decide) (by decide) s,q.ro.kt (by decide) (by decide) s,q.lo.kt (by decide) s,⟨⟨hs,hM⟩,λw2 _ hw=>⟨(hw _ (Av hs) (.inl ht)).trans hs,hM.heap λb hb=>hw b (hM.lt b hb) (.inr (h0 b hb))⟩,λb hb=>by subst hb;exact⟨Av hs,ht⟩⟩,λb hb=>Nat.lt_of_lt_of_le (q.bd b hb) k.size⟩
open Classical in
noncomputable def Yp (m BD:Nat)(sh sf:Sl)(H F:Nat->Prop):Nat->Nat:=λb=>if b=m then 1 else if b=BD then 12 else if b∈Ai sh then 2 else if b∈Ai sf then 3 else if H b then 5 else if F b then 20 else 0
def bx0:Bx:=⟨0,0,BA [],BA [],0,false,false,false,⟨none,0,0⟩,⟨none,0,0⟩,BA [],[],[]⟩
set_option maxHeartbeats 4000000 in
theorem Aga (h:YP d w)(hN:XU d)(hok:OA d.c d.Ac (d.held.map Hd.p) d.fin=true)(h0:d.held=[])(hb:0<=d.c.Au/\d.c.Au+1<18446744073709551616){BD:Nat}{sM:Sl}{M:List Pa}(hs:w.heap[BD]?=some (.cells #[.slice sM.p sM.len sM.cap] 27 (0,0)))(hM:A1 C2 w sM M)(hn:BD∉rb sM){F:Nat->Prop}(hF:∀b,F b->b<w.heap.size/\b≠BD/\b∉rb sM){K:TR [.sc .p,.sc (.i .i64)]->Pr}(k:∀m T X w',A6 w' m T X->X.p=⟨{d.c with Au:=d.c.Au+1,HA:=false,e:=0},d.Ac,[],d.fin,[],⟨[],[]⟩,[],[],[],none,M⟩->X.d.BD=BD->X.d.sM=sM->(∀b,T b≠0->b=BD\/F b\/w.heap.size<=b)->(∀b,F b->T b=20)->Aa [] w w'->K (some ⟨m,0,none⟩,0,()) w'):
  Cl Pg 9 [.agg (shA d),stV BD] true [.sc .p,.sc (.i .i64)] K w:=by
 refine Oa _ _ _ _ _ d.so d.sh d.sf _ _ _ _ _ _ _ _ _ _ ?_;unfold Uq;dsimp only[Al,SG,Ux,Az,Ll,Hr,UC,Lu,Acq,Ts,Tu,Vb,Vi,Vp,Vs,Vt,Vu,AcR];refine Ad λa w1 h1 n1 k1=>?_;simp only[sb,h1];refine Lt (d:=d) (h.Ab k1) hN λw2 k2=>?_;rw[hok];have h2:=k2.Aw h1;simp only[if_true,show((0:Int) !=0)=false from rfl,Ae];refine⟨false,rfl,?_⟩;simp only[sb,h2];have k02:=Aj k1 k2;refine MK (d:=d) (h.Ab k02) hN λd' w3 hd k3=>?_;have k03:=Aj k02 k3;refine Cl.mono (Afp w3) ?_;rintro⟨r,_⟩ w4 ⟨t,H,hr,hT,hH,k4⟩;dsimp only at hr;subst hr;have k04:=Aj k03 k4;refine⟨rfl,?_⟩;refine Ad λm w5 h5 n5 k5=>?_;have k05:=Aj k04 k5;have hw:IntKind.u64.wrap (d'.c.Au+1)=d.c.Au+1:=by
  rw[hd.c];have:=B1 (n:=(d.c.Au+1).toNat) (by omega);rw[Int.toNat_of_nonneg (by omega)]at this;exact this
 simp only[sb,h5,A5,Nat.reduceAdd];refine Ax h5 1 _ rfl (by simp) λw6 h6 k6=>?_;simp only[Ck]at h6;have nm:w.heap.size<=m:=by have:=k04.size;omega
 have k06:=BT k05 k6 nm;have hheld:d'.held=[]:=by
  have:=hd.held;rw[h0,List.map_nil,List.map_eq_nil_iff]at this;exact this
 have hshl:d'.sh.len=0:=by have:=hd.he.BY;rw[hheld]at this;exact this
 simp only[sb,h6];refine⟨λn st w'=>st=(none,0,0,())/\w6=w',⟨0,rfl,rfl⟩,?_⟩;rintro n _ w7 ⟨rfl,rfl⟩;dsimp only;rw[decide_eq_false (by rw[hshl];omega)];simp only[Ae];have s2:=k02.size;have s3:=k3.size;have s4:=k4.size;have s5:=k5.size;have s6:=k6.size;have hlt:=Av hs;have z2:∀{α:Type} {ρ:Rec α} {s:Sl} {l:List α},Bh ρ w3 s l->∀b∈Ai s,b<w3.heap.size:=λhs b hb=>hs.lt b hb;have Hlt:∀b,H b->b<w4.heap.size:=by obtain⟨sh,sw,q⟩:=hT;exact q.bl
 have k36:Aa [m] w3 w6:=((Aj k4 k5).mono (by simp)).trans k6 (λ_ hx=>.inl hx);have ow6:=hd.ow.keeps k36 (λb hb=>by have:=hd.ow.lt b hb;simp;omega);have he6:=hd.he.keeps k36 (λb hb=>by have:=hd.he.lt b hb;simp;omega);have fi6:=hd.fi.keeps k36 (λb hb=>by have:=hd.fi.lt b hb;simp;omega);have ta6:Ny w6 t H ⟨[],[]⟩:=hT.heap λb hb=>by
  have:=Hlt b hb;exact((k5.mono (m':=[m]) (by simp)).trans k6 (λ_ hx=>.inl hx)).get b this (by simp;omega)
 have tm:Yp m BD d'.sh d'.sf H F m=1:=if_pos rfl;have ts:Yp m BD d'.sh d'.sf H F BD=12:=by unfold Yp;rw[if_neg (by omega),if_pos rfl]
 have th:∀b∈Ai d'.sh,Yp m BD d'.sh d'.sf H F b=2:=λb hb=>by
  have l1:=hd.fhe b hb;have l2:=hd.he.lt b hb;unfold Yp;rw[if_neg (by omega),if_neg (by omega),if_pos hb]
 have tf:∀b∈Ai d'.sf,Yp m BD d'.sh d'.sf H F b=3:=λb hb=>by
  have l1:=hd.ffi b hb;have l2:=hd.fi.lt b hb;unfold Yp;rw[if_neg (by omega),if_neg (by omega),if_neg (hd.d2 b hb),if_pos hb]
 have tH:∀b,H b->Yp m BD d'.sh d'.sf H F b=5:=λb hb=>by
  have l1:=hH b hb;have l2:=Hlt b hb;unfold Yp;rw[if_neg (by omega),if_neg (by omega),if_neg (λh=>by have:=hd.he.lt b h;omega),if_neg (λh=>by have:=hd.fi.lt b h;omega),if_pos hb]
 have to:∀b∈Ai d'.so,Yp m BD d'.sh d'.sf H F b=0:=λb hb=>by
  have l1:=hd.fow b hb;have l2:=hd.ow.lt b hb;unfold Yp;rw[if_neg (by omega),if_neg (by omega),if_neg (hd.d1 b hb).1,if_neg (hd.d1 b hb).2,if_neg (λh=>by have:=hH b h;omega),if_neg (λh=>by have:=(hF b h).1;omega)]
 have old:∀b,b<w.heap.size->b≠BD->¬F b->Yp m BD d'.sh d'.sf H F b=0:=λb hb hne hnF=>by
  unfold Yp;rw[if_neg (by omega),if_neg hne,if_neg (λh=>by have:=hd.fhe b h;omega),if_neg (λh=>by have:=hd.ffi b h;omega),if_neg (λh=>by have:=hH b h;omega),if_neg hnF]
 have tF:∀b,F b->Yp m BD d'.sh d'.sf H F b=20:=λb hb=>by
  obtain⟨f1,f2,f3⟩:=hF b hb;unfold Yp;rw[if_neg (by omega),if_neg f2,if_neg (λh=>by have:=hd.fhe b h;omega),if_neg (λh=>by have:=hd.ffi b h;omega),if_neg (λh=>by have:=hH b h;omega),if_pos hb]
 have tn:∀b,Yp m BD d'.sh d'.sf H F b≠0->(b=BD\/F b\/w.heap.size<=b)/\b<w6.heap.size:=λb hb=>by
  unfold Yp at hb;split at hb
  ·rename_i e;subst e;exact⟨.inr (.inr nm),Av h6⟩
  ·split at hb
   ·rename_i e;subst e;exact⟨.inl rfl,by omega⟩
   ·split at hb
    ·rename_i e;have:=hd.fhe b e;have:=hd.he.lt b e;exact⟨.inr (.inr (by omega)),by omega⟩
    ·split at hb
     ·rename_i e;have:=hd.ffi b e;have:=hd.fi.lt b e;exact⟨.inr (.inr (by omega)),by omega⟩
     ·split at hb
      ·rename_i e;have:=hH b e;have:=Hlt b e;exact⟨.inr (.inr (by omega)),by omega⟩
      ·split at hb
       ·rename_i e;have:=(hF b e).1;exact⟨.inr (.inl e),by omega⟩
       ·exact absurd rfl hb
 have hs6:=k06.Aw hs;have hM6:=hM.Ab k06;generalize hTT:Yp m BD d'.sh d'.sf H F=T at *;refine k m T ⟨{d.c with Au:=d.c.Au+1,HA:=false,e:=0},⟨d'.so,d'.sh,d'.sf,⟨none,0,0⟩,t,none,BD,⟨none,0,0⟩,⟨none,0,0⟩,⟨none,0,0⟩,d.Ac,[],d.fin,[],⟨[],[]⟩,H,[],[],[],bx0,sM,M⟩⟩ w6 ⟨?_,tm,?_⟩ rfl rfl rfl (λb hb=>(tn b hb).1) tF k06
 ·rw[h6,hw,hd.c];rfl
 ·rw[hd.Ac]at ow6;rw[hd.fin]at fi6;rw[hheld]at he6;refine⟨Bq.of ow6.C6 λb hb=>to b (ow6.rb b hb),.of he6 th,by simp,.of fi6 tf,SI,by simp,⟨ta6,λw2 _ hw=>ta6.heap λb hb=>hw b (by have:=Hlt b hb;omega) (.inl (tH b hb)),λb hb=>⟨by have:=Hlt b hb;omega,tH b hb⟩⟩,SI,by simp,SI,SI,⟨λb hb=>(by cases hb),λw2 _ _ b hb=>(by cases hb),λb hb=>(by cases hb)⟩,SI,Bq.NI λw=>A1.nil w,⟨⟨hs6,hM6⟩,λw2 _ hw=>⟨(hw _ (Av hs6) (.inl ts)).trans hs6,hM6.heap λb hb=>hw b (hM6.lt b hb) (.inr (old b (hM.lt b hb) (λe=>hn (e▸hb)) (λe=>(hF b e).2.2 hb)))⟩,λb hb=>by subst hb;exact⟨Av hs6,ts⟩⟩,λb hb=>(tn b hb).2⟩
theorem Aeu (h:YP d w)(hN:XU d)(hok:OA d.c d.Ac (d.held.map Hd.p) d.fin=true)(h0:d.held=[])(hb:0<=d.c.Au/\d.c.Au+1<18446744073709551616){BD:Nat}{sM:Sl}{M:List Pa}(hs:w.heap[BD]?=some (.cells #[.slice sM.p sM.len sM.cap] 27 (0,0)))(hM:A1 C2 w sM M)(hn:BD∉rb sM){K:TR [.sc .p,.sc (.i .i64)]->Pr}(k:∀m T X w',A6 w' m T X->X.p=⟨{d.c with Au:=d.c.Au+1,HA:=false,e:=0},d.Ac,[],d.fin,[],⟨[],[]⟩,[],[],[],none,M⟩->X.d.BD=BD->X.d.sM=sM->(∀b,T b≠0->b=BD\/w.heap.size<=b)->Aa [] w w'->K (some ⟨m,0,none⟩,0,()) w'):
  Cl Pg 9 [.agg (shA d),stV BD] true [.sc .p,.sc (.i .i64)] K w:=
 Aga h hN hok h0 hb hs hM hn (F:=λ_=>False) (λb hb=>hb.elim) λm T X w' a1 a2 a3 a4 a5 _ a7=>k m T X w' a1 a2 a3 a4 (λb hb=>(a5 b hb).imp id λh=>h.resolve_left id) a7
open Go Go.Sx
def c0:Sc:=⟨1,0,0,1,0,0,0,BA [],BA [],0,0,0,BA [],BA [],false,0⟩
def Adn:List Ow:=[⟨BA [],1⟩,⟨BA [109],2⟩]
def P0 (M:List Pa):PS:=⟨{c0 with Au:=c0.Au+1,HA:=false,e:=0},Adn,[],[],[],⟨[],[]⟩,[],[],[],none,M⟩
def wk (t:Int)(o:Op):PM:=⟨3,0,1,0,0,0,0,0,t,0,0,1,0,0,0,false,BA [],BA [],[o],[],[]⟩
def TG (k v:List UInt8):Op:=⟨2,BA k,BA v,BA [],BA [],0⟩
def VA (k:List UInt8):Op:=⟨1,BA k,BA [],BA [],BA [],0⟩
def dc5:PM:=⟨5,0,1,0,0,0,0,0,5,0,0,0,0,0,0,true,BA [],BA [],[],[],[]⟩
def ak1:PM:=⟨6,1,0,0,0,0,0,0,0,0,0,0,0,0,0,false,BA [],BA [],[],[],[]⟩
def L1:PS:=((P0 []).taken (wk 5 (TG [97] [120])))
def L2:PS:=(L1.clear.taken (wk 6 (VA [97])))
def L3:PS:=(L2.clear.taken (wk 4 (VA [97])))
def L4:PS:=(L3.clear.taken dc5)
def L5:PS:=(L4.clear.taken (wk 7 (TG [122] [])))
theorem t0:OA c0 Adn [] []=true:=by kernel_rfl
theorem t1:(P0 []).bad (wk 5 (TG [97] [120]))=false:=by kernel_rfl
theorem t1o:L1.out.map (λx=>x.code)=[3]:=by kernel_rfl
theorem t1l:(P0 []).FR L1=true:=by kernel_rfl
theorem t2:L1.clear.bad (wk 6 (VA [97]))=false:=by kernel_rfl
theorem t2o:L2.out.map (λx=>x.code)=[5]:=by kernel_rfl
theorem t3:L2.clear.bad (wk 4 (VA [97]))=false:=by kernel_rfl
theorem t3o:L3.out.map (λx=>x.code)=[]:=by kernel_rfl
theorem t3w:L3.clear.wait.map (λx=>x.Ah)=[4]:=by kernel_rfl
theorem t4:L3.clear.bad dc5=false:=by kernel_rfl
theorem t4w:L4.writes.length=1:=by kernel_rfl
theorem t4o:L4.out.map (λx=>(x.kind,x.Ah,x.results.map λr=>r.value))=[(6,5,[]),(4,4,[BA [120]])]:=by kernel_rfl
theorem t5:L4.clear.bad (wk 7 (TG [122] []))=false:=by kernel_rfl
theorem t5o:L5.out.map (λx=>x.code)=[4]:=by kernel_rfl
theorem t6:L5.clear.bad ak1=true:=by kernel_rfl
theorem t7:L5.clear.held.length=1:=by kernel_rfl
theorem t7b:L5.clear.c.Au=1:=by kernel_rfl
theorem b1:L1.clear.box=none:=by kernel_rfl
theorem b2:L2.clear.box=none:=by kernel_rfl
theorem b3:L3.clear.box=none:=by kernel_rfl
theorem b4:L4.clear.box=none:=by kernel_rfl
theorem b5:L5.clear.box=none:=by kernel_rfl
theorem Q1 (h:P.box=none){n:Nat}:AM P n:=λb hb=>by rw[h]at hb;cases hb
theorem PJ0 {M:List Pa}(hM:AU M)(hN:M.length<=200000):PJ (P0 M):=by
 have z:DR 0:=⟨by decide,by decide⟩;have o:DR 1:=⟨by decide,by decide⟩;exact⟨⟨List.Pairwise.nil,List.Pairwise.nil,by simp[P0],List.Pairwise.nil,⟨List.Pairwise.nil,by simp[P0]⟩,by simp[P0],by simp[P0],hM,hN,rfl,by simp[P0],rfl,by simp[P0,PS.left],by simp[P0],by simp[P0]⟩,⟨⟨o,z,o,z,z,z,z,z,z⟩,by simp[P0],by simp[P0],by simp[P0]⟩,⟨by simp[P0],by simp[P0],by simp[P0,Adn]⟩,rfl⟩
open Go Go.Sx
abbrev mgK:List Kd:=[.i .i64,.i .i64,.i .i64,.i .i64,.i .i64,.i .i64,.i .u64,.i .u64,.i .u64,.i .u64,.i .u64,.i .u64,.i .u64,.i .u64,.i .u64,.b,.s,.s,.sl,.sl,.sl]
abbrev mgT (x:Mg):Kw mgK:=(x.kind,x.src,x.dst,x.Ch,x.code,x.peer,x.VT,x.Au,x.Ah,x.low,x.CZ,x.Ao,x.move,x.attempt,x.n,x.flag,x.FN,x.G6,x.so,x.sr,x.sw,())
abbrev Alj (x:Mg):List Value:=[.int .i64 x.kind,.int .i64 x.src,.int .i64 x.dst,.int .i64 x.Ch,.int .i64 x.code,.int .i64 x.peer,.int .u64 x.VT,.int .u64 x.Au,.int .u64 x.Ah,.int .u64 x.low,.int .u64 x.CZ,.int .u64 x.Ao,.int .u64 x.move,.int .u64 x.attempt,.int .u64 x.n,.bool x.flag,.string x.FN,.string x.G6,.slice x.so.p x.so.len x.so.cap,.slice x.sr.p x.sr.len x.sr.cap,.slice x.sw.p x.sw.len x.sw.cap]
theorem Ajp {cs:Array Value}{t:TypeId}(h:w.heap[b]?=some (.cells cs t (0,0)))(hs:cs.size=21)(x:Mg){K:Pr}(k:∀w',w'.heap[b]?=some (.cells (Sm x) t (0,0))->Aa [b] w w'->K w'):
  (St (Addr.add ⟨b,0,none⟩ 0) (.int .i64 x.kind)<|St (Addr.add ⟨b,0,none⟩ 1) (.int .i64 x.src)<|St (Addr.add ⟨b,0,none⟩ 2) (.int .i64 x.dst)<|St (Addr.add ⟨b,0,none⟩ 3) (.int .i64 x.Ch)<|St (Addr.add ⟨b,0,none⟩ 4) (.int .i64 x.code)<|St (Addr.add ⟨b,0,none⟩ 5) (.int .i64 x.peer)<|St (Addr.add ⟨b,0,none⟩ 6) (.int .u64 x.VT)<|St (Addr.add ⟨b,0,none⟩ 7) (.int .u64 x.Au)<|St (Addr.add ⟨b,0,none⟩ 8) (.int .u64 x.Ah)<|St (Addr.add ⟨b,0,none⟩ 9) (.int .u64 x.low)<|St (Addr.add ⟨b,0,none⟩ 10) (.int .u64 x.CZ)<|St (Addr.add ⟨b,0,none⟩ 11) (.int .u64 x.Ao)<|St (Addr.add ⟨b,0,none⟩ 12) (.int .u64 x.move)<|St (Addr.add ⟨b,0,none⟩ 13) (.int .u64 x.attempt)<|St (Addr.add ⟨b,0,none⟩ 14) (.int .u64 x.n)<|St (Addr.add ⟨b,0,none⟩ 15) (.bool x.flag)<|St (Addr.add ⟨b,0,none⟩ 16) (.string x.FN)<|St (Addr.add ⟨b,0,none⟩ 17) (.string x.G6)<|St (Addr.add ⟨b,0,none⟩ 18) (.slice x.so.p x.so.len x.so.cap)<|St (Addr.add ⟨b,0,none⟩ 19) (.slice x.sr.p x.sr.len x.sr.cap)<|St (Addr.add ⟨b,0,none⟩ 20) (.slice x.sw.p x.sw.len x.sw.cap)<|K) w:=L0 (vs:=Alj x) h hs.symm (by simp[Value.oneCell']) k
theorem AkY {t:TypeId}{x:Mg}(h:w.heap[b]?=some (.cells (Sm x) t (0,0))){K:Kw mgK->Pr}(k:K (mgT x) w):
  (A2 .i64 (Addr.add ⟨b,0,none⟩ 0) λx0=>A2 .i64 (Addr.add ⟨b,0,none⟩ 1) λx1=>A2 .i64 (Addr.add ⟨b,0,none⟩ 2) λx2=>A2 .i64 (Addr.add ⟨b,0,none⟩ 3) λx3=>A2 .i64 (Addr.add ⟨b,0,none⟩ 4) λx4=>A2 .i64 (Addr.add ⟨b,0,none⟩ 5) λx5=>A2 .u64 (Addr.add ⟨b,0,none⟩ 6) λx6=>A2 .u64 (Addr.add ⟨b,0,none⟩ 7) λx7=>A2 .u64 (Addr.add ⟨b,0,none⟩ 8) λx8=>A2 .u64 (Addr.add ⟨b,0,none⟩ 9) λx9=>A2 .u64 (Addr.add ⟨b,0,none⟩ 10) λx10=>A2 .u64 (Addr.add ⟨b,0,none⟩ 11) λx11=>A2 .u64 (Addr.add ⟨b,0,none⟩ 12) λx12=>A2 .u64 (Addr.add ⟨b,0,none⟩ 13) λx13=>A2 .u64 (Addr.add ⟨b,0,none⟩ 14) λx14=>E7 (Addr.add ⟨b,0,none⟩ 15) λx15=>BU (Addr.add ⟨b,0,none⟩ 16) λx16=>BU (Addr.add ⟨b,0,none⟩ 17) λx17=>DN (Addr.add ⟨b,0,none⟩ 18) λx18=>DN (Addr.add ⟨b,0,none⟩ 19) λx19=>DN (Addr.add ⟨b,0,none⟩ 20) λx20=>K (x0,x1,x2,x3,x4,x5,x6,x7,x8,x9,x10,x11,x12,x13,x14,x15,x16,x17,x18,x19,x20,())) w:=by
 simp only[sb,h];exact k
def d0 (a:Nat):Sd:=⟨c0,⟨some ⟨a,0,none⟩,2,2⟩,⟨none,0,0⟩,⟨none,0,0⟩,Adn,[],[]⟩
theorem AbQ {K:TR [.ag shK]->Pr}(k:∀a w',YP (d0 a) w'->w.heap.size<=a->Aa [] w w'->K (shT (d0 a),()) w'):Cl Pg 10 [] false [.ag shK] K w:=by
 refine Kg ?_;unfold HC;dsimp only[Ux,Az,AjV,Tu,Vi,Vt,AQ];refine Ad λb w1 h1 n1 k1=>?_;refine Ad λa w2 h2 n2 k2=>?_;refine Ul (k2.Aw h1) rfl (d0 a) λw3 h3 k3=>?_;refine Ai9 (K:=λy=>K (y,())) h3 ?_;have ab:a≠b:=λe=>by have:=Av h1;omega
 have h23:=k3.Mw h2 ab;refine k a w3 ⟨?_,A1.nil _,by simp[d0],A1.nil _⟩ (by have:=k1.size;omega) (BT (Aj k1 k2) k3 n1);have hs:Bh Mj w3 ⟨some ⟨a,0,none⟩,2,2⟩ Adn:=⟨rfl,Nat.le_refl _,.inr ⟨a,0,_,_,_,rfl,h23,(show(4:Nat)<=4 from Nat.le_refl _),λj _=>by rw[Nat.zero_add];show(#[Value.string (BA []),.int .i64 1,.string (BA [109]),.int .i64 2]:Array Value)[j]?=([Value.string (BA []),.int .i64 1,.string (BA [109]),.int .i64 2]:List Value)[j]?;simp,by simp⟩⟩;exact hs.C6
def wkM (t:Int)(o:Op)(b:Nat):Mg:=⟨3,0,1,0,0,0,0,0,t,0,0,1,0,0,0,false,BA [],BA [],⟨some ⟨b,0,none⟩,1,1⟩,⟨none,0,0⟩,⟨none,0,0⟩,[o],[],[]⟩
theorem Tg (t:Int)(o:Op){w:World}{K:TR [.ag mgK]->Pr}(k:∀b w',w'.heap[b]?=some (.cells #[.int .i64 o.kind,.string o.key,.string o.value,.string o.lo,.string o.hi,.int .i64 o.AD] 81 (0,0))->w.heap.size<=b->Aa [] w w'->K (mgT (wkM t o b),()) w'):
  Cl Pg 24 [.int .u64 t,.agg #[.int .i64 o.kind,.string o.key,.string o.value,.string o.lo,.string o.hi,.int .i64 o.AD]] false [.ag mgK] K w:=by
 refine KU _ _ _ _ _ _ _ ?_;unfold Ij;dsimp only[Ar,K2',Bn,AN,Aft,Vt,KW];refine Ad λa w1 h1 n1 k1=>?_;refine Ad λb w2 h2 n2 k2=>?_;have h12:=k2.Aw h1;simp only[sb,h12];refine Ad λc w3 h3 n3 k3=>?_;refine Ajp (k3.Aw h2) rfl (wkM t o c) λw4 h4 k4=>?_;refine AkY (K:=λy=>K (y,())) h4 ?_;have cb:c≠b:=λe=>by have:=Av h2;omega
 exact k c w4 (k4.Mw h3 cb) (by have:=k1.size;have:=k2.size;omega) (BT (Aj (Aj k1 k2) k3) k4 (by have:=k1.size;omega))
theorem AbM {t:Int}(h:w.heap[b]?=some (.cells #[.int .i64 o.kind,.string o.key,.string o.value,.string o.lo,.string o.hi,.int .i64 o.AD] 81 (0,0)))(hT:T b=0):Bq T (Su (wkM t o b)) w:=by
 have h1:=AeW h;have hi:Bq T (λw=>A1 BQ w ⟨some ⟨b,0,none⟩,1,1⟩ [o]) w:=Bq.of h1 λy hy=>by
  rw[Uf (by simp)]at hy;simp[OT]at hy;rw[hy];exact hT
 exact hi.and (Bq.NI (φ:=λw=>Yi ⟨none,0,0⟩ [] w/\A1 Mj w ⟨none,0,0⟩ []) λw=>⟨⟨A1.nil w,by simp⟩,A1.nil w⟩)
def dcM:Mg:=⟨5,0,1,0,0,0,0,0,5,0,0,0,0,0,0,true,BA [],BA [],⟨none,0,0⟩,⟨none,0,0⟩,⟨none,0,0⟩,[],[],[]⟩
def akM:Mg:=⟨6,1,0,0,0,0,0,0,0,0,0,0,0,0,0,false,BA [],BA [],⟨none,0,0⟩,⟨none,0,0⟩,⟨none,0,0⟩,[],[],[]⟩
structure AgK (b:Nat)(so sw:Sl)(l:Bool)(T:Nat->Nat)(w:World):Prop where
 h:w.heap[b]?=some (.cells #[.slice so.p so.len so.cap,.slice sw.p sw.len sw.cap,.bool l] 52 (0,0))
 t:T b=0
theorem AgK.Bm {so sw:Sl}{l:Bool}(h:AgK b so sw l T w)(e:Aq T T' w w'):AgK b so sw l T' w':=⟨(e.at h.h h.t).1,(e.at h.h h.t).2⟩
theorem Aco {so sw:Sl}{l:Bool}(g:A6 w m T X){K:Addr->Pr}(k:∀b w',AgK b so sw l T w'->A6 w' m T X->Aa [] w w'->K ⟨b,0,none⟩ w'):
  At #[.slice none 0 0,.slice none 0 0,.bool false] 52 (λa=>St (a.add 0) (.slice so.p so.len so.cap)<|St (a.add 1) (.slice sw.p sw.len sw.cap)<|St (a.add 2) (.bool l)<|K a) w:=
 bx3 rfl rfl rfl rfl λb w' h' n' k'=>k b w' ⟨h',g.new n'⟩ (g.Ab k') k'
variable {β:Type}
theorem AfT {f:α->β}{l:List α}{b:β}(h:l.map f=[b]):∃x,l=[x]/\f x=b:=by
 match l,h with
 |[x],h=>exact⟨x,rfl,by simpa using h⟩
theorem Alq {f:α->β}{l:List α}{a b:β}(h:l.map f=[a,b]):∃x y,l=[x,y]/\f x=a/\f y=b:=by
 match l,h with
 |[x,y],h=>
  simp only[List.map_cons,List.map_nil,List.cons.injEq,and_true]at h;exact⟨x,y,rfl,h.1,h.2⟩
set_option maxHeartbeats 8000000 in
theorem Ai0 {K:TR [.sc .b]->Pr}(k:∀w',Aa [] w w'->K (true,()) w'):Cl Pg 8 [] false [.sc .b] K w:=by
 refine La ?_;unfold Ip;dsimp only[Ag,Al,Ux,Vv,K2',Lb,Li,Ll,Ls,Lu,Bf,KV,Vb,Vi,Vp,Vt,Vu,AQ,LW];refine AbQ λa w1 h1 n1 k1=>?_;refine Ad λst w2 h2 n2 k2=>?_;have k02:=Aj k1 k2;have nst:w.heap.size<=st:=by have:=k1.size;omega
 refine Aeu (d:=d0 a) (BD:=st) (sM:=⟨none,0,0⟩) (M:=[]) (h1.Ab k2) (show XU (d0 a)from⟨show(2:Nat)<=100000 by decide,show(0:Nat)<=100000 by decide,show(0:Nat)<=200000 by decide,by simp[d0]⟩) t0 rfl ⟨show(0:Int)<=0 by decide,show(0:Int)+1<18446744073709551616 by decide⟩ h2 (A1.nil _) (by simp[rb]) ?_;intro m T X w3 h3 q3 _ _ hT k3;have q3:X.p=P0 []:=q3;have kk:∀(T':Nat->Nat) (w':World),Aq T T' w3 w'->Aa [] w w':=λT' w' e=>by
  have:=(Aj k02 k3).Mh (F:=λ_=>False) |>.trans e.kp (λx hx=>.inr (by have:=hT x hx.1;have:=k02.size;omega));exact this.SU
 have J0:PJ (P0 []):=PJ0 ⟨by simp,List.Pairwise.nil⟩ (by simp);have oks:∀n:Int,0<=n/\n<10->DR n:=λn hn=>⟨hn.1,by omega⟩;refine BR false (λJ hJ=>hJ _ (Aa.refl _ _)) λw4 k4=>?_;simp only[Ae];have E0:Aq T T w3 w4:=Aq.k0 k4;have g0:=h3.Ab k4;have q0:=q3;obtain⟨T0,hT0⟩:∃T0,T0=T:=⟨_,rfl⟩;rw[<-hT0]at g0 E0;obtain⟨X0,hX0⟩:∃X0,X0=X:=⟨_,rfl⟩;rw[<-hX0]at g0 q0;obtain⟨v0,hv0⟩:∃v0,v0=w4:=⟨_,rfl⟩;rw[<-hv0]at g0 E0 ⊢;refine Tg 5 (TG [97] [120]) λy1 u1 hb1 nb1 kb1=>?_;have gg1:=g0.Ab kb1;have EE1:=E0.trans (Aq.k0 kb1);refine Rj gg1 (by rw[q0];exact J0) (by rw[q0];exact Q1 rfl) (wkM 5 (TG [97] [120]) y1) (AbM (t:=5) hb1 (g0.new nb1)) (.inl rfl) (oks 5 ⟨by decide,by decide⟩) (oks 0 ⟨by decide,by decide⟩) (λhb=>by rw[q0]at hb;exact absurd (hb.symm.trans t1) (by decide)) ?_;intro _ so1 sw1 out1 wr1 X1 T1 u'1 h1 q1 ho1 hw1 I1 x1 e1;rw[q0]at q1 ho1 hw1;have q1:X1.p=L1.clear:=q1;have ho1:out1.map Mg.p=L1.out:=ho1;have hw1:wr1=L1.writes:=hw1;have J1:PJ L1.clear:=(J0.taken (x:=(wkM 5 (TG [97] [120]) y1).p) (oks 5 ⟨by decide,by decide⟩) (oks 0 ⟨by decide,by decide⟩) t1 (.inl rfl)).clear;refine Aco h1 λd1 v1 D1 g1 k1=>?_;have E1:=(EE1.trans e1).trans (Aq.k0 k1:Aq T1 T1 _ _);have I1:=I1.Ab k1;refine Tg 6 (VA [97]) λy2 u2 hb2 nb2 kb2=>?_;have gg2:=g1.Ab kb2;have EE2:=E1.trans (Aq.k0 kb2);have D1:=D1.Bm (Aq.k0 kb2:Aq T1 T1 _ _);have I1:=I1.Ab kb2;refine Rj gg2 (by rw[q1];exact J1) (by rw[q1];exact Q1 b1) (wkM 6 (VA [97]) y2) (AbM (t:=6) hb2 (g1.new nb2)) (.inl rfl) (oks 6 ⟨by decide,by decide⟩) (oks 0 ⟨by decide,by decide⟩) (λhb=>by rw[q1]at hb;exact absurd (hb.symm.trans t2) (by decide)) ?_;intro _ so2 sw2 KI wr2 X2 T2 u'2 h2 q2 ho2 hw2 I2 x2 e2;rw[q1]at q2 ho2 hw2;have q2:X2.p=L2.clear:=q2;have ho2:KI.map Mg.p=L2.out:=ho2;have hw2:wr2=L2.writes:=hw2;have J2:PJ L2.clear:=(J1.taken (x:=(wkM 6 (VA [97]) y2).p) (oks 6 ⟨by decide,by decide⟩) (oks 0 ⟨by decide,by decide⟩) t2 (.inl rfl)).clear;refine Aco h2 λd2 v2 D2 g2 k2=>?_;have E2:=(EE2.trans e2).trans (Aq.k0 k2:Aq T2 T2 _ _);have I2:=I2.Ab k2;have D1:=(D1.Bm e2).Bm (Aq.k0 k2:Aq T2 T2 _ _);have I1:=(I1.Bm e2).Ab k2;refine Tg 4 (VA [97]) λy3 u3 hb3 nb3 kb3=>?_;have gg3:=g2.Ab kb3;have EE3:=E2.trans (Aq.k0 kb3);have D1:=D1.Bm (Aq.k0 kb3:Aq T2 T2 _ _);have I1:=I1.Ab kb3;have D2:=D2.Bm (Aq.k0 kb3:Aq T2 T2 _ _);have I2:=I2.Ab kb3;refine Rj gg3 (by rw[q2];exact J2) (by rw[q2];exact Q1 b2) (wkM 4 (VA [97]) y3) (AbM (t:=4) hb3 (g2.new nb3)) (.inl rfl) (oks 4 ⟨by decide,by decide⟩) (oks 0 ⟨by decide,by decide⟩) (λhb=>by rw[q2]at hb;exact absurd (hb.symm.trans t3) (by decide)) ?_;intro _ so3 sw3 out3 wr3 X3 T3 u'3 h3 q3 ho3 hw3 I3 x3 e3;rw[q2]at q3 ho3 hw3;have q3:X3.p=L3.clear:=q3;have ho3:out3.map Mg.p=L3.out:=ho3;have hw3:wr3=L3.writes:=hw3;have J3:PJ L3.clear:=(J2.taken (x:=(wkM 4 (VA [97]) y3).p) (oks 4 ⟨by decide,by decide⟩) (oks 0 ⟨by decide,by decide⟩) t3 (.inl rfl)).clear;refine Aco h3 λd3 v3 D3 g3 k3=>?_;have E3:=(EE3.trans e3).trans (Aq.k0 k3:Aq T3 T3 _ _);have I3:=I3.Ab k3;have D1:=(D1.Bm e3).Bm (Aq.k0 k3:Aq T3 T3 _ _);have I1:=(I1.Bm e3).Ab k3;have D2:=(D2.Bm e3).Bm (Aq.k0 k3:Aq T3 T3 _ _);have I2:=(I2.Bm e3).Ab k3;refine AbI g3 (by have h:=J3.ct.hw;rw[<-q3]at h;have e:X3.p.wait.length=X3.d.wait.length:=List.length_map _;omega) λrW vW hW fW kW=>?_;have lW:rW.len=1:=by
  have h1:rW.len=(X3.d.wait.map (·.Ah)).length:=hW.BY;have h2:=t3w;rw[<-q3]at h2;have h3:=congrArg List.length h2;have e:X3.p.wait.length=X3.d.wait.length:=List.length_map _;rw[List.length_map]at h1 h3;rw[h1,<-e,h3];rfl
 have g3:=g3.Ab kW;have E3:=E3.trans (Aq.k0 kW);have D1:=D1.Bm (Aq.k0 kW:Aq T3 T3 _ _);have I1:=I1.Ab kW;have D2:=D2.Bm (Aq.k0 kW:Aq T3 T3 _ _);have I2:=I2.Ab kW;have D3:=D3.Bm (Aq.k0 kW:Aq T3 T3 _ _);have I3:=I3.Ab kW;have gg4:=g3;have EE4:=E3;refine Rj gg4 (by rw[q3];exact J3) (by rw[q3];exact Q1 b3) (dcM) (Bq.NI (φ:=Su _) λw=>⟨A1.nil w,⟨A1.nil w,by simp[dcM,akM]⟩,A1.nil w⟩) (.inr (.inl rfl)) (oks 5 ⟨by decide,by decide⟩) (oks 0 ⟨by decide,by decide⟩) (λhb=>by rw[q3]at hb;exact absurd (hb.symm.trans t4) (by decide)) ?_;intro _ so4 sw4 out4 wr4 X4 T4 u'4 h4 q4 ho4 hw4 I4 x4 e4;rw[q3]at q4 ho4 hw4;have q4:X4.p=L4.clear:=q4;have ho4:out4.map Mg.p=L4.out:=ho4;have hw4:wr4=L4.writes:=hw4;have J4:PJ L4.clear:=(J3.taken (x:=(dcM).p) (oks 5 ⟨by decide,by decide⟩) (oks 0 ⟨by decide,by decide⟩) t4 (.inr (.inl rfl))).clear;refine Aco h4 λd4 v4 D4 g4 k4=>?_;have E4:=(EE4.trans e4).trans (Aq.k0 k4:Aq T4 T4 _ _);have I4:=I4.Ab k4;have D1:=(D1.Bm e4).Bm (Aq.k0 k4:Aq T4 T4 _ _);have I1:=(I1.Bm e4).Ab k4;have D2:=(D2.Bm e4).Bm (Aq.k0 k4:Aq T4 T4 _ _);have I2:=(I2.Bm e4).Ab k4;have D3:=(D3.Bm e4).Bm (Aq.k0 k4:Aq T4 T4 _ _);have I3:=(I3.Bm e4).Ab k4;refine Tg 7 (TG [122] []) λy5 u5 hb5 nb5 kb5=>?_;have gg5:=g4.Ab kb5;have EE5:=E4.trans (Aq.k0 kb5);have D1:=D1.Bm (Aq.k0 kb5:Aq T4 T4 _ _);have I1:=I1.Ab kb5;have D2:=D2.Bm (Aq.k0 kb5:Aq T4 T4 _ _);have I2:=I2.Ab kb5;have D3:=D3.Bm (Aq.k0 kb5:Aq T4 T4 _ _);have I3:=I3.Ab kb5;have D4:=D4.Bm (Aq.k0 kb5:Aq T4 T4 _ _);have I4:=I4.Ab kb5;refine Rj gg5 (by rw[q4];exact J4) (by rw[q4];exact Q1 b4) (wkM 7 (TG [122] []) y5) (AbM (t:=7) hb5 (g4.new nb5)) (.inl rfl) (oks 7 ⟨by decide,by decide⟩) (oks 0 ⟨by decide,by decide⟩) (λhb=>by rw[q4]at hb;exact absurd (hb.symm.trans t5) (by decide)) ?_;intro _ so5 sw5 out5 wr5 X5 T5 u'5 h5 q5 ho5 hw5 I5 x5 e5;rw[q4]at q5 ho5 hw5;have q5:X5.p=L5.clear:=q5;have ho5:out5.map Mg.p=L5.out:=ho5;have hw5:wr5=L5.writes:=hw5;have J5:PJ L5.clear:=(J4.taken (x:=(wkM 7 (TG [122] []) y5).p) (oks 7 ⟨by decide,by decide⟩) (oks 0 ⟨by decide,by decide⟩) t5 (.inl rfl)).clear;refine Aco h5 λd5 v5 D5 g5 k5=>?_;have E5:=(EE5.trans e5).trans (Aq.k0 k5:Aq T5 T5 _ _);have I5:=I5.Ab k5;have D1:=(D1.Bm e5).Bm (Aq.k0 k5:Aq T5 T5 _ _);have I1:=(I1.Bm e5).Ab k5;have D2:=(D2.Bm e5).Bm (Aq.k0 k5:Aq T5 T5 _ _);have I2:=(I2.Bm e5).Ab k5;have D3:=(D3.Bm e5).Bm (Aq.k0 k5:Aq T5 T5 _ _);have I3:=(I3.Bm e5).Ab k5;have D4:=(D4.Bm e5).Bm (Aq.k0 k5:Aq T5 T5 _ _);have I4:=(I4.Bm e5).Ab k5;refine Rj g5 (by rw[q5];exact J5) (by rw[q5];exact Q1 b5) akM (Bq.NI (φ:=Su _) λw=>⟨A1.nil w,⟨A1.nil w,by simp[akM]⟩,A1.nil w⟩) (.inr (.inr rfl)) (oks 0 ⟨by decide,by decide⟩) (oks 0 ⟨by decide,by decide⟩) ?_ (λhb=>by rw[q5]at hb;exact absurd (t6.symm.trans hb) (by decide));intro _ T6 u6 h6 e6;refine Aco h6 λd6 v6 D6 g6 k6=>?_;have E6:=(E5.trans e6).trans (Aq.k0 k6:Aq T6 T6 _ _);have D1:=(D1.Bm e6).Bm (Aq.k0 k6:Aq T6 T6 _ _);have I1:=(I1.Bm e6).Ab k6;have D2:=(D2.Bm e6).Bm (Aq.k0 k6:Aq T6 T6 _ _);have I2:=(I2.Bm e6).Ab k6;have D3:=(D3.Bm e6).Bm (Aq.k0 k6:Aq T6 T6 _ _);have I3:=(I3.Bm e6).Ab k6;have D4:=(D4.Bm e6).Bm (Aq.k0 k6:Aq T6 T6 _ _);have I4:=(I4.Bm e6).Ab k6;have D5:=(D5.Bm e6).Bm (Aq.k0 k6:Aq T6 T6 _ _);have I5:=(I5.Bm e6).Ab k6;refine Yr g6 (PN.sd (by rw[q5];exact Ru J5.ok J5.ct)) λdS w7 hS k7=>?_;refine Ad λs w8 h8 n8 k8=>?_;refine Ul h8 rfl dS λw9 h9 k9=>?_;have k79:Aa [] v6 w9:=BT (Aj k7 k8) k9 (by have:=k7.size;omega);have E9:=E6.trans (Aq.k0 k79:Aq T6 T6 _ _);have D1:=D1.Bm (Aq.k0 k79:Aq T6 T6 _ _);have I1:=I1.Ab k79;have D2:=D2.Bm (Aq.k0 k79:Aq T6 T6 _ _);have I2:=I2.Ab k79;have D3:=D3.Bm (Aq.k0 k79:Aq T6 T6 _ _);have I3:=I3.Ab k79;have D4:=D4.Bm (Aq.k0 k79:Aq T6 T6 _ _);have I4:=I4.Ab k79;have D5:=D5.Bm (Aq.k0 k79:Aq T6 T6 _ _);have I5:=I5.Ab k79;rw[hT0]at E9;have fin:=k w9 (kk _ _ E9);clear k kk;obtain⟨z1,rfl,hz1⟩:∃z,out1=[z]/\z.code=3:=AfT (f:=λx:Mg=>x.code) (by have h:=congrArg (List.map (λx:PM=>x.code)) ho1;rw[t1o,List.map_map]at h;exact h);obtain⟨z2,rfl,hz2⟩:∃z,KI=[z]/\z.code=5:=AfT (f:=λx:Mg=>x.code) (by have h:=congrArg (List.map (λx:PM=>x.code)) ho2;rw[t2o,List.map_map]at h;exact h);obtain⟨z5,rfl,hz5⟩:∃z,out5=[z]/\z.code=4:=AfT (f:=λx:Mg=>x.code) (by have h:=congrArg (List.map (λx:PM=>x.code)) ho5;rw[t5o,List.map_map]at h;exact h);have hl3:so3.len=0:=by
  have h:=congrArg (List.map (λx:PM=>x.code)) ho3;rw[t3o,List.map_map]at h;have h2:=congrArg List.length h;rw[List.length_map]at h2;rw[I3.ok.1.len,h2];rfl
 obtain⟨z4,z4',rfl,hk4,ht4,hr4⟩:∃z z',out4=[z,z']/\z.kind=6/\z'.Ah=4/\z'.results.map (λr=>r.value)=[BA [120]]:=by
  have h:=congrArg (List.map (λx:PM=>(x.kind,x.Ah,x.results.map λr=>r.value))) ho4;rw[t4o,List.map_map]at h;obtain⟨z,z',e,h1,h2⟩:=Alq h;simp only[Function.comp,Prod.mk.injEq]at h1 h2;refine⟨z,z',e,h1.1,h2.2.1,?_⟩;have:=h2.2.2;rw[show z'.p.results=z'.results.map Rs.p from rfl,List.map_map]at this;exact this
 obtain⟨rr,hrr,hrv⟩:=AfT hr4;have hw4l:sw4.len=1:=by rw[I4.ok.2.2.len,hw4,t4w]
 have hD4:=(I4.ok.2.1 z4' (by simp)).2.1.1;have hsr:z4'.sr.len=1:=by rw[hD4.len,hrr];rfl
 have hheld:dS.sh.len=1:=by
  have h1:dS.sh.len=dS.held.length:=hS.he.BY;have h2:=congrArg List.length hS.held;rw[List.length_map,List.length_map]at h2;have h3:=t7;rw[<-q5]at h3;have e:X5.p.held.length=X5.d.held.length:=List.length_map _;rw[h1,h2];show X5.d.held.length=1;omega
 have hboot:dS.c.Au=1:=by rw[hS.c];have h:=t7b;rw[<-q5]at h;exact h
 have hlast:X0.p.FR (X0.p.taken (wkM 5 (TG [97] [120]) y1).p)=true:=by rw[q0];exact t1l
 have one:((((1:Nat):Int):Int)==1)=true:=rfl;simp only[sb,D1.h];rw[show so1.len=1 from I1.ok.1.len,one];simp only[sb,D1.h];refine ld1 (ρ:=Yz) (i:=0) I1.ok.1 rfl 4 (.i .i64) z1.code rfl ?_;rw[hz1,show((3:Int)==3)=true from rfl];simp only[sb,D1.h];rw[hlast];simp only[sb,D2.h];rw[show so2.len=1 from I2.ok.1.len,one];simp only[sb,D2.h];refine ld1 (ρ:=Yz) (i:=0) I2.ok.1 rfl 4 (.i .i64) z2.code rfl ?_;rw[hz2,show((5:Int)==5)=true from rfl];simp only[sb,D3.h];rw[hl3,show((((0:Nat):Int):Int)==0)=true from rfl];simp only[sb];rw[lW,one];simp only[sb,D4.h];rw[hw4l,one];simp only[sb,D4.h];rw[show so4.len=2 from I4.ok.1.len,show((((2:Nat):Int):Int)==2)=true from rfl];simp only[sb,D4.h];refine ld1 (ρ:=Yz) (i:=0) I4.ok.1 rfl 0 (.i .i64) z4.kind rfl ?_;rw[hk4,show((6:Int)==6)=true from rfl];simp only[sb,D4.h];refine ld1 (ρ:=Yz) (i:=1) I4.ok.1 rfl 8 (.i .u64) z4'.Ah rfl ?_;rw[ht4,show((4:Int)==4)=true from rfl];simp only[sb,D4.h];refine ld1 (ρ:=Yz) (i:=1) I4.ok.1 rfl 19 .sl z4'.sr rfl ?_;rw[hsr,one];simp only[sb,D4.h];refine ld1 (ρ:=Yz) (i:=1) I4.ok.1 rfl 19 .sl z4'.sr rfl ?_;refine ld1 (ρ:=Xg) (i:=0) hD4 (by rw[hrr];rfl) 1 .s rr.value rfl ?_;rw[hrv,show seq (BA [120]) (BA [120])=true from by rw[seq_eq];simp];simp only[sb,D5.h];rw[show so5.len=1 from I5.ok.1.len,one];simp only[sb,D5.h];refine ld1 (ρ:=Yz) (i:=0) I5.ok.1 rfl 4 (.i .i64) z5.code rfl ?_;rw[hz5,show((4:Int)==4)=true from rfl];simp only[sb];rw[show((180:Int)==180)=true from rfl];simp only[sb,h9];rw[hheld,one];simp only[sb,h9];rw[hboot,show((1:Int)==1)=true from rfl];exact fin
open Go Go.Sx
theorem AfU (P:PS)(low:Int):(P.Bk low).writes=P.writes:=by unfold PS.Bk;split<;>rfl
theorem AfF (h:Bj P)(t Ao:Int){ops:List Op}(ho:A9 ops=0)(hl:ops.length<=24)(hb:P.out.length+P.left+60<=20000):(P.Du t Ao ops).writes=P.writes:=by
 unfold PS.Du;cases hg:P.gone t with
 |true=>rw[if_pos rfl]
 |false=>
  rw[if_neg (by simp)];cases hh:P.TJ t with
  |true=>
   rw[if_pos rfl];split<;>rfl
  |false=>
   rw[if_neg (by simp)];cases hr:P.C7 Ao ops with
   |true=>rw[if_pos rfl];rfl
   |false=>
    rw[if_neg (by simp)];have hwis:P.Pb t=false:=by unfold PS.gone at hg;simp only[Bool.or_eq_false_iff]at hg;exact hg.2
    have hful:P.full=false:=by unfold PS.C7 at hr;simp only[Bool.or_eq_false_iff]at hr;exact hr.2.1
    have hc:P.held.length+P.wait.length<6:=by unfold PS.full at hful;simp only[Bool.or_eq_false_iff,decide_eq_false_iff_not]at hful;omega
    obtain⟨h1,b1⟩:=h.await ho hl (KY h hwis) (Nd h hh) (by omega) hb;obtain⟨h2,b2⟩:=h1.Cw 30 (t:=t);exact((GO 30 (t:=t) h1).trans (Cv DU h2)).writes
theorem Ahq (P:PS)(t:Int):(P.BV t).writes=P.writes:=by unfold PS.BV;split<;>rfl
theorem Oy (h:Bj P)(t:Int)(hf:P.fin.length<100000):FM (P.BV t) (P.finish t):=by
 obtain⟨h1,_⟩:=h.BV t hf;obtain⟨h2,_⟩:=h1.release t;exact(Pm _ t).trans (Cv DU h2)
theorem AgY (h:Bj P){i:Nat}{x:PH}(hx:P.held[i]?=some x):∀y∈P.held.take i++P.held.drop (i+1),y.Ah≠x.Ah:=by
 intro y hy e;have hi:=(List.getElem?_eq_some_iff.1 hx).1;rcases List.mem_append.1 hy with hy|hy
 ·obtain⟨j,hj,rfl⟩:=List.mem_take_iff_getElem.1 hy;have:=List.pairwise_iff_getElem.1 h.hd j i (by omega) hi (by omega);rw[(List.getElem?_eq_some_iff.1 hx).2]at this;omega
 ·obtain⟨j,hj⟩:=List.getElem?_of_mem hy;rw[List.getElem?_drop]at hj;obtain⟨h1,h2⟩:=List.getElem?_eq_some_iff.1 hj;have:=List.pairwise_iff_getElem.1 h.hd i (i+1+j) hi h1 (by omega);rw[(List.getElem?_eq_some_iff.1 hx).2,h2]at this;omega
theorem Vg (h:PJ P):P.fin.length<100000:=by have:=h.ct.all;omega
open Go Go.Sx
theorem PJ.store (h:PJ P){M:List Pa}(hM:AU M)(hN:M.length<=200000):PJ {P with M:=M}:=
 ⟨⟨h.ok.wt,h.ok.hd,h.ok.dj,h.ok.fn,h.ok.tb,h.ok.wv,h.ok.hv,hM,hN,h.ok.wr,h.ok.wn,h.ok.er,h.ok.bd,h.ok.hn,h.ok.fl⟩,⟨h.rg.c,h.rg.held,h.rg.wait,h.rg.fin⟩,⟨h.ct.hw,h.ct.all,h.ct.ow⟩,h.line⟩
theorem AgT (h:Bj P)(t Ao:Int){ops:List Op}(ho:A9 ops=0)(hl:ops.length<=24)(hb:P.out.length+P.left+60<=20000):(P.Du t Ao ops).M=P.M:=by
 unfold PS.Du;cases hg:P.gone t with
 |true=>rw[if_pos rfl]
 |false=>
  rw[if_neg (by simp)];cases hh:P.TJ t with
  |true=>
   rw[if_pos rfl];split<;>rfl
  |false=>
   rw[if_neg (by simp)];cases hr:P.C7 Ao ops with
   |true=>rw[if_pos rfl];rfl
   |false=>
    rw[if_neg (by simp)];have hwis:P.Pb t=false:=by unfold PS.gone at hg;simp only[Bool.or_eq_false_iff]at hg;exact hg.2
    have hful:P.full=false:=by unfold PS.C7 at hr;simp only[Bool.or_eq_false_iff]at hr;exact hr.2.1
    have hc:P.held.length+P.wait.length<6:=by unfold PS.full at hful;simp only[Bool.or_eq_false_iff,decide_eq_false_iff_not]at hful;omega
    obtain⟨h1,b1⟩:=h.await ho hl (KY h hwis) (Nd h hh) (by omega) hb;obtain⟨h2,b2⟩:=h1.Cw 30 (t:=t);exact((GO 30 (t:=t) h1).trans (Cv DU h2)).M
theorem Afg (h:PJ P)(u:Int)(flag:Bool)(hb:P.out.length+1+P.left<=20000)(hw:P.writes.length<=900):(P.decide u flag).M=P.M:=by
 have hfM:∀{Q:PS},Bj Q->Q.fin.length<100000->(Q.finish u).M=Q.M:=λ{Q} hq hf=>(Oy hq u hf).M.trans (by unfold PS.BV;split<;>rfl);have ha:Bj (P.Fh u):=h.ok.Fh u hb;have hf:=Vg h;unfold PS.decide;cases hh:P.TJ u with
 |true=>
  rw[if_pos rfl];obtain⟨x,hx,hxt⟩:=MN h.ok hh;rw[hx];dsimp only;obtain⟨v1,v2⟩:=h.ok.hv x (List.mem_of_getElem? hx);have hwl:=OZ flag x.ops;have hu:Bj ((P.Fh u).AO (P.DY u)):=ha.AO _;have hwa:Bj (((P.Fh u).AO (P.DY u)).writeAll (PS.Mn flag x.ops)):=hu.writeAll (OC v1) (by show P.writes.length+_<=1000;omega);have e:=Bz (PS.Mn flag x.ops) ((P.Fh u).AO (P.DY u));rw[hfM hwa (by rw[e];exact hf),e];rfl
 |false=>
  rw[if_neg (by simp)];cases hwi:P.Pb u with
  |true=>
   rw[if_pos rfl];obtain⟨x,hx,hxt⟩:=D9 h.ok hwi;obtain⟨hu,_⟩:=ha.Ay (i:=P.Ce u) hx;rw[hfM hu hf];rfl
  |false=>
   rw[if_neg (by simp)];rfl
open Go Go.Sx
def flR:Rec Bool:=Rec.sca .b rfl
theorem ldb {s:Sl}{l:List Bool}(h:A1 flR w s l){i:Nat}{x:Bool}(hx:l[i]?=some x){K:Bool->Pr}(k:K x w):Ix s (i:Int) 1 (λa=>E7 a K) w:=by
 obtain⟨a,ha,hc⟩:=h.at hx;have hi:=(List.getElem?_eq_some_iff.1 hx).1;have hl:s.len=l.length:=h.len;unfold Ix;rw[ha];refine⟨by omega,by omega,?_⟩;rw[Int.toNat_natCast];have h0:=hc 0 (.bool x) rfl;rw[add_add,Nat.add_zero]at h0;exact DO (k:=.b) (x:=x) h0 k
open Go Go.Sx
theorem Ki (a:ByteArray):seq a a=true:=by rw[seq_eq];simp
theorem Ajc {a b:Sl}{l:List Pa}(ha:A1 C2 w a l)(hb:A1 C2 w b l)(hN:l.length<=100000000){K:TR [.sc .b]->Pr}(k:∀w',Aa [] w w'->K (true,()) w'):Cl Pg 23 [.slice a.p a.len a.cap,.slice b.p b.len b.cap] false [.sc .b] K w:=by
 have la:=ha.len;have lb:=hb.len;refine KX _ _ ?_;unfold JK;dsimp only[Ls];rw[show((((a.len:Nat):Int):Int) !=((b.len:Nat):Int))=false from by rw[la,lb];simp];simp only[Ae];refine⟨λn st w'=>∃(i:Nat) (q:Bool),st=(q,(i:Int),())/\n=l.length-i/\i<=l.length/\Aa [] w w',⟨_,0,false,rfl,rfl,by omega,Aa.refl _ _⟩,?_⟩;rintro n _ w1 ⟨i,q,rfl,rfl,hi,k1⟩;dsimp only;by_cases hlt:i<l.length
 ·rw[decide_eq_true (by omega)];simp only[Af];obtain⟨x,hx⟩:∃x,l[i]?=some x:=⟨_,List.getElem?_eq_getElem hlt⟩;unfold Dr;refine KH (ha.Ab k1.drew) hx ?_;refine KH (hb.Ab k1.drew) hx ?_;rw[Ki,Ki];exact⟨l.length-(i+1),by omega,i+1,q,by rw[AK (by omega)],rfl,by omega,k1.drew⟩
 ·rw[decide_eq_false (by omega)];exact k w1 k1
open Go Go.Sx
theorem Aik (z:Mg){K:Addr->Pr}{w:World}(h:∀b w1,w1.heap[b]?=some (.cells #[.int .i64 z.kind,.int .i64 z.src,.int .i64 z.dst,.int .i64 z.Ch,.int .i64 z.code,.int .i64 z.peer,.int .u64 z.VT,.int .u64 z.Au,.int .u64 z.Ah,.int .u64 z.low,.int .u64 z.CZ,.int .u64 z.Ao,.int .u64 z.move,.int .u64 z.attempt,.int .u64 z.n,.bool z.flag,.string z.FN,.string z.G6,.slice z.so.p z.so.len z.so.cap,.slice z.sr.p z.sr.len z.sr.cap,.slice z.sw.p z.sw.len z.sw.cap] 47 (0,0))->w.heap.size<=b->Aa [] w w1->K ⟨b,0,none⟩ w1):
  At #[.int .i64 0,.int .i64 0,.int .i64 0,.int .i64 0,.int .i64 0,.int .i64 0,.int .u64 0,.int .u64 0,.int .u64 0,.int .u64 0,.int .u64 0,.int .u64 0,.int .u64 0,.int .u64 0,.int .u64 0,.bool false,.string (BA []),.string (BA []),.slice none 0 0,.slice none 0 0,.slice none 0 0] 47 (λa=>St (a.add 0) (.int .i64 z.kind)<|St (a.add 1) (.int .i64 z.src)<|St (a.add 2) (.int .i64 z.dst)<|St (a.add 3) (.int .i64 z.Ch)<|St (a.add 4) (.int .i64 z.code)<|St (a.add 5) (.int .i64 z.peer)<|St (a.add 6) (.int .u64 z.VT)<|St (a.add 7) (.int .u64 z.Au)<|St (a.add 8) (.int .u64 z.Ah)<|St (a.add 9) (.int .u64 z.low)<|St (a.add 10) (.int .u64 z.CZ)<|St (a.add 11) (.int .u64 z.Ao)<|St (a.add 12) (.int .u64 z.move)<|St (a.add 13) (.int .u64 z.attempt)<|St (a.add 14) (.int .u64 z.n)<|St (a.add 15) (.bool z.flag)<|St (a.add 16) (.string z.FN)<|St (a.add 17) (.string z.G6)<|St (a.add 18) (.slice z.so.p z.so.len z.so.cap)<|St (a.add 19) (.slice z.sr.p z.sr.len z.sr.cap)<|St (a.add 20) (.slice z.sw.p z.sw.len z.sw.cap)<|(K a)) w:=
 Ei (vs:=Yz.c z) rfl (Yz.one z) h
open Go Go.Sx Go.ChangeShapes Go.WideShapes Go.ChangeAt Go.RowKit
section
variable {H:Type}{enc:TypeId×Value->H}{W:World}
theorem Zh (h:Tz enc Pg W 25 v):∃(s:Sl) (l:List Pa),v=.slice s.p s.len s.cap/\A1 C2 W s l/\s.len*Pg.bytesOf 111<=140737488355328/\∀x∈l,True:=
 h.list (k:=6) (e:=111) (L:=[9,9]) (ρ:=C2) (by kernel_rfl) (by kernel_rfl) (by kernel_rfl) (by kernel_rfl) λy _=>⟨⟨y.1,y.2.1⟩,rfl,trivial⟩
theorem AhM (h:Tz enc Pg W 44 v):∃(s:Sl) (l:List Op),v=.slice s.p s.len s.cap/\A1 BQ W s l/\s.len*Pg.bytesOf 81<=140737488355328/\∀x∈l,True:=
 h.list (k:=6) (e:=81) (L:=[3,9,9,9,9,3]) (ρ:=BQ) (by kernel_rfl) (by kernel_rfl) (by kernel_rfl) (by kernel_rfl) λy _=>⟨⟨y.1,y.2.1,y.2.2.1,y.2.2.2.1,y.2.2.2.2.1,y.2.2.2.2.2.1⟩,rfl,trivial⟩
theorem Xs {s t:Sl}(h:(Value.slice s.p s.len s.cap)=.slice t.p t.len t.cap):s=t:=by
 cases s;cases t;simp only[Value.slice.injEq]at h;obtain⟨rfl,rfl,rfl⟩:=h;rfl
theorem Akl (h:Tz enc Pg W 63 v):∃(s:Sl) (l:List Bool),v=.slice s.p s.len s.cap/\A1 (Rec.sca .b rfl) W s l/\s.len*Pg.bytesOf 4<=140737488355328/\∀x∈l,True:=
 h.list (k:=6) (e:=4) (L:=[4]) (ρ:=Rec.sca .b rfl) (by kernel_rfl) (by kernel_rfl) (by kernel_rfl) (by kernel_rfl) λy _=>⟨y.1,rfl,trivial⟩
end
open Go Go.Sx
def AbY (p:Pa):Bool:=!Kx p.k||decide (p.v.size>16)
def AfJ (x:Rp):Bool:=decide (x.value.size>16)||(decide (x.LL.length>4)||x.LL.any AbY)
def Wq (l:List Rp)(AD:Int):Bool:=decide ((l.length:Int)<=AD)&&!(l.any AfJ)
theorem OS {s:Sl}{l:List Rs}(h:Yi s l w)(AD:Int)(hm:AD<=1000000){K:TR [.sc .b]->Pr}(k:∀w',Aa [] w w'->K (Wq (l.map Rs.p) AD,()) w'):Cl Pg 140 [.slice s.p s.len s.cap,.int .i64 AD] false [.sc .b] K w:=by
 have hl:=h.1.len;refine P8 _ _ ?_;unfold P6;dsimp only[Vp,Vs];refine⟨rfl,?_⟩;refine Ad λa w1 h1 n1 k1=>?_;refine Ax h1 0 _ rfl (by simp) λw2 h2 k2=>?_;simp only[Ck]at h2;have k02:=BT k1 k2 n1;unfold Wq at k;rw[List.length_map]at k;by_cases hc:(l.length:Int)<=AD
 ·rw[decide_eq_true (by rw[hl];exact hc)];rw[decide_eq_true hc,Bool.true_and]at k;simp only[Af];refine Mi (p:=λx=>AfJ x.p) (F:=λ_=>False) (h.1.Ab k02) ?_ (by omega) λw3 k3=>?_
  ·intro w4 k4 x hx K1 hK;have k4:=k4.SU;have ha4:=k4.Aw h2;have hp:A1 C2 w4 x.sp x.LL:=A1.Ab (h.2 x hx) (Aj k02 k4);have hpl:=hp.len;refine BJ (by kernel_rfl) ?_;refine Nt x.found x.value x.sp _ ?_;unfold ML;dsimp only[Aat,Ll,Ls,Vs];refine Ad λb w5 h5 n5 k5=>?_;simp only[sb,h5];have hK:∀w'',Aa [] w4 w''->K1 (decide (x.value.size>16)||(decide (x.LL.length>4)||x.LL.any AbY),()) w'':=hK;by_cases c1:x.value.size>16
   ·rw[decide_eq_true (by omega)];rw[decide_eq_true c1,Bool.true_or]at hK;exact hK _ k5
   ·rw[decide_eq_false (by omega)];rw[decide_eq_false c1,Bool.false_or]at hK;simp only[Ae,sb,h5];by_cases c2:x.LL.length>4
    ·rw[decide_eq_true (by omega)];rw[decide_eq_true c2,Bool.true_or]at hK;exact hK _ k5
    ·rw[decide_eq_false (by omega)];rw[decide_eq_false c2,Bool.false_or]at hK;simp only[Ae,sb,h5,k5.Aw ha4];refine N8 (p:=AbY) (F:=λ_=>False) (hp.Ab k5) ?_ (by omega) λw6 k6=>?_
     ·intro w7 k7 y hy K2 hK2;refine Ap (by kernel_rfl) ?_;refine Nx y.k y.v ?_;unfold MW;dsimp only[Ls,Vt];refine Ad λc w8 h8 n8 k8=>?_;simp only[sb,h8];refine Hb _ ?_;unfold AbY at hK2;dsimp only;cases c3:Kx y.k with
      |false=>
       rw[c3]at hK2;simp only[Bool.false_eq_true,if_false,show((20:Int) !=0)=true from rfl,sb];exact hK2 _ k8
      |true=>
       rw[c3,Bool.not_true,Bool.false_or]at hK2;simp only[if_true,show((0:Int) !=0)=false from rfl,sb,h8];rw[show decide (((y.v.size:Nat):Int)>16)=decide (y.v.size>16)from decide_eq_decide.2 (by omega)];exact hK2 _ k8
     ·exact hK w6 (Aj k5 k6)
  ·have:=k w3 (Aj k02 k3);rw[show(l.map Rs.p).any AfJ=l.any (λx=>AfJ x.p)from by rw[List.any_map];rfl]at this;exact this
 ·rw[decide_eq_false (by rw[hl];exact hc)];rw[decide_eq_false hc]at k;exact k _ k02
def PC (l:List Op):Bool:=decide (0<l.length)&&(decide (l.length<=4)&&decide (A9 l=0))
theorem Acp {s:Sl}{l:List Op}(h:A1 BQ w s l){K:TR [.sc (.i .i64)]->Pr}(k:∀e w',(decide (e=0))=PC l->Aa [] w w'->K (e,()) w'):Cl Pg 138 [.slice s.p s.len s.cap] false [.sc (.i .i64)] K w:=by
 have hl:=h.len;refine VK _ ?_;unfold Y4;dsimp only[Vs];unfold PC at k;refine BR (decide (l.length=0)||decide (l.length>4)) (λJ hJ=>?_) λw1 k1=>?_
 ·by_cases c0:l.length=0
  ·rw[decide_eq_true c0,Bool.true_or]at hJ;rw[show((((s.len:Nat):Int):Int)==0)=true from by rw[hl,c0];rfl];exact hJ _ (Aa.refl _ _)
  ·rw[decide_eq_false c0,Bool.false_or]at hJ;rw[show((((s.len:Nat):Int):Int)==0)=false from by rw[hl];simpa using c0];rw[show decide (((s.len:Nat):Int)>4)=decide (l.length>4)from decide_eq_decide.2 (by omega)];exact hJ _ (Aa.refl _ _)
 ·by_cases c0:l.length=0
  ·rw[decide_eq_true c0,Bool.true_or];rw[decide_eq_false (by omega),Bool.false_and]at k;exact k 3 w1 rfl k1
  ·rw[decide_eq_false c0,Bool.false_or];rw[decide_eq_true (by omega),Bool.true_and]at k;by_cases c4:l.length>4
   ·rw[decide_eq_true c4];rw[decide_eq_false (by omega),Bool.false_and]at k;exact k 3 w1 rfl k1
   ·rw[decide_eq_false c4];rw[decide_eq_true (by omega),Bool.true_and]at k;simp only[Ae];refine Ah1 (h.Ab k1) (by omega) λw2 k2=>?_;exact k _ w2 rfl (Aj k1 k2)
theorem Akg (x:Mg){w:World}(h:A1 BQ w x.so x.ops):Gfn (Ez 137) x (PC x.ops) w:=by
 intro w1 k1 K hK;refine Ap (by kernel_rfl) ?_;refine Ox _ _ _ _ _ _ _ _ _ _ _ _ _ _ _ _ _ _ x.so x.sr x.sw ?_;unfold NX;dsimp only[Ag,Ll,Vs];refine Ad λa w2 h2 n2 k2=>?_;simp only[sb,h2];refine Acp (h.Ab (Aj k1 k2)) λe w3 he k3=>?_;rw[show((e:Int)==0)=PC x.ops from by rw[<-he];rfl];exact hK w3 (Aj k2 k3)
def Aid (x:PM):Bool:=(x.code==1||x.code==2)&&Wq x.results 4
theorem Ajs (x:Mg){w:World}(h:Yi x.sr x.results w):Gfn (Ez 139) x (Aid x.p) w:=by
 intro w1 k1 K hK;refine Ap (by kernel_rfl) ?_;refine O0 _ _ _ _ _ _ _ _ _ _ _ _ _ _ _ _ _ _ x.so x.sr x.sw ?_;unfold Oe;dsimp only[Ag,Li,Ll,Vi,Vs];refine Ad λa w2 h2 n2 k2=>?_;have k02:=Aj k1 k2;have hr:Yi x.sr x.results w2:=⟨h.1.Ab k02,λy hy=>A1.Ab (h.2 y hy) k02⟩;have e:Aid x.p=((x.code==1||x.code==2)&&Wq (x.results.map Rs.p) 4):=rfl;rw[e]at hK;simp only[sb,h2];cases c1:((x.code:Int)==1)with
 |true=>
  rw[c1,Bool.true_or,Bool.true_and]at hK;simp only[sb,h2];exact OS hr 4 (by decide) λw3 k3=>hK w3 (Aj k2 k3)
 |false=>
  rw[c1,Bool.false_or]at hK;simp only[sb,h2];cases c2:((x.code:Int)==2)with
  |true=>
   rw[c2,Bool.true_and]at hK;simp only[sb,h2];exact OS hr 4 (by decide) λw3 k3=>hK w3 (Aj k2 k3)
  |false=>
   rw[c2,Bool.false_and]at hK;simp only[sb];exact hK w2 k2
def Afs (x:PM):Bool:=decide (x.code>=3)&&(decide (x.code<=5)&&Wq x.results 24)
theorem AhP (x:Mg){w:World}(h:Yi x.sr x.results w):Gfn (Ez 144) x (Afs x.p) w:=by
 intro w1 k1 K hK;refine Ap (by kernel_rfl) ?_;refine O6 _ _ _ _ _ _ _ _ _ _ _ _ _ _ _ _ _ _ x.so x.sr x.sw ?_;unfold Ob;dsimp only[Ag,Li,Ll,Vi,Vs];refine Ad λa w2 h2 n2 k2=>?_;have k02:=Aj k1 k2;have hr:Yi x.sr x.results w2:=⟨h.1.Ab k02,λy hy=>A1.Ab (h.2 y hy) k02⟩;have e:Afs x.p=(decide (x.code>=3)&&(decide (x.code<=5)&&Wq (x.results.map Rs.p) 24)):=rfl;rw[e]at hK;simp only[sb,h2];cases c1:decide ((x.code:Int)>=3)with
 |false=>
  rw[c1,Bool.false_and]at hK;exact hK w2 k2
 |true=>
  rw[c1,Bool.true_and]at hK;simp only[sb,h2];cases c2:decide ((x.code:Int)<=5)with
  |false=>
   rw[c2,Bool.false_and]at hK;exact hK w2 k2
  |true=>
   rw[c2,Bool.true_and]at hK;simp only[sb,h2];exact OS hr 24 (by decide) λw3 k3=>hK w3 (Aj k2 k3)
theorem Ajl (x:Mg){w:World}(h:A1 Mj w x.sw x.Ac)(hN:x.Ac.length<=140737488355328):Gfn (Ez 146) x (Be x.Ac) w:=by
 intro w1 k1 K hK;refine Ap (by kernel_rfl) ?_;refine OQ _ _ _ _ _ _ _ _ _ _ _ _ _ _ _ _ _ _ x.so x.sr x.sw ?_;unfold Oi;dsimp only[Ag,Ll,Vs];refine Ad λa w2 h2 n2 k2=>?_;simp only[sb,h2];refine Pj (h.Ab (Aj k1 k2)) hN λw3 k3=>?_;rw[show(((if Be x.Ac then(0:Int)else 170):Int)==0)=Be x.Ac from by cases Be x.Ac<;>rfl];exact hK w3 (Aj k2 k3)
theorem Af6 (n:Int){w:World}{K:TR [.sc .b]->Pr}(k:K (BE n,()) w):Cl Pg 141 [.int .i64 n] false [.sc .b] K w:=by
 refine LN _ ?_;unfold Oo;unfold BE at k;cases h:decide (n>=1)with
 |true=>rw[h,Bool.true_and]at k;exact k
 |false=>rw[h,Bool.false_and]at k;exact k
def YG (x:PM):Bool:=BE x.peer&&Da x.FN x.G6
theorem AjB (c:Bool):(((if c then(0:Int)else 21):Int)==0)=c:=by cases c<;>rfl
theorem AhL (x:Mg)(w:World):Gfn (Ez 147) x (YG x.p) w:=by
 intro w1 k1 K hK;refine Ap (by kernel_rfl) ?_;refine O8 _ _ _ _ _ _ _ _ _ _ _ _ _ _ _ _ _ _ x.so x.sr x.sw ?_;unfold Og;dsimp only[Ag,Li,Ls,Vi,Vt];refine Ad λa w2 h2 n2 k2=>?_;have e:YG x.p=(BE x.peer&&Da x.FN x.G6):=rfl;rw[e]at hK;simp only[sb,h2];refine Af6 _ ?_;dsimp only;cases c1:BE x.peer with
 |false=>
  rw[c1,Bool.false_and]at hK;exact hK w2 k2
 |true=>
  rw[c1,Bool.true_and]at hK;simp only[sb,h2,A5,Nat.reduceAdd];refine M1 _ _ λw3 k3=>?_;dsimp only;rw[AjB];exact hK w3 (Aj k2 k3)
def WG (x:PM):Bool:=!(x.src==x.dst)&&((decide (x.ops.length<=6)&&decide (A9 x.ops=0))&&(Da x.FN x.G6&&!(x.ops.any λo=>!fWr o.kind)))
theorem AhV (x:Mg){w:World}(h:A1 BQ w x.so x.ops):Gfn (Ez 148) x (WG x.p) w:=by
 intro w1 k1 K hK;refine Ap (by kernel_rfl) ?_;refine OW _ _ _ _ _ _ _ _ _ _ _ _ _ _ _ _ _ _ x.so x.sr x.sw ?_;unfold NV;dsimp only[Ag,Li,Ll,Ls,Vi,Vs,Vt];refine Ad λa w2 h2 n2 k2=>?_;have e:WG x.p=(!(x.src==x.dst)&&((decide (x.ops.length<=6)&&decide (A9 x.ops=0))&&(Da x.FN x.G6&&!(x.ops.any λo=>!fWr o.kind)))):=rfl;rw[e]at hK;simp only[sb,h2];rw[show((x.src:Int) !=x.dst)=!(x.src==x.dst)from rfl];cases c1:(x.src==x.dst)with
 |true=>
  rw[c1]at hK;exact hK w2 k2
 |false=>
  rw[c1,Bool.not_false,Bool.true_and]at hK;simp only[Bool.not_false,sb,h2];refine Ahu (h.Ab (Aj k1 k2)) 6 (by decide) λw3 k3=>?_;have h3:=k3.Aw h2;rw[show decide ((x.ops.length:Int)<=6)=decide (x.ops.length<=6)from decide_eq_decide.2 (by omega)];dsimp only;cases c2:(decide (x.ops.length<=6)&&decide (A9 x.ops=0))with
  |false=>
   rw[c2,Bool.false_and]at hK;exact hK w3 (Aj k2 k3)
  |true=>
   rw[c2,Bool.true_and]at hK;have hl6:x.ops.length<=6:=by rw[Bool.and_eq_true]at c2;exact of_decide_eq_true c2.1
   simp only[sb,h3,A5,Nat.reduceAdd];refine M1 _ _ λw4 k4=>?_;have h4:=k4.Aw h3;dsimp only;rw[AjB];cases c3:Da x.FN x.G6 with
   |false=>
    rw[c3,Bool.false_and]at hK;exact hK w4 (Aj (Aj k2 k3) k4)
   |true=>
    rw[c3,Bool.true_and]at hK;simp only[sb,h4];have k24:=Aj (Aj k2 k3) k4;refine BN (p:=λo=>!fWr o.kind) (F:=λ_=>False) (h.Ab (Aj k1 k24)) ?_ (by omega) λw5 k5=>?_
    ·intro w6 k6 o ho K1 hK1;refine Ap (by kernel_rfl) ?_;refine Mo _ _ _ _ _ _ ?_;unfold LS;dsimp only[Ar,AN];refine Ad λc w7 h7 n7 k7=>?_;simp only[sb,h7];refine Vn o λw8 k8=>?_;exact hK1 w8 (Aj k7 k8)
    ·exact hK w5 (Aj k24 k5)
def Acd (x:PM):Bool:=!(x.src==x.dst)
theorem Aeq (x:Mg)(w:World):Gfn (Ez 150) x (Acd x.p) w:=by
 intro w1 k1 K hK;refine Ap (by kernel_rfl) ?_;refine OX _ _ _ _ _ _ _ _ _ _ _ _ _ _ _ _ _ _ x.so x.sr x.sw ?_;unfold NY;dsimp only[Ag,Li];refine Ad λa w2 h2 n2 k2=>?_;simp only[sb,h2];exact hK w2 k2
def pmA (x:PM):Bool:=
 if x.kind=1 then BW TB CY (PC x.ops) x&&Em [113,98,111] x
 else if x.kind=2 then BW CY TB (Aid x) x&&Em [113,98,99,115] x
 else if x.kind=3 then BW CY BE (decide (0<x.ops.length)&&(decide (x.ops.length<=24)&&decide (A9 x.ops=0))) x&&Em [116,108,101,111] x
 else if x.kind=4 then BW BE CY (Afs x) x&&Em [116,99,115] x
 else if x.kind=5 then BW CY BE true x&&Em [116,102] x
 else if x.kind=6 then BW BE CY true x&&Em [116] x
 else if x.kind=7 then BW BE CY true x&&Em [116] x
 else if x.kind=8 then BW CY BE (Be x.Ac) x&&Em [118,101,109,119] x
 else if x.kind=9 then BW BE CY true x&&Em [118] x
 else if x.kind=10 then BW CY BE (YG x) x&&Em [118,109,112,102,114] x
 else if x.kind=11 then BW BE BE (WG x) x&&Em [109,97,110,114,111] x
 else if x.kind=12 then BW BE BE (Acd x) x&&Em [109,97,110] x
 else if x.kind=13 then BW BE CY true x&&Em [109] x
 else if x.kind=14 then BW BE CY true x&&Em [109] x
 else false
theorem ZI {x:PM}(hk:x.kind=3\/x.kind=5\/x.kind=6):pmA x=Q9 x:=by
 unfold pmA Q9;rcases hk with hk|hk|hk<;>simp[hk]
theorem AeC {x:Mg}(hf:LC x.kind GS=none){K:TR [.sc (.i .i64)]->Pr}(k:∀w',Aa [] w w'->K (180,()) w'):Cl Pg 31 [.agg (Sm x)] false [.sc (.i .i64)] K w:=by
 refine LR _ _ _ _ _ _ _ _ _ _ _ _ _ _ _ _ _ _ x.so x.sr x.sw ?_;unfold OI;dsimp only[Ag,K4',Li,Bn,Ls,Tt,Vi,Vp,Vs,Vt];refine Ad λm w1 hm n1 k1=>?_;simp only[sb,hm];refine Ab4 x.kind λw2 k2=>?_;rw[hf];refine Aiw rfl rfl rfl rfl rfl λf w3 hf3 n3 k3=>?_;have k03:=Aj (Aj k1 k2) k3;refine BR true (λJ hJ=>?_) λw4 k4=>?_
 ·simp only[Option.isSome_none,Bool.not_false,sb];exact hJ _ (Aa.refl _ _)
 ·simp only[sb];exact k w4 (Aj k03 k4)
theorem AdX {x:Mg}(hx:Su x w)(hN:x.Ac.length<=140737488355328){K:TR [.sc (.i .i64)]->Pr}(k:∀w',Aa [] w w'->K (if pmA x.p then 0 else 180,()) w'):Cl Pg 31 [.agg (Sm x)] false [.sc (.i .i64)] K w:=by
 have z:=Afj (x:=x) hx.1.len hx.2.1.1.len hx.2.2.len;have fin:∀{fr to:Int->Bool} {gd:Bool} {l:List Int},pmA x.p=(BW fr to gd x.p&&Em l x.p)->(∀w',Aa [] w w'->K (if Se fr to gd x&&TD l x then 0 else 180,()) w'):=by
  intro fr to gd l e w' kk;have:=k w' kk;rw[e,<-z]at this;exact this
 have hk:x.p.kind=x.kind:=rfl;unfold pmA at fin;by_cases c1:x.kind=1
 ·exact BK (by rw[c1];rfl) YB CU (Akg x hx.1) (l:=[113,98,111]) (by kernel_rfl) (by decide) (fin (by rw[hk,c1];rfl))
 by_cases c2:x.kind=2
 ·exact BK (by rw[c2];rfl) CU YB (Ajs x hx.2.1) (l:=[113,98,99,115]) (by kernel_rfl) (by decide) (fin (by rw[hk,c2];rfl))
 by_cases c3:x.kind=3
 ·exact BK (by rw[c3];rfl) CU Cu (Afq x hx.1) (l:=[116,108,101,111]) (by kernel_rfl) (by decide) (fin (by rw[hk,c3];rfl))
 by_cases c4:x.kind=4
 ·exact BK (by rw[c4];rfl) Cu CU (AhP x hx.2.1) (l:=[116,99,115]) (by kernel_rfl) (by decide) (fin (by rw[hk,c4];rfl))
 by_cases c5:x.kind=5
 ·exact BK (by rw[c5];rfl) CU Cu (MO x w) (l:=[116,102]) (by kernel_rfl) (by decide) (fin (by rw[hk,c5];rfl))
 by_cases c6:x.kind=6
 ·exact BK (by rw[c6];rfl) Cu CU (MO x w) (l:=[116]) (by kernel_rfl) (by decide) (fin (by rw[hk,c6];rfl))
 by_cases c7:x.kind=7
 ·exact BK (by rw[c7];rfl) Cu CU (MO x w) (l:=[116]) (by kernel_rfl) (by decide) (fin (by rw[hk,c7];rfl))
 by_cases c8:x.kind=8
 ·exact BK (by rw[c8];rfl) CU Cu (Ajl x hx.2.2 hN) (l:=[118,101,109,119]) (by kernel_rfl) (by decide) (fin (by rw[hk,c8];rfl))
 by_cases c9:x.kind=9
 ·exact BK (by rw[c9];rfl) Cu CU (MO x w) (l:=[118]) (by kernel_rfl) (by decide) (fin (by rw[hk,c9];rfl))
 by_cases c10:x.kind=10
 ·exact BK (by rw[c10];rfl) CU Cu (AhL x w) (l:=[118,109,112,102,114]) (by kernel_rfl) (by decide) (fin (by rw[hk,c10];rfl))
 by_cases c11:x.kind=11
 ·exact BK (by rw[c11];rfl) Cu Cu (AhV x hx.1) (l:=[109,97,110,114,111]) (by kernel_rfl) (by decide) (fin (by rw[hk,c11];rfl))
 by_cases c12:x.kind=12
 ·exact BK (by rw[c12];rfl) Cu Cu (Aeq x w) (l:=[109,97,110]) (by kernel_rfl) (by decide) (fin (by rw[hk,c12];rfl))
 by_cases c13:x.kind=13
 ·exact BK (by rw[c13];rfl) Cu CU (MO x w) (l:=[109]) (by kernel_rfl) (by decide) (fin (by rw[hk,c13];rfl))
 by_cases c14:x.kind=14
 ·exact BK (by rw[c14];rfl) Cu CU (MO x w) (l:=[109]) (by kernel_rfl) (by decide) (fin (by rw[hk,c14];rfl))
 refine AeC ?_ λw' kk=>?_
 ·unfold GS;simp only[LC,c1,c2,c3,c4,c5,c6,c7,c8,c9,c10,c11,c12,c13,c14,if_false]
 ·have:=k w' kk;unfold pmA at this;simp only[hk,c1,c2,c3,c4,c5,c6,c7,c8,c9,c10,c11,c12,c13,c14,if_false]at this;exact this
open Go Go.Sx
theorem AcK {s:Sl}(h:A1 Mj w s l){i:Nat}(hi:i<l.length)(hN:l.length<=1000000){K:TR [.ag [.s,.s],.sc (.i .i64)]->Pr}(k:∀w',Aa [] w w'->K (if Be l then(((D7 l i).1,(D7 l i).2,()),0,())else((BA [],BA [],()),170,())) w'):Cl Pg 218 [.slice s.p s.len s.cap,.int .i64 (i:Int)] true [.ag [.s,.s],.sc (.i .i64)] K w:=by
 have hl:=h.len;refine On _ _ ?_;unfold NM;dsimp only[N6,Ls,Tt,Vi,Vs,Vt];refine Ad λa w1 h1 n1 k1=>?_;refine Pj (h.Ab k1) (by omega) λw2 k2=>?_;have h2:=k2.Aw h1;have k02:=Aj k1 k2;dsimp only;cases hok:Be l with
 |false=>
  rw[hok]at k;simp only[Bool.false_eq_true,if_false,show((170:Int) !=0)=true from rfl,Af]at k ⊢;refine KI h2 λw3 k3=>?_;exact k w3 (BT k02 k3 n1)
 |true=>
  rw[hok]at k;simp only[if_true,show((0:Int) !=0)=false from rfl,Ae]at k ⊢;refine BR false (λJ hJ=>?_) λw3 k3=>?_
  ·rw[decide_eq_false (by omega)];simp only[Ae];rw[decide_eq_false (by omega)];exact hJ _ (Aa.refl _ _)
  ·simp only[Ae];have k03:=Aj k02 k3;refine Aec (h.Ab k03) hi hN λw4 k4=>?_;refine KI (k4.Aw (k3.Aw h2)) λw5 k5=>?_;exact k w5 (BT (Aj k03 k4) k5 n1)
def IK (id:Int)(l:List Ow)(own:Bool)(n:Nat):List Rn:=((List.range n).filter λi=>(((l[i]?.getD ⟨BA [],0⟩).BO==id)==own)).map λi=>⟨(D7 l i).1,(D7 l i).2⟩
def B0 (id:Int)(l:List Ow)(own:Bool):List Rn:=if Be l then IK id l own l.length else []
theorem Yk {id:Int}{own:Bool}{x:Ow}(hx:l[n]?=some x)(c:Bool)(hc:((x.BO==id)==own)=c):IK id l own (n+1)=IK id l own n++(if c then [⟨(D7 l n).1,(D7 l n).2⟩]else []):=by
 unfold IK;rw[List.range_succ,List.filter_append,List.map_append,List.filter_cons,List.filter_nil,hx,Option.getD_some,hc];cases c<;>rfl
theorem R3 (id:Int)(l:List Ow)(own:Bool)(n:Nat):(IK id l own n).length<=n:=by
 unfold IK;rw[List.length_map];exact Nat.le_trans (List.length_filter_le _ _) (by rw[List.length_range];exact Nat.le_refl _)
theorem Ft (id:Int)(l:List Ow)(own:Bool):(B0 id l own).length<=l.length:=by
 unfold B0;split
 ·exact R3 _ _ _ _
 ·simp
set_option maxHeartbeats 1000000 in
theorem Uj (h:A6 w m T X){s:Sl}{l:List Ow}(hl:A1 Mj w s l)(hN:l.length<=1000000)(own:Bool){K:TR [.sc .sl]->Pr}(k:∀r w',Bh V8 w' r (B0 X.c.id l own)->(∀b∈Ai r,w.heap.size<=b)->Aa [] w w'->K (r,()) w'):Cl Pg 129 [.pointer (some ⟨m,0,none⟩),.slice s.p s.len s.cap,.bool own] false [.sc .sl] K w:=by
 have hll:=hl.len;refine Jl _ _ _ ?_;unfold Gy;dsimp only[N6,Li,Ls,Ti,Tt,Vi,Vs,Vt];refine⟨λn st w'=>∃(i:Nat) (r:Sl),st=(r,(i:Int),())/\n=l.length-i/\i<=l.length/\Bh V8 w' r (if Be l then IK X.c.id l own i else [])/\(∀b∈Ai r,w.heap.size<=b)/\Aa [] w w',⟨_,0,⟨none,0,0⟩,rfl,rfl,by omega,by cases Be l<;>exact AE.nil _ _,by simp[Ai],Aa.refl _ _⟩,?_⟩;rintro n _ w1 ⟨i,r,rfl,rfl,hi,h1,f1,k1⟩;dsimp only;by_cases hlt:i<l.length
 ·rw[decide_eq_true (by omega)];simp only[Af];obtain⟨x,hx⟩:∃x,l[i]?=some x:=⟨_,List.getElem?_eq_getElem hlt⟩;refine AG (λst w'=>Bh V8 w' st.1 (if Be l then IK X.c.id l own (i+1)else [])/\(∀b∈Ai st.1,w.heap.size<=b)/\Aa [] w w') (λJ hJ=>?_) ?_
  ·refine UP (hl.Ab k1) hx ?_;refine UB x λb w2 h2 n2 k2=>?_;have k02:=Aj k1 k2;refine AcK (hl.Ab k02) hlt hN λw3 k3=>?_;obtain⟨y,hy⟩:∃y:Rn,y=(if Be l then⟨(D7 l i).1,(D7 l i).2⟩else⟨BA [],BA []⟩):=⟨_,rfl⟩;have e1:(if Be l then(((D7 l i).1,(D7 l i).2,()),(0:Int),())else((BA [],BA [],()),(170:Int),()))=(((y.lo,y.hi,()),(if Be l then(0:Int)else 170),()):TR [.ag [.s,.s],.sc (.i .i64)]):=by rw[hy];cases Be l<;>rfl
   rw[e1];dsimp only;refine DS y λc w4 h4 n4 k4=>?_;have k04:=Aj (Aj k02 k3) k4;have g4:=h.Ab k04;have x4:=(Aj k3 k4).Aw h2;have r4:Bh V8 w4 r _:=h1.Ab (Aj (Aj k2 k3) k4);refine BR (Be l&&((x.BO==X.c.id)==own)) (λJ2 hJ2=>?_) λw5 k5=>?_
   ·simp only[sb];cases hok:Be l with
    |false=>
     rw[hok]at hJ2;simp only[Bool.false_eq_true,if_false,show((170:Int)==0)=false from rfl,sb];exact hJ2 _ (Am w4)
    |true=>
     rw[hok,Bool.true_and]at hJ2;simp only[if_true,show((0:Int)==0)=true from rfl,sb,x4,g4.hd,Bs,A5,Nat.reduceAdd];exact hJ2 _ (Am w4)
   ·have k05:=Aj k04 k5;have c5:=k5.Aw h4;cases hok:Be l with
    |false=>
     rw[hok]at r4;simp only[Bool.false_and,sb];refine hJ _ w5 ⟨?_,f1,k05⟩;rw[hok];exact r4.Ab k5
    |true=>
     rw[hok]at r4 hy;have e2:=Yk hx _ (rfl:((x.BO==X.c.id)==own)=_);rw[Bool.true_and];generalize hq:((x.BO==X.c.id)==own)=q at e2 ⊢;cases q with
     |false=>
      simp only[sb];refine hJ _ w5 ⟨?_,f1,k05⟩;rw[hok,if_pos rfl,e2,if_neg (by simp),List.append_nil];exact r4.Ab k5
     |true=>
      rw[if_pos rfl]at e2;rw[if_pos rfl]at hy;simp only[sb,c5];refine Ad λd w6 h6 n6 k6=>?_;have r6:Bh V8 w6 r _:=r4.Ab (Aj k5 k6);have hrl:=r6.BY;have hri:=R3 X.c.id l own i;rw[if_pos rfl]at hrl;refine AE.app (ρ:=V8) (new:=[y]) r6 (by rw[List.flatMap_singleton];exact BI (ρ:=V8) (x:=y) h6) rfl (by rw[Aes];rfl) (by omega) (by omega) ?_;intro r7 w7 h7 k7 f7;have kk:Aa [] w w7:=Ky (Aj k05 k6) k7 f1;refine hJ _ w7 ⟨?_,λb hb=>?_,kk⟩
      ·rw[hok,if_pos rfl,e2];rw[if_pos rfl]at h7;rw[<-hy];exact h7
      ·rcases f7 b hb with hb|hb
       ·exact f1 b hb
       ·have:=(Aj k05 k6).size;omega
  ·rintro⟨r2,_⟩ w2 ⟨h2,f2,k2⟩;exact⟨l.length-(i+1),by omega,i+1,r2,by rw[AK (by omega)],rfl,by omega,h2,f2,k2⟩
 ·rw[decide_eq_false (by omega)];simp only[Ae];obtain rfl:i=l.length:=by omega
  exact k r w1 h1 f1 k1
def clO (a b c d:ByteArray):Op:=⟨5,BA [],BA [],mLo a b c d,mHi a b c d,0⟩
namespace PS
def KG (P:PS)(r q:Rn):PS:=if Bw r.lo r.hi q.lo q.hi then {P with writes:=P.writes++[clO r.lo r.hi q.lo q.hi]}else P
end PS
theorem AeY (h:A6 w m T X)(r q:Rn)(hW:X.d.writes.length<=100000){K:TR []->Pr}(k:∀X' T' w',A6 w' m T' X'->X'.p=X.p.KG r q->Fix X X'->Aq T T' w w'->K () w'):
  Cl Pg 130 [.pointer (some ⟨m,0,none⟩),.agg #[.string r.lo,.string r.hi],.agg #[.string q.lo,.string q.hi]] true [] K w:=by
 refine JG _ _ _ _ _ ?_;unfold Hz;dsimp only[Ar,Ll,Ls,Ts,Tt,Vs,Vt];refine Ad λa w1 h1 n1 k1=>?_;refine Ad λb w2 h2 n2 k2=>?_;have h1:=k2.Aw h1;simp only[sb,h1,h2];refine Vr _ _ _ _ λw3 k3=>?_;dsimp only;refine DS ⟨mLo r.lo r.hi q.lo q.hi,mHi r.lo r.hi q.lo q.hi⟩ λc w4 h4 n4 k4=>?_;have k04:=Aj (Aj (Aj k1 k2) k3) k4;have g4:=h.Ab k04;unfold PS.KG at k;cases hm:Bw r.lo r.hi q.lo q.hi with
 |false=>
  rw[hm,if_neg (by simp)]at k;simp only[sb];exact k X T w4 g4 rfl (Fix.refl _) (Aq.k0 k04)
 |true=>
  rw[hm,if_pos rfl]at k;simp only[sb,g4.hd,Bs,h4,A5,Nat.reduceAdd];have g5:=g4.Ab (Am w4);refine Ad λd w6 h6 n6 k6=>?_;have g6:=g5.Ab k6;simp only[sb,g6.hd,Bs,A5,Nat.reduceAdd];refine⟨by trivial,?_⟩;have hs:=g6.r.wr.ok;have hl:=hs.BY;refine AE.app (ρ:=BQ) (new:=[clO r.lo r.hi q.lo q.hi]) hs (by rw[List.flatMap_singleton];exact BI (ρ:=BQ) (x:=clO r.lo r.hi q.lo q.hi) h6) rfl (by rw[R1];rfl) (by omega) (by omega) ?_;intro r7 w7 h7 k7 f7;refine g6.uWr k7 h7 f7 λw8 h8 e8=>?_;exact k _ _ w8 h8 rfl ⟨rfl,rfl,rfl,rfl⟩ ((Aq.k0 (Aj (Aj k04 (Am w4)) k6)).trans e8)
open Go Go.Sx
theorem A6.MC (h:A6 w m T X)(c:Sc){i:Nat}{v:Value}(hi:i<26)(h1:v.oneCell'=true)(he:(Bs X).set i v=Bs {X with c:=c}){K:Pr}(k:∀w',A6 w' m T {X with c:=c}->Aq T T w w'->K w'):St ⟨m,i,none⟩ v K w:=
 A6.set (X':={X with c:=c}) h.hd h.t1 h.r hi h1 he λw' h' s=>k w' h' (s.Bm (by decide))
theorem Rest.unbox {X:Co}(h:Rest w T X):Rest w T {X with bx:=none}:=
 ⟨h.ow,h.he,h.Ro,h.fi,h.wa,h.Ss,h.ta,h.ou,h.Wp,h.wr,h.li,⟨(λb hb=>by cases hb),(λw' _ _ b hb=>by cases hb),(λb hb=>by cases hb)⟩,h.ro,h.lo,h.RF,h.bd⟩
theorem A6.unbox {w:World}{m:Nat}{T:Nat->Nat}{X:Mc}(h:A6 w m T X){K:Pr}(k:∀w',A6 w' m T {X with d:={X.d with bx:=none}}->Aq T T w w'->K w'):St ⟨m,19,none⟩ (.pointer none) K w:=
 A6.set (X':={X with d:={X.d with bx:=none}}) h.hd h.t1 h.r.unbox (by decide) rfl rfl λw' h' s=>k w' h' (s.Bm (by decide))
theorem Rest.uOw {X:Co}(h:Rest w T X){r:Sl}{l:List Ow}(hr:Bq T (λw=>A1 Mj w r l) w):Rest w T {X with so:=r,Ac:=l}:=
 ⟨hr,h.he,h.Ro,h.fi,h.wa,h.Ss,h.ta,h.ou,h.Wp,h.wr,h.li,h.bo,h.ro,h.lo,h.RF,h.bd⟩
theorem A6.uOw {w:World}{m:Nat}{T:Nat->Nat}{X:Mc}(h:A6 w m T X){r:Sl}{l:List Ow}(hr:Bq T (λw=>A1 Mj w r l) w){K:Pr}(k:∀w',A6 w' m T {X with d:={X.d with so:=r,Ac:=l}}->Aq T T w w'->K w'):St ⟨m,5,none⟩ (.slice r.p r.len r.cap) K w:=
 A6.set (X':={X with d:={X.d with so:=r,Ac:=l}}) h.hd h.t1 (h.r.uOw hr) (by decide) rfl rfl λw' h' s=>k w' h' (s.Bm (by decide))
structure Dl (X X':Mc):Prop where
 BD:X'.d.BD=X.d.BD
 sM:X'.d.sM=X.d.sM
theorem Dl.refl (X:Mc):Dl X X:=⟨rfl,rfl⟩
theorem Dl.trans {X Y Z:Mc}(h:Dl X Y)(k:Dl Y Z):Dl X Z:=⟨k.BD.trans h.BD,k.sM.trans h.sM⟩
theorem Fix.s {X':Mc}(h:Fix X X'):Dl X X':=⟨h.BD,h.sM⟩
theorem DG.s {X':Mc}(h:DG X X'):Dl X X':=⟨h.BD,h.sM⟩
namespace PS
def Cy (P:PS)(rs:List Rn)(q:Rn):PS:=rs.foldl (λP r=>P.KG r q) P
def Dn (P:PS)(r:Rn)(had:List Rn):PS:=had.foldl (λP h=>P.KG r h) P
def FB (P:PS)(others had:List Rn):PS:=others.foldl (λP r=>P.Dn r had) P
def W4 (P:PS)(x:PM):PS:={P with c:={P.c with CZ:=x.CZ,Ao:=x.Ao,move:=x.move},Ac:=x.Ac}
def DE (P:PS)(mv:Int):PS:=match P.box with
 |none=>P
 |some b=>if b.move !=mv then {P with box:=none}else P
def QD (P:PS)(mv:Int):PS:=if P.c.frozen !=mv then {P with c:={P.c with frozen:=0,Qk:=BA [],MS:=BA []}}else P
def Aic (P:PS):PS:={P with c:={P.c with AJ:=0,CD:=0,Bo:=0,Ph:=BA [],Qq:=BA []}}
def Kl (P:PS)(mv:Int)(others:List Rn):PS:=if(P.c.AJ !=0)&&(P.c.AJ !=mv)then(P.Cy others ⟨P.c.Ph,P.c.Qq⟩).Aic else P
def Ko (P:PS)(x:PM):PS:=((((P.W4 x).DE x.move).QD x.move).Kl x.move (B0 P.c.id x.Ac false)).FB (B0 P.c.id x.Ac false) (B0 P.c.id P.Ac true)
def mapped (P:PS)(x:PM):PS:=if P.c.CZ<x.CZ then P.Ko x else P
def No (P:PS)(x:PM):PS:=(P.mapped x).send {PM.zero with kind:=9,CZ:=(P.mapped x).c.CZ}
end PS
theorem ZA (P:PS)(r q:Rn):(P.KG r q).writes.length<=P.writes.length+1:=by
 unfold PS.KG;split
 ·simp
 ·omega
theorem Wm (P:PS)(r q:Rn):P.KG r q={P with writes:=(P.KG r q).writes}:=by
 unfold PS.KG;split<;>rfl
theorem CS (q:Rn):∀(rs:List Rn) (P:PS),P.Cy rs q={P with writes:=(P.Cy rs q).writes}/\(P.Cy rs q).writes.length<=P.writes.length+rs.length
 |[],P=>⟨rfl,Nat.le_refl _⟩
 |r::rs,P=>by
  obtain⟨h1,h2⟩:=CS q rs (P.KG r q);have e:P.Cy (r::rs) q=(P.KG r q).Cy rs q:=rfl;have h3:=ZA P r q;rw[e];refine⟨?_,by rw[List.length_cons];omega⟩;have h4:=Wm P r q;generalize ha:((P.KG r q).Cy rs q).writes=a at *;rw[h1,h4]
theorem KT (r:Rn):∀(hs:List Rn) (P:PS),P.Dn r hs={P with writes:=(P.Dn r hs).writes}/\(P.Dn r hs).writes.length<=P.writes.length+hs.length
 |[],P=>⟨rfl,Nat.le_refl _⟩
 |q::hs,P=>by
  obtain⟨h1,h2⟩:=KT r hs (P.KG r q);have e:P.Dn r (q::hs)=(P.KG r q).Dn r hs:=rfl;have h3:=ZA P r q;rw[e];refine⟨?_,by rw[List.length_cons];omega⟩;have h4:=Wm P r q;generalize ha:((P.KG r q).Dn r hs).writes=a at *;rw[h1,h4]
theorem Ef (had:List Rn):∀(rs:List Rn) (P:PS),P.FB rs had={P with writes:=(P.FB rs had).writes}/\(P.FB rs had).writes.length<=P.writes.length+rs.length*had.length
 |[],P=>⟨rfl,by simp[PS.FB]⟩
 |r::rs,P=>by
  obtain⟨h1,h2⟩:=Ef had rs (P.Dn r had);have e:P.FB (r::rs) had=(P.Dn r had).FB rs had:=rfl;obtain⟨h4,h3⟩:=KT r had P;rw[e];refine⟨?_,by rw[List.length_cons,Nat.succ_mul];omega⟩;generalize ha:((P.Dn r had).FB rs had).writes=a at *;rw[h1,h4]
theorem GZ (f:β->α->β){l:List α}{i:Nat}{x:α}(hx:l[i]?=some x)(b:β):(l.take (i+1)).foldl f b=f ((l.take i).foldl f b) x:=by
 rw[List.take_add_one,hx,List.foldl_append];rfl
theorem Nh (h:X.p=P):X.d.writes=P.writes:=by rw[<-h];rfl
theorem AjO (h:X.p=P):X.c=P.c:=by rw[<-h];rfl
theorem Ac9 (h:A6 w m T X){s:Sl}{rs:List Rn}(hs:Bq T (λw=>A1 V8 w s rs) w)(hN:rs.length<=1000)(hW:X.d.writes.length<=20000){J:Pr}(k:∀X' T' w',A6 w' m T' X'->X'.p=X.p.Cy rs ⟨X.c.Ph,X.c.Qq⟩->Fix X X'->Aq T T' w w'->J w'):
  (Lp (σ:=Int×Unit) (λL56 s57=>Br (decide ((s57.1:Int)<((s.len:Nat):Int))) (Ix s s57.1 2 λa58=>BU (a58.add 0) λx59=>BU (a58.add 1) λx60=>At #[(.string (BA [])),(.string (BA []))] 37 λa61=>St (a61.add 0) (.string x59)<|St (a61.add 1) (.string x60)<|Dr<|BU (a61.add 0) λx62=>BU (a61.add 1) λx63=>Nn (some ⟨m,0,none⟩) λa64=>
   BU ((((a64.add 0).add 12).add 3).add 0) λx65=>BU ((((a64.add 0).add 12).add 3).add 1) λx66=>Cl Pg 130 [(.pointer (some ⟨m,0,none⟩)),(.agg #[(.string x62),(.string x63)]),(.agg #[(.string x65),(.string x66)])] true [] λr67=>L56 ((An (s57.1+1)),())) J) (0,())) w:=by
 have hsl:=hs.ok.len;refine⟨λn st w'=>∃(i:Nat) (X1:Mc) (T1:Nat->Nat),st=((i:Int),())/\n=rs.length-i/\i<=rs.length/\A6 w' m T1 X1/\X1.p=X.p.Cy (rs.take i) ⟨X.c.Ph,X.c.Qq⟩/\Fix X X1/\Aq T T1 w w',⟨_,0,X,T,rfl,rfl,by omega,h,rfl,Fix.refl _,Aq.refl _ _⟩,?_⟩;rintro n _ w1 ⟨i,X1,T1,rfl,rfl,hi,h1,q1,f1,e1⟩;dsimp only;by_cases hlt:i<rs.length
 ·rw[decide_eq_true (by omega)];simp only[Af];obtain⟨x,hx⟩:∃x,rs[i]?=some x:=⟨_,List.getElem?_eq_getElem hlt⟩;refine UG (hs.Bm e1).ok hx ?_;refine DS x λb w2 h2 n2 k2=>?_;have g2:=h1.Ab k2;have g3:=g2.Ab (Am w2);obtain⟨s1,s2⟩:=CS ⟨X.c.Ph,X.c.Qq⟩ (rs.take i) X.p;have hc:X1.c=X.c:=by rw[AjO q1,s1];rfl
  have hw:X1.d.writes.length<=100000:=by
   rw[Nh q1];have h3:(rs.take i).length<=i:=List.length_take_le _ _;have h4:X.p.writes.length=X.d.writes.length:=rfl;omega
  simp only[sb,h2,g2.hd,Bs,A5,Nat.reduceAdd];rw[hc];refine AeY g3 x ⟨X.c.Ph,X.c.Qq⟩ hw ?_;intro X4 T4 w4 h4 q4 f4 e4;refine⟨rs.length-(i+1),by omega,i+1,X4,T4,by rw[AK (by omega)],rfl,by omega,h4,?_,f1.trans f4,(e1.trans (Aq.k0 (Aj k2 (Am w2)))).trans e4⟩;rw[q4,q1];unfold PS.Cy;rw[GZ _ hx]
 ·rw[decide_eq_false (by omega)];simp only[Ae];rw[List.take_of_length_le (by omega)]at q1;exact k X1 T1 w1 h1 q1 f1 e1
set_option maxHeartbeats 1000000 in
theorem Agz (h:A6 w m T X){s t:Sl}{rs hs:List Rn}(hS:Bq T (λw=>A1 V8 w s rs) w)(hH:Bq T (λw=>A1 V8 w t hs) w)(hN:rs.length<=100)(hN2:hs.length<=100)(hW:X.d.writes.length<=20000){J:Pr}(k:∀X' T' w',A6 w' m T' X'->X'.p=X.p.FB rs hs->Fix X X'->Aq T T' w w'->J w'):
  (Lp (σ:=Int×Unit) (λL37 s38=>Br (decide ((s38.1:Int)<((s.len:Nat):Int))) (Ix s s38.1 2 λa39=>BU (a39.add 0) λx40=>BU (a39.add 1) λx41=>At #[(.string (BA [])),(.string (BA []))] 37 λa42=>St (a42.add 0) (.string x40)<|St (a42.add 1) (.string x41) <|
   Lp (σ:=Int×Unit) (λL43 s44=>Br (decide ((s44.1:Int)<((t.len:Nat):Int))) (Ix t s44.1 2 λa45=>BU (a45.add 0) λx46=>BU (a45.add 1) λx47=>At #[(.string (BA [])),(.string (BA []))] 37 λa48=>St (a48.add 0) (.string x46)<|St (a48.add 1) (.string x47) <|
    BU (a42.add 0) λx49=>BU (a42.add 1) λx50=>BU (a48.add 0) λx51=>BU (a48.add 1) λx52=>Cl Pg 130 [(.pointer (some ⟨m,0,none⟩)),(.agg #[(.string x49),(.string x50)]),(.agg #[(.string x51),(.string x52)])] true [] λr53=>L43 ((An (s44.1+1)),())) (L37 ((An (s38.1+1)),()))) (0,())) J) (0,())) w:=by
 have hsl:=hS.ok.len;have htl:=hH.ok.len;refine⟨λn st w'=>∃(i:Nat) (X1:Mc) (T1:Nat->Nat),st=((i:Int),())/\n=rs.length-i/\i<=rs.length/\A6 w' m T1 X1/\X1.p=X.p.FB (rs.take i) hs/\Fix X X1/\Aq T T1 w w',⟨_,0,X,T,rfl,rfl,by omega,h,rfl,Fix.refl _,Aq.refl _ _⟩,?_⟩;rintro n _ w1 ⟨i,X1,T1,rfl,rfl,hi,h1,q1,f1,e1⟩;dsimp only;by_cases hlt:i<rs.length
 ·rw[decide_eq_true (by omega)];simp only[Af];obtain⟨x,hx⟩:∃x,rs[i]?=some x:=⟨_,List.getElem?_eq_getElem hlt⟩;refine UG (hS.Bm e1).ok hx ?_;refine DS x λb w2 h2 n2 k2=>?_;have g2:=h1.Ab k2;have Tb:=h1.new n2;obtain⟨s1,s2⟩:=Ef hs (rs.take i) X.p;have hw1:X1.d.writes.length<=30000:=by
   rw[Nh q1];have h3:(rs.take i).length<=100:=Nat.le_trans (List.length_take_le' _ _) hN;have h4:X.p.writes.length=X.d.writes.length:=rfl;have h5:(rs.take i).length*hs.length<=100*100:=Nat.mul_le_mul h3 hN2;omega
  refine⟨λn st w'=>∃(j:Nat) (X2:Mc) (T2:Nat->Nat),st=((j:Int),())/\n=hs.length-j/\j<=hs.length/\A6 w' m T2 X2/\X2.p=X1.p.Dn x (hs.take j)/\Fix X1 X2/\Aq T1 T2 w2 w',⟨_,0,X1,T1,rfl,rfl,by omega,g2,rfl,Fix.refl _,Aq.refl _ _⟩,?_⟩;rintro n _ w3 ⟨j,X3,T3,rfl,rfl,hj,h3,q3,f3,e3⟩;have e13:=(e1.trans (Aq.k0 k2)).trans e3;dsimp only;by_cases hjl:j<hs.length
  ·rw[decide_eq_true (by omega)];simp only[Af];obtain⟨y,hy⟩:∃y,hs[j]?=some y:=⟨_,List.getElem?_eq_getElem hjl⟩;refine UG (hH.Bm e13).ok hy ?_;refine DS y λc w4 h4 n4 k4=>?_;have g4:=h3.Ab k4;obtain⟨b3,Tb3⟩:=e3.at h2 Tb;have b4:=k4.Aw b3;obtain⟨t1,t2⟩:=KT x (hs.take j) X1.p;have hw:X3.d.writes.length<=100000:=by
    rw[Nh q3];have h3:(hs.take j).length<=100:=Nat.le_trans (List.length_take_le' _ _) hN2;have h4:X1.p.writes.length=X1.d.writes.length:=rfl;omega
   simp only[sb,h4,b4];refine AeY g4 x y hw ?_;intro X5 T5 w5 h5 q5 f5 e5;refine⟨hs.length-(j+1),by omega,j+1,X5,T5,by rw[AK (by omega)],rfl,by omega,h5,?_,f3.trans f5,(e3.trans (Aq.k0 k4)).trans e5⟩;rw[q5,q3];unfold PS.Dn;rw[GZ _ hy]
  ·rw[decide_eq_false (by omega)];simp only[Ae];rw[List.take_of_length_le (by omega)]at q3;refine⟨rs.length-(i+1),by omega,i+1,X3,T3,by rw[AK (by omega)],rfl,by omega,h3,?_,f1.trans f3,e13⟩;rw[q3,q1];unfold PS.FB;rw[GZ _ hx]
 ·rw[decide_eq_false (by omega)];simp only[Ae];rw[List.take_of_length_le (by omega)]at q1;exact k X1 T1 w1 h1 q1 f1 e1
open Go Go.Sx
structure Nz (P Q:PS)(n:Nat):Prop where
 held:Q.held=P.held
 fin:Q.fin=P.fin
 wait:Q.wait=P.wait
 BS:Q.BS=P.BS
 out:Q.out=P.out
 line:Q.line=P.line
 M:Q.M=P.M
 wr:Q.writes.length<=P.writes.length+n
theorem Nz.trans {P Q R:PS}{n k:Nat}(h:Nz P Q n)(g:Nz Q R k):Nz P R (n+k):=⟨g.held.trans h.held,g.fin.trans h.fin,g.wait.trans h.wait,g.BS.trans h.BS,g.out.trans h.out,g.line.trans h.line,g.M.trans h.M,by have:=h.wr;have:=g.wr;omega⟩
theorem Rm (P:PS)(l:List Op){n:Nat}(h:l.length<=P.writes.length+n):Nz P {P with writes:=l} n:=⟨rfl,rfl,rfl,rfl,rfl,rfl,rfl,h⟩
theorem KO (P:PS)(rs:List Rn)(q:Rn):Nz P (P.Cy rs q) rs.length:=by
 obtain⟨h1,h2⟩:=CS q rs P;rw[h1];exact Rm P _ h2
theorem Un (P:PS)(rs hs:List Rn):Nz P (P.FB rs hs) (rs.length*hs.length):=by
 obtain⟨h1,h2⟩:=Ef hs rs P;rw[h1];exact Rm P _ h2
theorem Qo (P:PS)(mv:Int):Nz P (P.DE mv) 0:=by
 unfold PS.DE;split
 ·exact⟨rfl,rfl,rfl,rfl,rfl,rfl,rfl,Nat.le_refl _⟩
 ·split<;>exact⟨rfl,rfl,rfl,rfl,rfl,rfl,rfl,Nat.le_refl _⟩
theorem WM (P:PS)(mv:Int):Nz P (P.QD mv) 0:=by
 unfold PS.QD;split<;>exact⟨rfl,rfl,rfl,rfl,rfl,rfl,rfl,Nat.le_refl _⟩
theorem AaS (P:PS)(mv:Int)(rs:List Rn):Nz P (P.Kl mv rs) rs.length:=by
 unfold PS.Kl;split
 ·have h:=KO P rs ⟨P.c.Ph,P.c.Qq⟩;exact⟨h.held,h.fin,h.wait,h.BS,h.out,h.line,h.M,h.wr⟩
 ·exact⟨rfl,rfl,rfl,rfl,rfl,rfl,rfl,Nat.le_add_right _ _⟩
theorem YF (P:PS)(x:PM):Nz P (P.mapped x) (x.Ac.length+x.Ac.length*P.Ac.length):=by
 unfold PS.mapped;split
 ·unfold PS.Ko;have h0:Nz P (P.W4 x) 0:=⟨rfl,rfl,rfl,rfl,rfl,rfl,rfl,Nat.le_refl _⟩;have h:=(((h0.trans (Qo _ x.move)).trans (WM _ x.move)).trans (AaS _ x.move (B0 P.c.id x.Ac false))).trans (Un _ (B0 P.c.id x.Ac false) (B0 P.c.id P.Ac true));refine⟨h.held,h.fin,h.wait,h.BS,h.out,h.line,h.M,Nat.le_trans h.wr ?_⟩;have l1:=Ft P.c.id x.Ac false;have l2:=Ft P.c.id P.Ac true;have l3:=Nat.mul_le_mul l1 l2;omega
 ·exact⟨rfl,rfl,rfl,rfl,rfl,rfl,rfl,Nat.le_add_right _ _⟩
theorem SX (h:X.p=P):X.d.out.length=P.out.length:=by rw[<-h];exact(List.length_map _).symm
theorem ON {id:Int}{own:Bool}(h:l.length<=n):(B0 id l own).length<=n:=Nat.le_trans (Ft _ _ _) h
set_option maxHeartbeats 4000000 in
theorem Ad4 (h:A6 w m T X)(x:Mg)(hx:Bq T (Su x) w)(hO:X.d.Ac.length<=100)(hO2:x.Ac.length<=100)(hb:X.d.out.length<=90000)(hw:X.d.writes.length<=1000){K:TR []->Pr}(k:∀X' T' w',A6 w' m T' X'->X'.p=X.p.No x.p->Dl X X'->Aq T T' w w'->K () w'):
  Cl Pg 75 [.pointer (some ⟨m,0,none⟩),.agg (Sm x)] true [] K w:=by
 refine Jf _ _ _ _ _ _ _ _ _ _ _ _ _ _ _ _ _ _ _ x.so x.sr x.sw ?_;unfold Gt;dsimp only[Ag,Ll,Hr,Ls,Lu,Tp,Ts,Tt,Tu,Vb,Vi,Vp,Vs,Vt,Vu];refine Ad λa w1 h1 n1 k1=>?_;have g1:=h.Ab k1;have Ta:T a=0:=h.new n1;refine AG (λ_ w'=>∃X' T',A6 w' m T' X'/\X'.p=X.p.mapped x.p/\Dl X X'/\Aq T T' w w') (λJ hJ=>?_) ?_
 ·have g1d:=g1.Ab (Am w1);simp only[sb,h1,g1.hd,Bs,A5,Nat.reduceAdd];by_cases hv:x.CZ>X.c.CZ
  ·rw[decide_eq_true hv];simp only[sb,g1.hd,Bs,A5,Nat.reduceAdd];refine Uj g1d g1d.r.ow.ok (by omega) true λr1 w2 hr1 fr1 k2=>?_;have k02:=Aj (Aj k1 (Am w1)) k2;have g2:=h.Ab k02;have h2:=(Aj (Am w1) k2).Aw h1;have iH:Bq T (λw=>A1 V8 w r1 (B0 X.c.id X.d.Ac true)) w2:=.of hr1.C6 λb hb=>h.new (by
    have:=fr1 b (AE.rb hr1 b hb);have d:w1.drew.heap.size=w1.heap.size:=rfl;have:=k1.size;omega)
   simp only[sb,h2];have hx2:=hx.Ab k02;have iO:A1 Mj w2.drew x.sw x.Ac:=hx2.ok.2.2.Ab (Am w2);refine NO iO (by omega) ?_;intro r3 w3 hr3 fr3 k3;have k23:=Aj (Am w2) k3;have g3:=g2.Ab k23;have h3:=k23.Aw h2;have iH3:=iH.Ab k23;have iO3:Bq T (λw=>A1 Mj w r3 x.Ac) w3:=.of hr3.C6 λb hb=>g2.new (by
    have:=fr3 b (AE.rb hr3 b hb);have d:w2.drew.heap.size=w2.heap.size:=rfl;omega)
   have e03:Aq T T w w3:=Aq.k0 (Aj k02 k23);simp only[sb,h3,g3.hd,Bs,A5,Nat.reduceAdd];refine⟨by trivial,by trivial,by trivial,?_⟩;refine g3.MC {X.c with CZ:=x.CZ} (by decide) rfl rfl λw4 g4 e4=>?_;obtain⟨h4,T4⟩:=e4.at h3 Ta;simp only[sb,h4];refine⟨by trivial,by trivial,?_⟩;refine g4.MC {X.c with CZ:=x.CZ,Ao:=x.Ao} (by decide) rfl rfl λw5 g5 e5=>?_;obtain⟨h5,T5⟩:=e5.at h4 T4;simp only[sb,h5];refine⟨by trivial,?_⟩;refine g5.MC {X.c with CZ:=x.CZ,Ao:=x.Ao,move:=x.move} (by decide) rfl rfl λw6 g6 e6=>?_;obtain⟨h6,T6⟩:=e6.at h5 T5;have iO6:=((iO3.Bm e4).Bm e5).Bm e6;refine g6.uOw iO6 λw7 g7 e7=>?_;obtain⟨h7,T7⟩:=e7.at h6 T6;have e07:=(((e03.trans e4).trans e5).trans e6).trans e7;have iH7:=(((iH3.Bm e4).Bm e5).Bm e6).Bm e7;have iO7:=iO6.Bm e7;obtain⟨X7,hX7⟩:∃X7:Mc,X7={c:={X.c with CZ:=x.CZ,Ao:=x.Ao,move:=x.move},d:={X.d with so:=r3,Ac:=x.Ac}}:=⟨_,rfl⟩;rw[<-hX7]at g7;have q7:X7.p=X.p.W4 x.p:=by rw[hX7];rfl
   have f7:Dl X X7:=by rw[hX7];exact⟨rfl,rfl⟩
   have o7:X7.d.out=X.d.out:=by rw[hX7]
   have w7':X7.d.writes=X.d.writes:=by rw[hX7]
   have c7:X7.c.id=X.c.id:=by rw[hX7]
   have ow7:X7.d.so=r3/\X7.d.Ac=x.Ac:=by rw[hX7];exact⟨rfl,rfl⟩
   refine AG (λ_ w'=>∃X8 T8,A6 w' m T8 X8/\X8.p=X7.p.DE x.move/\Dl X X8/\X8.d.out=X.d.out/\X8.d.writes=X.d.writes/\X8.c=X7.c/\X8.d.so=r3/\X8.d.Ac=x.Ac/\Aq T T8 w7 w') (λJ8 hJ8=>?_) ?_
   ·have g7d:=g7.Ab (Am w7);unfold PS.DE at hJ8;have hbx:X7.p.box=X7.d.bx.map λ_=>X7.d.box.p:=rfl;rw[hbx]at hJ8;refine BR (match X7.d.bx with|none=>false|some _=>X7.d.box.move !=x.move) (λJ9 hJ9=>?_) λw8 k8=>?_
    ·cases hc:X7.d.bx with
     |none=>
      rw[hc]at hJ9;simp only[sb,g7.hd,Bs,A5,Nat.reduceAdd,hc,Option.map_none,Option.isNone_none,Bool.not_true];exact hJ9 _ (Am w7)
     |some b=>
      rw[hc]at hJ9;have hb:=g7.r.bo.ok b hc;simp only[sb,g7.hd,Bs,A5,Nat.reduceAdd,hc,Option.map_some,Option.isNone_some,Bool.not_false,hb,Gb,h7];exact hJ9 _ (Am w7)
    ·have g8:=g7.Ab k8;cases hc:X7.d.bx with
     |none=>
      rw[hc]at hJ8;simp only[sb];exact hJ8 () w8 ⟨X7,_,g8,rfl,f7,o7,w7',rfl,ow7.1,ow7.2,Aq.k0 k8⟩
     |some b=>
      rw[hc]at hJ8;simp only[Option.map_some]at hJ8;rw[show X7.d.box.p.move=X7.d.box.move from rfl]at hJ8;dsimp only;cases hm:(X7.d.box.move !=x.move)with
      |false=>
       rw[hm]at hJ8;simp only[sb];exact hJ8 () w8 ⟨X7,_,g8,rfl,f7,o7,w7',rfl,ow7.1,ow7.2,Aq.k0 k8⟩
      |true=>
       rw[hm]at hJ8;simp only[sb];refine g8.unbox λw9 g9 e9=>?_;exact hJ8 () w9 ⟨_,_,g9,rfl,⟨f7.BD,f7.sM⟩,o7,w7',rfl,ow7.1,ow7.2,(Aq.k0 k8).trans e9⟩
   ·rintro _ w8 ⟨X8,T8,g8,q8,f8,o8,w8',c8,so8,ow8,e8⟩;obtain⟨h8,Ta8⟩:=e8.at h7 T7;have e08:=e07.trans e8;refine AG (λ_ w'=>∃X9 T9,A6 w' m T9 X9/\X9.p=X8.p.QD x.move/\Dl X X9/\X9.d.out=X.d.out/\X9.d.writes=X.d.writes/\X9.c.id=X.c.id/\X9.d.so=r3/\X9.d.Ac=x.Ac/\Aq T8 T9 w8 w') (λJ9 hJ9=>?_) ?_
    ·have g8d:=g8.Ab (Am w8);unfold PS.QD at hJ9;simp only[sb,g8.hd,Bs,A5,Nat.reduceAdd,h8];cases hm:((X8.c.frozen:Int) !=x.move)with
     |false=>
      simp only[sb];exact hJ9 () _ ⟨X8,_,g8d,(by rw[if_neg (by rw[show X8.p.c.frozen=X8.c.frozen from rfl,hm];simp)]),f8,o8,w8',(by rw[c8,c7]),so8,ow8,Aq.k0 (Am w8)⟩
     |true=>
      simp only[sb];refine g8d.MC {X8.c with frozen:=0} (by decide) rfl rfl λw9 g9 e9=>?_;refine g9.MC {X8.c with frozen:=0,Qk:=BA []} (by decide) rfl rfl λw10 g10 e10=>?_;refine g10.MC {X8.c with frozen:=0,Qk:=BA [],MS:=BA []} (by decide) rfl rfl λw11 g11 e11=>?_;exact hJ9 () w11 ⟨_,_,g11,(by rw[if_pos (by rw[show X8.p.c.frozen=X8.c.frozen from rfl,hm])];rfl),⟨f8.BD,f8.sM⟩,o8,w8',(by show X8.c.id=_;rw[c8,c7]),so8,ow8,(((Aq.k0 (Am w8)).trans e9).trans e10).trans e11⟩
    ·rintro _ w9 ⟨X9,T9,g9,q9,f9,o9,w9',c9,so9,ow9,e9⟩;obtain⟨h9,Ta9⟩:=e9.at h8 Ta8;have e79:=e8.trans e9;have e09:=e07.trans e79;have iO9:=iO7.Bm e79;have iH9:=iH7.Bm e79;simp only[sb,g9.hd,Bs,A5,Nat.reduceAdd];rw[so9];refine Uj g9 iO9.ok (by omega) false λr10 w10 hr10 fr10 k10=>?_;rw[c9]at hr10;have g10:=g9.Ab k10;have Q8:=k10.Aw h9;have iS10:Bq T9 (λw=>A1 V8 w r10 (B0 X.c.id x.Ac false)) w10:=.of hr10.C6 λb hb=>g9.new (fr10 b (AE.rb hr10 b hb));have iH10:=iH9.Ab k10;have e010:=e09.trans (Aq.k0 k10);have lS:(B0 X.c.id x.Ac false).length<=100:=ON hO2;have lH:(B0 X.c.id X.d.Ac true).length<=100:=ON hO;refine AG (λ_ w'=>∃X11 T11,A6 w' m T11 X11/\X11.p=X9.p.Kl x.move (B0 X.c.id x.Ac false)/\Dl X X11/\X11.d.writes.length<=2000/\Aq T9 T11 w10 w') (λJ11 hJ11=>?_) ?_
     ·have g10d:=g10.Ab (Am w10);unfold PS.Kl at hJ11;refine BR ((X9.c.AJ !=0)&&(X9.c.AJ !=x.move)) (λJ12 hJ12=>?_) λw11 k11=>?_
      ·simp only[sb,g10.hd,Bs,A5,Nat.reduceAdd,Q8];cases hm:((X9.c.AJ:Int) !=0)with
       |false=>
        rw[hm]at hJ12;simp only[sb];exact hJ12 _ (Am w10)
       |true=>
        rw[hm,Bool.true_and]at hJ12;simp only[sb,g10.hd,Bs,A5,Nat.reduceAdd,Q8];exact hJ12 _ (Am w10)
      ·have g11:=g10.Ab k11;have hp:X9.p.c.AJ=X9.c.AJ:=rfl;rw[hp]at hJ11;cases hm:((X9.c.AJ !=0)&&(X9.c.AJ !=x.move))with
       |false=>
        rw[hm]at hJ11;simp only[sb];exact hJ11 () w11 ⟨X9,T9,g11,rfl,f9,by rw[w9'];omega,Aq.k0 k11⟩
       |true=>
        rw[hm]at hJ11;simp only[Af];refine Ac9 g11 (iS10.Ab k11) (by omega) (by rw[w9'];omega) ?_;intro X12 T12 w12 g12 q12 f12 e12;refine g12.MC {X12.c with AJ:=0} (by decide) rfl rfl λw13 g13 e13=>?_;refine g13.MC {X12.c with AJ:=0,CD:=0} (by decide) rfl rfl λw14 g14 e14=>?_;refine g14.MC {X12.c with AJ:=0,CD:=0,Bo:=0} (by decide) rfl rfl λw15 g15 e15=>?_;refine g15.MC {X12.c with AJ:=0,CD:=0,Bo:=0,Ph:=BA []} (by decide) rfl rfl λw16 g16 e16=>?_;refine g16.MC {X12.c with AJ:=0,CD:=0,Bo:=0,Ph:=BA [],Qq:=BA []} (by decide) rfl rfl λw17 g17 e17=>?_;refine hJ11 () w17 ⟨_,T12,g17,?_,⟨(f9.trans f12.s).BD,(f9.trans f12.s).sM⟩,?_,((((((Aq.k0 k11).trans e12).trans e13).trans e14).trans e15).trans e16).trans e17⟩
        ·rw[if_pos rfl];show({X12.p with c:=_}:PS)=_;rw[q12];unfold PS.Aic;rw[AjO q12];rfl
        ·show X12.d.writes.length<=2000;have s1:=(KO X9.p (B0 X.c.id x.Ac false) ⟨X9.c.Ph,X9.c.Qq⟩).wr;have s2:X9.p.writes.length=X.d.writes.length:=by show X9.d.writes.length=_;rw[w9']
         rw[Nh q12];omega
     ·rintro _ w11 ⟨X11,T11,g11,q11,f11,wr11,e11⟩;refine Agz g11 (iS10.Bm e11) (iH10.Bm e11) lS lH (by omega) ?_;intro X12 T12 w12 g12 q12 f12 e12;refine hJ () w12 ⟨X12,T12,g12,?_,f11.trans f12.s,(e010.trans e11).trans e12⟩
      ·unfold PS.mapped;rw[if_pos (show X.p.c.CZ<x.p.CZ from hv)];rw[q12,q11,q9,q8,q7];rfl
  ·rw[decide_eq_false hv];simp only[Ae];exact hJ () _ ⟨X,T,g1d,(if_neg hv).symm,Dl.refl _,Aq.k0 (Aj k1 (Am w1))⟩
 ·rintro _ w2 ⟨X2,T2,g2,q2,f2,e2⟩;have o2:X2.d.out.length=X.d.out.length:=by
   rw[SX q2,(YF X.p x.p).out];exact List.length_map _
  simp only[sb,g2.hd,Bs,A5,Nat.reduceAdd];refine KD g2 ⟨9,0,0,0,0,0,0,0,0,0,X2.c.CZ,0,0,0,0,false,BA [],BA [],⟨none,0,0⟩,⟨none,0,0⟩,⟨none,0,0⟩,[],[],[]⟩ (Bq.NI λw=>⟨A1.nil w,⟨A1.nil w,by simp⟩,A1.nil w⟩) (by rw[o2];omega) ?_;intro so3 T3 w3 g3 e3;refine k _ T3 w3 g3 ?_ ⟨f2.BD,f2.sM⟩ (e2.trans e3);unfold PS.No PS.send;rw[<-q2];unfold Mc.p;dsimp only;rw[List.map_append];rfl
open Go Go.Sx
def AfS (lo hi:ByteArray)(o:Op):Bool:=if ER o=0 then !CW lo hi (Dp o).1 (Dp o).2 else true
def Zg (n:Int):Int:=IntKind.u64.wrap (n+1)
theorem Agh (n:Int):DR (Zg n):=by
 unfold Zg DR;simp only[IntKind.wrap,IntKind.signed,IntKind.bits];simp;omega
namespace PS
def PA (P:PS)(x:PM):Bool:=!((x.move==0)||((x.move !=P.c.move)||((B0 P.c.id P.Ac true).any (λr=>Bw r.lo r.hi x.FN x.G6)||x.ops.any (AfS x.FN x.G6))))
def RJ (P:PS)(x:PM):Bool:=(x.move !=P.c.AJ)||Decidable.decide (x.attempt>P.c.CD)
def opens (P:PS)(x:PM):PS:=if P.RJ x then {P with c:={P.c with AJ:=x.move,CD:=x.attempt,Bo:=0,Ph:=x.FN,Qq:=x.G6}}else P
def odd (P:PS)(x:PM):Bool:=Decidable.decide (x.attempt<P.c.CD)||(Decidable.decide (x.n>P.c.Bo)||!(seq x.FN P.c.Ph&&(seq x.G6 P.c.Qq&&true)))
def enters (P:PS)(x:PM):PS:=if x.n==P.c.Bo then {P with writes:=P.writes++x.ops,c:={P.c with Bo:=Zg P.c.Bo}}else P
def Xh (x:PM):PM:={PM.zero with kind:=12,dst:=x.src,move:=x.move,attempt:=x.attempt,n:=x.n}
def NW (P:PS)(x:PM):PS:=
 if P.PA x then if P.RJ x&&(x.n !=0)then P else if(P.opens x).odd x then P.opens x else((P.opens x).enters x).send (Xh x)else P
end PS
set_option maxHeartbeats 8000000 in
theorem AfW (h:A6 w m T X)(x:Mg)(hx:Bq T (Su x) w)(hO:X.d.Ac.length<=100)(hL:x.ops.length<=100)(hb:X.d.out.length<=90000)(hw:X.d.writes.length<=1000){K:TR []->Pr}(k:∀X' T' w',A6 w' m T' X'->X'.p=X.p.NW x.p->Fix X X'->Aq T T' w w'->K () w'):
  Cl Pg 77 [.pointer (some ⟨m,0,none⟩),.agg (Sm x)] true [] K w:=by
 refine JE _ _ _ _ _ _ _ _ _ _ _ _ _ _ _ _ _ _ _ x.so x.sr x.sw ?_;unfold HH;dsimp only[Ag,Li,Ll,Ls,Lu,Ts,Vb,Vi,Vp,Vs,Vt,Vu];refine Ad λa w1 h1 n1 k1=>?_;have g1:=h.Ab k1;have Ta:T a=0:=h.new n1;have ol:x.so.len=x.ops.length:=hx.ok.1.len;unfold PS.NW at k;have em:X.p.PA x.p=!((x.move==0)||((x.move !=X.c.move)||((B0 X.c.id X.d.Ac true).any (λr=>Bw r.lo r.hi x.FN x.G6)||x.ops.any (AfS x.FN x.G6)))):=rfl;refine BR (!X.p.PA x.p) (λJ hJ=>?_) λw2 k2=>?_
 ·rw[em,Bool.not_not]at hJ;have g1d:=g1.Ab (Am w1);simp only[sb,h1,g1.hd,Bs,A5,Nat.reduceAdd];cases c1:((x.move:Int)==0)with
  |true=>
   rw[c1,Bool.true_or]at hJ;exact hJ _ (Am w1)
  |false=>
   rw[c1,Bool.false_or]at hJ;simp only[sb,h1,g1.hd,Bs,A5,Nat.reduceAdd];cases c2:((x.move:Int) !=X.c.move)with
   |true=>
    rw[c2,Bool.true_or]at hJ;exact hJ _ (Am w1)
   |false=>
    rw[c2,Bool.false_or]at hJ;simp only[sb,g1.hd,Bs,A5,Nat.reduceAdd];refine Uj g1d g1d.r.ow.ok (by omega) true λr2 w2 hr2 fr2 k2=>?_;have h2:=(Aj (Am w1) k2).Aw h1;have lr:(B0 X.c.id X.d.Ac true).length<=100:=ON hO;refine ME (p:=λr=>Bw r.lo r.hi x.FN x.G6) (F:=λ_=>False) hr2.C6 ?_ (by omega) λw3 k3=>?_
    ·intro w4 k4 y hy K1 hK;have h4:=k4.SU.Aw h2;refine BJ (by kernel_rfl) ?_;refine HO y.lo y.hi _ ?_;unfold F5;dsimp only[Ls,Tt,Vt];refine Ad λb w5 h5 n5 k5=>?_;simp only[sb,h5,k5.Aw h4,A5,Nat.reduceAdd];refine Vr _ _ _ _ λw6 k6=>?_;dsimp only;refine DS ⟨mLo y.lo y.hi x.FN x.G6,mHi y.lo y.hi x.FN x.G6⟩ λc w7 h7 n7 k7=>?_;exact hK w7 (Aj (Aj k5 k6) k7)
    ·have h3:=k3.Aw h2;have k13:=Aj (Aj (Am w1) k2) k3;dsimp only;cases c3:(B0 X.c.id X.d.Ac true).any (λr=>Bw r.lo r.hi x.FN x.G6)with
     |true=>
      rw[c3,Bool.true_or]at hJ;exact hJ _ k13
     |false=>
      rw[c3,Bool.false_or]at hJ;simp only[sb,h3,A5,Nat.reduceAdd];refine BN (p:=AfS x.FN x.G6) (F:=λ_=>False) (hx.ok.1.Ab (Aj k1 k13)) ?_ (by omega) λw4 k4=>?_
      ·intro w4 k4 o ho K1 hK;have h4:=k4.SU.Aw h3;refine BJ (by kernel_rfl) ?_;refine HW o.kind o.key o.value o.lo o.hi o.AD _ ?_;unfold FJ;dsimp only[Ar,N6,AN,Ls,Tt,Vt];refine Ad λb w5 h5 n5 k5=>?_;have h45:=k5.Aw h4;simp only[sb,h5];refine Ya o λw6 k6=>?_;obtain⟨y,hy⟩:∃y:Rn,y=(if ER o=0 then⟨(Dp o).1,(Dp o).2⟩else⟨BA [],BA []⟩):=⟨_,rfl⟩;have e1:(if ER o=0 then(((Dp o).1,(Dp o).2,()),(0:Int),())else((BA [],BA [],()),ER o,()))=(((y.lo,y.hi,()),ER o,()):TR [.ag [.s,.s],.sc (.i .i64)]):=by
        rw[hy];by_cases h0:ER o=0
        ·rw[if_pos h0,if_pos h0,h0]
        ·rw[if_neg h0,if_neg h0]
       rw[e1];dsimp only;refine DS y λc w7 h7 n7 k7=>?_;have h47:=(Aj k6 k7).Aw h45;unfold AfS at hK;by_cases h0:ER o=0
       ·rw[if_pos h0]at hK hy;rw[h0];simp only[show((0:Int) !=0)=false from rfl,sb,h47,h7,A5,Nat.reduceAdd];refine Z1 _ _ _ _ λw8 k8=>?_;rw[hy];exact hK w8 (Aj (Aj (Aj k5 k6) k7) k8)
       ·rw[if_neg h0]at hK;rw[show((ER o:Int) !=0)=true from by simpa using h0];simp only[Af];exact hK w7 (Aj (Aj k5 k6) k7)
      ·exact hJ w4 (Aj k13 k4)
 have g2:=g1.Ab k2;have h2:=k2.Aw h1;have e02:Aq T T w w2:=Aq.k0 (Aj k1 k2);cases hm:X.p.PA x.p with
 |false=>
  rw[hm,if_neg (by simp)]at k;simp only[Bool.not_false,sb];exact k X T w2 g2 rfl (Fix.refl _) e02
 |true=>
  rw[hm,if_pos rfl]at k;simp only[Bool.not_true,sb];have en:X.p.RJ x.p=((x.move !=X.c.AJ)||decide (x.attempt>X.c.CD)):=rfl;refine AG (λ_ w'=>(X.p.RJ x.p&&(x.n !=0))=false/\∃X3,A6 w' m T X3/\X3.p=X.p.opens x.p/\X3.d=X.d/\Aq T T w1 w') (λJ3 hJ3=>?_) ?_
  ·refine BR (X.p.RJ x.p) (λJ4 hJ4=>?_) λw3 k3=>?_
   ·rw[en]at hJ4;simp only[sb,h2,g2.hd,Bs,A5,Nat.reduceAdd];cases c1:((x.move:Int) !=X.c.AJ)with
    |true=>
     rw[c1,Bool.true_or]at hJ4;exact hJ4 _ (Am w2)
    |false=>
     rw[c1,Bool.false_or]at hJ4;simp only[sb,h2,g2.hd,Bs,A5,Nat.reduceAdd];exact hJ4 _ (Am w2)
   ·have g3:=g2.Ab k3;have h3:=k3.Aw h2;have e03:Aq T T w1 w3:=Aq.k0 (Aj k2 k3);cases hn:X.p.RJ x.p with
    |false=>
     simp only[sb];refine hJ3 () w3 ⟨by rw[hn];rfl,X,g3,?_,rfl,e03⟩;unfold PS.opens;rw[hn];rfl
    |true=>
     rw[hn]at k hJ3;simp only[sb,h3];cases c2:((x.n:Int) !=0)with
     |true=>
      rw[show(x.p.n !=0)=(x.n !=0)from rfl,c2]at k;simp only[Af];exact k X T w3 g3 rfl (Fix.refl _) ((Aq.k0 k1).trans e03)
     |false=>
      rw[c2]at hJ3;simp only[sb,h3,A5,Nat.reduceAdd];refine g3.MC {X.c with AJ:=x.move} (by decide) rfl rfl λw4 g4 e4=>?_;refine g4.MC {X.c with AJ:=x.move,CD:=x.attempt} (by decide) rfl rfl λw5 g5 e5=>?_;refine g5.MC {X.c with AJ:=x.move,CD:=x.attempt,Bo:=0} (by decide) rfl rfl λw6 g6 e6=>?_;refine g6.MC {X.c with AJ:=x.move,CD:=x.attempt,Bo:=0,Ph:=x.FN} (by decide) rfl rfl λw7 g7 e7=>?_;refine g7.MC {X.c with AJ:=x.move,CD:=x.attempt,Bo:=0,Ph:=x.FN,Qq:=x.G6} (by decide) rfl rfl λw8 g8 e8=>?_;refine hJ3 () w8 ⟨rfl,_,g8,?_,rfl,((((e03.trans e4).trans e5).trans e6).trans e7).trans e8⟩;unfold PS.opens;rw[hn];rfl
  ·rintro _ w3 ⟨hn,X3,g3,q3,d3,e03⟩;have hn:(X.p.RJ x.p&&(x.p.n !=0))=false:=hn;rw[hn,if_neg (by simp)]at k;rw[<-q3]at k;obtain⟨h3,Ta3⟩:=e03.at h1 Ta;have e0:Aq T T w w3:=(Aq.k0 k1).trans e03;have wl:X3.d.writes.length<=1000:=by rw[d3];exact hw
   have bl:X3.d.out.length<=90000:=by rw[d3];exact hb
   have f3:Fix X X3:=by constructor<;>rw[d3]
   have eo:X3.p.odd x.p=(decide (x.attempt<X3.c.CD)||(decide (x.n>X3.c.Bo)||!(seq x.FN X3.c.Ph&&(seq x.G6 X3.c.Qq&&true)))):=rfl;refine BR (X3.p.odd x.p) (λJ4 hJ4=>?_) λw4 k4=>?_
   ·rw[eo]at hJ4;simp only[sb,h3,g3.hd,Bs,A5,Nat.reduceAdd];cases c1:decide ((x.attempt:Int)<X3.c.CD)with
    |true=>
     rw[c1,Bool.true_or]at hJ4;exact hJ4 _ (Am w3)
    |false=>
     rw[c1,Bool.false_or]at hJ4;simp only[sb,h3,g3.hd,Bs,A5,Nat.reduceAdd];cases c2:decide ((x.n:Int)>X3.c.Bo)with
     |true=>
      rw[c2,Bool.true_or]at hJ4;exact hJ4 _ (Am w3)
     |false=>
      rw[c2,Bool.false_or]at hJ4;simp only[sb,h3,g3.hd,Bs,A5,Nat.reduceAdd];exact hJ4 _ (Am w3)
   have g4:=g3.Ab k4;have h4:=k4.Aw h3;have e04:=e0.trans (Aq.k0 k4);cases ho:X3.p.odd x.p with
   |true=>
    rw[ho,if_pos rfl]at k;simp only[Af];exact k X3 T w4 g4 rfl f3 e04
   |false=>
    rw[ho,if_neg (by simp)]at k;simp only[Ae];refine AG (λ_ w'=>∃X5 T5,A6 w' m T5 X5/\X5.p=X3.p.enters x.p/\Fix X3 X5/\X5.d.out=X3.d.out/\Aq T T5 w4 w') (λJ5 hJ5=>?_) ?_
    ·have g4d:=g4.Ab (Am w4);unfold PS.enters at hJ5;rw[show(x.p.n==X3.p.c.Bo)=(x.n==X3.c.Bo)from rfl]at hJ5;simp only[sb,h4,g4.hd,Bs,A5,Nat.reduceAdd];cases c1:((x.n:Int)==X3.c.Bo)with
     |false=>
      rw[c1]at hJ5;simp only[sb];exact hJ5 () _ ⟨X3,T,g4d,rfl,Fix.refl _,rfl,Aq.k0 (Am w4)⟩
     |true=>
      rw[c1]at hJ5;have g5:=g4d.Ab (Am w4.drew);have k45:=Aj (Am w4) (Am w4.drew);simp only[sb,h4,g4.hd,Bs,A5,Nat.reduceAdd];have hs:=g5.r.wr.ok;have hl:=hs.BY;have hxo:=(hx.Bm (e04.trans (Aq.k0 k45))).ok.1;refine AE.app (ρ:=BQ) (new:=x.ops) hs hxo.rd ol (by rw[R1];rfl) (by omega) (by omega) ?_;intro r6 w6 h6 k6 f6;refine g5.uWr k6 h6 f6 λw7 g7 e7=>?_;simp only[sb,g7.hd,Bs,A5,Nat.reduceAdd];refine g7.MC {X3.c with Bo:=Zg X3.c.Bo} (by decide) rfl rfl λw8 g8 e8=>?_;exact hJ5 () w8 ⟨_,_,g8,rfl,⟨rfl,rfl,rfl,rfl⟩,rfl,((Aq.k0 k45).trans e7).trans e8⟩
    ·rintro _ w5 ⟨X5,T5,g5,q5,f5,o5,e5⟩;obtain⟨h5,Ta5⟩:=e5.at h4 Ta3;simp only[sb,h5];refine KD g5 ⟨12,0,x.src,0,0,0,0,0,0,0,0,0,x.move,x.attempt,x.n,false,BA [],BA [],⟨none,0,0⟩,⟨none,0,0⟩,⟨none,0,0⟩,[],[],[]⟩ (Bq.NI λw=>⟨A1.nil w,⟨A1.nil w,by simp⟩,A1.nil w⟩) (by rw[o5];omega) ?_;intro so6 T6 w6 g6 e6;refine k _ T6 w6 g6 ?_ (f3.trans (f5.trans ⟨rfl,rfl,rfl,rfl⟩)) ((e04.trans e5).trans e6);rw[<-q5];unfold PS.send PS.Xh Mc.p;dsimp only;rw[List.map_append];rfl
open Go Go.Sx
theorem A6.ZZ (h:A6 w m T X){b:Nat}(hx:X.d.bx=some b)(B:Bx)(hr:B.sr=X.d.box.sr/\B.row=X.d.box.row)(hl:Bq T (λw=>A1 BQ w B.sl B.load) w){i:Nat}{v:Value}(hi:i<11)(h1:v.oneCell'=true)(he:(Gb X.d.box).set i v=Gb B){K:Pr}(k:∀w',A6 w' m T {X with d:={X.d with box:=B}}->Aq T T w w'->K w'):St ⟨b,i,none⟩ v K w:=by
 obtain⟨lb,tb⟩:=h.r.bo.tag b hx;have mb:m≠b:=λe=>by have:=h.t1;rw[e,tb]at this;cases this
 refine Ax (h.r.bo.ok b hx) i v h1 (by simpa[Gb]using hi) λw2 h2 k2=>?_;have s:CH 9 T T w w2:=⟨k2.FY λc hc=>.inl (by simp at hc;rw[hc];exact tb),λ_ _ _=>rfl⟩;have q:=h.r;have hnew:w2.heap[b]?=some (.cells (Gb B).toArray 118 (0,0)):=by
  rw[h2,<-he];simp
 have e0:∀c,X.d.bx=some c->c=b:=λc hc=>by rw[hx]at hc;injection hc with hc;exact hc.symm
 refine k w2 ⟨k2.Mw h.hd mb,h.t1,?_⟩ (s.Bm (by decide));refine⟨q.ow.kt (by decide) s,q.he.kt (by decide) (by decide) s,λx hx=>(q.Ro x hx).kt (by decide) s,q.fi.kt (by decide) (by decide) s,q.wa.kt (by decide) (by decide) s,λx hx=>(q.Ss x hx).kt (by decide) s,q.ta.kt (by decide) (by decide) s,q.ou.kt (by decide) (by decide) s,λx hx=>(q.Wp x hx).kt (by decide) s,q.wr.kt (by decide) (by decide) s,q.li.kt (by decide) (by decide) s,?_,?_,hl.kt (by decide) s,q.RF.kt (by decide) (by decide) s,λb hb=>Nat.lt_of_lt_of_le (q.bd b hb) k2.size⟩
 ·refine⟨λc hc=>by rw[e0 c hc];exact hnew,λw3 _ hw c hc=>?_,λc hc=>?_⟩
  ·rw[e0 c hc,hw b (by have:=k2.size;omega) (.inl tb)];exact hnew
  ·rw[e0 c hc];exact⟨by have:=k2.size;omega,tb⟩
 ·show FV T 10 (·∈Ai B.sr) (λw=>Bh BQ w B.sr B.row) w2;rw[hr.1,hr.2];exact q.ro.kt (by decide) (by decide) s
theorem Y8 (h:∀b,T b≠0->b<w.heap.size):∃k,12<k/\∀b,T b≠k:=by
 have:∀n,∃k,12<k/\∀b,b<n->T b<k:=by
  intro n;induction n with
  |zero=>exact⟨13,by decide,λb hb=>by omega⟩
  |succ n ih=>
   obtain⟨k,h1,h2⟩:=ih;refine⟨k+T n+1,by omega,λb hb=>?_⟩;rcases Nat.lt_or_ge b n with hb'|hb'
   ·have:=h2 b hb';omega
   ·obtain rfl:b=n:=by omega
    omega
 obtain⟨k,h1,h2⟩:=this w.heap.size;refine⟨k,h1,λb hb=>?_⟩;have h0:T b≠0:=by omega
 have:=h2 b (h b h0);omega
theorem Rest.kk (hk:12<k){w w':World}{T T':Nat->Nat}{X:Co}(h:Rest w T X)(s:CH k T T' w w')(hb:∀b,T' b≠0->b<w'.heap.size):Rest w' T' X:=
 ⟨h.ow.kt (by omega) s,h.he.kt (by omega) (by omega) s,λx hx=>(h.Ro x hx).kt (by omega) s,h.fi.kt (by omega) (by omega) s,h.wa.kt (by omega) (by omega) s,λx hx=>(h.Ss x hx).kt (by omega) s,h.ta.kt (by omega) (by omega) s,h.ou.kt (by omega) (by omega) s,λx hx=>(h.Wp x hx).kt (by omega) s,h.wr.kt (by omega) (by omega) s,h.li.kt (by omega) (by omega) s,h.bo.kt (by omega) (by omega) s,h.ro.kt (by omega) (by omega) s,h.lo.kt (by omega) s,h.RF.kt (by omega) (by omega) s,hb⟩
theorem A6.kk {k:Nat}(hk:12<k){w w':World}{m:Nat}{T T':Nat->Nat}{X:Mc}(h:A6 w m T X)(s:CH k T T' w w')(hb:∀b,T' b≠0->b<w'.heap.size):A6 w' m T' X:=
 ⟨(s.kp.get m h.lt (by rw[h.t1];omega)).trans h.hd,(s.tg m h.lt (by rw[h.t1];omega)).trans h.t1,h.r.kk hk s hb⟩
structure Loc {α:Type}(ρ:Rec α)(k n:Nat)(T:Nat->Nat)(r:Sl)(l:List α)(w:World):Prop where
 c:FV T k (·∈Ai r) (λw=>Bh ρ w r l) w
 new:∀b,T b=k->n<=b
theorem Loc.nil {α:Type}{ρ:Rec α}{k n:Nat}{T:Nat->Nat}{w:World}(h:∀b,T b≠k):Loc ρ k n T ⟨none,0,0⟩ [] w:=⟨.of (AE.nil _ _) (by simp[Ai]),λb hb=>absurd hb (h b)⟩
theorem Aq.loc (hk:12<k){T0 T T':Nat->Nat}{w0 w w':World}(e:Aq T0 T w0 w)(s:CH k T T' w w')(hn:∀b,T b=k->w0.heap.size<=b):Aq T0 T' w0 w':=by
 refine⟨e.kp.trans s.kp λx hx=>.inr (hn x hx),λb hb h0=>?_⟩;have e1:=e.tg b hb h0;rw[<-e1];exact s.tg b (Nat.lt_of_lt_of_le hb e.kp.size) λhk'=>by have:=hn b hk';omega
theorem Tn {ρ:Rec α}(hk:12<k){e bytes:Nat}{z:Array Value}{w w0:World}{m:Nat}{T T0:Nat->Nat}{X:Mc}(h:A6 w m T X){r:Sl}{l new:List α}(hr:Loc ρ k n T r l w)(h0:Aq T0 T w0 w)(hn:n=w0.heap.size){src:List Value->World->Prop}(hsrc:src (new.flatMap ρ.c) w){q:Nat}(hq:q=new.length)(hz:z.size=ρ.n)(h47:(r.len+q)*bytes<=140737488355328)(h63:r.len+q<=9223372036854775807){K:Sl->Pr}(kk:∀r' T' w',A6 w' m T' X->Loc ρ k n T' r' (l++new) w'->CH k T T' w w'->Aq T0 T' w0 w'->K r' w'):App e ρ.n bytes z r q src K w:=by
 refine AE.app hr.c.ok hsrc hq hz h47 h63 ?_;intro r' w' h' k' f';have s:CH k T (AX k r' T) w w':=CH.row k' (λb hb=>(hr.c.tag b hb).2) f';have hb:∀b,AX k r' T b≠0->b<w'.heap.size:=GH h' k'.size h.r.bd;refine kk r' _ w' (h.kk hk s hb) ⟨.of h' ED,λb hb=>?_⟩ s (Aq.loc hk h0 s (by rw[<-hn];exact hr.new));unfold AX at hb;split at hb
 ·rename_i hm;rcases f' b hm with h1|h1
  ·exact hr.new b (hr.c.tag b h1).2
  ·have:=h0.kp.size;omega
 ·exact hr.new b hb
theorem Loc.Bm {ρ:Rec α}(hk:12<k){w w':World}{T:Nat->Nat}{r:Sl}{l:List α}(h:Loc ρ k n T r l w)(e:Aq T T w w'):Loc ρ k n T r l w':=by
 have hs:=e.kp.size;have get:∀b,b<w.heap.size->(T b=k\/T b=0)->w'.heap[b]?=w.heap[b]?:=λb hb ht=>e.kp.get b hb (by rcases ht with ht|ht<;>rw[ht]<;>omega);refine⟨⟨h.c.st w' hs get,λw2 h2 hw=>h.c.st w2 (Nat.le_trans hs h2) λb hb ht=>?_,λb hb=>⟨Nat.lt_of_lt_of_le (h.c.tag b hb).1 hs,(h.c.tag b hb).2⟩⟩,h.new⟩;rw[hw b (Nat.lt_of_lt_of_le hb hs) ht];exact get b hb ht
theorem Loc.Ab {ρ:Rec α}(hk:12<k){w w':World}{T:Nat->Nat}{r:Sl}{l:List α}(h:Loc ρ k n T r l w)(e:Aa [] w w'):Loc ρ k n T r l w':=Loc.Bm hk h (Aq.k0 e)
theorem Loc.row {ρ:Rec α}(hk:12<k){w w':World}{T:Nat->Nat}{r:Sl}{l:List α}(h:Loc ρ k n T r l w){j:Nat}{q:Sl}(hj:j<k)(hq:∀c∈Ai q,w.heap.size<=c)(e:Aq T (AX j q T) w w'):Loc ρ k n (AX j q T) r l w':=by
 have hs:=e.kp.size;have old:∀b,b<w.heap.size->AX j q T b=T b:=λb hb=>if_neg λhm=>by have:=hq b hm;omega
 have get:∀b,b<w.heap.size->(T b=k\/T b=0)->w'.heap[b]?=w.heap[b]?:=λb hb ht=>e.kp.get b hb (by rcases ht with ht|ht<;>rw[ht]<;>omega);refine⟨⟨h.c.st w' hs get,λw2 h2 hw=>h.c.st w2 (Nat.le_trans hs h2) λb hb ht=>?_,λb hb=>?_⟩,λb hb=>?_⟩
 ·rw[hw b (Nat.lt_of_lt_of_le hb hs) (by rw[old b hb];exact ht)];exact get b hb ht
 ·obtain⟨h1,h2⟩:=h.c.tag b hb;exact⟨Nat.lt_of_lt_of_le h1 hs,(old b h1).trans h2⟩
 ·unfold AX at hb;split at hb
  ·omega
  ·exact h.new b hb
theorem Loc.AcO {α:Type}{ρ:Rec α}{k:Nat}(hk:12<k){w w0:World}{m:Nat}{T T0:Nat->Nat}{X:Mc}(h:A6 w m T X){r:Sl}{l:List α}(hr:Loc ρ k w0.heap.size T r l w)(h0:Aq T0 T w0 w):A6 w m (CG k T) X/\Bq (CG k T) (λw=>A1 ρ w r l) w/\Aq T0 (CG k T) w0 w:=by
 have q:=h.r;refine⟨⟨h.hd,AS (by omega) h.t1,q.ow.drop λ_=>A8,q.he.drop (λ_=>A8) (λ_=>AS (by omega)),λx hx=>(q.Ro x hx).drop λ_=>A8,q.fi.drop (λ_=>A8) (λ_=>AS (by omega)),q.wa.drop (λ_=>A8) (λ_=>AS (by omega)),λx hx=>(q.Ss x hx).drop λ_=>A8,q.ta.drop (λ_=>A8) (λ_=>AS (by omega)),q.ou.drop (λ_=>A8) (λ_=>AS (by omega)),λx hx=>(q.Wp x hx).drop λ_=>A8,q.wr.drop (λ_=>A8) (λ_=>AS (by omega)),q.li.drop (λ_=>A8) (λ_=>AS (by omega)),q.bo.drop (λ_=>A8) (λ_=>AS (by omega)),q.ro.drop (λ_=>A8) (λ_=>AS (by omega)),q.lo.drop λ_=>A8,q.RF.drop (λ_=>A8) (λ_=>AS (by omega)),λb hb=>q.bd b (XN hb)⟩,?_,h0.kp,λb hb ht=>?_⟩
 ·have:=hr.c.AcO (T':=CG k T) (λ_=>A8) (λ_=>Aa1);exact this.map λw h=>h.C6
 ·rw[<-h0.tg b hb ht];unfold CG;rw[if_neg];intro e;have:=hr.new b e;omega
open Go Go.Sx
def D0 (b:PB):List Op:=if b.n==0 then [⟨5,BA [],BA [],b.lo,b.hi,0⟩]else []
def Agw (p:Pa):Op:=⟨2,p.k,p.v,BA [],BA [],0⟩
def Ae5 (p:Pa):ByteArray:=if Kx p.k then M9 p.k else BA []
def GJ (M:List Pa)(b:PB):List Pa:=BM M b.H5 b.hi (An (6-((D0 b).length:Int)))
def Zc (ps:List Pa)(a:ByteArray):ByteArray:=ps.foldl (λ_ p=>Ae5 p) a
def AeN (M:List Pa)(b:PB)(wh:ByteArray):Bool:=decide (((GJ M b).length:Int)<An (6-((D0 b).length:Int)))||(seq wh (BA [])||(!seq b.hi (BA [])&&!slt wh b.hi))
def EV (M:List Pa)(b:PB):PB:=if b.all then b else {b with H5:=Zc (GJ M b) b.H5,all:=AeN M b (Zc (GJ M b) b.H5)}
def CO (M:List Pa)(b:PB):List Op:=if b.all then D0 b else D0 b++(GJ M b).map Agw
def Pz (b:PB)(l:List Op):Nat:=min (6-l.length) b.row.length
def Db (M:List Pa)(b:PB):PB×List Op:=if(EV M b).all then({EV M b with row:=(EV M b).row.drop (Pz (EV M b) (CO M b))},CO M b++(EV M b).row.take (Pz (EV M b) (CO M b)))else(EV M b,CO M b)
theorem Pd (b:PB):(D0 b).length<=1:=by unfold D0;split<;>simp
theorem Abt (M:List Pa)(lo hi:ByteArray)(n:Nat):(BM M lo hi (n:Int)).length<=n:=by
 unfold BM;rw[if_neg (by omega),List.length_take];exact Nat.min_le_left _ _
theorem R9 (M:List Pa)(b:PB):(D0 b).length+(GJ M b).length<=6:=by
 have h:=Pd b;have e:An (6-((D0 b).length:Int))=((6-(D0 b).length:Nat):Int):=Go.Sx.N0 (m:=6) (by omega) (by omega);unfold GJ;rw[e];have:=Abt M b.H5 b.hi (6-(D0 b).length);omega
theorem OL (M:List Pa)(b:PB):(CO M b).length<=6:=by
 have h1:=Pd b;have h2:=R9 M b;unfold CO;split
 ·omega
 ·rw[List.length_append,List.length_map];omega
theorem Acx {ps:List Pa}{p:Pa}(h:ps[i]?=some p)(a:ByteArray):Zc (ps.take (i+1)) a=Ae5 p:=by
 unfold Zc;rw[GZ _ h]
set_option maxHeartbeats 8000000 in
theorem Ai3 (h:A6 w m T X){b:Nat}(hx:X.d.bx=some b)(hMN:X.d.M.length<=300000)(hR:X.d.box.row.length<=1000000){K:TR [.sc .sl]->Pr}(k:∀r T' B w',A6 w' m T' {X with d:={X.d with box:=B}}->B.p=(Db X.d.M X.d.box.p).1->Bq T' (λw=>A1 BQ w r (Db X.d.M X.d.box.p).2) w'->Aq T T' w w'->K (r,()) w'):
  Cl Pg 219 [.pointer (some ⟨m,0,none⟩)] false [.sc .sl] K w:=by
 obtain⟨kt,hk,hT⟩:=Y8 h.r.bd;refine L6 _ ?_;unfold Iu;dsimp only[Ar,N6,Lb,Ll,Hr,Ls,Lu,Tb,Ti,Ts,Tt,Vb,Vi,Vt];simp only[sb,h.hd,Bs,hx,Option.map_some];refine AG (λs w'=>∃T1,A6 w' m T1 X/\Loc BQ kt w.heap.size T1 s.1 (D0 X.d.box.p) w'/\Aq T T1 w w') (λJ3 hJ3=>?_) ?_
 ·have hb:=h.r.bo.ok b hx;simp only[sb,hb,Gb];unfold D0 at hJ3;rw[show(X.d.box.p.n==0)=(X.d.box.n==0)from rfl]at hJ3;cases c0:((X.d.box.n:Int)==0)with
  |false=>
   rw[c0]at hJ3;simp only[sb];exact hJ3 _ w ⟨T,h,Loc.nil hT,Aq.refl _ _⟩
  |true=>
   rw[c0]at hJ3;have hd:=h.Ab (Am w);simp only[sb,hb,Gb,A5,Nat.reduceAdd];refine Ad λc w1 h1 n1 k1=>?_;have g1:=hd.Ab k1;refine Tn hk g1 (ρ:=BQ) (l:=[]) (new:=[⟨5,BA [],BA [],X.d.box.lo,X.d.box.hi,0⟩]) (Loc.nil hT) (Aq.k0 (Aj (Am w) k1)) rfl (by rw[List.flatMap_singleton];exact BI (ρ:=BQ) (x:=⟨5,BA [],BA [],X.d.box.lo,X.d.box.hi,0⟩) h1) rfl (by rw[R1];rfl) (by show(0+1)*80<=_;omega) (by show 0+1<=_;omega) ?_;intro r2 T2 w2 g2 l2 _ e2;exact hJ3 _ w2 ⟨T2,g2,l2,e2⟩
 ·rintro⟨r1,⟨⟩⟩ w1 ⟨T1,g1,l1,e1⟩;have l1:Loc BQ kt w.heap.size T1 r1 (D0 X.d.box.p) w1:=l1;have lf:=Pd X.d.box.p;have hl1:=l1.c.ok.BY;dsimp only;refine AG (λs w'=>∃T2 B,A6 w' m T2 {X with d:={X.d with box:=B}}/\B.p=EV X.d.M X.d.box.p/\Loc BQ kt w.heap.size T2 s.2.1 (CO X.d.M X.d.box.p) w'/\Aq T T2 w w') (λJ5 hJ5=>?_) ?_
  ·have hb:=g1.r.bo.ok b hx;simp only[sb,hb,Gb];unfold EV CO at hJ5;rw[show X.d.box.p.all=X.d.box.all from rfl]at hJ5;cases ca:X.d.box.all with
   |true=>
    rw[ca]at hJ5;simp only[Bool.not_true,sb];exact hJ5 _ w1 ⟨T1,X.d.box,g1,rfl,l1,e1⟩
   |false=>
    rw[ca]at hJ5;have g1d:=g1.Ab (Am w1);simp only[Bool.not_false,sb,g1.hd,Bs,hb,Gb,A5,Nat.reduceAdd];refine⟨rfl,?_⟩;refine ZE g1d.r.RF.ok (by omega) _ _ _ ?_;intro r2 w2 hr2 fr2 k2;rw[hl1]at hr2 ⊢;have hr2:Bh C2 w2 r2 (GJ X.d.M X.d.box.p):=hr2;have k12:=Aj (Am w1) k2;have g2:=g1.Ab k12;have l2:=l1.Ab hk k12;have e2:=e1.trans (Aq.k0 k12);have hl2:=hr2.BY;have sl:=R9 X.d.M X.d.box.p;have i2:Bq T1 (λw=>A1 C2 w r2 (GJ X.d.M X.d.box.p)) w2:=.of hr2.C6 λb hb=>g1.new (by have:=fr2 b (AE.rb hr2 b hb);have d:w1.drew.heap.size=w1.heap.size:=rfl;omega);simp only[show((0:Int) !=0)=false from rfl,Ae];generalize hps:GJ X.d.M X.d.box.p=ps at *;refine⟨λn st w'=>∃(i:Nat) (r:Sl) (T3:Nat->Nat),st=(r,(i:Int),())/\n=ps.length-i/\i<=ps.length/\A6 w' m T3 {X with d:={X.d with box:={X.d.box with H5:=Zc (ps.take i) X.d.box.H5}}}/\Loc BQ kt w.heap.size T3 r (D0 X.d.box.p++(ps.take i).map Agw) w'/\Bq T3 (λw=>A1 C2 w r2 ps) w'/\Aq T T3 w w',⟨_,0,r1,T1,rfl,rfl,by omega,g2,by simpa using l2,i2,e2⟩,?_⟩;rintro n _ w3 ⟨i,r3,T3,rfl,rfl,hi,g3,l3,i3,e3⟩;dsimp only;by_cases hlt:i<ps.length
    ·rw[decide_eq_true (by omega)];simp only[Af];obtain⟨p,hp⟩:∃p,ps[i]?=some p:=⟨_,List.getElem?_eq_getElem hlt⟩;refine KH i3.ok hp ?_;refine KC p λc w4 h4 n4 k4=>?_;simp only[sb,h4];refine Ad λd w5 h5 n5 k5=>?_;have k35:=Aj k4 k5;have g5:=g3.Ab k35;have l5:=l3.Ab hk k35;have hl5:=l5.c.ok.BY;rw[List.length_append,List.length_map,List.length_take]at hl5;have Tc:T3 c=0:=g3.new n4;refine Tn hk g5 (ρ:=BQ) (q:=1) (new:=[Agw p]) l5 (e3.trans (Aq.k0 k35)) rfl (by rw[List.flatMap_singleton];exact BI (ρ:=BQ) (x:=Agw p) h5) rfl (by rw[R1];rfl) (by omega) (by omega) ?_;intro r6 T6 w6 g6 l6 s6 e6;have h6:w6.heap[c]?=_:=(s6.kp.get c (Av (k5.Aw h4)) (by rw[Tc];omega)).trans (k5.Aw h4);have i6:=(i3.Ab k35).kt (by omega) s6;simp only[sb,h6];refine Ab3 _ λw7 k7=>?_;obtain⟨y,hy⟩:∃y:Rn,y=(if Kx p.k then⟨p.k,M9 p.k⟩else⟨BA [],BA []⟩):=⟨_,rfl⟩;have ey:(if Kx p.k then((p.k,M9 p.k,()),(0:Int),())else((BA [],BA [],()),(20:Int),()))=(((y.lo,y.hi,()),(if Kx p.k then(0:Int)else 20),()):TR [.ag [.s,.s],.sc (.i .i64)]):=by rw[hy];cases Kx p.k<;>rfl
     have yh:y.hi=Ae5 p:=by rw[hy];unfold Ae5;cases Kx p.k<;>rfl
     rw[ey];dsimp only;refine DS y λq w8 h8 n8 k8=>?_;have k68:=Aj k7 k8;have g8:=g6.Ab k68;simp only[sb,h8];refine g8.ZZ hx {X.d.box with H5:=Ae5 p} ⟨rfl,rfl⟩ g8.r.lo (by decide) rfl (by rw[yh];rfl) λw9 g9 e9=>?_;have e69:Aq T6 T6 w6 w9:=(Aq.k0 k68).trans e9;refine⟨ps.length-(i+1),by omega,i+1,r6,T6,by rw[AK (by omega)],rfl,by omega,?_,?_,i6.Bm e69,e6.trans e69⟩
     ·rw[Acx hp];exact g9
     ·have:=Loc.Bm hk l6 e69;rw[List.take_add_one,hp,List.map_append,<-List.append_assoc];exact this
    ·rw[decide_eq_false (by omega)];rw[List.take_of_length_le (by omega)]at g3 l3;have g3d:=g3.Ab (Am w3);have e3d:=e3.trans (Aq.k0 (Am w3));have l3d:=l3.Ab hk (Am w3);have fin:∀(v:Bool),v=AeN X.d.M X.d.box.p (Zc ps X.d.box.H5)->(St ⟨b,7,none⟩ (.bool v) (J5 (⟨none,0,0⟩,r3,()))) w3.drew:=by
      intro v hv;refine g3d.ZZ hx {X.d.box with H5:=Zc ps X.d.box.H5,all:=v} ⟨rfl,rfl⟩ g3d.r.lo (by decide) rfl rfl λw9 g9 e9=>?_;refine hJ5 _ w9 ⟨T3,_,g9,?_,Loc.Bm hk l3d e9,e3d.trans e9⟩;rw[hv];rfl
     unfold AeN at fin;rw[hps]at fin;have hb3:=g3.r.bo.ok b hx;have w6:An (6-((D0 X.d.box.p).length:Int))=((6-(D0 X.d.box.p).length:Nat):Int):=Go.Sx.N0 (m:=6) (by omega) (by omega);simp only[sb];rw[hl2,w6];rw[w6]at fin;cases d1:decide (((ps.length:Nat):Int)<((6-(D0 X.d.box.p).length:Nat):Int))with
     |true=>
      rw[d1]at fin;simp only[sb];exact fin true (by rw[Bool.true_or])
     |false=>
      rw[d1,Bool.false_or]at fin;simp only[sb,hb3,Gb];cases d2:seq (Zc ps X.d.box.H5) (BA [])with
      |true=>
       rw[d2]at fin;simp only[sb];exact fin true (by rw[Bool.true_or])
      |false=>
       rw[d2,Bool.false_or]at fin;rw[show X.d.box.p.hi=X.d.box.hi from rfl]at fin;simp only[sb,hb3,Gb,A5,Nat.reduceAdd];cases d3:seq X.d.box.hi (BA [])with
       |true=>
        rw[d3]at fin;simp only[Bool.not_true,sb];exact fin false (by simp)
       |false=>
        rw[d3]at fin;simp only[Bool.not_false,sb,hb3,Gb,A5,Nat.reduceAdd];exact fin _ (by rw[Bool.not_false,Bool.true_and])
  ·rintro⟨z,r2,⟨⟩⟩ w2 ⟨T2,B,g2,q2,l2,e2⟩;have l2:Loc BQ kt w.heap.size T2 r2 (CO X.d.M X.d.box.p) w2:=l2;have hl2:=l2.c.ok.BY;have sl:=OL X.d.M X.d.box.p;have rowB:B.row=X.d.box.row:=by
    have:B.p.row=X.d.box.p.row:=by rw[q2];unfold EV;split<;>rfl
    exact this
   have hb2:=g2.r.bo.ok b hx;refine AG (λs w'=>∃T3 B3,A6 w' m T3 {X with d:={X.d with box:=B3}}/\B3.p=(Db X.d.M X.d.box.p).1/\Loc BQ kt w.heap.size T3 s.1 (Db X.d.M X.d.box.p).2 w'/\Aq T T3 w w') (λJ7 hJ7=>?_) ?_
   ·unfold Db at hJ7;rw[<-q2]at hJ7;rw[show B.p.all=B.all from rfl]at hJ7;simp only[sb,hb2,Gb];cases ca:B.all with
    |false=>
     rw[ca]at hJ7;simp only[sb];exact hJ7 _ w2 ⟨T2,B,g2,rfl,l2,e2⟩
    |true=>
     rw[ca]at hJ7;simp only[sb,hb2,Gb];have hro:=g2.r.ro.ok;have hrl:=hro.BY;have hrc:=AE.cap hro;have hrl:B.sr.len=B.row.length:=hrl;have hrc:B.sr.len<=B.sr.cap:=hrc;have hn:(if(An (6-((r2.len:Nat):Int)):Int)<((B.sr.len:Nat):Int)then An (6-((r2.len:Nat):Int))else((B.sr.len:Nat):Int))=((Pz B.p (CO X.d.M X.d.box.p):Nat):Int):=by
      rw[hl2,hrl,show An (6-(((CO X.d.M X.d.box.p).length:Nat):Int))=((6-(CO X.d.M X.d.box.p).length:Nat):Int)from Go.Sx.N0 (m:=6) (by omega) (by omega)];unfold Pz;rw[show B.p.row=B.row from rfl];split<;>omega
     have hle:Pz B.p (CO X.d.M X.d.box.p)<=B.row.length:=Nat.min_le_right _ _;have hle6:Pz B.p (CO X.d.M X.d.box.p)<=6:=Nat.le_trans (Nat.min_le_left _ _) (by omega);rw[hn];generalize hnn:Pz B.p (CO X.d.M X.d.box.p)=n at *;rw[Int.toNat_natCast];refine⟨⟨by omega,by omega⟩,?_⟩;have hre:A1 BQ w2 B.sr B.row:=hro.C6;have hd:=hre.drop (lo:=0) (hi:=n) (by omega) (by omega);rw[List.drop_zero,Nat.sub_zero]at hd;refine Tn hk g2 (ρ:=BQ) (new:=B.row.take n) l2 e2 rfl hd.rd (by rw[List.length_take];omega) (by rw[R1];rfl) (by omega) (by omega) ?_;intro r3 T3 w3 g3 l3 s3 e3;have hb3:=g3.r.bo.ok b hx;simp only[sb,hb3,Gb];refine⟨⟨by omega,by omega⟩,?_⟩;have hro3:=g3.r.ro.ok;have hre3:A1 BQ w3 B.sr B.row:=hro3.C6;have hd3:=hre3.drop (lo:=n) (hi:=B.sr.len) (by omega) (Nat.le_refl _);have et:(B.row.drop n).take (B.sr.len-n)=B.row.drop n:=List.take_of_length_le (by rw[List.length_drop];omega);have hd3:A1 BQ w3 ⟨A7 B.sr.p B.sr.cap n 6,B.sr.len-n,B.sr.cap-n⟩ (B.row.drop n):=by rw[<-et];exact hd3
     have eB:B.row.length=X.d.box.row.length:=by rw[rowB]
     refine Kz hd3 (by rw[List.length_drop];omega) ?_;intro r4 w4 h4 f4 k4;have l4:=l3.Ab hk k4;simp only[sb];refine g3.uRo hx (l:=B.row.drop n) (k4.mono (by simp)) h4 (λc hc=>.inr (f4 c hc)) λw5 g5 e5=>?_;refine hJ7 _ w5 ⟨_,_,g5,rfl,?_,e3.trans e5⟩;exact Loc.row hk l3 (by omega) (λc hc=>f4 c hc) e5
   ·rintro⟨r3,⟨⟩⟩ w3 ⟨T3,B3,g3,q3,l3,e3⟩;dsimp only;obtain⟨g4,i4,e4⟩:=Loc.AcO hk g3 l3 e3;exact k r3 _ B3 w3 g4 q3 i4 e4
open Go Go.Sx
namespace PS
def Acj (P:PS)(b:PB):PM:={PM.zero with kind:=11,dst:=b.peer,move:=b.move,attempt:=P.c.Au,n:=b.n,FN:=b.lo,G6:=b.hi,ops:=b.load}
def DV (P:PS):PS:=match P.box with
 |none=>P
 |some b=>P.send (P.Acj b)
def busy (P:PS)(lo hi:ByteArray):Bool:=P.held.any (λh=>h.ops.any (CE lo hi))||P.wait.any (λw=>w.ops.any (CE lo hi))
def AbL (b:PB):Bool:=(b.n==0)||(!b.all||Decidable.decide (0<b.row.length))
def My (P:PS)(b:PB):PS:=({P with box:=some {(Db P.M b).1 with load:=(Db P.M b).2,under:=true}}).DV
def freeze (P:PS)(b:PB):PS:=({P with c:={P.c with frozen:=b.move,Qk:=b.lo,MS:=b.hi},box:=none}).send {PM.zero with kind:=14,move:=b.move}
def Fa (P:PS):PS:=match P.box with
 |none=>P
 |some b=>if b.under then P else if AbL b then P.My b else if b.B9&&!P.busy b.lo b.hi then P.freeze b else P
end PS
theorem mgz {x:Mg}(h1:x.so=⟨none,0,0⟩)(h2:x.sr=⟨none,0,0⟩)(h3:x.sw=⟨none,0,0⟩)(h4:x.ops=[])(h5:x.results=[])(h6:x.Ac=[]):Bq T (Su x) w:=by
 refine Bq.NI (φ:=Su x) λw=>⟨?_,⟨?_,?_⟩,?_⟩
 ·rw[h1,h4];exact A1.nil w
 ·rw[h2,h5];exact A1.nil w
 ·rw[h5];simp
 ·rw[h3,h6];exact A1.nil w
theorem Afv (h:A6 w m T X){b:Nat}(hx:X.d.bx=some b)(hL:X.d.box.load.length<=1000000)(hb:X.d.out.length<=90000){K:TR []->Pr}(k:∀X' T' w',A6 w' m T' X'->X'.p=X.p.DV->Fix X X'->Aq T T' w w'->K () w'):Cl Pg 39 [.pointer (some ⟨m,0,none⟩)] true [] K w:=by
 refine KQ _ ?_;unfold IG;dsimp only[Li,Ll,Hr,Ls,Lu,Vb,Vi,Vp,Vs,Vt,Vu];have hbx:=h.r.bo.ok b hx;have hd:=h.Ab (Am w);simp only[sb,h.hd,Bs,hx,Option.map_some,hbx,Gb,A5,Nat.reduceAdd];refine Kz hd.r.lo.ok (by omega) ?_;intro r w1 h1 f1 k1;have k01:=Aj (Am w) k1;have g1:=h.Ab k01;have b1:=g1.r.bo.ok b hx;simp only[sb,g1.hd,Bs,b1,Gb,A5,Nat.reduceAdd];refine⟨by trivial,by trivial,by trivial,by trivial,by trivial,?_⟩;have i1:Bq T (λw=>A1 BQ w r X.d.box.load) w1:=.of h1.C6 λc hc=>h.new (by have:=f1 c (AE.rb h1 c hc);have d:w.drew.heap.size=w.heap.size:=rfl;omega);refine KD g1 ⟨11,0,X.d.box.peer,0,0,0,0,0,0,0,0,0,X.d.box.move,X.c.Au,X.d.box.n,false,X.d.box.lo,X.d.box.hi,r,⟨none,0,0⟩,⟨none,0,0⟩,X.d.box.load,[],[]⟩ (i1.map (ψ:=Su _) λw hw=>⟨hw,⟨A1.nil w,by simp⟩,A1.nil w⟩) (by omega) ?_;intro so2 T2 w2 g2 e2;refine k _ T2 w2 g2 ?_ ⟨rfl,rfl,rfl,rfl⟩ ((Aq.k0 k01).trans e2);unfold PS.DV;rw[show X.p.box=some X.d.box.p from by show X.d.bx.map _=_;rw[hx];rfl];unfold PS.send PS.Acj Mc.p;dsimp only;rw[List.map_append,hx];rfl
theorem A6.AhI (h:A6 w m T X)(c:Sc){i:Nat}{v:Value}(hi:i<26)(h1:v.oneCell'=true)(he:(Bs X).set i v=Bs {X with c:=c}){K:Pr}(k:∀w',A6 w' m T {X with c:=c}->CH 1 T T w w'->K w'):St ⟨m,i,none⟩ v K w:=
 A6.set (X':={X with c:=c}) h.hd h.t1 h.r hi h1 he k
theorem A6.Ai5 (h:A6 w m T X){K:Pr}(k:∀w',A6 w' m T {X with d:={X.d with bx:=none}}->CH 1 T T w w'->K w'):St ⟨m,19,none⟩ (.pointer none) K w:=
 A6.set (X':={X with d:={X.d with bx:=none}}) h.hd h.t1 h.r.unbox (by decide) rfl rfl k
theorem CH.at (s:CH k T T' w w'){b:Nat}{o:Obj}(h:w.heap[b]?=some o)(ht:T b≠k):w'.heap[b]?=some o:=(s.kp.get b (Av h) ht).trans h
set_option maxHeartbeats 8000000 in
theorem Agx (h:A6 w m T X)(hMN:X.d.M.length<=300000)(hR:AM X.p 1000000)(hb:X.d.out.length<=90000)(hH:∀x∈X.d.held,x.ops.length<=1000)(hW:∀x∈X.d.wait,x.ops.length<=1000)(hHn:X.d.held.length<=100000)(hWn:X.d.wait.length<=100000){K:TR []->Pr}(k:∀X' T' w',A6 w' m T' X'->X'.p=X.p.Fa->Dl X X'->Aq T T' w w'->K () w'):Cl Pg 131 [.pointer (some ⟨m,0,none⟩)] true [] K w:=by
 refine JX _ ?_;unfold GX;dsimp only[Lb,Ll,Hr,Ls,Lu,Tb,Tp,Ts,Tu,Vb,Vi,Vp,Vs,Vt,Vu];simp only[sb,h.hd,Bs];refine Ad λa w1 h1 n1 k1=>?_;refine Ax h1 0 _ rfl (by simp) λw2 h2 k2=>?_;simp only[Ck]at h2;have k02:=BT k1 k2 n1;have g2:=h.Ab k02;have Ta:T a=0:=h.new n1;unfold PS.Fa at k;cases hx:X.d.bx with
 |none=>
  rw[show X.p.box=none from by show X.d.bx.map _=_;rw[hx];rfl]at k;rw[hx]at h2;refine BR true (λJ hJ=>?_) λw3 k3=>?_
  ·simp only[sb,h2,Option.map_none,Option.isNone_none];exact hJ _ (Aa.refl _ _)
  ·simp only[sb];exact k X T w3 (g2.Ab k3) rfl (Dl.refl _) (Aq.k0 (Aj k02 k3))
 |some b=>
  have hp:X.p.box=some X.d.box.p:=by show X.d.bx.map _=_;rw[hx];rfl
  rw[hp]at k;rw[hx]at h2;dsimp only at k;rw[show X.d.box.p.under=X.d.box.under from rfl]at k;have hrow:X.d.box.row.length<=1000000:=hR X.d.box.p hp;have hb2:=g2.r.bo.ok b hx;refine BR X.d.box.under (λJ hJ=>?_) λw3 k3=>?_
  ·simp only[sb,h2,Option.map_some,Option.isNone_some,hb2,Gb];exact hJ _ (Aa.refl _ _)
  have g3:=g2.Ab k3;have h3:=k3.Aw h2;have k03:=Aj k02 k3;cases hu:X.d.box.under with
  |true=>
   rw[hu,if_pos rfl]at k;simp only[sb];exact k X T w3 g3 rfl (Dl.refl _) (Aq.k0 k03)
  |false=>
   rw[hu,if_neg (by simp)]at k;simp only[sb];have hb3:=g3.r.bo.ok b hx;have hrl:X.d.box.sr.len=X.d.box.row.length:=g3.r.ro.ok.BY;have em:PS.AbL X.d.box.p=((X.d.box.n==0)||(!X.d.box.all||decide (0<X.d.box.row.length))):=rfl;refine BR (PS.AbL X.d.box.p) (λJ hJ=>?_) λw4 k4=>?_
   ·rw[em]at hJ;simp only[sb,h3,Option.map_some,hb3,Gb];cases c1:((X.d.box.n:Int)==0)with
    |true=>rw[c1,Bool.true_or]at hJ;exact hJ _ (Aa.refl _ _)
    |false=>
     rw[c1,Bool.false_or]at hJ;simp only[sb,h3,Option.map_some,hb3,Gb];cases c2:X.d.box.all with
     |false=>rw[c2,Bool.not_false,Bool.true_or]at hJ;exact hJ _ (Aa.refl _ _)
     |true=>
      rw[c2,Bool.not_true,Bool.false_or]at hJ;simp only[Bool.not_true,sb,h3,Option.map_some,hb3,Gb];rw[show decide (((X.d.box.sr.len:Nat):Int)>0)=decide (0<X.d.box.row.length)from decide_eq_decide.2 (by omega)];exact hJ _ (Aa.refl _ _)
   have g4:=g3.Ab k4;have h4:=k4.Aw h3;have k04:=Aj k03 k4;cases hm:PS.AbL X.d.box.p with
   |true=>
    rw[hm,if_pos rfl]at k;have g4d:=g4.Ab (Am w4);have h4d:w4.drew.heap[a]?=_:=h4;simp only[sb,h4,Option.map_some];refine Ai3 g4d hx hMN hrow ?_;intro r5 T5 B5 w5 g5 q5 i5 e5;obtain⟨h5,Ta5⟩:=e5.at h4d Ta;simp only[sb,h5,Option.map_some];refine⟨by trivial,?_⟩;obtain⟨X5,hX5⟩:∃X5:Mc,X5={X with d:={X.d with box:=B5}}:=⟨_,rfl⟩;rw[<-hX5]at g5;have hx5:X5.d.bx=some b:=by rw[hX5];exact hx
    have hB5:X5.d.box=B5:=by rw[hX5]
    refine g5.ZZ hx5 {X5.d.box with sl:=r5,load:=(Db X.d.M X.d.box.p).2} ⟨rfl,rfl⟩ i5 (by decide) rfl rfl λw6 g6 e6=>?_;obtain⟨h6,Ta6⟩:=e6.at h5 Ta5;simp only[sb,h6,Option.map_some];refine g6.ZZ hx5 {X5.d.box with sl:=r5,load:=(Db X.d.M X.d.box.p).2,under:=true} ⟨rfl,rfl⟩ g6.r.lo (by decide) rfl rfl λw7 g7 e7=>?_;have hnl:(Db X.d.M X.d.box.p).2.length<=1000000:=by
     have h1:=OL X.d.M X.d.box.p;unfold Db;split
     ·have:(Pz (EV X.d.M X.d.box.p) (CO X.d.M X.d.box.p))<=6:=Nat.le_trans (Nat.min_le_left _ _) (by omega);rw[List.length_append,List.length_take];omega
     ·show(CO X.d.M X.d.box.p).length<=_;omega
    refine Afv g7 hx5 hnl (by rw[hX5];exact hb) ?_;intro X8 T8 w8 g8 q8 f8 e8;refine k X8 T8 w8 g8 ?_ ⟨by rw[f8.BD];show X5.d.BD=_;rw[hX5],by rw[f8.sM];show X5.d.sM=_;rw[hX5]⟩ (((((Aq.k0 (Aj k04 (Am w4))).trans e5).trans e6).trans e7).trans e8);rw[q8];unfold PS.My
    congr 1
    have:B5.p=(Db X.p.M X.d.box.p).1:=q5;rw[<-this,hX5];unfold Mc.p Bx.p;dsimp only;rw[hx];rfl
   |false=>
    rw[hm,if_neg (by simp)]at k;simp only[sb];have hb4:=g4.r.bo.ok b hx;refine BR (X.p.busy X.d.box.lo X.d.box.hi) (λJ hJ=>?_) λw5 k5=>?_
    ·unfold PS.busy at hJ;simp only[sb,g4.hd,Bs,A5,Nat.reduceAdd];refine Gn (p:=λx=>x.ops.any (CE X.d.box.lo X.d.box.hi)) (F:=λ_=>False) g4.r.he.ok.C6 ?_ (by omega) λw5 k5=>?_
     ·intro w6 k6 x hxm K1 hK;have k6:=k6.SU;have h6:=k6.Aw h4;have b6:=k6.Aw hb4;have ho:A1 BQ w6 x.so x.ops:=(g4.r.Ro x hxm).ok.Ab k6;refine BJ (by kernel_rfl) ?_;refine HN x.Ah x.so _ ?_;unfold Fy;dsimp only[Ll,Ls,Vs,Vt,Vu];refine Ad λc w7 h7 n7 k7=>?_;simp only[sb,h7,k7.Aw h6,Option.map_some,k7.Aw b6,Gb,A5,Nat.reduceAdd];refine JN (ho.Ab (Aj k7 (Am w7))) (by have:=hH x hxm;omega) _ _ λw8 k8=>?_;exact hK w8 (Aj (Aj k7 (Am w7)) k8)
     ·have g5:=g4.Ab k5;have h5:=k5.Aw h4;have b5:=g5.r.bo.ok b hx;rw[show X.p.held.any (λh=>h.ops.any (CE X.d.box.lo X.d.box.hi))=X.d.held.any (λx=>x.ops.any (CE X.d.box.lo X.d.box.hi))from by show(X.d.held.map Hd.p).any _=_;rw[List.any_map];rfl]at hJ;dsimp only;cases c1:X.d.held.any (λx=>x.ops.any (CE X.d.box.lo X.d.box.hi))with
      |true=>rw[c1,Bool.true_or]at hJ;exact hJ _ k5
      |false=>
       rw[c1,Bool.false_or]at hJ;simp only[sb,g5.hd,Bs];refine NB (p:=λx=>x.ops.any (CE X.d.box.lo X.d.box.hi)) (F:=λ_=>False) g5.r.wa.ok.C6 ?_ (by omega) λw6 k6=>?_
       ·intro w7 k7 x hxm K1 hK;have k7:=k7.SU;have h7:=k7.Aw h5;have b7:=k7.Aw b5;have ho:A1 BQ w7 x.so x.ops:=(g5.r.Ss x hxm).ok.1.Ab k7;refine BJ (by kernel_rfl) ?_;refine HP x.Ah x.so x.sk x.next _ ?_;unfold F3;dsimp only[RL,Ll,Ls,Vs,Vt];refine Ad λc w8 h8 n8 k8=>?_;simp only[sb,h8,k8.Aw h7,Option.map_some,k8.Aw b7,Gb,A5,Nat.reduceAdd];refine JN (ho.Ab (Aj k8 (Am w8))) (by have:=hW x hxm;omega) _ _ λw9 k9=>?_;exact hK w9 (Aj (Aj k8 (Am w8)) k9)
       ·rw[show X.p.wait.any (λh=>h.ops.any (CE X.d.box.lo X.d.box.hi))=X.d.wait.any (λx=>x.ops.any (CE X.d.box.lo X.d.box.hi))from by show(X.d.wait.map Wt.p).any _=_;rw[List.any_map];rfl]at hJ;exact hJ _ (Aj k5 k6)
    have g5:=g4.Ab k5;have h5:=k5.Aw h4;have k05:=Aj k04 k5;have hb5:=g5.r.bo.ok b hx;rw[show X.d.box.p.B9=X.d.box.B9 from rfl,show X.d.box.p.lo=X.d.box.lo from rfl,show X.d.box.p.hi=X.d.box.hi from rfl]at k;refine BR (X.d.box.B9&&!X.p.busy X.d.box.lo X.d.box.hi) (λJ hJ=>?_) λw6 k6=>?_
    ·simp only[sb,h5,Option.map_some,hb5,Gb];cases c1:X.d.box.B9 with
     |false=>rw[c1,Bool.false_and]at hJ;exact hJ _ (Aa.refl _ _)
     |true=>rw[c1,Bool.true_and]at hJ;exact hJ _ (Aa.refl _ _)
    have g6:=g5.Ab k6;have h6:=k6.Aw h5;have k06:=Aj k05 k6;have hb6:=g6.r.bo.ok b hx;cases hc:(X.d.box.B9&&!X.p.busy X.d.box.lo X.d.box.hi)with
    |false=>
     rw[hc,if_neg (by simp)]at k;simp only[sb];exact k X T w6 g6 rfl (Dl.refl _) (Aq.k0 k06)
    |true=>
     rw[hc,if_pos rfl]at k;have g6d:=g6.Ab (Am w6);obtain⟨lb,tb⟩:=g6d.r.bo.tag b hx;simp only[sb,h6,Option.map_some,hb6,Gb,A5,Nat.reduceAdd];refine g6d.AhI {X.c with frozen:=X.d.box.move} (by decide) rfl rfl λw7 g7 s7=>?_;refine g7.AhI {X.c with frozen:=X.d.box.move,Qk:=X.d.box.lo} (by decide) rfl rfl λw8 g8 s8=>?_;refine g8.AhI {X.c with frozen:=X.d.box.move,Qk:=X.d.box.lo,MS:=X.d.box.hi} (by decide) rfl rfl λw9 g9 s9=>?_;refine g9.Ai5 λw10 g10 s10=>?_;have st:∀{c:Nat} {o:Obj},w6.drew.heap[c]?=some o->T c≠1->w10.heap[c]?=some o:=λhc ht=>CH.at s10 (CH.at s9 (CH.at s8 (CH.at s7 hc ht) ht) ht) ht;have Q8:=st (show w6.drew.heap[a]?=_ from h6) (by rw[Ta];decide);have b10:=st (show w6.drew.heap[b]?=_ from hb6) (by rw[tb];decide);simp only[sb,Q8,Option.map_some,b10,Gb];refine KD g10 ⟨14,0,0,0,0,0,0,0,0,0,0,0,X.d.box.move,0,0,false,BA [],BA [],⟨none,0,0⟩,⟨none,0,0⟩,⟨none,0,0⟩,[],[],[]⟩ (mgz rfl rfl rfl rfl rfl rfl) (by show X.d.out.length<=_;omega) ?_;intro so11 T11 w11 g11 e11;refine k _ T11 w11 g11 ?_ ⟨rfl,rfl⟩ ((((((Aq.k0 (Aj k06 (Am w6))).trans (s7.Bm (by decide))).trans (s8.Bm (by decide))).trans (s9.Bm (by decide))).trans (s10.Bm (by decide))).trans e11);unfold PS.freeze PS.send Mc.p;dsimp only;rw[List.map_append];rfl
open Go Go.Sx
namespace PS
def Qf (P:PS)(b:PB)(x:PM):Bool:=!((b.move !=x.move)||((b.peer !=x.src)||((x.attempt !=P.c.Au)||(!b.under||(x.n !=b.n)))))
def KB (P:PS)(x:PM):PS:=match P.box with
 |none=>P
 |some b=>if P.Qf b x then({P with box:=some {b with under:=false,n:=Zg b.n}}).Fa else P
def P9 (P:PS)(x:PM):Bool:=!((x.CZ !=P.c.CZ)||((x.move==0)||((x.move !=P.c.move)||((x.peer==P.c.id)||!Afm P.Ac P.c.id x.FN x.G6))))
def XF (x:PM):PB:=⟨x.move,0,x.FN,x.G6,x.peer,false,false,false,x.FN,[],[]⟩
def boxed (P:PS)(x:PM):PS:=match P.box with
 |none=>{P with box:=some (XF x)}
 |some _=>P
def closing (P:PS)(flag:Bool):PS:=match P.box with
 |none=>P
 |some b=>{P with box:=some {b with B9:=b.B9||flag}}
def SY (P:PS):Bool:=match P.box with
 |none=>false
 |some b=>!b.B9&&!b.under
def QC (P:PS)(x:PM):PS:=if(((P.boxed x).closing x.flag).Fa).SY then(((P.boxed x).closing x.flag).Fa).send {PM.zero with kind:=13,move:=x.move}else((P.boxed x).closing x.flag).Fa
def Lr (P:PS)(x:PM):PS:=if P.P9 x then if P.c.frozen==x.move then P.send {PM.zero with kind:=14,move:=x.move}else P.QC x else P
end PS
structure Bds (X:Mc):Prop where
 M:X.d.M.length<=300000
 row:AM X.p 900000
 out:X.d.out.length<=80000
 hd:∀x∈X.d.held,x.ops.length<=1000
 wt:∀x∈X.d.wait,x.ops.length<=1000
 hn:X.d.held.length<=100000
 wn:X.d.wait.length<=100000
theorem Bds.box (h:Bds X){b:Option Nat}{B:Bx}(hr:B.row.length<=900000):Bds {X with d:={X.d with bx:=b,box:=B}}:=
 ⟨h.M,λy hy=>by
  have hy:b.map (λ_=>B.p)=some y:=hy;cases b with
  |none=>cases hy
  |some c=>rw[Option.map_some]at hy;injection hy with hy;rw[<-hy];exact hr,h.out,h.hd,h.wt,h.hn,h.wn⟩
theorem Zr (h:A6 w m T X)(hb:Bds X){K:TR []->Pr}(k:∀X' T' w',A6 w' m T' X'->X'.p=X.p.Fa->Dl X X'->Aq T T' w w'->K () w'):Cl Pg 131 [.pointer (some ⟨m,0,none⟩)] true [] K w:=
 Agx h hb.M (λb h=>Nat.le_trans (hb.row b h) (by decide)) (Nat.le_trans hb.out (by decide)) hb.hd hb.wt hb.hn hb.wn k
theorem AaA (hx:X.d.bx=some b)(B:Bx):Mc.p {X with d:={X.d with box:=B}}={X.p with box:=some B.p}:=by
 unfold Mc.p;dsimp only;rw[hx];rfl
theorem Af2 (h:A6 w m T X)(x:Mg)(hB:Bds X){K:TR []->Pr}(k:∀X' T' w',A6 w' m T' X'->X'.p=X.p.KB x.p->Dl X X'->Aq T T' w w'->K () w'):Cl Pg 78 [.pointer (some ⟨m,0,none⟩),.agg (Sm x)] true [] K w:=by
 refine IN _ _ _ _ _ _ _ _ _ _ _ _ _ _ _ _ _ _ _ x.so x.sr x.sw ?_;unfold Ge;dsimp only[Ag,Lb,Li,Hr,Lu,Tb,Vp,Vu];refine Ad λa w1 h1 n1 k1=>?_;have g1:=h.Ab k1;have Ta:T a=0:=h.new n1;have g1d:=g1.Ab (Am w1);simp only[sb,g1.hd,Bs];unfold PS.KB at k;cases hx:X.d.bx with
 |none=>
  rw[show X.p.box=none from by show X.d.bx.map _=_;rw[hx];rfl]at k;refine BR true (λJ hJ=>?_) λw2 k2=>?_
  ·simp only[Option.map_none,Option.isNone_none,sb];exact hJ _ (Am w1)
  ·simp only[sb];exact k X T w2 (g1.Ab k2) rfl (Dl.refl _) (Aq.k0 (Aj k1 k2))
 |some b=>
  have hp:X.p.box=some X.d.box.p:=by show X.d.bx.map _=_;rw[hx];rfl
  rw[hp]at k;dsimp only at k;have hb1:=g1.r.bo.ok b hx;have ei:X.p.Qf X.d.box.p x.p=!((X.d.box.move !=x.move)||((X.d.box.peer !=x.src)||((x.attempt !=X.c.Au)||(!X.d.box.under||(x.n !=X.d.box.n))))):=rfl;refine BR (!X.p.Qf X.d.box.p x.p) (λJ hJ=>?_) λw2 k2=>?_
  ·rw[ei,Bool.not_not]at hJ;simp only[Option.map_some,Option.isNone_some,sb,hb1,Gb,h1];cases c1:((X.d.box.move:Int) !=x.move)with
   |true=>rw[c1,Bool.true_or]at hJ;exact hJ _ (Am w1)
   |false=>
    rw[c1,Bool.false_or]at hJ;simp only[sb,hb1,Gb,h1];cases c2:((X.d.box.peer:Int) !=x.src)with
    |true=>rw[c2,Bool.true_or]at hJ;exact hJ _ (Am w1)
    |false=>
     rw[c2,Bool.false_or]at hJ;simp only[sb,hb1,Gb,h1,g1.hd,Bs,A5,Nat.reduceAdd];cases c3:((x.attempt:Int) !=X.c.Au)with
     |true=>rw[c3,Bool.true_or]at hJ;exact hJ _ (Am w1)
     |false=>
      rw[c3,Bool.false_or]at hJ;simp only[sb,hb1,Gb,h1];cases c4:X.d.box.under with
      |false=>rw[c4,Bool.not_false,Bool.true_or]at hJ;exact hJ _ (Am w1)
      |true=>
       rw[c4,Bool.not_true,Bool.false_or]at hJ;simp only[Bool.not_true,sb,hb1,Gb,h1];exact hJ _ (Am w1)
  have g2:=g1.Ab k2;have e02:Aq T T w w2:=Aq.k0 (Aj k1 k2);cases hl:X.p.Qf X.d.box.p x.p with
  |false=>
   rw[hl,if_neg (by simp)]at k;simp only[Bool.not_false,sb];exact k X T w2 g2 rfl (Dl.refl _) e02
  |true=>
   rw[hl,if_pos rfl]at k;simp only[Bool.not_true,Option.map_some,sb];refine g2.ZZ hx {X.d.box with under:=false} ⟨rfl,rfl⟩ g2.r.lo (by decide) rfl rfl λw3 g3 e3=>?_;have hb3:=g3.r.bo.ok b hx;simp only[sb,hb3,Gb];refine g3.ZZ hx {X.d.box with under:=false,n:=Zg X.d.box.n} ⟨rfl,rfl⟩ g3.r.lo (by decide) rfl rfl λw4 g4 e4=>?_;refine Zr g4 (hB.box (b:=X.d.bx) (B:={X.d.box with under:=false,n:=Zg X.d.box.n}) (hB.row X.d.box.p hp)) ?_;intro X5 T5 w5 g5 q5 f5 e5;refine k X5 T5 w5 g5 ?_ ⟨f5.BD,f5.sM⟩ (((e02.trans e3).trans e4).trans e5);rw[q5];exact congrArg PS.Fa (AaA hx {X.d.box with under:=false,n:=Zg X.d.box.n})
theorem A6.Aj3 {w0:World}(h:A6 w0 m T X)(k0:Aa [] w0 w){c:Nat}(hc:w0.heap.size<=c)(B:Bx)(hb:w.heap[c]?=some (.cells (Gb B).toArray 118 (0,0)))(e1:B.sl=⟨none,0,0⟩)(e2:B.sr=⟨none,0,0⟩)(e3:B.load=[])(e4:B.row=[]){K:Pr}(k:∀T' w',A6 w' m T' {X with d:={X.d with bx:=some c,box:=B}}->Aq T T' w0 w'->K w'):St ⟨m,19,none⟩ (.pointer (some ⟨c,0,none⟩)) K w:=by
 obtain⟨T',hT'⟩:∃T':Nat->Nat,T'=λb=>if b=c then 9 else T b:=⟨_,rfl⟩;have tg:∀b,b<w0.heap.size->T' b=T b:=λb hb=>by rw[hT'];exact if_neg (by omega)
 have Tc:T' c=9:=by rw[hT'];exact if_pos rfl
 have s:CH 9 T T' w0 w:=⟨k0.FY (by simp),λb hb _=>tg b hb⟩;have q:=h.r;have lc:=Av hb;have hr:Rest w T' {X.d with bx:=some c,box:=B}:=by
  refine⟨q.ow.kt (by decide) s,q.he.kt (by decide) (by decide) s,λx hx=>(q.Ro x hx).kt (by decide) s,q.fi.kt (by decide) (by decide) s,q.wa.kt (by decide) (by decide) s,λx hx=>(q.Ss x hx).kt (by decide) s,q.ta.kt (by decide) (by decide) s,q.ou.kt (by decide) (by decide) s,λx hx=>(q.Wp x hx).kt (by decide) s,q.wr.kt (by decide) (by decide) s,q.li.kt (by decide) (by decide) s,?_,?_,?_,q.RF.kt (by decide) (by decide) s,λb hb=>?_⟩
  ·have e0:∀b,some c=some b->b=c:=λb hb=>by injection hb with hb;exact hb.symm
   refine⟨λb hb'=>by rw[e0 b hb'];exact hb,λw3 _ hw b hb'=>?_,λb hb'=>?_⟩
   ·rw[e0 b hb',hw c lc (.inl Tc)];exact hb
   ·rw[e0 b hb'];exact⟨lc,Tc⟩
  ·show FV T' 10 (·∈Ai B.sr) (λw=>Bh BQ w B.sr B.row) w;rw[e2,e4];exact .of (AE.nil _ _) (by simp[Ai])
  ·show Bq T' (λw=>A1 BQ w B.sl B.load) w;rw[e1,e3];exact Bq.NI λw=>A1.nil w
  ·rw[hT']at hb;dsimp only at hb;split at hb
   ·rename_i e;rw[e];exact lc
   ·exact Nat.lt_of_lt_of_le (q.bd b hb) k0.size
 refine A6.set (X':={X with d:={X.d with bx:=some c,box:=B}}) (k0.Aw h.hd) ((tg m h.lt).trans h.t1) hr (by decide) rfl rfl λw2 g2 s2=>?_;refine k T' w2 g2 (Aq.trans (b:=w) ⟨k0.FY (by simp),λb hb _=>tg b hb⟩ (s2.Bm (by decide)))
set_option maxHeartbeats 8000000 in
theorem Afl (h:A6 w m T X)(x:Mg)(hO:X.d.Ac.length<=100)(hB:Bds X){K:TR []->Pr}(hS:∀(Y:Mc),Y.p=((X.p.boxed x.p).closing x.flag).Fa->Y.d.out.length<=90000)(k:∀X' T' w',A6 w' m T' X'->X'.p=X.p.Lr x.p->Dl X X'->Aq T T' w w'->K () w'):Cl Pg 76 [.pointer (some ⟨m,0,none⟩),.agg (Sm x)] true [] K w:=by
 refine Jk _ _ _ _ _ _ _ _ _ _ _ _ _ _ _ _ _ _ _ x.so x.sr x.sw ?_;unfold Gz;dsimp only[Ag,Lb,Li,Ll,Hr,Ls,Lu,Tb,Vb,Vi,Vp,Vs,Vt,Vu];refine Ad λa w1 h1 n1 k1=>?_;have g1:=h.Ab k1;have Ta:T a=0:=h.new n1;unfold PS.Lr at k;have em:X.p.P9 x.p=!((x.CZ !=X.c.CZ)||((x.move==0)||((x.move !=X.c.move)||((x.peer==X.c.id)||!Afm X.d.Ac X.c.id x.FN x.G6)))):=rfl;refine BR (!X.p.P9 x.p) (λJ hJ=>?_) λw2 k2=>?_
 ·rw[em,Bool.not_not]at hJ;have g1d:=g1.Ab (Am w1);simp only[sb,h1,g1.hd,Bs,A5,Nat.reduceAdd];cases c1:((x.CZ:Int) !=X.c.CZ)with
  |true=>rw[c1,Bool.true_or]at hJ;exact hJ _ (Am w1)
  |false=>
   rw[c1,Bool.false_or]at hJ;simp only[sb,h1];cases c2:((x.move:Int)==0)with
   |true=>rw[c2,Bool.true_or]at hJ;exact hJ _ (Am w1)
   |false=>
    rw[c2,Bool.false_or]at hJ;simp only[sb,h1,g1.hd,Bs,A5,Nat.reduceAdd];cases c3:((x.move:Int) !=X.c.move)with
    |true=>rw[c3,Bool.true_or]at hJ;exact hJ _ (Am w1)
    |false=>
     rw[c3,Bool.false_or]at hJ;simp only[sb,h1,g1.hd,Bs,A5,Nat.reduceAdd];cases c4:((x.peer:Int)==X.c.id)with
     |true=>rw[c4,Bool.true_or]at hJ;exact hJ _ (Am w1)
     |false=>
      rw[c4,Bool.false_or]at hJ;simp only[sb,h1,g1.hd,Bs,A5,Nat.reduceAdd];refine AeK g1d.r.ow.ok (by omega) X.c.id x.FN x.G6 λw2 k2=>?_;exact hJ w2 (Aj (Am w1) k2)
 have g2:=g1.Ab k2;have h2:=k2.Aw h1;have e02:Aq T T w w2:=Aq.k0 (Aj k1 k2);cases hm:X.p.P9 x.p with
 |false=>
  rw[hm,if_neg (by simp)]at k;simp only[Bool.not_false,sb];exact k X T w2 g2 rfl (Dl.refl _) e02
 |true=>
  rw[hm,if_pos rfl]at k;have g2d:=g2.Ab (Am w2);simp only[Bool.not_true,sb,h2,g2.hd,Bs,A5,Nat.reduceAdd];rw[show(X.p.c.frozen==x.p.move)=(X.c.frozen==x.move)from rfl]at k;cases c1:((X.c.frozen:Int)==x.move)with
  |true=>
   rw[c1,if_pos rfl]at k;simp only[sb,h2];refine KD g2d ⟨14,0,0,0,0,0,0,0,0,0,0,0,x.move,0,0,false,BA [],BA [],⟨none,0,0⟩,⟨none,0,0⟩,⟨none,0,0⟩,[],[],[]⟩ (mgz rfl rfl rfl rfl rfl rfl) (by have:=hB.out;omega) ?_;intro so3 T3 w3 g3 e3;refine k _ T3 w3 g3 ?_ ⟨rfl,rfl⟩ ((e02.trans (Aq.k0 (Am w2))).trans e3);unfold PS.send Mc.p;dsimp only;rw[List.map_append];rfl
  |false=>
   rw[c1,if_neg (by simp)]at k;simp only[sb];have h2d:w2.drew.heap[a]?=_:=h2;have e2d:=e02.trans (Aq.k0 (Am w2));refine AG (λ_ w'=>∃X3 T3 b,A6 w' m T3 X3/\X3.d.bx=some b/\X3.p=X.p.boxed x.p/\Dl X X3/\Bds X3/\Aq T T3 w2.drew w') (λJ3 hJ3=>?_) ?_
   ·simp only[sb,g2.hd,Bs];unfold PS.boxed at hJ3;cases hx:X.d.bx with
    |none=>
     rw[show X.p.box=none from by show X.d.bx.map _=_;rw[hx];rfl]at hJ3;simp only[Option.map_none,Option.isNone_none,sb,h2,g2.hd,Bs,A5,Nat.reduceAdd];refine Ad λc w3 h3 n3 k3=>?_;refine g2d.Aj3 k3 n3 ⟨x.move,0,x.FN,x.G6,x.peer,false,false,false,⟨none,0,0⟩,⟨none,0,0⟩,x.FN,[],[]⟩ h3 rfl rfl rfl rfl λT4 w4 g4 e4=>?_;exact hJ3 () w4 ⟨_,T4,c,g4,rfl,rfl,⟨rfl,rfl⟩,hB.box (by simp),e4⟩
    |some b=>
     rw[show X.p.box=some X.d.box.p from by show X.d.bx.map _=_;rw[hx];rfl]at hJ3;simp only[Option.map_some,Option.isNone_some,sb];exact hJ3 () _ ⟨X,T,b,g2d,hx,rfl,Dl.refl _,hB,Aq.refl _ _⟩
   ·rintro _ w3 ⟨X3,T3,b,g3,hx3,q3,f3,B3,e3⟩;obtain⟨h3,Ta3⟩:=e3.at h2d Ta;have hp3:X3.p.box=some X3.d.box.p:=by show X3.d.bx.map _=_;rw[hx3];rfl
    refine AG (λ_ w'=>∃X4,A6 w' m T3 X4/\X4.d.bx=some b/\X4.p=X3.p.closing x.flag/\Dl X3 X4/\Bds X4/\Aq T3 T3 w3 w') (λJ4 hJ4=>?_) ?_
    ·have g3d:=g3.Ab (Am w3);have hb3:=g3.r.bo.ok b hx3;unfold PS.closing at hJ4;rw[hp3]at hJ4;simp only[sb,g3.hd,Bs,hx3,Option.map_some,hb3,Gb];cases c2:X3.d.box.B9 with
     |true=>
      simp only[sb];refine g3d.ZZ hx3 {X3.d.box with B9:=true} ⟨rfl,rfl⟩ g3d.r.lo (by decide) rfl rfl λw4 g4 e4=>?_;refine hJ4 () w4 ⟨_,g4,hx3,?_,⟨rfl,rfl⟩,B3.box (b:=X3.d.bx) (B:={X3.d.box with B9:=true}) (B3.row X3.d.box.p hp3),(Aq.k0 (Am w3)).trans e4⟩;rw[AaA hx3];dsimp only;rw[show X3.d.box.p.B9=X3.d.box.B9 from rfl,c2];rfl
     |false=>
      simp only[sb,h3];refine g3d.ZZ hx3 {X3.d.box with B9:=x.flag} ⟨rfl,rfl⟩ g3d.r.lo (by decide) rfl rfl λw4 g4 e4=>?_;refine hJ4 () w4 ⟨_,g4,hx3,?_,⟨rfl,rfl⟩,B3.box (b:=X3.d.bx) (B:={X3.d.box with B9:=x.flag}) (B3.row X3.d.box.p hp3),(Aq.k0 (Am w3)).trans e4⟩;rw[AaA hx3];dsimp only;rw[show X3.d.box.p.B9=X3.d.box.B9 from rfl,c2];rfl
    ·rintro _ w4 ⟨X4,g4,hx4,q4,f4,B4,e4⟩;obtain⟨h4,Ta4⟩:=e4.at h3 Ta3;refine Zr g4 B4 ?_;intro X5 T5 w5 g5 q5 f5 e5;obtain⟨h5,Ta5⟩:=e5.at h4 Ta4;have q5':X5.p=((X.p.boxed x.p).closing x.flag).Fa:=by rw[q5,q4,q3]
     have o5:=hS X5 q5';have e05:=((e2d.trans e3).trans e4).trans e5;have f05:=(f3.trans f4).trans f5;unfold PS.QC at k;rw[show x.p.flag=x.flag from rfl,<-q5']at k;refine BR X5.p.SY (λJ6 hJ6=>?_) λw6 k6=>?_
     ·simp only[sb,g5.hd,Bs];unfold PS.SY at hJ6;cases hx5:X5.d.bx with
      |none=>
       rw[show X5.p.box=none from by show X5.d.bx.map _=_;rw[hx5];rfl]at hJ6;simp only[Option.map_none,Option.isNone_none,Bool.not_true,sb];exact hJ6 _ (Aa.refl _ _)
      |some b5=>
       rw[show X5.p.box=some X5.d.box.p from by show X5.d.bx.map _=_;rw[hx5];rfl]at hJ6;have hb5:=g5.r.bo.ok b5 hx5;simp only[Option.map_some,Option.isNone_some,Bool.not_false,sb,g5.hd,Bs,hx5,hb5,Gb];dsimp only at hJ6;rw[show X5.d.box.p.B9=X5.d.box.B9 from rfl,show X5.d.box.p.under=X5.d.box.under from rfl]at hJ6;cases c2:X5.d.box.B9 with
       |true=>rw[c2,Bool.not_true,Bool.false_and]at hJ6;exact hJ6 _ (Aa.refl _ _)
       |false=>
        rw[c2,Bool.not_false,Bool.true_and]at hJ6;simp only[Bool.not_false,sb,g5.hd,Bs,hx5,Option.map_some,hb5,Gb];exact hJ6 _ (Aa.refl _ _)
     ·have g6:=g5.Ab k6;have h6:=k6.Aw h5;cases c2:X5.p.SY with
      |false=>
       rw[c2,if_neg (by simp)]at k;simp only[sb];exact k X5 T5 w6 g6 rfl f05 (e05.trans (Aq.k0 k6))
      |true=>
       rw[c2,if_pos rfl]at k;simp only[sb,h6];refine KD g6 ⟨13,0,0,0,0,0,0,0,0,0,0,0,x.move,0,0,false,BA [],BA [],⟨none,0,0⟩,⟨none,0,0⟩,⟨none,0,0⟩,[],[],[]⟩ (mgz rfl rfl rfl rfl rfl rfl) (by omega) ?_;intro so7 T7 w7 g7 e7;refine k _ T7 w7 g7 ?_ ⟨f05.BD,f05.sM⟩ ((e05.trans (Aq.k0 k6)).trans e7);unfold PS.send Mc.p;dsimp only;rw[List.map_append];rfl
end Go.Proofs.YthkdehgfdllpoaaGreat
