/- Texts of the proof, merged: what the code computes, and plain laws. No statement stands here. -/
import Derived.Test.YtcngjnijbegcmaaGreatDoorF6
namespace Go.Eng
variable {n:Nat}
def uG(F:Nat->Nat->Bs)(n:Nat):R:=(mkL F n n).map fun x=>[.s x]
theorem qhb (F:Nat->Nat->Bs)(n:Nat):(uG F n).length=n*n:=by unfold uG;rw[qJm,qgW]
theorem qmg (F:Nat->Nat->Bs){n i k:Nat}(hi:i<n)(hk:k<n):cS (uG F n) ((i*n+k:Nat):Int) 0=F i k:=by
 have e:((mkL F n n).map fun x=>[U.s x]).getD (i*n+k) []=[U.s (F i k)]:=by rw[qJd,qJo,qvz F n n i k hi hk];rfl
 unfold cS wy uG;rw[qJq,e];rfl
theorem qtG {F G:Nat->Nat->Bs}(h:∀i k,i<n->k<n->F i k=G i k):uG F n=uG G n:=by
 unfold uG;congr 1;have:∀m,m<=n->mkL F n m=mkL G n m:=by
  intro m;induction m with
  | zero=>intro _;rfl
  | succ m ih=>
   intro hm;rw[mkL,mkL,ih (by omega)];congr 1;exact qKI fun k hk=>h m k (by omega) (qKu.1 hk)
 exact this n (qJe _)
theorem qtJ {l:R}(hl:l.length=n)(hn:n<1000000)(h:∀i,i<n->(z8 [.s (cS l (i:Int) 0)]).run=some (0,[.i 0])):(ji [.r l]).run=some (0,[.i 0]):=by
 rw[qlA];have key:=zf (S:=jU) (fun i=>[.r l,.i (n:Int),.i (i:Int)]) (0,[]) n (by omega) (fun i hi=>by
  rw[qa9];have e:qk l=(n:Int):=by unfold qk;rw[hl]
  simp only[STD,e,h i hi,kX hi (show n<9223372036854775808 by omega),show (i:Int)<n by omega,show (0:Int)<=i by omega,and_self]) (by
  rw[qa9];simp only[STD,show ¬(n:Int)<n by omega])
 have e:qk l=(n:Int):=by unfold qk;rw[hl]
 have key':(qh jU [.r l,.i (qk l),.i 0]).run=some (0,[]):=by rw[e];exact key
 simp only[STD,key',zt key']
theorem qEh (h:n<=16):(j8 [.i (n:Int)]).run=some (0,[.b true]):=by
 rw[qq0];have h1:(0:Int)<=n:=by omega
 have h2:(n:Int)<=16:=by omega
 have h3:ile (n:Int) 16=true:=by rw[qoi];exact h2
 simp only[STD,h1,h3]
theorem qhX {F:Nat->Nat->Bs}(hn:n<=16)(h:∀i k,i<n->k<n->(z8 [.s (F i k)]).run=some (0,[.i 0])):(jF [.i n,.i n,.r (uG F n)]).run=some (0,[.i 0]):=by
 rw[qoB];have hnn:n*n<=16*16:=qK4 hn hn;have e1:qk (uG F n)=((n*n:Nat):Int):=by unfold qk;rw[qhb]
 have e2:vn .i64 (n:Int) (n:Int)=((n*n:Nat):Int):=by rw[q52 (by rw[<-qK2];omega)];simp
 have key:=qtJ (l:=uG F n) (qhb F n) (by omega) (fun j hj=>by
  have hn0:0<n:=by
   rcases qKj n with h0|h0
   ·subst h0;simp at hj
   ·exact h0
  have h1:j/n<n:=Nat.div_lt_of_lt_mul hj;have h2:j%n<n:=qKC _ hn0;have h3:j=j/n*n+j%n:=by rw[Nat.mul_comm];exact(qLg j n).symm
  rw[h3,qmg F h1 h2];exact h _ _ h1 h2)
 simp only[STD,qEh hn,e1,e2,key]
def aug(n:Nat)(G:Nat->Nat->Rat):Nat->Nat->Rat:=fun i j=>if j<n then G i j else if j=n+i then 1 else 0
theorem qDQ (i k:Nat):qiC i k=tQ (if i=k then 1 else 0):=by
 unfold qiC;by_cases h:i=k
 ·rw[if_pos h,if_pos h];decide
 ·rw[if_neg h,if_neg h];decide
theorem qCW {F:Nat->Nat->Bs}{G:Nat->Nat->Rat}(h:∀i k,i<n->k<n->F i k=tQ (G i k)):RelM ((List.range n).map (row0 F qiC n)) n (2*n) (aug n G):=by
 refine⟨⟨by simp,fun r hr=>?_⟩,fun i j hi hj=>?_⟩
 ·obtain⟨i,_,rfl⟩:=qK1.1 hr;unfold row0;rw[qJB,qJm,qJm,qJV];omega
 ·have e:((List.range n).map (row0 F qiC n)).getD i []=row0 F qiC n i:=by rw[qJd,qJo,qKa hi];rfl
  unfold q7w aug;rw[e];unfold row0;by_cases hjn:j<n
  ·rw[if_pos hjn,qJd,qJp (by simpa using hjn),qJo,qKa hjn];exact h i j hi hjn
  ·rw[if_neg hjn,qJd,qJz (by simp;omega),qJm,qJV,qJo,qKa (by omega)];simp only[qJR,qKq,qDQ];congr 1;by_cases e2:j=n+i
   ·rw[if_pos e2,if_pos (by omega)]
   ·rw[if_neg e2,if_neg (by omega)]
theorem qFh {G:Nat->Nat->Rat}(h:∀i k,i<n->k<n->bnd 13 1 (G i k)):BM n (2*n) 13 1 (aug n G):=fun i j hi _=>by
 unfold aug;by_cases h1:j<n
 ·rw[if_pos h1];exact h i j hi h1
 ·rw[if_neg h1];split
  ·exact qwh.mono (by omega) (by omega)
  ·exact q2c.mono (by omega) (by omega)
theorem qFx (ck ml dv sb:List PV->TR){l:R}{fin:RS}(hn:n<=16)(hl:l.length=n*n)(hok:qGt (ck [.i n,.i n,.r l])=true)(hf:qte (opF ml) (opF dv) (opF sb) n n (2*n) n ⟨(List.range n).map (row0 (fun i k=>cS l ((i*n+k:Nat):Int) 0) qiC n),[49],[],0⟩=some fin) :qGu ck ml dv sb [.i n,.i n,.r l]=if fin.lead.length<n then .leaf (0,[.i 0,.i 0,.r [],.i 14]) else .leaf (0,[.i n,.i n,.r ((mkL (fun i k=>q7w fin.Z i (n+k)) n n).map fun x=>[.s x]),.i 0]):=by simp only[qGu,qJq];rw[if_pos ⟨trivial,by omega,by omega,hl,hok⟩,hf]
theorem qIf (n:Nat)(hn:n<=3):(bs n).1<=337/\(bs n).2<=322:=by
 match n,hn with
 | 0,_=>decide
 | 1,_=>decide
 | 2,_=>decide
 | 3,_=>decide
theorem qIh:yA=qGu jF vl kR zF:=rfl
theorem qAi (hn:n<=3){G:Nat->Nat->Rat}(hG:∀i k,i<n->k<n->bnd 13 1 (G i k)) :(∃N,qdE n (pvQ n) n 0 (aug n G)=some N/\BM n (2*n) 337 322 N/\(yA [.i n,.i n,.r (uG (fun i k=>tQ (G i k)) n)]).run=some (0,[.i n,.i n,.r (uG (fun i k=>tQ (N i (n+k))) n),.i 0])) \/(qdE n (pvQ n) n 0 (aug n G)=none/\(yA [.i n,.i n,.r (uG (fun i k=>tQ (G i k)) n)]).run=some (0,[.i 0,.i 0,.r [],.i 14])):=by
 obtain⟨fin,M',r1,r2,r3,r4,r5⟩:=qzv qJ7 (N:=n) (C:=2*n) hn (by omega) n 0 (by omega) ⟨(List.range n).map (row0 (fun i k=>tQ (G i k)) qiC n),[49],[],0⟩ (aug n G) 1
  (qCW fun _ _ _ _=>rfl) (qFh hG) (show ([49]:Bs)=tQ 1 by decide) qwh (qJe _) rfl
 have hck:qGt (jF [.i n,.i n,.r (uG (fun i k=>tQ (G i k)) n)])=true:=by unfold qGt;rw[qhX (by omega) fun i k hi hk=>q3m ((hG i k hi hk).ok (by omega) (by omega))];rfl
 have hZ:(List.range n).map (row0 (fun i k=>cS (uG (fun i k=>tQ (G i k)) n) ((i*n+k:Nat):Int) 0) qiC n)=(List.range n).map (row0 (fun i k=>tQ (G i k)) qiC n):=by
  refine qKI fun i hi=>?_;have e:(List.range n).map (fun k=>cS (uG (fun i k=>tQ (G i k)) n) ((i*n+k:Nat):Int) 0)=(List.range n).map (fun k=>tQ (G i k)):=
   qKI fun k hk=>qmg (fun i k=>tQ (G i k)) (qKu.1 hi) (qKu.1 hk)
  show (List.range n).map (fun k=>cS (uG (fun i k=>tQ (G i k)) n) ((i*n+k:Nat):Int) 0)++_=(List.range n).map (fun k=>tQ (G i k))++_;rw[e]
 have hrun:(yA [.i n,.i n,.r (uG (fun i k=>tQ (G i k)) n)])=if fin.lead.length<n then .leaf (0,[.i 0,.i 0,.r [],.i 14]) else .leaf (0,[.i n,.i n,.r ((mkL (fun i k=>q7w fin.Z i (n+k)) n n).map fun x=>[.s x]),.i 0]):=by have hx:=qFx jF vl kR zF (show n<=16 by omega) (qhb _ _) hck (by rw[hZ];exact r1);rw[<-qIh] at hx;exact hx
 have hbs:=qIf n hn;rcases r5 rfl with⟨q1,q2⟩|⟨q1,q2⟩
 ·refine .inl ⟨M',q1,r3.mono hbs.1 hbs.2,?_⟩;rw[hrun,if_neg (by omega)];have e:(mkL (fun i k=>q7w fin.Z i (n+k)) n n).map (fun x=>[U.s x])=uG (fun i k=>tQ (M' i (n+k))) n:=qtG fun i k hi hk=>r2.ok i (n+k) hi (by omega);rw[e];rfl
 ·refine .inr ⟨q1,?_⟩;rw[hrun,if_pos q2];rfl
end Go.Eng

namespace Go.Eng
def txR(l:List Bs):R:=l.map fun x=>[.s x]
theorem qlg(l:List Bs):qk (txR l)=(l.length:Int):=by unfold txR qk;rw[qJm]
theorem qoH(l m:List Bs):uV (txR l) (txR m)=txR (l++m):=by unfold txR uV;rw[qJK]
theorem qnF(x:Bs):[[U.s x]]=txR [x]:=rfl
theorem qAZ{l:List Bs}{i:Nat}{x:Bs}(h:l[i]?=some x):cS (txR l) (i:Int) 0=x:=by
 have e:(l.map fun x=>[U.s x]).getD i []=[U.s x]:=by rw[qJd,qJo,h];rfl
 unfold cS wy txR;rw[qJq,e];rfl
theorem qt3{a b:Nat}(h:a*b<9223372036854775808):vn .i64 (a:Int) (b:Int)=((a*b:Nat):Int):=by rw[q52 (by rw[<-qK2];omega)];simp
theorem qx7{a b:Nat}(h:a+b<9223372036854775808):qz .i64 (a:Int) (b:Int)=((a+b:Nat):Int):=by rw[zj (by omega)];simp
theorem qHu{n i k:Nat}(hi:i<n)(hk:k<n):i*n+k<n*n:=by have:=qJD n (show i+1<=n by omega);rw[qJt] at this;omega
theorem qIU{n i k:Nat}{L:R}{g:Int}(hn:n<=16)(hi:i<n)(hk:k<n)(hL:L.length=n*n)(hg:cI L ((i*n+k:Nat):Int) 0=g)(hb:-999999999999999<=g/\g<=999999999999999) :(kr [.i i,.i k,.r L,.i n]).run=some (0,[.s (tQ (g:Rat)),.r L,.i n]):=by
 have h1:=qHu hi hk;have h2:n*n<=16*16:=qK4 hn hn;rw[qql,qt3 (by omega),qx7 (by omega),hg];have e:qk L=((n*n:Nat):Int):=by unfold qk;rw[hL]
 simp only[STD,q32 hb,e,show (0:Int)<=((i*n+k:Nat):Int) by omega,show ((i*n+k:Nat):Int)<((n*n:Nat):Int) by omega,and_self]
theorem qGX{n:Nat}{L:R}{g:Nat->Nat->Int}(hn:n<=16)(hL:L.length=n*n)(hg:∀i k,i<n->k<n->cI L ((i*n+k:Nat):Int) 0=g i k)(hb:∀i k,i<n->k<n->-999999999999999<=g i k/\g i k<=999999999999999) :(q6f [.i n,.i n,.r L,.i n]).run=some (0,[.i n,.i n,.r (uG (fun i k=>tQ (g i k:Rat)) n),.r L,.i n]):=by
 obtain⟨F,hF⟩:∃F:Nat->Nat->Bs,F=fun i k=>tQ (g i k:Rat):=⟨_,rfl⟩;have hnn:n*n<=16*16:=qK4 hn hn;have ml:∀i,i<=n->(mkL F n i).length<=16*16:=fun i hi=>by rw[qgW];exact qJg (qJD n hi) hnn
 have inner:∀i,i<n->(qh uX [.i n,.i i,.i n,.i i,.i n,.i 0,.r L,.i n,.i 0,.i 0,.i n,.i n,.r (txR (mkL F n i))]).run=some (0,[.i n,.i n,.i i,.r L,.i n,.i 0,.i 0,.i n,.i n,.r (txR (mkL F n (i+1)))]):=fun i hi=>by
  have key:=zf (S:=uX) (fun k=>[.i n,.i i,.i n,.i i,.i n,.i (k:Int),.r L,.i n,.i 0,.i 0,.i n,.i n,.r (txR (mkL F n i++(List.range k).map (F i)))]) (0,[.i n,.i n,.i i,.r L,.i n,.i 0,.i 0,.i n,.i n,.r (txR (mkL F n (i+1)))]) n (by omega) (fun k hk=>by
   rw[qdz];have hlen:(mkL F n i++(List.range k).map (F i)).length<=1000:=by have:=ml i (by omega);rw[qJB,qJm,qJV];omega
   have e1:txR (mkL F n i++(List.range (k+1)).map (F i))=uV (txR (mkL F n i++(List.range k).map (F i))) [[.s (F i k)]]:=by rw[qnF,qoH,qKS,qJK,<-qJQ];rfl
   have e2:F i k=tQ (g i k:Rat):=by rw[hF]
   have e3:qk [[U.s (tQ (g i k:Rat))]]=1:=rfl;simp only[STD,qIU hn hi hk hL (hg i k hi hk) (hb i k hi hk),kX hk (show n<9223372036854775808 by omega),e1,e2,e3,qlg,show (k:Int)<n by omega,show (((mkL F n i++(List.range k).map (F i)).length:Int)+1<=8796093022208) by omega]) (by
   rw[qdz];simp only[STD,show ¬(n:Int)<n by omega,mkL])
  simpa using key
 have outer:=zf (S:=q0u) (fun i=>[.i n,.i n,.i (i:Int),.r L,.i n,.i 0,.i 0,.i n,.i n,.r (txR (mkL F n i))]) (0,[.r L,.i n,.i 0,.i 0,.i n,.i n,.r (txR (mkL F n n))]) n (by omega) (fun i hi=>by
  rw[qfg];simp only[STD,inner i hi,kX hi (show n<9223372036854775808 by omega),show (i:Int)<n by omega]) (by
  rw[qfg];simp only[STD,show ¬(n:Int)<n by omega])
 have key:(qh q0u [.i n,.i n,.i 0,.r L,.i n,.i 0,.i 0,.i n,.i n,.r []]).run=some (0,[.r L,.i n,.i 0,.i 0,.i n,.i n,.r (txR (mkL F n n))]):=outer;rw[qpP];simp only[STD,key];rw[hF];rfl
theorem qva{n:Nat}{L:R}{g:Nat->Nat->Int}(hn:n<=16)(hL:L.length=n*n)(hg:∀i k,i<n->k<n->cI L ((i*n+k:Nat):Int) 0=g i k)(hb:∀i k,i<n->k<n->-999999999999999<=g i k/\g i k<=999999999999999) :(qaG [.i n,.i n,.r L]).run=some (0,[.i n,.i n,.r (uG (fun i k=>tQ (g i k:Rat)) n),.i 0]):=by
 have hnn:n*n<=16*16:=qK4 hn hn;rw[qus,qt3 (by omega)];have e:qk L=((n*n:Nat):Int):=by unfold qk;rw[hL]
 simp only[STD,qEh hn,qGX hn hL hg hb,e]
theorem qET(x:Bs):(vg [.s x,.i 0,.i 0]).run=some (0,[.s x,.i 0]):=by rw[qhA];simp only[STD]
theorem qHN{a b:Rat}{N D N' D':Nat}(ha:bnd N D a)(hb:bnd N' D' b)(h1:N+N'<=1024)(h2:D+D'<=1024):(kz [.s (tQ a),.s (tQ b),.i 0]).run=some (0,[.s (tQ (a*b)),.i 0]):=by rw[qjl];simp only[STD,qdN ha hb h1 h2,qET]
theorem qGH{a b:Rat}{N D N' D':Nat}(ha:bnd N D a)(hb:bnd N' D' b)(h1:N+D'<=1023)(h2:N'+D<=1023)(h3:D+D'<=1024):(ko [.s (tQ a),.s (tQ b),.i 0]).run=some (0,[.s (tQ (a+b)),.i 0]):=by rw[qiw];simp only[STD,qdP ha hb h1 h2 h3,qET]
theorem qF4{F:Nat->Nat->Bs}{n i k:Nat}(hn:n<=16)(hi:i<n)(hk:k<n):(q40 [.i n,.i n,.r (uG F n),.i i,.i k]).run=some (0,[.s (F i k)]):=by
 have h1:=qHu hi hk;have h2:n*n<=16*16:=qK4 hn hn;rw[qpx,qt3 (by omega),qx7 (by omega),qmg F hi hk];have e:qk (uG F n)=((n*n:Nat):Int):=by unfold qk;rw[qhb]
 simp only[STD,e,show (0:Int)<=((i*n+k:Nat):Int) by omega,show ((i*n+k:Nat):Int)<((n*n:Nat):Int) by omega,and_self]
def sbd:Nat->Nat×Nat
 | 0=>(1,1)
 | 1=>(352,324)
 | 2=>(676,647)
 | _=>(1000,970)
theorem qEd(m:Nat)(h:m<3):(sbd m).1+323<=1023/\350+(sbd m).2<=1023/\(sbd m).2+323<=1024/\(sbd m).1+323+1<=(sbd (m+1)).1/\350+(sbd m).2+1<=(sbd (m+1)).1/\(sbd m).2+323<=(sbd (m+1)).2:=by
 match m,h with
 | 0,_=>decide
 | 1,_=>decide
 | 2,_=>decide
theorem qEQ{V B:Nat->Rat}{n:Nat}(hV:∀k,k<n->bnd 337 322 (V k))(hB:∀k,k<n->bnd 13 1 (B k)):∀m,m<=n->m<=3->bnd (sbd m).1 (sbd m).2 (su m fun k=>V k*B k)
 | 0,_,_=>q2c
 | m+1,h1,h2=>by
  obtain⟨o1,o2,o3,o4,o5,o6⟩:=qEd m (by omega);exact((qEQ hV hB m (by omega) (by omega)).add ((hV m (by omega)).mul (hB m (by omega))) o4 o5).mono (qJe _) o6
theorem qFS{n:Nat}(hn:n<=3){V:Nat->Nat->Rat}{B:Nat->Rat}(hV:∀i k,i<n->k<n->bnd 337 322 (V i k))(hB:∀k,k<n->bnd 13 1 (B k)) :(q4s [.i n,.i n,.r (uG (fun i k=>tQ (V i k)) n),.r (txR ((List.range n).map fun k=>tQ (B k)))]).run=some (0,[.r (txR ((List.range n).map fun i=>tQ (su n fun k=>V i k*B k))),.i 0]):=by
 obtain⟨bl,hbl⟩:∃bl,bl=txR ((List.range n).map fun k=>tQ (B k)):=⟨_,rfl⟩;have lb:qk bl=(n:Int):=by rw[hbl,qlg,qJm,qJV]
 have gb:∀k,k<n->cS bl (k:Int) 0=tQ (B k):=fun k hk=>by rw[hbl];exact qAZ (by rw[qJo,qKa hk];rfl)
 have inner:∀i,i<n->∀acc:List Bs,(qh ue [.r bl,.i i,.s [48],.i n,.i i,.r bl,.i n,.i 0,.i n,.i n,.r (uG (fun i k=>tQ (V i k)) n),.i 0,.r (txR acc)]).run =
   some (0,[.r bl,.s (tQ (su n fun k=>V i k*B k)),.i n,.i i,.i n,.i n,.r (uG (fun i k=>tQ (V i k)) n),.i 0,.r (txR acc)]):=fun i hi acc=>by
  have key:=zf (S:=ue) (fun k=>[.r bl,.i i,.s (tQ (su k fun k=>V i k*B k)),.i n,.i i,.r bl,.i n,.i (k:Int),.i n,.i n,.r (uG (fun i k=>tQ (V i k)) n),.i 0,.r (txR acc)])
   (0,[.r bl,.s (tQ (su n fun k=>V i k*B k)),.i n,.i i,.i n,.i n,.r (uG (fun i k=>tQ (V i k)) n),.i 0,.r (txR acc)]) n (by omega) (fun k hk=>by
    rw[qbM];obtain⟨o1,o2,o3,_,_,_⟩:=qEd k (by omega);have s1:=qEQ (fun k hk=>hV i k hi hk) hB k (by omega) (by omega);simp only[STD,qF4 (F:=fun i k=>tQ (V i k)) (show n<=16 by omega) hi hk,gb k hk,lb,qHN (hV i k hi hk) (hB k hk) (by omega) (by omega),qGH s1 ((hV i k hi hk).mul (hB k hk)) o1 o2 o3,
     kX hk (show n<9223372036854775808 by omega),show (k:Int)<n by omega,show (0:Int)<=k by omega,and_self]
    rfl) (by
    rw[qbM];simp only[STD,show ¬(n:Int)<n by omega])
  exact key
 have outer:=zf (S:=u7) (fun i=>[.r bl,.i n,.i (i:Int),.i n,.i n,.r (uG (fun i k=>tQ (V i k)) n),.i 0,.r (txR ((List.range i).map fun i=>tQ (su n fun k=>V i k*B k)))])
  (0,[.i 0,.r (txR ((List.range n).map fun i=>tQ (su n fun k=>V i k*B k)))]) n (by omega) (fun i hi=>by
   rw[qbL];have e1:txR ((List.range (i+1)).map fun i=>tQ (su n fun k=>V i k*B k))=uV (txR ((List.range i).map fun i=>tQ (su n fun k=>V i k*B k))) [[.s (tQ (su n fun k=>V i k*B k))]]:=by rw[qnF,qoH,qKS,qJK];rfl
   have e3:qk [[U.s (tQ (su n fun k=>V i k*B k))]]=1:=rfl;simp only[STD,lb,inner i hi,kX hi (show n<9223372036854775808 by omega),show (i:Int)<n by omega,e1,e3,qlg,qJm,qJV,show (i:Int)+1<=8796093022208 by omega]) (by
   rw[qbL];simp only[STD,show ¬(n:Int)<n by omega])
 have key:(qh u7 [.r bl,.i n,.i 0,.i n,.i n,.r (uG (fun i k=>tQ (V i k)) n),.i 0,.r []]).run=some (0,[.i 0,.r (txR ((List.range n).map fun i=>tQ (su n fun k=>V i k*B k)))]):=outer;have hck:=qhX (F:=fun i k=>tQ (V i k)) (show n<=16 by omega) fun i k hi hk=>q3m ((hV i k hi hk).ok (by omega) (by omega));have hnum:=qtJ (l:=bl) (n:=n) (by have:=lb;unfold qk at this;omega) (by omega) (fun i hi=>by rw[gb i hi];exact q3m ((hB i hi).ok (by omega) (by omega)));rw[<-hbl,qp0];simp only[STD,hck,lb,hnum,key]
def qAY(ox oy oz ax ay az bx by' bz:Int):Int:=(ax-ox)*(bx-ox)+(ay-oy)*(by'-oy)+(az-oz)*(bz-oz)
theorem qzz{a b:Int}(ha:co a)(hb:co b):-200000<=a-b/\a-b<=200000:=by unfold co at ha hb;omega
theorem qiP{a b c d:Int}(ha:co a)(hb:co b)(hc:co c)(hd:co d):-40000000000<=(a-b)*(c-d)/\(a-b)*(c-d)<=40000000000:=by have h1:=qzz ha hb;have h2:=qzz hc hd;have:=qGD h1.1 h1.2 h2.1 h2.2;omega
theorem qEW{ox oy oz ax ay az bx by' bz:Int}(h1:co ox)(h2:co oy)(h3:co oz)(h4:co ax)(h5:co ay)(h6:co az)(h7:co bx)(h8:co by')(h9:co bz):-120000000000<=qAY ox oy oz ax ay az bx by' bz/\qAY ox oy oz ax ay az bx by' bz<=120000000000:=by have p1:=qiP h4 h1 h7 h1;have p2:=qiP h5 h2 h8 h2;have p3:=qiP h6 h3 h9 h3;unfold qAY;omega
theorem qlh{a b:Int}(ha:co a)(hb:co b):yM .i64 a b=a-b:=jj (by have:=qzz ha hb;omega)
theorem qvZ{a b c d:Int}(ha:co a)(hb:co b)(hc:co c)(hd:co d):vn .i64 (a-b) (c-d)=(a-b)*(c-d):=q52 (by have:=qiP ha hb hc hd;omega)
theorem qe0(x y z:Int):(qM [.i x,.i y,.i z]).run=some (0,[.i x,.i y,.i z]):=by rw[qfz];rfl
theorem qIP{ox oy oz ax ay az bx by' bz:Int}(h1:co ox)(h2:co oy)(h3:co oz)(h4:co ax)(h5:co ay)(h6:co az)(h7:co bx)(h8:co by')(h9:co bz) :(q1i [.i ox,.i oy,.i oz,.i ax,.i ay,.i az,.i bx,.i by',.i bz]).run=some (0,[.i (qAY ox oy oz ax ay az bx by' bz)]):=by
 have p1:=qiP h4 h1 h7 h1;have p2:=qiP h5 h2 h8 h2;have p3:=qiP h6 h3 h9 h3;have key:=zf (S:=q0y) (fun i=>[.i (if i=0 then 0 else if i=1 then (ax-ox)*(bx-ox) else if i=2 then (ax-ox)*(bx-ox)+(ay-oy)*(by'-oy) else qAY ox oy oz ax ay az bx by' bz),.i (i:Int),.i ox,.i oy,.i oz,.i ax,.i ay,.i az,.i bx,.i by',.i bz])
  (0,[.i (qAY ox oy oz ax ay az bx by' bz)]) 3 (by omega) (fun i hi=>by
   rw[qeP];rcases (show i=0\/i=1\/i=2 by omega) with rfl|rfl|rfl
   ·have e1:qz .i64 ((0:Nat):Int) 1=((1:Nat):Int):=by decide
    have e2:qz .i64 0 ((ax-ox)*(bx-ox))=(ax-ox)*(bx-ox):=by rw[zj (by omega)];omega
    simp only[STD,e1,qlh h4 h1,qlh h7 h1,qvZ h4 h1 h7 h1,e2,show (((0:Nat):Int)<3)=True from eq_true (by decide),show (((0:Nat):Int)=2)=False from eq_false (by decide),show (((0:Nat):Int)=1)=False from eq_false (by decide),show (((0:Nat):Int)=0)=True from eq_true (by decide),qK5,show ((1:Nat)=0)=False from eq_false (by decide)]
   ·have e1:qz .i64 ((1:Nat):Int) 1=((2:Nat):Int):=by decide
    have e2:qz .i64 ((ax-ox)*(bx-ox)) ((ay-oy)*(by'-oy))=(ax-ox)*(bx-ox)+(ay-oy)*(by'-oy):=zj (by omega);simp only[STD,e1,qlh h5 h2,qlh h8 h2,qvZ h5 h2 h8 h2,e2,show (((1:Nat):Int)<3)=True from eq_true (by decide),show (((1:Nat):Int)=2)=False from eq_false (by decide),show (((1:Nat):Int)=1)=True from eq_true (by decide),show ((1:Nat)=0)=False from eq_false (by decide),show ((1+1:Nat)=0)=False from eq_false (by decide),show ((1+1:Nat)=1)=False from eq_false (by decide)]
   ·have e1:qz .i64 ((2:Nat):Int) 1=((3:Nat):Int):=by decide
    have e2:qz .i64 ((ax-ox)*(bx-ox)+(ay-oy)*(by'-oy)) ((az-oz)*(bz-oz))=qAY ox oy oz ax ay az bx by' bz:=by rw[zj (by omega)];rfl
    simp only[STD,e1,qlh h6 h3,qlh h9 h3,qvZ h6 h3 h9 h3,e2,show (((2:Nat):Int)<3)=True from eq_true (by decide),show (((2:Nat):Int)=2)=True from eq_true (by decide),show ((2:Nat)=0)=False from eq_false (by decide),show ((2:Nat)=1)=False from eq_false (by decide),show ((2+1:Nat)=0)=False from eq_false (by decide),show ((2+1:Nat)=1)=False from eq_false (by decide),show ((2+1:Nat)=2)=False from eq_false (by decide)]) (by
   rw[qeP];simp only[STD,show (((3:Nat):Int)<3)=False from eq_false (by decide),show ((3:Nat)=0)=False from eq_false (by decide),show ((3:Nat)=1)=False from eq_false (by decide),show ((3:Nat)=2)=False from eq_false (by decide)])
 have key':(qh q0y [.i 0,.i 0,.i ox,.i oy,.i oz,.i ax,.i ay,.i az,.i bx,.i by',.i bz]).run=some (0,[.i (qAY ox oy oz ax ay az bx by' bz)]):=key;rw[qqo];simp only[STD,qe0,key']
variable {l:R}
def mkI(F:Nat->Nat->Int)(c:Nat):Nat->List Int
 | 0=>[]
 | i+1=>mkI F c i++(List.range c).map (F i)
theorem qmj(F:Nat->Nat->Int)(c:Nat):∀i,(mkI F c i).length=i*c
 | 0=>by simp[mkI]
 | i+1=>by rw[mkI,qJB,qmj F c i];simp[qJt]
theorem qAJ(F:Nat->Nat->Int)(c:Nat):∀(n i k:Nat),i<n->k<c->(mkI F c n)[i*c+k]?=some (F i k)
 | 0,i,k,h,_=>by omega
 | n+1,i,k,h,hk=>by
  rw[mkI];by_cases hi:i<n
  ·have:i*c+k<n*c:=by have:=qJD c (show i+1<=n by omega);rw[qJt] at this;omega
   rw[qJp (by rw[qmj];exact this)];exact qAJ F c n i k hi hk
  ·have:i=n:=by omega
   subst this;rw[qJz (by rw[qmj];omega),qmj,show i*c+k-i*c=k by omega];simp[hk]
theorem qHw (F:Nat->Nat->Int){n i k:Nat}(hi:i<n)(hk:k<n):cI (rI (mkI F n n)) ((i*n+k:Nat):Int) 0=F i k:=by rw[qAn,qJq,qJd,qAJ F n n i k hi hk];rfl
theorem qH2 (l m:List Int):uV (rI l) (rI m)=rI (l++m):=by unfold rI uV;rw[qJK]
def dI(l:R)(i k:Nat):Int:=qAY (cI l 0 0) (cI l 0 1) (cI l 0 2) (cI l (i:Int) 0) (cI l (i:Int) 1) (cI l (i:Int) 2) (cI l (k:Int) 0) (cI l (k:Int) 1) (cI l (k:Int) 2)
def gI2(l:R)(i k:Nat):Int:=2*dI l (i+1) (k+1)
theorem q7Y.row (h:q7Y l){i:Nat}(hi:i<l.length):co (cI l (i:Int) 0)/\co (cI l (i:Int) 1)/\co (cI l (i:Int) 2):=h.2 i hi
theorem q7Y.row0 (h:q7Y l)(hi:0<l.length):co (cI l 0 0)/\co (cI l 0 1)/\co (cI l 0 2):=h.2 0 hi
theorem qFe (h:q7Y l){i k:Nat}(hi:i<l.length)(hk:k<l.length):-120000000000<=dI l i k/\dI l i k<=120000000000:=by obtain⟨a1,a2,a3⟩:=h.row0 (show 0<l.length by omega);obtain⟨b1,b2,b3⟩:=h.row hi;obtain⟨c1,c2,c3⟩:=h.row hk;exact qEW a1 a2 a3 b1 b2 b3 c1 c2 c3
theorem qIX (h:q7Y l){i k:Nat}(hi:i<l.length)(hk:k<l.length) :(q1i [.i (cI l 0 0),.i (cI l 0 1),.i (cI l 0 2),.i (cI l (i:Int) 0),.i (cI l (i:Int) 1),.i (cI l (i:Int) 2),.i (cI l (k:Int) 0),.i (cI l (k:Int) 1),.i (cI l (k:Int) 2)]).run=some (0,[.i (dI l i k)]):=by obtain⟨a1,a2,a3⟩:=h.row0 (show 0<l.length by omega);obtain⟨b1,b2,b3⟩:=h.row hi;obtain⟨c1,c2,c3⟩:=h.row hk;exact qIP a1 a2 a3 b1 b2 b3 c1 c2 c3
theorem qyv {n i:Nat}(h:q7Y l)(hl:l.length=n+1)(hi:i<n)(s1 s2 s3 s4:Bs)(rt:R) :(qh jr [.r l,.i n,.i i,.i n,.i i,.i n,.i 0,.s s1,.s s2,.s s3,.s s4,.r (rI (mkI (gI2 l) n i)),.r rt]).run = some (0,[.r l,.i n,.i i,.i n,.i i,.s s1,.s s2,.s s3,.s s4,.r (rI (mkI (gI2 l) n (i+1))),.r rt]):=by
 have hn:n<=64:=by have:=h.1;omega
 have hlen:(mkI (gI2 l) n i).length<=64*64:=by rw[qmj];exact qK4 (by omega) hn
 have key:=zf (S:=jr) (fun k=>[.r l,.i n,.i i,.i n,.i i,.i n,.i (k:Int),.s s1,.s s2,.s s3,.s s4,.r (rI (mkI (gI2 l) n i++(List.range k).map (gI2 l i))),.r rt])
  (0,[.r l,.i n,.i i,.i n,.i i,.s s1,.s s2,.s s3,.s s4,.r (rI (mkI (gI2 l) n (i+1))),.r rt]) n (by omega) (fun k hk=>by
   rw[q8J];have hL:qk l=((n+1:Nat):Int):=by unfold qk;rw[hl]
   have w1:qz .i64 (i:Int) 1=((i+1:Nat):Int):=kX hi (by omega);have w2:qz .i64 (k:Int) 1=((k+1:Nat):Int):=kX hk (by omega);have bd:=qFe h (i:=i+1) (k:=k+1) (by omega) (by omega);have w3:vn .i64 2 (dI l (i+1) (k+1))=gI2 l i k:=q52 (by omega);have e1:rI (mkI (gI2 l) n i++(List.range (k+1)).map (gI2 l i))=uV (rI (mkI (gI2 l) n i++(List.range k).map (gI2 l i))) [[.i (gI2 l i k)]]:=by rw[show [[U.i (gI2 l i k)]]=rI [gI2 l i k] from rfl,qH2,qKS,qJK,<-qJQ];rfl
   have e3:qk [[U.i (gI2 l i k)]]=1:=rfl;have e4:((mkI (gI2 l) n i++(List.range k).map (gI2 l i)).length:Int)+1<=17592186044416:=by rw[qJB,qJm,qJV];omega
   simp only[STD,hL,w1,w2,qIX h (i:=i+1) (k:=k+1) (by omega) (by omega),w3,e1,e3,qgT,e4,show (k:Int)<n by omega,show (0:Int)<=0 by omega,show (0:Int)<((n+1:Nat):Int) by omega,
    show (0:Int)<=((i+1:Nat):Int) by omega,show ((i+1:Nat):Int)<((n+1:Nat):Int) by omega,show (0:Int)<=((k+1:Nat):Int) by omega,show ((k+1:Nat):Int)<((n+1:Nat):Int) by omega,and_self]) (by
   rw[q8J];simp only[STD,show ¬(n:Int)<n by omega,mkI])
 simpa using key
theorem qAh {n:Nat}(h:q7Y l)(hl:l.length=n+1)(s1 s2 s3 s4:Bs) :(qh jS [.r l,.i n,.i n,.i 0,.s s1,.s s2,.s s3,.s s4,.r [],.r []]).run = some (0,[.r l,.i n,.s s1,.s s2,.s s3,.s s4,.r (rI (mkI (gI2 l) n n)),.r (txR ((List.range n).map fun i=>tQ (dI l (i+1) (i+1):Rat)))]):=by
 have hn:n<=64:=by have:=h.1;omega
 have key:=zf (S:=jS) (fun i=>[.r l,.i n,.i n,.i (i:Int),.s s1,.s s2,.s s3,.s s4,.r (rI (mkI (gI2 l) n i)),.r (txR ((List.range i).map fun i=>tQ (dI l (i+1) (i+1):Rat)))])
  (0,[.r l,.i n,.s s1,.s s2,.s s3,.s s4,.r (rI (mkI (gI2 l) n n)),.r (txR ((List.range n).map fun i=>tQ (dI l (i+1) (i+1):Rat)))]) n (by omega) (fun i hi=>by
   rw[qan];have hL:qk l=((n+1:Nat):Int):=by unfold qk;rw[hl]
   have w1:qz .i64 (i:Int) 1=((i+1:Nat):Int):=kX hi (by omega);have bd:=qFe h (i:=i+1) (k:=i+1) (by omega) (by omega);have e1:txR ((List.range (i+1)).map fun i=>tQ (dI l (i+1) (i+1):Rat))=uV (txR ((List.range i).map fun i=>tQ (dI l (i+1) (i+1):Rat))) [[.s (tQ (dI l (i+1) (i+1):Rat))]]:=by rw[qnF,qoH,qKS,qJK];rfl
   have e3:qk [[U.s (tQ (dI l (i+1) (i+1):Rat))]]=1:=rfl;simp only[STD,qyv h hl hi,hL,w1,qIX h (i:=i+1) (k:=i+1) (by omega) (by omega),q32 (m:=dI l (i+1) (i+1)) (by omega),e1,e3,qlg,qJm,qJV,show (i:Int)<n by omega,
    show (i:Int)+1<=8796093022208 by omega,show (0:Int)<=0 by omega,show (0:Int)<((n+1:Nat):Int) by omega,show (0:Int)<=((i+1:Nat):Int) by omega,show ((i+1:Nat):Int)<((n+1:Nat):Int) by omega,and_self]) (by
   rw[qan];simp only[STD,show ¬(n:Int)<n by omega])
 exact key
def pV(l:R):Nat->V3:=fun i=>⟨(cI l (i:Int) 0:Rat),(cI l (i:Int) 1:Rat),(cI l (i:Int) 2:Rat)⟩
theorem qxq (l:R)(i k:Nat):((gI2 l i k:Int):Rat)=qsC (pV l) i k:=by unfold gI2 dI qAY qsC qaA pV;simp only[qJS,qKF,qK6];rfl
theorem qH8 (l:R)(i:Nat):((dI l (i+1) (i+1):Int):Rat)=d2 (pV l 0) (pV l (i+1)):=by unfold dI qAY d2 pV;simp only[qJS,qKF,qK6];show _=_;have:((cI l 0 0:Int):Rat)=(cI l ((0:Nat):Int) 0:Rat):=rfl;grind
end Go.Eng

namespace Go.Eng
variable {n:Nat}
theorem qv8 (n:Nat)(G:Nat->Nat->Rat)(i:Nat)(x:Nat->Rat):su n (fun j=>aug n G i j*x j)=su n (fun j=>G i j*x j):=qo fun j hj=>by unfold aug;rw[if_pos hj]
theorem qBz {G N:Nat->Nat->Rat}(h:qdE n (pvQ n) n 0 (aug n G)=some N){i j:Nat}(hi:i<n)(_:j<n):su n (fun k=>G i k*N k (n+j))=if j=i then 1 else 0:=by
 obtain⟨h1,h2⟩:=qlL (qzR n) n 0 _ N (by omega) (fun i j _ hj=>by omega) h;have:=(h2 (n+j) _).1 ((qjb h1 _ _).2 fun i _=>rfl) i hi;rw[qv8] at this;rw[this];unfold aug;show (if n+j<n then G i (n+j) else if n+j=n+i then (1:Rat) else 0)=_;rw[if_neg (by omega)];by_cases e:j=i
 ·rw[if_pos e,if_pos (by omega)]
 ·rw[if_neg e,if_neg (by omega)]
theorem qGj {G N:Nat->Nat->Rat}(h:qdE n (pvQ n) n 0 (aug n G)=some N)(t:Nat->Rat)(ht:∀i,i<n->su n (fun j=>G i j*t j)=0):∀j,j<n->t j=0:=by
 obtain⟨h1,h2⟩:=qlL (qzR n) n 0 _ N (by omega) (fun i j _ hj=>by omega) h;have sol:=(h2 n _).1 ((qjb h1 _ (fun i=>N i n)).2 fun i _=>rfl);have s2:qmq n n (aug n G) (fun i=>aug n G i n) (fun i=>N i n+t i):=fun i hi=>by have a:=sol i hi;have b:=ht i hi;rw[<-qv8] at b;rw[qo (g:=fun j=>aug n G i j*N j n+aug n G i j*t j) (fun j _=>by grind),q5E,b,a];grind
 intro j hj;have:=(qjb h1 _ _).1 ((h2 n _).2 s2) j hj;grind
def qHS(n:Nat)(N:Nat->Nat->Rat)(B:Nat->Rat):Nat->Rat:=fun i=>su n fun k=>N i (n+k)*B k
theorem qC9 {G N:Nat->Nat->Rat}(h:qdE n (pvQ n) n 0 (aug n G)=some N)(B:Nat->Rat){i:Nat}(hi:i<n):su n (fun k=>G i k*qHS n N B k)=B i:=by
 have e:su n (fun k=>G i k*qHS n N B k)=su n (fun j=>B j*su n (fun k=>G i k*N k (n+j))):=by rw[qo (g:=fun k=>su n (fun j=>B j*(G i k*N k (n+j)))) (fun k _=>by unfold qHS;rw[<-wF];exact qo fun j _=>by grind),qwn];exact qo fun j _=>by rw[wF]
 rw[e,q7R (k:=i) _ hi (fun j hj hne=>by rw[qBz h hi hj,if_neg hne];grind),qBz h hi hi,if_pos rfl];grind
theorem qGF {l:R}{N:Nat->Nat->Rat}(h:qdE n (pvQ n) n 0 (aug n (qsC (pV l)))=some N):Bl n (pV l) (qHS n N fun k=>d2 (pV l 0) (pV l (k+1))):=⟨qh0.2 fun t ht=>qGj h t ht,fun _ hi=>qC9 h _ hi⟩
theorem qE0 {c:Nat->V3}(h:qdE n (pvQ n) n 0 (aug n (qsC c))=none):¬Ind (n+1) c:=by obtain⟨x,⟨j,hj,hne⟩,hs⟩:=qqH (qzR n) n 0 _ (by omega) (fun i j _ hj=>by omega) h;intro hi;exact hne (qh0.1 hi x (fun i hi=>by rw[<-qv8];exact hs i hi) j hj)
theorem qI6 {q:Rat}{P M:Int}(hM:M≠0)(h:q*(M:Rat)=(P:Rat)):q.num.natAbs<=P.natAbs/\q.den<=M.natAbs:=by
 have hM':(M:Rat)≠0:=by intro e;exact hM (Rat.intCast_inj.1 (e.trans (by simp)))
 have e:q=Rat.divInt P M:=by rw[Rat.divInt_eq_div,<-h];exact(Rat.mul_div_cancel hM').symm
 rw[e];constructor
 ·rw[Rat.num_divInt];refine qJg (qLb _ _) ?_;rw[qKo,qLy hM];omega
 ·rw[Rat.den_divInt,if_neg hM];exact qL2 _ _
def qB1(a b c d e f g h i:Rat):Rat:=a*(e*i-f*h)-b*(d*i-f*g)+c*(d*h-e*g)
theorem qGm (a b c d e f g h i p q r s t u v w x:Rat):qB1 a b c d e f g h i*qB1 p q r s t u v w x = qB1 (a*p+b*s+c*v) (a*q+b*t+c*w) (a*r+b*u+c*x) (d*p+e*s+f*v) (d*q+e*t+f*w) (d*r+e*u+f*x) (g*p+h*s+i*v) (g*q+h*t+i*w) (g*r+h*u+i*x):=by unfold qB1;grind
end Go.Eng

namespace Go.Eng
theorem q3Q{x y:Int}{a b:Nat}(hx:x.natAbs<=a)(hy:y.natAbs<=b):(x*y).natAbs<=a*b:=by rw[qKo];exact qK4 hx hy
theorem qFU{x y:Int}{a b:Nat}(hx:x.natAbs<=a)(hy:y.natAbs<=b):(x+y).natAbs<=a+b:=by omega
theorem qiT{x y:Int}{a b:Nat}(hx:x.natAbs<=a)(hy:y.natAbs<=b):(x-y).natAbs<=a+b:=by omega
def qFf(a b c d e f g h i:Int):Int:=a*(e*i-f*h)-b*(d*i-f*g)+c*(d*h-e*g)
theorem qgL(a b c d e f g h i:Int):((qFf a b c d e f g h i:Int):Rat)=qB1 a b c d e f g h i:=by unfold qFf qB1;simp only[qJS,qKF,qK6]
theorem qsH{A:Nat}{a b c d e f g h i:Int}(ha:a.natAbs<=A)(hb:b.natAbs<=A)(hc:c.natAbs<=A)(hd:d.natAbs<=A)(he:e.natAbs<=A)(hf:f.natAbs<=A)(hg:g.natAbs<=A)(hh:h.natAbs<=A)(hi:i.natAbs<=A) :(qFf a b c d e f g h i).natAbs<=A*(A*A+A*A)+A*(A*A+A*A)+A*(A*A+A*A):=qFU (qiT (q3Q ha (qiT (q3Q he hi) (q3Q hf hh))) (q3Q hb (qiT (q3Q hd hi) (q3Q hf hg)))) (q3Q hc (qiT (q3Q hd hh) (q3Q he hg)))
def AA:Nat:=240000000000
theorem qGZ{n:Nat}(hn:n<=3){g:Nat->Nat->Int}{b:Nat->Int}{N:Nat->Nat->Rat}{t:Nat->Rat}(hg:∀i k,i<n->k<n->(g i k).natAbs<=AA)(hb:∀i,i<n->(b i).natAbs<=AA)(hinv:∀i j,i<n->j<n->su n (fun k=>(g i k:Rat)*N k j)=if j=i then 1 else 0) (ht:∀i,i<n->su n (fun k=>(g i k:Rat)*t k)=(b i:Rat)) :∃D:Int,D≠0/\D.natAbs<=10^35/\∀i,i<n->∃T:Int,t i*(D:Rat)=(T:Rat)/\T.natAbs<=10^35:=by
 match n,hn with
 | 0,_=>exact⟨1,by decide,by decide,fun i hi=>by omega⟩
 | 1,_=>
  have g0:=hg 0 0 (by omega) (by omega);have b0:=hb 0 (by omega);have i0:=hinv 0 0 (by omega) (by omega);have t0:=ht 0 (by omega);simp only[su,if_true] at i0 t0;unfold AA at g0 b0;refine⟨g 0 0,fun e=>?_,by omega,fun i hi=>⟨b 0,?_,by omega⟩⟩
  ·rw[e] at i0;have:((0:Int):Rat)=0:=rfl;rw[this] at i0;grind
  ·have:i=0:=by omega
   subst this;grind
 | 2,_=>
  have g00:=hg 0 0 (by omega) (by omega);have g01:=hg 0 1 (by omega) (by omega);have g10:=hg 1 0 (by omega) (by omega);have g11:=hg 1 1 (by omega) (by omega);have b0:=hb 0 (by omega);have b1:=hb 1 (by omega);have i00:=hinv 0 0 (by omega) (by omega);have i01:=hinv 0 1 (by omega) (by omega);have i10:=hinv 1 0 (by omega) (by omega);have i11:=hinv 1 1 (by omega) (by omega);have t0:=ht 0 (by omega);have t1:=ht 1 (by omega);simp only[su,if_true,show (1=0)=False from eq_false (by decide),show (0=1)=False from eq_false (by decide),if_false] at i00 i01 i10 i11 t0 t1;have A2:AA*AA+AA*AA<=10^35:=by decide
  refine⟨g 0 0*g 1 1-g 0 1*g 1 0,fun e=>?_,qJg (qiT (q3Q g00 g11) (q3Q g01 g10)) A2,fun i hi=>?_⟩
  ·have e':((g 0 0:Int):Rat)*(g 1 1:Rat)-(g 0 1:Rat)*(g 1 0:Rat)=0:=by rw[<-qJS,<-qJS,<-qK6,e];rfl
   grind
  ·rcases (show i=0\/i=1 by omega) with rfl|rfl
   ·refine⟨b 0*g 1 1-g 0 1*b 1,?_,qJg (qiT (q3Q b0 g11) (q3Q g01 b1)) A2⟩;simp only[qJS,qK6];rw[<-t0,<-t1];grind
   ·refine⟨g 0 0*b 1-b 0*g 1 0,?_,qJg (qiT (q3Q g00 b1) (q3Q b0 g10)) A2⟩;simp only[qJS,qK6];rw[<-t0,<-t1];grind
 | 3,_=>
  have A3:AA*(AA*AA+AA*AA)+AA*(AA*AA+AA*AA)+AA*(AA*AA+AA*AA)<=10^35:=by decide
  have G:=fun i k (hi:i<3) (hk:k<3)=>hg i k hi hk;have i00:=hinv 0 0 (by omega) (by omega);have i01:=hinv 0 1 (by omega) (by omega);have i02:=hinv 0 2 (by omega) (by omega);have i10:=hinv 1 0 (by omega) (by omega);have i11:=hinv 1 1 (by omega) (by omega);have i12:=hinv 1 2 (by omega) (by omega);have i20:=hinv 2 0 (by omega) (by omega);have i21:=hinv 2 1 (by omega) (by omega);have i22:=hinv 2 2 (by omega) (by omega);have t0:=ht 0 (by omega);have t1:=ht 1 (by omega);have t2:=ht 2 (by omega);have B0:=hb 0 (by omega);have B1:=hb 1 (by omega);have B2:=hb 2 (by omega);simp only[su,if_true,Rat.zero_add,show (1=0)=False from eq_false (by decide),show (0=1)=False from eq_false (by decide),show (2=0)=False from eq_false (by decide),show (0=2)=False from eq_false (by decide),show (1=2)=False from eq_false (by decide),show (2=1)=False from eq_false (by decide),if_false] at i00 i01 i02 i10 i11 i12 i20 i21 i22 t0 t1 t2;have G00:=G 0 0 (by omega) (by omega);have G01:=G 0 1 (by omega) (by omega);have G02:=G 0 2 (by omega) (by omega);have G10:=G 1 0 (by omega) (by omega);have G11:=G 1 1 (by omega) (by omega);have G12:=G 1 2 (by omega) (by omega);have G20:=G 2 0 (by omega) (by omega);have G21:=G 2 1 (by omega) (by omega);have G22:=G 2 2 (by omega) (by omega);refine⟨qFf (g 0 0) (g 0 1) (g 0 2) (g 1 0) (g 1 1) (g 1 2) (g 2 0) (g 2 1) (g 2 2),fun e=>?_,qJg (qsH G00 G01 G02 G10 G11 G12 G20 G21 G22) A3,fun i hi=>?_⟩
  ·have e':=qgL (g 0 0) (g 0 1) (g 0 2) (g 1 0) (g 1 1) (g 1 2) (g 2 0) (g 2 1) (g 2 2);rw[e] at e';have m:=qGm (g 0 0) (g 0 1) (g 0 2) (g 1 0) (g 1 1) (g 1 2) (g 2 0) (g 2 1) (g 2 2) (N 0 0) (N 0 1) (N 0 2) (N 1 0) (N 1 1) (N 1 2) (N 2 0) (N 2 1) (N 2 2);rw[i00,i01,i02,i10,i11,i12,i20,i21,i22,<-e'] at m;have z:((0:Int):Rat)=0:=rfl;have o:qB1 1 0 0 0 1 0 0 0 1=1:=by unfold qB1;grind
   rw[z,o] at m;grind
  ·rw[qgL];rcases (show i=0\/i=1\/i=2 by omega) with rfl|rfl|rfl
   ·refine⟨qFf (b 0) (g 0 1) (g 0 2) (b 1) (g 1 1) (g 1 2) (b 2) (g 2 1) (g 2 2),?_,qJg (qsH B0 G01 G02 B1 G11 G12 B2 G21 G22) A3⟩;rw[qgL,<-t0,<-t1,<-t2];unfold qB1;grind
   ·refine⟨qFf (g 0 0) (b 0) (g 0 2) (g 1 0) (b 1) (g 1 2) (g 2 0) (b 2) (g 2 2),?_,qJg (qsH G00 B0 G02 G10 B1 G12 G20 B2 G22) A3⟩;rw[qgL,<-t0,<-t1,<-t2];unfold qB1;grind
   ·refine⟨qFf (g 0 0) (g 0 1) (b 0) (g 1 0) (g 1 1) (b 1) (g 2 0) (g 2 1) (b 2),?_,qJg (qsH G00 G01 B0 G10 G11 B1 G20 G21 B2) A3⟩;rw[qgL,<-t0,<-t1,<-t2];unfold qB1;grind
theorem qrN{A B:Nat->Rat}{m NA DA NB DB:Nat}(hA:∀k,k<m->bnd NA DA (A k))(hB:∀k,k<m->bnd NB DB (B k)) :
  ∀k,k<=m->bnd (NA+NB+1+k*(DA+DB+2)) (1+k*(DA+DB)) (su k fun k=>A k*B k)
 | 0,_=>q2c.mono (by omega) (by omega)
 | k+1,hk=>by
  have h:=qrN hA hB k (by omega);have e1:=qJt k 1 (DA+DB+2);have e2:=qJt k 1 (DA+DB);have e3:=Nat.mul_add k (DA+DB) 2;have:=h.add ((hA k (by omega)).mul (hB k (by omega))) (K:=NA+NB+1+(k+1)*(DA+DB+2)) (by omega) (by omega);exact this.mono (qJe _) (by omega)
theorem qCr{A B:Nat->Rat}{m NA DA NB DB:Nat}(hm:m<=1000)(hA:∀k,k<m->bnd NA DA (A k))(hB:∀k,k<m->bnd NB DB (B k))(hc:NA+NB+1+m*(DA+DB+2)<=1023){a b:R}(la:qk a=m)(lb:qk b=m)(ga:∀k,k<m->cS a (k:Int) 0=tQ (A k)) (gb:∀k,k<m->cS b (k:Int) 0=tQ (B k)):(qH [.r a,.r b]).run=some (0,[.s (tQ (su m fun k=>A k*B k)),.i 0]):=by
 have key:=zf (S:=qS) (fun k=>[.r b,.s (tQ (su k fun k=>A k*B k)),.r a,.i m,.i (k:Int)]) (0,[.s (tQ (su m fun k=>A k*B k))]) m (by omega) (fun k hk=>by
  rw[uH];have h:=qrN hA hB k (by omega);have e0:=qJD (DA+DB+2) (show k+1<=m by omega);have e1:=qJt k 1 (DA+DB+2);have e2:=qJt k 1 (DA+DB);have e3:=Nat.mul_add k (DA+DB) 2;simp only[STD,la,lb,ga k hk,gb k hk,qdN (hA k hk) (hB k hk) (by omega) (by omega),qdP h ((hA k hk).mul (hB k hk)) (by omega) (by omega) (by omega),kX hk (show m<9223372036854775808 by omega),
   show (k:Int)<m by omega,show (0:Int)<=k by omega,and_self]
  rfl) (by
  rw[uH];simp only[STD,show ¬(m:Int)<m by omega])
 have key':(qh qS [.r b,.s [48],.r a,.i (qk a),.i 0]).run=some (0,[.s (tQ (su m fun k=>A k*B k))]):=by rw[la];exact key
 rw[q6I];simp only[STD,key',zt key']
theorem qJ2(x y z:Bs):qk (txR [x,y,z])=((3:Nat):Int)/\cS (txR [x,y,z]) ((0:Nat):Int) 0=x/\cS (txR [x,y,z]) ((1:Nat):Int) 0=y/\cS (txR [x,y,z]) ((2:Nat):Int) 0=z:=⟨rfl,rfl,rfl,rfl⟩
theorem qHi(a b:V3):su 3 (fun k=>(if k=0 then a.x-b.x else if k=1 then a.y-b.y else a.z-b.z)*(if k=0 then a.x-b.x else if k=1 then a.y-b.y else a.z-b.z))=d2 a b:=by simp only[su,if_true,show (1=0)=False from eq_false (by decide),show (2=0)=False from eq_false (by decide),show (2=1)=False from eq_false (by decide),if_false];unfold d2;grind
structure CB (c:V3):Prop where
 x:bnd 42 36 c.x
 y:bnd 42 36 c.y
 z:bnd 42 36 c.z
def spV(x y z:Int):V3:=⟨(x:Rat),(y:Rat),(z:Rat)⟩
theorem qlI{c:Rat}{x:Int}(h:bnd 42 36 c)(hx:co x):bnd 44 37 (c-(x:Rat)):=h.sub (qtg hx) (by omega) (by omega)
theorem qxD{c:V3}{x y z:Int}(hc:CB c)(hx:co x)(hy:co y)(hz:co z):bnd 317 223 (d2 c (spV x y z)):=by
 have key:∀k,k<3->bnd 44 37 (if k=0 then c.x-(spV x y z).x else if k=1 then c.y-(spV x y z).y else c.z-(spV x y z).z):=fun k _=>by
  split
  ·exact qlI hc.x hx
  ·split
   ·exact qlI hc.y hy
   ·exact qlI hc.z hz
 rw[<-qHi];exact qrN key key 3 (by omega)
theorem qF7(X Y Z:Bs):uV (txR (([X,Y,Z]:List Bs).take 0)) [[.s X]]=txR (([X,Y,Z]:List Bs).take (0+1))/\uV (txR (([X,Y,Z]:List Bs).take 1)) [[.s Y]]=txR (([X,Y,Z]:List Bs).take (1+1)) /\uV (txR (([X,Y,Z]:List Bs).take 2)) [[.s Z]]=txR (([X,Y,Z]:List Bs).take (2+1))/\qk (txR (([X,Y,Z]:List Bs).take 0))=0/\qk (txR (([X,Y,Z]:List Bs).take 1))=1/\qk (txR (([X,Y,Z]:List Bs).take 2))=2 /\qk [[U.s X]]=1/\qk [[U.s Y]]=1/\qk [[U.s Z]]=1:=⟨rfl,rfl,rfl,rfl,rfl,rfl,rfl,rfl,rfl⟩
theorem qw4{x y z:Int}{cx cy cz X Y Z:Bs}(hx:co x)(hy:co y)(hz:co z)(sx:(zF [.s cx,.s (tQ (x:Rat))]).run=some (0,[.s X,.i 0]))(sy:(zF [.s cy,.s (tQ (y:Rat))]).run=some (0,[.s Y,.i 0]))(sz:(zF [.s cz,.s (tQ (z:Rat))]).run=some (0,[.s Z,.i 0])):(qh uT [.i x,.i y,.i z,.i 0,.s cx,.s cy,.s cz,.r []]).run=some (0,[.r (txR [X,Y,Z])]):=by
 obtain⟨t0,t1,t2,r0,r1,r2,q0,q1,q2⟩:=qF7 X Y Z;have key:=zf (S:=uT) (fun k=>[.i x,.i y,.i z,.i (k:Int),.s cx,.s cy,.s cz,.r (txR (([X,Y,Z]:List Bs).take k))]) (0,[.r (txR [X,Y,Z])]) 3 (by omega) (fun k hk=>by
   rw[qdh];rcases (show k=0\/k=1\/k=2 by omega) with rfl|rfl|rfl
   ·have e1:qz .i64 ((0:Nat):Int) 1=((0+1:Nat):Int):=by decide
    have e2:qzr [x,y,z] ((0:Nat):Int)=x:=rfl;simp only[STD,e1,e2,q32 (qh3 hx),sx,t0,r0,q0,show (((0:Nat):Int)<3)=True from eq_true (by decide),show ((0:Int)<=((0:Nat):Int))=True from eq_true (by decide),
     show (((0:Nat):Int)=2)=False from eq_false (by decide),show (((0:Nat):Int)=1)=False from eq_false (by decide),show (((0:Nat):Int)=0)=True from eq_true (by decide),and_self,show ((0:Int)+1<=8796093022208)=True from eq_true (by decide)]
   ·have e1:qz .i64 ((1:Nat):Int) 1=((1+1:Nat):Int):=by decide
    have e2:qzr [x,y,z] ((1:Nat):Int)=y:=rfl;simp only[STD,e1,e2,q32 (qh3 hy),sy,t1,r1,q1,show (((1:Nat):Int)<3)=True from eq_true (by decide),show ((0:Int)<=((1:Nat):Int))=True from eq_true (by decide),
     show (((1:Nat):Int)=2)=False from eq_false (by decide),show (((1:Nat):Int)=1)=True from eq_true (by decide),and_self,show ((1:Int)+1<=8796093022208)=True from eq_true (by decide)]
   ·have e1:qz .i64 ((2:Nat):Int) 1=((2+1:Nat):Int):=by decide
    have e2:qzr [x,y,z] ((2:Nat):Int)=z:=rfl;simp only[STD,e1,e2,q32 (qh3 hz),sz,t2,r2,q2,show (((2:Nat):Int)<3)=True from eq_true (by decide),show ((0:Int)<=((2:Nat):Int))=True from eq_true (by decide),
     show (((2:Nat):Int)=2)=True from eq_true (by decide),and_self,show ((2:Int)+1<=8796093022208)=True from eq_true (by decide)]) (by
   rw[qdh];simp only[STD,show (((3:Nat):Int)<3)=False from eq_false (by decide)];rfl)
 exact key
theorem qEf{c:V3}{x y z:Int}(hc:CB c)(hx:co x)(hy:co y)(hz:co z):(vU [.s (tQ c.x),.s (tQ c.y),.s (tQ c.z),.i x,.i y,.i z]).run=some (0,[.s (tQ (d2 c (spV x y z))),.i 0]):=by
 have key':=qw4 hx hy hz (q7q hc.x (qtg hx) (by omega) (by omega) (by omega)) (q7q hc.y (qtg hy) (by omega) (by omega) (by omega)) (q7q hc.z (qtg hz) (by omega) (by omega) (by omega));have kb:∀k,k<3->bnd 44 37 (if k=0 then c.x-(spV x y z).x else if k=1 then c.y-(spV x y z).y else c.z-(spV x y z).z):=fun k _=>by
  split
  ·exact qlI hc.x hx
  ·split
   ·exact qlI hc.y hy
   ·exact qlI hc.z hz
 obtain⟨l0,l1,l2,l3⟩:=qJ2 (tQ (c.x-(x:Rat))) (tQ (c.y-(y:Rat))) (tQ (c.z-(z:Rat)));have gg:∀k:Nat,k<3->cS (txR [tQ (c.x-(x:Rat)),tQ (c.y-(y:Rat)),tQ (c.z-(z:Rat))]) (k:Int) 0=tQ (if k=0 then c.x-(spV x y z).x else if k=1 then c.y-(spV x y z).y else c.z-(spV x y z).z):=fun k hk=>by
  rcases (show k=0\/k=1\/k=2 by omega) with rfl|rfl|rfl
  ·exact l1
  ·exact l2
  ·exact l3
 have ht:=qCr (m:=3) (by omega) kb kb (by decide) l0 l0 gg gg;rw[qHi] at ht;rw[qok];simp only[STD,qe0,key',zt key',ht]
variable {n:Nat}
theorem qw7{t:Nat->Rat}{n:Nat}(h:∀k,k<n->bnd 36 36 (t k)):∀k,k<=n->bnd (38*k+1) (36*k+1) (su k t)
 | 0,_=>q2c
 | k+1,hk=>by
  have:=(qw7 h k (by omega)).add (h k (by omega)) (K:=38*(k+1)+1) (by omega) (by omega);exact this.mono (qJe _) (by omega)
theorem qsG (F:Nat->Bs){k:Nat}(hk:k<n):cS (txR ((List.range n).map F)) (k:Int) 0=F k:=qAZ (by rw[qJo,qKa hk];rfl)
theorem qpC (n:Nat)(F:Nat->Bs):qk (txR ((List.range n).map F))=(n:Int):=by rw[qlg,qJm,qJV]
theorem qIH (hn:n<=3){t:Nat->Rat}(h:∀k,k<n->bnd 36 36 (t k)):(qau [.r (txR ((List.range n).map fun k=>tQ (t k)))]).run=some (0,[.s (tQ (su n t)),.i 0]):=by
 obtain⟨bl,hbl⟩:∃bl,bl=txR ((List.range n).map fun k=>tQ (t k)):=⟨_,rfl⟩;have lb:qk bl=(n:Int):=by rw[hbl,qpC]
 have gb:∀k,k<n->cS bl (k:Int) 0=tQ (t k):=fun k hk=>by rw[hbl];exact qsG (fun k=>tQ (t k)) hk
 have ck:(qA [.r bl]).run=some (0,[.i 0]):=by rw[hbl];exact qjF (by simp;omega) (fun s hs=>by obtain⟨k,hk,rfl⟩:=qK1.1 hs;exact q3m ((h k (qKu.1 hk)).ok (by omega) (by omega)))
 have key:=zf (S:=q1Q) (fun k=>[.s (tQ (su k t)),.r bl,.i n,.i (k:Int)]) (0,[.s (tQ (su n t))]) n (by omega) (fun k hk=>by
  rw[qfN];have sb:=qw7 h k (by omega);simp only[STD,lb,gb k hk,qdP sb (h k hk) (by omega) (by omega) (by omega),kX hk (show n<9223372036854775808 by omega),show (k:Int)<n by omega,show (0:Int)<=k by omega,and_self];rfl) (by
  rw[qfN];simp only[STD,show ¬(n:Int)<n by omega])
 have key':(qh q1Q [.s [48],.r bl,.i (n:Int),.i 0]).run=some (0,[.s (tQ (su n t))]):=key;rw[<-hbl,que];simp only[STD,ck,key',zt key',lb,show ¬(4096:Int)<n by omega]
theorem qnp {q:Rat}{P M:Int}{a b:Nat}(hM:M≠0)(h:q*(M:Rat)=(P:Rat))(hP:P.natAbs<10^(a+1))(hD:M.natAbs<10^(b+1)):bnd (a+1) (b+1) q:=by obtain⟨h1,h2⟩:=qI6 hM h;exact⟨q1A a _ (by omega),q1A b _ (by omega)⟩
theorem qCx (hn:n<=3){t:Nat->Rat}{D:Int}(hD:D.natAbs<=10^35)(h:∀i,i<n->∃T:Int,t i*(D:Rat)=(T:Rat)/\T.natAbs<=10^35):∀j,j<n+1->∃W:Int,wts t n j*(D:Rat)=(W:Rat)/\W.natAbs<=4*10^35:=by
 have sums:∀k,k<=n->∃W:Int,su k t*(D:Rat)=(W:Rat)/\W.natAbs<=k*10^35:=by
  intro k;induction k with
  | zero=>exact fun _=>⟨0,by simp only[su];rw[Rat.zero_mul];rfl,by simp⟩
  | succ k ih=>
   intro hk;obtain⟨W,e1,e2⟩:=ih (by omega);obtain⟨T,e3,e4⟩:=h k (by omega);refine⟨W+T,?_,?_⟩
   ·simp only[su];rw[Rat.add_mul,e1,e3,qKF]
   ·rw[qJt];omega
 intro j hj;unfold wts;by_cases e:j=0
 ·obtain⟨W,e1,e2⟩:=sums n (qJe _);refine⟨D-W,?_,?_⟩
  ·rw[if_pos e,qK6,<-e1];grind
  ·have:=qJD (10^35) hn;omega
 ·obtain⟨T,e3,e4⟩:=h (j-1) (by omega);exact⟨T,by rw[if_neg e];exact e3,by omega⟩
theorem qDB (hn:n<=3){w:Nat->Rat}{x:Nat->Int}{D:Int}(hx:∀j,j<n+1->co (x j))(h:∀j,j<n+1->∃W:Int,w j*(D:Rat)=(W:Rat)/\W.natAbs<=4*10^35) :∃C:Int,su (n+1) (fun j=>w j*(x j:Rat))*(D:Rat)=(C:Rat)/\C.natAbs<=16*10^40:=by
 have sums:∀k,k<=n+1->∃C:Int,su k (fun j=>w j*(x j:Rat))*(D:Rat)=(C:Rat)/\C.natAbs<=k*(4*10^40):=by
  intro k;induction k with
  | zero=>exact fun _=>⟨0,by simp only[su];rw[Rat.zero_mul];rfl,by simp⟩
  | succ k ih=>
   intro hk;obtain⟨C,e1,e2⟩:=ih (by omega);obtain⟨W,e3,e4⟩:=h k (by omega);refine⟨C+W*x k,?_,?_⟩
   ·simp only[su];rw[Rat.add_mul,e1,qKF,qJS,<-e3];grind
   ·have hc:=hx k (by omega);have:=q3Q e4 (show (x k).natAbs<=100000 by unfold co at hc;omega);rw[qJt];omega
 obtain⟨C,e1,e2⟩:=sums (n+1) (qJe _);refine⟨C,e1,?_⟩;exact qJg e2 (qJg (qJD (4*10^40) (show n+1<=4 by omega)) (by decide))
end Go.Eng

namespace Go.Eng
variable {l:R}
def axv(l:R)(a k:Nat):Int:=qzr [cI l (k:Int) 0,cI l (k:Int) 1,cI l (k:Int) 2] (a:Int)
theorem q7Y.ax (h:q7Y l){k:Nat}(hk:k<l.length){a:Nat}(ha:a<3):co (axv l a k):=by
 obtain⟨h1,h2,h3⟩:=h.row hk;rcases (show a=0\/a=1\/a=2 by omega) with rfl|rfl|rfl
 ·exact h1
 ·exact h2
 ·exact h3
theorem qlV {m a:Nat}(h:q7Y l)(hl:l.length=m)(ha:a<3)(s1 s2 s3 s4 t1 t2 t3 t4:Bs)(wl:R) :(qh jv [.r l,.i a,.i a,.r l,.i m,.i 0,.s s1,.s s2,.s s3,.s s4,.r wl,.s t1,.s t2,.s t3,.s t4,.r []]).run = some (0,[.r l,.i a,.i a,.s s1,.s s2,.s s3,.s s4,.r wl,.s t1,.s t2,.s t3,.s t4,.r (txR ((List.range m).map fun k=>tQ (axv l a k:Rat)))]):=by
 have hm:m<=64:=by have:=h.1;omega
 have hL:qk l=(m:Int):=by unfold qk;rw[hl]
 have key:=zf (S:=jv) (fun k=>[.r l,.i a,.i a,.r l,.i m,.i (k:Int),.s s1,.s s2,.s s3,.s s4,.r wl,.s t1,.s t2,.s t3,.s t4,.r (txR ((List.range k).map fun k=>tQ (axv l a k:Rat)))])
  (0,[.r l,.i a,.i a,.s s1,.s s2,.s s3,.s s4,.r wl,.s t1,.s t2,.s t3,.s t4,.r (txR ((List.range m).map fun k=>tQ (axv l a k:Rat)))]) m (by omega) (fun k hk=>by
   rw[q8U];have e0:qzr [cI l (k:Int) 0,cI l (k:Int) 1,cI l (k:Int) 2] (a:Int)=axv l a k:=rfl;have e1:txR ((List.range (k+1)).map fun k=>tQ (axv l a k:Rat))=uV (txR ((List.range k).map fun k=>tQ (axv l a k:Rat))) [[.s (tQ (axv l a k:Rat))]]:=by rw[qnF,qoH,qKS,qJK];rfl
   have e3:qk [[U.s (tQ (axv l a k:Rat))]]=1:=rfl;simp only[STD,qe0,hL,e0,q32 (qh3 (h.ax (show k<l.length by omega) ha)),kX hk (show m<9223372036854775808 by omega),e1,e3,qlg,qJm,qJV,show (k:Int)<m by omega,
    show (a:Int)<3 by omega,show (0:Int)<=a by omega,show (k:Int)+1<=8796093022208 by omega,show (0:Int)<=k by omega,and_self]) (by
   rw[q8U];simp only[STD,show ¬(m:Int)<m by omega])
 exact key
theorem qya {m:Nat}(h:q7Y l)(hl:l.length=m)(hm:m<=4){w:Nat->Rat}(hw:∀k,k<m->bnd 36 36 (w k))(s1 s2 s3 s4:Bs) :(qh jt [.r l,.i 0,.s s1,.s s2,.s s3,.s s4,.r (txR ((List.range m).map fun k=>tQ (w k))),.s [],.s [],.s [],.s []]).run = some (0,[.r l,.s s1,.s s2,.s s3,.s s4,.r (txR ((List.range m).map fun k=>tQ (w k))),.s (tQ (cen m w (pV l)).x),.s (tQ (cen m w (pV l)).y),.s (tQ (cen m w (pV l)).z),.s []]):=by
 obtain⟨wl,hwl⟩:∃wl,wl=txR ((List.range m).map fun k=>tQ (w k)):=⟨_,rfl⟩;have hL:qk l=(m:Int):=by unfold qk;rw[hl]
 have lw:qk wl=(m:Int):=by rw[hwl,qpC]
 have gw:∀k,k<m->cS wl (k:Int) 0=tQ (w k):=fun k hk=>by rw[hwl];exact qsG (fun k=>tQ (w k)) hk
 rw[<-hwl];have tot:∀a,a<3->(qH [.r wl,.r (txR ((List.range m).map fun k=>tQ (axv l a k:Rat)))]).run=some (0,[.s (tQ (su m fun k=>w k*(axv l a k:Rat))),.i 0]):=fun a ha=>
  qCr (by omega) hw (fun k hk=>qtg (h.ax (show k<l.length by omega) ha)) (by omega) lw (qpC _ _) gw (fun k hk=>qsG (fun k=>tQ (axv l a k:Rat)) hk)
 have q0:=tot 0 (by omega);have q1:=tot 1 (by omega);have q2:=tot 2 (by omega);have key:=zf (S:=jt) (fun a=>[.r l,.i (a:Int),.s s1,.s s2,.s s3,.s s4,.r wl,.s (if 0<a then tQ (su m fun k=>w k*(axv l 0 k:Rat)) else []),.s (if 1<a then tQ (su m fun k=>w k*(axv l 1 k:Rat)) else []),.s (if 2<a then tQ (su m fun k=>w k*(axv l 2 k:Rat)) else []),.s []])
  (0,[.r l,.s s1,.s s2,.s s3,.s s4,.r wl,.s (tQ (su m fun k=>w k*(axv l 0 k:Rat))),.s (tQ (su m fun k=>w k*(axv l 1 k:Rat))),.s (tQ (su m fun k=>w k*(axv l 2 k:Rat))),.s []]) 3 (by omega) (fun a ha=>by
   rw[q8P];rcases (show a=0\/a=1\/a=2 by omega) with rfl|rfl|rfl
   ·simp only[STD,hL,qlV h hl ha,q0];rfl
   ·simp only[STD,hL,qlV h hl ha,q1];rfl
   ·simp only[STD,hL,qlV h hl ha,q2];rfl) (by
   rw[q8P];simp only[STD];rfl)
 exact key
end Go.Eng

namespace Go.Eng
theorem qCN(n:Nat)(t:Nat->Rat):uV [[.s (tQ (1-su n t))]] (txR ((List.range n).map fun k=>tQ (t k)))=txR ((List.range (n+1)).map fun j=>tQ (wts t n j)):=by rw[qnF,qoH,List.range_succ_eq_map,qKi,List.map_map];rfl
theorem qDX{l:R}{n:Nat}(h:q7Y l)(hl:l.length=n+1)(hn:n<=3) :(∃t,Bl n (pV l) t/\(∀j,j<n+1->bnd 36 36 (wts t n j))/\CB (cen (n+1) (wts t n) (pV l)) /\(ka [.r l]).run=some (0,[.s (tQ (cen (n+1) (wts t n) (pV l)).x),.s (tQ (cen (n+1) (wts t n) (pV l)).y),.s (tQ (cen (n+1) (wts t n) (pV l)).z),.s (tQ (d2 (cen (n+1) (wts t n) (pV l)) (pV l 0))),.r (txR ((List.range (n+1)).map fun j=>tQ (wts t n j))),.b true,.i 0])) \/(¬Ind (n+1) (pV l)/\(ka [.r l]).run=some (0,[.s [],.s [],.s [],.s [],.r [],.b false,.i 0])):=by
 have hL:qk l=((n+1:Nat):Int):=by unfold qk;rw[hl]
 have w0:yM .i64 ((n+1:Nat):Int) 1=(n:Int):=by rw[jj (by omega)];omega
 have bd:∀i k,i<n->k<n->-120000000000<=dI l (i+1) (k+1)/\dI l (i+1) (k+1)<=120000000000:=fun i k hi hk=>qFe h (by omega) (by omega);have bg:∀i k,i<n->k<n->(gI2 l i k).natAbs<=240000000000:=fun i k hi hk=>by have:=bd i k hi hk;unfold gI2;omega
 have r0:=qAh h hl [] [] [] [];have r1:=qva (n:=n) (L:=rI (mkI (gI2 l) n n)) (g:=gI2 l) (by omega) (by unfold rI;rw[qJm,qmj]) (fun i k hi hk=>qHw _ hi hk) (fun i k hi hk=>by have:=bg i k hi hk;omega);rcases qAi hn (G:=fun i k=>(gI2 l i k:Rat)) (fun i k hi hk=>qsb (qIe (by have:=bg i k hi hk;omega) (by omega)) (by omega)) with⟨N,g1,g2,g3⟩|⟨g1,g3⟩
 ·left;have eg:(fun i k=>(gI2 l i k:Rat))=qsC (pV l):=by funext i k;exact qxq l i k
  have eb:(fun k=>d2 (pV l 0) (pV l (k+1)))=fun k=>(dI l (k+1) (k+1):Rat):=by funext k;exact(qH8 l k).symm
  obtain⟨t,et⟩:∃t,t=qHS n N fun k=>(dI l (k+1) (k+1):Rat):=⟨_,rfl⟩;have bl:Bl n (pV l) t:=by rw[eg] at g1;have:=qGF g1;rw[eb] at this;rw[et];exact this
  obtain⟨D,d0,d1,d2'⟩:=qGZ hn (g:=gI2 l) (b:=fun i=>dI l (i+1) (i+1)) (N:=fun k j=>N k (n+j)) (t:=t) (fun i k hi hk=>bg i k hi hk)
   (fun i hi=>by have:=bd i i hi hi;show _<=240000000000;omega) (fun i j hi hj=>qBz g1 hi hj) (fun i hi=>by rw[et];exact qC9 g1 _ hi)
  have tb:∀k,k<n->bnd 36 36 (t k):=fun k hk=>by obtain⟨T,e1,e2⟩:=d2' k hk;exact qnp (a:=35) (b:=35) d0 e1 (qL7 e2 (by decide)) (qL7 d1 (by decide))
  have wf:=qCx hn d1 d2';have wb:∀j,j<n+1->bnd 36 36 (wts t n j):=fun j hj=>by obtain⟨W,e1,e2⟩:=wf j hj;exact qnp (a:=35) (b:=35) d0 e1 (qL7 e2 (by decide)) (qL7 d1 (by decide))
  have cb:∀x:Nat->Int,(∀j,j<n+1->co (x j))->bnd 42 36 (su (n+1) fun j=>wts t n j*(x j:Rat)):=fun x hx=>by obtain⟨C,e1,e2⟩:=qDB hn hx wf;exact qnp (a:=41) (b:=35) d0 e1 (qL7 e2 (by decide)) (qL7 d1 (by decide))
  have hCB:CB (cen (n+1) (wts t n) (pV l)):=⟨cb _ fun j hj=>(h.row (show j<l.length by omega)).1,cb _ fun j hj=>(h.row (show j<l.length by omega)).2.1,cb _ fun j hj=>(h.row (show j<l.length by omega)).2.2⟩;refine⟨t,bl,wb,hCB,?_⟩;have r3:=qFS hn (V:=fun i k=>N i (n+k)) (B:=fun k=>(dI l (k+1) (k+1):Rat)) (fun i k hi hk=>g2 i (n+k) hi (by omega)) (fun k hk=>qsb (qIe (by have:=bd k k hk hk;omega) (by omega)) (by omega));have e3:(fun i=>tQ (su n fun k=>N i (n+k)*(dI l (k+1) (k+1):Rat)))=fun i=>tQ (t i):=by rw[et];rfl
  rw[e3] at r3;have r4:=qIH hn tb;have sb:=qw7 tb n (qJe _);have r5:=q7q qwh sb (by omega) (by omega) (by omega);rw[show tQ 1=([49]:Bs) by decide] at r5;have r6:=qya h hl (by omega) wb [] [] [] [];obtain⟨c,hc⟩:∃c,c=cen (n+1) (wts t n) (pV l):=⟨_,rfl⟩;rw[<-hc] at r6 hCB ⊢;obtain⟨z1,z2,z3⟩:=h.row0 (show 0<l.length by omega);have r7:(vU [.s (tQ c.x),.s (tQ c.y),.s (tQ c.z),.i (cI l 0 0),.i (cI l 0 1),.i (cI l 0 2)]).run=some (0,[.s (tQ (d2 c (pV l 0))),.i 0]):=qEf hCB z1 z2 z3;have e5:qk [[U.s (tQ (1-su n t))]]=1:=rfl;have e6:=qCN n t;rw[qdI];simp only[STD,w0,r0,r1,g3,r3,r4,r5,e5,e6,qpC,r6,zt r6,r7,hL,show (1:Int)+n<=8796093022208 by omega,show (0:Int)<((n+1:Nat):Int) by omega];rw[if_neg (by decide),if_pos ⟨by decide,trivial⟩]
 ·right;have eg:(fun i k=>(gI2 l i k:Rat))=qsC (pV l):=by funext i k;exact qxq l i k
  refine⟨by rw[eg] at g1;exact qE0 g1,?_⟩;rw[qdI];simp only[STD,hL,w0,r0,r1,g3]
theorem quV{a:Rat}(h:okQ a):(q5o [.s (tQ a)]).run=some (0,[.i (sgn a.num),.i 0]):=by
 have e1:(q6v [.s (tQ a)]).run=some (0,[.s (tI a.num),.s (tI (a.den:Int)),.i 0]):=by rw[qqq];simp only[STD,q3m h,q6O h]
 rw[qrz];simp only[STD,e1,qmM (q26 h)]
theorem qfX{N D N' D':Nat}{a b:Rat}(ha:bnd N D a)(hb:bnd N' D' b)(h1:N+D'<=1023)(h2:N'+D<=1023) :(zJ [.s (tQ a),.s (tQ b)]).run=some (0,[.i (sgn (a.num*(b.den:Int)-b.num*(a.den:Int))),.i 0]):=by
 have p1:=qkQ a;have p2:=qkQ b;have p3:=qqQ a;have p4:=qqQ b;have oa:okQ a:=⟨by have:=ha.1;have:=hb.2;omega,by have:=ha.2;have:=hb.1;omega⟩;have ob:okQ b:=⟨by have:=hb.1;have:=ha.2;omega,by have:=ha.1;have:=hb.2;omega⟩;have k1:okL (a.num*(b.den:Int)):=q8d ha.1 hb.2 (by omega);have k2:okL (b.num*(a.den:Int)):=q8d hb.1 ha.2 (by omega);have m1:=qa2 (q26 oa) (uL ob) k1;have m2:=qa2 (q26 ob) (uL oa) k2;have m1':(qf [.r [[.s (tI a.num)],[.s (tI (b.den:Int))]],.i 0]).run=some (0,[.s (tI (a.num*(b.den:Int))),.i 0]):=m1;have m2':(qf [.r [[.s (tI b.num)],[.s (tI (a.den:Int))]],.i 0]).run=some (0,[.s (tI (b.num*(a.den:Int))),.i 0]):=m2;have hch:=qjF (l:=[tQ a,tQ b]) (by simp) (fun s hs=>by
  simp only[qJi,qKx,or_false] at hs;rcases hs with rfl|rfl
  ·exact q3m oa
  ·exact q3m ob)
 have hch':(qA [.r [[.s (tQ a)],[.s (tQ b)]]]).run=some (0,[.i 0]):=hch;rw[qni];simp only[STD,hch',q6O oa,q6O ob,m1',m2',qgY k1 k2]
theorem qEK{m:Int}:sgn m<0↔m<0:=by unfold sgn;split<;>(try split)<;>omega
theorem qEA{m:Int}:0<sgn m↔0<m:=by unfold sgn;split<;>(try split)<;>omega
theorem qHg{a:Rat}:a.num<0↔a<0:=by rw[<-Rat.not_le,<-Rat.num_nonneg];omega
theorem qER{a b:Rat}:0<a.num*(b.den:Int)-b.num*(a.den:Int)↔b<a:=by rw[Rat.lt_iff];omega
theorem qkg{α:Type}{f:Nat->Option α}:∀{k i:Nat} {r:α},q1C f i k=some r->∃j,i<=j/\j<i+k/\f j=some r
 | 0,i,r,h=>by simp[q1C] at h
 | k+1,i,r,h=>by
  simp only[q1C] at h;cases hf:f i with
  | some a=>
   rw[hf] at h;exact⟨i,by omega,by omega,by rw[hf];exact h⟩
  | none=>
   rw[hf] at h;obtain⟨j,h1,h2,h3⟩:=qkg h;exact⟨j,by omega,by omega,h3⟩
theorem qDe{n:Nat}(hn:n<=1000){w:Nat->Rat}(hw:∀k,k<n->okQ (w k)) :∃b,(qV [.r (txR ((List.range n).map fun k=>tQ (w k)))]).run=some (0,[.b b])/\(b=true↔∃k,k<n/\w k<0):=by
 obtain⟨x,hx⟩:∃x,x=txR ((List.range n).map fun k=>tQ (w k)):=⟨_,rfl⟩;have lx:qk x=(n:Int):=by rw[hx,qpC]
 have gx:∀k,k<n->cS x (k:Int) 0=tQ (w k):=fun k hk=>by rw[hx];exact qsG (fun k=>tQ (w k)) hk
 have one:∀k,k<n->(qX [.s (tQ (w k))]).run=some (0,[.b (decide (w k<0))]):=fun k hk=>by rw[qb5];simp only[STD,quV (hw k hk)];rw[show ilt (sgn (w k).num) 0=decide (w k<0) from decide_eq_decide.2 (qEK.trans qHg)]
 have key:=q4o (S:=qF) (fun k=>[.r x,.i n,.i (k:Int)]) (fun k=>if w k<0 then some (1,[.i (k:Int)]) else none) (0,[]) n (by omega)
  (fun k hk hf=>by
   have h0:¬w k<0:=fun h=>by rw[if_pos h] at hf;cases hf
   rw[wC];simp only[STD,lx,gx k hk,one k hk,h0,kX hk (show n<9223372036854775808 by omega),show (k:Int)<n by omega,show (0:Int)<=k by omega,and_self])
  (fun k r hk hf=>by
   have h0:w k<0:=qJZ fun h=>by rw[if_neg h] at hf;cases hf
   rw[if_pos h0] at hf;cases hf;rw[wC];simp only[STD,lx,gx k hk,one k hk,h0,show (k:Int)<n by omega,show (0:Int)<=k by omega,and_self])
  (by rw[wC];simp only[STD,show ¬(n:Int)<n by omega])
 rw[<-hx,q31];cases hs:q1C (fun k=>if w k<0 then some (1,[PV.i (k:Int)]) else (none:Option (Nat×List PV))) 0 n with
 | none=>
  rw[hs] at key;have key':(qh qF [.r x,.i n,.i 0]).run=some (0,[]):=key;have r:(qP [.r x]).run=some (0,[.i (-1)]):=by rw[um];simp only[STD,lx,key',zt key']
  refine⟨false,by simp only[STD,r];rfl,⟨fun h=>(by cases h),fun⟨k,hk,h⟩=>?_⟩⟩;have:=kt hs k (by omega) (by omega);simp only[if_pos h] at this;cases this
 | some r=>
  rw[hs] at key;obtain⟨k,h1,h2,h3⟩:=qkg hs;have h0:w k<0:=qJZ fun h=>by simp only[if_neg h] at h3;cases h3
  simp only[if_pos h0] at h3;cases h3;have key':(qh qF [.r x,.i n,.i 0]).run=some (1,[.i (k:Int)]):=key;have r:(qP [.r x]).run=some (0,[.i (k:Int)]):=by rw[um];simp only[STD,lx,key',zt key',show ¬((1:Nat)=0) by decide]
  refine⟨true,?_,⟨fun _=>⟨k,by omega,h0⟩,fun _=>rfl⟩⟩;simp only[STD,r];rw[show ile 0 (k:Int)=true from by simp[ile]]
theorem qDS{n:Nat}(hn:n<=1000){w:Nat->Rat}(hw:∀k,k<n->okQ (w k))(s1 s2 s3 s4:Bs) :∃b,(vZ [.s s1,.s s2,.s s3,.s s4,.r (txR ((List.range n).map fun k=>tQ (w k)))]).run=some (0,[.b b])/\(b=true↔∀k,k<n->0<=w k):=by
 obtain⟨b,h1,h2⟩:=qDe hn hw;refine⟨!b,by rw[qdd];simp only[STD,h1],?_⟩;constructor
 ·intro h k hk;apply Rat.not_lt.1;intro hl;have:=h2.2 ⟨k,hk,hl⟩;rw[this] at h;cases h
 ·intro h;cases b with
  | false=>rfl
  | true=>
   obtain⟨k,hk,hl⟩:=h2.1 rfl;exact absurd (h k hk) (Rat.not_le.2 hl)
theorem qyC{l:R}(h:q7Y l){c:V3}(hc:CB c){s:Rat}(hs:bnd 317 223 s)(wl:R) :∃b,(wW [.s (tQ c.x),.s (tQ c.y),.s (tQ c.z),.s (tQ s),.r wl,.r l]).run=some (0,[.b b,.i 0])/\(b=true↔∀k,k<l.length->d2 c (pV l k)<=s):=by
 have hl:=h.1;have lx:qk l=(l.length:Int):=rfl;have aw:∀k,k<l.length->(vU [.s (tQ c.x),.s (tQ c.y),.s (tQ c.z),.i (cI l (k:Int) 0),.i (cI l (k:Int) 1),.i (cI l (k:Int) 2)]).run=some (0,[.s (tQ (d2 c (pV l k))),.i 0]):=fun k hk=>by obtain⟨h1,h2,h3⟩:=h.row hk;exact qEf hc h1 h2 h3
 have cp:∀k,k<l.length->(zJ [.s (tQ (d2 c (pV l k))),.s (tQ s)]).run=some (0,[.i (sgn ((d2 c (pV l k)).num*(s.den:Int)-s.num*((d2 c (pV l k)).den:Int))),.i 0]):=fun k hk=>by obtain⟨h1,h2,h3⟩:=h.row hk;exact qfX (qxD hc h1 h2 h3) hs (by omega) (by omega)
 have key:=q4o (S:=z7) (fun k=>[.r l,.i l.length,.i (k:Int),.s (tQ c.x),.s (tQ c.y),.s (tQ c.z),.s (tQ s),.r wl]) (fun k=>if s<d2 c (pV l k) then some (1,[.b false,.i 0]) else none) (0,[]) l.length (by omega)
  (fun k hk hf=>by
   have h0:¬s<d2 c (pV l k):=fun h=>by rw[if_pos h] at hf;cases hf
   rw[yO];simp only[STD,lx,aw k hk,cp k hk,qEA,qER,h0,kX hk (show l.length<9223372036854775808 by omega),show (k:Int)<l.length by omega,show (0:Int)<=k by omega,and_self])
  (fun k r hk hf=>by
   have h0:s<d2 c (pV l k):=qJZ fun h=>by rw[if_neg h] at hf;cases hf
   rw[if_pos h0] at hf;cases hf;rw[yO];simp only[STD,lx,aw k hk,cp k hk,qEA,qER,h0,show (k:Int)<l.length by omega,show (0:Int)<=k by omega,and_self])
  (by rw[yO];simp only[STD,show ¬(l.length:Int)<l.length by omega])
 rw[qbe];cases hs:q1C (fun k=>if s<d2 c (pV l k) then some (1,[PV.b false,.i 0]) else (none:Option (Nat×List PV))) 0 l.length with
 | none=>
  rw[hs] at key;have key':(qh z7 [.r l,.i l.length,.i 0,.s (tQ c.x),.s (tQ c.y),.s (tQ c.z),.s (tQ s),.r wl]).run=some (0,[]):=key;refine⟨true,by simp only[STD,lx,key',zt key'],⟨fun _ k hk=>?_,fun _=>rfl⟩⟩;apply Rat.not_lt.1;intro h0;have:=kt hs k (by omega) (by omega);simp only[if_pos h0] at this;cases this
 | some r=>
  rw[hs] at key;obtain⟨k,h1,h2,h3⟩:=qkg hs;have h0:s<d2 c (pV l k):=qJZ fun h=>by simp only[if_neg h] at h3;cases h3
  simp only[if_pos h0] at h3;cases h3;have key':(qh z7 [.r l,.i l.length,.i 0,.s (tQ c.x),.s (tQ c.y),.s (tQ c.z),.s (tQ s),.r wl]).run=some (1,[.b false,.i 0]):=key;refine⟨false,by simp only[STD,lx,key',zt key'];rfl,⟨fun h=>(by cases h),fun h=>?_⟩⟩;exact absurd (h k (by omega)) (Rat.not_le.2 h0)
variable {L:List Nat}{l:R}
def rN(L:List Nat):R:=rI (L.map fun k:Nat=>(k:Int))
def chR(l:R)(L:List Nat):R:=L.map fun k:Nat=>[.i (cI l (k:Int) 0),.i (cI l (k:Int) 1),.i (cI l (k:Int) 2)]
theorem qik (L:List Nat):qk (rN L)=(L.length:Int):=by unfold rN;rw[qgT,qJm]
theorem qEL {j k:Nat}(h:L[j]?=some k):cI (rN L) (j:Int) 0=(k:Int):=by unfold rN;rw[qAn,qJq,qJd,qJo,h];rfl
theorem ql1 (l:R)(L:List Nat):(chR l L).length=L.length:=by unfold chR;rw[qJm]
theorem qCK (hL:L.length<=1000)(h:∀k,k∈L->k<l.length):(q1G [.r l,.r (rN L)]).run=some (0,[.r (chR l L)]):=by
 have key:=zf (S:=ya) (fun j=>[.r l,.r (rN L),.i L.length,.i (j:Int),.r (chR l (L.take j))]) (0,[.r (chR l L)]) L.length (by omega) (fun j hj=>by
  obtain⟨k,hk⟩:∃k,L[j]?=some k:=⟨L[j],qJk hj⟩;have hkl:=h k (qKt hk);have e1:chR l (L.take (j+1))=uV (chR l (L.take j)) [[.i (cI l (k:Int) 0),.i (cI l (k:Int) 1),.i (cI l (k:Int) 2)]]:=by unfold chR uV;rw[List.take_add_one,hk,qJK];rfl
  have e2:qk (chR l (L.take j))=(j:Int):=by unfold qk;rw[ql1,qK8,qKs (by omega)]
  have e3:qk [[U.i (cI l (k:Int) 0),.i (cI l (k:Int) 1),.i (cI l (k:Int) 2)]]=1:=rfl;have e4:qk l=(l.length:Int):=rfl;rw[qaM];simp only[STD,qik,qEL hk,e1,e2,e3,e4,kX hj (show L.length<9223372036854775808 by omega),show (j:Int)<L.length by omega,show (0:Int)<=j by omega,show (0:Int)<=k by omega,show (k:Int)<l.length by omega,
   show (j:Int)+1<=5864062014805 by omega,and_self]) (by
  rw[qaM];simp only[STD,show ¬(L.length:Int)<L.length by omega,qKw])
 have key':(qh ya [.r l,.r (rN L),.i (L.length:Int),.i 0,.r []]).run=some (0,[.r (chR l L)]):=key;rw[qlF];simp only[STD,qik,key']
theorem qzV {j k:Nat}(h:L[j]?=some k):cI (chR l L) (j:Int) 0=cI l (k:Int) 0/\cI (chR l L) (j:Int) 1=cI l (k:Int) 1/\cI (chR l L) (j:Int) 2=cI l (k:Int) 2:=by
 have e:(chR l L).getD ((j:Int).toNat) []=[.i (cI l (k:Int) 0),.i (cI l (k:Int) 1),.i (cI l (k:Int) 2)]:=by unfold chR;rw[qJq,qJd,qJo,h];rfl
 refine⟨?_,?_,?_⟩<;>(conv=>lhs;unfold cI wy)<;>rw[e]<;>rfl
theorem qA3 (hs:q7Y l)(hL:L.length<=64)(h:∀k,k∈L->k<l.length):q7Y (chR l L):=by refine⟨by rw[ql1];exact hL,fun j hj=>?_⟩;rw[ql1] at hj;obtain⟨k,hk⟩:∃k,L[j]?=some k:=⟨L[j],qJk hj⟩;obtain⟨e1,e2,e3⟩:=qzV (l:=l) hk;have:=hs.2 k (h k (qKt hk));unfold qFa at this ⊢;rw[e1,e2,e3];exact this
def Lf(l:R)(L:List Nat)(j:Nat):Nat:=L.getD j l.length
theorem qEU (l:R)(L:List Nat):pV (chR l L)=fun j=>pV l (Lf l L j):=by
 funext j;unfold pV Lf;cases h:L[j]? with
 | some k=>
  obtain⟨e1,e2,e3⟩:=qzV (l:=l) h;rw[e1,e2,e3,qJd,h];rfl
 | none=>
  have h1:=List.getElem?_eq_none_iff.1 h;have e:(chR l L).getD ((j:Int).toNat) []=[]:=by rw[qJq,qJd,qJC (by rw[ql1];exact h1)];rfl
  have e':l.getD (((l.length:Nat):Int).toNat) []=[]:=by rw[qJq,qJd,qJC (qJe _)];rfl
  rw[qJd,h];show V3.mk _ _ _=V3.mk _ _ _;unfold cI wy;simp only[Option.getD_none];rw[e,e']
def qvq(p:Nat->V3)(m n:Nat)(L:Nat->Nat)(t:Nat->Rat):Prop:=Bl n (fun j=>p (L j)) t/\(∀j,j<n+1->0<=wts t n j)/\∀i,i<m->d2 (cen (n+1) (wts t n) fun j=>p (L j)) (p i)<=d2 (cen (n+1) (wts t n) fun j=>p (L j)) (p (L 0))
theorem qxF {n:Nat}{c:Nat->V3}{t t':Nat->Rat}(h:Bl n c t)(h':Bl n c t'):∀j,j<n+1->wts t n j=wts t' n j:=fun j hj=>by
 unfold wts;have:=qFw h h';rw[qo this];by_cases e:j=0
 ·rw[if_pos e,if_pos e]
 ·rw[if_neg e,if_neg e];exact this (j-1) (by omega)
theorem qpk {n:Nat}{w w':Nat->Rat}{c:Nat->V3}(h:∀j,j<n->w j=w' j):cen n w c=cen n w' c:=by
 have e:∀f:Nat->Rat,su n (fun j=>w j*f j)=su n fun j=>w' j*f j:=fun f=>qo fun j hj=>by rw[h j hj]
 unfold cen;rw[e,e,e]
end Go.Eng

namespace Go.Eng
theorem qBf{l:R}(h:q7Y l){c:V3}(hc:CB c){k:Nat}(hk:k<l.length):bnd 317 223 (d2 c (pV l k)):=by obtain⟨h1,h2,h3⟩:=h.row hk;exact qxD hc h1 h2 h3
theorem qAu{p:Nat->V3}{m n:Nat}{L:Nat->Nat}{t t':Nat->Rat}(h:qvq p m n L t)(h':Bl n (fun j=>p (L j)) t'):qvq p m n L t':=by
 have e:=qxF h.1 h';have ec:=qpk (c:=fun j=>p (L j)) e;refine⟨h',fun j hj=>?_,fun i hi=>?_⟩
 ·rw[<-e j hj];exact h.2.1 j hj
 ·rw[<-ec];exact h.2.2 i hi
theorem qol{l:R}(hs:q7Y l){L:List Nat}{n:Nat}(hL:L.length=n+1)(hn:n<=3)(hlt:∀k,k∈L->k<l.length) :(∃t,qvq (pV l) l.length n (Lf l L) t/\(∀j,j<n+1->bnd 36 36 (wts t n j))/\CB (cen (n+1) (wts t n) fun j=>pV l (Lf l L j)) /\(zW [.r l,.r (rN L)]).run=some (0,[.s (tQ (cen (n+1) (wts t n) fun j=>pV l (Lf l L j)).x),.s (tQ (cen (n+1) (wts t n) fun j=>pV l (Lf l L j)).y),.s (tQ (cen (n+1) (wts t n) fun j=>pV l (Lf l L j)).z),.s (tQ (d2 (cen (n+1) (wts t n) fun j=>pV l (Lf l L j)) (pV l (Lf l L 0)))),.r (txR ((List.range (n+1)).map fun j=>tQ (wts t n j))),.b true,.i 0])) \/((∀t,¬qvq (pV l) l.length n (Lf l L) t)/\∃s1 s2 s3 s4 wl,(zW [.r l,.r (rN L)]).run=some (0,[.s s1,.s s2,.s s3,.s s4,.r wl,.b false,.i 0])):=by
 have ch:=qCK (l:=l) (L:=L) (by omega) hlt;have sp:=qA3 hs (show L.length<=64 by omega) hlt;have key:=qDX sp (n:=n) (by rw[ql1];exact hL) hn;rw[qEU] at key;rcases key with⟨t,h1,h2,h3,h4⟩|⟨h1,h4⟩
 ·obtain⟨c,hc⟩:∃c,c=cen (n+1) (wts t n) fun j=>pV l (Lf l L j):=⟨_,rfl⟩;have l0:Lf l L 0<l.length:=by unfold Lf;rw[qJd,qJk (show 0<L.length by omega)];exact hlt _ (qJT _)
  rw[<-hc] at h3 h4;have fb:=qBf hs h3 l0;obtain⟨b1,i1,i2⟩:=qDS (show n+1<=1000 by omega) (w:=wts t n) (fun k hk=>(h2 k hk).ok (by omega) (by omega)) (tQ c.x) (tQ c.y) (tQ c.z) (tQ (d2 c (pV l (Lf l L 0))));obtain⟨b2,j1,j2⟩:=qyC hs h3 fb (txR ((List.range (n+1)).map fun j=>tQ (wts t n j)));have nope:(b1=false\/b2=false)->∀t',¬qvq (pV l) l.length n (Lf l L) t':=fun hb t' ht'=>by
   have hh:=qAu ht' h1;unfold qvq at hh;rw[<-hc] at hh;rcases hb with e|e
   ·rw[i2.2 hh.2.1] at e;cases e
   ·rw[j2.2 hh.2.2] at e;cases e
  rw[q8Q];cases b1 with
  | false=>
   right;refine⟨nope (Or.inl rfl),[],[],[],[],[],?_⟩;simp only[STD,ch,h4,i1]
  | true=>
   cases b2 with
   | false=>
    right;refine⟨nope (Or.inr rfl),tQ c.x,tQ c.y,tQ c.z,tQ (d2 c (pV l (Lf l L 0))),txR ((List.range (n+1)).map fun j=>tQ (wts t n j)),?_⟩;simp only[STD,ch,h4,i1,j1]
   | true=>
    left;refine⟨t,⟨h1,i2.1 rfl,?_⟩,h2,by rw[<-hc];exact h3,?_⟩
    ·rw[<-hc];exact j2.1 rfl
    ·rw[<-hc];simp only[STD,ch,h4,i1,j1]
 ·right;refine⟨fun t ht=>h1 ht.1.ind,[],[],[],[],[],?_⟩;rw[q8Q];simp only[STD,ch,h4]
structure NxOk (P:Nat->Nat->Rat) (n C c:Nat):Prop where
 cell:∀i j,i<n->j<C->sm 100000 (P i j)
 quo:∀j,j<C->sm 100000 (P c j/P c c)
 prod:∀i j,i<n->j<C->sm 100000 (P i c*(P c j/P c c))
variable {l:R}
theorem qxc {m:Nat}{p:Nat->V3}{n:Nat}{L:Nat->Nat}{t:Nat->Rat}(h:qvq p m n L t)(lt:∀j,j<n+1->L j<m)(asc:Asc (n+1) L) :Sup m p (n+1) L (wts t n) (d2 (cen (n+1) (wts t n) fun j=>p (L j)) (p (L 0))):=qE3 h.1 lt asc h.2.1 h.2.2
theorem qDb {m:Nat}{p:Nat->V3}{n:Nat}{L:Nat->Nat}{u:Nat->Rat}{s:Rat}(h:Sup m p (n+1) L u s):qvq p m n L (fun j=>u (j+1)):=by
 obtain⟨b,e⟩:=qCP h;have ec:=qpk (c:=fun j=>p (L j)) e;refine⟨b,fun j hj=>?_,fun i hi=>?_⟩
 ·rw[<-e j hj];exact h.nn j hj
 ·rw[<-ec,h.eq 0 (by omega)];exact h.all i hi
noncomputable def q6J(l:R)(L:List Nat):Bool:=@decide (∃t,qvq (pV l) l.length (L.length-1) (Lf l L) t) (Classical.propDecidable _)
theorem qlR {L:List Nat}:q6J l L=true↔∃t,qvq (pV l) l.length (L.length-1) (Lf l L) t:=by unfold q6J;exact @decide_eq_true_iff _ (Classical.propDecidable _)
theorem qoR {L:List Nat}:q6J l L=false↔∀t,¬qvq (pV l) l.length (L.length-1) (Lf l L) t:=by unfold q6J;rw[@decide_eq_false_iff_not _ (Classical.propDecidable _)];exact⟨fun h t ht=>h ⟨t,ht⟩,fun h ⟨t,ht⟩=>h t ht⟩
def Mst(l:R)(m:Nat):Prop:=m=4\/m=3/\∀k,k<l.length->(pV l k).z=0
theorem qyi (hl:0<l.length){m:Nat}(hm:Mst l m):∃L n,qfF (q6J l) l.length 1 m=some L/\L.length=n+1/\n<m/\n<=3/\(∀a,a∈L->a<l.length)/\L.Pairwise (·<·)/\∃t,qvq (pV l) l.length n (Lf l L) t:=by
 cases e:qfF (q6J l) l.length 1 m with
 | some L=>
  obtain⟨h1,j,h2,h3,h4⟩:=qpN e;obtain⟨q1,q2,q3⟩:=qpF.1 h4;have hm4:m<=4:=by rcases hm with e|e<;>omega
  obtain⟨t,ht⟩:=qlR.1 h1;rw[q1] at ht;exact⟨L,j-1,rfl,by omega,by omega,by omega,q2,q3,t,ht⟩
 | none=>
  exfalso;obtain⟨L,u,s,h1,h2,h3,h4,h5,h6⟩:=qCZ (pV l) hl l.length;have hm4:L.length<1+m:=by
   rcases hm with e|⟨e,hz⟩
   ·omega
   ·have:=h3 hz;omega
  have:=qpa e L.length (by omega) hm4 L (qpF.2 ⟨rfl,h4,h5⟩);obtain⟨n,hn⟩:∃n,L.length=n+1:=⟨L.length-1,by omega⟩;rw[hn] at h6;refine qoR.1 this (fun j=>u (j+1)) ?_;rw[show L.length-1=n from by omega];exact qDb h6
end Go.Eng

namespace Go.Eng
variable {j:Nat}
def lsR(ls:List (List Nat)):R:=ls.map fun L=>[U.l (rN L)]
theorem qg0 (ls:List (List Nat)):qk (lsR ls)=(ls.length:Int):=by unfold lsR qk;rw[qJm]
theorem qst {ls:List (List Nat)}{L:List Nat}(h:ls[j]?=some L):cR (lsR ls) (j:Int) 0=rN L:=by
 have e:(lsR ls).getD ((j:Int).toNat) []=[U.l (rN L)]:=by unfold lsR;rw[qJq,qJd,qJo,h];rfl
 unfold cR wy;rw[e];rfl
theorem qAd (ls:List (List Nat))(L:List Nat):uV (lsR ls) [[.l (rN L)]]=lsR (ls++[L]):=by unfold lsR uV;rw[qJK];rfl
theorem qEP (l:List Nat)(i:Nat):uV (rN l) [[.i (i:Int)]]=rN (l++[i]):=by unfold rN rI uV;rw[qJK,qJK];rfl
theorem qGh {l:List Nat}(h:0<l.length):cI (rN l) ((l.length:Int)-1) 0+1=(nxL l:Int):=by
 rcases List.eq_nil_or_concat l with e|⟨l',b,e⟩
 ·subst e;cases h
 ·rw[List.concat_eq_append] at e;subst e;rw[qAv];have:(((l'++[b]).length:Nat):Int)-1=((l'.length:Nat):Int):=by rw[qJB];show ((l'.length+1:Nat):Int)-1=_;omega
  rw[this,qEL (k:=b) (by rw[qJz (qJe _),qK3];rfl)];omega
def exT(l:List Nat)(j:Nat):List (List Nat):=(List.range' (nxL l) j).map fun i=>l++[i]
theorem qDv (l:List Nat):exT l 0=[]:=rfl
theorem qDH (l:List Nat)(j:Nat):exT l (j+1)=exT l j++[l++[nxL l+j]]:=by unfold exT;rw[show List.range' (nxL l) (j+1)=List.range' (nxL l) j++[nxL l+j] from by rw[List.range'_concat,qKV],qJK];rfl
theorem qFr (n:Nat)(l:List Nat):exT l (n-nxL l)=exL n l:=rfl
theorem qzE (l:List Nat)(j:Nat):(exT l j).length=j:=by unfold exT;rw[qJm,List.length_range']
theorem qzs {α β:Type}(f:α->List β){ls:List α}{a:α}(h:ls[j]?=some a):(ls.take (j+1)).flatMap f=(ls.take j).flatMap f++f a:=by rw[List.take_add_one,h,List.flatMap_append];show _++[a].flatMap f=_;rw[List.flatMap_cons,List.flatMap_nil,qKl]
theorem qtv{α:Type}{P:List Nat->Bool}(g:List Nat->α)(f:List Nat->List (List Nat)):∀(ls pre:List (List Nat)),q1C (fun j=>((f ((pre++ls).getD j [])).find? P).map g) pre.length ls.length=((ls.flatMap f).find? P).map g
 | [],pre=>rfl
 | L::ls,pre=>by
  have e:(pre++L::ls).getD pre.length []=L:=by rw[qJd,qJz (qJe _),qK3];rfl
  have ih:=qtv (P:=P) g f ls (pre++[L]);rw[qJQ,qJB] at ih;rw[qJM];simp only[q1C];rw[e,List.flatMap_cons,List.find?_append];cases h:(f L).find? P with
  | some a=>rfl
  | none=>exact ih
theorem qri{α:Type}{P:List Nat->Bool}(g:List Nat->α)(n:Nat):∀(m k:Nat),q1C (fun j=>((lsN n (j+1)).find? P).map g) k m=(qfF P n (k+1) m).map g
 | 0,k=>rfl
 | m+1,k=>by
  simp only[q1C];rw[qfF];cases h:(lsN n (k+1)).find? P with
  | some a=>rfl
  | none=>exact qri g n m (k+1)
theorem qzt{α:Type}{P:List Nat->Bool}(g:List Nat->α)(L:List Nat):∀(m k:Nat),q1C (fun j=>if P (L++[nxL L+j])=true then some (g (L++[nxL L+j])) else none) k m=(((List.range' (nxL L+k) m).map fun i=>L++[i]).find? P).map g
 | 0,k=>rfl
 | m+1,k=>by
  have ih:=qzt (P:=P) g L m (k+1);rw[List.range'_succ,qKi,List.find?_cons];simp only[q1C];cases h:P (L++[nxL L+k]) with
  | true=>rw[if_pos rfl];rfl
  | false=>rw[if_neg (by decide)];exact ih
theorem qCo {ls:List (List Nat)}(hj:j<ls.length):ls[j]?=some (ls.getD j []):=by rw[qJd,qJk hj];rfl
end Go.Eng

namespace Go.Eng
theorem qzW{l:List Nat}(h:0<l.length)(hl:l.length<=64)(hx:nxL l<=64):qz .i64 (cI (rN l) (yM .i64 (l.length:Int) 1) 0) 1=(nxL l:Int):=by have e:=qGh h;have e1:yM .i64 (l.length:Int) 1=(l.length:Int)-1:=jj ⟨by omega,by omega⟩;rw[e1,zj ⟨by omega,by omega⟩];exact e
theorem qAX{n k:Nat}(hn:n<=64)(hk:k<=3):(lsN n k).length<=10000000:=by refine qJg (qAW n k) (qJg (Nat.pow_le_pow_left hn k) (qJg (qKO (by decide) hk) (by decide)))
variable {L:List Nat}{l:R}
noncomputable def tO(l:R)(L:List Nat):Nat->Rat:=Classical.epsilon fun t=>qvq (pV l) l.length (L.length-1) (Lf l L) t
noncomputable def cO(l:R)(L:List Nat):V3:=cen (L.length-1+1) (wts (tO l L) (L.length-1)) fun j=>pV l (Lf l L j)
noncomputable def sO(l:R)(L:List Nat):Rat:=d2 (cO l L) (pV l (Lf l L 0))
noncomputable def wO(l:R)(L:List Nat):R:=txR ((List.range (L.length-1+1)).map fun j=>tQ (wts (tO l L) (L.length-1) j))
theorem qBa (h:q6J l L=true):qvq (pV l) l.length (L.length-1) (Lf l L) (tO l L):=Classical.epsilon_spec (qlR.1 h)
theorem qty (hs:q7Y l){n:Nat}(hL:L.length=n+1)(hn:n<=3)(hlt:∀k,k∈L->k<l.length)(h:q6J l L=true) :CB (cO l L)/\(zW [.r l,.r (rN L)]).run=some (0,[.s (tQ (cO l L).x),.s (tQ (cO l L).y),.s (tQ (cO l L).z),.s (tQ (sO l L)),.r (wO l L),.b true,.i 0]):=by
 have eL:L.length-1=n:=by omega
 have sp:=qBa h;unfold sO wO;unfold cO;rw[eL] at sp ⊢;rcases qol hs hL hn hlt with⟨t,h1,h2,h3,h4⟩|⟨h1,_⟩
 ·have e:=qxF h1.1 sp.1;have ec:=qpk (c:=fun j=>pV l (Lf l L j)) e;have el:((List.range (n+1)).map fun j=>tQ (wts t n j))=(List.range (n+1)).map fun j=>tQ (wts (tO l L) n j):=qKI fun j hj=>by rw[e j (qKu.1 hj)]
  rw[ec,el] at h4;rw[ec] at h3;exact⟨h3,h4⟩
 ·exact absurd sp (h1 _)
theorem qD7 (hs:q7Y l){n:Nat}(hL:L.length=n+1)(hn:n<=3)(hlt:∀k,k∈L->k<l.length)(h:q6J l L=false) :∃s1 s2 s3 s4 wl,(zW [.r l,.r (rN L)]).run=some (0,[.s s1,.s s2,.s s3,.s s4,.r wl,.b false,.i 0]):=by
 have eL:L.length-1=n:=by omega
 have hh:=qoR.1 h;rw[eL] at hh;rcases qol hs hL hn hlt with⟨t,h1,_⟩|⟨_,h4⟩
 ·exact absurd h1 (hh t)
 ·exact h4
noncomputable def lO(l:R)(n m:Int)(L:List Nat):Nat×List PV:=(1,[.r l,.s (tQ (cO l L).x),.s (tQ (cO l L).y),.s (tQ (cO l L).z),.s (tQ (sO l L)),.r (wO l L),.i 0,.i n,.i m,.r (rN L)])
theorem qIk (hs:q7Y l)(hL:L.length<=3)(hlt:∀k,k∈L->k<l.length)(y2 y3 y4 y5 y13:Int)(y14:R)(acc:List (List Nat))(ha:acc.length<=1000000000) :(qh qQ [.r (rN L),.i (nxL L:Int),.i y2,.i y3,.i y4,.i y5,.r l,.s [],.s [],.s [],.s [],.i 0,.i (l.length:Int),.i y13,.r y14,.r (lsR acc)]).run = some ((((exL l.length L).find? (q6J l)).map (lO l l.length y13)).getD (0,[.i y2,.i y3,.i y4,.i y5,.r l,.s [],.s [],.s [],.s [],.i 0,.i (l.length:Int),.i y13,.r y14,.r (lsR (acc++exL l.length L))])):=by
 have hn:=hs.1;have key:=q4o (S:=qQ) (fun j=>[.r (rN L),.i ((nxL L+j:Nat):Int),.i y2,.i y3,.i y4,.i y5,.r l,.s [],.s [],.s [],.s [],.i 0,.i (l.length:Int),.i y13,.r y14,.r (lsR (acc++exT L j))])
  (fun j=>if q6J l (L++[nxL L+j])=true then some (lO l l.length y13 (L++[nxL L+j])) else none)
  (0,[.i y2,.i y3,.i y4,.i y5,.r l,.s [],.s [],.s [],.s [],.i 0,.i (l.length:Int),.i y13,.r y14,.r (lsR (acc++exL l.length L))]) (l.length-nxL L) (by omega) (fun j hj hf=>by
  have e:q6J l (L++[nxL L+j])=false:=by
   cases h:q6J l (L++[nxL L+j]) with
   | true=>rw[if_pos h] at hf;cases hf
   | false=>rfl
  have lj:(L++[nxL L+j]).length=L.length+1:=by rw[qJB];rfl
  have ltj:∀k,k∈L++[nxL L+j]->k<l.length:=fun k hk=>by
   rcases qJG.1 hk with q|q
   ·exact hlt k q
   ·rw[qJJ.1 q];omega
  obtain⟨s1,s2,s3,s4,wl,r1⟩:=qD7 hs lj hL ltj e;have w:qz .i64 ((nxL L+j:Nat):Int) 1=((nxL L+j+1:Nat):Int):=kX (show nxL L+j<64 by omega) (by omega);have e2:∀x:U,qk [[x]]=1:=fun _=>rfl;have e3:(acc++exT L j).length=acc.length+j:=by rw[qJB,qzE]
  have cl:(wL [.r (rN L)]).run=some (0,[.r (rN L)]):=by rw[q5K];simp only[STD,qik,show (L.length:Int)<=17592186044416 by omega]
  rw[q25];simp only[STD,cl,e2,qEP,qik,qg0,qAd,e3,w,r1,show ((nxL L+j:Nat):Int)<l.length by omega,show (L.length:Int)+1<=17592186044416 by omega,
   show ((acc.length+j:Nat):Int)+1<=5864062014805 by omega,qDH,qJQ,qKT]) (fun j r hj hf=>by
  have e:q6J l (L++[nxL L+j])=true:=by
   cases h:q6J l (L++[nxL L+j]) with
   | false=>rw[if_neg (by rw[h];decide)] at hf;cases hf
   | true=>rfl
  rw[if_pos e] at hf;cases hf;have lj:(L++[nxL L+j]).length=L.length+1:=by rw[qJB];rfl
  have ltj:∀k,k∈L++[nxL L+j]->k<l.length:=fun k hk=>by
   rcases qJG.1 hk with q|q
   ·exact hlt k q
   ·rw[qJJ.1 q];omega
  obtain⟨_,r1⟩:=qty hs lj hL ltj e;have e2:∀x:U,qk [[x]]=1:=fun _=>rfl;have e3:(acc++exT L j).length=acc.length+j:=by rw[qJB,qzE]
  have cl:(wL [.r (rN L)]).run=some (0,[.r (rN L)]):=by rw[q5K];simp only[STD,qik,show (L.length:Int)<=17592186044416 by omega]
  rw[q25];unfold lO;simp only[STD,cl,e2,qEP,qik,qg0,qAd,e3,r1,show ((nxL L+j:Nat):Int)<l.length by omega,show (L.length:Int)+1<=17592186044416 by omega,
   show ((acc.length+j:Nat):Int)+1<=5864062014805 by omega]) (by
  rw[q25];simp only[STD,show ¬((nxL L+(l.length-nxL L):Nat):Int)<l.length by omega,qFr])
 have e:=qzt (P:=q6J l) (lO l l.length y13) L (l.length-nxL L) 0;rw[e] at key;have key':(qh qQ [.r (rN L),.i ((nxL L+0:Nat):Int),.i y2,.i y3,.i y4,.i y5,.r l,.s [],.s [],.s [],.s [],.i 0,.i (l.length:Int),.i y13,.r y14,.r (lsR (acc++exT L 0))]).run=_:=key;rw[qDv,qKl,qJU] at key';exact key'
theorem qIZ (hs:q7Y l){ls:List (List Nat)}{q:Nat}(hq:q<=3)(hls:ls.length<=10000000)(hm:∀L,L∈ls->L.length=q/\∀a,a∈L->a<l.length)(y0 y1 y11:Int) :(qh jh [.i y0,.i y1,.i (ls.length:Int),.i 0,.r l,.s [],.s [],.s [],.s [],.i 0,.i (l.length:Int),.i y11,.r (lsR ls),.r []]).run = some ((((ls.flatMap (exL l.length)).find? (q6J l)).map (lO l l.length y11)).getD (0,[.i y0,.i y1,.r l,.s [],.s [],.s [],.s [],.i 0,.i (l.length:Int),.i y11,.r (lsR (ls.flatMap (exL l.length)))])):=by
 have hn:=hs.1;have step:∀j,j<ls.length->∃L,ls[j]?=some L/\ls.getD j []=L/\(qh qQ [.r (rN L),.i (nxL L:Int),.i y0,.i y1,.i (ls.length:Int),.i (j:Int),.r l,.s [],.s [],.s [],.s [],.i 0,.i (l.length:Int),.i y11,.r (lsR ls),.r (lsR ((ls.take j).flatMap (exL l.length)))]).run =
   some ((((exL l.length L).find? (q6J l)).map (lO l l.length y11)).getD (0,[.i y0,.i y1,.i (ls.length:Int),.i (j:Int),.r l,.s [],.s [],.s [],.s [],.i 0,.i (l.length:Int),.i y11,.r (lsR ls),.r (lsR ((ls.take (j+1)).flatMap (exL l.length)))])) /\
   L.length<=3/\nxL L<=64:=fun j hj=>by
  have hl:=qCo hj;obtain⟨h1,h2⟩:=hm _ (qKt hl);have fl:((ls.take j).flatMap (exL l.length)).length<=1000000000:=by have:=qsZ (exL l.length) l.length (qAe l.length) (ls.take j);rw[qK8,qKs (by omega)] at this;have:j*l.length<=10000000*64:=qK4 (by omega) hn;omega
  have r0:=qIk hs (L:=ls.getD j []) (by omega) h2 y0 y1 (ls.length:Int) (j:Int) y11 (lsR ls) _ fl;rw[<-qzs (exL l.length) hl] at r0;exact⟨_,hl,rfl,r0,by omega,qJg (qES h2) hn⟩
 have key:=q4o (S:=jh) (fun j=>[.i y0,.i y1,.i (ls.length:Int),.i (j:Int),.r l,.s [],.s [],.s [],.s [],.i 0,.i (l.length:Int),.i y11,.r (lsR ls),.r (lsR ((ls.take j).flatMap (exL l.length)))])
  (fun j=>((exL l.length (ls.getD j [])).find? (q6J l)).map (lO l l.length y11))
  (0,[.i y0,.i y1,.r l,.s [],.s [],.s [],.s [],.i 0,.i (l.length:Int),.i y11,.r (lsR (ls.flatMap (exL l.length)))]) ls.length (by omega) (fun j hj hf=>by
  obtain⟨L,hl,hg,r0,h3,h4⟩:=step j hj;rw[hg] at hf;rw[hf] at r0;simp only[Option.getD_none] at r0;have w:qz .i64 (j:Int) 1=((j+1:Nat):Int):=kX hj (by omega);rw[q2y];by_cases h0:0<L.length
  ·have w1:yM .i64 (L.length:Int) 1=(L.length:Int)-1:=jj ⟨by omega,by omega⟩;have e:=qzW h0 (by omega) h4;rw[w1] at e;simp only[STD,qg0,qst hl,qik,w1,e,r0,zt r0,w,show (j:Int)<ls.length by omega,show (0:Int)<=j by omega,show (0:Int)<L.length by omega,show (0:Int)<=(L.length:Int)-1 by omega,show (L.length:Int)-1<L.length by omega,and_self]
  ·have e:L=[]:=qKY (by omega);subst e;have r1:(qh qQ [.r (rN []),.i 0,.i y0,.i y1,.i (ls.length:Int),.i (j:Int),.r l,.s [],.s [],.s [],.s [],.i 0,.i (l.length:Int),.i y11,.r (lsR ls),.r (lsR ((ls.take j).flatMap (exL l.length)))]).run=_:=r0;simp only[STD,qg0,qst hl,qik,r1,zt r1,w,show (j:Int)<ls.length by omega,show (0:Int)<=j by omega,show ¬(0:Int)<(([]:List Nat).length:Int) from by decide,and_self]) (fun j r hj hf=>by
  obtain⟨L,hl,hg,r0,h3,h4⟩:=step j hj;rw[hg] at hf;rw[hf] at r0;simp only[qKq] at r0;obtain⟨L2,hL2,e2⟩:=qL1.1 hf;subst e2;unfold lO at r0 ⊢;rw[q2y];by_cases h0:0<L.length
  ·have w1:yM .i64 (L.length:Int) 1=(L.length:Int)-1:=jj ⟨by omega,by omega⟩;have e:=qzW h0 (by omega) h4;rw[w1] at e;simp only[STD,qg0,qst hl,qik,w1,e,r0,zt r0,show (j:Int)<ls.length by omega,show (0:Int)<=j by omega,show (0:Int)<L.length by omega,show (0:Int)<=(L.length:Int)-1 by omega,show (L.length:Int)-1<L.length by omega,and_self];rw[if_neg (by decide)]
  ·have e:L=[]:=qKY (by omega);subst e;have r1:(qh qQ [.r (rN []),.i 0,.i y0,.i y1,.i (ls.length:Int),.i (j:Int),.r l,.s [],.s [],.s [],.s [],.i 0,.i (l.length:Int),.i y11,.r (lsR ls),.r (lsR ((ls.take j).flatMap (exL l.length)))]).run=_:=r0;simp only[STD,qg0,qst hl,qik,r1,zt r1,show (j:Int)<ls.length by omega,show (0:Int)<=j by omega,show ¬(0:Int)<(([]:List Nat).length:Int) from by decide,and_self];rw[if_neg (by decide)]) (by
  rw[q2y];simp only[STD,show ¬(ls.length:Int)<ls.length by omega,qKw])
 have e:=qtv (P:=q6J l) (lO l l.length y11) (exL l.length) ls [];simp only[qKm,qKr] at e;rw[e] at key;exact key
theorem qGk (hs:q7Y l){m:Nat}(hm:m<=4)(h:qfF (q6J l) l.length 1 m=some L) :(q0p [.r l,.i (m:Int)]).run=some (0,[.s (tQ (cO l L).x),.s (tQ (cO l L).y),.s (tQ (cO l L).z),.s (tQ (sO l L)),.r (wO l L),.r (rN L),.i 0]):=by
 have hn:=hs.1;have hms:∀q,∀L,L∈lsN l.length q->L.length=q/\∀a,a∈L->a<l.length:=fun q L hL=>by obtain⟨h1,h2,_⟩:=qpF.1 hL;exact⟨h1,h2⟩
 have key:=q4o (S:=je) (fun q=>[.i (m:Int),.i (q:Int),.r l,.s [],.s [],.s [],.s [],.i 0,.i (l.length:Int),.i (m:Int),.r (lsR (lsN l.length q))])
  (fun q=>((lsN l.length (q+1)).find? (q6J l)).map (lO l l.length m))
  (0,[.r l,.s [],.s [],.s [],.s [],.i 0,.i (l.length:Int),.i (m:Int)]) m (by omega) (fun q hq hf=>by
  have r0:=qIZ hs (q:=q) (by omega) (qAX (k:=q) hn (by omega)) (hms q) (m:Int) (q:Int) (m:Int);have hf':((((lsN l.length q).flatMap (exL l.length)).find? (q6J l)).map (lO l l.length m))=none:=hf;rw[hf'] at r0;simp only[Option.getD_none] at r0;have w:qz .i64 (q:Int) 1=((q+1:Nat):Int):=kX hq (by omega);rw[q2G];simp only[STD,qg0,r0,zt r0,w,show (q:Int)<m by omega];rfl) (fun q r hq hf=>by
  have r0:=qIZ hs (q:=q) (by omega) (qAX (k:=q) hn (by omega)) (hms q) (m:Int) (q:Int) (m:Int);have hf':((((lsN l.length q).flatMap (exL l.length)).find? (q6J l)).map (lO l l.length m))=some r:=hf;rw[hf'] at r0;simp only[qKq] at r0;obtain⟨L2,hL2,e2⟩:=qL1.1 hf';subst e2;unfold lO at r0 ⊢;rw[q2G];simp only[STD,qg0,r0,zt r0,show (q:Int)<m by omega];rw[if_neg (by decide)]) (by
  rw[q2G];simp only[STD,show ¬(m:Int)<m by omega])
 rw[qri (P:=q6J l) (lO l l.length m) l.length m 0,h] at key;have key':(qh je [.i (m:Int),.i 0,.r l,.s [],.s [],.s [],.s [],.i 0,.i (l.length:Int),.i (m:Int),.r [[.l []]]]).run=some (lO l l.length m L):=key;unfold lO at key';have lx:qk l=(l.length:Int):=rfl;rw[qn7];simp only[STD,lx,key',zt key'];rw[if_neg (by decide)]
end Go.Eng

namespace Go.Eng
variable {l:R}
def ptE(x y:Int):Int:=if -100000<=x/\x<=100000/\-100000<=y/\y<=100000 then 0 else 2
def ptA(l:R)(i:Nat):Int:=ptE (cI l i 0) (cI l i 1)
def qBw(l:R):Int:=if 64<qk l then 5 else qdc (ptA l) l.length
theorem qAS (x y:Int):ptE x y=0\/ptE x y=2:=by unfold ptE;split<;>simp
theorem qDF {x y:Int}(h:ptE x y=0):-100000<=x/\x<=100000/\-100000<=y/\y<=100000:=by
 unfold ptE at h;split at h
 ·assumption
 ·omega
theorem qpc (x:Int):(jN [.i x]).run=some (0,[.b (decide (-100000<=x/\x<=100000))]):=by rw[qnd];simp only[STD];by_cases h:-100000<=x<;>simp[h,ile]
theorem qsU (x y:Int):(kC [.i x,.i y]).run=some (0,[.b (decide (ptE x y=0))]):=by rw[qqh];simp only[STD,qpc];unfold ptE;by_cases h:-100000<=x<;>by_cases h2:x<=100000<;>by_cases h3:-100000<=y<;>by_cases h4:y<=100000<;>simp[h,h2,h3,h4]
theorem qtx (l:R)(hl:l.length<9223372036854775808):(jl [.r l]).run=some (0,[.i (qdc (ptA l) l.length)]):=by
 rw[qeo];have k:=qxb (S:=zw) (fun i=>[.r l,.i (qk l),.i (i:Int)]) (ptA l) [] [] l.length hl (fun i hi=>by
  rw[q47];simp only[STD,quF hi,q8N,qsU,and_self,kX hi hl];show (if ¬ptA l i=0 then _ else _)=_;have:=qAS (cI l i 0) (cI l i 1);by_cases he:ptA l i=0
  ·simp[he]
  ·have:ptA l i=2:=by unfold ptA at *;omega
   simp[this]) (by
  rw[q47];simp only[STD,qCj])
 by_cases hf:qdc (ptA l) l.length=0
 ·rw[if_pos hf] at k;have k':(qh zw [.r l,.i (qk l),.i 0]).run=_:=k;simp only[STD,k',zt k',hf]
 ·rw[if_neg hf] at k;have k':(qh zw [.r l,.i (qk l),.i 0]).run=_:=k;simp only[STD,k',zt k',show ¬((1:Nat)=0) by decide]
theorem qif (l:R):(q4B [.r l]).run=some (0,[.i (qBw l)]):=by
 rw[qnE];have e:(wu [.r l]).run=some (0,[.i (qBw l)]):=by
  rw[qa1];unfold qBw;by_cases h:64<qk l
  ·simp only[STD,h]
  ·simp only[STD,h,qtx l (by unfold qk at h;omega)]
 simp only[STD,e]
def qne(l:R):Int:=if qBw l=0 then (if qk l=0 then 13 else 0) else qBw l
theorem qqD (x:Int):(q49 [.i x]).run=some (0,[.i (if x=0 then 13 else 0)]):=by rw[qpp];by_cases h:x=0<;>simp[STD,h]
theorem qqc (l:R):(q4b [.r l]).run=some (0,[.i (qne l)]):=by
 rw[qph];unfold qne;by_cases h:qBw l=0
 ·by_cases h2:qk l=0<;>simp only[STD,qif,qqD,h,h2]
 ·simp only[STD,qif,h]
def raR(l:R):R:=(List.range l.length).map fun i:Nat=>[.i (cI l (i:Int) 0),.i (cI l (i:Int) 1),.i 0]
def raN(l:R)(n:Nat):R:=(List.range n).map fun i:Nat=>[.i (cI l (i:Int) 0),.i (cI l (i:Int) 1),.i 0]
theorem qFH (l:R)(n:Nat):qk (raN l n)=(n:Int):=by unfold raN qk;rw[qJm,qJV]
theorem qj1 (l:R):(raR l).length=l.length:=by unfold raR;rw[qJm,qJV]
theorem qE1 (l:R)(n:Nat):raN l (n+1)=uV (raN l n) [[.i (cI l (n:Int) 0),.i (cI l (n:Int) 1),.i 0]]:=by unfold raN uV;rw[qKS,qJK];rfl
theorem qvM {i:Nat}(h:i<l.length):cI (raR l) (i:Int) 0=cI l (i:Int) 0/\cI (raR l) (i:Int) 1=cI l (i:Int) 1/\cI (raR l) (i:Int) 2=0:=by
 have e:(raR l).getD ((i:Int).toNat) []=[.i (cI l (i:Int) 0),.i (cI l (i:Int) 1),.i 0]:=by unfold raR;rw[qJq,qJd,qJo,qKa h];rfl
 refine⟨?_,?_,?_⟩<;>(conv=>lhs;unfold cI wy)<;>rw[e]<;>rfl
theorem qDd (hl:l.length<=64):(q1K [.r l]).run=some (0,[.r (raR l)]):=by
 have key:=zf (S:=jY) (fun i=>[.r l,.i (l.length:Int),.i (i:Int),.r (raN l i)]) (0,[.r (raR l)]) l.length (by omega) (fun i hi=>by
  have e3:qk [[U.i (cI l (i:Int) 0),.i (cI l (i:Int) 1),.i 0]]=1:=rfl;have e4:qk l=(l.length:Int):=rfl;rw[qa0];simp only[STD,qFH,qE1,e3,e4,kX hi (show l.length<9223372036854775808 by omega),show (i:Int)<l.length by omega,show (0:Int)<=i by omega,show (i:Int)+1<=5864062014805 by omega,and_self]) (by
  rw[qa0];simp only[STD,show ¬(l.length:Int)<l.length by omega];rfl)
 have key':(qh jY [.r l,.i (qk l),.i 0,.r []]).run=some (0,[.r (raR l)]):=key;rw[qmd];simp only[STD,key']
theorem qtL (h:qBw l=0):l.length<=64/\∀i,i<l.length->co (cI l (i:Int) 0)/\co (cI l (i:Int) 1):=by
 unfold qBw at h;split at h
 ·omega
 ·rename_i h64;unfold qk at h64;refine⟨by omega,fun i hi=>?_⟩;obtain⟨h1,h2,h3,h4⟩:=qDF (qvi h i hi);exact⟨⟨h1,h2⟩,⟨h3,h4⟩⟩
theorem qmi (h:qne l=0):qBw l=0/\l.length<=64/\0<l.length/\q7Y (raR l)/\Mst (raR l) 3:=by
 unfold qne at h;split at h
 ·rename_i h1;split at h
  ·omega
  ·rename_i h2;unfold qk at h2;obtain⟨q1,q2⟩:=qtL h1;refine⟨h1,q1,by omega,⟨by rw[qj1];exact q1,fun i hi=>?_⟩,.inr ⟨rfl,fun k hk=>?_⟩⟩
   ·rw[qj1] at hi;obtain⟨e1,e2,e3⟩:=qvM hi;obtain⟨k1,k2⟩:=q2 i hi;unfold qFa;rw[e1,e2,e3];exact⟨k1,k2,by unfold co;omega⟩
   ·rw[qj1] at hk;obtain⟨e1,e2,e3⟩:=qvM hk;show ((cI (raR l) (k:Int) 2:Int):Rat)=0;rw[e3];rfl
 ·rename_i h1;exact absurd h h1
end Go.Eng

namespace Go.Eng
variable {l:R}
structure LO (l:R) (m:Nat) (L:List Nat) (n:Nat):Prop where
 first:qfF (q6J l) l.length 1 m=some L
 len:L.length=n+1
 most:n<m
 three:n<=3
 lt:∀a,a∈L->a<l.length
 asc:L.Pairwise (·<·)
 supp:q6J l L=true
 cb:CB (cO l L)
 sup:Sup l.length (pV l) (n+1) (Lf l L) (wts (tO l L) n) (sO l L)
 cen:cO l L=Go.Eng.cen (n+1) (wts (tO l L) n) fun j=>pV l (Lf l L j)
theorem qGQ {L:List Nat}{n:Nat}(hL:L.length=n+1)(hlt:∀a,a∈L->a<l.length){j:Nat}(hj:j<n+1):Lf l L j<l.length:=by unfold Lf;rw[qJd,qJk (show j<L.length by omega)];exact hlt _ (qJT _)
theorem qCC (hs:q7Y l)(hl:0<l.length){m:Nat}(hm:Mst l m):∃L n,LO l m L n:=by
 obtain⟨L,n,h1,h2,h3,h4,h5,h6,t,ht⟩:=qyi hl hm;have eL:L.length-1=n:=by omega
 have sb:q6J l L=true:=qlR.2 ⟨t,by rw[eL];exact ht⟩;have st:=qBa sb;rw[eL] at st;have ec:cO l L=cen (n+1) (wts (tO l L) n) fun j=>pV l (Lf l L j):=by unfold cO;rw[eL]
 have su:=qxc st (fun j hj=>qGQ h2 h5 hj) (by have:=qDD h6 l.length;rw[h2] at this;exact this);rw[<-ec] at su;exact⟨L,n,h1,h2,h3,h4,h5,h6,sb,(qty hs h2 h4 h5 sb).1,su,ec⟩
theorem qlr (h0:qne l=0):∃L n,LO (raR l) 3 L n /\(w9 [.r l]).run=some (0,[.s (tQ (cO (raR l) L).x),.s (tQ (cO (raR l) L).y),.s (tQ (sO (raR l) L)),.r (rN L),.i 0]):=by obtain⟨h1,h2,h3,h4,h5⟩:=qmi h0;obtain⟨L,n,lo⟩:=qCC h4 (by rw[qj1];exact h3) h5;have r1:(q0p [.r (raR l),.i 3]).run=_:=qGk h4 (m:=3) (by omega) lo.first;refine⟨L,n,lo,?_⟩;rw[qma];simp only[STD,qqc,h0,qDd h2,r1,qdY]
end Go.Eng

namespace Go.Eng
def shN(s:qJb):Prop:=(spn s).length<=30/\(spd s).length<=30
instance (s:qJb):Decidable (shN s):=by unfold shN;infer_instance
def E4:R:=[[.i 0,.i 0],[.i 6,.i 0],[.i 3,.i 1]]
theorem qI7{c:Nat->V3}{t:Nat->Rat}{a:Rat}(h1:qsC c 0 0=a)(ha:a≠0)(e1:a*t 0=d2 (c 0) (c 1)):Bl 1 c t:=by
 refine⟨qh0.2 fun u hu=>?_,fun i hi=>?_⟩
 ·have q1:=hu 0 (by omega);simp only[su,h1] at q1;intro j hj;have:j=0:=by omega
  subst this;have z:a*u 0=0:=by grind
  rcases qKB.1 z with h|h
  ·exact absurd h ha
  ·exact h
 ·have:i=0:=by omega
  subst this;simp only[su,h1];grind
def qJ3(a b:Rat):Nat->Rat:=fun j=>if j=0 then a else b
def T2:Nat->Rat:=qJ3 (17/50) (8/25)
theorem qDM(s:Bs):seq s s=true:=by rw[zV]
def qCw(a b:Rat):Int:=sgn (a.num*(b.den:Int)-b.num*(a.den:Int))
theorem qBe{a b:Rat}:qCw a b<0↔a<b:=by unfold qCw;rw[qEK,Rat.lt_iff];omega
theorem qHF{l:R}(hs:q7Y l){m:Nat}{L:List Nat}{n:Nat}(h:LO l m L n):bnd 317 223 (sO l L):=qBf hs h.cb (qGQ h.len h.lt (by omega))
variable {L:List Nat}{l:R}
theorem qIQ {j:Nat}(h:j<L.length):Lf l L j=L[j]:=by unfold Lf;rw[qJd,qJk h];rfl
theorem sub_le {S:R}{m m' n n':Nat}{L L' L2:List Nat}(lo:LO S m L n)(hlt:∀a,a∈L'->a<S.length)(lo2:LO (chR S L') m' L2 n'):sO (chR S L') L2<=sO S L:=by have h2:=lo2.sup;rw[ql1,qEU] at h2;exact qCO (f:=Lf S L') (fun i hi=>by rw[qIQ hi];exact hlt _ (qJT _)) lo.sup h2
def chP(l:R)(L:List Nat):R:=L.map fun k:Nat=>[.i (cI l (k:Int) 0),.i (cI l (k:Int) 1)]
theorem qo1 (l:R)(L:List Nat):(chP l L).length=L.length:=by unfold chP;rw[qJm]
theorem qA4 {j k:Nat}(h:L[j]?=some k):cI (chP l L) (j:Int) 0=cI l (k:Int) 0/\cI (chP l L) (j:Int) 1=cI l (k:Int) 1:=by
 have e:(chP l L).getD ((j:Int).toNat) []=[.i (cI l (k:Int) 0),.i (cI l (k:Int) 1)]:=by unfold chP;rw[qJq,qJd,qJo,h];rfl
 refine⟨?_,?_⟩<;>(conv=>lhs;unfold cI wy)<;>rw[e]<;>rfl
theorem qGa (h1:l.length<=64)(h2:∀i,i<l.length->co (cI l (i:Int) 0)/\co (cI l (i:Int) 1)):qBw l=0:=by unfold qBw;rw[if_neg (by unfold qk;omega)];refine quL fun i hi=>?_;obtain⟨k1,k2⟩:=h2 i hi;unfold co at k1 k2;show (if _ then (0:Int) else 2)=0;rw[if_pos (by omega)]
theorem qy1 (h0:0<l.length)(h1:l.length<=64)(h2:∀i,i<l.length->co (cI l (i:Int) 0)/\co (cI l (i:Int) 1)):qne l=0:=by unfold qne;rw[if_pos (qGa h1 h2),if_neg (by unfold qk;omega)]
theorem qDT (h:qne l=0)(hL:0<L.length)(hL2:L.length<=64)(hlt:∀a,a∈L->a<l.length):qne (chP l L)=0:=by obtain⟨g1,_⟩:=qmi h;obtain⟨_,v2⟩:=qtL g1;refine qy1 (by rw[qo1];exact hL) (by rw[qo1];exact hL2) fun i hi=>?_;rw[qo1] at hi;obtain⟨e1,e2⟩:=qA4 (l:=l) (qJk hi);rw[e1,e2];exact v2 _ (hlt _ (qJT hi))
def E5:R:=[[.i 0,.i 0],[.i 6,.i 0]]
theorem qDy:qvq (pV (raR E5)) (raR E5).length 1 (Lf (raR E5) [0,1]) (fun _=>1/2):=by
 refine⟨qI7 (a:=72) (by decide +kernel) (by decide +kernel) (by decide +kernel),?_,?_⟩
 ·decide +kernel
 ·decide +kernel
theorem qbK:(ke []).run=some (0,[.b true]):=by
  obtain⟨L,n,lo,r⟩:=qlr (l:=E5) (by decide)
  have sp:=qxc qDy (by decide) (by
    intro j k h1 h2
    have e:j=0/\k=1:=by omega
    obtain⟨rfl,rfl⟩:=e
    decide)
  obtain⟨us,_⟩:=qCT lo.sup sp;have es:sO (raR E5) L=9:=by rw[us];decide +kernel
  have e9:tQ 9=[57]:=by decide +kernel
  rw[es,e9] at r;have r':(w9 [.r [[.i 0,.i 0],[.i 6,.i 0]]]).run=_:=r;rw[qm9];simp only[STD,r',qDM]
theorem qtN (l:R):∃b,(uR [.r l]).run=some (0,[.b b])/\(b=true->0<l.length/\l.length<=8/\∀i,i<l.length->(-9000<=cI l (i:Int) 0/\cI l (i:Int) 0<=9000)/\-9000<=cI l (i:Int) 1/\cI l (i:Int) 1<=9000):=by
 have lx:qk l=(l.length:Int):=rfl;rw[qmb];by_cases h1:0<l.length
 ·by_cases h2:l.length<=8
  ·obtain⟨bad,hbad⟩:∃bad:Nat->Bool,bad=fun i:Nat=>decide (cI l (i:Int) 0 < -9000)||(decide (9000<cI l (i:Int) 0)||(decide (cI l (i:Int) 1 < -9000)||decide (9000<cI l (i:Int) 1))):=⟨_,rfl⟩;have one:∀i:Nat,(j0 [.i (cI l (i:Int) 0),.i (cI l (i:Int) 1)]).run=some (0,[.b (bad i)]):=fun i=>by
    rw[qiv,hbad];by_cases q1:cI l (i:Int) 0 < -9000
    ·simp only[STD,q1,decide_true,Bool.true_or]
    ·by_cases q2:9000<cI l (i:Int) 0
     ·simp only[STD,q1,q2,decide_true,decide_false,Bool.true_or,Bool.false_or]
     ·by_cases q3:cI l (i:Int) 1 < -9000
      ·simp only[STD,q1,q2,q3,decide_true,decide_false,Bool.true_or,Bool.false_or]
      ·simp only[STD,q1,q2,q3,decide_false,Bool.false_or];rfl
   have key:=q4o (S:=qg) (fun k=>[.r l,.i (l.length:Int),.i (k:Int),.r l,.r l]) (fun k=>if bad k=true then some (1,[.i (k:Int),.r l,.r l]) else none) (0,[.r l,.r l]) l.length (by omega)
    (fun k hk hf=>by
     have h0:bad k=false:=by
      cases hb:bad k with
      | true=>rw[if_pos hb] at hf;cases hf
      | false=>rfl
     rw[qy];simp only[STD,lx,one k,h0,kX hk (show l.length<9223372036854775808 by omega),show (k:Int)<l.length by omega,show (0:Int)<=k by omega,and_self])
    (fun k r hk hf=>by
     have h0:bad k=true:=by
      cases hb:bad k with
      | false=>rw[if_neg (by rw[hb];decide)] at hf;cases hf
      | true=>rfl
     rw[if_pos h0] at hf;cases hf;rw[qy];simp only[STD,lx,one k,h0,show (k:Int)<l.length by omega,show (0:Int)<=k by omega,and_self])
    (by rw[qy];simp only[STD,show ¬(l.length:Int)<l.length by omega])
   have cf:∃c,(qm [.r l]).run=some (0,[.b c])/\(c=false->∀k,k<l.length->bad k=false):=by
    rw[vj];cases hs:q1C (fun k=>if bad k=true then some (1,[.i (k:Int),.r l,.r l]) else (none:Option (Nat×List PV))) 0 l.length with
    | none=>
     rw[hs] at key;have key':(qh qg [.r l,.i (l.length:Int),.i 0,.r l,.r l]).run=some (0,[.r l,.r l]):=key;refine⟨false,by simp only[STD,lx,key',zt key'],fun _ k hk=>?_⟩;have:=kt hs k (by omega) (by omega);cases hb:bad k with
     | true=>rw[hb] at this;simp at this
     | false=>rfl
    | some r=>
     rw[hs] at key;obtain⟨k,_,_,h3⟩:=qkg hs;split at h3
     ·cases h3;have key':(qh qg [.r l,.i (l.length:Int),.i 0,.r l,.r l]).run=some (1,[.i (k:Int),.r l,.r l]):=key;exact⟨true,by simp only[STD,lx,key',zt key'];rfl,fun h=>by cases h⟩
     ·cases h3
   obtain⟨c,r,hc⟩:=cf;refine⟨!c,by simp only[STD,lx,r,show (0:Int)<l.length by omega,show (l.length:Int)<=8 by omega],fun h=>⟨h1,h2,fun i hi=>?_⟩⟩;have hc0:c=false:=by cases c<;>simp at h ⊢
   have:=hc hc0 i hi;rw[hbad] at this;simp only[Bool.or_eq_false_iff,decide_eq_false_iff_not] at this;omega
  ·exact⟨false,by simp only[STD,lx,show (0:Int)<l.length by omega,show ¬(l.length:Int)<=8 by omega],fun h=>by cases h⟩
 ·exact⟨false,by simp only[STD,lx,show ¬(0:Int)<l.length by omega],fun h=>by cases h⟩
end Go.Eng

namespace Go.Eng
theorem qEy{l:R}{i:Nat}(hi:i<l.length):pV (raR l) i=⟨(cI l i 0:Rat),(cI l i 1:Rat),0⟩:=by obtain⟨e1,e2,e3⟩:=qvM hi;unfold pV;rw[e1,e2,e3];rfl
theorem qAI{a b:Rat}{N D N' D':Nat}(ha:bnd N D a)(hb:bnd N' D' b)(h1:N+D'<=1023)(h2:N'+D<=1023)(h3:D+D'<=1024):(zI [.s (tQ a),.s (tQ b),.i 0]).run=some (0,[.s (tQ (a+b)),.i 0]):=by
 rw[qlp];have:(v6 [.s (tQ a),.s (tQ b),.i 0]).run=some (0,[.s (tQ (a+b)),.i 0]):=by rw[qb3];simp only[STD,qdP ha hb h1 h2 h3]
 simp only[STD,this]
theorem qwu{a b:Rat}{N D N' D':Nat}(ha:bnd N D a)(hb:bnd N' D' b)(h1:N+D'<=1023)(h2:N'+D<=1023)(h3:D+D'<=1024):(zk [.s (tQ a),.s (tQ b),.i 0]).run=some (0,[.s (tQ (a-b)),.i 0]):=by
 rw[qlE];have:(wV [.s (tQ a),.s (tQ b),.i 0]).run=some (0,[.s (tQ (a-b)),.i 0]):=by rw[qb0];simp only[STD,q7q ha hb h1 h2 h3]
 simp only[STD,this]
theorem quX{a b:Rat}{N D N' D':Nat}(ha:bnd N D a)(hb:bnd N' D' b)(h1:N+N'<=1024)(h2:D+D'<=1024):(qY [.s (tQ a),.s (tQ b),.i 0]).run=some (0,[.s (tQ (a*b)),.i 0]):=by
 rw[qmh];have:(wU [.s (tQ a),.s (tQ b),.i 0]).run=some (0,[.s (tQ (a*b)),.i 0]):=by rw[qb6];simp only[STD,qdN ha hb h1 h2]
 simp only[STD,this]
theorem qGA{a b:Rat}{N D N' D':Nat}(h0:b≠0)(ha:bnd N D a)(hb:bnd N' D' b)(h1:N+D'<=1024)(h2:D+N'<=1024):(zM [.s (tQ a),.s (tQ b),.i 0]).run=some (0,[.s (tQ (a/b)),.i 0]):=by rw[qb2];simp only[STD,qpB h0 ha hb h1 h2]
theorem qEM{ax ay bx by_:Rat}{N D N' D':Nat}(h1:bnd N D ax)(h2:bnd N D ay)(h3:bnd N' D' bx)(h4:bnd N' D' by_)(c1:N+D'<=1023)(c2:N'+D<=1023)(c3:D+D'<=1024) :(jo [.s (tQ ax),.s (tQ ay),.s (tQ bx),.s (tQ by_),.i 0]).run=some (0,[.s (tQ (ax-bx)),.s (tQ (ay-by_)),.i 0]):=by rw[qjR];simp only[STD,qwu h1 h3 c1 c2 c3,qwu h2 h4 c1 c2 c3]
theorem qDi{ax ay bx by_:Rat}{N D N' D':Nat}(h1:bnd N D ax)(h2:bnd N D ay)(h3:bnd N' D' bx)(h4:bnd N' D' by_)(c1:N+N'+(D+D')<=1023)(c2:D+D'+(D+D')<=1024) :(v8 [.s (tQ ax),.s (tQ ay),.s (tQ bx),.s (tQ by_),.i 0]).run=some (0,[.s (tQ (ax*bx+ay*by_)),.i 0]):=by rw[qls];simp only[STD,quX h1 h3 (by omega) (by omega),quX h2 h4 (by omega) (by omega),qAI (h1.mul h3) (h2.mul h4) (by omega) (by omega) (by omega)]
theorem qpe{ax ay bx by_:Rat}{N D N' D':Nat}(h1:bnd N D ax)(h2:bnd N D ay)(h3:bnd N' D' bx)(h4:bnd N' D' by_):bnd (N+N'+(D+D')+1) (D+D'+(D+D')) (ax*bx+ay*by_):=(h1.mul h3).add (h2.mul h4) (by omega) (by omega)
def q4M(ax ay bx by_:Rat):Rat:=(ax-bx)*(ax-bx)+(ay-by_)*(ay-by_)
theorem qbF{a b:Rat}(ha:bnd 12 10 a)(hb:bnd 12 10 b):bnd 23 20 (a-b):=ha.sub hb (by omega) (by omega)
theorem qzX{ax ay bx by_:Rat}(h1:bnd 12 10 ax)(h2:bnd 12 10 ay)(h3:bnd 12 10 bx)(h4:bnd 12 10 by_):bnd 87 80 (q4M ax ay bx by_):=qpe (qbF h1 h3) (qbF h2 h4) (qbF h1 h3) (qbF h2 h4)
structure DQ where
 x:Rat
 y:Rat
 s:Rat
def DQ.sh(d:DQ):Prop:=bnd 12 10 d.x/\bnd 12 10 d.y/\bnd 17 13 d.s
def qIK(a b:DQ)(k:Rat):Int:=qhL (q4M a.x a.y b.x b.y-(a.s+b.s)) k (a.s*b.s)
theorem qGW{a b c:Rat}(h:RootOk a b c)(hc:0<=c):(q0H [.s (tQ a),.s (tQ b),.s (tQ c),.i 0]).run=some (0,[.i (qhL a b c),.i 0]):=by rw[qjB];simp only[STD,qz4 h hc]
theorem qzf(a:Rat):qhL a 0 0=sgq a:=by
 unfold qhL;rw[show sgq 0=0 from rfl,qKp,qKp,if_pos (by omega)];split
 ·rename_i h;rw[h]
 ·rfl
theorem qEB:tQ 2=[50]:=qD2 2
def qBg(a b:DQ):Prop:=a.s<=b.s/\qIK a b 2<=0
instance (a b:DQ):Decidable (qBg a b):=by unfold qBg;infer_instance
def shT(s:qJb):Prop:=s.length<=12
noncomputable def qGg(x y s:qJb):Int:=if qpX x≠0 then qpX x else if qpX y≠0 then qpX y else if qpX s≠0 then qpX s else if s.getD 0 0=45 then 2 else 0
theorem qIr{S:List PV->TR}{st:Nat->List PV}{e0 e1 e2:Int}{fin:List PV}(h0:(S (st 0)).run=if e0=0 then some (0,st 1) else some (2,[.i e0])) (h1:(S (st 1)).run=if e1=0 then some (0,st 2) else some (2,[.i e1])) (h2:(S (st 2)).run=if e2=0 then some (0,st 3) else some (2,[.i e2]))(h3:(S (st 3)).run=some (1,fin)):(qh S (st 0)).run=some (if e0≠0 then (1,[.i e0]) else if e1≠0 then (1,[.i e1]) else if e2≠0 then (1,[.i e2]) else (0,fin)):=by
 have hr:∃m,qgq=m+4:=⟨qgq-4,by unfold qgq;omega⟩;obtain⟨m,hm⟩:=hr;unfold qh;rw[hm];by_cases c0:e0=0
 ·rw[if_pos c0] at h0;rw[qhe h0];by_cases c1:e1=0
  ·rw[if_pos c1] at h1;rw[qhe h1];by_cases c2:e2=0
   ·rw[if_pos c2] at h2;rw[qhe h2,q7Q h3];simp[c0,c1,c2]
   ·rw[if_neg c2] at h2;rw[q7Q h2];simp[c0,c1,c2]
  ·rw[if_neg c1] at h1;rw[q7Q h1];simp[c0,c1]
 ·rw[if_neg c0] at h0;rw[q7Q h0];simp[c0]
theorem qrZ(x y s:qJb)(h1:x.length<=1000000)(h2:y.length<=1000000)(h3:s.length<=1000000):(q3v [.s x,.s y,.s s]).run=some (0,[.i (qGg x y s)]):=by
  rw[qq9];have c0:=q9l x (by omega);have c1:=q9l y (by omega);have c2:=q9l s (by omega);have d0:cS [[.s x],[.s y],[.s s]] 0 0=x:=rfl;have d1:cS [[.s x],[.s y],[.s s]] 1 0=y:=rfl;have d2:cS [[.s x],[.s y],[.s s]] 2 0=s:=rfl;have d3:qk [[U.s x],[U.s y],[U.s s]]=3:=rfl;have w0:qz .i64 0 1=1:=by decide
  have w1:qz .i64 1 1=2:=by decide
  have w2:qz .i64 2 1=3:=by decide
  have key:=qIr (S:=q2I) (st:=fun i=>[.i 3,.i (i:Int),.s x,.s y,.s s,.r [[.s x],[.s y],[.s s]]]) (e0:=qpX x) (e1:=qpX y) (e2:=qpX s) (fin:=[.s x,.s y,.s s])
    (by rw [q4R]; simp only [show (((0 : Nat)) : Int) = 0 from rfl, show (((1 : Nat)) : Int) = 1 from rfl, d0, d3]
        by_cases c:qpX x=0
        · simp only[STD,c0,c,w0,show (0:Int)<3 by omega,qJE,and_self]
        · simp only[STD,c0,c,show (0:Int)<3 by omega,qJE,and_self])
    (by rw [q4R]; simp only [show (((1 : Nat)) : Int) = 1 from rfl, show (((2 : Nat)) : Int) = 2 from rfl, d1, d3]
        by_cases c:qpX y=0
        · simp only[STD,c1,c,w1,show (1:Int)<3 by omega,show (0:Int)<=1 by omega,and_self]
        · simp only[STD,c1,c,show (1:Int)<3 by omega,show (0:Int)<=1 by omega,and_self])
    (by rw [q4R]; simp only [show (((2 : Nat)) : Int) = 2 from rfl, show (((3 : Nat)) : Int) = 3 from rfl, d2, d3]
        by_cases c:qpX s=0
        · simp only[STD,c2,c,w2,show (2:Int)<3 by omega,show (0:Int)<=2 by omega,and_self]
        · simp only[STD,c2,c,show (2:Int)<3 by omega,show (0:Int)<=2 by omega,and_self])
    (by rw[q4R];simp only[show (((3:Nat)):Int)=3 from rfl];simp only[STD,show ¬(3:Int)<3 by omega])
  simp only[show (((0:Nat)):Int)=0 from rfl] at key;unfold qGg;rw[d3];by_cases e0:qpX x=0
  · by_cases e1:qpX y=0
    · by_cases e2:qpX s=0
      · simp only[e0,e1,e2,ne_eq,not_true,if_false] at key ⊢
        obtain⟨q,hq,_⟩:=qGd e2;have hl:(0:Int)<qB s:=by have h1:=qpj q;have h2:=qkQ q;rw[hq];unfold qB;omega
        by_cases hm:s.getD 0 0=45
        · simp only[STD,key,zt key,qJE,hl,and_self,qjE,hm]
        · simp only[STD,key,zt key,qJE,hl,and_self,qjE,hm]
      · simp only[e0,e1,e2,ne_eq,not_true,not_false_eq_true,if_false,if_true] at key ⊢
        simp only[STD,key,zt key,show ¬(1=0) by omega]
    · simp only[e0,e1,ne_eq,not_true,not_false_eq_true,if_false,if_true] at key ⊢
      simp only[STD,key,zt key,show ¬(1=0) by omega]
  · simp only[e0,ne_eq,not_false_eq_true,if_true] at key ⊢
    simp only[STD,key,zt key,show ¬(1=0) by omega]
theorem qGn{d:DQ}(h1:okQ d.x)(h2:okQ d.y)(h3:okQ d.s)(h:0<=d.s):qGg (tQ d.x) (tQ d.y) (tQ d.s)=0:=by unfold qGg;rw[qsw h1,qsw h2,qsw h3];have:=qFt h;rw[if_neg (by simp),if_neg (by simp),if_neg (by simp),if_neg this]
def Bd(C e:Nat)(x:Int):Prop:=x.natAbs<=C*10^e
theorem Bd.mul{C e C' e':Nat}{x y:Int}(h:Bd C e x)(h':Bd C' e' y):Bd (C*C') (e+e') (x*y):=by
 unfold Bd at *;rw[qKo,Nat.pow_add];have:=qK4 h h';have e1:C*10^e*(C'*10^e')=C*C'*(10^e*10^e'):=by rw[Nat.mul_mul_mul_comm]
 omega
theorem Bd.mono{C e C' e':Nat}{x:Int}(h:Bd C e x)(hC:C<=C')(he:e<=e'):Bd C' e' x:=by unfold Bd at *;exact qJg h (qK4 hC (qKO (by omega) he))
theorem Bd.add{C C' e:Nat}{x y:Int}(h:Bd C e x)(h':Bd C' e y):Bd (C+C') e (x+y):=by unfold Bd at *;rw[qJt];have:=Int.natAbs_add_le x y;omega
theorem Bd.neg{C e:Nat}{x:Int}(h:Bd C e x):Bd C e (-x):=by unfold Bd at *;rw[Int.natAbs_neg];exact h
theorem Bd.sub{C C' e:Nat}{x y:Int}(h:Bd C e x)(h':Bd C' e y):Bd (C+C') e (x-y):=by rw[Int.sub_eq_add_neg];exact h.add h'.neg
theorem Bd.okL{C e k:Nat}{x:Int}(h:Bd C e x)(hC:C<=10^k)(he:k+e<=1023)(hne:0<e+k):okL x:=by unfold Go.Eng.okL nl;unfold Bd at h;have h1:C*10^e<=10^k*10^e:=qJD _ hC;rw[<-Nat.pow_add] at h1;have h2:(10:Nat)^(k+e)<10^(k+e+1):=Nat.pow_lt_pow_right (by omega) (by omega);have:=q1A (k+e) x.natAbs (by omega);omega
structure WtD (h v:Nat) (q:Rat):Prop where
 n:Bd 1 h q.num
 d:Bd 1 v (q.den:Int)
 dh:Bd 1 h (q.den:Int)
theorem qno{q:Rat}{P M:Int}(hM:M≠0)(h:q*(M:Rat)=(P:Rat)):q.num.natAbs<=P.natAbs/\q.den<=M.natAbs:=by
 have hM':(M:Rat)≠0:=by intro e;exact hM (Rat.intCast_inj.1 (e.trans (by simp)))
 have e:q=Rat.divInt P M:=by rw[Rat.divInt_eq_div,<-h];exact(Rat.mul_div_cancel hM').symm
 rw[e];constructor
 ·rw[Rat.num_divInt];refine qJg (qLb _ _) ?_;rw[qKo,qLy hM];omega
 ·rw[Rat.den_divInt,if_neg hM];exact qL2 _ _
structure SQ where
 fx:Rat
 fy:Rat
 ax:Rat
 ay:Rat
 h:Rat
def qp(a b:DQ)(neg:Bool):SQ:=
 let dx:=b.x-a.x
 let dy:=b.y-a.y
 let far:=dx*dx+dy*dy
 let t:=(far+a.s-b.s)/(2*far)
 ⟨a.x+t*dx,a.y+t*dy,if neg then dy else 0-dy,if neg then 0-dx else dx,a.s/far-t*t⟩
def kA(d:DQ)(p:SQ):Rat:=(p.fx-d.x)*(p.fx-d.x)+(p.fy-d.y)*(p.fy-d.y)+p.h*(p.ax*p.ax+p.ay*p.ay)-d.s
def kB(d:DQ)(p:SQ):Rat:=2*((p.fx-d.x)*p.ax+(p.fy-d.y)*p.ay)
def q1I(d:DQ)(p:SQ):Prop:=qhL (kA d p) (kB d p) p.h<=0
instance (d:DQ) (p:SQ):Decidable (q1I d p):=by unfold q1I;infer_instance
section
variable (a1 p1 b1 q1 c1 r1 a2 p2 b2 q2 c2 r2 a3 p3 b3 q3 c3 r3:Int)
def iU:Int:=a2*p1-a1*p2
def iN:Int:=iU a1 p1 a2 p2*iU a1 p1 a2 p2*((q1*q2)*(q1*q2))+iU b1 q1 b2 q2*iU b1 q1 b2 q2*((p1*p2)*(p1*p2))
def iD:Int:=(p1*p2*(q1*q2))*(p1*p2*(q1*q2))
def iT:Int:=iN a1 p1 b1 q1 a2 p2 b2 q2*(r1*r2)+(c1*r2-c2*r1)*iD p1 q1 p2 q2
def iE:Int:=a1*p3-a3*p1
def iG:Int:=iE a1 p1 a3 p3*iE a1 p1 a3 p3*((q1*q3)*(q1*q3))+iE b1 q1 b3 q3*iE b1 q1 b3 q3*((p1*p3)*(p1*p3))
def iH:Int:=iE a1 p1 a3 p3*iU a1 p1 a2 p2*((q1*q1)*(q2*q3))+iE b1 q1 b3 q3*iU b1 q1 b2 q2*((p1*p1)*(p2*p3))
def iSq:Int:=((p1*q1)*(p3*q3))*((p1*q1)*(p3*q3))
def iA:Int:=iG a1 p1 b1 q1 a3 p3 b3 q3*iN a1 p1 b1 q1 a2 p2 b2 q2*(r1*r2*r3)*(p2*q2)+iT a1 p1 b1 q1 c1 r1 a2 p2 b2 q2 c2 r2*iH a1 p1 b1 q1 a2 p2 b2 q2 a3 p3 b3 q3*r3*(p3*q3)
 + c1*iN a1 p1 b1 q1 a2 p2 b2 q2*(r2*r3)*iSq p1 q1 p3 q3*(p2*q2)-c3*iN a1 p1 b1 q1 a2 p2 b2 q2*(r1*r2)*iSq p1 q1 p3 q3*(p2*q2)
def iM:Int:=iN a1 p1 b1 q1 a2 p2 b2 q2*(r1*r2*r3)*iSq p1 q1 p3 q3*(p2*q2)
def iK:Int:=2*(iE b1 q1 b3 q3*iU a1 p1 a2 p2*(p3*q2)-iE a1 p1 a3 p3*iU b1 q1 b2 q2*(q3*p2))
def iQ:Int:=(p1*p2*p3)*(q1*q2*q3)
def iCn:Int:=4*(c1*iD p1 q1 p2 q2*iN a1 p1 b1 q1 a2 p2 b2 q2*r1*(r2*r2))-iT a1 p1 b1 q1 c1 r1 a2 p2 b2 q2 c2 r2*iT a1 p1 b1 q1 c1 r1 a2 p2 b2 q2 c2 r2
def iCd:Int:=4*(iN a1 p1 b1 q1 a2 p2 b2 q2*iN a1 p1 b1 q1 a2 p2 b2 q2)*((r1*r2)*(r1*r2))
end
section
variable {a1 p1 b1 q1 c1 r1 a2 p2 b2 q2 c2 r2 a3 p3 b3 q3 c3 r3:Int} {hx1 hy1 hs1 hx2 hy2 hs2 hx3 hy3 hs3 vx1 vy1 vs1 vx2 vy2 vs2 vx3 vy3 vs3:Nat}
theorem bU(h1:Bd 1 hx1 a1)(h2:Bd 1 hx1 p1)(h3:Bd 1 hx2 a2)(h4:Bd 1 hx2 p2):Bd 2 (hx1+hx2) (iU a1 p1 a2 p2):=((h3.mul h2).mono (qJe _) (by omega)).sub (h1.mul h4)
theorem bE(h1:Bd 1 hx1 a1)(h2:Bd 1 hx1 p1)(h3:Bd 1 hx3 a3)(h4:Bd 1 hx3 p3):Bd 2 (hx1+hx3) (iE a1 p1 a3 p3):=(h1.mul h4).sub ((h3.mul h2).mono (qJe _) (by omega))
theorem bN(x1:Bd 1 hx1 a1)(x1':Bd 1 hx1 p1)(y1:Bd 1 hy1 b1)(y1':Bd 1 hy1 q1)(x2:Bd 1 hx2 a2)(x2':Bd 1 hx2 p2)(y2:Bd 1 hy2 b2)(y2':Bd 1 hy2 q2) :Bd 8 (2*(hx1+hx2+hy1+hy2)) (iN a1 p1 b1 q1 a2 p2 b2 q2):=by have u:=bU x1 x1' x2 x2';have v:=bU y1 y1' y2 y2';have qq:=y1'.mul y2';have pp:=x1'.mul x2';exact(((u.mul u).mul (qq.mul qq)).mono (C':=4) (by omega) (by omega)).add (((v.mul v).mul (pp.mul pp)).mono (C':=4) (by omega) (by omega))
theorem bD(x1':Bd 1 hx1 p1)(y1':Bd 1 hy1 q1)(x2':Bd 1 hx2 p2)(y2':Bd 1 hy2 q2):Bd 1 (2*(hx1+hx2+hy1+hy2)) (iD p1 q1 p2 q2):=by have z:=(x1'.mul x2').mul (y1'.mul y2');exact(z.mul z).mono (by omega) (by omega)
theorem bT(x1:Bd 1 hx1 a1)(x1':Bd 1 hx1 p1)(y1:Bd 1 hy1 b1)(y1':Bd 1 hy1 q1)(x2:Bd 1 hx2 a2)(x2':Bd 1 hx2 p2)(y2:Bd 1 hy2 b2)(y2':Bd 1 hy2 q2)(s1:Bd 1 hs1 c1) (s1':Bd 1 hs1 r1) (s2:Bd 1 hs2 c2) (s2':Bd 1 hs2 r2):Bd 10 (2*(hx1+hx2+hy1+hy2)+hs1+hs2) (iT a1 p1 b1 q1 c1 r1 a2 p2 b2 q2 c2 r2):=by have n:=bN x1 x1' y1 y1' x2 x2' y2 y2';have d:=bD x1' y1' x2' y2';have s:=(s1.mul s2').sub ((s2.mul s1').mono (qJe _) (by omega));exact((n.mul (s1'.mul s2')).mono (C':=8) (by omega) (by omega)).add ((s.mul d).mono (C':=2) (by omega) (by omega))
theorem bG(x1:Bd 1 hx1 a1)(x1':Bd 1 hx1 p1)(y1:Bd 1 hy1 b1)(y1':Bd 1 hy1 q1)(x3:Bd 1 hx3 a3)(x3':Bd 1 hx3 p3)(y3:Bd 1 hy3 b3)(y3':Bd 1 hy3 q3) :Bd 8 (2*(hx1+hx3+hy1+hy3)) (iG a1 p1 b1 q1 a3 p3 b3 q3):=by have u:=bE x1 x1' x3 x3';have v:=bE y1 y1' y3 y3';have qq:=y1'.mul y3';have pp:=x1'.mul x3';exact(((u.mul u).mul (qq.mul qq)).mono (C':=4) (by omega) (by omega)).add (((v.mul v).mul (pp.mul pp)).mono (C':=4) (by omega) (by omega))
theorem bH(x1:Bd 1 hx1 a1)(x1':Bd 1 hx1 p1)(y1:Bd 1 hy1 b1)(y1':Bd 1 hy1 q1)(x2:Bd 1 hx2 a2)(x2':Bd 1 hx2 p2)(y2:Bd 1 hy2 b2)(y2':Bd 1 hy2 q2)(x3:Bd 1 hx3 a3) (x3':Bd 1 hx3 p3) (y3:Bd 1 hy3 b3) (y3':Bd 1 hy3 q3):Bd 8 (2*hx1+hx2+hx3+2*hy1+hy2+hy3) (iH a1 p1 b1 q1 a2 p2 b2 q2 a3 p3 b3 q3):=by have u:=bU x1 x1' x2 x2';have v:=bU y1 y1' y2 y2';have e:=bE x1 x1' x3 x3';have f:=bE y1 y1' y3 y3';exact(((e.mul u).mul ((y1'.mul y1').mul (y2'.mul y3'))).mono (C':=4) (by omega) (by omega)).add (((f.mul v).mul ((x1'.mul x1').mul (x2'.mul x3'))).mono (C':=4) (by omega) (by omega))
theorem bSq(x1':Bd 1 hx1 p1)(y1':Bd 1 hy1 q1)(x3':Bd 1 hx3 p3)(y3':Bd 1 hy3 q3):Bd 1 (2*(hx1+hx3+hy1+hy3)) (iSq p1 q1 p3 q3):=by have z:=(x1'.mul y1').mul (x3'.mul y3');exact(z.mul z).mono (by omega) (by omega)
theorem bA(x1:Bd 1 hx1 a1)(x1':Bd 1 hx1 p1)(y1:Bd 1 hy1 b1)(y1':Bd 1 hy1 q1)(x2:Bd 1 hx2 a2)(x2':Bd 1 hx2 p2)(y2:Bd 1 hy2 b2)(y2':Bd 1 hy2 q2)(x3:Bd 1 hx3 a3) (x3':Bd 1 hx3 p3) (y3:Bd 1 hy3 b3) (y3':Bd 1 hy3 q3) (s1:Bd 1 hs1 c1) (s1':Bd 1 hs1 r1) (s2:Bd 1 hs2 c2) (s2':Bd 1 hs2 r2) (s3:Bd 1 hs3 c3) (s3':Bd 1 hs3 r3) :Bd 160 (4*hx1+3*hx2+2*hx3+4*hy1+3*hy2+2*hy3+hs1+hs2+hs3) (iA a1 p1 b1 q1 c1 r1 a2 p2 b2 q2 c2 r2 a3 p3 b3 q3 c3 r3):=by have g:=bG x1 x1' y1 y1' x3 x3' y3 y3';have n:=bN x1 x1' y1 y1' x2 x2' y2 y2';have t:=bT x1 x1' y1 y1' x2 x2' y2 y2' s1 s1' s2 s2';have h:=bH x1 x1' y1 y1' x2 x2' y2 y2' x3 x3' y3 y3';have sq:=bSq x1' y1' x3' y3';have k1:=(((g.mul n).mul ((s1'.mul s2').mul s3')).mul (x2'.mul y2')).mono (C':=64) (e':=4*hx1+3*hx2+2*hx3+4*hy1+3*hy2+2*hy3+hs1+hs2+hs3) (by omega) (by omega);have k2:=(((t.mul h).mul s3').mul (x3'.mul y3')).mono (C':=80) (e':=4*hx1+3*hx2+2*hx3+4*hy1+3*hy2+2*hy3+hs1+hs2+hs3) (by omega) (by omega);have k3:=((((s1.mul n).mul (s2'.mul s3')).mul sq).mul (x2'.mul y2')).mono (C':=8) (e':=4*hx1+3*hx2+2*hx3+4*hy1+3*hy2+2*hy3+hs1+hs2+hs3) (by omega) (by omega);have k4:=((((s3.mul n).mul (s1'.mul s2')).mul sq).mul (x2'.mul y2')).mono (C':=8) (e':=4*hx1+3*hx2+2*hx3+4*hy1+3*hy2+2*hy3+hs1+hs2+hs3) (by omega) (by omega);exact((k1.add k2).add k3).sub k4
theorem bM(x1:Bd 1 hx1 a1)(x1':Bd 1 hx1 p1)(y1:Bd 1 hy1 b1)(y1':Bd 1 hy1 q1)(x2:Bd 1 hx2 a2)(x2':Bd 1 hx2 p2)(y2:Bd 1 hy2 b2)(y2':Bd 1 hy2 q2)(wx1:Bd 1 vx1 p1) (wy1:Bd 1 vy1 q1) (wx2:Bd 1 vx2 p2) (wy2:Bd 1 vy2 q2) (wx3:Bd 1 vx3 p3) (wy3:Bd 1 vy3 q3) (ws1:Bd 1 vs1 r1) (ws2:Bd 1 vs2 r2) (ws3:Bd 1 vs3 r3) :Bd 8 (2*(hx1+hx2+hy1+hy2)+(vs1+vs2+vs3)+2*(vx1+vx3+vy1+vy3)+(vx2+vy2)) (iM a1 p1 b1 q1 r1 a2 p2 b2 q2 r2 p3 q3 r3):=by have n:=bN x1 x1' y1 y1' x2 x2' y2 y2';have sq:=bSq wx1 wy1 wx3 wy3;exact(((n.mul ((ws1.mul ws2).mul ws3)).mul sq).mul (wx2.mul wy2)).mono (by omega) (by omega)
theorem bK(x1:Bd 1 hx1 a1)(x1':Bd 1 hx1 p1)(y1:Bd 1 hy1 b1)(y1':Bd 1 hy1 q1)(x2:Bd 1 hx2 a2)(x2':Bd 1 hx2 p2)(y2:Bd 1 hy2 b2)(y2':Bd 1 hy2 q2)(x3:Bd 1 hx3 a3) (x3':Bd 1 hx3 p3) (y3:Bd 1 hy3 b3) (y3':Bd 1 hy3 q3):Bd 16 (hx1+hx2+hx3+hy1+hy2+hy3) (iK a1 p1 b1 q1 a2 p2 b2 q2 a3 p3 b3 q3):=by
 have u:=bU x1 x1' x2 x2';have v:=bU y1 y1' y2 y2';have e:=bE x1 x1' x3 x3';have f:=bE y1 y1' y3 y3';have two:Bd 2 0 2:=by unfold Bd;decide
 have k1:=((f.mul u).mul (x3'.mul y2')).mono (C':=4) (e':=hx1+hx2+hx3+hy1+hy2+hy3) (by omega) (by omega);have k2:=((e.mul v).mul (y3'.mul x2')).mono (C':=4) (e':=hx1+hx2+hx3+hy1+hy2+hy3) (by omega) (by omega);exact(two.mul (k1.sub k2)).mono (by omega) (by omega)
theorem bQ(wx1:Bd 1 vx1 p1)(wy1:Bd 1 vy1 q1)(wx2:Bd 1 vx2 p2)(wy2:Bd 1 vy2 q2)(wx3:Bd 1 vx3 p3)(wy3:Bd 1 vy3 q3):Bd 1 (vx1+vx2+vx3+(vy1+vy2+vy3)) (iQ p1 q1 p2 q2 p3 q3):=(((wx1.mul wx2).mul wx3).mul ((wy1.mul wy2).mul wy3)).mono (by omega) (by omega)
theorem bCn(x1:Bd 1 hx1 a1)(x1':Bd 1 hx1 p1)(y1:Bd 1 hy1 b1)(y1':Bd 1 hy1 q1)(x2:Bd 1 hx2 a2)(x2':Bd 1 hx2 p2)(y2:Bd 1 hy2 b2)(y2':Bd 1 hy2 q2)(s1:Bd 1 hs1 c1) (s1':Bd 1 hs1 r1) (s2:Bd 1 hs2 c2) (s2':Bd 1 hs2 r2):Bd 132 (4*(hx1+hx2+hy1+hy2)+2*hs1+2*hs2) (iCn a1 p1 b1 q1 c1 r1 a2 p2 b2 q2 c2 r2):=by
 have n:=bN x1 x1' y1 y1' x2 x2' y2 y2';have d:=bD x1' y1' x2' y2';have t:=bT x1 x1' y1 y1' x2 x2' y2 y2' s1 s1' s2 s2';have four:Bd 4 0 4:=by unfold Bd;decide
 have k1:=(four.mul ((((s1.mul d).mul n).mul s1').mul (s2'.mul s2'))).mono (C':=32) (e':=4*(hx1+hx2+hy1+hy2)+2*hs1+2*hs2) (by omega) (by omega);have k2:=(t.mul t).mono (C':=100) (e':=4*(hx1+hx2+hy1+hy2)+2*hs1+2*hs2) (by omega) (by omega);exact k1.sub k2
theorem bCd(x1:Bd 1 hx1 a1)(x1':Bd 1 hx1 p1)(y1:Bd 1 hy1 b1)(y1':Bd 1 hy1 q1)(x2:Bd 1 hx2 a2)(x2':Bd 1 hx2 p2)(y2:Bd 1 hy2 b2)(y2':Bd 1 hy2 q2)(ws1:Bd 1 vs1 r1) (ws2:Bd 1 vs2 r2):Bd 256 (4*(hx1+hx2+hy1+hy2)+2*vs1+2*vs2) (iCd a1 p1 b1 q1 r1 a2 p2 b2 q2 r2):=by
 have n:=bN x1 x1' y1 y1' x2 x2' y2 y2';have four:Bd 4 0 4:=by unfold Bd;decide
 exact((four.mul (n.mul n)).mul ((ws1.mul ws2).mul (ws1.mul ws2))).mono (by omega) (by omega)
end
section
variable (a b d:DQ)
theorem qxs(q:Rat):(q.den:Rat)≠0:=by have:=q3g q;grind
theorem qwy(neg:Bool)(hf:(b.x-a.x)*(b.x-a.x)+(b.y-a.y)*(b.y-a.y)≠0) :kA d (qp a b neg)*((iM a.x.num a.x.den a.y.num a.y.den a.s.den b.x.num b.x.den b.y.num b.y.den b.s.den d.x.den d.y.den d.s.den:Int):Rat)=((iA a.x.num a.x.den a.y.num a.y.den a.s.num a.s.den b.x.num b.x.den b.y.num b.y.den b.s.num b.s.den d.x.num d.x.den d.y.num d.y.den d.s.num d.s.den:Int):Rat) /\kB d (qp a b neg)*((iQ a.x.den a.y.den b.x.den b.y.den d.x.den d.y.den:Int):Rat)=(((if neg then -1 else 1)*iK a.x.num a.x.den a.y.num a.y.den b.x.num b.x.den b.y.num b.y.den d.x.num d.x.den d.y.num d.y.den:Int):Rat) /\(qp a b neg).h*((iCd a.x.num a.x.den a.y.num a.y.den a.s.den b.x.num b.x.den b.y.num b.y.den b.s.den:Int):Rat)=((iCn a.x.num a.x.den a.y.num a.y.den a.s.num a.s.den b.x.num b.x.den b.y.num b.y.den b.s.num b.s.den:Int):Rat) /\iN a.x.num a.x.den a.y.num a.y.den b.x.num b.x.den b.y.num b.y.den≠0:=by
 obtain⟨far,hfar⟩:∃far,far=(b.x-a.x)*(b.x-a.x)+(b.y-a.y)*(b.y-a.y):=⟨_,rfl⟩;obtain⟨t,ht⟩:∃t,t=(far+a.s-b.s)/(2*far):=⟨_,rfl⟩;obtain⟨h,hh⟩:∃h,h=a.s/far-t*t:=⟨_,rfl⟩;rw[<-hfar] at hf;have h2f:2*far≠0:=by grind
 have ht':2*far*t=far+a.s-b.s:=by rw[ht,Rat.mul_comm];exact Rat.div_mul_cancel h2f
 have hh':far*h=a.s-far*(t*t):=by have:a.s/far*far=a.s:=Rat.div_mul_cancel hf;rw[hh];grind
 have hc:qp a b neg=⟨a.x+t*(b.x-a.x),a.y+t*(b.y-a.y),if neg then b.y-a.y else 0-(b.y-a.y),if neg then 0-(b.x-a.x) else b.x-a.x,h⟩:=by rw[hh,ht,hfar];rfl
 rw[hc];have nx1:=qeW a.x;have ny1:=qeW a.y;have ns1:=qeW a.s;have nx2:=qeW b.x;have ny2:=qeW b.y;have ns2:=qeW b.s;have nx3:=qeW d.x;have ny3:=qeW d.y;have ns3:=qeW d.s;have px1:=qxs a.x;have py1:=qxs a.y;have px2:=qxs b.x;have py2:=qxs b.y;obtain⟨x1,y1,s1⟩:=a;obtain⟨x2,y2,s2⟩:=b;obtain⟨x3,y3,s3⟩:=d;simp only at *;have hU:((iU x1.num x1.den x2.num x2.den:Int):Rat)=(x2-x1)*((x1.den:Rat)*x2.den):=by unfold iU;simp only[qK6,qJS,Rat.intCast_natCast,nx1,nx2];grind
 have hV:((iU y1.num y1.den y2.num y2.den:Int):Rat)=(y2-y1)*((y1.den:Rat)*y2.den):=by unfold iU;simp only[qK6,qJS,Rat.intCast_natCast,ny1,ny2];grind
 have hE:((iE x1.num x1.den x3.num x3.den:Int):Rat)=(x1-x3)*((x1.den:Rat)*x3.den):=by unfold iE;simp only[qK6,qJS,Rat.intCast_natCast,nx1,nx3];grind
 have hF:((iE y1.num y1.den y3.num y3.den:Int):Rat)=(y1-y3)*((y1.den:Rat)*y3.den):=by unfold iE;simp only[qK6,qJS,Rat.intCast_natCast,ny1,ny3];grind
 have hD:((iD x1.den y1.den x2.den y2.den:Int):Rat)=((x1.den:Rat)*x2.den*(y1.den*y2.den))*((x1.den:Rat)*x2.den*(y1.den*y2.den)):=by unfold iD;simp only[qJS,Rat.intCast_natCast]
 have hN:((iN x1.num x1.den y1.num y1.den x2.num x2.den y2.num y2.den:Int):Rat)=far*(((x1.den:Rat)*x2.den*(y1.den*y2.den))*((x1.den:Rat)*x2.den*(y1.den*y2.den))):=by unfold iN;simp only[qKF,qJS,Rat.intCast_natCast,hU,hV,hfar];grind
 have hN0:iN x1.num x1.den y1.num y1.den x2.num x2.den y2.num y2.den≠0:=by
  intro e;rw[e] at hN;have h1:(x1.den:Rat)*x2.den*(y1.den*y2.den)≠0:=by have:=qJF (qJF (q3g x1) (q3g x2)) (qJF (q3g y1) (q3g y2));grind
  have h2:far*(((x1.den:Rat)*x2.den*(y1.den*y2.den))*((x1.den:Rat)*x2.den*(y1.den*y2.den)))=0:=by rw[<-hN];simp
  rcases qKB.1 h2 with h3|h3
  ·exact hf h3
  ·rcases qKB.1 h3 with h4|h4<;>exact h1 h4
 have hT:((iT x1.num x1.den y1.num y1.den s1.num s1.den x2.num x2.den y2.num y2.den s2.num s2.den:Int):Rat)=2*t*far*(((x1.den:Rat)*x2.den*(y1.den*y2.den))*((x1.den:Rat)*x2.den*(y1.den*y2.den)))*((s1.den:Rat)*s2.den):=by
  unfold iT;simp only[qKF,qK6,qJS,Rat.intCast_natCast,hN,hD,ns1,ns2];generalize ((x1.den:Rat)*x2.den*(y1.den*y2.den))*((x1.den:Rat)*x2.den*(y1.den*y2.den))=D2;have:2*t*far*D2*((s1.den:Rat)*s2.den)=(2*far*t)*(D2*((s1.den:Rat)*s2.den)):=by grind
  rw[this,ht'];grind
 have hG:((iG x1.num x1.den y1.num y1.den x3.num x3.den y3.num y3.den:Int):Rat)=((x1-x3)*(x1-x3)+(y1-y3)*(y1-y3))*(((x1.den:Rat)*y1.den*(x3.den*y3.den))*((x1.den:Rat)*y1.den*(x3.den*y3.den))):=by unfold iG;simp only[qKF,qJS,Rat.intCast_natCast,hE,hF];grind
 have hH:((iH x1.num x1.den y1.num y1.den x2.num x2.den y2.num y2.den x3.num x3.den y3.num y3.den:Int):Rat)=((x1-x3)*(x2-x1)+(y1-y3)*(y2-y1))*(((x1.den:Rat)*x1.den*(x2.den*x3.den))*((y1.den:Rat)*y1.den*(y2.den*y3.den))):=by unfold iH;simp only[qKF,qJS,Rat.intCast_natCast,hE,hF,hU,hV];grind
 have hSq:((iSq x1.den y1.den x3.den y3.den:Int):Rat)=((x1.den:Rat)*y1.den*(x3.den*y3.den))*((x1.den:Rat)*y1.den*(x3.den*y3.den)):=by unfold iSq;simp only[qJS,Rat.intCast_natCast]
 refine⟨?_,?_,?_,hN0⟩
 ·unfold iM iA;simp only[qKF,qK6,qJS,Rat.intCast_natCast,hN,hT,hG,hH,hSq,ns1,ns3];have hA:kA ⟨x3,y3,s3⟩ ⟨x1+t*(x2-x1),y1+t*(y2-y1),if neg then y2-y1 else 0-(y2-y1),if neg then 0-(x2-x1) else x2-x1,h⟩=(x1-x3)*(x1-x3)+(y1-y3)*(y1-y3)+2*t*((x1-x3)*(x2-x1)+(y1-y3)*(y2-y1))+s1-s3:=by
   have e1:kA ⟨x3,y3,s3⟩ ⟨x1+t*(x2-x1),y1+t*(y2-y1),if neg then y2-y1 else 0-(y2-y1),if neg then 0-(x2-x1) else x2-x1,h⟩=(x1-x3)*(x1-x3)+(y1-y3)*(y1-y3)+2*t*((x1-x3)*(x2-x1)+(y1-y3)*(y2-y1))+far*(t*t)+far*h-s3:=by
    unfold kA;rw[hfar];cases neg
    ·simp only[qJA,if_false];grind
    ·simp only[if_true];grind
   rw[e1,hh'];grind
  rw[hA];generalize (x1-x3)*(x1-x3)+(y1-y3)*(y1-y3)=e2;generalize (x1-x3)*(x2-x1)+(y1-y3)*(y2-y1)=ed;generalize (x1.den:Rat)=P1;generalize (x2.den:Rat)=P2;generalize (x3.den:Rat)=P3;generalize (y1.den:Rat)=Q1;generalize (y2.den:Rat)=Q2;generalize (y3.den:Rat)=Q3;generalize (s1.den:Rat)=R1;generalize (s2.den:Rat)=R2;generalize (s3.den:Rat)=R3;clear hU hV hE hF hD hN hN0 hT hG hH hSq nx1 nx2 nx3 ny1 ny2 ny3 ns1 ns2 ns3 px1 px2 py1 py2 hf h2f ht' hh' hc hfar;grind
 ·unfold iQ iK kB;simp only[qK6,qJS,Rat.intCast_natCast,hE,hF,hU,hV];cases neg
  ·simp only[qJA,if_false];simp;grind
  ·simp only[if_true];simp;grind
 ·unfold iCd iCn;simp only[qK6,qJS,Rat.intCast_natCast,hN,hT,hD,ns1];generalize ((x1.den:Rat)*x2.den*(y1.den*y2.den))*((x1.den:Rat)*x2.den*(y1.den*y2.den))=D2;generalize (s1.den:Rat)=R1;generalize (s2.den:Rat)=R2;have e:s1=far*h+far*(t*t):=by rw[hh'];grind
  have f4:((4:Int):Rat)=4:=by simp
  rw[f4,e];clear hU hV hE hF hD hN hN0 hT hG hH hSq nx1 nx2 nx3 ny1 ny2 ny3 ns1 ns2 ns3 px1 px2 py1 py2 hf h2f ht' hh' hc hfar;grind
end
end Go.Eng

namespace Go.Eng
theorem qrH{a b c:Rat}(hc:0<=c):qhL a b c<=0↔(a<=0/\(b<=0\/c=0\/b*b*c<=a*a))\/(0<a/\b<0/\a*a<=b*b*c):=by
 have hs:=qlf (a*a-b*b*c);have hs':(0<=sgq (a*a-b*b*c))=(b*b*c<=a*a):=by
  have h1:=qzJ (a*a-b*b*c);have h2:=qlf (-(a*a-b*b*c));refine propext ⟨fun h=>?_,fun h=>?_⟩
  ·have:=h2▸(show sgq (-(a*a-b*b*c))<=0 by omega);grind
  ·have:sgq (-(a*a-b*b*c))<=0:=h2▸(show -(a*a-b*b*c)<=0 by grind);omega
 have bd:=qBv (a*a-b*b*c);have pb:0<b->0<c->0<b*b*c:=fun h1 h2=>qJF (qJF h1 h1) h2;have pa:0<a->0<a*a:=fun h1=>qJF h1 h1;have za:a=0->a*a=0:=fun h=>by rw[h];grind
 have zc:c=0->b*b*c=0:=fun h=>by rw[h];grind
 unfold qhL;generalize hz:sgq (a*a-b*b*c)=z at *;rcases qdj a with⟨ha,ea⟩|⟨ha,ea⟩|⟨ha,ea⟩<;>rcases qdj b with⟨hb,eb⟩|⟨hb,eb⟩|⟨hb,eb⟩<;>rcases qdj c with⟨hc',ec⟩|⟨hc',ec⟩|⟨hc',ec⟩<;>rw[ea,eb,ec]
 all_goals try (exfalso;grind)
 all_goals simp only[
  
  
  show (-1:Int)*0=0 by decide,show (-1:Int)*1=-1 by decide,show (0:Int)*0=0 by decide,show (0:Int)*1=0 by decide,show (1:Int)*0=0 by decide,show (1:Int)*1=1 by decide,qJP]
 all_goals simp
 all_goals first|(exfalso;grind)|skip
 all_goals grind
theorem qrY{a b:Rat}(h0:0<=a)(h:a<=b):a*a<=b*b:=by have:=qJr (show 0<=b-a by grind) (show 0<=b+a by grind);grind
theorem qxC{a b:Rat}(hb:0<=b)(h:a*a<=b*b):a<=b:=by apply Rat.not_lt.1;intro hn;have:=qJF (show 0<a-b by grind) (show 0<a+b by grind);grind
theorem qz3{a b c T0 T1:Rat}(h0:0<=T0)(h1:T0<=T1)(k0:T0*T0<=c)(k1:c<=T1*T1)(e0:a+b*T0<=0)(e1:a+b*T1<=0):qhL a b c<=0:=by
 have hc:0<=c:=by have:=qJr h0 h0;grind
 rw[qrH hc];by_cases hb:b<=0
 ·by_cases ha:a<=0
  ·exact .inl ⟨ha,.inl hb⟩
  ·have hb':b<0:=by
    apply Rat.not_le.1;intro hn;have h:b=0:=by grind
    rw[h] at e0;grind
   refine .inr ⟨by grind,hb',?_⟩;have h1:=qrY (a:=a) (b:=(-b)*T0) (by grind) (by grind);have h2:=Rat.mul_le_mul_of_nonneg_left k0 (show 0<=b*b by have:=qJr (show 0<=-b by grind) (show 0<=-b by grind);grind);grind
 ·have hb':0<=b:=by grind
  have h3:=qJr hb' h0;refine .inl ⟨by grind,.inr (.inr ?_)⟩;have h3:=qJr hb' (show 0<=T1 by grind);have h1:=qrY (a:=b*T1) (b:=-a) h3 (by grind);have h2:=Rat.mul_le_mul_of_nonneg_left k1 (qJr hb' hb');grind
theorem qAL{a b c:Rat}(hc:0<=c)(h:qhL a b c<=0):∃T,0<=T/\T*T<=c/\∀S,T<=S->S*S<=c->a+b*S<=0:=by
 rw[qrH hc] at h;by_cases hb:b<0
 ·by_cases ha:a<=0
  ·refine⟨0,by grind,by grind,fun S h1 h2=>?_⟩;have:=qJr (show 0<=-b by grind) h1;grind
  ·rcases h with h|⟨h1,h2,h3⟩
   ·exact absurd h.1 ha
   ·have hq:a/(-b)*(-b)=a:=Rat.div_mul_cancel (by grind);have hq0:0<=a/(-b):=by apply Rat.not_lt.1;intro hn;have:=qJF (show 0 < -(a/(-b)) by grind) (show 0 < -b by grind);grind
    generalize a/(-b)=T at *;refine⟨T,hq0,?_,fun S hS _=>?_⟩
    ·apply Rat.not_lt.1;intro hn;have:=qJF (show 0<T*T-c by grind) (qJF (show 0 < -b by grind) (show 0 < -b by grind));have e:a*a=T*T*(b*b):=by rw[<-hq];grind
     rw[e] at h3;clear e hq;grind
    ·have:=qJr (show 0<=-b by grind) (show 0<=S-T by grind);grind
 ·refine⟨0,by grind,by grind,fun S h1 h2=>?_⟩;rcases h with⟨h3,h4⟩|⟨_,h5,_⟩
  ·rcases h4 with h4|h4|h4
   ·have:b=0:=by grind
    rw[this];grind
   ·have:S*S<=0:=by grind
    have h6:=qxC (a:=S) (b:=0) (by grind) (by grind);have:S=0:=by grind
    rw[this];grind
   ·have k1:=Rat.mul_le_mul_of_nonneg_left h2 (qJr (show 0<=b by grind) (show 0<=b by grind));have:=qxC (a:=b*S) (b:=-a) (by grind) (by grind);grind
  ·exact absurd h5 hb
def pw(d:DQ)(x y:Rat):Rat:=(x-d.x)*(x-d.x)+(y-d.y)*(y-d.y)-d.s
def qhD(l:List DQ):Prop:=∃x y:Rat,∀d∈l,pw d x y<=0
theorem qhD.mono{l l':List DQ}(h:qhD l)(hs:∀d∈l',d∈l):qhD l':=by obtain⟨x,y,h⟩:=h;exact⟨x,y,fun d hd=>h d (hs d hd)⟩
theorem qCp(d:DQ)(p:SQ)(T:Rat):pw d (p.fx+T*p.ax) (p.fy+T*p.ay)=kA d p+kB d p*T+(p.ax*p.ax+p.ay*p.ay)*(T*T-p.h):=by unfold pw kA kB;grind
theorem qbd(a:Rat):0<=a*a:=by
 rcases Rat.le_total (a:=0) (b:=a) with h|h
 ·exact qJr h h
 ·have:=qJr (show 0<=-a by grind) (show 0<=-a by grind);grind
theorem qr9(p:SQ)(hn:0<=p.h):∀l:List DQ,(∀d∈l,q1I d p)->∃T,0<=T/\T*T<=p.h/\∀d∈l,∀S,T<=S->S*S<=p.h->kA d p+kB d p*S<=0
 | [],_=>⟨0,by grind,by grind,fun d hd=>by cases hd⟩
 | a::l,h=>by
  obtain⟨T,h1,h2,h3⟩:=qr9 p hn l fun d hd=>h d (qJy _ hd);obtain⟨T',k1,k2,k3⟩:=qAL hn (h a qJs);rcases Rat.le_total (a:=T) (b:=T') with hT|hT
  ·refine⟨T',k1,k2,fun d hd S hS hS2=>?_⟩;rcases qJi.1 hd with rfl|hd
   ·exact k3 S hS hS2
   ·exact h3 d hd S (Rat.le_trans hT hS) hS2
  ·refine⟨T,h1,h2,fun d hd S hS hS2=>?_⟩;rcases qJi.1 hd with rfl|hd
   ·exact k3 S (Rat.le_trans hT hS) hS2
   ·exact h3 d hd S hS hS2
theorem qt7{l:List DQ}{p:SQ}(hn:0<=p.h)(h:∀d∈l,q1I d p):qhD l:=by obtain⟨T,h1,h2,h3⟩:=qr9 p hn l h;refine⟨p.fx+T*p.ax,p.fy+T*p.ay,fun d hd=>?_⟩;rw[qCp];have k1:=h3 d hd T (qKv) h2;have k2:=qJr (show 0<=p.ax*p.ax+p.ay*p.ay by have:=qbd p.ax;have:=qbd p.ay;grind) (show 0<=p.h-T*T by grind);grind
theorem qJ1{A B C D p q r s:Rat}(_:A<=0)(_:B<=0)(_:C<=0)(_:D<=0)(_:0<=p)(_:0<=q)(_:0<=r)(_:0<=s):A+B+C+D-(p+q+r+s)<=0:=by grind
theorem qEu{x1 y1 x2 y2 x3 y3 x4 y4 m1 m2 m3 m4 X Y:Rat}(h1:0<=m1)(h2:0<=m2)(h3:0<=m3)(h4:0<=m4)(hM:0<m1+m2+m3+m4)(hX:X*(m1+m2+m3+m4)=m1*x1+m2*x2+m3*x3+m4*x4) (hY:Y*(m1+m2+m3+m4)=m1*y1+m2*y2+m3*y3+m4*y4) (d:DQ)(k1:m1=0\/pw d x1 y1<=0) (k2:m2=0\/pw d x2 y2<=0) (k3:m3=0\/pw d x3 y3<=0) (k4:m4=0\/pw d x4 y4<=0):pw d X Y<=0:=by
 have aux:∀{m a:Rat},0<=m->(m=0\/a<=0)->m*a<=0:=fun {m a} hm h=>by
  rcases h with rfl|h
  ·grind
  ·have:=qJr hm (show 0<=-a by grind);grind
 have e1:=aux h1 k1;have e2:=aux h2 k2;have e3:=aux h3 k3;have e4:=aux h4 k4;have s1:=qJr h1 (show 0<=(x1-X)*(x1-X)+(y1-Y)*(y1-Y) by have:=qbd (x1-X);have:=qbd (y1-Y);grind);have s2:=qJr h2 (show 0<=(x2-X)*(x2-X)+(y2-Y)*(y2-Y) by have:=qbd (x2-X);have:=qbd (y2-Y);grind);have s3:=qJr h3 (show 0<=(x3-X)*(x3-X)+(y3-Y)*(y3-Y) by have:=qbd (x3-X);have:=qbd (y3-Y);grind);have s4:=qJr h4 (show 0<=(x4-X)*(x4-X)+(y4-Y)*(y4-Y) by have:=qbd (x4-X);have:=qbd (y4-Y);grind);have key:(m1+m2+m3+m4)*pw d X Y=(m1*pw d x1 y1+m2*pw d x2 y2+m3*pw d x3 y3+m4*pw d x4 y4)
   - (m1*((x1-X)*(x1-X)+(y1-Y)*(y1-Y))+m2*((x2-X)*(x2-X)+(y2-Y)*(y2-Y))+m3*((x3-X)*(x3-X)+(y3-Y)*(y3-Y))+m4*((x4-X)*(x4-X)+(y4-Y)*(y4-Y))):=by
  have eX:m1*(x1-X)+m2*(x2-X)+m3*(x3-X)+m4*(x4-X)=0:=by grind
  have eY:m1*(y1-Y)+m2*(y2-Y)+m3*(y3-Y)+m4*(y4-Y)=0:=by grind
  have key0:(m1+m2+m3+m4)*pw d X Y=(m1*pw d x1 y1+m2*pw d x2 y2+m3*pw d x3 y3+m4*pw d x4 y4)
   - (m1*((x1-X)*(x1-X)+(y1-Y)*(y1-Y))+m2*((x2-X)*(x2-X)+(y2-Y)*(y2-Y))+m3*((x3-X)*(x3-X)+(y3-Y)*(y3-Y))+m4*((x4-X)*(x4-X)+(y4-Y)*(y4-Y)))
   - 2*((X-d.x)*(m1*(x1-X)+m2*(x2-X)+m3*(x3-X)+m4*(x4-X))+(Y-d.y)*(m1*(y1-Y)+m2*(y2-Y)+m3*(y3-Y)+m4*(y4-Y))):=by
   unfold pw;clear hX hY eX eY e1 e2 e3 e4 s1 s2 s3 s4 k1 k2 k3 k4 h1 h2 h3 h4 hM aux;grind
  rw[key0,eX,eY];grind
 apply Rat.not_lt.1;intro hn;have hpos:=qJF hM hn;rw[key] at hpos;exact absurd (qJ1 e1 e2 e3 e4 s1 s2 s3 s4) (Rat.not_le.2 hpos)
theorem qnq(a:Rat):∃m n:Rat,0<=m/\0<=n/\a=m-n/\(m=0\/n=0):=by
 rcases Rat.le_total (a:=0) (b:=a) with h|h
 ·exact⟨a,0,h,by grind,by grind,.inr rfl⟩
 ·exact⟨0,-a,by grind,by grind,by grind,.inl rfl⟩
theorem qsj{x1 y1 x2 y2 x3 y3 x4 y4 t1 t2 t3 t4:Rat}(h0:t1+t2+t3+t4=0)(hx:t1*x1+t2*x2+t3*x3+t4*x4=0)(hy:t1*y1+t2*y2+t3*y3+t4*y4=0)(hn:¬(t1=0/\t2=0/\t3=0/\t4=0)):∃X Y,∀d:DQ,((pw d x2 y2<=0/\pw d x3 y3<=0/\pw d x4 y4<=0)\/(pw d x1 y1<=0/\pw d x3 y3<=0/\pw d x4 y4<=0)\/(pw d x1 y1<=0/\pw d x2 y2<=0/\pw d x4 y4<=0)\/(pw d x1 y1<=0/\pw d x2 y2<=0/\pw d x3 y3<=0))->pw d X Y<=0:=by
 obtain⟨m1,n1,a1,b1,rfl,c1⟩:=qnq t1;obtain⟨m2,n2,a2,b2,rfl,c2⟩:=qnq t2;obtain⟨m3,n3,a3,b3,rfl,c3⟩:=qnq t3;obtain⟨m4,n4,a4,b4,rfl,c4⟩:=qnq t4;have hM:0<m1+m2+m3+m4:=by apply Rat.not_le.1;intro hle;exact hn ⟨by grind,by grind,by grind,by grind⟩
 have hN:0<n1+n2+n3+n4:=by grind
 have hM0:m1+m2+m3+m4≠0:=by grind
 refine⟨(m1*x1+m2*x2+m3*x3+m4*x4)/(m1+m2+m3+m4),(m1*y1+m2*y2+m3*y3+m4*y4)/(m1+m2+m3+m4),fun d hd=>?_⟩;have eX:(m1*x1+m2*x2+m3*x3+m4*x4)/(m1+m2+m3+m4)*(m1+m2+m3+m4)=m1*x1+m2*x2+m3*x3+m4*x4:=Rat.div_mul_cancel hM0;have eY:(m1*y1+m2*y2+m3*y3+m4*y4)/(m1+m2+m3+m4)*(m1+m2+m3+m4)=m1*y1+m2*y2+m3*y3+m4*y4:=Rat.div_mul_cancel hM0;generalize (m1*x1+m2*x2+m3*x3+m4*x4)/(m1+m2+m3+m4)=X at *;generalize (m1*y1+m2*y2+m3*y3+m4*y4)/(m1+m2+m3+m4)=Y at *;have hS:n1+n2+n3+n4=m1+m2+m3+m4:=by grind
 have fX:X*(n1+n2+n3+n4)=n1*x1+n2*x2+n3*x3+n4*x4:=by rw[hS,eX];grind
 have fY:Y*(n1+n2+n3+n4)=n1*y1+n2*y2+n3*y3+n4*y4:=by rw[hS,eY];grind
 have P:=qEu a1 a2 a3 a4 hM eX eY d;have Q:=qEu b1 b2 b3 b4 hN fX fY d;rcases hd with⟨p2,p3,p4⟩|⟨p1,p3,p4⟩|⟨p1,p2,p4⟩|⟨p1,p2,p3⟩
 ·rcases c1 with c|c
  ·exact P (.inl c) (.inr p2) (.inr p3) (.inr p4)
  ·exact Q (.inl c) (.inr p2) (.inr p3) (.inr p4)
 ·rcases c2 with c|c
  ·exact P (.inr p1) (.inl c) (.inr p3) (.inr p4)
  ·exact Q (.inr p1) (.inl c) (.inr p3) (.inr p4)
 ·rcases c3 with c|c
  ·exact P (.inr p1) (.inr p2) (.inl c) (.inr p4)
  ·exact Q (.inr p1) (.inr p2) (.inl c) (.inr p4)
 ·rcases c4 with c|c
  ·exact P (.inr p1) (.inr p2) (.inr p3) (.inl c)
  ·exact Q (.inr p1) (.inr p2) (.inr p3) (.inl c)
def qv6(x1 y1 x2 y2 x3 y3:Rat):Rat:=(x2-x1)*(y3-y1)-(x3-x1)*(y2-y1)
theorem qIs(x1 y1 x2 y2 x3 y3 x4 y4:Rat):∃X Y,∀d:DQ,((pw d x2 y2<=0/\pw d x3 y3<=0/\pw d x4 y4<=0)\/(pw d x1 y1<=0/\pw d x3 y3<=0/\pw d x4 y4<=0)\/(pw d x1 y1<=0/\pw d x2 y2<=0/\pw d x4 y4<=0)\/(pw d x1 y1<=0/\pw d x2 y2<=0/\pw d x3 y3<=0))->pw d X Y<=0:=by
 by_cases h:qv6 x2 y2 x3 y3 x4 y4=0/\-qv6 x1 y1 x3 y3 x4 y4=0/\qv6 x1 y1 x2 y2 x4 y4=0/\-qv6 x1 y1 x2 y2 x3 y3=0
 ·by_cases e:x1=x2/\y1=y2
  ·exact qsj (t1:=1) (t2:=-1) (t3:=0) (t4:=0) (by grind) (by grind) (by grind) (by grind)
  ·have hA:(x2-x1)*(y3-y1)-(x3-x1)*(y2-y1)=0:=by have:=h.2.2.2;unfold qv6 at this;grind
   have hD:(x2-x1)*(x2-x1)+(y2-y1)*(y2-y1)≠0:=by
    intro h0;have s1:=qbd (x2-x1);have s2:=qbd (y2-y1);have z1:(x2-x1)*(x2-x1)=0:=by grind
    have z2:(y2-y1)*(y2-y1)=0:=by grind
    rcases qKB.1 z1 with h1|h1<;>rcases qKB.1 z2 with h2|h2<;>exact e ⟨by grind,by grind⟩
   have hu:((x3-x1)*(x2-x1)+(y3-y1)*(y2-y1))/((x2-x1)*(x2-x1)+(y2-y1)*(y2-y1))*((x2-x1)*(x2-x1)+(y2-y1)*(y2-y1))=(x3-x1)*(x2-x1)+(y3-y1)*(y2-y1):=Rat.div_mul_cancel hD;generalize ((x3-x1)*(x2-x1)+(y3-y1)*(y2-y1))/((x2-x1)*(x2-x1)+(y2-y1)*(y2-y1))=u at *;have cancel:∀z:Rat,z*((x2-x1)*(x2-x1)+(y2-y1)*(y2-y1))=0->z=0:=fun z hz=>by
    rcases qKB.1 hz with h|h
    ·exact h
    ·exact absurd h hD
   have kx:(1-u)*x1+u*x2-x3=0:=cancel _ (by clear h e hD cancel;grind);have ky:(1-u)*y1+u*y2-y3=0:=cancel _ (by clear h e hD cancel kx;grind);exact qsj (t1:=1-u) (t2:=u) (t3:=-1) (t4:=0) (by grind) (by grind) (by grind) (by grind)
 ·exact qsj (t1:=qv6 x2 y2 x3 y3 x4 y4) (t2:=-qv6 x1 y1 x3 y3 x4 y4) (t3:=qv6 x1 y1 x2 y2 x4 y4) (t4:=-qv6 x1 y1 x2 y2 x3 y3) (by unfold qv6;grind) (by unfold qv6;grind) (by unfold qv6;grind) h
theorem qI8:∀(n:Nat) (l:List DQ),l.length<=n->(∀x∈l,∀y∈l,∀z∈l,qhD [x,y,z])->qhD l
 | _,[],_,_=>⟨0,0,fun d hd=>by cases hd⟩
 | _,[x],_,h=>(h x (by simp) x (by simp) x (by simp)).mono (by simp)
 | _,[x,y],_,h=>(h x (by simp) y (by simp) y (by simp)).mono (by simp)
 | _,[x,y,z],_,h=>(h x (by simp) y (by simp) z (by simp)).mono (by simp)
 | 0,a::b::c::d::r,hl,_=>by simp at hl
 | n+1,a::b::c::d::r,hl,h=>by
  simp only[qJM] at hl;have sub:∀l':List DQ,(∀x∈l',x∈a::b::c::d::r)->l'.length<=n->qhD l':=fun l' hs hn=>
   qI8 n l' hn fun x hx y hy z hz=>h x (hs x hx) y (hs y hy) z (hs z hz)
  obtain⟨x1,y1,p1⟩:=sub (b::c::d::r) (by intro x hx;simp at hx ⊢;grind) (by simp only[qJM];omega);obtain⟨x2,y2,p2⟩:=sub (a::c::d::r) (by intro x hx;simp at hx ⊢;grind) (by simp only[qJM];omega);obtain⟨x3,y3,p3⟩:=sub (a::b::d::r) (by intro x hx;simp at hx ⊢;grind) (by simp only[qJM];omega);obtain⟨x4,y4,p4⟩:=sub (a::b::c::r) (by intro x hx;simp at hx ⊢;grind) (by simp only[qJM];omega);obtain⟨X,Y,hX⟩:=qIs x1 y1 x2 y2 x3 y3 x4 y4;refine⟨X,Y,fun e he=>hX e ?_⟩;simp only[qJi] at he;rcases he with rfl|rfl|rfl|rfl|he
  ·exact .inl ⟨p2 _ (by simp),p3 _ (by simp),p4 _ (by simp)⟩
  ·exact .inr (.inl ⟨p1 _ (by simp),p3 _ (by simp),p4 _ (by simp)⟩)
  ·exact .inr (.inr (.inl ⟨p1 _ (by simp),p2 _ (by simp),p4 _ (by simp)⟩))
  ·exact .inr (.inr (.inr ⟨p1 _ (by simp),p2 _ (by simp),p3 _ (by simp)⟩))
  ·exact .inl ⟨p2 _ (by simp[he]),p3 _ (by simp[he]),p4 _ (by simp[he])⟩
theorem quU{ι:Type}(f:ι->Rat):∀(L:List ι),L≠[]->∃a∈L,∀k∈L,f k<=f a
 | [],h=>absurd rfl h
 | [a],_=>⟨a,by simp,fun k hk=>by simp at hk;rw[hk];exact qKv⟩
 | a::b::r,_=>by
  obtain⟨m,hm,h⟩:=quU f (b::r) (by simp);rcases Rat.le_total (a:=f a) (b:=f m) with hle|hle
  ·refine⟨m,qJy _ hm,fun k hk=>?_⟩;rcases qJi.1 hk with rfl|hk
   ·exact hle
   ·exact h k hk
  ·refine⟨a,qJs,fun k hk=>?_⟩;rcases qJi.1 hk with rfl|hk
   ·exact qKv
   ·exact Rat.le_trans (h k hk) hle
theorem hit{ι:Type}(al be:ι->Rat):∀(L:List ι),(∀k∈L,al k<=0)->(∃k∈L,0<be k)->∃t,0<=t/\(∀k∈L,al k+be k*t<=0)/\∃b∈L,0<be b/\al b+be b*t=0
 | [],_,h=>by obtain⟨k,hk,_⟩:=h;cases hk
 | a::L,h0,h1=>by
  have hLn:∀k∈L,al k<=0:=fun k hk=>h0 k (qJy _ hk);have ha0:=h0 a qJs;by_cases ha:0<be a
  ·obtain⟨ta,hta⟩:∃ta,ta=-al a/be a:=⟨_,rfl⟩;have eta:ta*be a=-al a:=by rw[hta];exact Rat.div_mul_cancel (by grind)
   have ta0:0<=ta:=by apply Rat.not_lt.1;intro hn;have:=qJF (show 0 < -ta by grind) ha;grind
   have own:al a+be a*ta=0:=by grind
   by_cases hL:∃k∈L,0<be k
   ·obtain⟨t,k1,k2,b,hb,k3,k4⟩:=hit al be L hLn hL;rcases Rat.le_total (a:=t) (b:=ta) with hle|hle
    ·refine⟨t,k1,fun k hk=>?_,b,qJy _ hb,k3,k4⟩;rcases qJi.1 hk with rfl|hk
     ·have:=qJr (show 0<=be k by grind) (show 0<=ta-t by grind);grind
     ·exact k2 k hk
    ·refine⟨ta,ta0,fun k hk=>?_,a,qJs,ha,own⟩;rcases qJi.1 hk with rfl|hk
     ·grind
     ·rcases Rat.le_total (a:=0) (b:=be k) with hb|hb
      ·have:=qJr hb (show 0<=t-ta by grind);have:=k2 k hk;grind
      ·have:=qJr (show 0<=-be k by grind) ta0;have:=hLn k hk;grind
   ·refine⟨ta,ta0,fun k hk=>?_,a,qJs,ha,own⟩;rcases qJi.1 hk with rfl|hk
    ·grind
    ·have hb:be k<=0:=Rat.not_lt.1 fun hn=>hL ⟨k,hk,hn⟩;have:=qJr (show 0<=-be k by grind) ta0;have:=hLn k hk;grind
  ·have hL:∃k∈L,0<be k:=by
    obtain⟨k,hk,h⟩:=h1;rcases qJi.1 hk with rfl|hk
    ·exact absurd h ha
    ·exact⟨k,hk,h⟩
   obtain⟨t,k1,k2,b,hb,k3,k4⟩:=hit al be L hLn hL;refine⟨t,k1,fun k hk=>?_,b,qJy _ hb,k3,k4⟩;rcases qJi.1 hk with rfl|hk
   ·have:=qJr (show 0<=-be k by grind) k1;grind
   ·exact k2 k hk
theorem qrP{a:Rat}(h:a*a<=0):a=0:=by have:=qbd a;rcases qKB.1 (show a*a=0 by grind) with h|h<;>exact h
theorem qnx{a b c d:Rat}(h:q4M a b c d=0):a=c/\b=d:=by unfold q4M at h;have s1:=qbd (a-c);have s2:=qbd (b-d);have:=qrP (a:=a-c) (by grind);have:=qrP (a:=b-d) (by grind);exact⟨by grind,by grind⟩
theorem qCq(a b c d:Rat):0<=q4M a b c d:=by unfold q4M;have s1:=qbd (a-c);have s2:=qbd (b-d);grind
theorem qFR{l:List DQ}{x y:Rat}(hl:l≠[])(hs:∀d∈l,0<=d.s)(h:∀d∈l,pw d x y<=0) :(∃a∈l,∀d∈l,pw d a.x a.y<=0)\/∃a∈l,∃b∈l,∃X Y,q4M b.x b.y a.x a.y≠0/\pw b X Y=pw a X Y/\(∀d∈l,pw d X Y<=pw a X Y)/\pw a X Y<=0:=by
 obtain⟨a,ha,hmax⟩:=quU (fun d=>pw d x y) l hl;by_cases hc:∀d∈l,pw d a.x a.y<=0
 ·exact .inl ⟨a,ha,hc⟩
 ·have hex:∃k∈l,0<pw k a.x a.y:=by
   by_cases hn:∃k∈l,0<pw k a.x a.y
   ·exact hn
   ·exact absurd (fun d hd=>Rat.not_lt.1 fun h0=>hn ⟨d,hd,h0⟩) hc
  obtain⟨k0,hk0,hp⟩:=hex;have hsa:=hs a ha;have paa:pw a a.x a.y=-a.s:=by unfold pw;grind
  obtain⟨al,hal⟩:∃al:DQ->Rat,al=fun k=>pw k x y-pw a x y:=⟨_,rfl⟩;obtain⟨be,hbe⟩:∃be:DQ->Rat,be=fun k=>pw k a.x a.y-pw a a.x a.y-(pw k x y-pw a x y):=⟨_,rfl⟩;have al0:∀k∈l,al k<=0:=fun k hk=>by rw[hal];have:=hmax k hk;simp only at this ⊢;grind
  have be0:al k0+be k0>0:=by rw[hal,hbe];simp only;grind
  obtain⟨t,t0,ht,b,hb,hb1,hb2⟩:=hit al be l al0 ⟨k0,hk0,by have:=al0 k0 hk0;grind⟩;have line:∀k,pw k (x+t*(a.x-x)) (y+t*(a.y-y))-pw a (x+t*(a.x-x)) (y+t*(a.y-y))=al k+be k*t:=fun k=>by rw[hal,hbe];simp only;unfold pw;grind
  have t1:t<=1:=by apply Rat.not_lt.1;intro hn;have h1:=ht k0 hk0;have h2:=al0 k0 hk0;have:=qJF (show 0<be k0 by grind) (show 0<t-1 by grind);grind
  refine .inr ⟨a,ha,b,hb,x+t*(a.x-x),y+t*(a.y-y),fun hf=>?_,?_,fun d hd=>?_,?_⟩
  ·obtain⟨e1,e2⟩:=qnx hf;have:be b=0:=by rw[hbe];simp only;unfold pw;rw[e1,e2];grind
   grind
  ·have:=line b;grind
  ·have:=line d;have:=ht d hd;grind
  ·have h1:=h a ha;have e:pw a (x+t*(a.x-x)) (y+t*(a.y-y))=(1-t)*(1-t)*((x-a.x)*(x-a.x)+(y-a.y)*(y-a.y))-a.s:=by unfold pw;grind
   have q:0<=(x-a.x)*(x-a.x)+(y-a.y)*(y-a.y):=by have:=qbd (x-a.x);have:=qbd (y-a.y);grind
   have m:=qrY (a:=1-t) (b:=1) (by grind) (by grind);have:=qJr (show 0<=1-(1-t)*(1-t) by grind) q;rw[e];have:pw a x y=(x-a.x)*(x-a.x)+(y-a.y)*(y-a.y)-a.s:=rfl;grind
theorem qo7{a b:DQ}(neg:Bool)(hf:q4M b.x b.y a.x a.y≠0) :(qp a b neg).ax*(qp a b neg).ax+(qp a b neg).ay*(qp a b neg).ay=q4M b.x b.y a.x a.y /\(qp a b neg).ax*(b.x-a.x)+(qp a b neg).ay*(b.y-a.y)=0 /\(qp a b neg).ax*((qp a b neg).fx-a.x)+(qp a b neg).ay*((qp a b neg).fy-a.y)=0 /\2*(((qp a b neg).fx-a.x)*(b.x-a.x)+((qp a b neg).fy-a.y)*(b.y-a.y))=q4M b.x b.y a.x a.y+a.s-b.s /\kA a (qp a b neg)=0/\kB a (qp a b neg)=0/\kA b (qp a b neg)=0/\kB b (qp a b neg)=0:=by
 obtain⟨far,hfar⟩:∃far,far=q4M b.x b.y a.x a.y:=⟨_,rfl⟩;obtain⟨t,ht⟩:∃t,t=(far+a.s-b.s)/(2*far):=⟨_,rfl⟩;obtain⟨h,hh⟩:∃h,h=a.s/far-t*t:=⟨_,rfl⟩;rw[<-hfar] at hf;have h2f:2*far≠0:=by grind
 have ht':2*far*t=far+a.s-b.s:=by rw[ht,Rat.mul_comm];exact Rat.div_mul_cancel h2f
 have hh':far*h=a.s-far*(t*t):=by have:a.s/far*far=a.s:=Rat.div_mul_cancel hf;rw[hh];grind
 have hc:qp a b neg=⟨a.x+t*(b.x-a.x),a.y+t*(b.y-a.y),if neg then b.y-a.y else 0-(b.y-a.y),if neg then 0-(b.x-a.x) else b.x-a.x,h⟩:=by rw[hh,ht,hfar];rfl
 have hfar':far=(b.x-a.x)*(b.x-a.x)+(b.y-a.y)*(b.y-a.y):=hfar;rw[hc,<-hfar];unfold kA kB;clear hc hfar ht hh;cases neg
 ·simp only[qJA,if_false];refine⟨by grind,by grind,by grind,by grind,by grind,by grind,by grind,by grind⟩
 ·simp only[if_true];refine⟨by grind,by grind,by grind,by grind,by grind,by grind,by grind,by grind⟩
theorem qyh(a b:DQ):(qp a b true).ax=-(qp a b false).ax/\(qp a b true).ay=-(qp a b false).ay:=by unfold qp;simp only[qJA,if_false,if_true];exact⟨by grind,by grind⟩
theorem qtE{l:List DQ}{a b:DQ}{x y:Rat}(neg:Bool)(hf:q4M b.x b.y a.x a.y≠0)(hab:pw b x y=pw a x y)(hm:∀d∈l,pw d x y<=pw a x y)(h0:pw a x y<=0)(hv:0<=(qp a b neg).ax*(x-a.x)+(qp a b neg).ay*(y-a.y)) :(0<=(qp a b neg).h/\∀d∈l,q1I d (qp a b neg)) \/∃t k,0<=t/\k∈l/\(qp a b neg).ax*(k.x-a.x)+(qp a b neg).ay*(k.y-a.y)<0/\pw k (x+t*(qp a b neg).ax) (y+t*(qp a b neg).ay)=pw a (x+t*(qp a b neg).ax) (y+t*(qp a b neg).ay) /\pw b (x+t*(qp a b neg).ax) (y+t*(qp a b neg).ay)=pw a (x+t*(qp a b neg).ax) (y+t*(qp a b neg).ay)/\(∀d∈l,pw d (x+t*(qp a b neg).ax) (y+t*(qp a b neg).ay)<=pw a (x+t*(qp a b neg).ax) (y+t*(qp a b neg).ay)) /\pw a (x+t*(qp a b neg).ax) (y+t*(qp a b neg).ay)<=0:=by
 obtain⟨f1,f2,f3,f4,f5,f6,f7,f8⟩:=qo7 neg hf;have hpos:0<q4M b.x b.y a.x a.y:=by have:=qCq b.x b.y a.x a.y;grind
 have hfd:q4M b.x b.y a.x a.y=(b.x-a.x)*(b.x-a.x)+(b.y-a.y)*(b.y-a.y):=rfl;have hax:(qp a b neg).ax=if neg then b.y-a.y else 0-(b.y-a.y):=rfl
 have hay:(qp a b neg).ay=if neg then 0-(b.x-a.x) else b.x-a.x:=rfl
 generalize qp a b neg=p at *;generalize q4M b.x b.y a.x a.y=far at *;obtain⟨T0,hT0⟩:∃T0,T0=(p.ax*(x-p.fx)+p.ay*(y-p.fy))/far:=⟨_,rfl⟩;have eT0:T0*far=p.ax*(x-p.fx)+p.ay*(y-p.fy):=by rw[hT0];exact Rat.div_mul_cancel hf
 have hp:(x-p.fx)*(b.x-a.x)+(y-p.fy)*(b.y-a.y)=0:=by unfold pw at hab;grind
 have cancel:∀z:Rat,z*far=0->z=0:=fun z hz=>by
  rcases qKB.1 hz with h|h
  ·exact h
  ·exact absurd h hf
 have ex:x=p.fx+T0*p.ax:=by
  have:x-p.fx-T0*p.ax=0:=cancel _ (by
   have e:(x-p.fx-T0*p.ax)*far=(x-p.fx)*far-p.ax*(T0*far):=by grind
   rw[e,eT0,hfd];cases neg
   ·simp only[qJA,if_false] at hax hay;rw[hax,hay];clear hax hay eT0 hT0 f1 f2 f3 f4 f5 f6 f7 f8 hv hab;grind
   ·simp only[if_true] at hax hay;rw[hax,hay];clear hax hay eT0 hT0 f1 f2 f3 f4 f5 f6 f7 f8 hv hab;grind)
  grind
 have ey:y=p.fy+T0*p.ay:=by
  have:y-p.fy-T0*p.ay=0:=cancel _ (by
   have e:(y-p.fy-T0*p.ay)*far=(y-p.fy)*far-p.ay*(T0*far):=by grind
   rw[e,eT0,hfd];cases neg
   ·simp only[qJA,if_false] at hax hay;rw[hax,hay];clear hax hay eT0 hT0 f1 f2 f3 f4 f5 f6 f7 f8 hv hab ex;grind
   ·simp only[if_true] at hax hay;rw[hax,hay];clear hax hay eT0 hT0 f1 f2 f3 f4 f5 f6 f7 f8 hv hab ex;grind)
  grind
 have T0n:0<=T0:=by apply Rat.not_lt.1;intro hn;have:=qJF (show 0 < -T0 by grind) hpos;grind
 have line:∀d T,pw d (p.fx+T*p.ax) (p.fy+T*p.ay)=kA d p+kB d p*T+far*(T*T-p.h):=fun d T=>by rw[qCp,f1]
 have lineA:∀T,pw a (p.fx+T*p.ax) (p.fy+T*p.ay)=far*(T*T-p.h):=fun T=>by rw[line,f5,f6];grind
 have lineB:∀T,pw b (p.fx+T*p.ax) (p.fy+T*p.ay)=far*(T*T-p.h):=fun T=>by rw[line,f7,f8];grind
 have at0:∀d∈l,kA d p+kB d p*T0<=0:=fun d hd=>by have:=hm d hd;rw[ex,ey,line,lineA] at this;grind
 have hT:T0*T0<=p.h:=by rw[ex,ey,lineA] at h0;apply Rat.not_lt.1;intro hn;have:=qJF hpos (show 0<T0*T0-p.h by grind);grind
 have hn:0<=p.h:=by have:=qbd T0;grind
 have kb:∀d:DQ,kB d p=-(2*(p.ax*(d.x-a.x)+p.ay*(d.y-a.y))):=fun d=>by unfold kB;grind
 have all:∀T1,T0<=T1->p.h<=T1*T1->(∀d∈l,kA d p+kB d p*T1<=0)->0<=p.h/\∀d∈l,q1I d p:=fun T1 h1 h2 h3=>
  ⟨hn,fun d hd=>qz3 T0n h1 hT h2 (at0 d hd) (h3 d hd)⟩
 by_cases hk:∃k∈l,0<kB k p
 ·obtain⟨t,t0,ht,k,hk,hk1,hk2⟩:=hit (fun d=>kA d p+kB d p*T0) (fun d=>kB d p) l at0 hk;by_cases hle:(T0+t)*(T0+t)<=p.h
  ·have eX:x+t*p.ax=p.fx+(T0+t)*p.ax:=by grind
   have eY:y+t*p.ay=p.fy+(T0+t)*p.ay:=by grind
   refine .inr ⟨t,k,t0,hk,?_,?_,?_,fun d hd=>?_,?_⟩
   ·rw[kb] at hk1;grind
   ·rw[eX,eY,line,lineA];grind
   ·rw[eX,eY,lineA,lineB]
   ·rw[eX,eY,line,lineA];have:=ht d hd;grind
   ·rw[eX,eY,lineA];have:=qJr (show 0<=far by grind) (show 0<=p.h-(T0+t)*(T0+t) by grind);grind
  ·exact .inl (all (T0+t) (by grind) (by grind) fun d hd=>by have:=ht d hd;grind)
 ·refine .inl (all (T0+p.h+1) (by grind) ?_ fun d hd=>?_)
  ·have:=qrY (a:=p.h+1) (b:=T0+p.h+1) (by grind) (by grind);have:=qJr hn hn;grind
  ·have h1:kB d p<=0:=Rat.not_lt.1 fun h=>hk ⟨d,hd,h⟩;have:=qJr (show 0<=-kB d p by grind) (show 0<=p.h+1 by grind);have:=at0 d hd;grind
def Vx(l:List DQ)(x y:Rat)(t:DQ×DQ×DQ):Prop:=qv6 t.1.x t.1.y t.2.1.x t.2.1.y t.2.2.x t.2.2.y≠0/\pw t.2.1 x y=pw t.1 x y/\pw t.2.2 x y=pw t.1 x y/\(∀d∈l,pw d x y<=pw t.1 x y)/\pw t.1 x y<=0
theorem qFT{l:List DQ}{x y x' y':Rat}{t:DQ×DQ×DQ}(h:Vx l x y t)(h':Vx l x' y' t):x=x'/\y=y':=by
 obtain⟨a,b,c⟩:=t;obtain⟨hA,h1,h2,-,-⟩:=h;obtain⟨-,h1',h2',-,-⟩:=h';unfold pw qv6 at *;simp only at *;have e1:(x-x')*(b.x-a.x)+(y-y')*(b.y-a.y)=0:=by grind
 have e2:(x-x')*(c.x-a.x)+(y-y')*(c.y-a.y)=0:=by grind
 generalize b.x-a.x=p at *;generalize b.y-a.y=q at *;generalize c.x-a.x=r at *;generalize c.y-a.y=s at *;have k1:(x-x')*(p*s-r*q)=0:=by clear h1 h2 h1' h2' hA;grind
 have k2:(y-y')*(p*s-r*q)=0:=by clear h1 h2 h1' h2' hA;grind
 constructor
 ·rcases qKB.1 k1 with h|h
  ·grind
  ·exact absurd h hA
 ·rcases qKB.1 k2 with h|h
  ·grind
  ·exact absurd h hA
theorem qBu(l:List DQ):∀L:List (DQ×DQ×DQ),(∃t∈L,∃x y,Vx l x y t)->∃t∈L,∃x y,Vx l x y t/\∀t'∈L,∀x' y',Vx l x' y' t'->pw t'.1 x' y'<=pw t.1 x y
 | [],h=>by obtain⟨t,ht,_⟩:=h;cases ht
 | s::L,h=>by
  by_cases hs:∃x y,Vx l x y s
  ·obtain⟨x,y,hs⟩:=hs;have own:∀x' y',Vx l x' y' s->pw s.1 x' y'<=pw s.1 x y:=fun x' y' h'=>by obtain⟨rfl,rfl⟩:=qFT h' hs;exact qKv
   by_cases hL:∃t∈L,∃x y,Vx l x y t
   ·obtain⟨t,ht,u,v,hv,hmax⟩:=qBu l L hL;rcases Rat.le_total (a:=pw s.1 x y) (b:=pw t.1 u v) with hle|hle
    ·refine⟨t,qJy _ ht,u,v,hv,fun t' ht' x' y' h'=>?_⟩;rcases qJi.1 ht' with rfl|ht'
     ·exact Rat.le_trans (own x' y' h') hle
     ·exact hmax t' ht' x' y' h'
    ·refine⟨s,qJs,x,y,hs,fun t' ht' x' y' h'=>?_⟩;rcases qJi.1 ht' with rfl|ht'
     ·exact own x' y' h'
     ·exact Rat.le_trans (hmax t' ht' x' y' h') hle
   ·refine⟨s,qJs,x,y,hs,fun t' ht' x' y' h'=>?_⟩;rcases qJi.1 ht' with rfl|ht'
    ·exact own x' y' h'
    ·exact absurd ⟨t',ht',x',y',h'⟩ hL
  ·have hL:∃t∈L,∃x y,Vx l x y t:=by
    obtain⟨t,ht,h⟩:=h;rcases qJi.1 ht with rfl|ht
    ·exact absurd h hs
    ·exact⟨t,ht,h⟩
   obtain⟨t,ht,u,v,hv,hmax⟩:=qBu l L hL;refine⟨t,qJy _ ht,u,v,hv,fun t' ht' x' y' h'=>?_⟩;rcases qJi.1 ht' with rfl|ht'
   ·exact absurd ⟨x',y',h'⟩ hs
   ·exact hmax t' ht' x' y' h'
theorem qCe{l:List DQ}{x y:Rat}{t:DQ×DQ×DQ}(ht:t.1∈l/\t.2.1∈l/\t.2.2∈l)(hv:Vx l x y t) :∃a∈l,∃b∈l,∃neg,q4M b.x b.y a.x a.y≠0/\pw a x y=pw t.1 x y/\pw b x y=pw a x y/\0<=(qp a b neg).ax*(x-a.x)+(qp a b neg).ay*(y-a.y) /\∀k∈l,pw k x y=pw a x y->0<=(qp a b neg).ax*(k.x-a.x)+(qp a b neg).ay*(k.y-a.y):=by
 obtain⟨a0,b0,c0⟩:=t;obtain⟨hA,h1,h2,h3,h4⟩:=hv;simp only at *;obtain⟨I,hI⟩:∃I,I=l.filter fun k=>decide (pw k x y=pw a0 x y):=⟨_,rfl⟩;have memI:∀k,k∈I↔k∈l/\pw k x y=pw a0 x y:=fun k=>by rw[hI];simp
 have ia:a0∈I:=(memI _).2 ⟨ht.1,rfl⟩;have ib:b0∈I:=(memI _).2 ⟨ht.2.1,h1⟩;have ic:c0∈I:=(memI _).2 ⟨ht.2.2,h2⟩;obtain⟨a,haI,hmax⟩:=quU (fun k:DQ=>q4M k.x k.y x y) I (by intro h;rw[h] at ia;cases ia);obtain⟨hal,hap⟩:=(memI a).1 haI;obtain⟨D,hD⟩:∃D:DQ->Rat,D=fun k=>(x-a.x)*(k.x-a.x)+(y-a.y)*(k.y-a.y):=⟨_,rfl⟩;obtain⟨X,hX⟩:∃X:DQ->Rat,X=fun k=>(x-a.x)*(k.y-a.y)-(y-a.y)*(k.x-a.x):=⟨_,rfl⟩;obtain⟨J,hJ⟩:∃J,J=I.filter fun k=>decide (q4M k.x k.y a.x a.y≠0):=⟨_,rfl⟩;have memJ:∀k,k∈J↔k∈I/\q4M k.x k.y a.x a.y≠0:=fun k=>by rw[hJ];simp
 have hDp:∀k∈J,0<D k:=fun k hk=>by obtain⟨hk1,hk2⟩:=(memJ k).1 hk;have e1:=hmax k hk1;have e2:=qCq k.x k.y a.x a.y;rw[hD];simp only at e1 ⊢;unfold q4M at e1 e2 hk2;grind
 have hJn:J≠[]:=by
  intro hJ0;have all:∀k∈I,k.x=a.x/\k.y=a.y:=fun k hk=>by
   by_cases hz:q4M k.x k.y a.x a.y=0
   ·exact qnx hz
   ·have:=(memJ k).2 ⟨hk,hz⟩;rw[hJ0] at this;cases this
  obtain⟨p1,q1⟩:=all a0 ia;obtain⟨p2,q2⟩:=all b0 ib;obtain⟨p3,q3⟩:=all c0 ic;apply hA;unfold qv6;rw[p1,p2,p3,q1,q2,q3];grind
 have slope:∀k b:DQ,0<D k->0<D b->X k/D k<=X b/D b->X k*D b<=X b*D k:=fun k b k0 b0 h=>by have e1:X k/D k*D k=X k:=Rat.div_mul_cancel (by grind);have e2:X b/D b*D b=X b:=Rat.div_mul_cancel (by grind);generalize X k/D k=u at *;generalize X b/D b=v at *;have:=qJr (show 0<=v-u by grind) (qJr (show 0<=D k by grind) (show 0<=D b by grind));rw[<-e1,<-e2];grind
 have lag:∀k b:DQ,((x-a.x)*(x-a.x)+(y-a.y)*(y-a.y))*((k.x-a.x)*(b.y-a.y)-(k.y-a.y)*(b.x-a.x))=D k*X b-X k*D b:=fun k b=>by rw[hD,hX];simp only;grind
 have upos:∀b,0<D b->0<(x-a.x)*(x-a.x)+(y-a.y)*(y-a.y):=fun b hb=>by apply Rat.not_le.1;intro hn;have s1:=qbd (x-a.x);have s2:=qbd (y-a.y);have z1:=qrP (a:=x-a.x) (by grind);have z2:=qrP (a:=y-a.y) (by grind);rw[hD] at hb;simp only at hb;rw[z1,z2] at hb;grind
 obtain⟨b,hb,hbm⟩:=quU (fun k=>X k/D k) J hJn;have hbD:=hDp b hb;obtain⟨hbI,hbf⟩:=(memJ b).1 hb;obtain⟨hbl,hbp⟩:=(memI b).1 hbI;have onI:∀k∈l,pw k x y=pw a x y->k∈I:=fun k hk e=>(memI k).2 ⟨hk,by rw[e,hap]⟩;by_cases hXb:0<=X b
 ·refine⟨a,hal,b,hbl,true,hbf,hap,by rw[hbp,hap],?_,fun k hk hkp=>?_⟩
  ·have e:(qp a b true).ax*(x-a.x)+(qp a b true).ay*(y-a.y)=X b:=by rw[hX];unfold qp;simp only[if_true];grind
   rw[e];exact hXb
  ·have e:(qp a b true).ax*(k.x-a.x)+(qp a b true).ay*(k.y-a.y)=(k.x-a.x)*(b.y-a.y)-(k.y-a.y)*(b.x-a.x):=by unfold qp;simp only[if_true];grind
   rw[e];by_cases hz:q4M k.x k.y a.x a.y=0
   ·obtain⟨z1,z2⟩:=qnx hz;rw[z1,z2];grind
   ·have hkJ:=(memJ k).2 ⟨onI k hk hkp,hz⟩;have s:=slope k b (hDp k hkJ) hbD (hbm k hkJ);have g:=lag k b;apply Rat.not_lt.1;intro hn;have:=qJF (upos b hbD) (show 0 < -((k.x-a.x)*(b.y-a.y)-(k.y-a.y)*(b.x-a.x)) by grind);grind
 ·obtain⟨c,hc,hcm⟩:=quU (fun k=>-(X k/D k)) J hJn;have hcD:=hDp c hc;obtain⟨hcI,hcf⟩:=(memJ c).1 hc;obtain⟨hcl,hcp⟩:=(memI c).1 hcI;have hXc:X c<0:=by have s:=slope c b hcD hbD (hbm c hc);apply Rat.not_le.1;intro hn;have m1:=qJr hn (show 0<=D b by grind);have m2:=qJF (show 0 < -X b by grind) hcD;grind
  refine⟨a,hal,c,hcl,false,hcf,hap,by rw[hcp,hap],?_,fun k hk hkp=>?_⟩
  ·have e:(qp a c false).ax*(x-a.x)+(qp a c false).ay*(y-a.y)=-X c:=by rw[hX];unfold qp;simp only[qJA,if_false];grind
   rw[e];grind
  ·have e:(qp a c false).ax*(k.x-a.x)+(qp a c false).ay*(k.y-a.y)=-((k.x-a.x)*(c.y-a.y)-(k.y-a.y)*(c.x-a.x)):=by unfold qp;simp only[qJA,if_false];grind
   rw[e];by_cases hz:q4M k.x k.y a.x a.y=0
   ·obtain⟨z1,z2⟩:=qnx hz;rw[z1,z2];grind
   ·have hkJ:=(memJ k).2 ⟨onI k hk hkp,hz⟩;have hle:=hcm k hkJ;have s:=slope c k hcD (hDp k hkJ) (by grind);have g:=lag k c;apply Rat.not_lt.1;intro hn;have:=qJF (upos c hcD) (show 0<(k.x-a.x)*(c.y-a.y)-(k.y-a.y)*(c.x-a.x) by grind);grind
theorem qDV{l:List DQ}(hl:l≠[])(hs:∀d∈l,0<=d.s)(hm:qhD l) :(∃a∈l,∀d∈l,pw d a.x a.y<=0)\/∃a∈l,∃b∈l,∃neg,q4M b.x b.y a.x a.y≠0/\0<=(qp a b neg).h/\∀d∈l,q1I d (qp a b neg):=by
 obtain⟨x,y,hxy⟩:=hm;rcases qFR hl hs hxy with h|⟨a,ha,b,hb,X,Y,hf,hab,hmx,h0⟩
 ·exact .inl h
 ·right;have vtx:∀{a b k:DQ} {neg:Bool} {X Y:Rat},(qp a b neg).ax*(k.x-a.x)+(qp a b neg).ay*(k.y-a.y)<0->pw k X Y=pw a X Y->pw b X Y=pw a X Y->(∀d∈l,pw d X Y<=pw a X Y)->pw a X Y<=0->Vx l X Y (a,b,k):=by
   intro a b k neg X Y h1 h2 h3 h4 h5;refine⟨fun hA=>?_,h3,h2,h4,h5⟩;unfold qv6 at hA;simp only at hA;unfold qp at h1;cases neg
   ·simp only[qJA,if_false] at h1;grind
   ·simp only[if_true] at h1;grind
  have hneg:∃neg,0<=(qp a b neg).ax*(X-a.x)+(qp a b neg).ay*(Y-a.y):=by
   obtain⟨e1,e2⟩:=qyh a b;rcases Rat.le_total (a:=0) (b:=(qp a b false).ax*(X-a.x)+(qp a b false).ay*(Y-a.y)) with h|h
   ·exact⟨false,h⟩
   ·exact⟨true,by rw[e1,e2];grind⟩
  obtain⟨neg,hv⟩:=hneg;rcases qtE neg hf hab hmx h0 hv with⟨h1,h2⟩|⟨t,k,t0,hk,k1,k2,k3,k4,k5⟩
  ·exact⟨a,ha,b,hb,neg,hf,h1,h2⟩
  ·obtain⟨L,hL⟩:∃L,L=l.flatMap fun a=>l.flatMap fun b=>l.map fun c=>(a,b,c):=⟨_,rfl⟩;have memL:∀t:DQ×DQ×DQ,t∈L↔t.1∈l/\t.2.1∈l/\t.2.2∈l:=fun t=>by obtain⟨a,b,c⟩:=t;rw[hL];simp only[qLj,qK1,qJO];exact⟨fun⟨a',h1,b',h2,c',h3,e1,e2,e3⟩=>⟨e1▸h1,e2▸h2,e3▸h3⟩,fun⟨h1,h2,h3⟩=>⟨a,h1,b,h2,c,h3,rfl,rfl,rfl⟩⟩
   obtain⟨s,hs,u,v,hV,hmax⟩:=qBu l L ⟨(a,b,k),(memL _).2 ⟨ha,hb,hk⟩,_,_,vtx k1 k2 k3 k4 k5⟩;obtain⟨a',ha',b',hb',neg',hf',hp',hab',hv',hact⟩:=qCe ((memL s).1 hs) hV;rcases qtE neg' hf' hab' (fun d hd=>by rw[hp'];exact hV.2.2.2.1 d hd) (by rw[hp'];exact hV.2.2.2.2) hv' with⟨h1,h2⟩|⟨t,k,t0,hk,k1,k2,k3,k4,k5⟩
   ·exact⟨a',ha',b',hb',neg',hf',h1,h2⟩
   ·exfalso;have hm':=hmax (a',b',k) ((memL _).2 ⟨ha',hb',hk⟩) _ _ (vtx k1 k2 k3 k4 k5);simp only at hm';rw[<-hp'] at hm';obtain⟨f1,-⟩:=qo7 neg' hf';have hpos:0<q4M b'.x b'.y a'.x a'.y:=by have:=qCq b'.x b'.y a'.x a'.y;grind
    generalize qp a' b' neg'=p at *;have t1:0<t:=by
     apply Rat.not_le.1;intro hn;have:t=0:=by grind
     rw[this] at k2;have e1:u+0*p.ax=u:=by grind
     have e2:v+0*p.ay=v:=by grind
     rw[e1,e2] at k2;have:=hact k hk k2;grind
    have e:pw a' (u+t*p.ax) (v+t*p.ay)=pw a' u v+2*(t*(p.ax*(u-a'.x)+p.ay*(v-a'.y)))+t*t*(p.ax*p.ax+p.ay*p.ay):=by unfold pw;grind
    rw[e,f1] at hm';have m1:=qJr t0 hv';have m2:=qJF (qJF t1 t1) hpos;grind
variable {q:Rat}
def cls(q:Rat):Prop:=qn q<=5/\qd q<=1
def qIa(q:Rat):Prop:=qn q<=17/\qd q<=13
structure GD (d:DQ):Prop where
 x:cls d.x
 y:cls d.y
 s:qIa d.s
 nn:0<=d.s
theorem Bd.of_nl {m:Int}{k:Nat}(h:nl m<=k):Bd 1 k m:=by unfold Bd;have:=qGB h;omega
theorem Bd.of_le {C e:Nat}{x y:Int}(h:Bd C e y)(hxy:x.natAbs<=y.natAbs):Bd C e x:=qJg hxy h
theorem qqN (h:cls q):∃u v,WtD u v q/\u=5/\v=1:=⟨5,1,⟨Bd.of_nl h.1,Bd.of_nl (m:=(q.den:Int)) h.2,(Bd.of_nl (m:=(q.den:Int)) h.2).mono (by omega) (by omega)⟩,rfl,rfl⟩
theorem qvL (h:qIa q):∃u v,WtD u v q/\u=17/\v=13:=⟨17,13,⟨Bd.of_nl h.1,Bd.of_nl (m:=(q.den:Int)) h.2,(Bd.of_nl (m:=(q.den:Int)) h.2).mono (by omega) (by omega)⟩,rfl,rfl⟩
theorem qk6 (h:cls q):bnd 5 1 q:=h
theorem uN (h:cls q):bnd 12 10 q:=(qk6 h).mono (by omega) (by omega)
theorem q9c (h:qIa q):bnd 17 13 q:=h
theorem GD.sh {d:DQ}(h:GD d):d.sh:=⟨uN h.x,uN h.y,q9c h.s⟩
theorem qyp {a b d:DQ}(ga:GD a)(gb:GD b)(gd:GD d)(neg:Bool)(hf:(b.x-a.x)*(b.x-a.x)+(b.y-a.y)*(b.y-a.y)≠0)(oa:okQ (kA d (qp a b neg)))(ob:okQ (kB d (qp a b neg)))(oc:okQ (qp a b neg).h) :RootOk (kA d (qp a b neg)) (kB d (qp a b neg)) (qp a b neg).h:=by
 obtain⟨f1,f2,f3,f4⟩:=qwy a b d neg hf;generalize kA d (qp a b neg)=A at *;generalize kB d (qp a b neg)=B at *;generalize (qp a b neg).h=H at *;obtain⟨hx1,vx1,wx1,ex1⟩:=qqN ga.x;obtain⟨hy1,vy1,wy1,ey1⟩:=qqN ga.y;obtain⟨hs1,vs1,ws1,es1⟩:=qvL ga.s;obtain⟨hx2,vx2,wx2,ex2⟩:=qqN gb.x;obtain⟨hy2,vy2,wy2,ey2⟩:=qqN gb.y;obtain⟨hs2,vs2,ws2,es2⟩:=qvL gb.s;obtain⟨hx3,vx3,wx3,ex3⟩:=qqN gd.x;obtain⟨hy3,vy3,wy3,ey3⟩:=qqN gd.y;obtain⟨hs3,vs3,ws3,es3⟩:=qvL gd.s;have k1:8*hx1+vx1<=41/\14*hx1+4*vx1<=74:=by omega
 have k2:8*hy1+vy1<=41/\14*hy1+4*vy1<=74:=by omega
 have k3:7*hx2+vx2<=36/\14*hx2+2*vx2<=72:=by omega
 have k4:7*hy2+vy2<=36/\14*hy2+2*vy2<=72:=by omega
 have k5:2*hx3+vx3<=11/\2*hx3+4*vx3<=14:=by omega
 have k6:2*hy3+vy3<=11/\2*hy3+4*vy3<=14:=by omega
 have k7:hs1+2*vs1<=43/\2*hs1+4*vs1<=86:=by omega
 have k8:hs2+2*vs2<=43/\2*hs2+4*vs2<=86:=by omega
 have k9:hs3<=17/\vs3<=13:=by omega
 clear ex1 ey1 es1 ex2 ey2 es2 ex3 ey3 es3;have p0:∀q:Rat,(q.den:Int)≠0:=fun q=>by have:=qDw q;omega
 have hM:iM a.x.num a.x.den a.y.num a.y.den a.s.den b.x.num b.x.den b.y.num b.y.den b.s.den d.x.den d.y.den d.s.den≠0:=by unfold iM iSq;have:=p0 a.x;have:=p0 a.y;have:=p0 a.s;have:=p0 b.x;have:=p0 b.y;have:=p0 b.s;have:=p0 d.x;have:=p0 d.y;have:=p0 d.s;exact Int.mul_ne_zero (Int.mul_ne_zero (Int.mul_ne_zero f4 (Int.mul_ne_zero (Int.mul_ne_zero ‹_› ‹_›) ‹_›)) (Int.mul_ne_zero (Int.mul_ne_zero (Int.mul_ne_zero ‹_› ‹_›) (Int.mul_ne_zero ‹_› ‹_›)) (Int.mul_ne_zero (Int.mul_ne_zero ‹_› ‹_›) (Int.mul_ne_zero ‹_› ‹_›)))) (Int.mul_ne_zero ‹_› ‹_›)
 have hQ:iQ a.x.den a.y.den b.x.den b.y.den d.x.den d.y.den≠0:=by unfold iQ;exact Int.mul_ne_zero (Int.mul_ne_zero (Int.mul_ne_zero (p0 _) (p0 _)) (p0 _)) (Int.mul_ne_zero (Int.mul_ne_zero (p0 _) (p0 _)) (p0 _))
 have hC:iCd a.x.num a.x.den a.y.num a.y.den a.s.den b.x.num b.x.den b.y.num b.y.den b.s.den≠0:=by unfold iCd;exact Int.mul_ne_zero (Int.mul_ne_zero (by omega) (Int.mul_ne_zero f4 f4)) (Int.mul_ne_zero (Int.mul_ne_zero (p0 _) (p0 _)) (Int.mul_ne_zero (p0 _) (p0 _)))
 obtain⟨g1,g2⟩:=qno hM f1;obtain⟨g3,g4⟩:=qno hQ f2;obtain⟨g5,g6⟩:=qno hC f3;have b1:=(bA wx1.n wx1.dh wy1.n wy1.dh wx2.n wx2.dh wy2.n wy2.dh wx3.n wx3.dh wy3.n wy3.dh ws1.n ws1.dh ws2.n ws2.dh ws3.n ws3.dh).of_le (x:=A.num) g1;have b2:=(bM wx1.n wx1.dh wy1.n wy1.dh wx2.n wx2.dh wy2.n wy2.dh wx1.d wy1.d wx2.d wy2.d wx3.d wy3.d ws1.d ws2.d ws3.d).of_le (x:=(A.den:Int)) g2;have b3:Bd 16 (hx1+hx2+hx3+hy1+hy2+hy3) B.num:=by refine(bK wx1.n wx1.dh wy1.n wy1.dh wx2.n wx2.dh wy2.n wy2.dh wx3.n wx3.dh wy3.n wy3.dh).of_le (qJg g3 ?_);rw[qKo];cases neg<;>simp
 have b4:=(bQ wx1.d wy1.d wx2.d wy2.d wx3.d wy3.d).of_le (x:=(B.den:Int)) g4;have b5:=(bCn wx1.n wx1.dh wy1.n wy1.dh wx2.n wx2.dh wy2.n wy2.dh ws1.n ws1.dh ws2.n ws2.dh).of_le (x:=H.num) g5;have b6:=(bCd wx1.n wx1.dh wy1.n wy1.dh wx2.n wx2.dh wy2.n wy2.dh ws1.d ws2.d).of_le (x:=(H.den:Int)) g6;have X1:=b1.mul b4;have X:Bd 40960 500 (rX A B H):=(X1.mul b6).mono (by omega) (by omega);have Y:=b3.mul b2;have R:=b5.mul b6;have XX:=(X.mul X).mono (C':=1677721600) (e':=1000) (by omega) (by omega);have YY:=Y.mul Y;have YR:=(YY.mul R).mono (C':=553648128) (e':=972) (by omega) (by omega);have c10:(1000000000:Nat)<=10^9:=by decide
 exact { oa:=oa,ob:=ob,oc:=oc,x1:=X1.okL (k:=9) (by omega) (by omega) (by omega),x:=X.okL (k:=9) (by omega) (by omega) (by omega),y:=Y.okL (k:=9) (by omega) (by omega) (by omega),r:=R.okL (k:=9) (by omega) (by omega) (by omega),xx:=XX.okL (k:=10) (by decide) (by omega) (by omega),yy:=YY.okL (k:=9) (by omega) (by omega) (by omega),yr:=YR.okL (k:=9) (by omega) (by omega) (by omega),d:=((XX.mono (C':=1677721600) (e':=1000) (by omega) (by omega)).sub (YR.mono (C':=553648128) (e':=1000) (by omega) (by omega))).okL (k:=10) (by decide) (by omega) (by omega) }
end Go.Eng

namespace Go.Eng
theorem qIw{far c:Rat}(h0:far≠0)(hf:bnd 19 8 far)(hc:bnd 31 26 c):bnd 108 108 ((far+c)/(2*far)):=by
 have hn:far.num≠0:=fun h=>h0 (Rat.num_eq_zero.1 h);have hm:2*(far.num*(c.den:Int))≠0:=by have:=qDw c;exact Int.mul_ne_zero (by omega) (Int.mul_ne_zero hn (by omega))
 have h2f:2*far≠0:=by grind
 have key:(far+c)/(2*far)*((2*(far.num*(c.den:Int)):Int):Rat)=((far.num*(c.den:Int)+c.num*(far.den:Int):Int):Rat):=by
  have e1:=qeW far;have e2:=qeW c;have e3:(far+c)/(2*far)*(2*far)=far+c:=Rat.div_mul_cancel h2f;have f2:((2:Int):Rat)=2:=by simp
  simp only[qKF,qJS,Rat.intCast_natCast,e1,e2,f2];generalize (far+c)/(2*far)=q at *;generalize (far.den:Rat)=fd at *;generalize (c.den:Rat)=cd at *;have e4:q*(2*(far*fd*cd))=q*(2*far)*(fd*cd):=by grind
  rw[e4,e3];grind
 obtain⟨k1,k2⟩:=qno hm key;have g1:=qj2 k1;have g2:=qB8 k2;have a1:=quj (far.num*(c.den:Int)) (c.num*(far.den:Int));have a2:=q4t far.num (c.den:Int);have a3:=q4t c.num (far.den:Int);have a4:=q4t 2 (far.num*(c.den:Int));have a5:nl 2=1:=by decide
 have a6:dl (2*(far.num*(c.den:Int))).natAbs=nl (2*(far.num*(c.den:Int))):=rfl;have b1:nl far.num<=19:=hf.1;have b2:nl (far.den:Int)<=8:=hf.2;have b3:nl c.num<=31:=hc.1;have b4:nl (c.den:Int)<=26:=hc.2;refine⟨?_,?_⟩
 ·show nl _<=108;omega
 ·show dl _<=108;omega
structure PB (p:SQ):Prop where
 fx:bnd 142 138 p.fx
 fy:bnd 142 138 p.fy
 ax:bnd 23 20 p.ax
 ay:bnd 23 20 p.ay
 h:bnd 314 313 p.h
theorem qJ0(a:Rat):0-a=-a:=by grind
theorem qxh{a b:DQ}(ga:GD a)(gb:GD b):bnd 7 2 (b.x-a.x)/\bnd 7 2 (b.y-a.y)/\bnd 19 8 (q4M b.x b.y a.x a.y):=by
 have k1:=(qk6 gb.x).sub (qk6 ga.x) (K:=7) (by omega) (by omega);have k2:=(qk6 gb.y).sub (qk6 ga.y) (K:=7) (by omega) (by omega);refine⟨k1,k2,?_⟩;have k3:=qpe k1 k2 k1 k2;have e:q4M b.x b.y a.x a.y=(b.x-a.x)*(b.x-a.x)+(b.y-a.y)*(b.y-a.y):=by unfold q4M;grind
 rw[e];exact k3
theorem qAc{a b:DQ}(ga:GD a)(gb:GD b)(hf:q4M b.x b.y a.x a.y≠0):bnd 108 108 ((q4M b.x b.y a.x a.y+a.s-b.s)/(2*q4M b.x b.y a.x a.y)):=by rw[show q4M b.x b.y a.x a.y+a.s-b.s=q4M b.x b.y a.x a.y+(a.s-b.s) by grind];exact qIw hf (qxh ga gb).2.2 ((q9c ga.s).sub (q9c gb.s) (by omega) (by omega))
theorem qkK(a b:DQ)(neg:Bool):qp a b neg=⟨a.x+(q4M b.x b.y a.x a.y+a.s-b.s)/(2*q4M b.x b.y a.x a.y)*(b.x-a.x),a.y+(q4M b.x b.y a.x a.y+a.s-b.s)/(2*q4M b.x b.y a.x a.y)*(b.y-a.y),if neg then b.y-a.y else 0-(b.y-a.y),if neg then 0-(b.x-a.x) else b.x-a.x,a.s/q4M b.x b.y a.x a.y-(q4M b.x b.y a.x a.y+a.s-b.s)/(2*q4M b.x b.y a.x a.y)*((q4M b.x b.y a.x a.y+a.s-b.s)/(2*q4M b.x b.y a.x a.y))⟩:=rfl
theorem qkY{a b:DQ}(ga:GD a)(gb:GD b)(neg:Bool)(hf:q4M b.x b.y a.x a.y≠0):PB (qp a b neg):=by
 have dx:=qbF (uN gb.x) (uN ga.x);have dy:=qbF (uN gb.y) (uN ga.y);have far:=(qxh ga gb).2.2;have ht:=qAc ga gb hf;rw[qkK];have nx:bnd 23 20 (0-(b.x-a.x)):=by rw[qJ0];exact dx.neg
 have ny:bnd 23 20 (0-(b.y-a.y)):=by rw[qJ0];exact dy.neg
 have hh:=(((q9c ga.s).div hf far).sub (ht.mul ht) (K:=314) (by omega) (by omega)).mono (N':=314) (D':=313) (by omega) (by omega);have hx:=(uN ga.x).add (ht.mul dx) (K:=142) (by omega) (by omega);have hy:=(uN ga.y).add (ht.mul dy) (K:=142) (by omega) (by omega);exact⟨hx,hy,by cases neg<;>assumption,by cases neg<;>assumption,hh⟩
theorem PB.m{p:SQ}{d:DQ}(hp:PB p)(gd:GD d):bnd 153 148 (p.fx-d.x)/\bnd 153 148 (p.fy-d.y):=⟨hp.fx.sub (uN gd.x) (by omega) (by omega),hp.fy.sub (uN gd.y) (by omega) (by omega)⟩
theorem PB.mm{p:SQ}{d:DQ}(hp:PB p)(gd:GD d):bnd 603 592 ((p.fx-d.x)*(p.fx-d.x)+(p.fy-d.y)*(p.fy-d.y)):=qpe (hp.m gd).1 (hp.m gd).2 (hp.m gd).1 (hp.m gd).2
theorem PB.aa{p:SQ}(hp:PB p):bnd 87 80 (p.ax*p.ax+p.ay*p.ay):=qpe hp.ax hp.ay hp.ax hp.ay
theorem PB.ha{p:SQ}(hp:PB p):bnd 401 393 (p.h*(p.ax*p.ax+p.ay*p.ay)):=hp.h.mul hp.aa
theorem PB.x{p:SQ}{d:DQ}(hp:PB p)(gd:GD d):bnd 997 985 ((p.fx-d.x)*(p.fx-d.x)+(p.fy-d.y)*(p.fy-d.y)+p.h*(p.ax*p.ax+p.ay*p.ay)):=(hp.mm gd).add hp.ha (by omega) (by omega)
theorem PB.ma{p:SQ}{d:DQ}(hp:PB p)(gd:GD d):bnd 345 336 ((p.fx-d.x)*p.ax+(p.fy-d.y)*p.ay):=qpe (hp.m gd).1 (hp.m gd).2 hp.ax hp.ay
theorem PB.kA{p:SQ}{d:DQ}(hp:PB p)(gd:GD d):bnd 1011 998 (kA d p):=(hp.x gd).sub (q9c gd.s) (by omega) (by omega)
theorem PB.kB{p:SQ}{d:DQ}(hp:PB p)(gd:GD d):bnd 346 337 (kB d p):=qrK.mul (hp.ma gd)
structure PG (p:SQ):Prop where
 pb:PB p
 nn:0<=p.h
 root:∀d,GD d->RootOk (kA d p) (kB d p) p.h
theorem qDj{a b:DQ}(ga:GD a)(gb:GD b)(neg:Bool)(hf:q4M b.x b.y a.x a.y≠0)(hn:0<=(qp a b neg).h):PG (qp a b neg):=⟨qkY ga gb neg hf,hn,fun _ gd=>qyp ga gb gd neg hf (((qkY ga gb neg hf).kA gd).ok (by omega) (by omega)) (((qkY ga gb neg hf).kB gd).ok (by omega) (by omega)) ((qkY ga gb neg hf).h.ok (by omega) (by omega))⟩
theorem qGC{a:DQ}(ga:GD a):PG ⟨a.x,a.y,0,0,0⟩:=by
 refine⟨⟨(uN ga.x).mono (by omega) (by omega),(uN ga.y).mono (by omega) (by omega),q2c.mono (by omega) (by omega),q2c.mono (by omega) (by omega),q2c.mono (by omega) (by omega)⟩,qKv,fun d gd=>?_⟩;have e1:Go.Eng.kA d ⟨a.x,a.y,0,0,0⟩=q4M a.x a.y d.x d.y-d.s:=by unfold Go.Eng.kA q4M;grind
 have e2:Go.Eng.kB d ⟨a.x,a.y,0,0,0⟩=0:=by unfold Go.Eng.kB;grind
 rw[e1,e2];have f1:bnd 101 93 (q4M a.x a.y d.x d.y-d.s):=(qzX (uN ga.x) (uN ga.y) (uN gd.x) (uN gd.y)).sub (q9c gd.s) (by omega) (by omega);exact RootOk.of f1 q2c q2c (by omega) (by omega)
theorem qCm{d:DQ}{p:SQ}(gd:GD d)(hp:PG p) :(yf [.s (tQ d.x),.s (tQ d.y),.s (tQ d.s),.s (tQ p.fx),.s (tQ p.fy),.s (tQ p.ax),.s (tQ p.ay),.s (tQ p.h),.i 0]).run=some (0,[.b (decide (q1I d p)),.i 0]):=by rw[qiN];have hr:=qGW (hp.root d gd) hp.nn;obtain⟨hp,-,-⟩:=hp;obtain⟨m1,m2⟩:=hp.m gd;have h0:=qEM hp.fx hp.fy (uN gd.x) (uN gd.y) (by omega) (by omega) (by omega);have h1:=qDi m1 m2 m1 m2 (by omega) (by omega);have h2:=qDi hp.ax hp.ay hp.ax hp.ay (by omega) (by omega);have h3:=quX hp.h hp.aa (by omega) (by omega);have h4:=qAI (hp.mm gd) hp.ha (by omega) (by omega) (by omega);have h5:=qwu (hp.x gd) (q9c gd.s) (by omega) (by omega) (by omega);have h6:=qDi m1 m2 hp.ax hp.ay (by omega) (by omega);have h7:=quX qrK (hp.ma gd) (by omega) (by omega);rw[qEB] at h7;have e:q1I d p=(qhL (Go.Eng.kA d p) (Go.Eng.kB d p) p.h<=0):=rfl;unfold Go.Eng.kA Go.Eng.kB at hr e;simp only[STD,h0,h1,h2,h3,h4,h5,h6,h7,hr,e];rfl
def qfE(d:DQ):List U:=[.s (tQ d.x),.s (tQ d.y),.s (tQ d.s)]
def rD(l:List DQ):R:=l.map qfE
def ix(l:List DQ)(i:Nat):DQ:=l.getD i ⟨0,0,0⟩
theorem wi(l:List DQ):qk (rD l)=(l.length:Int):=by simp[qk,rD]
theorem qu6{l:List DQ}{i:Nat}(h:i<l.length):cS (rD l) (i:Int) 0=tQ (ix l i).x/\cS (rD l) (i:Int) 1=tQ (ix l i).y/\cS (rD l) (i:Int) 2=tQ (ix l i).s:=by unfold cS wy rD ix;simp[h,qfE,U.toS]
theorem qdf{l:List DQ}{i:Nat}(h:i<l.length):ix l i∈l:=by unfold ix;simp[h]
def qbw(a b:DQ)(same:Bool)(side:Int):Option SQ:=
 if same then (if side=0 then some ⟨a.x,a.y,0,0,0⟩ else none)
 else if q4M b.x b.y a.x a.y=0 then none
 else if 0<=(qp a b (decide (side<0))).h/\((qp a b (decide (side<0))).h=0↔side=0) then some (qp a b (decide (side<0))) else none
theorem qDC{a b:DQ}(ga:GD a)(gb:GD b){same:Bool}{side:Int}{p:SQ}(h:qbw a b same side=some p):PG p:=by
 unfold qbw at h;split at h
 ·split at h
  ·cases h;exact qGC ga
  ·cases h
 ·split at h
  ·cases h
  ·rename_i hf;split at h
   ·rename_i hc;cases h;exact qDj ga gb _ hf hc.1
   ·cases h
def q5d(l:List DQ)(i j:Nat)(side:Int):Bool:=
 match qbw (ix l i) (ix l j) (decide (i=j)) side with
 | none=>false
 | some p=>l.all fun d=>decide (q1I d p)
def qpM(l:List DQ)(i j:Nat)(side:Int):Option (Nat×Nat×Int):=if q5d l i j side then some (i,j,side) else none
def qfh(l:List DQ)(i j:Nat):Option (Nat×Nat×Int):=
 match qpM l i j 0 with
 | some w=>some w
 | none=>match qpM l i j 1 with
  | some w=>some w
  | none=>qpM l i j (-1)
def q4l(l:List DQ):Option (Nat×Nat×Int):=
 match q1C (fun i=>qpM l i i 0) 0 l.length with
 | some w=>some w
 | none=>q1C (fun i=>q1C (fun k=>qfh l i (i+1+k)) 0 (l.length-(i+1))) 0 l.length
theorem qyV(d a:DQ):q1I d ⟨a.x,a.y,0,0,0⟩↔pw d a.x a.y<=0:=by
 have e1:kA d ⟨a.x,a.y,0,0,0⟩=pw d a.x a.y:=by unfold kA pw;grind
 have e2:kB d ⟨a.x,a.y,0,0,0⟩=0:=by unfold kB;grind
 unfold q1I;rw[e1,e2];simp only[qzf,qlf]
theorem qug{d:DQ}{p q:SQ}(hA:kA d p=kA d q)(hB:kB d p=kB d q)(hh:p.h=q.h):q1I d p↔q1I d q:=by unfold q1I;rw[hA,hB,hh]
theorem qom{d:DQ}{p:SQ}(hh:p.h=0):q1I d p↔kA d p<=0:=by
 unfold q1I;rw[hh,qrH (by grind)];constructor
 ·rintro (⟨h,-⟩|⟨h1,h2,h3⟩)
  ·exact h
  ·have:=qJF h1 h1;grind
 ·intro h;exact .inl ⟨h,.inr (.inl rfl)⟩
theorem qyq{a b:DQ}(neg:Bool)(hf:q4M b.x b.y a.x a.y≠0) :(qp b a (!neg)).fx=(qp a b neg).fx/\(qp b a (!neg)).fy=(qp a b neg).fy/\(qp b a (!neg)).ax=(qp a b neg).ax/\(qp b a (!neg)).ay=(qp a b neg).ay/\(qp b a (!neg)).h=(qp a b neg).h:=by
 have hsw:q4M a.x a.y b.x b.y=q4M b.x b.y a.x a.y:=by unfold q4M;grind
 rw[qkK,qkK,hsw];generalize q4M b.x b.y a.x a.y=far at *;have h2f:2*far≠0:=by grind
 have h1:(far+b.s-a.s)/(2*far)*(2*far)=far+b.s-a.s:=Rat.div_mul_cancel h2f;have h2:(far+a.s-b.s)/(2*far)*(2*far)=far+a.s-b.s:=Rat.div_mul_cancel h2f;have h3:a.s/far*far=a.s:=Rat.div_mul_cancel hf;have h4:b.s/far*far=b.s:=Rat.div_mul_cancel hf;generalize (far+b.s-a.s)/(2*far)=u at *;generalize (far+a.s-b.s)/(2*far)=t at *;generalize a.s/far=p at *;generalize b.s/far=q at *;have cancel:∀z:Rat,z*far=0->z=0:=fun z hz=>by
  rcases qKB.1 hz with h|h
  ·exact h
  ·exact absurd h hf
 have hu:u=1-t:=by have:=cancel (u-(1-t)) (by grind);grind
 have hpq:q=p-t*t+(1-t)*(1-t):=by have:=cancel (q-(p-t*t+(1-t)*(1-t))) (by grind);grind
 simp only;refine⟨by rw[hu];grind,by rw[hu];grind,?_,?_,by rw[hu,hpq];grind⟩
 ·cases neg<;>simp only[Bool.not_false,Bool.not_true,qJA,if_false,if_true]<;>grind
 ·cases neg<;>simp only[Bool.not_false,Bool.not_true,qJA,if_false,if_true]<;>grind
theorem qaX{l:List DQ}{d:DQ}(h:d∈l):∃i,i<l.length/\ix l i=d:=by obtain⟨i,hi,e⟩:=List.getElem_of_mem h;exact⟨i,hi,by unfold ix;simp[hi,e]⟩
def Wit(l:List DQ):Prop:=(∃i,i<l.length/\q5d l i i 0=true)\/∃i j side,i<j/\j<l.length/\(side=0\/side=1\/side=-1)/\q5d l i j side=true
theorem qdk{l:List DQ}{i j:Nat}{side:Int}:q5d l i j side=true↔∃p,qbw (ix l i) (ix l j) (decide (i=j)) side=some p/\∀d∈l,q1I d p:=by
 unfold q5d;cases h:qbw (ix l i) (ix l j) (decide (i=j)) side with
 | none=>simp
 | some p=>simp
theorem qD1{a b:DQ}{same:Bool}{side:Int}{p:SQ}(h:qbw a b same side=some p):0<=p.h:=by
 unfold qbw at h;split at h
 ·split at h
  ·cases h;exact qKv
  ·cases h
 ·split at h
  ·cases h
  ·split at h
   ·rename_i hc;cases h;exact hc.1
   ·cases h
theorem qq1{l:List DQ}{i j:Nat}{side:Int}(h:q5d l i j side=true):qhD l:=by obtain⟨p,h1,h2⟩:=qdk.1 h;exact qt7 (qD1 h1) h2
theorem qvl{l:List DQ}(hl:l≠[])(hs:∀d∈l,0<=d.s)(hm:qhD l):Wit l:=by
 rcases qDV hl hs hm with⟨a,ha,h⟩|⟨a,ha,b,hb,neg,hf,h0,hk⟩
 ·obtain⟨i,hi,rfl⟩:=qaX ha;refine .inl ⟨i,hi,qdk.2 ⟨⟨(ix l i).x,(ix l i).y,0,0,0⟩,?_,fun d hd=>(qyV d _).2 (h d hd)⟩⟩;unfold qbw;simp
 ·have main:∀(i j:Nat) (neg:Bool),i<j->j<l.length->q4M (ix l j).x (ix l j).y (ix l i).x (ix l i).y≠0->0<=(qp (ix l i) (ix l j) neg).h->(∀d∈l,q1I d (qp (ix l i) (ix l j) neg))->Wit l:=by
   intro i j neg hij hj hf h0 hk;by_cases hz:(qp (ix l i) (ix l j) neg).h=0
   ·have hz':(qp (ix l i) (ix l j) false).h=0:=hz;refine .inr ⟨i,j,0,hij,hj,.inl rfl,qdk.2 ⟨qp (ix l i) (ix l j) false,?_,fun d hd=>?_⟩⟩
    ·unfold qbw;rw[if_neg (by simp;omega),if_neg hf];simp[hz']
    ·have:=(qom hz).1 (hk d hd);rw[qom hz'];have e:kA d (qp (ix l i) (ix l j) false)=kA d (qp (ix l i) (ix l j) neg):=by unfold kA;rw[hz,hz'];have e1:(qp (ix l i) (ix l j) false).fx=(qp (ix l i) (ix l j) neg).fx:=rfl;have e2:(qp (ix l i) (ix l j) false).fy=(qp (ix l i) (ix l j) neg).fy:=rfl;rw[e1,e2];grind
     rw[e];exact this
   ·cases neg
    ·refine .inr ⟨i,j,1,hij,hj,.inr (.inl rfl),qdk.2 ⟨qp (ix l i) (ix l j) false,?_,hk⟩⟩;unfold qbw;rw[if_neg (by simp;omega),if_neg hf];simp[hz,h0]
    ·refine .inr ⟨i,j,-1,hij,hj,.inr (.inr rfl),qdk.2 ⟨qp (ix l i) (ix l j) true,?_,hk⟩⟩;unfold qbw;rw[if_neg (by simp;omega),if_neg hf];simp[hz,h0]
  obtain⟨i,hi,rfl⟩:=qaX ha;obtain⟨j,hj,rfl⟩:=qaX hb;rcases Nat.lt_trichotomy i j with hij|rfl|hij
  ·exact main i j neg hij hj hf h0 hk
  ·exact absurd (by unfold q4M;grind) hf
  ·obtain⟨e1,e2,e3,e4,e5⟩:=qyq neg hf;refine main j i (!neg) hij hi ?_ (by rw[e5];exact h0) fun d hd=>?_
   ·intro h;apply hf;unfold q4M at *;grind
   ·refine(qug ?_ ?_ e5).2 (hk d hd)
    ·unfold kA;rw[e1,e2,e3,e4,e5]
    ·unfold kB;rw[e1,e2,e3,e4]
theorem qkb{l:List DQ}{i j:Nat}{side:Int}{w:Nat×Nat×Int}(h:qpM l i j side=some w):w=(i,j,side)/\q5d l i j side=true:=by
 unfold qpM at h;split at h
 ·cases h;exact⟨rfl,by assumption⟩
 ·cases h
theorem qkR{l:List DQ}{i j:Nat}{side:Int}(h:qpM l i j side=none):q5d l i j side=false:=by
 unfold qpM at h;split at h
 ·cases h
 ·simp_all
theorem q1P{α:Type}{f:Nat->Option α}{a:α}:∀{k i:Nat},q1C f i k=some a->∃j,i<=j/\j<i+k/\f j=some a/\∀m,i<=m->m<j->f m=none
 | 0,i,h=>by cases h
 | k+1,i,h=>by
  simp only[q1C] at h;cases hf:f i with
  | some b=>rw[hf] at h;exact⟨i,qJe _,by omega,by rw[hf];exact h,fun m h1 h2=>by omega⟩
  | none=>
   rw[hf] at h;obtain⟨j,h1,h2,h3,h4⟩:=q1P h;refine⟨j,by omega,by omega,h3,fun m m1 m2=>?_⟩;rcases qKR m1 with rfl|m1
   ·exact hf
   ·exact h4 m m1 m2
theorem qvK{l:List DQ}{i j:Nat}{w:Nat×Nat×Int}(h:qfh l i j=some w):∃side,w=(i,j,side)/\(side=0\/side=1\/side=-1)/\q5d l i j side=true:=by
 unfold qfh at h;cases h0:qpM l i j 0 with
 | some v=>rw[h0] at h;simp only at h;cases h;obtain⟨e1,e2⟩:=qkb h0;exact⟨0,e1,.inl rfl,e2⟩
 | none=>
  rw[h0] at h;simp only at h;cases h1:qpM l i j 1 with
  | some v=>rw[h1] at h;simp only at h;cases h;obtain⟨e1,e2⟩:=qkb h1;exact⟨1,e1,.inr (.inl rfl),e2⟩
  | none=>
   rw[h1] at h;simp only at h;obtain⟨e1,e2⟩:=qkb h;exact⟨-1,e1,.inr (.inr rfl),e2⟩
theorem qw0{l:List DQ}{i j:Nat}(h:qfh l i j=none):∀side:Int,side=0\/side=1\/side=-1->q5d l i j side=false:=by
 unfold qfh at h;cases h0:qpM l i j 0 with
 | some v=>rw[h0] at h;cases h
 | none=>
  rw[h0] at h;simp only at h;cases h1:qpM l i j 1 with
  | some v=>rw[h1] at h;cases h
  | none=>
   rw[h1] at h;simp only at h;rintro side (rfl|rfl|rfl)
   ·exact qkR h0
   ·exact qkR h1
   ·exact qkR h
theorem qvN{l:List DQ}{w:Nat×Nat×Int}(h:q4l l=some w):q5d l w.1 w.2.1 w.2.2=true/\w.1<=w.2.1/\w.2.1<l.length/\(w.2.2=0\/w.2.2=1\/w.2.2=-1)/\(w.1=w.2.1->w.2.2=0):=by
 unfold q4l at h;cases h0:q1C (fun i=>qpM l i i 0) 0 l.length with
 | some v=>
  rw[h0] at h;simp only at h;cases h;obtain⟨i,-,hi,hf,-⟩:=q1P h0;obtain⟨rfl,e⟩:=qkb hf;exact⟨e,qJe _,by simpa using hi,.inl rfl,fun _=>rfl⟩
 | none=>
  rw[h0] at h;simp only at h;obtain⟨i,-,hi,hf,-⟩:=q1P h;obtain⟨k,-,hk,hf,-⟩:=q1P hf;obtain⟨side,rfl,h1,h2⟩:=qvK hf;exact⟨h2,by simp only;omega,by simp only;omega,h1,fun h=>by simp only at h;omega⟩
theorem qvv{l:List DQ}(h:q4l l=none):¬Wit l:=by
 unfold q4l at h;cases h0:q1C (fun i=>qpM l i i 0) 0 l.length with
 | some v=>rw[h0] at h;cases h
 | none=>
  rw[h0] at h;simp only at h;rintro (⟨i,hi,hp⟩|⟨i,j,side,hij,hj,hs,hp⟩)
  ·have:=qkR (kt h0 i (by omega) (by omega));simp_all
  ·have h1:=kt h i (by omega) (by omega);have h2:=kt h1 (j-(i+1)) (by omega) (by omega);simp only[show i+1+(j-(i+1))=j by omega] at h2;have:=qw0 h2 side hs;simp_all
theorem qlK{l:List DQ}(hl:l≠[])(hs:∀d∈l,0<=d.s):(q4l l).isSome=true↔qhD l:=by
 constructor
 ·intro h;cases hf:q4l l with
  | none=>rw[hf] at h;cases h
  | some w=>exact qq1 (qvN hf).1
 ·intro h;cases hf:q4l l with
  | none=>exact absurd (qvl hl hs h) (qvv hf)
  | some w=>rfl
theorem qCE{d:DQ}(h:0<=d.s):qhD [d]:=⟨d.x,d.y,fun e he=>by simp at he;rw[he];unfold pw;grind⟩
theorem qCU{l:List DQ}(hs:∀d∈l,0<=d.s)(h2:∀i j,i<j->j<l.length->qhD [ix l i,ix l j])(h3:∀i j k,i<j->j<k->k<l.length->qhD [ix l i,ix l j,ix l k]):qhD l:=by
 refine qI8 l.length l (qJe _) fun x hx y hy z hz=>?_;obtain⟨i,hi,rfl⟩:=qaX hx;obtain⟨j,hj,rfl⟩:=qaX hy;obtain⟨k,hk,rfl⟩:=qaX hz;have p2:∀i j,i<l.length->j<l.length->qhD [ix l i,ix l j]:=fun i j hi hj=>by
  rcases Nat.lt_trichotomy i j with h|rfl|h
  ·exact h2 i j h hj
  ·exact(qCE (hs _ (qdf hi))).mono (by simp)
  ·exact(h2 j i h hi).mono (by simp<;>grind)
 rcases Nat.lt_trichotomy i j with h|rfl|h
 ·rcases Nat.lt_trichotomy j k with g|rfl|g
  ·exact h3 i j k h g hk
  ·exact(p2 i j hi hj).mono (by simp)
  ·rcases Nat.lt_trichotomy i k with f|rfl|f
   ·exact(h3 i k j f g hj).mono (by simp<;>grind)
   ·exact(p2 i j hi hj).mono (by simp<;>grind)
   ·exact(h3 k i j f h hj).mono (by simp<;>grind)
 ·exact(p2 i k hi hk).mono (by simp<;>grind)
 ·rcases Nat.lt_trichotomy i k with g|rfl|g
  ·exact(h3 j i k h g hk).mono (by simp<;>grind)
  ·exact(p2 i j hi hj).mono (by simp<;>grind)
  ·rcases Nat.lt_trichotomy j k with f|rfl|f
   ·exact(h3 j k i f g hi).mono (by simp<;>grind)
   ·exact(p2 i j hi hj).mono (by simp<;>grind)
   ·exact(h3 k j i f h hi).mono (by simp<;>grind)
def GDs(l:List DQ):Prop:=∀d∈l,GD d
theorem GDs.ix{l:List DQ}(h:GDs l){i:Nat}(hi:i<l.length):GD (ix l i):=h _ (qdf hi)
theorem qEo(q:Rat):(seq (tQ q) [48]=true)=(q=0):=by rw[zV,qef]
theorem qlj(q:Rat):(0:Int)<qB (tQ q):=by have h1:=qpj q;have h2:=qkQ q;unfold qB;omega
theorem qIW(i:Nat):((i:Int)=(i:Int))=True:=by simp
def plc(p:SQ):List PV:=[.s (tQ p.fx),.s (tQ p.fy),.s (tQ p.ax),.s (tQ p.ay),.s (tQ p.h)]
theorem qlw(q:Rat):(¬(tQ q).getD 0 0=45)=(0<=q):=by
 by_cases h:0<=q
 ·exact propext ⟨fun _=>h,fun _=>qFt h⟩
 ·have:=qHs (c:=q) (by grind);exact propext ⟨fun h'=>absurd this h',fun h'=>absurd h' h⟩
theorem qFm(b:Bool)(p q:Prop)[Decidable p][Decidable q](hb:(b=true)=p):(Go.Eng.beq b (decide q))=decide (p↔q):=by subst hb;by_cases hq:q<;>cases b<;>simp[Go.Eng.beq,hq]<;>rfl
set_option maxHeartbeats 2000000 in
theorem qGe{l:List DQ}(hl:GDs l){i j:Nat}(hi:i<l.length)(hj:j<l.length)(side:Int) :(qbw (ix l i) (ix l j) (decide (i=j)) side=none/\∃a b c d e,(j9 [.r (rD l),.i (i:Int),.i (j:Int),.i side,.i 0]).run=some (0,[.s a,.s b,.s c,.s d,.s e,.b false,.i 0])) \/∃p,qbw (ix l i) (ix l j) (decide (i=j)) side=some p/\(j9 [.r (rD l),.i (i:Int),.i (j:Int),.i side,.i 0]).run=some (0,plc p++[.b true,.i 0]):=by
 rw[qiF];obtain⟨x1,x2,x3⟩:=qu6 hi;obtain⟨y1,y2,y3⟩:=qu6 hj;have ga:=hl.ix hi;have gb:=hl.ix hj;have bi:0<=(i:Int)/\(i:Int)<qk (rD l):=by rw[wi];omega
 have bj:0<=(j:Int)/\(j:Int)<qk (rD l):=by rw[wi];omega
 obtain⟨a,ha⟩:∃a,a=ix l i:=⟨_,rfl⟩;obtain⟨b,hb⟩:∃b,b=ix l j:=⟨_,rfl⟩;rw[<-ha] at x1 x2 x3 ga ⊢;rw[<-hb] at y1 y2 y3 gb ⊢;simp only[x1,x2,x3,y1,y2,y3];clear x1 x2 x3 y1 y2 y3 hb;unfold qbw plc;by_cases hij:i=j
 ·subst hij;have z:tQ 0=[48]:=rfl;by_cases hs:side=0
  ·subst hs;right;refine⟨⟨a.x,a.y,0,0,0⟩,by simp,?_⟩;have e:ieq 0 0=true:=rfl;simp only[STD,bi,and_self,z,e];rfl
  ·left;refine⟨by simp[hs],tQ a.x,tQ a.y,[48],[48],[48],?_⟩;have e:ieq side 0=false:=by simp[ieq,hs]
   simp only[STD,bi,and_self,e]
 ·have hij':¬(i:Int)=(j:Int):=by omega
  obtain⟨a1,a2,a3⟩:=ga.sh;obtain⟨b1,b2,b3⟩:=gb.sh;have dx:=qbF b1 a1;have dy:=qbF b2 a2;have far:=qzX b1 b2 a1 a2;have h0:=qEM b1 b2 a1 a2 (by omega) (by omega) (by omega);have h1:=qDi dx dy dx dy (by omega) (by omega);have hfd:(b.x-a.x)*(b.x-a.x)+(b.y-a.y)*(b.y-a.y)=q4M b.x b.y a.x a.y:=rfl;rw[hfd] at h1;by_cases hf:q4M b.x b.y a.x a.y=0
  ·left;refine⟨by simp[hij,hf],[],[],[],[],[],?_⟩;simp only[STD,bi,bj,and_self,hij',h0,h1,qEo,hf]
  ·have hpb:=fun neg=>qkY ga gb neg hf;have ht:=qAc ga gb hf;have n1:bnd 101 93 (q4M b.x b.y a.x a.y+a.s):=far.add a3 (by omega) (by omega);have h2:=qAI far a3 (by omega) (by omega) (by omega);have n2:bnd 115 106 (q4M b.x b.y a.x a.y+a.s-b.s):=n1.sub b3 (by omega) (by omega);have h3:=qwu n1 b3 (by omega) (by omega) (by omega);have h4:=quX qrK far (by omega) (by omega);rw[qEB] at h4;have n4:=qrK.mul far;have hf2:2*q4M b.x b.y a.x a.y≠0:=by grind
   have h5:=qGA hf2 n2 n4 (by omega) (by omega);have h6:=quX ht dx (by omega) (by omega);have h7:=qAI a1 (ht.mul dx) (by omega) (by omega) (by omega);have h8:=quX ht dy (by omega) (by omega);have h9:=qAI a2 (ht.mul dy) (by omega) (by omega) (by omega);have h10:=qwu q2c dy (by omega) (by omega) (by omega);have h14:=qwu q2c dx (by omega) (by omega) (by omega);rw[show tQ 0=[48] from rfl] at h10 h14;have h11:=qGA hf a3 far (by omega) (by omega);have h12:=quX ht ht (by omega) (by omega);have h13:=qwu (a3.div hf far) (ht.mul ht) (by omega) (by omega) (by omega);have hbd:=fun (q:Rat)=>qFm (seq (tQ q) [48]) (q=0) (side=0) (qEo q);have hie:ieq side 0=decide (side=0):=rfl;rw[if_neg (by simp[hij]),if_neg hf];obtain⟨p,hcr'⟩:∃p,p=qp a b (decide (side<0)):=⟨_,rfl⟩;rw[<-hcr'];have hcr:=hcr'.symm;clear hcr';rw[qkK] at hcr;obtain⟨t,htt⟩:∃t,t=(q4M b.x b.y a.x a.y+a.s-b.s)/(2*q4M b.x b.y a.x a.y):=⟨_,rfl⟩;rw[<-htt] at hcr h5 h6 h7 h8 h9 h12 h13;obtain⟨h,hh⟩:∃h,h=a.s/q4M b.x b.y a.x a.y-t*t:=⟨_,rfl⟩;rw[<-hh] at hcr h13;have hp5:p.h=h:=by rw[<-hcr]
   by_cases hs:side<0
   ·simp only[hs,decide_true,if_true] at hcr;by_cases hn:0<=h
    ·by_cases hz:(h=0↔side=0)
     ·right;refine⟨p,by rw[if_pos ⟨by rw[hp5];exact hn,by rw[hp5];exact hz⟩],?_⟩;rw[<-hcr];simp only[STD,bi,bj,and_self,hij',h0,h1,h2,h3,h4,h5,h6,h7,h8,h9,h10,h11,h12,h13,h14,qEo,hf,hs,qJE,qlj,qjE,qlw,hn,hie,hbd,hz,decide_true];rfl
     ·left;refine⟨by rw[if_neg (by rw[hp5];exact fun c=>hz c.2)],tQ p.fx,tQ p.fy,tQ p.ax,tQ p.ay,tQ p.h,?_⟩;rw[<-hcr];simp only[STD,bi,bj,and_self,hij',h0,h1,h2,h3,h4,h5,h6,h7,h8,h9,h10,h11,h12,h13,h14,qEo,hf,hs,qJE,qlj,qjE,qlw,hn,hie,hbd,hz,decide_false]
    ·left;refine⟨by rw[if_neg (by rw[hp5];exact fun c=>hn c.1)],tQ p.fx,tQ p.fy,tQ p.ax,tQ p.ay,tQ p.h,?_⟩;rw[<-hcr];simp only[STD,bi,bj,and_self,hij',h0,h1,h2,h3,h4,h5,h6,h7,h8,h9,h10,h11,h12,h13,h14,qEo,hf,hs,qJE,qlj,qjE,qlw,hn]
   ·simp only[hs,decide_false,qJA,if_false] at hcr;by_cases hn:0<=h
    ·by_cases hz:(h=0↔side=0)
     ·right;refine⟨p,by rw[if_pos ⟨by rw[hp5];exact hn,by rw[hp5];exact hz⟩],?_⟩;rw[<-hcr];simp only[STD,bi,bj,and_self,hij',h0,h1,h2,h3,h4,h5,h6,h7,h8,h9,h10,h11,h12,h13,h14,qEo,hf,hs,qJE,qlj,qjE,qlw,hn,hie,hbd,hz,decide_true];rfl
     ·left;refine⟨by rw[if_neg (by rw[hp5];exact fun c=>hz c.2)],tQ p.fx,tQ p.fy,tQ p.ax,tQ p.ay,tQ p.h,?_⟩;rw[<-hcr];simp only[STD,bi,bj,and_self,hij',h0,h1,h2,h3,h4,h5,h6,h7,h8,h9,h10,h11,h12,h13,h14,qEo,hf,hs,qJE,qlj,qjE,qlw,hn,hie,hbd,hz,decide_false]
    ·left;refine⟨by rw[if_neg (by rw[hp5];exact fun c=>hn c.1)],tQ p.fx,tQ p.fy,tQ p.ax,tQ p.ay,tQ p.h,?_⟩;rw[<-hcr];simp only[STD,bi,bj,and_self,hij',h0,h1,h2,h3,h4,h5,h6,h7,h8,h9,h10,h11,h12,h13,h14,qEo,hf,hs,qJE,qlj,qjE,qlw,hn]
theorem qFo{α:Type}(p:Nat->Bool)(g:Nat->α)(n:Nat):(q1C (fun i=>if p i=true then none else some (g i)) 0 n=none/\∀i,i<n->p i=true)\/∃i,i<n/\p i=false/\q1C (fun i=>if p i=true then none else some (g i)) 0 n=some (g i):=by
 cases h:q1C (fun i=>if p i=true then none else some (g i)) 0 n with
 | none=>
  refine .inl ⟨rfl,fun i hi=>?_⟩;have:=kt h i (by omega) (by omega);cases hp:p i
  ·rw[hp] at this;simp at this
  ·rfl
 | some a=>
  obtain⟨j,-,hj,hf,-⟩:=q1P h;cases hp:p j
  ·rw[hp] at hf;simp at hf;exact .inr ⟨j,by omega,hp,by rw[hf]⟩
  ·rw[hp] at hf;simp at hf
theorem qEp(l:List DQ)(p:DQ->Bool):l.all p=true↔∀i,i<l.length->p (ix l i)=true:=by
 rw[qJL];constructor
 ·intro h i hi;exact h _ (qdf hi)
 ·intro h d hd;obtain⟨i,hi,rfl⟩:=qaX hd;exact h i hi
theorem qEZ{l:List DQ}{p:DQ->Bool}{i:Nat}(hi:i<l.length)(h:p (ix l i)=false):l.all p=false:=by
 cases ha:l.all p
 ·rfl
 ·have:=(qEp l p).1 ha i hi;simp_all
theorem qxa{l:List DQ}(hl:GDs l)(hn:l.length<1000000){i j:Nat}(hi:i<l.length)(hj:j<l.length)(side:Int) :(jn [.r (rD l),.i (i:Int),.i (j:Int),.i side,.i 0]).run=some (0,[.b (q5d l i j side),.i 0]):=by
 rw[qhH];unfold q5d;rcases qGe hl hi hj side with⟨h1,a,b,c,d,e,h2⟩|⟨p,h1,h2⟩
 ·rw[h1];simp only[STD,h2]
 ·rw[h1];have hp:=qDC (hl.ix hi) (hl.ix hj) h1;unfold plc at h2;simp only[qKc,qKm] at h2;have key:=q4o (S:=wP)
   (fun k=>[.r (rD l),.i (qk (rD l)),.i (k:Int),.r (rD l),.r (rD l),.r (rD l),.i (i:Int),.i (j:Int),.i side,.b true,.s (tQ p.fx),.s (tQ p.fy),.s (tQ p.ax),.s (tQ p.ay),.s (tQ p.h),.b true,.r (rD l),.i (i:Int),.i (j:Int),.i side,.s (tQ p.fx),.s (tQ p.fy),.s (tQ p.ax),.s (tQ p.ay),.s (tQ p.h),.b true,.s (tQ p.fx),.s (tQ p.fy),.s (tQ p.ax),.s (tQ p.ay),.s (tQ p.h),.b true,.b true,.r (rD l),.i 0,.i (i:Int),.i (j:Int),.i side,.s (tQ p.fx),.s (tQ p.fy),.s (tQ p.ax),.s (tQ p.ay),.s (tQ p.h)])
   (fun k=>if decide (q1I (ix l k) p)=true then none else some (1,[.i (k:Int),.r (rD l),.r (rD l),.r (rD l),.i (i:Int),.i (j:Int),.i side,.b true,.s (tQ p.fx),.s (tQ p.fy),.s (tQ p.ax),.s (tQ p.ay),.s (tQ p.h),.b true,.r (rD l),.i (i:Int),.i (j:Int),.i side,.s (tQ p.fx),.s (tQ p.fy),.s (tQ p.ax),.s (tQ p.ay),.s (tQ p.h),.b true,.s (tQ p.fx),.s (tQ p.fy),.s (tQ p.ax),.s (tQ p.ay),.s (tQ p.h),.b true,.b true,.r (rD l),.i 0,.i (i:Int),.i (j:Int),.i side,.s (tQ p.fx),.s (tQ p.fy),.s (tQ p.ax),.s (tQ p.ay),.s (tQ p.h)]))
   (0,[.r (rD l),.r (rD l),.r (rD l),.i (i:Int),.i (j:Int),.i side,.b true,.s (tQ p.fx),.s (tQ p.fy),.s (tQ p.ax),.s (tQ p.ay),.s (tQ p.h),.b true,.r (rD l),.i (i:Int),.i (j:Int),.i side,.s (tQ p.fx),.s (tQ p.fy),.s (tQ p.ax),.s (tQ p.ay),.s (tQ p.h),.b true,.s (tQ p.fx),.s (tQ p.fy),.s (tQ p.ax),.s (tQ p.ay),.s (tQ p.h),.b true,.b true,.r (rD l),.i 0,.i (i:Int),.i (j:Int),.i side,.s (tQ p.fx),.s (tQ p.fy),.s (tQ p.ax),.s (tQ p.ay),.s (tQ p.h)])
   l.length (by omega)
   (fun k hk hf=>by
    rw[uQ];obtain⟨x1,x2,x3⟩:=qu6 hk;have hK:=qCm (hl.ix hk) hp;by_cases hd:q1I (ix l k) p
    ·simp only[x1,x2,x3,STD,hK,hd,wi,kX hk (show l.length<9223372036854775808 by omega),show (k:Int)<(l.length:Int) by omega,show (0:Int)<=(k:Int) by omega,and_self,decide_true]
    ·simp[hd] at hf)
   (fun k r hk hf=>by
    rw[uQ];obtain⟨x1,x2,x3⟩:=qu6 hk;have hK:=qCm (hl.ix hk) hp;by_cases hd:q1I (ix l k) p
    ·simp[hd] at hf
    ·simp only[hd,decide_false,qJA,if_false,qJc] at hf;subst hf;simp only[x1,x2,x3,STD,hK,hd,wi,show (k:Int)<(l.length:Int) by omega,show (0:Int)<=(k:Int) by omega,and_self,decide_false])
   (by rw[uQ];simp only[STD,wi,show ¬(l.length:Int)<(l.length:Int) by omega])
  rcases qFo (fun k=>decide (q1I (ix l k) p)) (fun k=>((1,[.i (k:Int),.r (rD l),.r (rD l),.r (rD l),.i (i:Int),.i (j:Int),.i side,.b true,.s (tQ p.fx),.s (tQ p.fy),.s (tQ p.ax),.s (tQ p.ay),.s (tQ p.h),.b true,.r (rD l),.i (i:Int),.i (j:Int),.i side,.s (tQ p.fx),.s (tQ p.fy),.s (tQ p.ax),.s (tQ p.ay),.s (tQ p.h),.b true,.s (tQ p.fx),.s (tQ p.fy),.s (tQ p.ax),.s (tQ p.ay),.s (tQ p.h),.b true,.b true,.r (rD l),.i 0,.i (i:Int),.i (j:Int),.i side,.s (tQ p.fx),.s (tQ p.fy),.s (tQ p.ax),.s (tQ p.ay),.s (tQ p.h)]):Nat×List PV)) l.length with⟨s1,s2⟩|⟨k,hk,s2,s1⟩
  ·rw[s1] at key;have hall:(l.all fun d=>decide (q1I d p))=true:=(qEp l _).2 s2;simp only[Option.getD_none] at key;simp only[STD,h2,hall];have key':=key;simp only[show ((0:Nat):Int)=0 from rfl] at key';simp only[STD,key',zt key',show ieq 0 0=true from rfl]
  ·rw[s1] at key;have hall:=qEZ (p:=fun d=>decide (q1I d p)) hk s2;simp only[qKq] at key;simp only[STD,h2,hall];have key':=key;simp only[show ((0:Nat):Int)=0 from rfl] at key';simp only[STD,key',zt key',show ¬(1=0) by omega,show (0:Int)<=(k:Int) by omega]
theorem q9a{S:List PV->TR}{α:Type}(st:Nat->List PV)(f:Nat->Option α)(g:α->List PV)(fin:List PV)(n:Nat)(hn:n<9223372036854775808)(h:∀i,i<n->(S (st i)).run=(f i).elim (some (0,st (i+1))) (fun a=>some (2,g a))) (h3:(S (st n)).run=some (1,fin)) :(qh S (st 0)).run=some ((q1C f 0 n).elim (0,fin) (fun a=>(1,g a))):=by
 have key:=q4o st (fun i=>(f i).map fun a=>(1,g a)) (0,fin) n hn (fun i hi hf=>by
  rw[h i hi];cases hfi:f i with
  | none=>rfl
  | some a=>rw[hfi] at hf;cases hf) (fun i r hi hf=>by
  rw[h i hi];cases hfi:f i with
  | none=>rw[hfi] at hf;cases hf
  | some a=>rw[hfi] at hf;simp at hf;rw[<-hf];rfl) h3
 rw[key,qrI];cases q1C f 0 n<;>rfl
def sd(s:Nat):Int:=cI [[.i 0],[.i 1],[.i (-1)]] (s:Int) 0
theorem qz2(l:List DQ)(i j:Nat):q1C (fun s=>qpM l i j (sd s)) 0 3=qfh l i j:=by
 have e0:sd 0=0:=rfl;have e1:sd 1=1:=rfl;have e2:sd 2=-1:=rfl;simp only[q1C,e0,e1,e2];unfold qfh;cases qpM l i j 0
 ·cases qpM l i j 1
  ·cases qpM l i j (-1)<;>rfl
  ·rfl
 ·rfl
def dex(l:List DQ)(w:Nat×Nat×Int):List PV:=[.i 0,.r (rD l),.i (w.1:Int),.i (w.2.1:Int),.i w.2.2,.b true,.i (l.length:Int)]
def fW(o:Option (Nat×Nat×Int)):List PV:=o.elim [.i 0,.i 0,.i 0,.b false] (fun w=>[.i (w.1:Int),.i (w.2.1:Int),.i w.2.2,.b true])
theorem n3:qk [[U.i 0],[U.i 1],[U.i (-1)]]=3:=rfl
set_option maxHeartbeats 600000 in
theorem qvw{l:List DQ}(hl:GDs l)(hn:l.length<1000000):(wH [.r (rD l),.i 0]).run=some (0,fW (q4l l)++[.i 0]):=by
 rw[qje];have big:l.length<9223372036854775808:=by omega
 have A:=q9a (S:=vq) (fun k=>[.i (l.length:Int),.i (k:Int),.i 0,.r (rD l),.i 0,.i 0,.i 0,.b false,.i (l.length:Int)]) (fun k=>qpM l k k 0) (dex l)
  [.i 0,.r (rD l),.i 0,.i 0,.i 0,.b false,.i (l.length:Int)] l.length big
  (fun k hk=>by
   rw[q42];have hp:=qxa hl hn hk hk 0;unfold qpM;by_cases c:q5d l k k 0=true
   ·rw[if_pos c];simp only[STD,hp,c,show (k:Int)<(l.length:Int) by omega,dex]
   ·rw[if_neg c];simp only[STD,hp,c,show (k:Int)<(l.length:Int) by omega,kX hk big];rfl)
  (by rw[q42];simp only[STD,show ¬(l.length:Int)<(l.length:Int) by omega])
 have B:=fun i j (hi:i<l.length) (hj:j<l.length)=>q9a (S:=wY) (fun s=>[.i (i:Int),.i (j:Int),.i (l.length:Int),.i (i:Int),.i 3,.i (s:Int),.i 0,.r (rD l),.i 0,.i 0,.i 0,.b false,.i (l.length:Int),.r [[.i 0],[.i 1],[.i (-1)]]]) (fun s=>qpM l i j (sd s)) (dex l)
  [.i (i:Int),.i (j:Int),.i (l.length:Int),.i (i:Int),.i 0,.r (rD l),.i 0,.i 0,.i 0,.b false,.i (l.length:Int)] 3 (by omega)
  (fun s hs=>by
   rw[q3C];have hp:=qxa hl hn hi hj (sd s);have esd:cI [[.i 0],[.i 1],[.i (-1)]] (s:Int) 0=sd s:=rfl;unfold qpM;by_cases c:q5d l i j (sd s)=true
   ·rw[if_pos c];simp only[STD,hp,c,esd,n3,show (s:Int)<3 by omega,show (0:Int)<=(s:Int) by omega,and_self,dex]
   ·rw[if_neg c];simp only[STD,hp,c,esd,n3,show (s:Int)<3 by omega,show (0:Int)<=(s:Int) by omega,and_self,kX hs (show 3<9223372036854775808 by omega)];rfl)
  (by rw[q3C];simp only[STD,show ((3:Nat):Int)=3 from rfl,show ¬(3:Int)<3 by omega])
 have C:=fun i (hi:i<l.length)=>q9a (S:=wN) (fun k=>[.i (i:Int),.i ((i+1+k:Nat):Int),.i (l.length:Int),.i (i:Int),.i 0,.r (rD l),.i 0,.i 0,.i 0,.b false,.i (l.length:Int)]) (fun k=>qfh l i (i+1+k)) (dex l)
  [.i (l.length:Int),.i (i:Int),.i 0,.r (rD l),.i 0,.i 0,.i 0,.b false,.i (l.length:Int)] (l.length-(i+1)) (by omega)
  (fun k hk=>by
   rw[q3D];have hj:i+1+k<l.length:=by omega
   have b:=B i (i+1+k) hi hj;rw[qz2] at b;simp only[show ((0:Nat):Int)=0 from rfl] at b;have w:=kX hj big;cases hs:qfh l i (i+1+k) with
   | none=>
    rw[hs] at b;simp only[Option.elim] at b ⊢;simp only[STD,b,zt b,n3,show ((i+1+k:Nat):Int)<(l.length:Int) by omega,w];rfl
   | some v=>
    rw[hs] at b;simp only[Option.elim,dex] at b ⊢;simp only[STD,b,zt b,n3,show ((i+1+k:Nat):Int)<(l.length:Int) by omega,show ¬(1=0) by omega])
  (by rw[q3D];simp only[STD,show ¬((i+1+(l.length-(i+1)):Nat):Int)<(l.length:Int) by omega])
 have D:=q9a (S:=vJ) (fun i=>[.i (l.length:Int),.i (i:Int),.i 0,.r (rD l),.i 0,.i 0,.i 0,.b false,.i (l.length:Int)]) (fun i=>q1C (fun k=>qfh l i (i+1+k)) 0 (l.length-(i+1))) (dex l)
  [.i 0,.r (rD l),.i 0,.i 0,.i 0,.b false,.i (l.length:Int)] l.length big
  (fun i hi=>by
   rw[q48];have c:=C i hi;simp only[qJU] at c;have w:=kX hi big;cases hs:q1C (fun k=>qfh l i (i+1+k)) 0 (l.length-(i+1)) with
   | none=>
    rw[hs] at c;simp only[Option.elim] at c ⊢;simp only[STD,w,c,zt c,show (i:Int)<(l.length:Int) by omega]
   | some v=>
    rw[hs] at c;simp only[Option.elim,dex] at c ⊢;simp only[STD,w,c,zt c,show (i:Int)<(l.length:Int) by omega,show ¬(1=0) by omega])
  (by rw[q48];simp only[STD,show ¬(l.length:Int)<(l.length:Int) by omega])
 simp only[show ((0:Nat):Int)=0 from rfl] at A D;unfold q4l;cases hs:q1C (fun i=>qpM l i i 0) 0 l.length with
 | some v=>
  rw[hs] at A;simp only[Option.elim,dex] at A;simp only[STD,wi,A,zt A,show ¬(1=0) by omega,fW,Option.elim];rfl
 | none=>
  rw[hs] at A;simp only[Option.elim] at A;simp only[];cases hs':q1C (fun i=>q1C (fun k=>qfh l i (i+1+k)) 0 (l.length-(i+1))) 0 l.length with
  | none=>
   rw[hs'] at D;simp only[Option.elim] at D;simp only[STD,wi,A,zt A,D,zt D,fW,Option.elim];rfl
  | some v=>
   rw[hs'] at D;simp only[Option.elim,dex] at D;simp only[STD,wi,A,zt A,D,zt D,fW,Option.elim,show ¬(1=0) by omega];rfl
theorem qHo{d:DQ}(h:GD d):qGg (tQ d.x) (tQ d.y) (tQ d.s)=0:=qGn ((uN h.x).ok (by omega) (by omega)) ((uN h.y).ok (by omega) (by omega)) ((q9c h.s).ok (by omega) (by omega)) h.nn
noncomputable def cD(x:R)(i:Nat):Int:=qGg (cS x (i:Int) 0) (cS x (i:Int) 1) (cS x (i:Int) 2)
noncomputable def lE(x:R):Int:=if 64<x.length then 5 else if qdc (cD x) x.length=0 then (if x.length=0 then 13 else 0) else qdc (cD x) x.length
theorem qtK(x:R)(h:64<x.length\/∀i,i<x.length->∀j,(cS x (i:Int) j).length<=1000000):(q10 [.r x]).run=some (0,[.i (lE x)]):=by
 rw[qsF];unfold lE;by_cases hn:64<x.length
 ·have:(64:Int)<qk x:=by unfold qk;omega
  simp only[STD,this,hn]
 ·have h':∀i,i<x.length->∀j,(cS x (i:Int) j).length<=1000000:=by
   rcases h with h|h
   ·omega
   ·exact h
  have hn':¬(64:Int)<qk x:=by unfold qk;omega
  have L:=qxb (S:=q44) (fun k=>[.r x,.r x,.i (qk x),.i (k:Int)]) (cD x) [] [.r x] x.length (by omega)
   (fun i hi=>by
    rw[qgj];have c:=qrZ _ _ _ (h' i hi 0) (h' i hi 1) (h' i hi 2);have w:=kX hi (show x.length<9223372036854775808 by omega);by_cases e:qGg (cS x (i:Int) 0) (cS x (i:Int) 1) (cS x (i:Int) 2)=0
    ·simp only[STD,c,e,w,quF hi,q8N,and_self,cD]
    ·simp only[STD,c,e,quF hi,q8N,and_self,cD])
   (by rw[qgj];simp only[STD,qCj])
  simp only[show ((0:Nat):Int)=0 from rfl] at L;by_cases e:qdc (cD x) x.length=0
  ·rw[if_pos e] at L;by_cases z:x.length=0
   ·have:qk x=0:=by unfold qk;omega
    rw[if_neg hn,if_pos e,if_pos z];have L':=L;rw[this] at L';simp only[STD,this,show ¬(64:Int)<0 by omega,L',zt L']
   ·have:¬qk x=0:=by unfold qk;omega
    simp only[STD,hn',L,zt L,hn,e,z,this]
  ·rw[if_neg e] at L;simp only[STD,hn',L,zt L,hn,e,show ¬(1=0) by omega]
instance (s:qJb):Decidable (shT s):=by unfold shT;infer_instance
theorem qFv(x:R)(i j:Nat):cS x (i:Int) j=((x.getD i []).getD j (.i 0)).toS:=rfl
theorem qIA{l:List DQ}(hl:GDs l)(h0:l≠[])(hn:l.length<=64):lE (rD l)=0:=by
 have hlen:(rD l).length=l.length:=by simp[rD]
 have hz:l.length≠0:=fun h=>h0 (List.length_eq_zero_iff.1 h);unfold lE;rw[hlen,if_neg (by omega),if_neg hz,if_pos];refine quL fun i hi=>?_;obtain⟨x1,x2,x3⟩:=qu6 hi;unfold cD;rw[x1,x2,x3];exact qHo (hl.ix hi)
theorem qF1{l:List DQ}(hl:GDs l):∀i,i<(rD l).length->∀j,(cS (rD l) (i:Int) j).length<=1000000:=by
 intro i hi j;have hi':i<l.length:=by simpa[rD] using hi
 obtain⟨x1,x2,x3⟩:=qu6 hi';have g:=hl.ix hi'
 match j with
 | 0=>rw[x1];have:=qnY ((uN g.x).ok (by omega) (by omega));omega
 | 1=>rw[x2];have:=qnY ((uN g.y).ok (by omega) (by omega));omega
 | 2=>rw[x3];have:=qnY ((q9c g.s).ok (by omega) (by omega));omega
 | j+3=>
  rw[qFv];have e:(rD l).getD i []=qfE (ix l i):=by unfold rD ix;simp[hi']
  rw[e];simp[qfE,U.toS]
theorem quf{l:List DQ}(hl:GDs l)(h0:l≠[])(hn:l.length<=64):(q10 [.r (rD l)]).run=some (0,[.i 0]):=by rw[qtK _ (.inr (qF1 hl)),qIA hl h0 hn]
def cW(o:Option (Nat×Nat×Int)):List PV:=o.elim [.b false,.i 0,.i 0,.i 0,.i 0] (fun w=>[.b true,.i (w.1:Int),.i (w.2.1:Int),.i w.2.2,.i 0])
theorem qve{l:List DQ}(hl:GDs l)(h0:l≠[])(hn:l.length<=64):(q1R [.r (rD l)]).run=some (0,cW (q4l l)):=by
 rw[qoN];have a:=quf hl h0 hn;have b:=qvw hl (by omega);cases hf:q4l l with
 | none=>
  rw[hf] at b;simp only[fW,Option.elim,qKc,qKm] at b;simp only[STD,a,b,cW,Option.elim]
 | some w=>
  rw[hf] at b;simp only[fW,Option.elim,qKc,qKm] at b;simp only[STD,a,b,cW,Option.elim]
def two(i j:Nat):R:=[[.i (i:Int)],[.i (j:Int)]]
def three(i j k:Nat):R:=[[.i (i:Int)],[.i (j:Int)],[.i (k:Int)]]
def qhS(l:List DQ)(i j:Nat):Option R:=if (q4l [ix l i,ix l j]).isSome=true then none else some (two i j)
def qfq(l:List DQ)(i j k:Nat):Option R:=if (q4l [ix l i,ix l j,ix l k]).isSome=true then none else some (three i j k)
def qBh(l:List DQ):Option R:=q1C (fun i=>q1C (fun k=>qhS l i (i+1+k)) 0 (l.length-(i+1))) 0 l.length
def qzw(l:List DQ):Option R:=q1C (fun i=>q1C (fun k=>q1C (fun m=>qfq l i (i+1+k) (i+1+k+1+m)) 0 (l.length-(i+1+k+1))) 0 (l.length-(i+1))) 0 l.length
def qem(l:List DQ):R:=(qBh l).elim ((qzw l).getD []) id
theorem qJ4{a b:DQ}(ga:GD a)(gb:GD b):GDs [a,b]:=fun d hd=>by simp only[qJi,qKx,or_false] at hd;rcases hd with rfl|rfl<;>assumption
theorem qJ6{a b c:DQ}(ga:GD a)(gb:GD b)(gc:GD c):GDs [a,b,c]:=fun d hd=>by simp only[qJi,qKx,or_false] at hd;rcases hd with rfl|rfl|rfl<;>assumption
theorem qzZ(o:Option (Nat×Nat×Int)):∃a b c,fW o=[.i a,.i b,.i c,.b o.isSome]:=by
 cases o with
 | none=>exact⟨_,_,_,rfl⟩
 | some w=>exact⟨_,_,_,rfl⟩
theorem qIL(l:List DQ)(i j k:Nat)(hk:k<2):∃m,(m=i\/m=j)/\cI (two i j) (k:Int) 0=(m:Int)/\[qfE (ix l i),qfE (ix l j)].take (k+1)=[qfE (ix l i),qfE (ix l j)].take k++[qfE (ix l m)]:=by
 rcases (show k=0\/k=1 by omega) with rfl|rfl
 ·exact⟨i,.inl rfl,rfl,rfl⟩
 ·exact⟨j,.inr rfl,rfl,rfl⟩
theorem qIG(l:List DQ)(i j o k:Nat)(hk:k<3):∃m,(m=i\/m=j\/m=o)/\cI (three i j o) (k:Int) 0=(m:Int)/\[qfE (ix l i),qfE (ix l j),qfE (ix l o)].take (k+1)=[qfE (ix l i),qfE (ix l j),qfE (ix l o)].take k++[qfE (ix l m)]:=by
 rcases (show k=0\/k=1\/k=2 by omega) with rfl|rfl|rfl
 ·exact⟨i,.inl rfl,rfl,rfl⟩
 ·exact⟨j,.inr (.inl rfl),rfl,rfl⟩
 ·exact⟨o,.inr (.inr rfl),rfl,rfl⟩
theorem qtP{x:R}{k:Nat}:qk (x.take k)<=qk x:=by unfold qk;rw[qK8];omega
theorem qxm(i j:Nat):qk (two i j)=2:=rfl
theorem qr6(i j k:Nat):qk (three i j k)=3:=rfl
theorem qBQ{l:List DQ}(_:l.length<1000000){i j:Nat}(hi:i<l.length)(hj:j<l.length)(a b c d e f g h:Int) :(qh zm [.i (qk (two i j)),.i 0,.i a,.i b,.i c,.i d,.i e,.r (rD l),.i f,.i g,.i h,.r (rD l),.i 0,.r (two i j),.r []]).run=some (0,[.i a,.i b,.i c,.i d,.i e,.r (rD l),.i f,.i g,.i h,.r (rD l),.i 0,.r (two i j),.r (rD [ix l i,ix l j])]):=by
 have key:=zf (S:=zm) (fun k=>[.i (qk (two i j)),.i (k:Int),.i a,.i b,.i c,.i d,.i e,.r (rD l),.i f,.i g,.i h,.r (rD l),.i 0,.r (two i j),.r ([qfE (ix l i),qfE (ix l j)].take k)])
  (0,[.i a,.i b,.i c,.i d,.i e,.r (rD l),.i f,.i g,.i h,.r (rD l),.i 0,.r (two i j),.r (rD [ix l i,ix l j])]) 2 (by omega)
  (fun k hk=>by
   rw[q12];obtain⟨m,hm,e1,e2⟩:=qIL l i j k hk;have hml:m<l.length:=by rcases hm with rfl|rfl<;>assumption
   obtain⟨x1,x2,x3⟩:=qu6 hml;have w:=kX hk (show 2<9223372036854775808 by omega);have t:=qtP (x:=[qfE (ix l i),qfE (ix l j)]) (k:=k);have t2:qk [qfE (ix l i),qfE (ix l j)]=2:=rfl;have t1:qk [[U.s (tQ (ix l m).x),U.s (tQ (ix l m).y),U.s (tQ (ix l m).s)]]=1:=rfl;rw[e1,x1,x2,x3,e2];simp only[STD,qxm,show (k:Int)<2 by omega,q8N,wi,show (m:Int)<(l.length:Int) by omega,and_self,w,show qk ([qfE (ix l i),qfE (ix l j)].take k)+qk [[U.s (tQ (ix l m).x),U.s (tQ (ix l m).y),U.s (tQ (ix l m).s)]]<=2932031007402 by omega];rfl)
  (by rw[q12];simp only[STD,qxm,show ¬((2:Nat):Int)<2 by omega];rfl)
 exact key
theorem qAz{l:List DQ}(_:l.length<1000000){i j o:Nat}(hi:i<l.length)(hj:j<l.length)(ho:o<l.length)(a b c d e f g h p q:Int) :(qh zl [.i (qk (three i j o)),.i 0,.i a,.i b,.i c,.i d,.i e,.i f,.r (rD l),.i g,.i h,.i p,.i q,.r (rD l),.i 0,.r (three i j o),.r []]).run=some (0,[.i a,.i b,.i c,.i d,.i e,.i f,.r (rD l),.i g,.i h,.i p,.i q,.r (rD l),.i 0,.r (three i j o),.r (rD [ix l i,ix l j,ix l o])]):=by
 have key:=zf (S:=zl) (fun k=>[.i (qk (three i j o)),.i (k:Int),.i a,.i b,.i c,.i d,.i e,.i f,.r (rD l),.i g,.i h,.i p,.i q,.r (rD l),.i 0,.r (three i j o),.r ([qfE (ix l i),qfE (ix l j),qfE (ix l o)].take k)])
  (0,[.i a,.i b,.i c,.i d,.i e,.i f,.r (rD l),.i g,.i h,.i p,.i q,.r (rD l),.i 0,.r (three i j o),.r (rD [ix l i,ix l j,ix l o])]) 3 (by omega)
  (fun k hk=>by
   rw[q13];obtain⟨m,hm,e1,e2⟩:=qIG l i j o k hk;have hml:m<l.length:=by rcases hm with rfl|rfl|rfl<;>assumption
   obtain⟨x1,x2,x3⟩:=qu6 hml;have w:=kX hk (show 3<9223372036854775808 by omega);have t:=qtP (x:=[qfE (ix l i),qfE (ix l j),qfE (ix l o)]) (k:=k);have t2:qk [qfE (ix l i),qfE (ix l j),qfE (ix l o)]=3:=rfl;have t1:qk [[U.s (tQ (ix l m).x),U.s (tQ (ix l m).y),U.s (tQ (ix l m).s)]]=1:=rfl;rw[e1,x1,x2,x3,e2];simp only[STD,qr6,show (k:Int)<3 by omega,q8N,wi,show (m:Int)<(l.length:Int) by omega,and_self,w,show qk ([qfE (ix l i),qfE (ix l j),qfE (ix l o)].take k)+qk [[U.s (tQ (ix l m).x),U.s (tQ (ix l m).y),U.s (tQ (ix l m).s)]]<=2932031007402 by omega];rfl)
  (by rw[q13];simp only[STD,qr6,show ¬((3:Nat):Int)<3 by omega];rfl)
 exact key
theorem qvJ{l:List DQ}(hl:GDs l)(h0:l≠[])(hn:l.length<=64):(zY [.r (rD l)]).run=some (0,[.r (qem l),.i 0]):=by
 rw[qfv];have a:=quf hl h0 hn;have big:l.length<9223372036854775808:=by omega
 have A:=fun i (hi:i<l.length)=>q9a (S:=vC) (fun k=>[.i (i:Int),.i ((i+1+k:Nat):Int),.i (l.length:Int),.i (i:Int),.r (rD l),.i 0]) (fun k=>qhS l i (i+1+k)) (fun r=>[.i 0,.r r])
  [.i (l.length:Int),.i (i:Int),.r (rD l),.i 0] (l.length-(i+1)) (by omega)
  (fun k hk=>by
   rw[q45];have hj:i+1+k<l.length:=by omega
   have g:=qBQ (l:=l) (by omega) hi hj (i:Int) ((i+1+k:Nat):Int) (l.length:Int) (i:Int) ((i+1+k:Nat):Int) (l.length:Int) (i:Int) ((i+1+k:Nat):Int);have f:=qvw (qJ4 (hl.ix hi) (hl.ix hj)) (by simp);obtain⟨u,v,w,hfw⟩:=qzZ (q4l [ix l i,ix l (i+1+k)]);rw[hfw] at f;simp only[qKc,qKm] at f;have ws:=kX hj big;have tw:[[U.i (i:Int)],[U.i ((i+1+k:Nat):Int)]]=two i (i+1+k):=rfl;rw[tw];unfold qhS;cases hs:(q4l [ix l i,ix l (i+1+k)]).isSome
   ·rw[hs] at f;simp only[STD,wi,g,f,show ((i+1+k:Nat):Int)<(l.length:Int) by omega,show ieq 0 0=true from rfl,Option.elim,tw]
   ·rw[hs] at f;simp only[STD,wi,g,f,show ((i+1+k:Nat):Int)<(l.length:Int) by omega,Option.elim,ws];rfl)
  (by rw[q45];simp only[STD,wi,show ¬((i+1+(l.length-(i+1)):Nat):Int)<(l.length:Int) by omega])
 have B:=q9a (S:=j4) (fun i=>[.i (l.length:Int),.i (i:Int),.r (rD l),.i 0]) (fun i=>q1C (fun k=>qhS l i (i+1+k)) 0 (l.length-(i+1))) (fun r=>[.i 0,.r r])
  [.r (rD l),.i 0] l.length big
  (fun i hi=>by
   rw[q5w];have c:=A i hi;simp only[qJU] at c;have w:=kX hi big;cases hs:q1C (fun k=>qhS l i (i+1+k)) 0 (l.length-(i+1)) with
   | none=>
    rw[hs] at c;simp only[Option.elim] at c ⊢;simp only[STD,w,c,zt c,show (i:Int)<(l.length:Int) by omega]
   | some v=>
    rw[hs] at c;simp only[Option.elim] at c ⊢;simp only[STD,w,c,zt c,show (i:Int)<(l.length:Int) by omega,show ¬(1=0) by omega])
  (by rw[q5w];simp only[STD,show ¬(l.length:Int)<(l.length:Int) by omega])
 have C:=fun i j (hi:i<l.length) (hj:j<l.length)=>q9a (S:=vH) (fun k=>[.i (i:Int),.i (j:Int),.i ((j+1+k:Nat):Int),.i (l.length:Int),.i (i:Int),.r (rD l),.i 0]) (fun k=>qfq l i j (j+1+k)) (fun r=>[.i 0,.r r])
  [.i (i:Int),.i (j:Int),.i (l.length:Int),.i (i:Int),.r (rD l),.i 0] (l.length-(j+1)) (by omega)
  (fun k hk=>by
   rw[q4j];have ho:j+1+k<l.length:=by omega
   have g:=qAz (l:=l) (by omega) hi hj ho (i:Int) (j:Int) ((j+1+k:Nat):Int) (l.length:Int) (i:Int) ((j+1+k:Nat):Int) (l.length:Int) (i:Int) (j:Int) ((j+1+k:Nat):Int);have f:=qvw (qJ6 (hl.ix hi) (hl.ix hj) (hl.ix ho)) (by simp);obtain⟨u,v,w,hfw⟩:=qzZ (q4l [ix l i,ix l j,ix l (j+1+k)]);rw[hfw] at f;simp only[qKc,qKm] at f;have ws:=kX ho big;have tw:[[U.i (i:Int)],[U.i (j:Int)],[U.i ((j+1+k:Nat):Int)]]=three i j (j+1+k):=rfl;rw[tw];unfold qfq;cases hs:(q4l [ix l i,ix l j,ix l (j+1+k)]).isSome
   ·rw[hs] at f;simp only[STD,wi,g,f,show ((j+1+k:Nat):Int)<(l.length:Int) by omega,show ieq 0 0=true from rfl,Option.elim,tw]
   ·rw[hs] at f;simp only[STD,wi,g,f,show ((j+1+k:Nat):Int)<(l.length:Int) by omega,Option.elim,ws];rfl)
  (by rw[q4j];simp only[STD,wi,show ¬((j+1+(l.length-(j+1)):Nat):Int)<(l.length:Int) by omega])
 have D:=fun i (hi:i<l.length)=>q9a (S:=vA) (fun k=>[.i (i:Int),.i ((i+1+k:Nat):Int),.i (l.length:Int),.i (i:Int),.r (rD l),.i 0]) (fun k=>q1C (fun m=>qfq l i (i+1+k) (i+1+k+1+m)) 0 (l.length-(i+1+k+1))) (fun r=>[.i 0,.r r])
  [.i (l.length:Int),.i (i:Int),.r (rD l),.i 0] (l.length-(i+1)) (by omega)
  (fun k hk=>by
   rw[q3X];have hj:i+1+k<l.length:=by omega
   have c:=C i (i+1+k) hi hj;simp only[qJU] at c;have w:=kX hj big;cases hs:q1C (fun m=>qfq l i (i+1+k) (i+1+k+1+m)) 0 (l.length-(i+1+k+1)) with
   | none=>
    rw[hs] at c;simp only[Option.elim] at c ⊢;simp only[STD,w,c,zt c,wi,show ((i+1+k:Nat):Int)<(l.length:Int) by omega];rfl
   | some v=>
    rw[hs] at c;simp only[Option.elim] at c ⊢;simp only[STD,w,c,zt c,wi,show ((i+1+k:Nat):Int)<(l.length:Int) by omega,show ¬(1=0) by omega])
  (by rw[q3X];simp only[STD,wi,show ¬((i+1+(l.length-(i+1)):Nat):Int)<(l.length:Int) by omega])
 have E:=q9a (S:=vB) (fun i=>[.i (l.length:Int),.i (i:Int),.r (rD l),.i 0]) (fun i=>q1C (fun k=>q1C (fun m=>qfq l i (i+1+k) (i+1+k+1+m)) 0 (l.length-(i+1+k+1))) 0 (l.length-(i+1))) (fun r=>[.i 0,.r r])
  [.i 0] l.length big
  (fun i hi=>by
   rw[q4x];have c:=D i hi;simp only[qJU] at c;have w:=kX hi big;cases hs:q1C (fun k=>q1C (fun m=>qfq l i (i+1+k) (i+1+k+1+m)) 0 (l.length-(i+1+k+1))) 0 (l.length-(i+1)) with
   | none=>
    rw[hs] at c;simp only[Option.elim] at c ⊢;simp only[STD,w,c,zt c,show (i:Int)<(l.length:Int) by omega]
   | some v=>
    rw[hs] at c;simp only[Option.elim] at c ⊢;simp only[STD,w,c,zt c,show (i:Int)<(l.length:Int) by omega,show ¬(1=0) by omega])
  (by rw[q4x];simp only[STD,show ¬(l.length:Int)<(l.length:Int) by omega])
 simp only[show ((0:Nat):Int)=0 from rfl] at B E;unfold qem;cases hp:qBh l with
 | some r=>
  rw[show q1C (fun i=>q1C (fun k=>qhS l i (i+1+k)) 0 (l.length-(i+1))) 0 l.length=some r from hp] at B;simp only[Option.elim] at B;simp only[STD,a,wi,B,zt B,Option.elim,id,show ¬(1=0) by omega]
 | none=>
  rw[show q1C (fun i=>q1C (fun k=>qhS l i (i+1+k)) 0 (l.length-(i+1))) 0 l.length=none from hp] at B;simp only[Option.elim] at B;cases ht:qzw l with
  | some r=>
   rw[show q1C (fun i=>q1C (fun k=>q1C (fun m=>qfq l i (i+1+k) (i+1+k+1+m)) 0 (l.length-(i+1+k+1))) 0 (l.length-(i+1))) 0 l.length=some r from ht] at E;simp only[Option.elim] at E;simp only[STD,a,wi,B,zt B,E,zt E,Option.elim,qKq,show ¬(1=0) by omega]
  | none=>
   rw[show q1C (fun i=>q1C (fun k=>q1C (fun m=>qfq l i (i+1+k) (i+1+k+1+m)) 0 (l.length-(i+1+k+1))) 0 (l.length-(i+1))) 0 l.length=none from ht] at E;simp only[Option.elim] at E;simp only[STD,a,wi,B,zt B,E,zt E,Option.elim,Option.getD_none]
variable {L:List Nat}{l:R}{n:Nat}
def dO(l:R)(s:Rat)(i:Nat):DQ:=⟨(cI l (i:Int) 0:Rat),(cI l (i:Int) 1:Rat),s⟩
def dQ(l:R)(s:Rat)(n:Nat):List DQ:=(List.range n).map (dO l s)
theorem quw (l:R)(s:Rat)(n:Nat):(dQ l s n).length=n:=by unfold dQ;rw[qJm,qJV]
theorem qG9 (l:R)(s:Rat)(n:Nat):qk (rD (dQ l s n))=(n:Int):=by rw[wi,quw]
theorem qFQ (l:R)(s:Rat)(n:Nat):uV (rD (dQ l s n)) [[.s (tQ (cI l (n:Int) 0:Rat)),.s (tQ (cI l (n:Int) 1:Rat)),.s (tQ s)]]=rD (dQ l s (n+1)):=by unfold uV rD dQ;rw[qKS,qJK,qJK];rfl
theorem qx5 {s:Rat}{d:DQ}:d∈dQ l s n↔∃i,i<n/\d=dO l s i:=by unfold dQ;simp only[qK1,qKu];exact⟨fun⟨i,h,e⟩=>⟨i,h,e.symm⟩,fun⟨i,h,e⟩=>⟨i,h,e.symm⟩⟩
theorem qBZ {s:Rat}{n i:Nat}(h:i<n):ix (dQ l s n) i=dO l s i:=by unfold ix dQ;rw[qJd,qJo,qKa h];rfl
theorem qFD {s:Rat}(h:0<n):dQ l s n≠[]:=fun e=>by have:=quw l s n;rw[e] at this;simp at this;omega
def qqv(x:Int):Prop:=-9000<=x/\x<=9000
theorem qxt {x:Int}(h:qqv x):co x:=by unfold qqv at h;unfold co;omega
theorem qts {x:Int}(h:qqv x):cls (x:Rat):=qsb (qIe (by unfold qqv at h;omega) (by omega)) (by omega)
theorem qIS {s:Rat}(hs:qIa s)(h0:0<=s)(hp:∀i,i<n->qqv (cI l (i:Int) 0)/\qqv (cI l (i:Int) 1)):GDs (dQ l s n):=fun d hd=>by obtain⟨i,hi,rfl⟩:=qx5.1 hd;obtain⟨h1,h2⟩:=hp i hi;exact⟨qts h1,qts h2,hs,h0⟩
theorem qHL {i:Nat}(hi:i<l.length)(s x y:Rat):pw (dO l s i) x y=d2 ⟨x,y,0⟩ (pV (raR l) i)-s:=by rw[qEy hi];unfold pw dO d2;simp only[];grind
theorem qFJ (lo:LO (raR l) 3 L n):(cO (raR l) L).z=0:=by rw[lo.cen];show Go.Eng.su (n+1) (fun j=>wts (tO (raR l) L) n j*(pV (raR l) (Lf (raR l) L j)).z)=0;rw[qo (g:=fun _=>0) (fun j hj=>by have:=lo.sup.lt j hj;rw[qj1] at this;rw[qEy this];grind)];exact q6X _
theorem qHO (lo:LO (raR l) 3 L n):cO (raR l) L=⟨(cO (raR l) L).x,(cO (raR l) L).y,0⟩:=by
 have:=qFJ lo;cases h:cO (raR l) L with
 | mk a b c=>rw[h] at this;simp only at this;rw[this]
theorem qE7 (lo:LO (raR l) 3 L n){x y r:Rat}(h:∀i,i<l.length->d2 ⟨x,y,0⟩ (pV (raR l) i)<=r):sO (raR l) L+d2 ⟨x,y,0⟩ (cO (raR l) L)<=r:=by rw[lo.cen];exact qEO lo.sup fun i hi=>h i (by rwa [qj1] at hi)
theorem qGV (lo:LO (raR l) 3 L n){i:Nat}(hi:i<l.length):d2 (cO (raR l) L) (pV (raR l) i)<=sO (raR l) L:=by rw[lo.cen];exact lo.sup.all i (by rw[qj1];exact hi)
theorem qh2 (lo:LO (raR l) 3 L n)(s:Rat):qhD (dQ l s l.length)↔sO (raR l) L<=s:=by
 constructor
 ·rintro ⟨x,y,h⟩;have:=qE7 lo (x:=x) (y:=y) (r:=s) fun i hi=>by have:=h _ (qx5.2 ⟨i,hi,rfl⟩);rw[qHL hi] at this;grind
  have:=qui ⟨x,y,0⟩ (cO (raR l) L);grind
 ·intro hs;refine⟨(cO (raR l) L).x,(cO (raR l) L).y,fun d hd=>?_⟩;obtain⟨i,hi,rfl⟩:=qx5.1 hd;rw[qHL hi,<-qHO lo];have:=qGV lo hi;grind
theorem qDf {s:Rat}(hn:0<n)(h0:0<=s):(q4l (dQ l s n)).isSome=true↔qhD (dQ l s n):=qlK (qFD hn) fun d hd=>by obtain⟨i,_,rfl⟩:=qx5.1 hd;exact h0
theorem qF2 (o:Option (Nat×Nat×Int)):∃a b c,cW o=[.b o.isSome,.i a,.i b,.i c,.i 0]:=by
 cases o with
 | none=>exact⟨0,0,0,rfl⟩
 | some w=>exact⟨_,_,_,rfl⟩
theorem qBd {s:Rat}(g:GDs (dQ l s n))(hn:0<n)(h64:n<=64):∃a b c,(q1R [.r (rD (dQ l s n))]).run=some (0,[.b (q4l (dQ l s n)).isSome,.i a,.i b,.i c,.i 0]):=by obtain⟨a,b,c,e⟩:=qF2 (q4l (dQ l s n));exact⟨a,b,c,by rw[qve g (qFD hn) (by rw[quw];exact h64),e]⟩
end Go.Eng

namespace Go.Eng
theorem qo0{l:List DQ}(hs:∀d∈l,0<=d.s){i j:Nat}(hi:i<l.length)(hj:j<l.length):qhS l i j=none↔qhD [ix l i,ix l j]:=by
 have:=qlK (l:=[ix l i,ix l j]) (by simp) (fun d hd=>by
  simp only[qJi,qKx,or_false] at hd;rcases hd with rfl|rfl
  ·exact hs _ (qdf hi)
  ·exact hs _ (qdf hj))
 rw[<-this];unfold qhS;split<;>simp_all
theorem qp9{l:List DQ}(hs:∀d∈l,0<=d.s){i j k:Nat}(hi:i<l.length)(hj:j<l.length)(hk:k<l.length):qfq l i j k=none↔qhD [ix l i,ix l j,ix l k]:=by
 have:=qlK (l:=[ix l i,ix l j,ix l k]) (by simp) (fun d hd=>by
  simp only[qJi,qKx,or_false] at hd;rcases hd with rfl|rfl|rfl
  ·exact hs _ (qdf hi)
  ·exact hs _ (qdf hj)
  ·exact hs _ (qdf hk))
 rw[<-this];unfold qfq;split<;>simp_all
theorem qye{l:List DQ}(hs:∀d∈l,0<=d.s):(qBh l=none/\∀i j,i<j->j<l.length->qhD [ix l i,ix l j]) \/∃i j,i<j/\j<l.length/\qBh l=some (two i j)/\¬qhD [ix l i,ix l j]:=by
 cases h:qBh l with
 | none=>
  refine .inl ⟨rfl,fun i j hij hj=>?_⟩;have h1:=kt h i (by omega) (by omega);have h2:=kt h1 (j-(i+1)) (by omega) (by omega);simp only[show i+1+(j-(i+1))=j by omega] at h2;exact(qo0 hs (by omega) hj).1 h2
 | some a=>
  obtain⟨i,_,hi,h1,_⟩:=q1P h;obtain⟨k,_,hk,h2,_⟩:=q1P h1;refine .inr ⟨i,i+1+k,by omega,by omega,?_,?_⟩
  ·unfold qhS at h2;split at h2
   ·cases h2
   ·exact h2.symm
  ·rw[<-qo0 hs (by omega) (by omega),h2];simp
theorem qzd{l:List DQ}(hs:∀d∈l,0<=d.s):(qzw l=none/\∀i j k,i<j->j<k->k<l.length->qhD [ix l i,ix l j,ix l k]) \/∃i j k,i<j/\j<k/\k<l.length/\qzw l=some (three i j k)/\¬qhD [ix l i,ix l j,ix l k]:=by
 cases h:qzw l with
 | none=>
  refine .inl ⟨rfl,fun i j k hij hjk hk=>?_⟩;have h1:=kt h i (by omega) (by omega);have h2:=kt h1 (j-(i+1)) (by omega) (by omega);simp only[show i+1+(j-(i+1))=j by omega] at h2;have h3:=kt h2 (k-(j+1)) (by omega) (by omega);simp only[show j+1+(k-(j+1))=k by omega] at h3;exact(qp9 hs (by omega) (by omega) hk).1 h3
 | some a=>
  obtain⟨i,_,hi,h1,_⟩:=q1P h;obtain⟨k,_,hk,h2,_⟩:=q1P h1;obtain⟨m,_,hm,h3,_⟩:=q1P h2;refine .inr ⟨i,i+1+k,i+1+k+1+m,by omega,by omega,by omega,?_,?_⟩
  ·unfold qfq at h3;split at h3
   ·cases h3
   ·exact h3.symm
  ·rw[<-qp9 hs (by omega) (by omega) (by omega),h3];simp
theorem qIC{l:List DQ}{i j:Nat}(hi:i<l.length)(hj:j<l.length):∀d∈[ix l i,ix l j],d∈l:=fun d hd=>by
 simp only[qJi,qKx,or_false] at hd;rcases hd with rfl|rfl
 ·exact qdf hi
 ·exact qdf hj
theorem qIo{l:List DQ}{i j k:Nat}(hi:i<l.length)(hj:j<l.length)(hk:k<l.length):∀d∈[ix l i,ix l j,ix l k],d∈l:=fun d hd=>by
 simp only[qJi,qKx,or_false] at hd;rcases hd with rfl|rfl|rfl
 ·exact qdf hi
 ·exact qdf hj
 ·exact qdf hk
theorem qu3{l:List DQ}(hs:∀d∈l,0<=d.s):(qhD l/\qem l=[]) \/(¬qhD l/\∃i j,i<j/\j<l.length/\qem l=two i j/\¬qhD [ix l i,ix l j]) \/(¬qhD l/\(∀i j,i<j->j<l.length->qhD [ix l i,ix l j])/\∃i j k,i<j/\j<k/\k<l.length/\qem l=three i j k/\¬qhD [ix l i,ix l j,ix l k]):=by
 rcases qye hs with⟨h1,h2⟩|⟨i,j,hij,hj,h1,h2⟩
 ·rcases qzd hs with⟨h3,h4⟩|⟨i,j,k,hij,hjk,hk,h3,h4⟩
  ·refine .inl ⟨qCU hs h2 h4,?_⟩;unfold qem;rw[h1,h3];rfl
  ·refine .inr (.inr ⟨fun h=>h4 (h.mono (qIo (by omega) (by omega) hk)),h2,i,j,k,hij,hjk,hk,?_,h4⟩);unfold qem;rw[h1,h3];rfl
 ·refine .inr (.inl ⟨fun h=>h2 (h.mono (qIC (by omega) hj)),i,j,hij,hj,?_,h2⟩);unfold qem;rw[h1];rfl
def mnS(s:R):Nat->Int
 | 0=>cI s 0 0
 | k+1=>qhs (mnS s k) (cI s ((k+1:Nat):Int) 0)
def mxS(s:R):Nat->Int
 | 0=>cI s 0 0
 | k+1=>qqF (mxS s k) (cI s ((k+1:Nat):Int) 0)
theorem qEq{s:R}:∀k:Nat,(∀j:Nat,j<=k->0<=cI s j 0)->0<=mnS s k
 | 0,h=>h 0 (qJe _)
 | k+1,h=>by
  have:=qEq k fun j hj=>h j (by omega);have:=h (k+1) (qJe _);unfold mnS qhs;split<;>omega
theorem qEl{s:R}{n:Int}:∀k:Nat,(∀j:Nat,j<=k->cI s j 0<n)->mxS s k<n
 | 0,h=>h 0 (qJe _)
 | k+1,h=>by
  have:=qEl k fun j hj=>h j (by omega);have:=h (k+1) (qJe _);unfold mxS qqF;split<;>omega
theorem qIB(s:R)(h0:s.length≠0)(h:s.length<=1000000):(jb [.r s]).run=some (0,[.i (mnS s (s.length-1))]):=by
 rw[qgZ];have L:=zf (S:=wK) (fun i=>[.r s,.i (mnS s i),.i ((i+1:Nat):Int)]) (0,[.i (mnS s (s.length-1))]) (s.length-1) (by omega) (fun i hi=>by
  rw[q5Q];have a:((i+1:Nat):Int)<qk s:=quF (by omega);simp only[STD,a,q8N,and_self,kX (show i+1<s.length by omega) (show s.length<9223372036854775808 by omega)];rfl) (by
  rw[q5Q];simp only[STD,show ¬(((s.length-1+1:Nat):Int)<qk s) by unfold qk;omega])
 have L':(qh wK [.r s,.i (cI s 0 0),.i 1]).run=some (0,[.i (mnS s (s.length-1))]):=L;simp only[STD,L',show ¬(qk s<1) by unfold qk;omega,show (0:Int)<qk s by unfold qk;omega,show (0:Int)<=0 by omega,and_self]
theorem qIj(s:R)(h0:s.length≠0)(h:s.length<=1000000):(jd [.r s]).run=some (0,[.i (mxS s (s.length-1))]):=by
 rw[qfT];have L:=zf (S:=wI) (fun i=>[.r s,.i (mxS s i),.i ((i+1:Nat):Int)]) (0,[.i (mxS s (s.length-1))]) (s.length-1) (by omega) (fun i hi=>by
  rw[q6c];have a:((i+1:Nat):Int)<qk s:=quF (by omega);simp only[STD,a,q8N,and_self,kX (show i+1<s.length by omega) (show s.length<9223372036854775808 by omega)];rfl) (by
  rw[q6c];simp only[STD,show ¬(((s.length-1+1:Nat):Int)<qk s) by unfold qk;omega])
 have L':(qh wI [.r s,.i (cI s 0 0),.i 1]).run=some (0,[.i (mxS s (s.length-1))]):=L;simp only[STD,L',show ¬(qk s<1) by unfold qk;omega,show (0:Int)<qk s by unfold qk;omega,show (0:Int)<=0 by omega,and_self]
def qoe(F:List Nat):R:=F.map fun i:Nat=>[U.i (i:Int)]
theorem qBY{F:List Nat}{r i:Nat}(h:F[r]?=some i):cI (qoe F) r 0=(i:Int):=by
 have e:(qoe F).getD ((r:Int).toNat) []=[.i (i:Int)]:=by unfold qoe;rw[qJq,qJd,qJo,h];rfl
 conv=>lhs;unfold cI wy
 rw[e];rfl
theorem qFd{x0:R}{s:Rat}(hm:x0.length<=64)(hp:∀i,i<x0.length->qqv (cI x0 (i:Int) 0)/\qqv (cI x0 (i:Int) 1)) :(qh wj [.r x0,.s (tQ s),.r x0,.i (x0.length:Int),.i 0,.r []]).run=some (0,[.r x0,.s (tQ s),.r (rD (dQ x0 s x0.length))]):=by
 have lr:qk x0=(x0.length:Int):=rfl;have key:=zf (S:=wj) (fun i=>[.r x0,.s (tQ s),.r x0,.i (x0.length:Int),.i (i:Int),.r (rD (dQ x0 s i))]) (0,[.r x0,.s (tQ s),.r (rD (dQ x0 s x0.length))]) x0.length (by omega) (fun i hi=>by
  obtain⟨h1,h2⟩:=hp i hi;have w:=kX hi (show x0.length<9223372036854775808 by omega);have e1:∀a b c:U,qk [[a,b,c]]=1:=fun _ _ _=>rfl;rw[q5x];simp only[STD,lr,w,qku (qh3 (qxt h1)),qku (qh3 (qxt h2)),qG9,e1,qFQ,show (i:Int)<x0.length by omega,show (0:Int)<=i by omega,show (i:Int)+1<=2932031007402 by omega,and_self]) (by
  rw[q5x];simp only[STD,Int.lt_irrefl])
 exact key
theorem qG5(l:R)(L:List Nat)(k:Nat):uV (chP l L) [[.i (cI l (k:Int) 0),.i (cI l (k:Int) 1)]]=chP l (L++[k]):=by unfold uV chP;rw[qJK];rfl
theorem qHp{x0:R}{F:List Nat}(hF:F.length<=64)(hlt:∀a,a∈F->a<x0.length)(sq:Bs) :(qh zS [.r x0,.s sq,.r (qoe F),.i (F.length:Int),.i 0,.r []]).run=some (0,[.s sq,.r (chP x0 F)]):=by
 have lF:qk (qoe F)=(F.length:Int):=by unfold qk qoe;rw[qJm]
 have key:=zf (S:=zS) (fun k=>[.r x0,.s sq,.r (qoe F),.i (F.length:Int),.i (k:Int),.r (chP x0 (F.take k))]) (0,[.s sq,.r (chP x0 F)]) F.length (by omega) (fun k hk=>by
  have e:F[k]?=some F[k]:=qJk hk;have ek:=qBY e;have hi:F[k]<x0.length:=hlt _ (qJT hk);have w:=kX hk (show F.length<9223372036854775808 by omega);have e1:∀a b:U,qk [[a,b]]=1:=fun _ _=>rfl;have rl:qk (chP x0 (F.take k))=(k:Int):=by unfold qk;rw[qo1,qK8];omega
  rw[q4m,List.take_succ_eq_append_getElem hk,<-qG5];simp only[STD,lF,ek,w,e1,rl,show qk x0=(x0.length:Int) from rfl,show ((F[k]:Nat):Int)<x0.length by omega,show (0:Int)<=((F[k]:Nat):Int) by omega,show (k:Int)<F.length by omega,show (0:Int)<=k by omega,show (k:Int)+1<=8796093022208 by omega,and_self]) (by
  rw[q4m,qKw];simp only[STD,Int.lt_irrefl])
 exact key
theorem qIO(l:R)(s:Rat)(F:List Nat):dQ (chP l F) s F.length=F.map (dO l s):=by
 apply List.ext_getElem
 ·rw[quw,qJm]
 ·intro j h1 h2;have hj:j<F.length:=by rwa [qJm] at h2
  obtain⟨e1,e2⟩:=qA4 (l:=l) (qJk hj);have a:(dQ (chP l F) s F.length)[j]'h1=dO (chP l F) s j:=by simp[dQ]
  have b:(F.map (dO l s))[j]'h2=dO l s F[j]:=by simp
  rw[a,b];unfold dO;rw[e1,e2]
theorem qHY{s:Rat}(hs:bnd 17 13 s){l:R}(h0:qne l=0){L:List Nat}{n:Nat}(lo:LO (raR l) 3 L n):(zJ [.s (tQ s),.s (tQ (sO (raR l) L))]).run=some (0,[.i (qCw s (sO (raR l) L)),.i 0]):=by obtain⟨_,_,_,h4,_⟩:=qmi h0;have r:=qfX hs (qHF h4 lo) (by omega) (by omega);exact r
theorem qHW{x0:R}{s:Rat}(h0:qne x0=0)(hs:bnd 17 13 s)(_:x0.length<=64){F:List Nat}(f0:0<F.length)(f3:F.length<=3)(hlt:∀a,a∈F->a<x0.length)(hno:¬qhD (F.map (dO x0 s))) :∃a b c:Bs,∃q:Rat,∃w:R,(w9 [.r (chP x0 F)]).run=some (0,[.s a,.s b,.s (tQ q),.r w,.i 0])/\(zJ [.s (tQ s),.s (tQ q)]).run=some (0,[.i (qCw s q),.i 0])/\qCw s q<0/\c=[]:=by have hf:=qDT h0 f0 (by omega) hlt;obtain⟨L,n,lo,r⟩:=qlr hf;refine⟨_,_,[],_,_,r,qHY hs hf lo,?_,rfl⟩;rw[qBe];rw[<-qIO] at hno;have:=qh2 lo s;rw[qo1] at this;apply qJZ;intro hh;exact hno (this.2 (Rat.not_lt.1 hh))
theorem qtu{m n:Int}(hn0:n≠0)(hm:-999999999999999<=m/\m<=999999999999999)(hn:-999999999999999<=n/\n<=999999999999999):(q86 [.i m,.i n]).run=some (0,[.s (tQ (Rat.divInt m n))]):=by
 have ok:∀k:Int,-999999999999999<=k/\k<=999999999999999->nl k<=400000:=fun k hk=>by
  have:=qj2 (m:=k) (n:=999999999999999) (by omega);have e:nl 999999999999999=15:=by decide
  omega
 rw[qt4];simp only[STD,uS m (by omega) (by omega),uS n (by omega) (by omega),qEb m n hn0 (ok m hm) (ok n hn)]
theorem qwr{a b:Rat}:0<=qCw a b↔b<=a:=by rw[<-Int.not_lt,qBe,Rat.not_lt]
theorem qhz(x0:R)(x1 x2:Int)(_:UFit (.sl [(.int .i64),(.int .i64)]) (.l x0))(wex0:x0.length*16<=140737488351232)(lox1:IntKind.min .u16<=x1)(hix1:x1<=IntKind.max .u16)(lox2:IntKind.min .u16<=x2)(_:x2<=IntKind.max .u16):(vr [.r x0,.i x1,.i x2]).run=some (0,[.b true]):=by
 obtain⟨b,hb,fb⟩:=qtN x0;have lx:qk x0=(x0.length:Int):=rfl;have t1:0<=x1:=lox1;have t2:x1<=65535:=hix1;have t3:0<=x2:=lox2;rw[uA];cases b with
 | false=>simp only[STD,hb,qbK]
 | true=>
  by_cases h5:5<qk x0
  ·simp only[STD,hb,h5,qbK]
  obtain⟨n0,n8,near⟩:=fb rfl;have n5:x0.length<=5:=by rw[lx] at h5;omega
  have h0:qne x0=0:=qy1 n0 (by omega) fun i hi=>by have:=near i hi;unfold co;omega
  have sm:∀i,i<x0.length->qqv (cI x0 (i:Int) 0)/\qqv (cI x0 (i:Int) 1):=fun i hi=>near i hi;obtain⟨L,n,lo,r⟩:=qlr h0;obtain⟨m,hm⟩:∃m,m=qa8 x2 50:=⟨_,rfl⟩;have mb:0<=m/\m<50:=by rw[hm];exact⟨Int.tmod_nonneg _ t3,Int.tmod_lt_of_pos _ (by decide)⟩
  have w1:q1F .i64 x1=x1:=qkC (by omega);have w2:q1F .i64 m=m:=qkC (by omega);have w3:qz .i64 1 m=1+m:=zj (by omega);have ov:=qtu (m:=x1) (n:=1+m) (by omega) (by omega) (by omega);obtain⟨s,hs⟩:∃s,s=Rat.divInt x1 (1+m):=⟨_,rfl⟩;rw[<-hs] at ov;have mp:(0:Rat)<((1+m:Int):Rat):=by have:=Rat.intCast_le_intCast.2 (show (1:Int)<=1+m by omega);have e1:((1:Int):Rat)=1:=rfl;rw[e1] at this;grind
  have se:s*((1+m:Int):Rat)=(x1:Rat):=by rw[hs,Rat.divInt_eq_div];exact Rat.div_mul_cancel (by grind)
  have snn:0<=s:=by rw[hs,Rat.divInt_eq_div,Rat.div_def];exact qJr (Rat.intCast_nonneg.2 t1) (Rat.le_of_lt (Rat.inv_pos.2 mp))
  have sb:bnd 17 13 s:=qnp (a:=16) (b:=12) (by omega) se (by omega) (by omega);have g:GDs (dQ x0 s x0.length):=qIS sb snn sm;have dl:=quw x0 s x0.length;have kd:=qFd (x0:=x0) (s:=s) (by omega) sm;obtain⟨a1,a2,a3,cm⟩:=qBd g n0 (by omega);have ct:=qvJ g (qFD n0) (by rw[dl];omega);have cp:=qHY sb h0 lo;have eq1:(q4l (dQ x0 s x0.length)).isSome=ile 0 (qCw s (sO (raR x0) L)):=by rw[Bool.eq_iff_iff,qDf n0 snn,qh2 lo,qoi,qwr]
  rw[eq1] at cm;have w0:qz .i64 (qz .i64 (qz .i64 0 0) 0) 0=0:=by decide
  have rn:qk ([]:R)=0:=rfl;have nn:∀d∈dQ x0 s x0.length,0<=d.s:=fun d hd=>(g d hd).nn;have tail:∀F:List Nat,2<=F.length->F.length<=3->(∀a,a∈F->a<x0.length)->¬qhD (dQ x0 s x0.length)->¬qhD (F.map (dO x0 s))->qem (dQ x0 s x0.length)=qoe F->(vr [.r x0,.i x1,.i x2]).run=some (0,[.b true]):=fun F f2 f3 flt hnm hnF hcq=>by
   rw[hcq] at ct;have lF:qk (qoe F)=(F.length:Int):=by unfold qk qoe;rw[qJm]
   have lF':(qoe F).length=F.length:=by unfold qoe;rw[qJm]
   have cell:∀j,j<F.length->∃a,a<x0.length/\cI (qoe F) (j:Int) 0=(a:Int):=fun j hj=>⟨F[j],flt _ (qJT hj),qBY (qJk hj)⟩;have mi:=qIB (qoe F) (by omega) (by omega);have ma:=qIj (qoe F) (by omega) (by omega);have b1:=qEq (s:=qoe F) ((qoe F).length-1) fun j hj=>by obtain⟨a,_,e⟩:=cell j (by omega);rw[e];omega
   have b2:=qEl (s:=qoe F) (n:=(x0.length:Int)) ((qoe F).length-1) fun j hj=>by obtain⟨a,h,e⟩:=cell j (by omega);rw[e];omega
   have ks:=qHp (x0:=x0) (F:=F) (by omega) flt (tQ s);obtain⟨c1,c2,c3,q,c4,k1,k2,k3,_⟩:=qHW h0 sb (by omega) (by omega) f3 flt hnF;have nle:¬0<=qCw s (sO (raR x0) L):=fun h=>hnm ((qh2 lo s).2 (qwr.1 h));have f0:ile 0 (qCw s (sO (raR x0) L))=false:=by rw[<-Bool.not_eq_true,qoi];exact nle
   rw[f0] at cm;rw[uA];simp only[STD,hb,lx,show ¬(5:Int)<(x0.length:Int) by omega,w1,<-hm,w2,w3,ov,kd,r,cm,ct,cp,w0,lF,mi,ma,ks,k1,k2,k3,qbK,show ¬(3:Int)<(F.length:Int) by omega,show ¬(mnS (qoe F) ((qoe F).length-1)<0) by omega,show ¬((x0.length:Int)<=mxS (qoe F) ((qoe F).length-1)) by omega];have Fne:¬F=[]:=fun e=>by rw[e] at f2;simp at f2
   try simp[f0,ieq,Fne]
  rw[<-uA];rcases qu3 nn with⟨h1,h2⟩|⟨h1,i,j,hij,hj,h2,h3⟩|⟨h1,_,i,j,k,hij,hjk,hk,h2,h3⟩
  ·rw[h2] at ct;have le:=qwr.2 ((qh2 lo s).1 h1);have t0:ile 0 (qCw s (sO (raR x0) L))=true:=by rw[qoi];exact le
   rw[t0] at cm;rw[uA];simp only[STD,hb,lx,show ¬(5:Int)<(x0.length:Int) by omega,w1,<-hm,w2,w3,ov,kd,r,cm,ct,cp,w0,rn,qbK]
   try simp[t0,ieq]
  ·rw[dl] at hj;refine tail [i,j] (by simp) (by simp) (fun a ha=>?_) h1 ?_ (by rw[h2];rfl)
   ·simp only[qJi,qKx,or_false] at ha;omega
   ·rw[qBZ (show i<x0.length by omega),qBZ hj] at h3;exact h3
  ·rw[dl] at hk;refine tail [i,j,k] (by simp) (by simp) (fun a ha=>?_) h1 ?_ (by rw[h2];rfl)
   ·simp only[qJi,qKx,or_false] at ha;omega
   ·rw[qBZ (show i<x0.length by omega),qBZ (show j<x0.length by omega),qBZ hk] at h3;exact h3
end Go.Eng

