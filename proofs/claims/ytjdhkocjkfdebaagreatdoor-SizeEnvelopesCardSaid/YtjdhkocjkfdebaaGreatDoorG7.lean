/- Texts of the proof, merged: what the code computes, and plain laws. No statement stands here. -/
import Derived.Test.YtjdhkocjkfdebaaGreatDoorG6
namespace Go.Eng
variable {n:Nat}
def uW(F:Nat->Nat->Bs)(n:Nat):R:=(mkL F n n).map fun x=>[.s x]
theorem qkH (F:Nat->Nat->Bs)(n:Nat):(uW F n).length=n*n:=by unfold uW;rw[qOm,qkm]
theorem qpP (F:Nat->Nat->Bs){n i k:Nat}(hi:i<n)(hk:k<n):cS (uW F n) ((i*n+k:Nat):Int) 0=F i k:=by
 have e:((mkL F n n).map fun x=>[U.s x]).getD (i*n+k) []=[U.s (F i k)]:=by rw[qOd,qOo,qAk F n n i k hi hk];rfl
 unfold cS zZ uW;rw[qOw,e];rfl
theorem qzT {F G:Nat->Nat->Bs}(h:∀i k,i<n->k<n->F i k=G i k):uW F n=uW G n:=by
 unfold uW;congr 1;have:∀m,m<=n->mkL F n m=mkL G n m:=by
  intro m;induction m with
  | zero=>intro _;rfl
  | succ m ih=>
   intro hm;rw[mkL,mkL,ih (by omega)];congr 1;exact qPl fun k hk=>h m k (by omega) (qOV.1 hk)
 exact this n (qOe _)
theorem qz3 {l:R}(hl:l.length=n)(hn:n<1000000)(h:∀i,i<n->(qQ [.s (cS l (i:Int) 0)]).run=some (0,[.i 0])):(jg [.r l]).run=some (0,[.i 0]):=by
 rw[qpS];have key:=qp (S:=yd) (fun i=>[.r l,.i (n:Int),.i (i:Int)]) (0,[]) n (by omega) (fun i hi=>by
  rw[qd6];have e:qg l=(n:Int):=by unfold qg;rw[hl]
  simp only[STD,e,h i hi,jd hi (show n<9223372036854775808 by omega),show (i:Int)<n by omega,show (0:Int)<=i by omega,and_self]) (by
  rw[qd6];simp only[STD,show ¬(n:Int)<n by omega])
 have e:qg l=(n:Int):=by unfold qg;rw[hl]
 have key':(qf yd [.r l,.i (qg l),.i 0]).run=some (0,[]):=by rw[e];exact key
 simp only[STD,key',zf key']
theorem qJD (h:n<=16):(j7 [.i (n:Int)]).run=some (0,[.b true]):=by
 rw[qvd];have h1:(0:Int)<=n:=by omega
 have h2:(n:Int)<=16:=by omega
 have h3:ile (n:Int) 16=true:=by rw[qF0];exact h2
 simp only[STD,h1,h3]
theorem qlV {F:Nat->Nat->Bs}(hn:n<=16)(h:∀i k,i<n->k<n->(qQ [.s (F i k)]).run=some (0,[.i 0])):(jL [.i n,.i n,.r (uW F n)]).run=some (0,[.i 0]):=by
 rw[qsS];have hnn:n*n<=16*16:=qOS hn hn;have e1:qg (uW F n)=((n*n:Nat):Int):=by unfold qg;rw[qkH]
 have e2:zw .i64 (n:Int) (n:Int)=((n*n:Nat):Int):=by rw[zV (by rw[<-qPC];omega)];simp
 have key:=qz3 (l:=uW F n) (qkH F n) (by omega) (fun j hj=>by
  have hn0:0<n:=by
   rcases qPo n with h0|h0
   ·subst h0;simp at hj
   ·exact h0
  have h1:j/n<n:=Nat.div_lt_of_lt_mul hj;have h2:j%n<n:=Nat.mod_lt _ hn0;have h3:j=j/n*n+j%n:=by rw[Nat.mul_comm];exact(Nat.div_add_mod j n).symm
  rw[h3,qpP F h1 h2];exact h _ _ h1 h2)
 simp only[STD,qJD hn,e1,e2,key]
def aug(n:Nat)(G:Nat->Nat->Rat):Nat->Nat->Rat:=fun i j=>if j<n then G i j else if j=n+i then 1 else 0
theorem qJe (i k:Nat):qmp i k=tQ (if i=k then 1 else 0):=by
 unfold qmp;by_cases h:i=k
 ·rw[if_pos h,if_pos h];decide
 ·rw[if_neg h,if_neg h];decide
theorem qIJ {F:Nat->Nat->Bs}{G:Nat->Nat->Rat}(h:∀i k,i<n->k<n->F i k=tQ (G i k)):RelM ((List.range n).map (row0 F qmp n)) n (2*n) (aug n G):=by
 refine⟨⟨by simp,fun r hr=>?_⟩,fun i j hi hj=>?_⟩
 ·obtain⟨i,_,rfl⟩:=qOP.1 hr;unfold row0;rw[qOz,qOm,qOm,qOM];omega
 ·have e:((List.range n).map (row0 F qmp n)).getD i []=row0 F qmp n i:=by rw[qOd,qOo,qOW hi];rfl
  unfold q90 aug;rw[e];unfold row0;by_cases hjn:j<n
  ·rw[if_pos hjn,qOd,qOn (by simpa using hjn),qOo,qOW hjn];exact h i j hi hjn
  ·rw[if_neg hjn,qOd,qOv (by simp;omega),qOm,qOM,qOo,qOW (by omega)];simp only[qOJ,qOT,qJe];congr 1;by_cases e2:j=n+i
   ·rw[if_pos e2,if_pos (by omega)]
   ·rw[if_neg e2,if_neg (by omega)]
theorem qL1 {G:Nat->Nat->Rat}(h:∀i k,i<n->k<n->bnd 13 1 (G i k)):BM n (2*n) 13 1 (aug n G):=fun i j hi _=>by
 unfold aug;by_cases h1:j<n
 ·rw[if_pos h1];exact h i j hi h1
 ·rw[if_neg h1];split
  ·exact qAU.mono (by omega) (by omega)
  ·exact qhE.mono (by omega) (by omega)
theorem qLr (ck ml dv sb:List PV->TR){l:R}{fin:RS}(hn:n<=16)(hl:l.length=n*n)(hok:qLL (ck [.i n,.i n,.r l])=true)(hf:qyw (opF ml) (opF dv) (opF sb) n n (2*n) n ⟨(List.range n).map (row0 (fun i k=>cS l ((i*n+k:Nat):Int) 0) qmp n),[49],[],0⟩=some fin) :qLK ck ml dv sb [.i n,.i n,.r l]=if fin.lead.length<n then .leaf (0,[.i 0,.i 0,.r [],.i 14]) else .leaf (0,[.i n,.i n,.r ((mkL (fun i k=>q90 fin.Z i (n+k)) n n).map fun x=>[.s x]),.i 0]):=by simp only[qLK,qOw];rw[if_pos ⟨trivial,by omega,by omega,hl,hok⟩,hf]
theorem qNS (n:Nat)(hn:n<=3):(bs n).1<=337/\(bs n).2<=322:=by
 match n,hn with
 | 0,_=>decide
 | 1,_=>decide
 | 2,_=>decide
 | 3,_=>decide
theorem qNF:yo=qLK jL wv q5P zJ:=rfl
theorem qFq (hn:n<=3){G:Nat->Nat->Rat}(hG:∀i k,i<n->k<n->bnd 13 1 (G i k)) :(∃N,qgi n (pvQ n) n 0 (aug n G)=some N/\BM n (2*n) 337 322 N/\(yo [.i n,.i n,.r (uW (fun i k=>tQ (G i k)) n)]).run=some (0,[.i n,.i n,.r (uW (fun i k=>tQ (N i (n+k))) n),.i 0])) \/(qgi n (pvQ n) n 0 (aug n G)=none/\(yo [.i n,.i n,.r (uW (fun i k=>tQ (G i k)) n)]).run=some (0,[.i 0,.i 0,.r [],.i 14])):=by
 obtain⟨fin,M',r1,r2,r3,r4,r5⟩:=qHh qO7 (N:=n) (C:=2*n) hn (by omega) n 0 (by omega) ⟨(List.range n).map (row0 (fun i k=>tQ (G i k)) qmp n),[49],[],0⟩ (aug n G) 1
  (qIJ fun _ _ _ _=>rfl) (qL1 hG) (show ([49]:Bs)=tQ 1 by decide) qAU (qOe _) rfl
 have hck:qLL (jL [.i n,.i n,.r (uW (fun i k=>tQ (G i k)) n)])=true:=by unfold qLL;rw[qlV (by omega) fun i k hi hk=>q6T ((hG i k hi hk).ok (by omega) (by omega))];rfl
 have hZ:(List.range n).map (row0 (fun i k=>cS (uW (fun i k=>tQ (G i k)) n) ((i*n+k:Nat):Int) 0) qmp n)=(List.range n).map (row0 (fun i k=>tQ (G i k)) qmp n):=by
  refine qPl fun i hi=>?_;have e:(List.range n).map (fun k=>cS (uW (fun i k=>tQ (G i k)) n) ((i*n+k:Nat):Int) 0)=(List.range n).map (fun k=>tQ (G i k)):=
   qPl fun k hk=>qpP (fun i k=>tQ (G i k)) (qOV.1 hi) (qOV.1 hk)
  show (List.range n).map (fun k=>cS (uW (fun i k=>tQ (G i k)) n) ((i*n+k:Nat):Int) 0)++_=(List.range n).map (fun k=>tQ (G i k))++_;rw[e]
 have hrun:(yo [.i n,.i n,.r (uW (fun i k=>tQ (G i k)) n)])=if fin.lead.length<n then .leaf (0,[.i 0,.i 0,.r [],.i 14]) else .leaf (0,[.i n,.i n,.r ((mkL (fun i k=>q90 fin.Z i (n+k)) n n).map fun x=>[.s x]),.i 0]):=by have hx:=qLr jL wv q5P zJ (show n<=16 by omega) (qkH _ _) hck (by rw[hZ];exact r1);rw[<-qNF] at hx;exact hx
 have hbs:=qNS n hn;rcases r5 rfl with⟨q1,q2⟩|⟨q1,q2⟩
 ·refine .inl ⟨M',q1,r3.mono hbs.1 hbs.2,?_⟩;rw[hrun,if_neg (by omega)];have e:(mkL (fun i k=>q90 fin.Z i (n+k)) n n).map (fun x=>[U.s x])=uW (fun i k=>tQ (M' i (n+k))) n:=qzT fun i k hi hk=>r2.ok i (n+k) hi (by omega);rw[e];rfl
 ·refine .inr ⟨q1,?_⟩;rw[hrun,if_pos q2];rfl
end Go.Eng

namespace Go.Eng
def txR(l:List Bs):R:=l.map fun x=>[.s x]
theorem qpD(l:List Bs):qg (txR l)=(l.length:Int):=by unfold txR qg;rw[qOm]
theorem qt1(l m:List Bs):yB (txR l) (txR m)=txR (l++m):=by unfold txR yB;rw[qOG]
theorem qua(x:Bs):[[U.s x]]=txR [x]:=rfl
theorem qG3{l:List Bs}{i:Nat}{x:Bs}(h:l[i]?=some x):cS (txR l) (i:Int) 0=x:=by
 have e:(l.map fun x=>[U.s x]).getD i []=[U.s x]:=by rw[qOd,qOo,h];rfl
 unfold cS zZ txR;rw[qOw,e];rfl
theorem qy7{a b:Nat}(h:a*b<9223372036854775808):zw .i64 (a:Int) (b:Int)=((a*b:Nat):Int):=by rw[zV (by rw[<-qPC];omega)];simp
theorem qCd{a b:Nat}(h:a+b<9223372036854775808):qu .i64 (a:Int) (b:Int)=((a+b:Nat):Int):=by rw[zt (by omega)];simp
theorem qN2{n i k:Nat}(hi:i<n)(hk:k<n):i*n+k<n*n:=by have:=qOE n (show i+1<=n by omega);rw[qOy] at this;omega
theorem qNA{n i k:Nat}{L:R}{g:Int}(hn:n<=16)(hi:i<n)(hk:k<n)(hL:L.length=n*n)(hg:cI L ((i*n+k:Nat):Int) 0=g)(hb:-999999999999999<=g/\g<=999999999999999) :(kz [.i i,.i k,.r L,.i n]).run=some (0,[.s (tQ (g:Rat)),.r L,.i n]):=by
 have h1:=qN2 hi hk;have h2:n*n<=16*16:=qOS hn hn;rw[qvn,qy7 (by omega),qCd (by omega),hg];have e:qg L=((n*n:Nat):Int):=by unfold qg;rw[hL]
 simp only[STD,zj hb,e,show (0:Int)<=((i*n+k:Nat):Int) by omega,show ((i*n+k:Nat):Int)<((n*n:Nat):Int) by omega,and_self]
theorem qN6{n:Nat}{L:R}{g:Nat->Nat->Int}(hn:n<=16)(hL:L.length=n*n)(hg:∀i k,i<n->k<n->cI L ((i*n+k:Nat):Int) 0=g i k)(hb:∀i k,i<n->k<n->-999999999999999<=g i k/\g i k<=999999999999999) :(q7g [.i n,.i n,.r L,.i n]).run=some (0,[.i n,.i n,.r (uW (fun i k=>tQ (g i k:Rat)) n),.r L,.i n]):=by
 obtain⟨F,hF⟩:∃F:Nat->Nat->Bs,F=fun i k=>tQ (g i k:Rat):=⟨_,rfl⟩;have hnn:n*n<=16*16:=qOS hn hn;have ml:∀i,i<=n->(mkL F n i).length<=16*16:=fun i hi=>by rw[qkm];exact qOh (qOE n hi) hnn
 have inner:∀i,i<n->(qf kj [.i n,.i i,.i n,.i i,.i n,.i 0,.r L,.i n,.i 0,.i 0,.i n,.i n,.r (txR (mkL F n i))]).run=some (0,[.i n,.i n,.i i,.r L,.i n,.i 0,.i 0,.i n,.i n,.r (txR (mkL F n (i+1)))]):=fun i hi=>by
  have key:=qp (S:=kj) (fun k=>[.i n,.i i,.i n,.i i,.i n,.i (k:Int),.r L,.i n,.i 0,.i 0,.i n,.i n,.r (txR (mkL F n i++(List.range k).map (F i)))]) (0,[.i n,.i n,.i i,.r L,.i n,.i 0,.i 0,.i n,.i n,.r (txR (mkL F n (i+1)))]) n (by omega) (fun k hk=>by
   rw[qg2];have hlen:(mkL F n i++(List.range k).map (F i)).length<=1000:=by have:=ml i (by omega);rw[qOz,qOm,qOM];omega
   have e1:txR (mkL F n i++(List.range (k+1)).map (F i))=yB (txR (mkL F n i++(List.range k).map (F i))) [[.s (F i k)]]:=by rw[qua,qt1,qP6,qOG,<-qOL];rfl
   have e2:F i k=tQ (g i k:Rat):=by rw[hF]
   have e3:qg [[U.s (tQ (g i k:Rat))]]=1:=rfl;simp only[STD,qNA hn hi hk hL (hg i k hi hk) (hb i k hi hk),jd hk (show n<9223372036854775808 by omega),e1,e2,e3,qpD,show (k:Int)<n by omega,show (((mkL F n i++(List.range k).map (F i)).length:Int)+1<=8796093022208) by omega]) (by
   rw[qg2];simp only[STD,show ¬(n:Int)<n by omega,mkL])
  simpa using key
 have outer:=qp (S:=q0L) (fun i=>[.i n,.i n,.i (i:Int),.r L,.i n,.i 0,.i 0,.i n,.i n,.r (txR (mkL F n i))]) (0,[.r L,.i n,.i 0,.i 0,.i n,.i n,.r (txR (mkL F n n))]) n (by omega) (fun i hi=>by
  rw[qhO];simp only[STD,inner i hi,jd hi (show n<9223372036854775808 by omega),show (i:Int)<n by omega]) (by
  rw[qhO];simp only[STD,show ¬(n:Int)<n by omega])
 have key:(qf q0L [.i n,.i n,.i 0,.r L,.i n,.i 0,.i 0,.i n,.i n,.r []]).run=some (0,[.r L,.i n,.i 0,.i 0,.i n,.i n,.r (txR (mkL F n n))]):=outer;rw[qvJ];simp only[STD,key];rw[hF];rfl
theorem qAf{n:Nat}{L:R}{g:Nat->Nat->Int}(hn:n<=16)(hL:L.length=n*n)(hg:∀i k,i<n->k<n->cI L ((i*n+k:Nat):Int) 0=g i k)(hb:∀i k,i<n->k<n->-999999999999999<=g i k/\g i k<=999999999999999) :(qcn [.i n,.i n,.r L]).run=some (0,[.i n,.i n,.r (uW (fun i k=>tQ (g i k:Rat)) n),.i 0]):=by
 have hnn:n*n<=16*16:=qOS hn hn;rw[qzo,qy7 (by omega)];have e:qg L=((n*n:Nat):Int):=by unfold qg;rw[hL]
 simp only[STD,qJD hn,qN6 hn hL hg hb,e]
theorem qJS(x:Bs):(v7 [.s x,.i 0,.i 0]).run=some (0,[.s x,.i 0]):=by rw[qlc];simp only[STD]
theorem qMn{a b:Rat}{N D N' D':Nat}(ha:bnd N D a)(hb:bnd N' D' b)(h1:N+N'<=1024)(h2:D+D'<=1024):(kJ [.s (tQ a),.s (tQ b),.i 0]).run=some (0,[.s (tQ (a*b)),.i 0]):=by rw[qnc];simp only[STD,qdf ha hb h1 h2,qJS]
theorem qLU{a b:Rat}{N D N' D':Nat}(ha:bnd N D a)(hb:bnd N' D' b)(h1:N+D'<=1023)(h2:N'+D<=1023)(h3:D+D'<=1024):(kO [.s (tQ a),.s (tQ b),.i 0]).run=some (0,[.s (tQ (a+b)),.i 0]):=by rw[qnz];simp only[STD,qhm ha hb h1 h2 h3,qJS]
theorem qKj{F:Nat->Nat->Bs}{n i k:Nat}(hn:n<=16)(hi:i<n)(hk:k<n):(q4J [.i n,.i n,.r (uW F n),.i i,.i k]).run=some (0,[.s (F i k)]):=by
 have h1:=qN2 hi hk;have h2:n*n<=16*16:=qOS hn hn;rw[quH,qy7 (by omega),qCd (by omega),qpP F hi hk];have e:qg (uW F n)=((n*n:Nat):Int):=by unfold qg;rw[qkH]
 simp only[STD,e,show (0:Int)<=((i*n+k:Nat):Int) by omega,show ((i*n+k:Nat):Int)<((n*n:Nat):Int) by omega,and_self]
def sbd:Nat->Nat×Nat
 | 0=>(1,1)
 | 1=>(352,324)
 | 2=>(676,647)
 | _=>(1000,970)
theorem qJO(m:Nat)(h:m<3):(sbd m).1+323<=1023/\350+(sbd m).2<=1023/\(sbd m).2+323<=1024/\(sbd m).1+323+1<=(sbd (m+1)).1/\350+(sbd m).2+1<=(sbd (m+1)).1/\(sbd m).2+323<=(sbd (m+1)).2:=by
 match m,h with
 | 0,_=>decide
 | 1,_=>decide
 | 2,_=>decide
theorem qKd{V B:Nat->Rat}{n:Nat}(hV:∀k,k<n->bnd 337 322 (V k))(hB:∀k,k<n->bnd 13 1 (B k)):∀m,m<=n->m<=3->bnd (sbd m).1 (sbd m).2 (su m fun k=>V k*B k)
 | 0,_,_=>qhE
 | m+1,h1,h2=>by
  obtain⟨o1,o2,o3,o4,o5,o6⟩:=qJO m (by omega);exact((qKd hV hB m (by omega) (by omega)).add ((hV m (by omega)).mul (hB m (by omega))) o4 o5).mono (qOe _) o6
theorem qKE{n:Nat}(hn:n<=3){V:Nat->Nat->Rat}{B:Nat->Rat}(hV:∀i k,i<n->k<n->bnd 337 322 (V i k))(hB:∀k,k<n->bnd 13 1 (B k)) :(q4P [.i n,.i n,.r (uW (fun i k=>tQ (V i k)) n),.r (txR ((List.range n).map fun k=>tQ (B k)))]).run=some (0,[.r (txR ((List.range n).map fun i=>tQ (su n fun k=>V i k*B k))),.i 0]):=by
 obtain⟨bl,hbl⟩:∃bl,bl=txR ((List.range n).map fun k=>tQ (B k)):=⟨_,rfl⟩;have lb:qg bl=(n:Int):=by rw[hbl,qpD,qOm,qOM]
 have gb:∀k,k<n->cS bl (k:Int) 0=tQ (B k):=fun k hk=>by rw[hbl];exact qG3 (by rw[qOo,qOW hk];rfl)
 have inner:∀i,i<n->∀acc:List Bs,(qf uk [.r bl,.i i,.s [48],.i n,.i i,.r bl,.i n,.i 0,.i n,.i n,.r (uW (fun i k=>tQ (V i k)) n),.i 0,.r (txR acc)]).run =
   some (0,[.r bl,.s (tQ (su n fun k=>V i k*B k)),.i n,.i i,.i n,.i n,.r (uW (fun i k=>tQ (V i k)) n),.i 0,.r (txR acc)]):=fun i hi acc=>by
  have key:=qp (S:=uk) (fun k=>[.r bl,.i i,.s (tQ (su k fun k=>V i k*B k)),.i n,.i i,.r bl,.i n,.i (k:Int),.i n,.i n,.r (uW (fun i k=>tQ (V i k)) n),.i 0,.r (txR acc)])
   (0,[.r bl,.s (tQ (su n fun k=>V i k*B k)),.i n,.i i,.i n,.i n,.r (uW (fun i k=>tQ (V i k)) n),.i 0,.r (txR acc)]) n (by omega) (fun k hk=>by
    rw[qdC];obtain⟨o1,o2,o3,_,_,_⟩:=qJO k (by omega);have s1:=qKd (fun k hk=>hV i k hi hk) hB k (by omega) (by omega);simp only[STD,qKj (F:=fun i k=>tQ (V i k)) (show n<=16 by omega) hi hk,gb k hk,lb,qMn (hV i k hi hk) (hB k hk) (by omega) (by omega),qLU s1 ((hV i k hi hk).mul (hB k hk)) o1 o2 o3,
     jd hk (show n<9223372036854775808 by omega),show (k:Int)<n by omega,show (0:Int)<=k by omega,and_self]
    rfl) (by
    rw[qdC];simp only[STD,show ¬(n:Int)<n by omega])
  exact key
 have outer:=qp (S:=ug) (fun i=>[.r bl,.i n,.i (i:Int),.i n,.i n,.r (uW (fun i k=>tQ (V i k)) n),.i 0,.r (txR ((List.range i).map fun i=>tQ (su n fun k=>V i k*B k)))])
  (0,[.i 0,.r (txR ((List.range n).map fun i=>tQ (su n fun k=>V i k*B k)))]) n (by omega) (fun i hi=>by
   rw[qdY];have e1:txR ((List.range (i+1)).map fun i=>tQ (su n fun k=>V i k*B k))=yB (txR ((List.range i).map fun i=>tQ (su n fun k=>V i k*B k))) [[.s (tQ (su n fun k=>V i k*B k))]]:=by rw[qua,qt1,qP6,qOG];rfl
   have e3:qg [[U.s (tQ (su n fun k=>V i k*B k))]]=1:=rfl;simp only[STD,lb,inner i hi,jd hi (show n<9223372036854775808 by omega),show (i:Int)<n by omega,e1,e3,qpD,qOm,qOM,show (i:Int)+1<=8796093022208 by omega]) (by
   rw[qdY];simp only[STD,show ¬(n:Int)<n by omega])
 have key:(qf ug [.r bl,.i n,.i 0,.i n,.i n,.r (uW (fun i k=>tQ (V i k)) n),.i 0,.r []]).run=some (0,[.i 0,.r (txR ((List.range n).map fun i=>tQ (su n fun k=>V i k*B k)))]):=outer;have hck:=qlV (F:=fun i k=>tQ (V i k)) (show n<=16 by omega) fun i k hi hk=>q6T ((hV i k hi hk).ok (by omega) (by omega));have hnum:=qz3 (l:=bl) (n:=n) (by have:=lb;unfold qg at this;omega) (by omega) (fun i hi=>by rw[gb i hi];exact q6T ((hB i hi).ok (by omega) (by omega)));rw[<-hbl,qsC];simp only[STD,hck,lb,hnum,key]
def qHP(ox oy oz ax ay az bx by' bz:Int):Int:=(ax-ox)*(bx-ox)+(ay-oy)*(by'-oy)+(az-oz)*(bz-oz)
theorem qHC{a b:Int}(ha:co a)(hb:co b):-200000<=a-b/\a-b<=200000:=by unfold co at ha hb;omega
theorem qmB{a b c d:Int}(ha:co a)(hb:co b)(hc:co c)(hd:co d):-40000000000<=(a-b)*(c-d)/\(a-b)*(c-d)<=40000000000:=by have h1:=qHC ha hb;have h2:=qHC hc hd;have:=qAa h1.1 h1.2 h2.1 h2.2;omega
theorem qKA{ox oy oz ax ay az bx by' bz:Int}(h1:co ox)(h2:co oy)(h3:co oz)(h4:co ax)(h5:co ay)(h6:co az)(h7:co bx)(h8:co by')(h9:co bz):-120000000000<=qHP ox oy oz ax ay az bx by' bz/\qHP ox oy oz ax ay az bx by' bz<=120000000000:=by have p1:=qmB h4 h1 h7 h1;have p2:=qmB h5 h2 h8 h2;have p3:=qmB h6 h3 h9 h3;unfold qHP;omega
theorem qpB{a b:Int}(ha:co a)(hb:co b):yC .i64 a b=a-b:=zP (by have:=qHC ha hb;omega)
theorem qAG{a b c d:Int}(ha:co a)(hb:co b)(hc:co c)(hd:co d):zw .i64 (a-b) (c-d)=(a-b)*(c-d):=zV (by have:=qmB ha hb hc hd;omega)
theorem qhA(x y z:Int):(qC [.i x,.i y,.i z]).run=some (0,[.i x,.i y,.i z]):=by rw[qix];rfl
theorem qNG{ox oy oz ax ay az bx by' bz:Int}(h1:co ox)(h2:co oy)(h3:co oz)(h4:co ax)(h5:co ay)(h6:co az)(h7:co bx)(h8:co by')(h9:co bz) :(q1k [.i ox,.i oy,.i oz,.i ax,.i ay,.i az,.i bx,.i by',.i bz]).run=some (0,[.i (qHP ox oy oz ax ay az bx by' bz)]):=by
 have p1:=qmB h4 h1 h7 h1;have p2:=qmB h5 h2 h8 h2;have p3:=qmB h6 h3 h9 h3;have key:=qp (S:=q0B) (fun i=>[.i (if i=0 then 0 else if i=1 then (ax-ox)*(bx-ox) else if i=2 then (ax-ox)*(bx-ox)+(ay-oy)*(by'-oy) else qHP ox oy oz ax ay az bx by' bz),.i (i:Int),.i ox,.i oy,.i oz,.i ax,.i ay,.i az,.i bx,.i by',.i bz])
  (0,[.i (qHP ox oy oz ax ay az bx by' bz)]) 3 (by omega) (fun i hi=>by
   rw[qiq];rcases (show i=0\/i=1\/i=2 by omega) with rfl|rfl|rfl
   ·have e1:qu .i64 ((0:Nat):Int) 1=((1:Nat):Int):=by decide
    have e2:qu .i64 0 ((ax-ox)*(bx-ox))=(ax-ox)*(bx-ox):=by rw[zt (by omega)];omega
    simp only[STD,e1,qpB h4 h1,qpB h7 h1,qAG h4 h1 h7 h1,e2,show (((0:Nat):Int)<3)=True from eq_true (by decide),show (((0:Nat):Int)=2)=False from eq_false (by decide),show (((0:Nat):Int)=1)=False from eq_false (by decide),show (((0:Nat):Int)=0)=True from eq_true (by decide),qPd,show ((1:Nat)=0)=False from eq_false (by decide)]
   ·have e1:qu .i64 ((1:Nat):Int) 1=((2:Nat):Int):=by decide
    have e2:qu .i64 ((ax-ox)*(bx-ox)) ((ay-oy)*(by'-oy))=(ax-ox)*(bx-ox)+(ay-oy)*(by'-oy):=zt (by omega);simp only[STD,e1,qpB h5 h2,qpB h8 h2,qAG h5 h2 h8 h2,e2,show (((1:Nat):Int)<3)=True from eq_true (by decide),show (((1:Nat):Int)=2)=False from eq_false (by decide),show (((1:Nat):Int)=1)=True from eq_true (by decide),show ((1:Nat)=0)=False from eq_false (by decide),show ((1+1:Nat)=0)=False from eq_false (by decide),show ((1+1:Nat)=1)=False from eq_false (by decide)]
   ·have e1:qu .i64 ((2:Nat):Int) 1=((3:Nat):Int):=by decide
    have e2:qu .i64 ((ax-ox)*(bx-ox)+(ay-oy)*(by'-oy)) ((az-oz)*(bz-oz))=qHP ox oy oz ax ay az bx by' bz:=by rw[zt (by omega)];rfl
    simp only[STD,e1,qpB h6 h3,qpB h9 h3,qAG h6 h3 h9 h3,e2,show (((2:Nat):Int)<3)=True from eq_true (by decide),show (((2:Nat):Int)=2)=True from eq_true (by decide),show ((2:Nat)=0)=False from eq_false (by decide),show ((2:Nat)=1)=False from eq_false (by decide),show ((2+1:Nat)=0)=False from eq_false (by decide),show ((2+1:Nat)=1)=False from eq_false (by decide),show ((2+1:Nat)=2)=False from eq_false (by decide)]) (by
   rw[qiq];simp only[STD,show (((3:Nat):Int)<3)=False from eq_false (by decide),show ((3:Nat)=0)=False from eq_false (by decide),show ((3:Nat)=1)=False from eq_false (by decide),show ((3:Nat)=2)=False from eq_false (by decide)])
 have key':(qf q0B [.i 0,.i 0,.i ox,.i oy,.i oz,.i ax,.i ay,.i az,.i bx,.i by',.i bz]).run=some (0,[.i (qHP ox oy oz ax ay az bx by' bz)]):=key;rw[qvG];simp only[STD,qhA,key']
variable {l:R}
def mkI(F:Nat->Nat->Int)(c:Nat):Nat->List Int
 | 0=>[]
 | i+1=>mkI F c i++(List.range c).map (F i)
theorem qqo(F:Nat->Nat->Int)(c:Nat):∀i,(mkI F c i).length=i*c
 | 0=>by simp[mkI]
 | i+1=>by rw[mkI,qOz,qqo F c i];simp[qOy]
theorem qFV(F:Nat->Nat->Int)(c:Nat):∀(n i k:Nat),i<n->k<c->(mkI F c n)[i*c+k]?=some (F i k)
 | 0,i,k,h,_=>by omega
 | n+1,i,k,h,hk=>by
  rw[mkI];by_cases hi:i<n
  ·have:i*c+k<n*c:=by have:=qOE c (show i+1<=n by omega);rw[qOy] at this;omega
   rw[qOn (by rw[qqo];exact this)];exact qFV F c n i k hi hk
  ·have:i=n:=by omega
   subst this;rw[qOv (by rw[qqo];omega),qqo,show i*c+k-i*c=k by omega];simp[hk]
theorem qMJ (F:Nat->Nat->Int){n i k:Nat}(hi:i<n)(hk:k<n):cI (rI (mkI F n n)) ((i*n+k:Nat):Int) 0=F i k:=by rw[qGV,qOw,qOd,qFV F n n i k hi hk];rfl
theorem qK3 (l m:List Int):yB (rI l) (rI m)=rI (l++m):=by unfold rI yB;rw[qOG]
def dI(l:R)(i k:Nat):Int:=qHP (cI l 0 0) (cI l 0 1) (cI l 0 2) (cI l (i:Int) 0) (cI l (i:Int) 1) (cI l (i:Int) 2) (cI l (k:Int) 0) (cI l (k:Int) 1) (cI l (k:Int) 2)
def gI2(l:R)(i k:Nat):Int:=2*dI l (i+1) (k+1)
theorem q3h.row (h:q3h l){i:Nat}(hi:i<l.length):co (cI l (i:Int) 0)/\co (cI l (i:Int) 1)/\co (cI l (i:Int) 2):=h.2 i hi
theorem q3h.row0 (h:q3h l)(hi:0<l.length):co (cI l 0 0)/\co (cI l 0 1)/\co (cI l 0 2):=h.2 0 hi
theorem qLj (h:q3h l){i k:Nat}(hi:i<l.length)(hk:k<l.length):-120000000000<=dI l i k/\dI l i k<=120000000000:=by obtain⟨a1,a2,a3⟩:=h.row0 (show 0<l.length by omega);obtain⟨b1,b2,b3⟩:=h.row hi;obtain⟨c1,c2,c3⟩:=h.row hk;exact qKA a1 a2 a3 b1 b2 b3 c1 c2 c3
theorem qO1 (h:q3h l){i k:Nat}(hi:i<l.length)(hk:k<l.length) :(q1k [.i (cI l 0 0),.i (cI l 0 1),.i (cI l 0 2),.i (cI l (i:Int) 0),.i (cI l (i:Int) 1),.i (cI l (i:Int) 2),.i (cI l (k:Int) 0),.i (cI l (k:Int) 1),.i (cI l (k:Int) 2)]).run=some (0,[.i (dI l i k)]):=by obtain⟨a1,a2,a3⟩:=h.row0 (show 0<l.length by omega);obtain⟨b1,b2,b3⟩:=h.row hi;obtain⟨c1,c2,c3⟩:=h.row hk;exact qNG a1 a2 a3 b1 b2 b3 c1 c2 c3
theorem qDb {n i:Nat}(h:q3h l)(hl:l.length=n+1)(hi:i<n)(s1 s2 s3 s4:Bs)(rt:R) :(qf jr [.r l,.i n,.i i,.i n,.i i,.i n,.i 0,.s s1,.s s2,.s s3,.s s4,.r (rI (mkI (gI2 l) n i)),.r rt]).run = some (0,[.r l,.i n,.i i,.i n,.i i,.s s1,.s s2,.s s3,.s s4,.r (rI (mkI (gI2 l) n (i+1))),.r rt]):=by
 have hn:n<=64:=by have:=h.1;omega
 have hlen:(mkI (gI2 l) n i).length<=64*64:=by rw[qqo];exact qOS (by omega) hn
 have key:=qp (S:=jr) (fun k=>[.r l,.i n,.i i,.i n,.i i,.i n,.i (k:Int),.s s1,.s s2,.s s3,.s s4,.r (rI (mkI (gI2 l) n i++(List.range k).map (gI2 l i))),.r rt])
  (0,[.r l,.i n,.i i,.i n,.i i,.s s1,.s s2,.s s3,.s s4,.r (rI (mkI (gI2 l) n (i+1))),.r rt]) n (by omega) (fun k hk=>by
   rw[qaK];have hL:qg l=((n+1:Nat):Int):=by unfold qg;rw[hl]
   have w1:qu .i64 (i:Int) 1=((i+1:Nat):Int):=jd hi (by omega);have w2:qu .i64 (k:Int) 1=((k+1:Nat):Int):=jd hk (by omega);have bd:=qLj h (i:=i+1) (k:=k+1) (by omega) (by omega);have w3:zw .i64 2 (dI l (i+1) (k+1))=gI2 l i k:=zV (by omega);have e1:rI (mkI (gI2 l) n i++(List.range (k+1)).map (gI2 l i))=yB (rI (mkI (gI2 l) n i++(List.range k).map (gI2 l i))) [[.i (gI2 l i k)]]:=by rw[show [[U.i (gI2 l i k)]]=rI [gI2 l i k] from rfl,qK3,qP6,qOG,<-qOL];rfl
   have e3:qg [[U.i (gI2 l i k)]]=1:=rfl;have e4:((mkI (gI2 l) n i++(List.range k).map (gI2 l i)).length:Int)+1<=17592186044416:=by rw[qOz,qOm,qOM];omega
   simp only[STD,hL,w1,w2,qO1 h (i:=i+1) (k:=k+1) (by omega) (by omega),w3,e1,e3,qCy,e4,show (k:Int)<n by omega,show (0:Int)<=0 by omega,show (0:Int)<((n+1:Nat):Int) by omega,
    show (0:Int)<=((i+1:Nat):Int) by omega,show ((i+1:Nat):Int)<((n+1:Nat):Int) by omega,show (0:Int)<=((k+1:Nat):Int) by omega,show ((k+1:Nat):Int)<((n+1:Nat):Int) by omega,and_self]) (by
   rw[qaK];simp only[STD,show ¬(n:Int)<n by omega,mkI])
 simpa using key
theorem qFd {n:Nat}(h:q3h l)(hl:l.length=n+1)(s1 s2 s3 s4:Bs) :(qf jW [.r l,.i n,.i n,.i 0,.s s1,.s s2,.s s3,.s s4,.r [],.r []]).run = some (0,[.r l,.i n,.s s1,.s s2,.s s3,.s s4,.r (rI (mkI (gI2 l) n n)),.r (txR ((List.range n).map fun i=>tQ (dI l (i+1) (i+1):Rat)))]):=by
 have hn:n<=64:=by have:=h.1;omega
 have key:=qp (S:=jW) (fun i=>[.r l,.i n,.i n,.i (i:Int),.s s1,.s s2,.s s3,.s s4,.r (rI (mkI (gI2 l) n i)),.r (txR ((List.range i).map fun i=>tQ (dI l (i+1) (i+1):Rat)))])
  (0,[.r l,.i n,.s s1,.s s2,.s s3,.s s4,.r (rI (mkI (gI2 l) n n)),.r (txR ((List.range n).map fun i=>tQ (dI l (i+1) (i+1):Rat)))]) n (by omega) (fun i hi=>by
   rw[qbV];have hL:qg l=((n+1:Nat):Int):=by unfold qg;rw[hl]
   have w1:qu .i64 (i:Int) 1=((i+1:Nat):Int):=jd hi (by omega);have bd:=qLj h (i:=i+1) (k:=i+1) (by omega) (by omega);have e1:txR ((List.range (i+1)).map fun i=>tQ (dI l (i+1) (i+1):Rat))=yB (txR ((List.range i).map fun i=>tQ (dI l (i+1) (i+1):Rat))) [[.s (tQ (dI l (i+1) (i+1):Rat))]]:=by rw[qua,qt1,qP6,qOG];rfl
   have e3:qg [[U.s (tQ (dI l (i+1) (i+1):Rat))]]=1:=rfl;simp only[STD,qDb h hl hi,hL,w1,qO1 h (i:=i+1) (k:=i+1) (by omega) (by omega),zj (m:=dI l (i+1) (i+1)) (by omega),e1,e3,qpD,qOm,qOM,show (i:Int)<n by omega,
    show (i:Int)+1<=8796093022208 by omega,show (0:Int)<=0 by omega,show (0:Int)<((n+1:Nat):Int) by omega,show (0:Int)<=((i+1:Nat):Int) by omega,show ((i+1:Nat):Int)<((n+1:Nat):Int) by omega,and_self]) (by
   rw[qbV];simp only[STD,show ¬(n:Int)<n by omega])
 exact key
def pV(l:R):Nat->V3:=fun i=>⟨(cI l (i:Int) 0:Rat),(cI l (i:Int) 1:Rat),(cI l (i:Int) 2:Rat)⟩
theorem qCN (l:R)(i k:Nat):((gI2 l i k:Int):Rat)=qyh (pV l) i k:=by unfold gI2 dI qHP qyh qbX pV;simp only[qPu,qQ3,qPE];rfl
theorem qMw (l:R)(i:Nat):((dI l (i+1) (i+1):Int):Rat)=d2 (pV l 0) (pV l (i+1)):=by unfold dI qHP d2 pV;simp only[qPu,qQ3,qPE];show _=_;have:((cI l 0 0:Int):Rat)=(cI l ((0:Nat):Int) 0:Rat):=rfl;grind
end Go.Eng

namespace Go.Eng
variable {n:Nat}
theorem qAT (n:Nat)(G:Nat->Nat->Rat)(i:Nat)(x:Nat->Rat):su n (fun j=>aug n G i j*x j)=su n (fun j=>G i j*x j):=ql fun j hj=>by unfold aug;rw[if_pos hj]
theorem qFz {G N:Nat->Nat->Rat}(h:qgi n (pvQ n) n 0 (aug n G)=some N){i j:Nat}(hi:i<n)(_:j<n):su n (fun k=>G i k*N k (n+j))=if j=i then 1 else 0:=by
 obtain⟨h1,h2⟩:=qpJ (qHv n) n 0 _ N (by omega) (fun i j _ hj=>by omega) h;have:=(h2 (n+j) _).1 ((qmS h1 _ _).2 fun i _=>rfl) i hi;rw[qAT] at this;rw[this];unfold aug;show (if n+j<n then G i (n+j) else if n+j=n+i then (1:Rat) else 0)=_;rw[if_neg (by omega)];by_cases e:j=i
 ·rw[if_pos e,if_pos (by omega)]
 ·rw[if_neg e,if_neg (by omega)]
theorem qKh {G N:Nat->Nat->Rat}(h:qgi n (pvQ n) n 0 (aug n G)=some N)(t:Nat->Rat)(ht:∀i,i<n->su n (fun j=>G i j*t j)=0):∀j,j<n->t j=0:=by
 obtain⟨h1,h2⟩:=qpJ (qHv n) n 0 _ N (by omega) (fun i j _ hj=>by omega) h;have sol:=(h2 n _).1 ((qmS h1 _ (fun i=>N i n)).2 fun i _=>rfl);have s2:qrn n n (aug n G) (fun i=>aug n G i n) (fun i=>N i n+t i):=fun i hi=>by have a:=sol i hi;have b:=ht i hi;rw[<-qAT] at b;rw[ql (g:=fun j=>aug n G i j*N j n+aug n G i j*t j) (fun j _=>by grind),q6a,b,a];grind
 intro j hj;have:=(qmS h1 _ _).1 ((h2 n _).2 s2) j hj;grind
def qMq(n:Nat)(N:Nat->Nat->Rat)(B:Nat->Rat):Nat->Rat:=fun i=>su n fun k=>N i (n+k)*B k
theorem qFh {G N:Nat->Nat->Rat}(h:qgi n (pvQ n) n 0 (aug n G)=some N)(B:Nat->Rat){i:Nat}(hi:i<n):su n (fun k=>G i k*qMq n N B k)=B i:=by
 have e:su n (fun k=>G i k*qMq n N B k)=su n (fun j=>B j*su n (fun k=>G i k*N k (n+j))):=by rw[ql (g:=fun k=>su n (fun j=>B j*(G i k*N k (n+j)))) (fun k _=>by unfold qMq;rw[<-wD];exact ql fun j _=>by grind),qAO];exact ql fun j _=>by rw[wD]
 rw[e,q9v (k:=i) _ hi (fun j hj hne=>by rw[qFz h hi hj,if_neg hne];grind),qFz h hi hi,if_pos rfl];grind
theorem qN3 {l:R}{N:Nat->Nat->Rat}(h:qgi n (pvQ n) n 0 (aug n (qyh (pV l)))=some N):Bl n (pV l) (qMq n N fun k=>d2 (pV l 0) (pV l (k+1))):=⟨qkJ.2 fun t ht=>qKh h t ht,fun _ hi=>qFh h _ hi⟩
theorem qIC {c:Nat->V3}(h:qgi n (pvQ n) n 0 (aug n (qyh c))=none):¬Ind (n+1) c:=by obtain⟨x,⟨j,hj,hne⟩,hs⟩:=qw6 (qHv n) n 0 _ (by omega) (fun i j _ hj=>by omega) h;intro hi;exact hne (qkJ.1 hi x (fun i hi=>by rw[<-qAT];exact hs i hi) j hj)
theorem qNc {q:Rat}{P M:Int}(hM:M≠0)(h:q*(M:Rat)=(P:Rat)):q.num.natAbs<=P.natAbs/\q.den<=M.natAbs:=by
 have hM':(M:Rat)≠0:=by intro e;exact hM (Rat.intCast_inj.1 (e.trans (by simp)))
 have e:q=Rat.divInt P M:=by rw[Rat.divInt_eq_div,<-h];exact(Rat.mul_div_cancel hM').symm
 rw[e];constructor
 ·rw[Rat.num_divInt];refine qOh (Int.natAbs_ediv_le_natAbs _ _) ?_;rw[qPt,Int.natAbs_sign_of_ne_zero hM];omega
 ·rw[Rat.den_divInt,if_neg hM];exact Nat.div_le_self _ _
def qHG(a b c d e f g h i:Rat):Rat:=a*(e*i-f*h)-b*(d*i-f*g)+c*(d*h-e*g)
theorem qLB (a b c d e f g h i p q r s t u v w x:Rat):qHG a b c d e f g h i*qHG p q r s t u v w x = qHG (a*p+b*s+c*v) (a*q+b*t+c*w) (a*r+b*u+c*x) (d*p+e*s+f*v) (d*q+e*t+f*w) (d*r+e*u+f*x) (g*p+h*s+i*v) (g*q+h*t+i*w) (g*r+h*u+i*x):=by unfold qHG;grind
end Go.Eng

namespace Go.Eng
theorem q4s{x y:Int}{a b:Nat}(hx:x.natAbs<=a)(hy:y.natAbs<=b):(x*y).natAbs<=a*b:=by rw[qPt];exact qOS hx hy
theorem qKw{x y:Int}{a b:Nat}(hx:x.natAbs<=a)(hy:y.natAbs<=b):(x+y).natAbs<=a+b:=by omega
theorem qnt{x y:Int}{a b:Nat}(hx:x.natAbs<=a)(hy:y.natAbs<=b):(x-y).natAbs<=a+b:=by omega
def qKr(a b c d e f g h i:Int):Int:=a*(e*i-f*h)-b*(d*i-f*g)+c*(d*h-e*g)
theorem qiM(a b c d e f g h i:Int):((qKr a b c d e f g h i:Int):Rat)=qHG a b c d e f g h i:=by unfold qKr qHG;simp only[qPu,qQ3,qPE]
theorem qyn{A:Nat}{a b c d e f g h i:Int}(ha:a.natAbs<=A)(hb:b.natAbs<=A)(hc:c.natAbs<=A)(hd:d.natAbs<=A)(he:e.natAbs<=A)(hf:f.natAbs<=A)(hg:g.natAbs<=A)(hh:h.natAbs<=A)(hi:i.natAbs<=A) :(qKr a b c d e f g h i).natAbs<=A*(A*A+A*A)+A*(A*A+A*A)+A*(A*A+A*A):=qKw (qnt (q4s ha (qnt (q4s he hi) (q4s hf hh))) (q4s hb (qnt (q4s hd hi) (q4s hf hg)))) (q4s hc (qnt (q4s hd hh) (q4s he hg)))
def AA:Nat:=240000000000
theorem qMX{n:Nat}(hn:n<=3){g:Nat->Nat->Int}{b:Nat->Int}{N:Nat->Nat->Rat}{t:Nat->Rat}(hg:∀i k,i<n->k<n->(g i k).natAbs<=AA)(hb:∀i,i<n->(b i).natAbs<=AA)(hinv:∀i j,i<n->j<n->su n (fun k=>(g i k:Rat)*N k j)=if j=i then 1 else 0) (ht:∀i,i<n->su n (fun k=>(g i k:Rat)*t k)=(b i:Rat)) :∃D:Int,D≠0/\D.natAbs<=10^35/\∀i,i<n->∃T:Int,t i*(D:Rat)=(T:Rat)/\T.natAbs<=10^35:=by
 match n,hn with
 | 0,_=>exact⟨1,by decide,by decide,fun i hi=>by omega⟩
 | 1,_=>
  have g0:=hg 0 0 (by omega) (by omega);have b0:=hb 0 (by omega);have i0:=hinv 0 0 (by omega) (by omega);have t0:=ht 0 (by omega);simp only[su,if_true] at i0 t0;unfold AA at g0 b0;refine⟨g 0 0,fun e=>?_,by omega,fun i hi=>⟨b 0,?_,by omega⟩⟩
  ·rw[e] at i0;have:((0:Int):Rat)=0:=rfl;rw[this] at i0;grind
  ·have:i=0:=by omega
   subst this;grind
 | 2,_=>
  have g00:=hg 0 0 (by omega) (by omega);have g01:=hg 0 1 (by omega) (by omega);have g10:=hg 1 0 (by omega) (by omega);have g11:=hg 1 1 (by omega) (by omega);have b0:=hb 0 (by omega);have b1:=hb 1 (by omega);have i00:=hinv 0 0 (by omega) (by omega);have i01:=hinv 0 1 (by omega) (by omega);have i10:=hinv 1 0 (by omega) (by omega);have i11:=hinv 1 1 (by omega) (by omega);have t0:=ht 0 (by omega);have t1:=ht 1 (by omega);simp only[su,if_true,show (1=0)=False from eq_false (by decide),show (0=1)=False from eq_false (by decide),if_false] at i00 i01 i10 i11 t0 t1;have A2:AA*AA+AA*AA<=10^35:=by decide
  refine⟨g 0 0*g 1 1-g 0 1*g 1 0,fun e=>?_,qOh (qnt (q4s g00 g11) (q4s g01 g10)) A2,fun i hi=>?_⟩
  ·have e':((g 0 0:Int):Rat)*(g 1 1:Rat)-(g 0 1:Rat)*(g 1 0:Rat)=0:=by rw[<-qPu,<-qPu,<-qPE,e];rfl
   grind
  ·rcases (show i=0\/i=1 by omega) with rfl|rfl
   ·refine⟨b 0*g 1 1-g 0 1*b 1,?_,qOh (qnt (q4s b0 g11) (q4s g01 b1)) A2⟩;simp only[qPu,qPE];rw[<-t0,<-t1];grind
   ·refine⟨g 0 0*b 1-b 0*g 1 0,?_,qOh (qnt (q4s g00 b1) (q4s b0 g10)) A2⟩;simp only[qPu,qPE];rw[<-t0,<-t1];grind
 | 3,_=>
  have A3:AA*(AA*AA+AA*AA)+AA*(AA*AA+AA*AA)+AA*(AA*AA+AA*AA)<=10^35:=by decide
  have G:=fun i k (hi:i<3) (hk:k<3)=>hg i k hi hk;have i00:=hinv 0 0 (by omega) (by omega);have i01:=hinv 0 1 (by omega) (by omega);have i02:=hinv 0 2 (by omega) (by omega);have i10:=hinv 1 0 (by omega) (by omega);have i11:=hinv 1 1 (by omega) (by omega);have i12:=hinv 1 2 (by omega) (by omega);have i20:=hinv 2 0 (by omega) (by omega);have i21:=hinv 2 1 (by omega) (by omega);have i22:=hinv 2 2 (by omega) (by omega);have t0:=ht 0 (by omega);have t1:=ht 1 (by omega);have t2:=ht 2 (by omega);have B0:=hb 0 (by omega);have B1:=hb 1 (by omega);have B2:=hb 2 (by omega);simp only[su,if_true,Rat.zero_add,show (1=0)=False from eq_false (by decide),show (0=1)=False from eq_false (by decide),show (2=0)=False from eq_false (by decide),show (0=2)=False from eq_false (by decide),show (1=2)=False from eq_false (by decide),show (2=1)=False from eq_false (by decide),if_false] at i00 i01 i02 i10 i11 i12 i20 i21 i22 t0 t1 t2;have G00:=G 0 0 (by omega) (by omega);have G01:=G 0 1 (by omega) (by omega);have G02:=G 0 2 (by omega) (by omega);have G10:=G 1 0 (by omega) (by omega);have G11:=G 1 1 (by omega) (by omega);have G12:=G 1 2 (by omega) (by omega);have G20:=G 2 0 (by omega) (by omega);have G21:=G 2 1 (by omega) (by omega);have G22:=G 2 2 (by omega) (by omega);refine⟨qKr (g 0 0) (g 0 1) (g 0 2) (g 1 0) (g 1 1) (g 1 2) (g 2 0) (g 2 1) (g 2 2),fun e=>?_,qOh (qyn G00 G01 G02 G10 G11 G12 G20 G21 G22) A3,fun i hi=>?_⟩
  ·have e':=qiM (g 0 0) (g 0 1) (g 0 2) (g 1 0) (g 1 1) (g 1 2) (g 2 0) (g 2 1) (g 2 2);rw[e] at e';have m:=qLB (g 0 0) (g 0 1) (g 0 2) (g 1 0) (g 1 1) (g 1 2) (g 2 0) (g 2 1) (g 2 2) (N 0 0) (N 0 1) (N 0 2) (N 1 0) (N 1 1) (N 1 2) (N 2 0) (N 2 1) (N 2 2);rw[i00,i01,i02,i10,i11,i12,i20,i21,i22,<-e'] at m;have z:((0:Int):Rat)=0:=rfl;have o:qHG 1 0 0 0 1 0 0 0 1=1:=by unfold qHG;grind
   rw[z,o] at m;grind
  ·rw[qiM];rcases (show i=0\/i=1\/i=2 by omega) with rfl|rfl|rfl
   ·refine⟨qKr (b 0) (g 0 1) (g 0 2) (b 1) (g 1 1) (g 1 2) (b 2) (g 2 1) (g 2 2),?_,qOh (qyn B0 G01 G02 B1 G11 G12 B2 G21 G22) A3⟩;rw[qiM,<-t0,<-t1,<-t2];unfold qHG;grind
   ·refine⟨qKr (g 0 0) (b 0) (g 0 2) (g 1 0) (b 1) (g 1 2) (g 2 0) (b 2) (g 2 2),?_,qOh (qyn G00 B0 G02 G10 B1 G12 G20 B2 G22) A3⟩;rw[qiM,<-t0,<-t1,<-t2];unfold qHG;grind
   ·refine⟨qKr (g 0 0) (g 0 1) (b 0) (g 1 0) (g 1 1) (b 1) (g 2 0) (g 2 1) (b 2),?_,qOh (qyn G00 G01 B0 G10 G11 B1 G20 G21 B2) A3⟩;rw[qiM,<-t0,<-t1,<-t2];unfold qHG;grind
theorem qx5{A B:Nat->Rat}{m NA DA NB DB:Nat}(hA:∀k,k<m->bnd NA DA (A k))(hB:∀k,k<m->bnd NB DB (B k)) :
  ∀k,k<=m->bnd (NA+NB+1+k*(DA+DB+2)) (1+k*(DA+DB)) (su k fun k=>A k*B k)
 | 0,_=>qhE.mono (by omega) (by omega)
 | k+1,hk=>by
  have h:=qx5 hA hB k (by omega);have e1:=qOy k 1 (DA+DB+2);have e2:=qOy k 1 (DA+DB);have e3:=Nat.mul_add k (DA+DB) 2;have:=h.add ((hA k (by omega)).mul (hB k (by omega))) (K:=NA+NB+1+(k+1)*(DA+DB+2)) (by omega) (by omega);exact this.mono (qOe _) (by omega)
theorem qEW{A B:Nat->Rat}{m NA DA NB DB:Nat}(hm:m<=1000)(hA:∀k,k<m->bnd NA DA (A k))(hB:∀k,k<m->bnd NB DB (B k))(hc:NA+NB+1+m*(DA+DB+2)<=1023){a b:R}(la:qg a=m)(lb:qg b=m)(ga:∀k,k<m->cS a (k:Int) 0=tQ (A k)) (gb:∀k,k<m->cS b (k:Int) 0=tQ (B k)):(qy [.r a,.r b]).run=some (0,[.s (tQ (su m fun k=>A k*B k)),.i 0]):=by
 have key:=qp (S:=qK) (fun k=>[.r b,.s (tQ (su k fun k=>A k*B k)),.r a,.i m,.i (k:Int)]) (0,[.s (tQ (su m fun k=>A k*B k))]) m (by omega) (fun k hk=>by
  rw[uX];have h:=qx5 hA hB k (by omega);have e0:=qOE (DA+DB+2) (show k+1<=m by omega);have e1:=qOy k 1 (DA+DB+2);have e2:=qOy k 1 (DA+DB);have e3:=Nat.mul_add k (DA+DB) 2;simp only[STD,la,lb,ga k hk,gb k hk,qdf (hA k hk) (hB k hk) (by omega) (by omega),qhm h ((hA k hk).mul (hB k hk)) (by omega) (by omega) (by omega),jd hk (show m<9223372036854775808 by omega),
   show (k:Int)<m by omega,show (0:Int)<=k by omega,and_self]
  rfl) (by
  rw[uX];simp only[STD,show ¬(m:Int)<m by omega])
 have key':(qf qK [.r b,.s [48],.r a,.i (qg a),.i 0]).run=some (0,[.s (tQ (su m fun k=>A k*B k))]):=by rw[la];exact key
 rw[q7X];simp only[STD,key',zf key']
theorem qO6(x y z:Bs):qg (txR [x,y,z])=((3:Nat):Int)/\cS (txR [x,y,z]) ((0:Nat):Int) 0=x/\cS (txR [x,y,z]) ((1:Nat):Int) 0=y/\cS (txR [x,y,z]) ((2:Nat):Int) 0=z:=⟨rfl,rfl,rfl,rfl⟩
theorem qMt(a b:V3):su 3 (fun k=>(if k=0 then a.x-b.x else if k=1 then a.y-b.y else a.z-b.z)*(if k=0 then a.x-b.x else if k=1 then a.y-b.y else a.z-b.z))=d2 a b:=by simp only[su,if_true,show (1=0)=False from eq_false (by decide),show (2=0)=False from eq_false (by decide),show (2=1)=False from eq_false (by decide),if_false];unfold d2;grind
structure CB (c:V3):Prop where
 x:bnd 42 36 c.x
 y:bnd 42 36 c.y
 z:bnd 42 36 c.z
def spV(x y z:Int):V3:=⟨(x:Rat),(y:Rat),(z:Rat)⟩
theorem qqc{c:Rat}{x:Int}(h:bnd 42 36 c)(hx:co x):bnd 44 37 (c-(x:Rat)):=h.sub (qtQ hx) (by omega) (by omega)
theorem qCa{c:V3}{x y z:Int}(hc:CB c)(hx:co x)(hy:co y)(hz:co z):bnd 317 223 (d2 c (spV x y z)):=by
 have key:∀k,k<3->bnd 44 37 (if k=0 then c.x-(spV x y z).x else if k=1 then c.y-(spV x y z).y else c.z-(spV x y z).z):=fun k _=>by
  split
  ·exact qqc hc.x hx
  ·split
   ·exact qqc hc.y hy
   ·exact qqc hc.z hz
 rw[<-qMt];exact qx5 key key 3 (by omega)
theorem qKT(X Y Z:Bs):yB (txR (([X,Y,Z]:List Bs).take 0)) [[.s X]]=txR (([X,Y,Z]:List Bs).take (0+1))/\yB (txR (([X,Y,Z]:List Bs).take 1)) [[.s Y]]=txR (([X,Y,Z]:List Bs).take (1+1)) /\yB (txR (([X,Y,Z]:List Bs).take 2)) [[.s Z]]=txR (([X,Y,Z]:List Bs).take (2+1))/\qg (txR (([X,Y,Z]:List Bs).take 0))=0/\qg (txR (([X,Y,Z]:List Bs).take 1))=1/\qg (txR (([X,Y,Z]:List Bs).take 2))=2 /\qg [[U.s X]]=1/\qg [[U.s Y]]=1/\qg [[U.s Z]]=1:=⟨rfl,rfl,rfl,rfl,rfl,rfl,rfl,rfl,rfl⟩
theorem qAx{x y z:Int}{cx cy cz X Y Z:Bs}(hx:co x)(hy:co y)(hz:co z)(sx:(zJ [.s cx,.s (tQ (x:Rat))]).run=some (0,[.s X,.i 0]))(sy:(zJ [.s cy,.s (tQ (y:Rat))]).run=some (0,[.s Y,.i 0]))(sz:(zJ [.s cz,.s (tQ (z:Rat))]).run=some (0,[.s Z,.i 0])):(qf km [.i x,.i y,.i z,.i 0,.s cx,.s cy,.s cz,.r []]).run=some (0,[.r (txR [X,Y,Z])]):=by
 obtain⟨t0,t1,t2,r0,r1,r2,q0,q1,q2⟩:=qKT X Y Z;have key:=qp (S:=km) (fun k=>[.i x,.i y,.i z,.i (k:Int),.s cx,.s cy,.s cz,.r (txR (([X,Y,Z]:List Bs).take k))]) (0,[.r (txR [X,Y,Z])]) 3 (by omega) (fun k hk=>by
   rw[qfW];rcases (show k=0\/k=1\/k=2 by omega) with rfl|rfl|rfl
   ·have e1:qu .i64 ((0:Nat):Int) 1=((0+1:Nat):Int):=by decide
    have e2:qsm [x,y,z] ((0:Nat):Int)=x:=rfl;simp only[STD,e1,e2,zj (qkD hx),sx,t0,r0,q0,show (((0:Nat):Int)<3)=True from eq_true (by decide),show ((0:Int)<=((0:Nat):Int))=True from eq_true (by decide),
     show (((0:Nat):Int)=2)=False from eq_false (by decide),show (((0:Nat):Int)=1)=False from eq_false (by decide),show (((0:Nat):Int)=0)=True from eq_true (by decide),and_self,show ((0:Int)+1<=8796093022208)=True from eq_true (by decide)]
   ·have e1:qu .i64 ((1:Nat):Int) 1=((1+1:Nat):Int):=by decide
    have e2:qsm [x,y,z] ((1:Nat):Int)=y:=rfl;simp only[STD,e1,e2,zj (qkD hy),sy,t1,r1,q1,show (((1:Nat):Int)<3)=True from eq_true (by decide),show ((0:Int)<=((1:Nat):Int))=True from eq_true (by decide),
     show (((1:Nat):Int)=2)=False from eq_false (by decide),show (((1:Nat):Int)=1)=True from eq_true (by decide),and_self,show ((1:Int)+1<=8796093022208)=True from eq_true (by decide)]
   ·have e1:qu .i64 ((2:Nat):Int) 1=((2+1:Nat):Int):=by decide
    have e2:qsm [x,y,z] ((2:Nat):Int)=z:=rfl;simp only[STD,e1,e2,zj (qkD hz),sz,t2,r2,q2,show (((2:Nat):Int)<3)=True from eq_true (by decide),show ((0:Int)<=((2:Nat):Int))=True from eq_true (by decide),
     show (((2:Nat):Int)=2)=True from eq_true (by decide),and_self,show ((2:Int)+1<=8796093022208)=True from eq_true (by decide)]) (by
   rw[qfW];simp only[STD,show (((3:Nat):Int)<3)=False from eq_false (by decide)];rfl)
 exact key
theorem qKa{c:V3}{x y z:Int}(hc:CB c)(hx:co x)(hy:co y)(hz:co z):(vN [.s (tQ c.x),.s (tQ c.y),.s (tQ c.z),.i x,.i y,.i z]).run=some (0,[.s (tQ (d2 c (spV x y z))),.i 0]):=by
 have key':=qAx hx hy hz (q8g hc.x (qtQ hx) (by omega) (by omega) (by omega)) (q8g hc.y (qtQ hy) (by omega) (by omega) (by omega)) (q8g hc.z (qtQ hz) (by omega) (by omega) (by omega));have kb:∀k,k<3->bnd 44 37 (if k=0 then c.x-(spV x y z).x else if k=1 then c.y-(spV x y z).y else c.z-(spV x y z).z):=fun k _=>by
  split
  ·exact qqc hc.x hx
  ·split
   ·exact qqc hc.y hy
   ·exact qqc hc.z hz
 obtain⟨l0,l1,l2,l3⟩:=qO6 (tQ (c.x-(x:Rat))) (tQ (c.y-(y:Rat))) (tQ (c.z-(z:Rat)));have gg:∀k:Nat,k<3->cS (txR [tQ (c.x-(x:Rat)),tQ (c.y-(y:Rat)),tQ (c.z-(z:Rat))]) (k:Int) 0=tQ (if k=0 then c.x-(spV x y z).x else if k=1 then c.y-(spV x y z).y else c.z-(spV x y z).z):=fun k hk=>by
  rcases (show k=0\/k=1\/k=2 by omega) with rfl|rfl|rfl
  ·exact l1
  ·exact l2
  ·exact l3
 have ht:=qEW (m:=3) (by omega) kb kb (by decide) l0 l0 gg gg;rw[qMt] at ht;rw[qth];simp only[STD,qhA,key',zf key',ht]
variable {n:Nat}
theorem qAc{t:Nat->Rat}{n:Nat}(h:∀k,k<n->bnd 36 36 (t k)):∀k,k<=n->bnd (38*k+1) (36*k+1) (su k t)
 | 0,_=>qhE
 | k+1,hk=>by
  have:=(qAc h k (by omega)).add (h k (by omega)) (K:=38*(k+1)+1) (by omega) (by omega);exact this.mono (qOe _) (by omega)
theorem qxz (F:Nat->Bs){k:Nat}(hk:k<n):cS (txR ((List.range n).map F)) (k:Int) 0=F k:=qG3 (by rw[qOo,qOW hk];rfl)
theorem quD (n:Nat)(F:Nat->Bs):qg (txR ((List.range n).map F))=(n:Int):=by rw[qpD,qOm,qOM]
theorem qNE (hn:n<=3){t:Nat->Rat}(h:∀k,k<n->bnd 36 36 (t k)):(qcq [.r (txR ((List.range n).map fun k=>tQ (t k)))]).run=some (0,[.s (tQ (su n t)),.i 0]):=by
 obtain⟨bl,hbl⟩:∃bl,bl=txR ((List.range n).map fun k=>tQ (t k)):=⟨_,rfl⟩;have lb:qg bl=(n:Int):=by rw[hbl,quD]
 have gb:∀k,k<n->cS bl (k:Int) 0=tQ (t k):=fun k hk=>by rw[hbl];exact qxz (fun k=>tQ (t k)) hk
 have ck:(qA [.r bl]).run=some (0,[.i 0]):=by rw[hbl];exact quA (by simp;omega) (fun s hs=>by obtain⟨k,hk,rfl⟩:=qOP.1 hs;exact q6T ((h k (qOV.1 hk)).ok (by omega) (by omega)))
 have key:=qp (S:=q27) (fun k=>[.s (tQ (su k t)),.r bl,.i n,.i (k:Int)]) (0,[.s (tQ (su n t))]) n (by omega) (fun k hk=>by
  rw[qjs];have sb:=qAc h k (by omega);simp only[STD,lb,gb k hk,qhm sb (h k hk) (by omega) (by omega) (by omega),jd hk (show n<9223372036854775808 by omega),show (k:Int)<n by omega,show (0:Int)<=k by omega,and_self];rfl) (by
  rw[qjs];simp only[STD,show ¬(n:Int)<n by omega])
 have key':(qf q27 [.s [48],.r bl,.i (n:Int),.i 0]).run=some (0,[.s (tQ (su n t))]):=key;rw[<-hbl,qzE];simp only[STD,ck,key',zf key',lb,show ¬(4096:Int)<n by omega]
theorem qxn {q:Rat}{P M:Int}{a b:Nat}(hM:M≠0)(h:q*(M:Rat)=(P:Rat))(hP:P.natAbs<10^(a+1))(hD:M.natAbs<10^(b+1)):bnd (a+1) (b+1) q:=by obtain⟨h1,h2⟩:=qNc hM h;exact⟨q9e a _ (by omega),q9e b _ (by omega)⟩
theorem qI1 (hn:n<=3){t:Nat->Rat}{D:Int}(hD:D.natAbs<=10^35)(h:∀i,i<n->∃T:Int,t i*(D:Rat)=(T:Rat)/\T.natAbs<=10^35):∀j,j<n+1->∃W:Int,wts t n j*(D:Rat)=(W:Rat)/\W.natAbs<=4*10^35:=by
 have sums:∀k,k<=n->∃W:Int,su k t*(D:Rat)=(W:Rat)/\W.natAbs<=k*10^35:=by
  intro k;induction k with
  | zero=>exact fun _=>⟨0,by simp only[su];rw[Rat.zero_mul];rfl,by simp⟩
  | succ k ih=>
   intro hk;obtain⟨W,e1,e2⟩:=ih (by omega);obtain⟨T,e3,e4⟩:=h k (by omega);refine⟨W+T,?_,?_⟩
   ·simp only[su];rw[Rat.add_mul,e1,e3,qQ3]
   ·rw[qOy];omega
 intro j hj;unfold wts;by_cases e:j=0
 ·obtain⟨W,e1,e2⟩:=sums n (qOe _);refine⟨D-W,?_,?_⟩
  ·rw[if_pos e,qPE,<-e1];grind
  ·have:=qOE (10^35) hn;omega
 ·obtain⟨T,e3,e4⟩:=h (j-1) (by omega);exact⟨T,by rw[if_neg e];exact e3,by omega⟩
theorem qIs (hn:n<=3){w:Nat->Rat}{x:Nat->Int}{D:Int}(hx:∀j,j<n+1->co (x j))(h:∀j,j<n+1->∃W:Int,w j*(D:Rat)=(W:Rat)/\W.natAbs<=4*10^35) :∃C:Int,su (n+1) (fun j=>w j*(x j:Rat))*(D:Rat)=(C:Rat)/\C.natAbs<=16*10^40:=by
 have sums:∀k,k<=n+1->∃C:Int,su k (fun j=>w j*(x j:Rat))*(D:Rat)=(C:Rat)/\C.natAbs<=k*(4*10^40):=by
  intro k;induction k with
  | zero=>exact fun _=>⟨0,by simp only[su];rw[Rat.zero_mul];rfl,by simp⟩
  | succ k ih=>
   intro hk;obtain⟨C,e1,e2⟩:=ih (by omega);obtain⟨W,e3,e4⟩:=h k (by omega);refine⟨C+W*x k,?_,?_⟩
   ·simp only[su];rw[Rat.add_mul,e1,qQ3,qPu,<-e3];grind
   ·have hc:=hx k (by omega);have:=q4s e4 (show (x k).natAbs<=100000 by unfold co at hc;omega);rw[qOy];omega
 obtain⟨C,e1,e2⟩:=sums (n+1) (qOe _);refine⟨C,e1,?_⟩;exact qOh e2 (qOh (qOE (4*10^40) (show n+1<=4 by omega)) (by decide))
end Go.Eng

namespace Go.Eng
variable {l:R}
def axv(l:R)(a k:Nat):Int:=qsm [cI l (k:Int) 0,cI l (k:Int) 1,cI l (k:Int) 2] (a:Int)
theorem q3h.ax (h:q3h l){k:Nat}(hk:k<l.length){a:Nat}(ha:a<3):co (axv l a k):=by
 obtain⟨h1,h2,h3⟩:=h.row hk;rcases (show a=0\/a=1\/a=2 by omega) with rfl|rfl|rfl
 ·exact h1
 ·exact h2
 ·exact h3
theorem qqQ {m a:Nat}(h:q3h l)(hl:l.length=m)(ha:a<3)(s1 s2 s3 s4 t1 t2 t3 t4:Bs)(wl:R) :(qf jp [.r l,.i a,.i a,.r l,.i m,.i 0,.s s1,.s s2,.s s3,.s s4,.r wl,.s t1,.s t2,.s t3,.s t4,.r []]).run = some (0,[.r l,.i a,.i a,.s s1,.s s2,.s s3,.s s4,.r wl,.s t1,.s t2,.s t3,.s t4,.r (txR ((List.range m).map fun k=>tQ (axv l a k:Rat)))]):=by
 have hm:m<=64:=by have:=h.1;omega
 have hL:qg l=(m:Int):=by unfold qg;rw[hl]
 have key:=qp (S:=jp) (fun k=>[.r l,.i a,.i a,.r l,.i m,.i (k:Int),.s s1,.s s2,.s s3,.s s4,.r wl,.s t1,.s t2,.s t3,.s t4,.r (txR ((List.range k).map fun k=>tQ (axv l a k:Rat)))])
  (0,[.r l,.i a,.i a,.s s1,.s s2,.s s3,.s s4,.r wl,.s t1,.s t2,.s t3,.s t4,.r (txR ((List.range m).map fun k=>tQ (axv l a k:Rat)))]) m (by omega) (fun k hk=>by
   rw[qaP];have e0:qsm [cI l (k:Int) 0,cI l (k:Int) 1,cI l (k:Int) 2] (a:Int)=axv l a k:=rfl;have e1:txR ((List.range (k+1)).map fun k=>tQ (axv l a k:Rat))=yB (txR ((List.range k).map fun k=>tQ (axv l a k:Rat))) [[.s (tQ (axv l a k:Rat))]]:=by rw[qua,qt1,qP6,qOG];rfl
   have e3:qg [[U.s (tQ (axv l a k:Rat))]]=1:=rfl;simp only[STD,qhA,hL,e0,zj (qkD (h.ax (show k<l.length by omega) ha)),jd hk (show m<9223372036854775808 by omega),e1,e3,qpD,qOm,qOM,show (k:Int)<m by omega,
    show (a:Int)<3 by omega,show (0:Int)<=a by omega,show (k:Int)+1<=8796093022208 by omega,show (0:Int)<=k by omega,and_self]) (by
   rw[qaP];simp only[STD,show ¬(m:Int)<m by omega])
 exact key
theorem qDG {m:Nat}(h:q3h l)(hl:l.length=m)(hm:m<=4){w:Nat->Rat}(hw:∀k,k<m->bnd 36 36 (w k))(s1 s2 s3 s4:Bs) :(qf jt [.r l,.i 0,.s s1,.s s2,.s s3,.s s4,.r (txR ((List.range m).map fun k=>tQ (w k))),.s [],.s [],.s [],.s []]).run = some (0,[.r l,.s s1,.s s2,.s s3,.s s4,.r (txR ((List.range m).map fun k=>tQ (w k))),.s (tQ (cen m w (pV l)).x),.s (tQ (cen m w (pV l)).y),.s (tQ (cen m w (pV l)).z),.s []]):=by
 obtain⟨wl,hwl⟩:∃wl,wl=txR ((List.range m).map fun k=>tQ (w k)):=⟨_,rfl⟩;have hL:qg l=(m:Int):=by unfold qg;rw[hl]
 have lw:qg wl=(m:Int):=by rw[hwl,quD]
 have gw:∀k,k<m->cS wl (k:Int) 0=tQ (w k):=fun k hk=>by rw[hwl];exact qxz (fun k=>tQ (w k)) hk
 rw[<-hwl];have tot:∀a,a<3->(qy [.r wl,.r (txR ((List.range m).map fun k=>tQ (axv l a k:Rat)))]).run=some (0,[.s (tQ (su m fun k=>w k*(axv l a k:Rat))),.i 0]):=fun a ha=>
  qEW (by omega) hw (fun k hk=>qtQ (h.ax (show k<l.length by omega) ha)) (by omega) lw (quD _ _) gw (fun k hk=>qxz (fun k=>tQ (axv l a k:Rat)) hk)
 have q0:=tot 0 (by omega);have q1:=tot 1 (by omega);have q2:=tot 2 (by omega);have key:=qp (S:=jt) (fun a=>[.r l,.i (a:Int),.s s1,.s s2,.s s3,.s s4,.r wl,.s (if 0<a then tQ (su m fun k=>w k*(axv l 0 k:Rat)) else []),.s (if 1<a then tQ (su m fun k=>w k*(axv l 1 k:Rat)) else []),.s (if 2<a then tQ (su m fun k=>w k*(axv l 2 k:Rat)) else []),.s []])
  (0,[.r l,.s s1,.s s2,.s s3,.s s4,.r wl,.s (tQ (su m fun k=>w k*(axv l 0 k:Rat))),.s (tQ (su m fun k=>w k*(axv l 1 k:Rat))),.s (tQ (su m fun k=>w k*(axv l 2 k:Rat))),.s []]) 3 (by omega) (fun a ha=>by
   rw[qaY];rcases (show a=0\/a=1\/a=2 by omega) with rfl|rfl|rfl
   ·simp only[STD,hL,qqQ h hl ha,q0];rfl
   ·simp only[STD,hL,qqQ h hl ha,q1];rfl
   ·simp only[STD,hL,qqQ h hl ha,q2];rfl) (by
   rw[qaY];simp only[STD];rfl)
 exact key
end Go.Eng

namespace Go.Eng
theorem qJ2(n:Nat)(t:Nat->Rat):yB [[.s (tQ (1-su n t))]] (txR ((List.range n).map fun k=>tQ (t k)))=txR ((List.range (n+1)).map fun j=>tQ (wts t n j)):=by rw[qua,qt1,List.range_succ_eq_map,qPa,List.map_map];rfl
theorem qIj{l:R}{n:Nat}(h:q3h l)(hl:l.length=n+1)(hn:n<=3) :(∃t,Bl n (pV l) t/\(∀j,j<n+1->bnd 36 36 (wts t n j))/\CB (cen (n+1) (wts t n) (pV l)) /\(ku [.r l]).run=some (0,[.s (tQ (cen (n+1) (wts t n) (pV l)).x),.s (tQ (cen (n+1) (wts t n) (pV l)).y),.s (tQ (cen (n+1) (wts t n) (pV l)).z),.s (tQ (d2 (cen (n+1) (wts t n) (pV l)) (pV l 0))),.r (txR ((List.range (n+1)).map fun j=>tQ (wts t n j))),.b true,.i 0])) \/(¬Ind (n+1) (pV l)/\(ku [.r l]).run=some (0,[.s [],.s [],.s [],.s [],.r [],.b false,.i 0])):=by
 have hL:qg l=((n+1:Nat):Int):=by unfold qg;rw[hl]
 have w0:yC .i64 ((n+1:Nat):Int) 1=(n:Int):=by rw[zP (by omega)];omega
 have bd:∀i k,i<n->k<n->-120000000000<=dI l (i+1) (k+1)/\dI l (i+1) (k+1)<=120000000000:=fun i k hi hk=>qLj h (by omega) (by omega);have bg:∀i k,i<n->k<n->(gI2 l i k).natAbs<=240000000000:=fun i k hi hk=>by have:=bd i k hi hk;unfold gI2;omega
 have r0:=qFd h hl [] [] [] [];have r1:=qAf (n:=n) (L:=rI (mkI (gI2 l) n n)) (g:=gI2 l) (by omega) (by unfold rI;rw[qOm,qqo]) (fun i k hi hk=>qMJ _ hi hk) (fun i k hi hk=>by have:=bg i k hi hk;omega);rcases qFq hn (G:=fun i k=>(gI2 l i k:Rat)) (fun i k hi hk=>qtd (qLJ (by have:=bg i k hi hk;omega) (by omega)) (by omega)) with⟨N,g1,g2,g3⟩|⟨g1,g3⟩
 ·left;have eg:(fun i k=>(gI2 l i k:Rat))=qyh (pV l):=by funext i k;exact qCN l i k
  have eb:(fun k=>d2 (pV l 0) (pV l (k+1)))=fun k=>(dI l (k+1) (k+1):Rat):=by funext k;exact(qMw l k).symm
  obtain⟨t,et⟩:∃t,t=qMq n N fun k=>(dI l (k+1) (k+1):Rat):=⟨_,rfl⟩;have bl:Bl n (pV l) t:=by rw[eg] at g1;have:=qN3 g1;rw[eb] at this;rw[et];exact this
  obtain⟨D,d0,d1,d2'⟩:=qMX hn (g:=gI2 l) (b:=fun i=>dI l (i+1) (i+1)) (N:=fun k j=>N k (n+j)) (t:=t) (fun i k hi hk=>bg i k hi hk)
   (fun i hi=>by have:=bd i i hi hi;show _<=240000000000;omega) (fun i j hi hj=>qFz g1 hi hj) (fun i hi=>by rw[et];exact qFh g1 _ hi)
  have tb:∀k,k<n->bnd 36 36 (t k):=fun k hk=>by obtain⟨T,e1,e2⟩:=d2' k hk;exact qxn (a:=35) (b:=35) d0 e1 (qPZ e2 (by decide)) (qPZ d1 (by decide))
  have wf:=qI1 hn d1 d2';have wb:∀j,j<n+1->bnd 36 36 (wts t n j):=fun j hj=>by obtain⟨W,e1,e2⟩:=wf j hj;exact qxn (a:=35) (b:=35) d0 e1 (qPZ e2 (by decide)) (qPZ d1 (by decide))
  have cb:∀x:Nat->Int,(∀j,j<n+1->co (x j))->bnd 42 36 (su (n+1) fun j=>wts t n j*(x j:Rat)):=fun x hx=>by obtain⟨C,e1,e2⟩:=qIs hn hx wf;exact qxn (a:=41) (b:=35) d0 e1 (qPZ e2 (by decide)) (qPZ d1 (by decide))
  have hCB:CB (cen (n+1) (wts t n) (pV l)):=⟨cb _ fun j hj=>(h.row (show j<l.length by omega)).1,cb _ fun j hj=>(h.row (show j<l.length by omega)).2.1,cb _ fun j hj=>(h.row (show j<l.length by omega)).2.2⟩;refine⟨t,bl,wb,hCB,?_⟩;have r3:=qKE hn (V:=fun i k=>N i (n+k)) (B:=fun k=>(dI l (k+1) (k+1):Rat)) (fun i k hi hk=>g2 i (n+k) hi (by omega)) (fun k hk=>qtd (qLJ (by have:=bd k k hk hk;omega) (by omega)) (by omega));have e3:(fun i=>tQ (su n fun k=>N i (n+k)*(dI l (k+1) (k+1):Rat)))=fun i=>tQ (t i):=by rw[et];rfl
  rw[e3] at r3;have r4:=qNE hn tb;have sb:=qAc tb n (qOe _);have r5:=q8g qAU sb (by omega) (by omega) (by omega);rw[show tQ 1=([49]:Bs) by decide] at r5;have r6:=qDG h hl (by omega) wb [] [] [] [];obtain⟨c,hc⟩:∃c,c=cen (n+1) (wts t n) (pV l):=⟨_,rfl⟩;rw[<-hc] at r6 hCB ⊢;obtain⟨z1,z2,z3⟩:=h.row0 (show 0<l.length by omega);have r7:(vN [.s (tQ c.x),.s (tQ c.y),.s (tQ c.z),.i (cI l 0 0),.i (cI l 0 1),.i (cI l 0 2)]).run=some (0,[.s (tQ (d2 c (pV l 0))),.i 0]):=qKa hCB z1 z2 z3;have e5:qg [[U.s (tQ (1-su n t))]]=1:=rfl;have e6:=qJ2 n t;rw[qfO];simp only[STD,w0,r0,r1,g3,r3,r4,r5,e5,e6,quD,r6,zf r6,r7,hL,show (1:Int)+n<=8796093022208 by omega,show (0:Int)<((n+1:Nat):Int) by omega];rw[if_neg (by decide),if_pos ⟨by decide,trivial⟩]
 ·right;have eg:(fun i k=>(gI2 l i k:Rat))=qyh (pV l):=by funext i k;exact qCN l i k
  refine⟨by rw[eg] at g1;exact qIC g1,?_⟩;rw[qfO];simp only[STD,hL,w0,r0,r1,g3]
theorem qzC{a:Rat}(h:okQ a):(q67 [.s (tQ a)]).run=some (0,[.i (sgn a.num),.i 0]):=by
 have e1:(q7u [.s (tQ a)]).run=some (0,[.s (tI a.num),.s (tI (a.den:Int)),.i 0]):=by rw[qvK];simp only[STD,q6T h,qiT h]
 rw[qwN];simp only[STD,e1,qzP (q8C h)]
theorem q6L{N D N' D':Nat}{a b:Rat}(ha:bnd N D a)(hb:bnd N' D' b)(h1:N+D'<=1023)(h2:N'+D<=1023) :(qP [.s (tQ a),.s (tQ b)]).run=some (0,[.i (sgn (a.num*(b.den:Int)-b.num*(a.den:Int))),.i 0]):=by
 have p1:=qwm a;have p2:=qwm b;have p3:=qwv a;have p4:=qwv b;have oa:okQ a:=⟨by have:=ha.1;have:=hb.2;omega,by have:=ha.2;have:=hb.1;omega⟩;have ob:okQ b:=⟨by have:=hb.1;have:=ha.2;omega,by have:=ha.1;have:=hb.2;omega⟩;have k1:okL (a.num*(b.den:Int)):=qaH ha.1 hb.2 (by omega);have k2:okL (b.num*(a.den:Int)):=qaH hb.1 ha.2 (by omega);have m1:=qhI (q8C oa) (q5J ob) k1;have m2:=qhI (q8C ob) (q5J oa) k2;have m1':(qo [.r [[.s (tI a.num)],[.s (tI (b.den:Int))]],.i 0]).run=some (0,[.s (tI (a.num*(b.den:Int))),.i 0]):=m1;have m2':(qo [.r [[.s (tI b.num)],[.s (tI (a.den:Int))]],.i 0]).run=some (0,[.s (tI (b.num*(a.den:Int))),.i 0]):=m2;have hch:=quA (l:=[tQ a,tQ b]) (by simp) (fun s hs=>by
  simp only[qOp,List.not_mem_nil,or_false] at hs;rcases hs with rfl|rfl
  ·exact q6T oa
  ·exact q6T ob)
 have hch':(qA [.r [[.s (tQ a)],[.s (tQ b)]]]).run=some (0,[.i 0]):=hch;rw[qrw];simp only[STD,hch',qiT oa,qiT ob,m1',m2',qj8 k1 k2]
theorem qG7{m:Int}:sgn m<0↔m<0:=by unfold sgn;split<;>(try split)<;>omega
theorem qGT{m:Int}:0<sgn m↔0<m:=by unfold sgn;split<;>(try split)<;>omega
theorem qMy{a:Rat}:a.num<0↔a<0:=by rw[<-Rat.not_le,<-Rat.num_nonneg];omega
theorem qFo{a b:Rat}:0<a.num*(b.den:Int)-b.num*(a.den:Int)↔b<a:=by rw[Rat.lt_iff];omega
theorem qcd{α:Type}{f:Nat->Option α}:∀{k i:Nat} {r:α},q80 f i k=some r->∃j,i<=j/\j<i+k/\f j=some r
 | 0,i,r,h=>by simp[q80] at h
 | k+1,i,r,h=>by
  simp only[q80] at h;cases hf:f i with
  | some a=>
   rw[hf] at h;exact⟨i,by omega,by omega,by rw[hf];exact h⟩
  | none=>
   rw[hf] at h;obtain⟨j,h1,h2,h3⟩:=qcd h;exact⟨j,by omega,by omega,h3⟩
theorem qIG{n:Nat}(hn:n<=1000){w:Nat->Rat}(hw:∀k,k<n->okQ (w k)) :∃b,(qN [.r (txR ((List.range n).map fun k=>tQ (w k)))]).run=some (0,[.b b])/\(b=true↔∃k,k<n/\w k<0):=by
 obtain⟨x,hx⟩:∃x,x=txR ((List.range n).map fun k=>tQ (w k)):=⟨_,rfl⟩;have lx:qg x=(n:Int):=by rw[hx,quD]
 have gx:∀k,k<n->cS x (k:Int) 0=tQ (w k):=fun k hk=>by rw[hx];exact qxz (fun k=>tQ (w k)) hk
 have one:∀k,k<n->(qR [.s (tQ (w k))]).run=some (0,[.b (decide (w k<0))]):=fun k hk=>by rw[qdq];simp only[STD,qzC (hw k hk)];rw[show ilt (sgn (w k).num) 0=decide (w k<0) from decide_eq_decide.2 (qG7.trans qMy)]
 have key:=q23 (S:=qv) (fun k=>[.r x,.i n,.i (k:Int)]) (fun k=>if w k<0 then some (1,[.i (k:Int)]) else none) (0,[]) n (by omega)
  (fun k hk hf=>by
   have h0:¬w k<0:=fun h=>by rw[if_pos h] at hf;cases hf
   rw[wA];simp only[STD,lx,gx k hk,one k hk,h0,jd hk (show n<9223372036854775808 by omega),show (k:Int)<n by omega,show (0:Int)<=k by omega,and_self])
  (fun k r hk hf=>by
   have h0:w k<0:=qOR fun h=>by rw[if_neg h] at hf;cases hf
   rw[if_pos h0] at hf;cases hf;rw[wA];simp only[STD,lx,gx k hk,one k hk,h0,show (k:Int)<n by omega,show (0:Int)<=k by omega,and_self])
  (by rw[wA];simp only[STD,show ¬(n:Int)<n by omega])
 rw[<-hx,q4b];cases hs:q80 (fun k=>if w k<0 then some (1,[PV.i (k:Int)]) else (none:Option (Nat×List PV))) 0 n with
 | none=>
  rw[hs] at key;have key':(qf qv [.r x,.i n,.i 0]).run=some (0,[]):=key;have r:(qJ [.r x]).run=some (0,[.i (-1)]):=by rw[uF];simp only[STD,lx,key',zf key']
  refine⟨false,by simp only[STD,r];rfl,⟨fun h=>(by cases h),fun⟨k,hk,h⟩=>?_⟩⟩;have:=qcG hs k (by omega) (by omega);simp only[if_pos h] at this;cases this
 | some r=>
  rw[hs] at key;obtain⟨k,h1,h2,h3⟩:=qcd hs;have h0:w k<0:=qOR fun h=>by simp only[if_neg h] at h3;cases h3
  simp only[if_pos h0] at h3;cases h3;have key':(qf qv [.r x,.i n,.i 0]).run=some (1,[.i (k:Int)]):=key;have r:(qJ [.r x]).run=some (0,[.i (k:Int)]):=by rw[uF];simp only[STD,lx,key',zf key',show ¬((1:Nat)=0) by decide]
  refine⟨true,?_,⟨fun _=>⟨k,by omega,h0⟩,fun _=>rfl⟩⟩;simp only[STD,r];rw[show ile 0 (k:Int)=true from by simp[ile]]
theorem qIf{n:Nat}(hn:n<=1000){w:Nat->Rat}(hw:∀k,k<n->okQ (w k))(s1 s2 s3 s4:Bs) :∃b,(j3 [.s s1,.s s2,.s s3,.s s4,.r (txR ((List.range n).map fun k=>tQ (w k)))]).run=some (0,[.b b])/\(b=true↔∀k,k<n->0<=w k):=by
 obtain⟨b,h1,h2⟩:=qIG hn hw;refine⟨!b,by rw[qgn];simp only[STD,h1],?_⟩;constructor
 ·intro h k hk;apply Rat.not_lt.1;intro hl;have:=h2.2 ⟨k,hk,hl⟩;rw[this] at h;cases h
 ·intro h;cases b with
  | false=>rfl
  | true=>
   obtain⟨k,hk,hl⟩:=h2.1 rfl;exact absurd (h k hk) (Rat.not_le.2 hl)
theorem qDC{l:R}(h:q3h l){c:V3}(hc:CB c){s:Rat}(hs:bnd 317 223 s)(wl:R) :∃b,(wQ [.s (tQ c.x),.s (tQ c.y),.s (tQ c.z),.s (tQ s),.r wl,.r l]).run=some (0,[.b b,.i 0])/\(b=true↔∀k,k<l.length->d2 c (pV l k)<=s):=by
 have hl:=h.1;have lx:qg l=(l.length:Int):=rfl;have aw:∀k,k<l.length->(vN [.s (tQ c.x),.s (tQ c.y),.s (tQ c.z),.i (cI l (k:Int) 0),.i (cI l (k:Int) 1),.i (cI l (k:Int) 2)]).run=some (0,[.s (tQ (d2 c (pV l k))),.i 0]):=fun k hk=>by obtain⟨h1,h2,h3⟩:=h.row hk;exact qKa hc h1 h2 h3
 have cp:∀k,k<l.length->(qP [.s (tQ (d2 c (pV l k))),.s (tQ s)]).run=some (0,[.i (sgn ((d2 c (pV l k)).num*(s.den:Int)-s.num*((d2 c (pV l k)).den:Int))),.i 0]):=fun k hk=>by obtain⟨h1,h2,h3⟩:=h.row hk;exact q6L (qCa hc h1 h2 h3) hs (by omega) (by omega)
 have key:=q23 (S:=qV) (fun k=>[.r l,.i l.length,.i (k:Int),.s (tQ c.x),.s (tQ c.y),.s (tQ c.z),.s (tQ s),.r wl]) (fun k=>if s<d2 c (pV l k) then some (1,[.b false,.i 0]) else none) (0,[]) l.length (by omega)
  (fun k hk hf=>by
   have h0:¬s<d2 c (pV l k):=fun h=>by rw[if_pos h] at hf;cases hf
   rw[u9];simp only[STD,lx,aw k hk,cp k hk,qGT,qFo,h0,jd hk (show l.length<9223372036854775808 by omega),show (k:Int)<l.length by omega,show (0:Int)<=k by omega,and_self])
  (fun k r hk hf=>by
   have h0:s<d2 c (pV l k):=qOR fun h=>by rw[if_neg h] at hf;cases hf
   rw[if_pos h0] at hf;cases hf;rw[u9];simp only[STD,lx,aw k hk,cp k hk,qGT,qFo,h0,show (k:Int)<l.length by omega,show (0:Int)<=k by omega,and_self])
  (by rw[u9];simp only[STD,show ¬(l.length:Int)<l.length by omega])
 rw[qdw];cases hs:q80 (fun k=>if s<d2 c (pV l k) then some (1,[PV.b false,.i 0]) else (none:Option (Nat×List PV))) 0 l.length with
 | none=>
  rw[hs] at key;have key':(qf qV [.r l,.i l.length,.i 0,.s (tQ c.x),.s (tQ c.y),.s (tQ c.z),.s (tQ s),.r wl]).run=some (0,[]):=key;refine⟨true,by simp only[STD,lx,key',zf key'],⟨fun _ k hk=>?_,fun _=>rfl⟩⟩;apply Rat.not_lt.1;intro h0;have:=qcG hs k (by omega) (by omega);simp only[if_pos h0] at this;cases this
 | some r=>
  rw[hs] at key;obtain⟨k,h1,h2,h3⟩:=qcd hs;have h0:s<d2 c (pV l k):=qOR fun h=>by simp only[if_neg h] at h3;cases h3
  simp only[if_pos h0] at h3;cases h3;have key':(qf qV [.r l,.i l.length,.i 0,.s (tQ c.x),.s (tQ c.y),.s (tQ c.z),.s (tQ s),.r wl]).run=some (1,[.b false,.i 0]):=key;refine⟨false,by simp only[STD,lx,key',zf key'];rfl,⟨fun h=>(by cases h),fun h=>?_⟩⟩;exact absurd (h k (by omega)) (Rat.not_le.2 h0)
variable {L:List Nat}{l:R}
def rN(L:List Nat):R:=rI (L.map fun k:Nat=>(k:Int))
def chR(l:R)(L:List Nat):R:=L.map fun k:Nat=>[.i (cI l (k:Int) 0),.i (cI l (k:Int) 1),.i (cI l (k:Int) 2)]
theorem qlL (L:List Nat):qg (rN L)=(L.length:Int):=by unfold rN;rw[qCy,qOm]
theorem qK2 {j k:Nat}(h:L[j]?=some k):cI (rN L) (j:Int) 0=(k:Int):=by unfold rN;rw[qGV,qOw,qOd,qOo,h];rfl
theorem qsN (l:R)(L:List Nat):(chR l L).length=L.length:=by unfold chR;rw[qOm]
theorem qI9 (hL:L.length<=1000)(h:∀k,k∈L->k<l.length):(q1S [.r l,.r (rN L)]).run=some (0,[.r (chR l L)]):=by
 have key:=qp (S:=jU) (fun j=>[.r l,.r (rN L),.i L.length,.i (j:Int),.r (chR l (L.take j))]) (0,[.r (chR l L)]) L.length (by omega) (fun j hj=>by
  obtain⟨k,hk⟩:∃k,L[j]?=some k:=⟨L[j],qOk hj⟩;have hkl:=h k (qPe hk);have e1:chR l (L.take (j+1))=yB (chR l (L.take j)) [[.i (cI l (k:Int) 0),.i (cI l (k:Int) 1),.i (cI l (k:Int) 2)]]:=by unfold chR yB;rw[List.take_add_one,hk,qOG];rfl
  have e2:qg (chR l (L.take j))=(j:Int):=by unfold qg;rw[qsN,qPi,qPk (by omega)]
  have e3:qg [[U.i (cI l (k:Int) 0),.i (cI l (k:Int) 1),.i (cI l (k:Int) 2)]]=1:=rfl;have e4:qg l=(l.length:Int):=rfl;rw[qcu];simp only[STD,qlL,qK2 hk,e1,e2,e3,e4,jd hj (show L.length<9223372036854775808 by omega),show (j:Int)<L.length by omega,show (0:Int)<=j by omega,show (0:Int)<=k by omega,show (k:Int)<l.length by omega,
   show (j:Int)+1<=5864062014805 by omega,and_self]) (by
  rw[qcu];simp only[STD,show ¬(L.length:Int)<L.length by omega,qPB])
 have key':(qf jU [.r l,.r (rN L),.i (L.length:Int),.i 0,.r []]).run=some (0,[.r (chR l L)]):=key;rw[qpV];simp only[STD,qlL,key']
theorem qEy {j k:Nat}(h:L[j]?=some k):cI (chR l L) (j:Int) 0=cI l (k:Int) 0/\cI (chR l L) (j:Int) 1=cI l (k:Int) 1/\cI (chR l L) (j:Int) 2=cI l (k:Int) 2:=by
 have e:(chR l L).getD ((j:Int).toNat) []=[.i (cI l (k:Int) 0),.i (cI l (k:Int) 1),.i (cI l (k:Int) 2)]:=by unfold chR;rw[qOw,qOd,qOo,h];rfl
 refine⟨?_,?_,?_⟩<;>(conv=>lhs;unfold cI zZ)<;>rw[e]<;>rfl
theorem qGP (hs:q3h l)(hL:L.length<=64)(h:∀k,k∈L->k<l.length):q3h (chR l L):=by refine⟨by rw[qsN];exact hL,fun j hj=>?_⟩;rw[qsN] at hj;obtain⟨k,hk⟩:∃k,L[j]?=some k:=⟨L[j],qOk hj⟩;obtain⟨e1,e2,e3⟩:=qEy (l:=l) hk;have:=hs.2 k (h k (qPe hk));unfold qKG at this ⊢;rw[e1,e2,e3];exact this
def Lf(l:R)(L:List Nat)(j:Nat):Nat:=L.getD j l.length
theorem qLP (l:R)(L:List Nat):pV (chR l L)=fun j=>pV l (Lf l L j):=by
 funext j;unfold pV Lf;cases h:L[j]? with
 | some k=>
  obtain⟨e1,e2,e3⟩:=qEy (l:=l) h;rw[e1,e2,e3,qOd,h];rfl
 | none=>
  have h1:=List.getElem?_eq_none_iff.1 h;have e:(chR l L).getD ((j:Int).toNat) []=[]:=by rw[qOw,qOd,qOA (by rw[qsN];exact h1)];rfl
  have e':l.getD (((l.length:Nat):Int).toNat) []=[]:=by rw[qOw,qOd,qOA (qOe _)];rfl
  rw[qOd,h];show V3.mk _ _ _=V3.mk _ _ _;unfold cI zZ;simp only[Option.getD_none];rw[e,e']
def qAb(p:Nat->V3)(m n:Nat)(L:Nat->Nat)(t:Nat->Rat):Prop:=Bl n (fun j=>p (L j)) t/\(∀j,j<n+1->0<=wts t n j)/\∀i,i<m->d2 (cen (n+1) (wts t n) fun j=>p (L j)) (p i)<=d2 (cen (n+1) (wts t n) fun j=>p (L j)) (p (L 0))
theorem qD6 {n:Nat}{c:Nat->V3}{t t':Nat->Rat}(h:Bl n c t)(h':Bl n c t'):∀j,j<n+1->wts t n j=wts t' n j:=fun j hj=>by
 unfold wts;have:=qKo h h';rw[ql this];by_cases e:j=0
 ·rw[if_pos e,if_pos e]
 ·rw[if_neg e,if_neg e];exact this (j-1) (by omega)
theorem qtu {n:Nat}{w w':Nat->Rat}{c:Nat->V3}(h:∀j,j<n->w j=w' j):cen n w c=cen n w' c:=by
 have e:∀f:Nat->Rat,su n (fun j=>w j*f j)=su n fun j=>w' j*f j:=fun f=>ql fun j hj=>by rw[h j hj]
 unfold cen;rw[e,e,e]
end Go.Eng

namespace Go.Eng
theorem qHA{l:R}(h:q3h l){c:V3}(hc:CB c){k:Nat}(hk:k<l.length):bnd 317 223 (d2 c (pV l k)):=by obtain⟨h1,h2,h3⟩:=h.row hk;exact qCa hc h1 h2 h3
theorem qHB{p:Nat->V3}{m n:Nat}{L:Nat->Nat}{t t':Nat->Rat}(h:qAb p m n L t)(h':Bl n (fun j=>p (L j)) t'):qAb p m n L t':=by
 have e:=qD6 h.1 h';have ec:=qtu (c:=fun j=>p (L j)) e;refine⟨h',fun j hj=>?_,fun i hi=>?_⟩
 ·rw[<-e j hj];exact h.2.1 j hj
 ·rw[<-ec];exact h.2.2 i hi
theorem qsW{l:R}(hs:q3h l){L:List Nat}{n:Nat}(hL:L.length=n+1)(hn:n<=3)(hlt:∀k,k∈L->k<l.length) :(∃t,qAb (pV l) l.length n (Lf l L) t/\(∀j,j<n+1->bnd 36 36 (wts t n j))/\CB (cen (n+1) (wts t n) fun j=>pV l (Lf l L j)) /\(zW [.r l,.r (rN L)]).run=some (0,[.s (tQ (cen (n+1) (wts t n) fun j=>pV l (Lf l L j)).x),.s (tQ (cen (n+1) (wts t n) fun j=>pV l (Lf l L j)).y),.s (tQ (cen (n+1) (wts t n) fun j=>pV l (Lf l L j)).z),.s (tQ (d2 (cen (n+1) (wts t n) fun j=>pV l (Lf l L j)) (pV l (Lf l L 0)))),.r (txR ((List.range (n+1)).map fun j=>tQ (wts t n j))),.b true,.i 0])) \/((∀t,¬qAb (pV l) l.length n (Lf l L) t)/\∃s1 s2 s3 s4 wl,(zW [.r l,.r (rN L)]).run=some (0,[.s s1,.s s2,.s s3,.s s4,.r wl,.b false,.i 0])):=by
 have ch:=qI9 (l:=l) (L:=L) (by omega) hlt;have sp:=qGP hs (show L.length<=64 by omega) hlt;have key:=qIj sp (n:=n) (by rw[qsN];exact hL) hn;rw[qLP] at key;rcases key with⟨t,h1,h2,h3,h4⟩|⟨h1,h4⟩
 ·obtain⟨c,hc⟩:∃c,c=cen (n+1) (wts t n) fun j=>pV l (Lf l L j):=⟨_,rfl⟩;have l0:Lf l L 0<l.length:=by unfold Lf;rw[qOd,qOk (show 0<L.length by omega)];exact hlt _ (qOZ _)
  rw[<-hc] at h3 h4;have fb:=qHA hs h3 l0;obtain⟨b1,i1,i2⟩:=qIf (show n+1<=1000 by omega) (w:=wts t n) (fun k hk=>(h2 k hk).ok (by omega) (by omega)) (tQ c.x) (tQ c.y) (tQ c.z) (tQ (d2 c (pV l (Lf l L 0))));obtain⟨b2,j1,j2⟩:=qDC hs h3 fb (txR ((List.range (n+1)).map fun j=>tQ (wts t n j)));have nope:(b1=false\/b2=false)->∀t',¬qAb (pV l) l.length n (Lf l L) t':=fun hb t' ht'=>by
   have hh:=qHB ht' h1;unfold qAb at hh;rw[<-hc] at hh;rcases hb with e|e
   ·rw[i2.2 hh.2.1] at e;cases e
   ·rw[j2.2 hh.2.2] at e;cases e
  rw[qaU];cases b1 with
  | false=>
   right;refine⟨nope (Or.inl rfl),[],[],[],[],[],?_⟩;simp only[STD,ch,h4,i1]
  | true=>
   cases b2 with
   | false=>
    right;refine⟨nope (Or.inr rfl),tQ c.x,tQ c.y,tQ c.z,tQ (d2 c (pV l (Lf l L 0))),txR ((List.range (n+1)).map fun j=>tQ (wts t n j)),?_⟩;simp only[STD,ch,h4,i1,j1]
   | true=>
    left;refine⟨t,⟨h1,i2.1 rfl,?_⟩,h2,by rw[<-hc];exact h3,?_⟩
    ·rw[<-hc];exact j2.1 rfl
    ·rw[<-hc];simp only[STD,ch,h4,i1,j1]
 ·right;refine⟨fun t ht=>h1 ht.1.ind,[],[],[],[],[],?_⟩;rw[qaU];simp only[STD,ch,h4]
structure NxOk (P:Nat->Nat->Rat) (n C c:Nat):Prop where
 cell:∀i j,i<n->j<C->sm 100000 (P i j)
 quo:∀j,j<C->sm 100000 (P c j/P c c)
 prod:∀i j,i<n->j<C->sm 100000 (P i c*(P c j/P c c))
variable {l:R}
theorem qxx {m:Nat}{p:Nat->V3}{n:Nat}{L:Nat->Nat}{t:Nat->Rat}(h:qAb p m n L t)(lt:∀j,j<n+1->L j<m)(asc:Asc (n+1) L) :Sup m p (n+1) L (wts t n) (d2 (cen (n+1) (wts t n) fun j=>p (L j)) (p (L 0))):=qIx h.1 lt asc h.2.1 h.2.2
theorem qIV {m:Nat}{p:Nat->V3}{n:Nat}{L:Nat->Nat}{u:Nat->Rat}{s:Rat}(h:Sup m p (n+1) L u s):qAb p m n L (fun j=>u (j+1)):=by
 obtain⟨b,e⟩:=qIk h;have ec:=qtu (c:=fun j=>p (L j)) e;refine⟨b,fun j hj=>?_,fun i hi=>?_⟩
 ·rw[<-e j hj];exact h.nn j hj
 ·rw[<-ec,h.eq 0 (by omega)];exact h.all i hi
noncomputable def q7Y(l:R)(L:List Nat):Bool:=@decide (∃t,qAb (pV l) l.length (L.length-1) (Lf l L) t) (Classical.propDecidable _)
theorem qpM {L:List Nat}:q7Y l L=true↔∃t,qAb (pV l) l.length (L.length-1) (Lf l L) t:=by unfold q7Y;exact @decide_eq_true_iff _ (Classical.propDecidable _)
theorem quB {L:List Nat}:q7Y l L=false↔∀t,¬qAb (pV l) l.length (L.length-1) (Lf l L) t:=by unfold q7Y;rw[@decide_eq_false_iff_not _ (Classical.propDecidable _)];exact⟨fun h t ht=>h ⟨t,ht⟩,fun h ⟨t,ht⟩=>h t ht⟩
def Mst(l:R)(m:Nat):Prop:=m=4\/m=3/\∀k,k<l.length->(pV l k).z=0
theorem qDK (hl:0<l.length){m:Nat}(hm:Mst l m):∃L n,qka (q7Y l) l.length 1 m=some L/\L.length=n+1/\n<m/\n<=3/\(∀a,a∈L->a<l.length)/\L.Pairwise (·<·)/\∃t,qAb (pV l) l.length n (Lf l L) t:=by
 cases e:qka (q7Y l) l.length 1 m with
 | some L=>
  obtain⟨h1,j,h2,h3,h4⟩:=qtt e;obtain⟨q1,q2,q3⟩:=quL.1 h4;have hm4:m<=4:=by rcases hm with e|e<;>omega
  obtain⟨t,ht⟩:=qpM.1 h1;rw[q1] at ht;exact⟨L,j-1,rfl,by omega,by omega,by omega,q2,q3,t,ht⟩
 | none=>
  exfalso;obtain⟨L,u,s,h1,h2,h3,h4,h5,h6⟩:=qIL (pV l) hl l.length;have hm4:L.length<1+m:=by
   rcases hm with e|⟨e,hz⟩
   ·omega
   ·have:=h3 hz;omega
  have:=qto e L.length (by omega) hm4 L (quL.2 ⟨rfl,h4,h5⟩);obtain⟨n,hn⟩:∃n,L.length=n+1:=⟨L.length-1,by omega⟩;rw[hn] at h6;refine quB.1 this (fun j=>u (j+1)) ?_;rw[show L.length-1=n from by omega];exact qIV h6
end Go.Eng

namespace Go.Eng
variable {j:Nat}
def lsR(ls:List (List Nat)):R:=ls.map fun L=>[U.l (rN L)]
theorem qjN (ls:List (List Nat)):qg (lsR ls)=(ls.length:Int):=by unfold lsR qg;rw[qOm]
theorem qxB {ls:List (List Nat)}{L:List Nat}(h:ls[j]?=some L):cR (lsR ls) (j:Int) 0=rN L:=by
 have e:(lsR ls).getD ((j:Int).toNat) []=[U.l (rN L)]:=by unfold lsR;rw[qOw,qOd,qOo,h];rfl
 unfold cR zZ;rw[e];rfl
theorem qFF (ls:List (List Nat))(L:List Nat):yB (lsR ls) [[.l (rN L)]]=lsR (ls++[L]):=by unfold lsR yB;rw[qOG];rfl
theorem qKb (l:List Nat)(i:Nat):yB (rN l) [[.i (i:Int)]]=rN (l++[i]):=by unfold rN rI yB;rw[qOG,qOG];rfl
theorem qKQ {l:List Nat}(h:0<l.length):cI (rN l) ((l.length:Int)-1) 0+1=(nxL l:Int):=by
 rcases List.eq_nil_or_concat l with e|⟨l',b,e⟩
 ·subst e;cases h
 ·rw[List.concat_eq_append] at e;subst e;rw[qHR];have:(((l'++[b]).length:Nat):Int)-1=((l'.length:Nat):Int):=by rw[qOz];show ((l'.length+1:Nat):Int)-1=_;omega
  rw[this,qK2 (k:=b) (by rw[qOv (qOe _),qPq];rfl)];omega
def exT(l:List Nat)(j:Nat):List (List Nat):=(List.range' (nxL l) j).map fun i=>l++[i]
theorem qJw (l:List Nat):exT l 0=[]:=rfl
theorem qI7 (l:List Nat)(j:Nat):exT l (j+1)=exT l j++[l++[nxL l+j]]:=by unfold exT;rw[show List.range' (nxL l) (j+1)=List.range' (nxL l) j++[nxL l+j] from by rw[List.range'_concat,qPX],qOG];rfl
theorem qLw (n:Nat)(l:List Nat):exT l (n-nxL l)=exL n l:=rfl
theorem qFc (l:List Nat)(j:Nat):(exT l j).length=j:=by unfold exT;rw[qOm,List.length_range']
theorem qEA {α β:Type}(f:α->List β){ls:List α}{a:α}(h:ls[j]?=some a):(ls.take (j+1)).flatMap f=(ls.take j).flatMap f++f a:=by rw[List.take_add_one,h,List.flatMap_append];show _++[a].flatMap f=_;rw[List.flatMap_cons,List.flatMap_nil,qPf]
theorem qyy{α:Type}{P:List Nat->Bool}(g:List Nat->α)(f:List Nat->List (List Nat)):∀(ls pre:List (List Nat)),q80 (fun j=>((f ((pre++ls).getD j [])).find? P).map g) pre.length ls.length=((ls.flatMap f).find? P).map g
 | [],pre=>rfl
 | L::ls,pre=>by
  have e:(pre++L::ls).getD pre.length []=L:=by rw[qOd,qOv (qOe _),qPq];rfl
  have ih:=qyy (P:=P) g f ls (pre++[L]);rw[qOL,qOz] at ih;rw[qON];simp only[q80];rw[e,List.flatMap_cons,List.find?_append];cases h:(f L).find? P with
  | some a=>rfl
  | none=>exact ih
theorem qwo{α:Type}{P:List Nat->Bool}(g:List Nat->α)(n:Nat):∀(m k:Nat),q80 (fun j=>((lsN n (j+1)).find? P).map g) k m=(qka P n (k+1) m).map g
 | 0,k=>rfl
 | m+1,k=>by
  simp only[q80];rw[qka];cases h:(lsN n (k+1)).find? P with
  | some a=>rfl
  | none=>exact qwo g n m (k+1)
theorem qHf{α:Type}{P:List Nat->Bool}(g:List Nat->α)(L:List Nat):∀(m k:Nat),q80 (fun j=>if P (L++[nxL L+j])=true then some (g (L++[nxL L+j])) else none) k m=(((List.range' (nxL L+k) m).map fun i=>L++[i]).find? P).map g
 | 0,k=>rfl
 | m+1,k=>by
  have ih:=qHf (P:=P) g L m (k+1);rw[List.range'_succ,qPa,List.find?_cons];simp only[q80];cases h:P (L++[nxL L+k]) with
  | true=>rw[if_pos rfl];rfl
  | false=>rw[if_neg (by decide)];exact ih
theorem qF9 {ls:List (List Nat)}(hj:j<ls.length):ls[j]?=some (ls.getD j []):=by rw[qOd,qOk hj];rfl
end Go.Eng

namespace Go.Eng
theorem qHa{l:List Nat}(h:0<l.length)(hl:l.length<=64)(hx:nxL l<=64):qu .i64 (cI (rN l) (yC .i64 (l.length:Int) 1) 0) 1=(nxL l:Int):=by have e:=qKQ h;have e1:yC .i64 (l.length:Int) 1=(l.length:Int)-1:=zP ⟨by omega,by omega⟩;rw[e1,zt ⟨by omega,by omega⟩];exact e
theorem qEQ{n k:Nat}(hn:n<=64)(hk:k<=3):(lsN n k).length<=10000000:=by refine qOh (qFH n k) (qOh (Nat.pow_le_pow_left hn k) (qOh (qQa (by decide) hk) (by decide)))
variable {L:List Nat}{l:R}
noncomputable def tO(l:R)(L:List Nat):Nat->Rat:=Classical.epsilon fun t=>qAb (pV l) l.length (L.length-1) (Lf l L) t
noncomputable def cO(l:R)(L:List Nat):V3:=cen (L.length-1+1) (wts (tO l L) (L.length-1)) fun j=>pV l (Lf l L j)
noncomputable def sO(l:R)(L:List Nat):Rat:=d2 (cO l L) (pV l (Lf l L 0))
noncomputable def wO(l:R)(L:List Nat):R:=txR ((List.range (L.length-1+1)).map fun j=>tQ (wts (tO l L) (L.length-1) j))
theorem qHq (h:q7Y l L=true):qAb (pV l) l.length (L.length-1) (Lf l L) (tO l L):=Classical.epsilon_spec (qpM.1 h)
theorem qzu (hs:q3h l){n:Nat}(hL:L.length=n+1)(hn:n<=3)(hlt:∀k,k∈L->k<l.length)(h:q7Y l L=true) :CB (cO l L)/\(zW [.r l,.r (rN L)]).run=some (0,[.s (tQ (cO l L).x),.s (tQ (cO l L).y),.s (tQ (cO l L).z),.s (tQ (sO l L)),.r (wO l L),.b true,.i 0]):=by
 have eL:L.length-1=n:=by omega
 have sp:=qHq h;unfold sO wO;unfold cO;rw[eL] at sp ⊢;rcases qsW hs hL hn hlt with⟨t,h1,h2,h3,h4⟩|⟨h1,_⟩
 ·have e:=qD6 h1.1 sp.1;have ec:=qtu (c:=fun j=>pV l (Lf l L j)) e;have el:((List.range (n+1)).map fun j=>tQ (wts t n j))=(List.range (n+1)).map fun j=>tQ (wts (tO l L) n j):=qPl fun j hj=>by rw[e j (qOV.1 hj)]
  rw[ec,el] at h4;rw[ec] at h3;exact⟨h3,h4⟩
 ·exact absurd sp (h1 _)
theorem qJp (hs:q3h l){n:Nat}(hL:L.length=n+1)(hn:n<=3)(hlt:∀k,k∈L->k<l.length)(h:q7Y l L=false) :∃s1 s2 s3 s4 wl,(zW [.r l,.r (rN L)]).run=some (0,[.s s1,.s s2,.s s3,.s s4,.r wl,.b false,.i 0]):=by
 have eL:L.length-1=n:=by omega
 have hh:=quB.1 h;rw[eL] at hh;rcases qsW hs hL hn hlt with⟨t,h1,_⟩|⟨_,h4⟩
 ·exact absurd h1 (hh t)
 ·exact h4
noncomputable def lO(l:R)(n m:Int)(L:List Nat):Nat×List PV:=(1,[.r l,.s (tQ (cO l L).x),.s (tQ (cO l L).y),.s (tQ (cO l L).z),.s (tQ (sO l L)),.r (wO l L),.i 0,.i n,.i m,.r (rN L)])
theorem qNY (hs:q3h l)(hL:L.length<=3)(hlt:∀k,k∈L->k<l.length)(y2 y3 y4 y5 y13:Int)(y14:R)(acc:List (List Nat))(ha:acc.length<=1000000000) :(qf qE [.r (rN L),.i (nxL L:Int),.i y2,.i y3,.i y4,.i y5,.r l,.s [],.s [],.s [],.s [],.i 0,.i (l.length:Int),.i y13,.r y14,.r (lsR acc)]).run = some ((((exL l.length L).find? (q7Y l)).map (lO l l.length y13)).getD (0,[.i y2,.i y3,.i y4,.i y5,.r l,.s [],.s [],.s [],.s [],.i 0,.i (l.length:Int),.i y13,.r y14,.r (lsR (acc++exL l.length L))])):=by
 have hn:=hs.1;have key:=q23 (S:=qE) (fun j=>[.r (rN L),.i ((nxL L+j:Nat):Int),.i y2,.i y3,.i y4,.i y5,.r l,.s [],.s [],.s [],.s [],.i 0,.i (l.length:Int),.i y13,.r y14,.r (lsR (acc++exT L j))])
  (fun j=>if q7Y l (L++[nxL L+j])=true then some (lO l l.length y13 (L++[nxL L+j])) else none)
  (0,[.i y2,.i y3,.i y4,.i y5,.r l,.s [],.s [],.s [],.s [],.i 0,.i (l.length:Int),.i y13,.r y14,.r (lsR (acc++exL l.length L))]) (l.length-nxL L) (by omega) (fun j hj hf=>by
  have e:q7Y l (L++[nxL L+j])=false:=by
   cases h:q7Y l (L++[nxL L+j]) with
   | true=>rw[if_pos h] at hf;cases hf
   | false=>rfl
  have lj:(L++[nxL L+j]).length=L.length+1:=by rw[qOz];rfl
  have ltj:∀k,k∈L++[nxL L+j]->k<l.length:=fun k hk=>by
   rcases qOB.1 hk with q|q
   ·exact hlt k q
   ·rw[qOF.1 q];omega
  obtain⟨s1,s2,s3,s4,wl,r1⟩:=qJp hs lj hL ltj e;have w:qu .i64 ((nxL L+j:Nat):Int) 1=((nxL L+j+1:Nat):Int):=jd (show nxL L+j<64 by omega) (by omega);have e2:∀x:U,qg [[x]]=1:=fun _=>rfl;have e3:(acc++exT L j).length=acc.length+j:=by rw[qOz,qFc]
  have cl:(wH [.r (rN L)]).run=some (0,[.r (rN L)]):=by rw[q7B];simp only[STD,qlL,show (L.length:Int)<=17592186044416 by omega]
  rw[q1L];simp only[STD,cl,e2,qKb,qlL,qjN,qFF,e3,w,r1,show ((nxL L+j:Nat):Int)<l.length by omega,show (L.length:Int)+1<=17592186044416 by omega,
   show ((acc.length+j:Nat):Int)+1<=5864062014805 by omega,qI7,qOL,qPG]) (fun j r hj hf=>by
  have e:q7Y l (L++[nxL L+j])=true:=by
   cases h:q7Y l (L++[nxL L+j]) with
   | false=>rw[if_neg (by rw[h];decide)] at hf;cases hf
   | true=>rfl
  rw[if_pos e] at hf;cases hf;have lj:(L++[nxL L+j]).length=L.length+1:=by rw[qOz];rfl
  have ltj:∀k,k∈L++[nxL L+j]->k<l.length:=fun k hk=>by
   rcases qOB.1 hk with q|q
   ·exact hlt k q
   ·rw[qOF.1 q];omega
  obtain⟨_,r1⟩:=qzu hs lj hL ltj e;have e2:∀x:U,qg [[x]]=1:=fun _=>rfl;have e3:(acc++exT L j).length=acc.length+j:=by rw[qOz,qFc]
  have cl:(wH [.r (rN L)]).run=some (0,[.r (rN L)]):=by rw[q7B];simp only[STD,qlL,show (L.length:Int)<=17592186044416 by omega]
  rw[q1L];unfold lO;simp only[STD,cl,e2,qKb,qlL,qjN,qFF,e3,r1,show ((nxL L+j:Nat):Int)<l.length by omega,show (L.length:Int)+1<=17592186044416 by omega,
   show ((acc.length+j:Nat):Int)+1<=5864062014805 by omega]) (by
  rw[q1L];simp only[STD,show ¬((nxL L+(l.length-nxL L):Nat):Int)<l.length by omega,qLw])
 have e:=qHf (P:=q7Y l) (lO l l.length y13) L (l.length-nxL L) 0;rw[e] at key;have key':(qf qE [.r (rN L),.i ((nxL L+0:Nat):Int),.i y2,.i y3,.i y4,.i y5,.r l,.s [],.s [],.s [],.s [],.i 0,.i (l.length:Int),.i y13,.r y14,.r (lsR (acc++exT L 0))]).run=_:=key;rw[qJw,qPf,qP1] at key';exact key'
theorem qO0 (hs:q3h l){ls:List (List Nat)}{q:Nat}(hq:q<=3)(hls:ls.length<=10000000)(hm:∀L,L∈ls->L.length=q/\∀a,a∈L->a<l.length)(y0 y1 y11:Int) :(qf vr [.i y0,.i y1,.i (ls.length:Int),.i 0,.r l,.s [],.s [],.s [],.s [],.i 0,.i (l.length:Int),.i y11,.r (lsR ls),.r []]).run = some ((((ls.flatMap (exL l.length)).find? (q7Y l)).map (lO l l.length y11)).getD (0,[.i y0,.i y1,.r l,.s [],.s [],.s [],.s [],.i 0,.i (l.length:Int),.i y11,.r (lsR (ls.flatMap (exL l.length)))])):=by
 have hn:=hs.1;have step:∀j,j<ls.length->∃L,ls[j]?=some L/\ls.getD j []=L/\(qf qE [.r (rN L),.i (nxL L:Int),.i y0,.i y1,.i (ls.length:Int),.i (j:Int),.r l,.s [],.s [],.s [],.s [],.i 0,.i (l.length:Int),.i y11,.r (lsR ls),.r (lsR ((ls.take j).flatMap (exL l.length)))]).run =
   some ((((exL l.length L).find? (q7Y l)).map (lO l l.length y11)).getD (0,[.i y0,.i y1,.i (ls.length:Int),.i (j:Int),.r l,.s [],.s [],.s [],.s [],.i 0,.i (l.length:Int),.i y11,.r (lsR ls),.r (lsR ((ls.take (j+1)).flatMap (exL l.length)))])) /\
   L.length<=3/\nxL L<=64:=fun j hj=>by
  have hl:=qF9 hj;obtain⟨h1,h2⟩:=hm _ (qPe hl);have fl:((ls.take j).flatMap (exL l.length)).length<=1000000000:=by have:=qxJ (exL l.length) l.length (qGl l.length) (ls.take j);rw[qPi,qPk (by omega)] at this;have:j*l.length<=10000000*64:=qOS (by omega) hn;omega
  have r0:=qNY hs (L:=ls.getD j []) (by omega) h2 y0 y1 (ls.length:Int) (j:Int) y11 (lsR ls) _ fl;rw[<-qEA (exL l.length) hl] at r0;exact⟨_,hl,rfl,r0,by omega,qOh (qJX h2) hn⟩
 have key:=q23 (S:=vr) (fun j=>[.i y0,.i y1,.i (ls.length:Int),.i (j:Int),.r l,.s [],.s [],.s [],.s [],.i 0,.i (l.length:Int),.i y11,.r (lsR ls),.r (lsR ((ls.take j).flatMap (exL l.length)))])
  (fun j=>((exL l.length (ls.getD j [])).find? (q7Y l)).map (lO l l.length y11))
  (0,[.i y0,.i y1,.r l,.s [],.s [],.s [],.s [],.i 0,.i (l.length:Int),.i y11,.r (lsR (ls.flatMap (exL l.length)))]) ls.length (by omega) (fun j hj hf=>by
  obtain⟨L,hl,hg,r0,h3,h4⟩:=step j hj;rw[hg] at hf;rw[hf] at r0;simp only[Option.getD_none] at r0;have w:qu .i64 (j:Int) 1=((j+1:Nat):Int):=jd hj (by omega);rw[q2y];by_cases h0:0<L.length
  ·have w1:yC .i64 (L.length:Int) 1=(L.length:Int)-1:=zP ⟨by omega,by omega⟩;have e:=qHa h0 (by omega) h4;rw[w1] at e;simp only[STD,qjN,qxB hl,qlL,w1,e,r0,zf r0,w,show (j:Int)<ls.length by omega,show (0:Int)<=j by omega,show (0:Int)<L.length by omega,show (0:Int)<=(L.length:Int)-1 by omega,show (L.length:Int)-1<L.length by omega,and_self]
  ·have e:L=[]:=qPO (by omega);subst e;have r1:(qf qE [.r (rN []),.i 0,.i y0,.i y1,.i (ls.length:Int),.i (j:Int),.r l,.s [],.s [],.s [],.s [],.i 0,.i (l.length:Int),.i y11,.r (lsR ls),.r (lsR ((ls.take j).flatMap (exL l.length)))]).run=_:=r0;simp only[STD,qjN,qxB hl,qlL,r1,zf r1,w,show (j:Int)<ls.length by omega,show (0:Int)<=j by omega,show ¬(0:Int)<(([]:List Nat).length:Int) from by decide,and_self]) (fun j r hj hf=>by
  obtain⟨L,hl,hg,r0,h3,h4⟩:=step j hj;rw[hg] at hf;rw[hf] at r0;simp only[qOT] at r0;obtain⟨L2,hL2,e2⟩:=qPR.1 hf;subst e2;unfold lO at r0 ⊢;rw[q2y];by_cases h0:0<L.length
  ·have w1:yC .i64 (L.length:Int) 1=(L.length:Int)-1:=zP ⟨by omega,by omega⟩;have e:=qHa h0 (by omega) h4;rw[w1] at e;simp only[STD,qjN,qxB hl,qlL,w1,e,r0,zf r0,show (j:Int)<ls.length by omega,show (0:Int)<=j by omega,show (0:Int)<L.length by omega,show (0:Int)<=(L.length:Int)-1 by omega,show (L.length:Int)-1<L.length by omega,and_self];rw[if_neg (by decide)]
  ·have e:L=[]:=qPO (by omega);subst e;have r1:(qf qE [.r (rN []),.i 0,.i y0,.i y1,.i (ls.length:Int),.i (j:Int),.r l,.s [],.s [],.s [],.s [],.i 0,.i (l.length:Int),.i y11,.r (lsR ls),.r (lsR ((ls.take j).flatMap (exL l.length)))]).run=_:=r0;simp only[STD,qjN,qxB hl,qlL,r1,zf r1,show (j:Int)<ls.length by omega,show (0:Int)<=j by omega,show ¬(0:Int)<(([]:List Nat).length:Int) from by decide,and_self];rw[if_neg (by decide)]) (by
  rw[q2y];simp only[STD,show ¬(ls.length:Int)<ls.length by omega,qPB])
 have e:=qyy (P:=q7Y l) (lO l l.length y11) (exL l.length) ls [];simp only[qPY,qPb] at e;rw[e] at key;exact key
theorem qLb (hs:q3h l){m:Nat}(hm:m<=4)(h:qka (q7Y l) l.length 1 m=some L) :(q15 [.r l,.i (m:Int)]).run=some (0,[.s (tQ (cO l L).x),.s (tQ (cO l L).y),.s (tQ (cO l L).z),.s (tQ (sO l L)),.r (wO l L),.r (rN L),.i 0]):=by
 have hn:=hs.1;have hms:∀q,∀L,L∈lsN l.length q->L.length=q/\∀a,a∈L->a<l.length:=fun q L hL=>by obtain⟨h1,h2,_⟩:=quL.1 hL;exact⟨h1,h2⟩
 have key:=q23 (S:=vd) (fun q=>[.i (m:Int),.i (q:Int),.r l,.s [],.s [],.s [],.s [],.i 0,.i (l.length:Int),.i (m:Int),.r (lsR (lsN l.length q))])
  (fun q=>((lsN l.length (q+1)).find? (q7Y l)).map (lO l l.length m))
  (0,[.r l,.s [],.s [],.s [],.s [],.i 0,.i (l.length:Int),.i (m:Int)]) m (by omega) (fun q hq hf=>by
  have r0:=qO0 hs (q:=q) (by omega) (qEQ (k:=q) hn (by omega)) (hms q) (m:Int) (q:Int) (m:Int);have hf':((((lsN l.length q).flatMap (exL l.length)).find? (q7Y l)).map (lO l l.length m))=none:=hf;rw[hf'] at r0;simp only[Option.getD_none] at r0;have w:qu .i64 (q:Int) 1=((q+1:Nat):Int):=jd hq (by omega);rw[q2u];simp only[STD,qjN,r0,zf r0,w,show (q:Int)<m by omega];rfl) (fun q r hq hf=>by
  have r0:=qO0 hs (q:=q) (by omega) (qEQ (k:=q) hn (by omega)) (hms q) (m:Int) (q:Int) (m:Int);have hf':((((lsN l.length q).flatMap (exL l.length)).find? (q7Y l)).map (lO l l.length m))=some r:=hf;rw[hf'] at r0;simp only[qOT] at r0;obtain⟨L2,hL2,e2⟩:=qPR.1 hf';subst e2;unfold lO at r0 ⊢;rw[q2u];simp only[STD,qjN,r0,zf r0,show (q:Int)<m by omega];rw[if_neg (by decide)]) (by
  rw[q2u];simp only[STD,show ¬(m:Int)<m by omega])
 rw[qwo (P:=q7Y l) (lO l l.length m) l.length m 0,h] at key;have key':(qf vd [.i (m:Int),.i 0,.r l,.s [],.s [],.s [],.s [],.i 0,.i (l.length:Int),.i (m:Int),.r [[.l []]]]).run=some (lO l l.length m L):=key;unfold lO at key';have lx:qg l=(l.length:Int):=rfl;rw[qrJ];simp only[STD,lx,key',zf key'];rw[if_neg (by decide)]
end Go.Eng

namespace Go.Eng
variable {l:R}
def ptE(x y:Int):Int:=if -100000<=x/\x<=100000/\-100000<=y/\y<=100000 then 0 else 2
def ptA(l:R)(i:Nat):Int:=ptE (cI l i 0) (cI l i 1)
def qsl(l:R):Int:=if 64<qg l then 5 else jZ (ptA l) l.length
theorem qoq (x y:Int):ptE x y=0\/ptE x y=2:=by unfold ptE;split<;>simp
theorem qs8 {x y:Int}(h:ptE x y=0):-100000<=x/\x<=100000/\-100000<=y/\y<=100000:=by
 unfold ptE at h;split at h
 ·assumption
 ·omega
theorem qjv (x:Int):(qU [.i x]).run=some (0,[.b (decide (-100000<=x/\x<=100000))]):=by rw[qrK];simp only[STD];by_cases h:-100000<=x<;>simp[h,ile]
theorem qwy (x:Int):(ju [.i x]).run=some (0,[.b (decide (-100000<=x/\x<=100000))]):=by rw[qAv];simp only[STD];by_cases h:-100000<=x<;>simp[h,ile]
theorem qxs (x y:Int):(jB [.i x,.i y]).run=some (0,[.b (decide (ptE x y=0))]):=by rw[qvo];simp only[STD,qjv];unfold ptE;by_cases h:-100000<=x<;>by_cases h2:x<=100000<;>by_cases h3:-100000<=y<;>by_cases h4:y<=100000<;>simp[h,h2,h3,h4]
theorem kK (x y:Int):(vW [.i x,.i y]).run=some (0,[.b (decide (ptE x y=0))]):=by rw[qv1];simp only[STD,qwy];unfold ptE;by_cases h:-100000<=x<;>by_cases h2:x<=100000<;>by_cases h3:-100000<=y<;>by_cases h4:y<=100000<;>simp[h,h2,h3,h4]
theorem qrp (l:R)(hl:l.length<9223372036854775808):(qM [.r l]).run=some (0,[.i (jZ (ptA l) l.length)]):=by
 rw[qhw];have k:=qe7 (S:=zk) (fun i=>[.r l,.i (qg l),.i (i:Int)]) (ptA l) [] [] l.length hl (fun i hi=>by
  rw[q4G];simp only[STD,qib hi,q9A,qxs,and_self,jd hi hl];show (if ¬ptA l i=0 then _ else _)=_;have:=qoq (cI l i 0) (cI l i 1);by_cases he:ptA l i=0
  ·simp[he]
  ·have:ptA l i=2:=by unfold ptA at *;omega
   simp[this]) (by
  rw[q4G];simp only[STD,q7U])
 by_cases hf:jZ (ptA l) l.length=0
 ·rw[if_pos hf] at k;have k':(qf zk [.r l,.i (qg l),.i 0]).run=_:=k;simp only[STD,k',zf k',hf]
 ·rw[if_neg hf] at k;have k':(qf zk [.r l,.i (qg l),.i 0]).run=_:=k;simp only[STD,k',zf k',show ¬((1:Nat)=0) by decide]
theorem vH (l:R):(qI [.r l]).run=some (0,[.i (qsl l)]):=by
 rw[qt7];have e:(wo [.r l]).run=some (0,[.i (qsl l)]):=by
  rw[qbY];unfold qsl;by_cases h:64<qg l
  ·simp only[STD,h]
  ·simp only[STD,h,qrp l (by unfold qg at h;omega)]
 simp only[STD,e]
theorem j4 (l:R):(u5 [.r l]).run=some (0,[.i (qsl l)]):=by
 rw[quR];unfold qsl;by_cases h:64<qg l
 ·simp only[STD,h]
 ·have hl:l.length<9223372036854775808:=by unfold qg at h;omega
  have k:=qe7 (S:=uG) (fun i=>[.r l,.i (i:Int)]) (ptA l) [] [] l.length hl (fun i hi=>by
   rw[qhH];simp only[STD,qib hi,q9A,kK,and_self,jd hi hl];show (if ¬ptA l i=0 then _ else _)=_;have:=qoq (cI l i 0) (cI l i 1);by_cases he:ptA l i=0
   ·simp[he]
   ·have:ptA l i=2:=by unfold ptA at *;omega
    simp[this]) (by
   rw[qhH];simp only[STD,q7U])
  by_cases hf:jZ (ptA l) l.length=0
  ·rw[if_pos hf] at k;have k':(qf uG [.r l,.i 0]).run=_:=k;simp only[STD,k',zf k',hf,h]
  ·rw[if_neg hf] at k;have k':(qf uG [.r l,.i 0]).run=_:=k;simp only[STD,k',zf k',h,show ¬((1:Nat)=0) by decide]
def spE(x y z:Int):Int:=if -100000<=x/\x<=100000/\-100000<=y/\y<=100000/\-100000<=z/\z<=100000 then 0 else 2
def spA(l:R)(i:Nat):Int:=spE (cI l i 0) (cI l i 1) (cI l i 2)
def qHU(l:R):Int:=if 64<qg l then 5 else jZ (spA l) l.length
theorem q9h (x y z:Int):spE x y z=0\/spE x y z=2:=by unfold spE;split<;>simp
theorem qok {x y z:Int}(h:spE x y z=0):co x/\co y/\co z:=by
 unfold spE at h;split at h
 ·unfold co;omega
 ·omega
theorem qyj (x y z:Int):(yM [.i x,.i y,.i z]).run=some (0,[.b (decide (spE x y z=0))]):=by rw[quP];simp only[STD,qjv];unfold spE;by_cases h:-100000<=x<;>by_cases h2:x<=100000<;>by_cases h3:-100000<=y<;>by_cases h4:y<=100000<;>by_cases h5:-100000<=z<;>by_cases h6:z<=100000<;>simp[h,h2,h3,h4,h5,h6]
theorem q46 (x y z:Int):(zE [.i x,.i y,.i z]).run=some (0,[.b (decide (spE x y z=0))]):=by rw[qp5];simp only[STD,qwy];unfold spE;by_cases h:-100000<=x<;>by_cases h2:x<=100000<;>by_cases h3:-100000<=y<;>by_cases h4:y<=100000<;>by_cases h5:-100000<=z<;>by_cases h6:z<=100000<;>simp[h,h2,h3,h4,h5,h6]
theorem qoT (l:R)(hl:l.length<9223372036854775808):(zu [.r l]).run=some (0,[.i (jZ (spA l) l.length)]):=by
 rw[qiy];have k:=qe7 (S:=zx) (fun i=>[.r l,.i (qg l),.i (i:Int)]) (spA l) [] [] l.length hl (fun i hi=>by
  rw[q6i];simp only[STD,qib hi,q9A,qyj,and_self,jd hi hl];show (if ¬spA l i=0 then _ else _)=_;have:=q9h (cI l i 0) (cI l i 1) (cI l i 2);by_cases he:spA l i=0
  ·simp[he]
  ·have:spA l i=2:=by unfold spA at *;omega
   simp[this]) (by
  rw[q6i];simp only[STD,q7U])
 by_cases hf:jZ (spA l) l.length=0
 ·rw[if_pos hf] at k;have k':(qf zx [.r l,.i (qg l),.i 0]).run=_:=k;simp only[STD,k',zf k',hf]
 ·rw[if_neg hf] at k;have k':(qf zx [.r l,.i (qg l),.i 0]).run=_:=k;simp only[STD,k',zf k',show ¬((1:Nat)=0) by decide]
theorem q1P (l:R):(wY [.r l]).run=some (0,[.i (qHU l)]):=by
 rw[qlk];have e:(wM [.r l]).run=some (0,[.i (qHU l)]):=by
  rw[qdk];unfold qHU;by_cases h:64<qg l
  ·simp only[STD,h]
  ·simp only[STD,h,qoT l (by unfold qg at h;omega)]
 simp only[STD,e]
theorem qow (l:R):(jT [.r l]).run=some (0,[.i (qHU l)]):=by
 rw[qnb];unfold qHU;by_cases h:64<qg l
 ·simp only[STD,h]
 ·have hl:l.length<9223372036854775808:=by unfold qg at h;omega
  have k:=qe7 (S:=wB) (fun i=>[.r l,.i (i:Int)]) (spA l) [] [] l.length hl (fun i hi=>by
   rw[q9s];simp only[STD,qib hi,q9A,q46,and_self,jd hi hl];show (if ¬spA l i=0 then _ else _)=_;have:=q9h (cI l i 0) (cI l i 1) (cI l i 2);by_cases he:spA l i=0
   ·simp[he]
   ·have:spA l i=2:=by unfold spA at *;omega
    simp[this]) (by
   rw[q9s];simp only[STD,q7U])
  by_cases hf:jZ (spA l) l.length=0
  ·rw[if_pos hf] at k;have k':(qf wB [.r l,.i 0]).run=_:=k;simp only[STD,k',zf k',hf,h]
  ·rw[if_neg hf] at k;have k':(qf wB [.r l,.i 0]).run=_:=k;simp only[STD,k',zf k',h,show ¬((1:Nat)=0) by decide]
theorem qHy (h:qHU l=0):q3h l:=by
 unfold qHU at h;split at h
 ·omega
 ·rename_i h64;unfold qg at h64;exact⟨by omega,fun i hi=>qok (q5R h i hi)⟩
def qrM(l:R):Int:=if qsl l=0 then (if qg l=0 then 13 else 0) else qsl l
theorem qvB (x:Int):(q55 [.i x]).run=some (0,[.i (if x=0 then 13 else 0)]):=by rw[que];by_cases h:x=0<;>simp[STD,h]
theorem qvb (l:R):(q4O [.r l]).run=some (0,[.i (qrM l)]):=by
 rw[qt9];unfold qrM;by_cases h:qsl l=0
 ·by_cases h2:qg l=0<;>simp only[STD,vH,qvB,h,h2]
 ·simp only[STD,vH,h]
def raR(l:R):R:=(List.range l.length).map fun i:Nat=>[.i (cI l (i:Int) 0),.i (cI l (i:Int) 1),.i 0]
def raN(l:R)(n:Nat):R:=(List.range n).map fun i:Nat=>[.i (cI l (i:Int) 0),.i (cI l (i:Int) 1),.i 0]
theorem qKp (l:R)(n:Nat):qg (raN l n)=(n:Int):=by unfold raN qg;rw[qOm,qOM]
theorem qt4 (l:R):(raR l).length=l.length:=by unfold raR;rw[qOm,qOM]
theorem qJv (l:R)(n:Nat):raN l (n+1)=yB (raN l n) [[.i (cI l (n:Int) 0),.i (cI l (n:Int) 1),.i 0]]:=by unfold raN yB;rw[qP6,qOG];rfl
theorem qBE {i:Nat}(h:i<l.length):cI (raR l) (i:Int) 0=cI l (i:Int) 0/\cI (raR l) (i:Int) 1=cI l (i:Int) 1/\cI (raR l) (i:Int) 2=0:=by
 have e:(raR l).getD ((i:Int).toNat) []=[.i (cI l (i:Int) 0),.i (cI l (i:Int) 1),.i 0]:=by unfold raR;rw[qOw,qOd,qOo,qOW h];rfl
 refine⟨?_,?_,?_⟩<;>(conv=>lhs;unfold cI zZ)<;>rw[e]<;>rfl
theorem qI5 (hl:l.length<=64):(q1Z [.r l]).run=some (0,[.r (raR l)]):=by
 have key:=qp (S:=yf) (fun i=>[.r l,.i (l.length:Int),.i (i:Int),.r (raN l i)]) (0,[.r (raR l)]) l.length (by omega) (fun i hi=>by
  have e3:qg [[U.i (cI l (i:Int) 0),.i (cI l (i:Int) 1),.i 0]]=1:=rfl;have e4:qg l=(l.length:Int):=rfl;rw[qcI];simp only[STD,qKp,qJv,e3,e4,jd hi (show l.length<9223372036854775808 by omega),show (i:Int)<l.length by omega,show (0:Int)<=i by omega,show (i:Int)+1<=5864062014805 by omega,and_self]) (by
  rw[qcI];simp only[STD,show ¬(l.length:Int)<l.length by omega];rfl)
 have key':(qf yf [.r l,.i (qg l),.i 0,.r []]).run=some (0,[.r (raR l)]):=key;rw[qq9];simp only[STD,key']
theorem qj9 (h:qsl l=0):l.length<=64/\∀i,i<l.length->co (cI l (i:Int) 0)/\co (cI l (i:Int) 1):=by
 unfold qsl at h;split at h
 ·omega
 ·rename_i h64;unfold qg at h64;refine⟨by omega,fun i hi=>?_⟩;obtain⟨h1,h2,h3,h4⟩:=qs8 (q5R h i hi);exact⟨⟨h1,h2⟩,⟨h3,h4⟩⟩
theorem qwG (h:qrM l=0):qsl l=0/\l.length<=64/\0<l.length/\q3h (raR l)/\Mst (raR l) 3:=by
 unfold qrM at h;split at h
 ·rename_i h1;split at h
  ·omega
  ·rename_i h2;unfold qg at h2;obtain⟨q1,q2⟩:=qj9 h1;refine⟨h1,q1,by omega,⟨by rw[qt4];exact q1,fun i hi=>?_⟩,.inr ⟨rfl,fun k hk=>?_⟩⟩
   ·rw[qt4] at hi;obtain⟨e1,e2,e3⟩:=qBE hi;obtain⟨k1,k2⟩:=q2 i hi;unfold qKG;rw[e1,e2,e3];exact⟨k1,k2,by unfold co;omega⟩
   ·rw[qt4] at hk;obtain⟨e1,e2,e3⟩:=qBE hk;show ((cI (raR l) (k:Int) 2:Int):Rat)=0;rw[e3];rfl
 ·rename_i h1;exact absurd h h1
end Go.Eng

namespace Go.Eng
variable {l:R}
structure LO (l:R) (m:Nat) (L:List Nat) (n:Nat):Prop where
 first:qka (q7Y l) l.length 1 m=some L
 len:L.length=n+1
 most:n<m
 three:n<=3
 lt:∀a,a∈L->a<l.length
 asc:L.Pairwise (·<·)
 supp:q7Y l L=true
 cb:CB (cO l L)
 sup:Sup l.length (pV l) (n+1) (Lf l L) (wts (tO l L) n) (sO l L)
 cen:cO l L=Go.Eng.cen (n+1) (wts (tO l L) n) fun j=>pV l (Lf l L j)
theorem qMg {L:List Nat}{n:Nat}(hL:L.length=n+1)(hlt:∀a,a∈L->a<l.length){j:Nat}(hj:j<n+1):Lf l L j<l.length:=by unfold Lf;rw[qOd,qOk (show j<L.length by omega)];exact hlt _ (qOZ _)
theorem qHY (hs:q3h l)(hl:0<l.length){m:Nat}(hm:Mst l m):∃L n,LO l m L n:=by
 obtain⟨L,n,h1,h2,h3,h4,h5,h6,t,ht⟩:=qDK hl hm;have eL:L.length-1=n:=by omega
 have sb:q7Y l L=true:=qpM.2 ⟨t,by rw[eL];exact ht⟩;have st:=qHq sb;rw[eL] at st;have ec:cO l L=cen (n+1) (wts (tO l L) n) fun j=>pV l (Lf l L j):=by unfold cO;rw[eL]
 have su:=qxx st (fun j hj=>qMg h2 h5 hj) (by have:=qIp h6 l.length;rw[h2] at this;exact this);rw[<-ec] at su;exact⟨L,n,h1,h2,h3,h4,h5,h6,sb,(qzu hs h2 h4 h5 sb).1,su,ec⟩
theorem qkI (h0:qrM l=0):∃L n,LO (raR l) 3 L n /\(kr [.r l]).run=some (0,[.s (tQ (cO (raR l) L).x),.s (tQ (cO (raR l) L).y),.s (tQ (sO (raR l) L)),.r (rN L),.i 0]):=by obtain⟨h1,h2,h3,h4,h5⟩:=qwG h0;obtain⟨L,n,lo⟩:=qHY h4 (by rw[qt4];exact h3) h5;have r1:(q15 [.r (raR l),.i 3]).run=_:=qLb h4 (m:=3) (by omega) lo.first;refine⟨L,n,lo,?_⟩;rw[qpF];simp only[STD,qvb,h0,qI5 h2,r1,qgA]
end Go.Eng

namespace Go.Eng
theorem qsF{y:R}(hy:y.length<9223372036854775808):(zI [.r y,.r y]).run=some (0,[.b true]):=by
 have key:=qp (S:=zQ) (fun i=>[.r y,.r y,.i (qg y),.i (i:Int)]) (0,[]) y.length hy (fun i hi=>by
  rw[q51];simp only[STD,qib hi,q9A,and_self,jd hi hy]) (by
  rw[q51];simp only[STD,q7U])
 have key':(qf zQ [.r y,.r y,.i (qg y),.i 0]).run=_:=key;rw[qhn];simp only[STD,key',zf key']
def shN(s:qOb):Prop:=(spn s).length<=30/\(spd s).length<=30
instance (s:qOb):Decidable (shN s):=by unfold shN;infer_instance
def E4:R:=[[.i 0,.i 0],[.i 6,.i 0],[.i 3,.i 1]]
theorem qFi:qrM E4=0:=by decide
theorem qK9{c:Nat->V3}{t:Nat->Rat}{a:Rat}(h1:qyh c 0 0=a)(ha:a≠0)(e1:a*t 0=d2 (c 0) (c 1)):Bl 1 c t:=by
 refine⟨qkJ.2 fun u hu=>?_,fun i hi=>?_⟩
 ·have q1:=hu 0 (by omega);simp only[su,h1] at q1;intro j hj;have:j=0:=by omega
  subst this;have z:a*u 0=0:=by grind
  rcases Rat.mul_eq_zero.1 z with h|h
  ·exact absurd h ha
  ·exact h
 ·have:i=0:=by omega
  subst this;simp only[su,h1];grind
def qO5(a b:Rat):Nat->Rat:=fun j=>if j=0 then a else b
def T2:Nat->Rat:=qO5 (17/50) (8/25)
theorem qIB:qAb (pV (raR E4)) (raR E4).length 1 (Lf (raR E4) [0,1]) (fun _=>1/2):=by
 refine⟨qK9 (a:=72) (by decide +kernel) (by decide +kernel) (by decide +kernel),?_,?_⟩
 ·decide +kernel
 ·decide +kernel
theorem qwp(l:R):∃b,(kp [.r l]).run=some (0,[.b b]):=by
 rw[qqv];by_cases h1:qg l<=6
 ·exact⟨true,by simp only[STD,h1]⟩
 ·by_cases h2:64<qg l
  ·exact⟨ilt (qg l) 128,by simp only[STD,h1,h2]⟩
  ·exact⟨false,by simp only[STD,h1,h2]⟩
def qIm(a b:Rat):Int:=sgn (a.num*(b.den:Int)-b.num*(a.den:Int))
theorem qLg{a b:Rat}:0<qIm a b↔b<a:=by unfold qIm;rw[qGT,qFo]
theorem qHo{a b:Rat}:qIm a b<0↔a<b:=by unfold qIm;rw[qG7,Rat.lt_iff];omega
theorem qMB{l:R}(hs:q3h l){m:Nat}{L:List Nat}{n:Nat}(h:LO l m L n):bnd 317 223 (sO l L):=qHA hs h.cb (qMg h.len h.lt (by omega))
theorem qMx{x y:Int}(hx:-200000<=x/\x<=200000)(hy:-200000<=y/\y<=200000):-40000000000<=x*y/\x*y<=40000000000:=by
 have h1:(x*y).natAbs<=200000*200000:=by rw[qPt];exact qOS (by omega) (by omega)
 omega
theorem qJZ(x:Int):0<=x*x:=by
 rcases Int.le_total 0 x with h|h
 ·exact qOY h h
 ·exact Int.mul_nonneg_of_nonpos_of_nonpos h h
theorem qNQ{l:R}{i:Nat}(hi:i<l.length)(x y:Int):d2 ⟨(x:Rat),(y:Rat),0⟩ (pV (raR l) i)=(((x-cI l i 0)*(x-cI l i 0)+(y-cI l i 1)*(y-cI l i 1):Int):Rat):=by obtain⟨e1,e2,e3⟩:=qBE hi;unfold d2 pV;rw[e1,e2,e3];simp only[qPu,qQ3,qPE];have:((0:Int):Rat)=0:=rfl;rw[this];grind
theorem qDo{l:R}(h0:qrM l=0){L:List Nat}{n:Nat}(lo:LO (raR l) 3 L n):(kr [.r l]).run=some (0,[.s (tQ (cO (raR l) L).x),.s (tQ (cO (raR l) L).y),.s (tQ (sO (raR l) L)),.r (rN L),.i 0]):=by
 obtain⟨L',n',lo',h⟩:=qkI h0;have e:L'=L:=by have:=lo'.first;rw[lo.first] at this;exact(qOO this).symm
 rw[e] at h;exact h
theorem qCw{d:Int}(h:¬d<0)(h2:¬100000<d):0<=d*d/\d*d<=10000000000:=by
 refine⟨qJZ d,?_⟩;have h1:(d*d).natAbs<=100000*100000:=by rw[qPt];exact qOS (by omega) (by omega)
 omega
theorem qCL:bnd 1 1 (4:Rat):=⟨by decide,by decide⟩
theorem qLC:tQ 4=[52]:=by decide +kernel
noncomputable def pinB(l:R)(L:List Nat)(d:Int):Bool:=decide (4*sO (raR l) L<=((d*d:Int):Rat))
theorem qFQ{l:R}(h0:qrM l=0){L:List Nat}{n:Nat}(lo:LO (raR l) 3 L n){d:Int}(h1:¬d<0)(h2:¬100000<d) :(jS [.r l,.i d]).run=some (0,[.b (pinB l L d),.i 0]):=by
 obtain⟨g1,g2,g3,g4,g5⟩:=qwG h0;have r1:=qDo h0 lo;have sb:=qMB g4 lo;obtain⟨s1,s2⟩:=qCw h1 h2;have w:zw .i64 d d=d*d:=zV ⟨by omega,by omega⟩;have r2:=qdf qCL sb (by omega) (by omega);rw[qLC] at r2;have r3:=zj (m:=d*d) ⟨by omega,by omega⟩;have db:bnd 11 1 ((d*d:Int):Rat):=qtd (qLJ (by omega) (by omega)) (by omega);have r4:=q6L (qCL.mul sb) db (by omega) (by omega);change (qP _).run=some (0,[.i (qIm _ _),.i 0]) at r4;have e1:ile (qIm (4*sO (raR l) L) ((d*d:Int):Rat)) 0=pinB l L d:=by
  unfold ile pinB;rw[decide_eq_decide];have:=qLg (a:=4*sO (raR l) L) (b:=((d*d:Int):Rat));constructor
  ·intro h;exact Rat.not_lt.1 fun hh=>by have:=this.2 hh;omega
  ·intro h;apply qOR;intro hh;exact absurd (this.1 (by omega)) (Rat.not_lt.2 h)
 rw[qAh];simp only[STD,r1,h1,h2,w,r2,r3,r4,e1]
def dS(l:R)(i:Nat):Int:=(cI l i 3-cI l i 0)*(cI l i 3-cI l i 0)+(cI l i 4-cI l i 1)*(cI l i 4-cI l i 1)+(cI l i 5-cI l i 2)*(cI l i 5-cI l i 2)
def prE(l:R)(i:Nat):Int:=if spE (cI l i 0) (cI l i 1) (cI l i 2)=0 then spE (cI l i 3) (cI l i 4) (cI l i 5) else spE (cI l i 0) (cI l i 1) (cI l i 2)
theorem qCA(e:Nat->Int):jZ e 2=if e 0=0 then e 1 else e 0:=by
 unfold jZ q80 q80 q80 q8D;by_cases h0:e 0=0
 ·by_cases h1:e 1=0<;>simp[h0,h1]
 ·simp[h0]
theorem qql{x:Int}(h:-200000<=x/\x<=200000):0<=x*x/\x*x<=40000000000:=⟨qJZ x,(qMx h h).2⟩
theorem qoG(a b c d e f:Int):(ja [.i a,.i b,.i c,.i d,.i e,.i f]).run = if (if spE a b c=0 then spE d e f else spE a b c)=0 then some (0,[.i ((d-a)*(d-a)+(e-b)*(e-b)+(f-c)*(f-c)),.i 0]) else some (0,[.i 0,.i 2]):=by
 have r:=qoT [[.i a,.i b,.i c],[.i d,.i e,.i f]] (by simp);have e2:jZ (spA [[.i a,.i b,.i c],[.i d,.i e,.i f]]) 2=if spE a b c=0 then spE d e f else spE a b c:=qCA _
 have r':(zu [.r [[.i a,.i b,.i c],[.i d,.i e,.i f]]]).run=some (0,[.i (if spE a b c=0 then spE d e f else spE a b c)]):=by rw[<-e2];exact r
 rw[qj4];by_cases h1:spE a b c=0
 ·by_cases h2:spE d e f=0
  ·obtain⟨⟨a1,a2⟩,⟨b1,b2⟩,c1,c2⟩:=qok h1;obtain⟨⟨d1,d2⟩,⟨e1,e2⟩,f1,f2⟩:=qok h2;have w1:yC .i64 d a=d-a:=zP ⟨by omega,by omega⟩;have w2:yC .i64 e b=e-b:=zP ⟨by omega,by omega⟩;have w3:yC .i64 f c=f-c:=zP ⟨by omega,by omega⟩;have m1:=qql (x:=d-a) ⟨by omega,by omega⟩;have m2:=qql (x:=e-b) ⟨by omega,by omega⟩;have m3:=qql (x:=f-c) ⟨by omega,by omega⟩;have p1:zw .i64 (d-a) (d-a)=(d-a)*(d-a):=zV ⟨by omega,by omega⟩;have p2:zw .i64 (e-b) (e-b)=(e-b)*(e-b):=zV ⟨by omega,by omega⟩;have p3:zw .i64 (f-c) (f-c)=(f-c)*(f-c):=zV ⟨by omega,by omega⟩;have s1:qu .i64 ((d-a)*(d-a)) ((e-b)*(e-b))=(d-a)*(d-a)+(e-b)*(e-b):=zt ⟨by omega,by omega⟩;have s2:qu .i64 ((d-a)*(d-a)+(e-b)*(e-b)) ((f-c)*(f-c))=(d-a)*(d-a)+(e-b)*(e-b)+(f-c)*(f-c):=zt ⟨by omega,by omega⟩;simp only[STD,r',h1,h2,qsA,qon,w1,w2,w3,p1,p2,p3,s1,s2]
  ·have h3:spE d e f=2:=(q9h d e f).resolve_left h2;simp only[STD,r',h1,h3,show ¬(2:Int)=0 by decide]
 ·have h3:spE a b c=2:=(q9h a b c).resolve_left h1;simp only[STD,r',h3,show ¬(2:Int)=0 by decide]
theorem qDu{a b c d e f:Int}(h1:spE a b c=0)(h2:spE d e f=0):(kv [.i a,.i b,.i c,.i d,.i e,.i f]).run=some (0,[.i ((d-a)*(d-a)+(e-b)*(e-b)+(f-c)*(f-c))]):=by
 obtain⟨⟨a1,a2⟩,⟨b1,b2⟩,c1,c2⟩:=qok h1;obtain⟨⟨d1,d2⟩,⟨e1,e2⟩,f1,f2⟩:=qok h2;have w1:yC .i64 a d=a-d:=zP ⟨by omega,by omega⟩;have w2:yC .i64 b e=b-e:=zP ⟨by omega,by omega⟩;have w3:yC .i64 c f=c-f:=zP ⟨by omega,by omega⟩;have n1:(a-d)*(a-d)=(d-a)*(d-a):=by rw[show a-d=-(d-a) by omega,qPn]
 have n2:(b-e)*(b-e)=(e-b)*(e-b):=by rw[show b-e=-(e-b) by omega,qPn]
 have n3:(c-f)*(c-f)=(f-c)*(f-c):=by rw[show c-f=-(f-c) by omega,qPn]
 have m1:=qql (x:=d-a) ⟨by omega,by omega⟩;have m2:=qql (x:=e-b) ⟨by omega,by omega⟩;have m3:=qql (x:=f-c) ⟨by omega,by omega⟩;have p1:zw .i64 (a-d) (a-d)=(d-a)*(d-a):=by rw[<-n1];exact zV ⟨by omega,by omega⟩
 have p2:zw .i64 (b-e) (b-e)=(e-b)*(e-b):=by rw[<-n2];exact zV ⟨by omega,by omega⟩
 have p3:zw .i64 (c-f) (c-f)=(f-c)*(f-c):=by rw[<-n3];exact zV ⟨by omega,by omega⟩
 have s1:qu .i64 ((d-a)*(d-a)) ((e-b)*(e-b))=(d-a)*(d-a)+(e-b)*(e-b):=zt ⟨by omega,by omega⟩;have s2:qu .i64 ((d-a)*(d-a)+(e-b)*(e-b)) ((f-c)*(f-c))=(d-a)*(d-a)+(e-b)*(e-b)+(f-c)*(f-c):=zt ⟨by omega,by omega⟩;rw[qq3];simp only[STD,qxA,qnu,w1,w2,w3,p1,p2,p3,s1,s2]
def paE(l:R):Int:=if 64<qg l then 5 else jZ (prE l) l.length
def sqR(l:R)(n:Nat):R:=(List.range n).map fun i:Nat=>[.i (dS l i)]
theorem qfm(l:R)(n:Nat):(sqR l n).length=n:=by unfold sqR;rw[qOm,qOM]
theorem qC7(l:R)(n:Nat):yB (sqR l n) [[.i (dS l n)]]=sqR l (n+1):=by unfold sqR yB;rw[qP6,qOG];rfl
theorem qu5(l:R)(i:Nat):prE l i=0\/prE l i=2:=by
 unfold prE;split
 ·exact q9h _ _ _
 ·exact q9h _ _ _
theorem qkT(l:R):(j5 [.r l]).run=some (0,[.r (if paE l=0 then sqR l l.length else []),.i (paE l)]):=by
 rw[quU];unfold paE;by_cases h:64<qg l
 ·simp only[STD,h,show ¬(5:Int)=0 by decide]
 ·have hl:l.length<=64:=by unfold qg at h;omega
  have key:=q23 (S:=q0F) (fun i=>[.r l,.i (l.length:Int),.i (i:Int),.r (sqR l i)]) (fun i=>(q8D (prE l) i).map fun x=>(1,[PV.i x])) (0,[.r (sqR l l.length)]) l.length (by omega) (fun i hi hf=>by
   have h0:prE l i=0:=by
    unfold q8D at hf;split at hf
    ·assumption
    ·cases hf
   have r:=qoG (cI l i 0) (cI l i 1) (cI l i 2) (cI l i 3) (cI l i 4) (cI l i 5);rw[if_pos (show (if spE (cI l i 0) (cI l i 1) (cI l i 2)=0 then spE (cI l i 3) (cI l i 4) (cI l i 5) else spE (cI l i 0) (cI l i 1) (cI l i 2))=0 from h0)] at r;have lr:qg (sqR l i)=(i:Int):=by unfold qg;rw[qfm]
   have e1:∀x:U,qg [[x]]=1:=fun _=>rfl;have es:=qC7 l i;unfold dS at es;rw[qah];simp only[STD,r,lr,e1,es,jd hi (show l.length<9223372036854775808 by omega),show (i:Int)<l.length by omega,show (0:Int)<=i by omega,show qg l=(l.length:Int) from rfl,show (i:Int)+1<=17592186044416 by omega,and_self]) (fun i r hi hf=>by
   have h0:prE l i≠0/\r=(1,[PV.i (prE l i)]):=by
    unfold q8D at hf;split at hf
    ·cases hf
    ·rename_i hh;cases hf;exact⟨hh,rfl⟩
   have h2:prE l i=2:=(qu5 l i).resolve_left h0.1;have rr:=qoG (cI l i 0) (cI l i 1) (cI l i 2) (cI l i 3) (cI l i 4) (cI l i 5);rw[if_neg (show ¬(if spE (cI l i 0) (cI l i 1) (cI l i 2)=0 then spE (cI l i 3) (cI l i 4) (cI l i 5) else spE (cI l i 0) (cI l i 1) (cI l i 2))=0 from h0.1)] at rr;rw[h0.2,h2,qah];simp only[STD,rr,show (i:Int)<l.length by omega,show (0:Int)<=i by omega,show qg l=(l.length:Int) from rfl,show ¬(2:Int)=0 by decide,and_self]) (by
   rw[qah];simp only[STD,show ¬(l.length:Int)<l.length by omega])
  have key':(qf q0F [.r l,.i (l.length:Int),.i 0,.r []]).run=_:=key;have lr:qg l=(l.length:Int):=rfl;by_cases hf:jZ (prE l) l.length=0
  ·have hs:q80 (fun i=>(q8D (prE l) i).map fun x=>((1:Nat),[PV.i x])) 0 l.length=none:=by rw[qgh (g:=fun _=>none) (fun j _ hj=>by unfold q8D;rw[if_pos (q5R hf j (by omega))];rfl),qsJ]
   rw[hs] at key';rw[lr] at h;simp only[STD,lr,h,key',zf key',hf,Option.getD_none]
  ·cases hs:q80 (fun i=>(q8D (prE l) i).map fun x=>((1:Nat),[PV.i x])) 0 l.length with
   | none=>
    exfalso;exact hf (qnZ fun i hi=>by
     have:=qcG hs i (by omega) (by omega);unfold q8D at this;split at this
     ·assumption
     ·cases this)
   | some v=>
    obtain⟨j,_,hj2,hj⟩:=qcd hs;have hv:prE l j≠0/\v=(1,[PV.i (prE l j)]):=by
     unfold q8D at hj;split at hj
     ·cases hj
     ·rename_i hh;cases hj;exact⟨hh,rfl⟩
    have h2:prE l j=2:=(qu5 l j).resolve_left hv.1;have hE:jZ (prE l) l.length=2:=by
     unfold jZ at hf ⊢;cases hs2:q80 (q8D (prE l)) 0 l.length with
     | none=>rw[hs2] at hf;exact absurd rfl hf
     | some x=>
      obtain⟨k,_,_,hk⟩:=qcd hs2;unfold q8D at hk;split at hk
      ·cases hk
      ·rename_i hh;cases hk;exact(qu5 l k).resolve_left hh
    rw[hs,hv.2,h2] at key';rw[lr] at h;simp only[STD,lr,h,key',zf key',hE,qOT,show ¬((1:Nat)=0) by decide,show ¬(2:Int)=0 by decide]
def qIN(lo hi:Int):Int:=if (-100000<=lo/\lo<=100000)/\(-100000<=hi/\hi<=100000) then (if hi<lo then 9 else 0) else 2
theorem qpl(x:Int):(wF [.i x]).run=some (0,[.b (decide (-100000<=x/\x<=100000))]):=by
 rw[qnn];by_cases h1:-100000<=x
 ·by_cases h2:x<=100000
  ·simp only[STD,h1,h2,and_self,decide_true];rw[show ile x 100000=true from by simp[ile,h2]]
  ·simp only[STD,h1,h2,and_false,decide_false];rw[show ile x 100000=false from by simp[ile];omega]
 ·simp only[STD,h1,false_and,decide_false]
theorem qea(lo hi:Int):(q0H [.i lo,.i hi]).run=some (0,[.i (qIN lo hi)]):=by
 rw[qnT];unfold qIN;by_cases h1:-100000<=lo/\lo<=100000
 ·by_cases h2:-100000<=hi/\hi<=100000
  ·by_cases h3:hi<lo
   ·simp only[STD,qpl,h1,h2,h3,and_self]
   ·simp only[STD,qpl,h1,h2,h3,and_self]
  ·simp only[STD,qpl,h1,h2,and_self,and_false]
 ·simp only[STD,qpl,h1,false_and]
theorem qgH(x:Int):(q64 [.i x]).run=some (0,[.b (decide (-100000<=x/\x<=100000))]):=by
 rw[qAC];by_cases h1:-100000<=x
 ·by_cases h2:x<=100000
  ·simp only[STD,h1,h2,and_self,decide_true];rw[show ile x 100000=true from by simp[ile,h2]]
  ·simp only[STD,h1,h2,and_false,decide_false];rw[show ile x 100000=false from by simp[ile];omega]
 ·simp only[STD,h1,false_and,decide_false]
theorem qlY(lo hi:Int):(q7s [.i lo,.i hi]).run=some (0,[.i (qIN lo hi)]):=by
 rw[qvv];unfold qIN;by_cases h1:-100000<=lo/\lo<=100000
 ·by_cases h2:-100000<=hi/\hi<=100000
  ·by_cases h3:hi<lo
   ·simp only[STD,qgH,h1,h2,h3,and_self]
   ·simp only[STD,qgH,h1,h2,h3,and_self]
  ·simp only[STD,qgH,h1,h2,and_self,and_false]
 ·simp only[STD,qgH,h1,false_and]
def lmE(lo hi:Int):Int:=if qIN lo hi=0 then (if lo<0 then 2 else 0) else qIN lo hi
theorem q2W(lo hi:Int):(q1z [.i lo,.i hi]).run=some (0,[.i (lmE lo hi)])/\(q19 [.i lo,.i hi]).run=some (0,[.i (lmE lo hi)]):=by
 unfold lmE;constructor
 ·rw[qvH];by_cases h:qIN lo hi=0
  ·by_cases h2:lo<0<;>simp only[STD,qea,h,h2]
  ·simp only[STD,qea,h]
 ·rw[qx8];by_cases h:qIN lo hi=0
  ·by_cases h2:lo<0<;>simp only[STD,qlY,h,h2]
  ·simp only[STD,qlY,h]
theorem qIy{lo hi:Int}(h:lmE lo hi=0):0<=lo/\lo<=hi/\hi<=100000:=by
 unfold lmE at h;split at h
 ·rename_i h1;unfold qIN at h1;split at h1
  ·split at h1
   ·omega
   ·split at h<;>omega
  ·omega
 ·omega
theorem qFp(l:R):(q3Z [.r l]).run=some (0,[.i (paE l)]):=by
 rw[quX];unfold paE;by_cases h:64<qg l
 ·simp only[STD,h]
 ·have hl:l.length<=64:=by unfold qg at h;omega
  have k:=qe7 (S:=uq) (fun i=>[.r l,.i (i:Int)]) (prE l) [] [] l.length (by omega) (fun i hi=>by
   have lr:qg l=(l.length:Int):=rfl;rw[qhT];by_cases h1:spE (cI l i 0) (cI l i 1) (cI l i 2)=0
   ·by_cases h2:spE (cI l i 3) (cI l i 4) (cI l i 5)=0
    ·have e:prE l i=0:=by unfold prE;rw[if_pos h1,h2]
     simp only[STD,q46,h1,h2,e,decide_true,lr,jd hi (show l.length<9223372036854775808 by omega),show (i:Int)<l.length by omega,show (0:Int)<=i by omega,and_self]
    ·have e:prE l i=2:=by unfold prE;rw[if_pos h1];exact(q9h _ _ _).resolve_left h2
     simp only[STD,q46,h1,h2,e,decide_true,decide_false,lr,show (i:Int)<l.length by omega,show (0:Int)<=i by omega,show ¬(2:Int)=0 by decide,and_self]
   ·have e:prE l i=2:=by unfold prE;rw[if_neg h1];exact(q9h _ _ _).resolve_left h1
    simp only[STD,q46,h1,e,decide_false,lr,show (i:Int)<l.length by omega,show (0:Int)<=i by omega,show ¬(2:Int)=0 by decide,and_self]) (by
   rw[qhT];simp only[STD,q7U])
  by_cases hf:jZ (prE l) l.length=0
  ·rw[if_pos hf] at k;have k':(qf uq [.r l,.i 0]).run=_:=k;simp only[STD,k',zf k',hf,h]
  ·rw[if_neg hf] at k;have k':(qf uq [.r l,.i 0]).run=_:=k;simp only[STD,k',zf k',h,show ¬((1:Nat)=0) by decide]
theorem qsi{l:R}(h:paE l=0):l.length<=64/\∀i,i<l.length->spE (cI l i 0) (cI l i 1) (cI l i 2)=0/\spE (cI l i 3) (cI l i 4) (cI l i 5)=0:=by
 unfold paE at h;split at h
 ·omega
 ·rename_i h64;unfold qg at h64;refine⟨by omega,fun i hi=>?_⟩;have:=q5R h i hi;unfold prE at this;split at this
  ·rename_i h1;exact⟨h1,this⟩
  ·rename_i h1;exact absurd this h1
theorem qcc(l:R):(wP [.r l]).run=some (0,[.r (if paE l=0 then sqR l l.length else []),.i (paE l)]):=by
 rw[qsy];by_cases h:paE l=0
 ·obtain⟨hl,hs⟩:=qsi h;have key:=qp (S:=kq) (fun i=>[.r l,.i (i:Int),.r (sqR l i)]) (0,[.r (sqR l l.length)]) l.length (by omega) (fun i hi=>by
   have r:=qDu (hs i hi).1 (hs i hi).2;have lr:qg (sqR l i)=(i:Int):=by unfold qg;rw[qfm]
   have e1:∀x:U,qg [[x]]=1:=fun _=>rfl;have es:=qC7 l i;unfold dS at es;rw[qgc];simp only[STD,r,lr,e1,es,jd hi (show l.length<9223372036854775808 by omega),show (i:Int)<l.length by omega,show (0:Int)<=i by omega,show qg l=(l.length:Int) from rfl,show (i:Int)+1<=17592186044416 by omega,and_self]) (by
   rw[qgc];simp only[STD,q7U])
  have key':(qf kq [.r l,.i 0,.r []]).run=_:=key;simp only[STD,qFp,h,key']
 ·simp only[STD,qFp,h]
def q5y(f:Nat->Int):Nat->Nat
 | 0=>0
 | i+1=>if f i<f (q5y f i) then i else q5y f i
def q3s(f:Nat->Int):Nat->Nat
 | 0=>0
 | i+1=>if f (q3s f i)<f i then i else q3s f i
theorem q4p(f:Nat->Int):∀{n:Nat},0<n->q5y f n<n
 | 0,h=>by omega
 | n+1,_=>by
  simp only[q5y];split
  ·omega
  ·cases n with
   | zero=>simp[q5y]
   | succ n=>have:=q4p f (n:=n+1) (by omega);omega
theorem q3l(f:Nat->Int):∀{n:Nat},0<n->q3s f n<n
 | 0,h=>by omega
 | n+1,_=>by
  simp only[q3s];split
  ·omega
  ·cases n with
   | zero=>simp[q3s]
   | succ n=>have:=q3l f (n:=n+1) (by omega);omega
theorem qKO(f:Nat->Int){i n:Nat}(h:i<n):q5y f i<n/\q3s f i<n:=by
 cases i with
 | zero=>simp only[q5y,q3s];omega
 | succ i=>exact⟨by have:=q4p f (n:=i+1) (by omega);omega,by have:=q3l f (n:=i+1) (by omega);omega⟩
theorem qDB{l:R}(h0:0<l.length)(h:l.length<=64):(uC [.r l]).run=some (0,[.i (q5y (fun i=>cI l i 0) l.length:Int),.i (q3s (fun i=>cI l i 0) l.length:Int)]):=by
 have key:=qp (S:=vk) (fun i=>[.r l,.r l,.i (l.length:Int),.i (i:Int),.i 0,.i 0,.i (q5y (fun i=>cI l i 0) i:Int),.i (q3s (fun i=>cI l i 0) i:Int)])
  (0,[.i 0,.i 0,.i (q5y (fun i=>cI l i 0) l.length:Int),.i (q3s (fun i=>cI l i 0) l.length:Int)]) l.length (by omega) (fun i hi=>by
  obtain⟨b1,b2⟩:=qKO (fun i=>cI l i 0) hi;have lr:qg l=(l.length:Int):=rfl;have w:=jd hi (show l.length<9223372036854775808 by omega);rw[q82];by_cases c1:cI l i 0<cI l (q5y (fun i=>cI l i 0) i) 0
  ·have e1:q5y (fun i=>cI l i 0) (i+1)=i:=by simp only[q5y];exact if_pos c1
   by_cases c2:cI l (q3s (fun i=>cI l i 0) i) 0<cI l i 0
   ·have e2:q3s (fun i=>cI l i 0) (i+1)=i:=by simp only[q3s];exact if_pos c2
    simp only[STD,q2V,lr,w,c1,c2,e1,e2,show (i:Int)<l.length by omega,show (0:Int)<=i by omega,show ((q5y (fun i=>cI l i 0) i:Nat):Int)<l.length by omega,show (0:Int)<=((q5y (fun i=>cI l i 0) i:Nat):Int) by omega,show ((q3s (fun i=>cI l i 0) i:Nat):Int)<l.length by omega,show (0:Int)<=((q3s (fun i=>cI l i 0) i:Nat):Int) by omega,and_self]
   ·have e2:q3s (fun i=>cI l i 0) (i+1)=q3s (fun i=>cI l i 0) i:=by simp only[q3s];exact if_neg c2
    simp only[STD,q2V,lr,w,c1,c2,e1,e2,show (i:Int)<l.length by omega,show (0:Int)<=i by omega,show ((q5y (fun i=>cI l i 0) i:Nat):Int)<l.length by omega,show (0:Int)<=((q5y (fun i=>cI l i 0) i:Nat):Int) by omega,show ((q3s (fun i=>cI l i 0) i:Nat):Int)<l.length by omega,show (0:Int)<=((q3s (fun i=>cI l i 0) i:Nat):Int) by omega,and_self]
  ·have e1:q5y (fun i=>cI l i 0) (i+1)=q5y (fun i=>cI l i 0) i:=by simp only[q5y];exact if_neg c1
   by_cases c2:cI l (q3s (fun i=>cI l i 0) i) 0<cI l i 0
   ·have e2:q3s (fun i=>cI l i 0) (i+1)=i:=by simp only[q3s];exact if_pos c2
    simp only[STD,q2V,lr,w,c1,c2,e1,e2,show (i:Int)<l.length by omega,show (0:Int)<=i by omega,show ((q5y (fun i=>cI l i 0) i:Nat):Int)<l.length by omega,show (0:Int)<=((q5y (fun i=>cI l i 0) i:Nat):Int) by omega,show ((q3s (fun i=>cI l i 0) i:Nat):Int)<l.length by omega,show (0:Int)<=((q3s (fun i=>cI l i 0) i:Nat):Int) by omega,and_self]
   ·have e2:q3s (fun i=>cI l i 0) (i+1)=q3s (fun i=>cI l i 0) i:=by simp only[q3s];exact if_neg c2
    simp only[STD,q2V,lr,w,c1,c2,e1,e2,show (i:Int)<l.length by omega,show (0:Int)<=i by omega,show ((q5y (fun i=>cI l i 0) i:Nat):Int)<l.length by omega,show (0:Int)<=((q5y (fun i=>cI l i 0) i:Nat):Int) by omega,show ((q3s (fun i=>cI l i 0) i:Nat):Int)<l.length by omega,show (0:Int)<=((q3s (fun i=>cI l i 0) i:Nat):Int) by omega,and_self]) (by
  rw[q82];simp only[STD,show ¬(l.length:Int)<l.length by omega])
 have key':(qf vk [.r l,.r l,.i (l.length:Int),.i 0,.i 0,.i 0,.i 0,.i 0]).run=_:=key;rw[qlb];simp only[STD,show qg l=(l.length:Int) from rfl,key']
theorem qMs{s:R}(h0:0<s.length)(h:s.length<=64):(qf js [.r s,.i 0,.i 0,.i 1]).run=some (0,[.i (q5y (fun i=>cI s i 0) s.length:Int),.i (q3s (fun i=>cI s i 0) s.length:Int)]):=by
 obtain⟨n,hn⟩:∃n,s.length=n+1:=⟨s.length-1,by omega⟩;have lr:qg s=((n+1:Nat):Int):=by unfold qg;rw[hn]
 have key:=qp (S:=js) (fun j=>[.r s,.i (q5y (fun i=>cI s i 0) (j+1):Int),.i (q3s (fun i=>cI s i 0) (j+1):Int),.i ((j+1:Nat):Int)])
  (0,[.i (q5y (fun i=>cI s i 0) s.length:Int),.i (q3s (fun i=>cI s i 0) s.length:Int)]) n (by omega) (fun j hj=>by
  obtain⟨b1,b2⟩:=qKO (fun i=>cI s i 0) (show j+1<n+1 by omega);have w:=jd (show j+1<n+1 by omega) (show n+1<9223372036854775808 by omega);obtain⟨x,hx⟩:∃x,x=q5y (fun i=>cI s i 0) (j+1):=⟨_,rfl⟩;obtain⟨y,hy⟩:∃y,y=q3s (fun i=>cI s i 0) (j+1):=⟨_,rfl⟩;have e1:q5y (fun i=>cI s i 0) (j+1+1)=if cI s ((j+1:Nat):Int) 0<cI s (x:Int) 0 then j+1 else x:=by rw[hx];rfl
  have e2:q3s (fun i=>cI s i 0) (j+1+1)=if cI s (y:Int) 0<cI s ((j+1:Nat):Int) 0 then j+1 else y:=by rw[hy];rfl
  rw[<-hx] at b1;rw[<-hy] at b2;rw[qaM,e1,e2,<-hx,<-hy];by_cases c1:cI s ((j+1:Nat):Int) 0<cI s (x:Int) 0
  ·by_cases c2:cI s (y:Int) 0<cI s ((j+1:Nat):Int) 0
   ·simp only[STD,lr,w,c1,c2,show ((j+1:Nat):Int)<((n+1:Nat):Int) by omega,show (0:Int)<=((j+1:Nat):Int) by omega,show (x:Int)<((n+1:Nat):Int) by omega,show (0:Int)<=x by omega,show (y:Int)<((n+1:Nat):Int) by omega,show (0:Int)<=y by omega,and_self]
   ·simp only[STD,lr,w,c1,c2,show ((j+1:Nat):Int)<((n+1:Nat):Int) by omega,show (0:Int)<=((j+1:Nat):Int) by omega,show (x:Int)<((n+1:Nat):Int) by omega,show (0:Int)<=x by omega,show (y:Int)<((n+1:Nat):Int) by omega,show (0:Int)<=y by omega,and_self]
  ·by_cases c2:cI s (y:Int) 0<cI s ((j+1:Nat):Int) 0
   ·simp only[STD,lr,w,c1,c2,show ((j+1:Nat):Int)<((n+1:Nat):Int) by omega,show (0:Int)<=((j+1:Nat):Int) by omega,show (x:Int)<((n+1:Nat):Int) by omega,show (0:Int)<=x by omega,show (y:Int)<((n+1:Nat):Int) by omega,show (0:Int)<=y by omega,and_self]
   ·simp only[STD,lr,w,c1,c2,show ((j+1:Nat):Int)<((n+1:Nat):Int) by omega,show (0:Int)<=((j+1:Nat):Int) by omega,show (x:Int)<((n+1:Nat):Int) by omega,show (0:Int)<=x by omega,show (y:Int)<((n+1:Nat):Int) by omega,show (0:Int)<=y by omega,and_self]) (by
  rw[qaM,hn];simp only[STD,lr,show ¬((n+1:Nat):Int)<((n+1:Nat):Int) by omega])
 have a0:q5y (fun i=>cI s i 0) (0+1)=0:=by simp[q5y]
 have a1:q3s (fun i=>cI s i 0) (0+1)=0:=by simp[q3s]
 simp only[a0,a1] at key;exact key
theorem qEr(l:R):∃a b e,(q3x [.r l]).run=some (0,[.i a,.i b,.i e])/\(yu [.r l]).run=some (0,[.i a,.i b,.i e]):=by
 by_cases h:paE l=0
 ·obtain⟨hl,hs⟩:=qsi h;have lr:qg (sqR l l.length)=(l.length:Int):=by unfold qg;rw[qfm]
  have r1:=qkT l;have r2:=qcc l;rw[if_pos h] at r1 r2;by_cases h0:l.length=0
  ·refine⟨0,0,13,?_,?_⟩
   ·rw[qav];simp only[STD,r1,h,lr,show (l.length:Int)=0 by omega]
   ·rw[q0M];simp only[STD,r2,h,show qg l=0 by unfold qg;omega]
  ·have e1:=qDB (l:=sqR l l.length) (by rw[qfm];omega) (by rw[qfm];exact hl);have e2:=qMs (s:=sqR l l.length) (by rw[qfm];omega) (by rw[qfm];exact hl);refine⟨(q5y (fun i=>cI (sqR l l.length) i 0) (sqR l l.length).length:Int),(q3s (fun i=>cI (sqR l l.length) i 0) (sqR l l.length).length:Int),0,?_,?_⟩
   rotate_left
   ·rw[q0M];simp only[STD,r2,h,show ¬qg l=0 by unfold qg;omega,e2]
   ·rw[qav];simp only[STD,r1,h,lr,show ¬(l.length:Int)=0 by omega,e1]
 ·refine⟨0,0,paE l,?_,?_⟩
  ·rw[qav];simp only[STD,qkT,h]
  ·rw[q0M];simp only[STD,qcc,h]
def qHx(s:R)(lo hi:Int)(i:Nat):Option Nat:=if cI s i 0<lo*lo\/hi*hi<cI s i 0 then some i else none
def kpR(s:R)(lo hi:Int):List PV:=match q80 (qHx s lo hi) 0 s.length with
 | none=>[.b true,.i s.length,.i 0]
 | some j=>[.b false,.i j,.i 0]
theorem qMe{lo hi:Int}(h:lmE lo hi=0):zw .i64 lo lo=lo*lo/\zw .i64 hi hi=hi*hi:=by obtain⟨h1,h2,h3⟩:=qIy h;have a:=qCw (d:=lo) (by omega) (by omega);have b:=qCw (d:=hi) (by omega) (by omega);exact⟨zV ⟨by omega,by omega⟩,zV ⟨by omega,by omega⟩⟩
theorem qun{f:Nat->Option Nat}{g:Nat->Nat×List PV}:∀k i,q80 (fun j=>(f j).map g) i k=(q80 f i k).map g
 | 0,_=>rfl
 | k+1,i=>by
  simp only[q80];cases f i with
  | none=>simp only[Option.map_none];exact qun k (i+1)
  | some x=>rfl
theorem qzl{s:R}(hs:s.length<=64){lo hi:Int}(h:lmE lo hi=0) :(wn [.r s,.i lo,.i hi]).run=some (0,[.i (match q80 (qHx s lo hi) 0 s.length with|none=>-1|some j=>(j:Int)),.i lo,.i hi]):=by
 obtain⟨w1,w2⟩:=qMe h;have lr:qg s=(s.length:Int):=rfl;have key:=q23 (S:=ze) (fun i=>[.r s,.i (s.length:Int),.i (i:Int),.i lo,.i hi]) (fun i=>(qHx s lo hi i).map fun j:Nat=>(1,[PV.i (j:Int),.i lo,.i hi])) (0,[.i lo,.i hi]) s.length (by omega) (fun i hi2 hf=>by
  have hb:¬(cI s i 0<lo*lo\/hi*hi<cI s i 0):=fun hb=>by unfold qHx at hf;rw[if_pos hb] at hf;cases hf
  have e:ilt (hi*hi) (cI s i 0)=false:=by unfold ilt;simp;omega
  rw[yv];simp only[STD,qd4,w1,w2,lr,e,jd hi2 (show s.length<9223372036854775808 by omega),show ¬cI s i 0<lo*lo by omega,show (i:Int)<s.length by omega,show (0:Int)<=i by omega,and_self]) (fun i r hi2 hf=>by
  have hb:(cI s i 0<lo*lo\/hi*hi<cI s i 0)/\r=(1,[PV.i (i:Int),.i lo,.i hi]):=by
   unfold qHx at hf;split at hf
   ·rename_i hb;cases hf;exact⟨hb,rfl⟩
   ·cases hf
  rw[hb.2,yv];by_cases c:cI s i 0<lo*lo
  ·simp only[STD,qd4,w1,w2,lr,c,show (i:Int)<s.length by omega,show (0:Int)<=i by omega,and_self]
  ·have e:ilt (hi*hi) (cI s i 0)=true:=by unfold ilt;simp;omega
   simp only[STD,qd4,w1,w2,lr,c,e,show (i:Int)<s.length by omega,show (0:Int)<=i by omega,and_self]) (by
  rw[yv];simp only[STD,show ¬(s.length:Int)<s.length by omega])
 rw[qun] at key;have key':(qf ze [.r s,.i (s.length:Int),.i 0,.i lo,.i hi]).run=_:=key;rw[qcH];cases hsc:q80 (qHx s lo hi) 0 s.length with
 | none=>
  rw[hsc] at key';simp only[Option.map_none,Option.getD_none] at key';simp only[STD,lr,key',zf key']
 | some j=>
  rw[hsc] at key';simp only[qOJ,qOT] at key';simp only[STD,lr,key',zf key',show ¬((1:Nat)=0) by decide]
theorem qAK(l:R)(lo hi:Int):(q17 [.r l,.i lo,.i hi]).run=some (0,if paE l=0 then (if lmE lo hi=0 then kpR (sqR l l.length) lo hi else [.b false,.i 0,.i (lmE lo hi)]) else [.b false,.i 0,.i (paE l)]):=by
 rw[qy4];by_cases h:paE l=0
 ·obtain⟨hl,_⟩:=qsi h;have r1:=qkT l;rw[if_pos h] at r1;by_cases h2:lmE lo hi=0
  ·have r2:=qzl (s:=sqR l l.length) (by rw[qfm];exact hl) h2;unfold kpR;rw[if_pos h,if_pos h2];cases hsc:q80 (qHx (sqR l l.length) lo hi) 0 (sqR l l.length).length with
   | none=>
    rw[hsc] at r2;simp only[STD,r1,h,(q2W lo hi).1,h2,r2,show ¬(0:Int)<=-1 by decide];rfl
   | some j=>
    rw[hsc] at r2;simp only[STD,r1,h,(q2W lo hi).1,h2,r2,show (0:Int)<=(j:Int) by omega]
  ·rw[if_pos h,if_neg h2];simp only[STD,r1,h,(q2W lo hi).1,h2]
 ·rw[if_neg h];simp only[STD,qkT,h]
theorem qIZ(l:R)(lo hi:Int):(q6V [.r l,.i lo,.i hi]).run=some (0,if paE l=0 then (if lmE lo hi=0 then kpR (sqR l l.length) lo hi else [.b false,.i 0,.i (lmE lo hi)]) else [.b false,.i 0,.i (paE l)]):=by
 rw[qvy];by_cases h:paE l=0
 ·obtain⟨hl,_⟩:=qsi h;have r1:=qcc l;rw[if_pos h] at r1;by_cases h2:lmE lo hi=0
  ·obtain⟨w1,w2⟩:=qMe h2;obtain⟨s,hs⟩:∃s,s=sqR l l.length:=⟨_,rfl⟩;have sl:s.length=l.length:=by rw[hs,qfm]
   have lr:qg s=(l.length:Int):=by unfold qg;rw[sl]
   rw[<-hs] at r1 ⊢;have key:=q23 (S:=kn) (fun i=>[.r l,.r s,.i (i:Int),.i lo,.i hi]) (fun i=>(qHx s lo hi i).map fun j:Nat=>(1,[PV.b false,.i (j:Int),.i 0])) (0,[.r l]) l.length (by omega) (fun i hi2 hf=>by
    have hb:¬(cI s i 0<lo*lo\/hi*hi<cI s i 0):=fun hb=>by unfold qHx at hf;rw[if_pos hb] at hf;cases hf
    rw[q8q];simp only[STD,w1,w2,lr,jd hi2 (show l.length<9223372036854775808 by omega),show ¬cI s i 0<lo*lo by omega,show ¬hi*hi<cI s i 0 by omega,show (i:Int)<l.length by omega,show (0:Int)<=i by omega,and_self]) (fun i r hi2 hf=>by
    have hb:(cI s i 0<lo*lo\/hi*hi<cI s i 0)/\r=(1,[PV.b false,.i (i:Int),.i 0]):=by
     unfold qHx at hf;split at hf
     ·rename_i hb;cases hf;exact⟨hb,rfl⟩
     ·cases hf
    rw[hb.2,q8q];by_cases c:cI s i 0<lo*lo
    ·simp only[STD,w1,lr,c,show (i:Int)<l.length by omega,show (0:Int)<=i by omega,and_self]
    ·simp only[STD,w1,w2,lr,c,show hi*hi<cI s i 0 by omega,show (i:Int)<l.length by omega,show (0:Int)<=i by omega,and_self]) (by
    rw[q8q];simp only[STD,lr,show ¬(l.length:Int)<l.length by omega])
   rw[qun] at key;have key':(qf kn [.r l,.r s,.i 0,.i lo,.i hi]).run=_:=key;unfold kpR;rw[if_pos h,if_pos h2,sl];cases hsc:q80 (qHx s lo hi) 0 l.length with
   | none=>
    rw[hsc] at key';simp only[Option.map_none,Option.getD_none] at key';simp only[STD,r1,h,(q2W lo hi).2,h2,key',zf key'];rfl
   | some j=>
    rw[hsc] at key';simp only[qOJ,qOT] at key';simp only[STD,r1,h,(q2W lo hi).2,h2,key',zf key',show ¬((1:Nat)=0) by decide]
  ·rw[if_pos h,if_neg h2];simp only[STD,r1,h,(q2W lo hi).2,h2]
 ·rw[if_neg h];simp only[STD,qcc,h]
variable {l:R}
def cA(l:R)(a:Int)(i:Nat):Int:=qsm [cI l i 0,cI l i 1,cI l i 2] a
theorem qoE (x y z:Int){a:Int}(h:0<=a/\a<3):(qF [.i x,.i y,.i z,.i a]).run=some (0,[.i (qsm [x,y,z] a),.i a]):=by rw[qjS];simp only[STD,h.1,h.2,and_self]
theorem qBG (h0:0<l.length)(h:l.length<=64){a:Int}(ha:0<=a/\a<3):(vb [.r l,.i a]).run=some (0,[.i (q5y (cA l a) l.length:Int),.i (q3s (cA l a) l.length:Int),.i a]):=by
 have key:=qp (S:=zv) (fun i=>[.r l,.r l,.i (l.length:Int),.i (i:Int),.i a,.i 0,.i 0,.i (q5y (cA l a) i:Int),.i (q3s (cA l a) i:Int)])
  (0,[.i a,.i 0,.i 0,.i (q5y (cA l a) l.length:Int),.i (q3s (cA l a) l.length:Int)]) l.length (by omega) (fun i hi=>by
  obtain⟨b1,b2⟩:=qKO (cA l a) hi;have lr:qg l=(l.length:Int):=rfl;have w:=jd hi (show l.length<9223372036854775808 by omega);obtain⟨x,hx⟩:∃x,x=q5y (cA l a) i:=⟨_,rfl⟩;obtain⟨y,hy⟩:∃y,y=q3s (cA l a) i:=⟨_,rfl⟩;have e1:q5y (cA l a) (i+1)=if cA l a i<cA l a x then i else x:=by rw[hx];rfl
  have e2:q3s (cA l a) (i+1)=if cA l a y<cA l a i then i else y:=by rw[hy];rfl
  have ei:qsm [cI l i 0,cI l i 1,cI l i 2] a=cA l a i:=rfl;have ex:qsm [cI l x 0,cI l x 1,cI l x 2] a=cA l a x:=rfl;have ey:qsm [cI l y 0,cI l y 1,cI l y 2] a=cA l a y:=rfl;rw[<-hx] at b1;rw[<-hy] at b2;rw[q3F,e1,e2,<-hx,<-hy];by_cases c1:cA l a i<cA l a x
  ·by_cases c2:cA l a y<cA l a i
   ·simp only[STD,qoE _ _ _ ha,lr,w,ei,ex,ey,c1,c2,show (i:Int)<l.length by omega,show (0:Int)<=i by omega,show (x:Int)<l.length by omega,show (0:Int)<=x by omega,show (y:Int)<l.length by omega,show (0:Int)<=y by omega,and_self]
   ·simp only[STD,qoE _ _ _ ha,lr,w,ei,ex,ey,c1,c2,show (i:Int)<l.length by omega,show (0:Int)<=i by omega,show (x:Int)<l.length by omega,show (0:Int)<=x by omega,show (y:Int)<l.length by omega,show (0:Int)<=y by omega,and_self]
  ·by_cases c2:cA l a y<cA l a i
   ·simp only[STD,qoE _ _ _ ha,lr,w,ei,ex,ey,c1,c2,show (i:Int)<l.length by omega,show (0:Int)<=i by omega,show (x:Int)<l.length by omega,show (0:Int)<=x by omega,show (y:Int)<l.length by omega,show (0:Int)<=y by omega,and_self]
   ·simp only[STD,qoE _ _ _ ha,lr,w,ei,ex,ey,c1,c2,show (i:Int)<l.length by omega,show (0:Int)<=i by omega,show (x:Int)<l.length by omega,show (0:Int)<=x by omega,show (y:Int)<l.length by omega,show (0:Int)<=y by omega,and_self]) (by
  rw[q3F];simp only[STD,show ¬(l.length:Int)<l.length by omega])
 have key':(qf zv [.r l,.r l,.i (l.length:Int),.i 0,.i a,.i 0,.i 0,.i 0,.i 0]).run=_:=key;rw[qfa];simp only[STD,show qg l=(l.length:Int) from rfl,key']
def mnA(l:R)(a:Int):Int:=cA l a (q5y (cA l a) l.length)
def mxA(l:R)(a:Int):Int:=cA l a (q3s (cA l a) l.length)
theorem q8S (h0:0<l.length)(h:l.length<=64){a:Int}(ha:0<=a/\a<3):(zn [.r l,.i a]).run=some (0,[.i (mnA l a),.i (mxA l a)]):=by have r:=qBG h0 h ha;have b1:=q4p (cA l a) h0;have b2:=q3l (cA l a) h0;have lr:qg l=(l.length:Int):=rfl;rw[qn2];simp only[STD,r,lr,qoE _ _ _ ha,show ((q5y (cA l a) l.length:Nat):Int)<l.length by omega,show (0:Int)<=((q5y (cA l a) l.length:Nat):Int) by omega,show ((q3s (cA l a) l.length:Nat):Int)<l.length by omega,show (0:Int)<=((q3s (cA l a) l.length:Nat):Int) by omega,and_self];rfl
def sdE(l:R):Int:=if qg l=0 then 13 else qHU l
def fcE(a:Int)(l m:R):Int:=if a<0 then 1 else if 3<=a then 1 else if sdE l=0 then (if sdE m=0 then (if mnA m a<=mxA l a then 9 else 0) else sdE m) else sdE l
theorem qkZ (h:sdE l=0):0<l.length/\l.length<=64/\q3h l:=by
 unfold sdE at h;split at h
 ·omega
 ·rename_i h1;have sp:=qHy h;exact⟨by unfold qg at h1;omega,sp.1,sp⟩
theorem qLF (l m:R)(a:Int){i:Nat}(hi:i<2):(jD [.r l,.r m,.i (i:Int),.i a,.r l,.r m]).run=if sdE (if i=0 then l else m)=0 then some (0,[.r l,.r m,.i ((i+1:Nat):Int),.i a,.r l,.r m]) else some (2,.i (sdE (if i=0 then l else m))::[]):=by
 have w:=jd hi (show 2<9223372036854775808 by omega);rw[qiQ];rcases (show i=0\/i=1 by omega) with rfl|rfl
 ·have w':qu .i64 0 1=((0+1:Nat):Int):=w;rw[if_pos rfl];unfold sdE;by_cases h:qg l=0
  ·simp only[STD,h,show ((0:Nat):Int)=0 from rfl,show (0:Int)<2 by decide,show ¬(13:Int)=0 by decide]
  ·by_cases h2:qHU l=0
   ·simp only[STD,h,h2,q1P,w',show ((0:Nat):Int)=0 from rfl,show (0:Int)<2 by decide]
   ·simp only[STD,h,h2,q1P,show ((0:Nat):Int)=0 from rfl,show (0:Int)<2 by decide]
 ·have w':qu .i64 1 1=((1+1:Nat):Int):=w;rw[show (if (1:Nat)=0 then l else m)=m from rfl];unfold sdE;by_cases h:qg m=0
  ·simp only[STD,h,show ((1:Nat):Int)=1 from rfl,show (1:Int)<2 by decide,show ¬(1:Int)=0 by decide,show ¬(13:Int)=0 by decide]
  ·by_cases h2:qHU m=0
   ·simp only[STD,h,h2,q1P,w',show ((1:Nat):Int)=1 from rfl,show (1:Int)<2 by decide,show ¬(1:Int)=0 by decide]
   ·simp only[STD,h,h2,q1P,show ((1:Nat):Int)=1 from rfl,show (1:Int)<2 by decide,show ¬(1:Int)=0 by decide]
theorem qbn (a:Int)(l m:R):(jN [.i a,.r l,.r m]).run=some (0,[.i (fcE a l m)]):=by
 rw[qya];unfold fcE;by_cases h1:a<0
 ·simp only[STD,h1]
 by_cases h2:3<=a
 ·simp only[STD,h1,h2]
 have k:=qe7 (S:=jD) (fun i=>[.r l,.r m,.i (i:Int),.i a,.r l,.r m]) (fun i=>sdE (if i=0 then l else m)) [] [.i a,.r l,.r m] 2 (by omega) (fun i hi=>qLF l m a hi) (by rw[qiQ];simp only[STD,show ¬((2:Nat):Int)<2 by decide]);have e:jZ (fun i=>sdE (if i=0 then l else m)) 2=if sdE l=0 then sdE m else sdE l:=qCA _
 rw[e] at k;by_cases h3:sdE l=0
 ·by_cases h4:sdE m=0
  ·rw[if_pos (by rw[if_pos h3];exact h4)] at k;have k':(qf jD [.r l,.r m,.i 0,.i a,.r l,.r m]).run=_:=k;obtain⟨l1,l2,_⟩:=qkZ h3;obtain⟨m1,m2,_⟩:=qkZ h4;have c1:=q8S l1 l2 (a:=a) ⟨by omega,by omega⟩;have c2:=q8S m1 m2 (a:=a) ⟨by omega,by omega⟩;by_cases h5:mnA m a<=mxA l a
   ·simp only[STD,h1,h2,h3,h4,k',zf k',c1,c2,h5]
   ·simp only[STD,h1,h2,h3,h4,k',zf k',c1,c2,h5]
  ·rw[if_neg (by rw[if_pos h3];exact h4),if_pos h3] at k;have k':(qf jD [.r l,.r m,.i 0,.i a,.r l,.r m]).run=_:=k;simp only[STD,h1,h2,h3,h4,k',zf k',show ¬((1:Nat)=0) by decide]
 ·rw[if_neg (by rw[if_neg h3];exact h3),if_neg h3] at k;have k':(qf jD [.r l,.r m,.i 0,.i a,.r l,.r m]).run=_:=k;simp only[STD,h1,h2,h3,k',zf k',show ¬((1:Nat)=0) by decide]
theorem qoY {a:Int}{l m:R}(h:fcE a l m=0):(0<=a/\a<3)/\(0<l.length/\l.length<=64/\q3h l)/\(0<m.length/\m.length<=64/\q3h m)/\mxA l a<mnA m a:=by
 unfold fcE at h;split at h
 ·omega
 ·split at h
  ·omega
  ·split at h
   ·rename_i h3;split at h
    ·rename_i h4;split at h
     ·omega
     ·exact⟨⟨by omega,by omega⟩,qkZ h3,qkZ h4,by omega⟩
    ·omega
   ·omega
theorem qpH (hs:q3h l){i:Nat}(hi:i<l.length){a:Int}(ha:0<=a/\a<3):co (cA l a i):=by
 obtain⟨h1,h2,h3⟩:=hs.2 i hi;unfold cA;rcases (show a=0\/a=1\/a=2 by omega) with rfl|rfl|rfl
 ·exact h1
 ·exact h2
 ·exact h3
theorem qjJ {a:Int}{l m:R}(h:fcE a l m=0):(yX [.i a,.r l,.r m]).run=some (0,[.i (mnA m a-mxA l a),.i (mxA m a-mnA l a)]):=by obtain⟨ha,⟨l1,l2,l3⟩,⟨m1,m2,m3⟩,_⟩:=qoY h;have c1:=q8S l1 l2 ha;have c2:=q8S m1 m2 ha;have x1:=qpH l3 (q4p (cA l a) l1) ha;have x2:=qpH l3 (q3l (cA l a) l1) ha;have y1:=qpH m3 (q4p (cA m a) m1) ha;have y2:=qpH m3 (q3l (cA m a) m1) ha;unfold co at *;have w1:yC .i64 (mnA m a) (mxA l a)=mnA m a-mxA l a:=zP ⟨by unfold mnA mxA;omega,by unfold mnA mxA;omega⟩;have w2:yC .i64 (mxA m a) (mnA l a)=mxA m a-mnA l a:=zP ⟨by unfold mnA mxA;omega,by unfold mnA mxA;omega⟩;rw[qvk];simp only[STD,c1,c2,w1,w2]
theorem qol (a:Int)(l m:R)(b:Bool):(yP [.i a,.r l,.r m,.b b]).run=some (0,if fcE a l m=0 then [.i (if b=true then mnA m a-mxA l a else mxA m a-mnA l a),.i 0] else [.i 0,.i (fcE a l m)]):=by
 rw[qve];by_cases h:fcE a l m=0
 ·cases b
  ·simp only[STD,qbn,h,qjJ h]
  ·simp only[STD,qbn,h,qjJ h]
 ·simp only[STD,qbn,h]
theorem qEU (a:Int)(l m:R):(q7p [.i a,.r l,.r m]).run=some (0,if fcE a l m=0 then [.i (mnA m a-mxA l a),.i (mxA m a-mnA l a),.i 0] else [.i 0,.i 0,.i (fcE a l m)]):=by
 rw[quV];by_cases h:fcE a l m=0
 ·simp only[STD,qbn,h,qjJ h]
 ·simp only[STD,qbn,h]
theorem qG6 {L:List Nat}{n:Nat}(lo:LO (raR E4) 3 L n):sO (raR E4) L=9:=by
 have su:=qxx qIB (by decide) (by
  intro j k h1 h2;have e:j=0/\k=1:=by omega
  obtain⟨rfl,rfl⟩:=e;decide)
 obtain⟨e,_⟩:=qCs lo.sup su;rw[e];decide +kernel
theorem qJQ (d:Int)(h1:¬d<0)(h2:¬100000<d):(jS [.r E4,.i d]).run=some (0,[.b (decide ((36:Rat)<=((d*d:Int):Rat))),.i 0]):=by obtain⟨L,n,lo,_⟩:=qkI qFi;rw[qFQ qFi lo h1 h2];unfold pinB;rw[qG6 lo,show (4:Rat)*9=36 by decide +kernel]
theorem q9w:(wW []).run=some (0,[.b true]):=by
 have a0:=qkT [[.i 0,.i 0,.i 0,.i 3,.i 4,.i 0]];have a1:=qAK [[.i 0,.i 0,.i 0,.i 3,.i 4,.i 0]] 4 5;have a2:=qAK [[.i 0,.i 0,.i 0,.i 3,.i 4,.i 0]] 6 7;have a4:=qol 0 [[.i 0,.i 0,.i 0],[.i 1,.i 5,.i 0]] [[.i 10,.i 0,.i 0],[.i 12,.i 5,.i 0]] true;have a5:=qol 0 [[.i 0,.i 0,.i 0],[.i 1,.i 5,.i 0]] [[.i 10,.i 0,.i 0],[.i 12,.i 5,.i 0]] false;have a6:=qEU 0 [[.i 0,.i 0,.i 0],[.i 1,.i 5,.i 0]] [[.i 10,.i 0,.i 0],[.i 12,.i 5,.i 0]];have a7:(jS [.r [[.i 0,.i 0],[.i 6,.i 0],[.i 3,.i 1]],.i 6]).run=_:=qJQ 6 (by decide) (by decide);have a8:(jS [.r [[.i 0,.i 0],[.i 6,.i 0],[.i 3,.i 1]],.i 5]).run=_:=qJQ 5 (by decide) (by decide);have v0:paE [[.i 0,.i 0,.i 0,.i 3,.i 4,.i 0]]=0:=by decide
 have v1:sqR [[.i 0,.i 0,.i 0,.i 3,.i 4,.i 0]] (List.length [[U.i 0,.i 0,.i 0,.i 3,.i 4,.i 0]])=[[.i 25]]:=rfl;have v2:fcE 0 [[.i 0,.i 0,.i 0],[.i 1,.i 5,.i 0]] [[.i 10,.i 0,.i 0],[.i 12,.i 5,.i 0]]=0:=by decide
 have v3:mnA [[.i 10,.i 0,.i 0],[.i 12,.i 5,.i 0]] 0=10:=by decide
 have v4:mxA [[.i 10,.i 0,.i 0],[.i 12,.i 5,.i 0]] 0=12:=by decide
 have v5:mnA [[.i 0,.i 0,.i 0],[.i 1,.i 5,.i 0]] 0=0:=by decide
 have v6:mxA [[.i 0,.i 0,.i 0],[.i 1,.i 5,.i 0]] 0=1:=by decide
 have k1:kpR [[.i 25]] 4 5=[.b true,.i 1,.i 0]:=rfl;have k2:kpR [[.i 25]] 6 7=[.b false,.i 0,.i 0]:=rfl;rw[if_pos v0,v0,v1] at a0;rw[if_pos v0,if_pos (by decide),v1,k1] at a1;rw[if_pos v0,if_pos (by decide),v1,k2] at a2;rw[if_pos v2,if_pos rfl,v3,v6] at a4;rw[if_pos v2,if_neg (by decide),v4,v5] at a5;rw[if_pos v2,v3,v6,v4,v5] at a6;rw[show decide ((36:Rat)<=((6*6:Int):Rat))=true by decide +kernel] at a7;rw[show decide ((36:Rat)<=((5*5:Int):Rat))=false by decide +kernel] at a8;have eq:=qsF (y:=[[.i 25]]) (by decide);rw[qvm];have w0:qu .i64 0 0=0:=by decide
 simp only[STD,a0,a1,a2,qxj,a4,a5,a6,a7,a8,eq,w0,show (10:Int)-1=9 by decide,show (12:Int)-0=12 by decide,and_self,Bool.not_false]
end Go.Eng

namespace Go.Eng
def owR(l:R)(n:Nat):R:=(List.range n).map fun i:Nat=>[.i (cI l (i:Int) 0),.i (cI l (i:Int) 1),.i (cI l (i:Int) 2),.i (cI l (i:Int) 3),.i (cI l (i:Int) 4),.i (cI l (i:Int) 5)]
theorem qx1(l:R)(n:Nat):(owR l n).length=n:=by unfold owR;rw[qOm,qOM]
theorem qJ6(l:R)(n:Nat):yB (owR l n) [[.i (cI l (n:Int) 0),.i (cI l (n:Int) 1),.i (cI l (n:Int) 2),.i (cI l (n:Int) 3),.i (cI l (n:Int) 4),.i (cI l (n:Int) 5)]]=owR l (n+1):=by unfold owR yB;rw[qP6,qOG];rfl
theorem qK8(l:R){n i:Nat}(h:i<n):cI (owR l n) (i:Int) 0=cI l i 0/\cI (owR l n) (i:Int) 1=cI l i 1/\cI (owR l n) (i:Int) 2=cI l i 2/\cI (owR l n) (i:Int) 3=cI l i 3/\cI (owR l n) (i:Int) 4=cI l i 4/\cI (owR l n) (i:Int) 5=cI l i 5:=by
 have e:(owR l n).getD ((i:Int).toNat) []=[.i (cI l (i:Int) 0),.i (cI l (i:Int) 1),.i (cI l (i:Int) 2),.i (cI l (i:Int) 3),.i (cI l (i:Int) 4),.i (cI l (i:Int) 5)]:=by unfold owR;rw[qOw,qOd,qOo,qOW h];rfl
 refine⟨?_,?_,?_,?_,?_,?_⟩<;>(conv=>lhs;unfold cI zZ)<;>rw[e]<;>rfl
theorem qNy(l:R)(h:l.length*48<=140737488351232):(qdi [.r l]).run=some (0,[.r (owR l l.length)]):=by
 have key:=qp (S:=q3Y) (fun i=>[.r l,.i (l.length:Int),.i (i:Int),.r (owR l i)]) (0,[.r (owR l l.length)]) l.length (by omega) (fun i hi=>by
  have lr:qg (owR l i)=(i:Int):=by unfold qg;rw[qx1]
  have e1:∀a b c d e f:U,qg [[a,b,c,d,e,f]]=1:=fun _ _ _ _ _ _=>rfl;rw[qlJ];simp only[STD,lr,e1,qJ6,jd hi (show l.length<9223372036854775808 by omega),show (i:Int)<l.length by omega,show (0:Int)<=i by omega,show qg l=(l.length:Int) from rfl,show (i:Int)+1<=2932031007402 by omega,and_self]) (by
  rw[qlJ];simp only[STD,show ¬(l.length:Int)<l.length by omega])
 have key':(qf q3Y [.r l,.i (l.length:Int),.i 0,.r []]).run=_:=key;rw[qA5];simp only[STD,show qg l=(l.length:Int) from rfl,key']
theorem qKz(l:R){n i:Nat}(h:i<n):prE (owR l n) i=prE l i:=by obtain⟨e0,e1,e2,e3,e4,e5⟩:=qK8 l h;unfold prE;rw[e0,e1,e2,e3,e4,e5]
theorem qBH(l:R):paE (owR l l.length)=paE l:=by unfold paE qg;rw[qx1,qyP fun i hi=>qKz l hi]
theorem qBe(l:R):sqR (owR l l.length) (owR l l.length).length=sqR l l.length:=by rw[qx1];unfold sqR;refine qPl fun i hi=>?_;obtain⟨e0,e1,e2,e3,e4,e5⟩:=qK8 l (qOV.1 hi);unfold dS;rw[e0,e1,e2,e3,e4,e5]
theorem qAd(l m:R)(h1:paE l=paE m)(h2:sqR l l.length=sqR m m.length)(h3:l.length=m.length):(yu [.r l]).run=(yu [.r m]).run:=by
 rw[q0M,q0M];have r1:=qcc l;have r2:=qcc m;rw[h1,h2] at r1;have e:qg l=qg m:=by unfold qg;rw[h3]
 simp only[STD,r1,r2,e]
theorem qM4(l:R):∃b,(qd5 [.r l]).run=some (0,[.b b]):=by
 rw[qyC];by_cases h1:qg l<=10
 ·exact⟨true,by simp only[STD,h1]⟩
 ·by_cases h2:64<qg l
  ·exact⟨_,by simp only[STD,h1,h2];rfl⟩
  ·exact⟨false,by simp only[STD,h1,h2]⟩
theorem qFC(s:R)(lo hi:Int):∃b n e,kpR s lo hi=[.b b,.i n,.i e]:=by
 unfold kpR;split
 ·exact⟨_,_,_,rfl⟩
 ·exact⟨_,_,_,rfl⟩
theorem qtY(x0:R)(x1 x2:Int)(_:UFit (.sl [(.int .i64),(.int .i64),(.int .i64),(.int .i64),(.int .i64),(.int .i64)]) (.l x0))(wex0:x0.length*48<=140737488351232)(_:IntKind.min .i64<=x1)(_:x1<=IntKind.max .i64)(_:IntKind.min .i64<=x2)(_:x2<=IntKind.max .i64):(kT [.r x0,.i x1,.i x2]).run=some (0,[.b true]):=by
 have ow:=qNy x0 wex0;obtain⟨b,hb⟩:=qM4 (owR x0 x0.length);rw[qmm];cases b with
 | false=>simp only[STD,ow,hb,q9w]
 | true=>
  have r1:=qkT x0;have r2:=qcc (owR x0 x0.length);rw[qBH,qBe] at r2;obtain⟨a,c,e,r3,r4⟩:=qEr x0;have r4':=qAd (owR x0 x0.length) x0 (qBH x0) (qBe x0) (qx1 _ _);rw[r4] at r4';have r5:=qAK x0 x1 x2;have r6:=qIZ (owR x0 x0.length) x1 x2;rw[qBH,qBe] at r6;obtain⟨k1,k2,k3,hk⟩:∃k1 k2 k3,(if paE x0=0 then (if lmE x1 x2=0 then kpR (sqR x0 x0.length) x1 x2 else [.b false,.i 0,.i (lmE x1 x2)]) else [.b false,.i 0,.i (paE x0)])=[PV.b k1,.i k2,.i k3]:=by
   split
   ·split
    ·exact qFC _ _ _
    ·exact⟨_,_,_,rfl⟩
   ·exact⟨_,_,_,rfl⟩
  rw[hk] at r5 r6;have eq:=qsF (y:=if paE x0=0 then sqR x0 x0.length else []) (by
   split
   ·rw[qfm];omega
   ·simp)
  simp only[STD,ow,hb,r1,r2,r3,r4',r5,r6,q9w,eq];simp[ieq]
variable {n:Nat}
theorem qmI(f:Nat->Int):∀{n i:Nat},i<n->f (q5y f n)<=f i
 | 0,_,h=>by omega
 | n+1,i,h=>by
  simp only[q5y];by_cases e:i=n
  ·subst e;split<;>omega
  ·have:=qmI f (n:=n) (i:=i) (by omega);split<;>omega
theorem qmF(f:Nat->Int):∀{n i:Nat},i<n->f i<=f (q3s f n)
 | 0,_,h=>by omega
 | n+1,i,h=>by
  simp only[q3s];by_cases e:i=n
  ·subst e;split<;>omega
  ·have:=qmF f (n:=n) (i:=i) (by omega);split<;>omega
theorem qGj {f:Nat->Int}{v:Int}(h0:0<n)(h1:∃i,i<n/\f i=v)(h2:∀i,i<n->v<=f i):f (q5y f n)=v:=by obtain⟨i,hi,e⟩:=h1;have a:=qmI f hi;have b:=h2 _ (q4p f h0);omega
theorem qGq {f:Nat->Int}{v:Int}(h0:0<n)(h1:∃i,i<n/\f i=v)(h2:∀i,i<n->f i<=v):f (q3s f n)=v:=by obtain⟨i,hi,e⟩:=h1;have a:=qmF f hi;have b:=h2 _ (q3l f h0);omega
theorem qEI (f:Nat->Int)(i:Nat):qaS (f (q5y f i)) (f i)=f (q5y f (i+1)):=by
 simp only[q5y,qaS];by_cases c:f i<f (q5y f i)
 ·rw[if_pos c,if_pos c]
 ·rw[if_neg c,if_neg c]
theorem qEL (f:Nat->Int)(i:Nat):qiL (f (q3s f i)) (f i)=f (q3s f (i+1)):=by
 simp only[q3s,qiL];by_cases c:f (q3s f i)<f i
 ·rw[if_pos c,if_pos (show f i>f (q3s f i) from c)]
 ·rw[if_neg c,if_neg (show ¬f i>f (q3s f i) from c)]
theorem qGs {s:R}(h0:0<s.length)(h:s.length<=100000):(uc [.r s]).run=some (0,[.i (cI s (q5y (fun i=>cI s i 0) s.length:Nat) 0),.i (cI s (q3s (fun i=>cI s i 0) s.length:Nat) 0)]):=by
 obtain⟨n,hn⟩:∃n,s.length=n+1:=⟨s.length-1,by omega⟩;have lr:qg s=((n+1:Nat):Int):=by unfold qg;rw[hn]
 obtain⟨f,hf⟩:∃f:Nat->Int,f=fun i:Nat=>cI s i 0:=⟨_,rfl⟩;have fe:∀i:Nat,cI s (i:Int) 0=f i:=fun i=>by rw[hf]
 have key:=qp (S:=q2a) (fun j=>[.r s,.i (f (q5y f (j+1))),.i (f (q3s f (j+1))),.i ((j+1:Nat):Int)])
  (0,[.i (f (q5y f (n+1))),.i (f (q3s f (n+1)))]) n (by omega) (fun j hj=>by
  have w:=jd (show j+1<n+1 by omega) (show n+1<9223372036854775808 by omega);rw[qjX];simp only[STD,lr,w,fe,qEI,qEL,show ((j+1:Nat):Int)<((n+1:Nat):Int) by omega,show (0:Int)<=((j+1:Nat):Int) by omega,and_self]) (by
  rw[qjX];simp only[STD,lr,show ¬((n+1:Nat):Int)<((n+1:Nat):Int) by omega])
 have a0:q5y f (0+1)=0:=by simp[q5y]
 have a1:q3s f (0+1)=0:=by simp[q3s]
 simp only[a0,a1] at key;have key':(qf q2a [.r s,.i (f 0),.i (f 0),.i 1]).run=_:=key;have f0:cI s 0 0=f 0:=fe 0;rw[qxQ,fe,fe,<-hf,hn];simp only[STD,lr,f0,key',show (0:Int)<((n+1:Nat):Int) by omega,show (0:Int)<=0 by decide,and_self]
def alR(l:R)(a:Int)(n:Nat):R:=(List.range n).map fun i:Nat=>[.i (cA l a i)]
theorem q5F (l:R)(a:Int)(n:Nat):(alR l a n).length=n:=by unfold alR;rw[qOm,qOM]
theorem qCY (l:R)(a:Int)(n:Nat):yB (alR l a n) [[.i (cA l a n)]]=alR l a (n+1):=by unfold alR yB;rw[qP6,qOG];rfl
theorem qCp (l:R)(a:Int){n i:Nat}(h:i<n):cI (alR l a n) (i:Int) 0=cA l a i:=by
 have e:(alR l a n).getD ((i:Int).toNat) []=[.i (cA l a i)]:=by unfold alR;rw[qOw,qOd,qOo,qOW h];rfl
 conv=>lhs;unfold cI zZ
 rw[e];rfl
theorem qqB {l:R}(h:l.length<=64){a:Int}(ha:0<=a/\a<3):(vZ [.r l,.i a]).run=some (0,[.r (alR l a l.length)]):=by
 have key:=qp (S:=q0N) (fun i=>[.r l,.i a,.i (i:Int),.r (alR l a i)]) (0,[.r (alR l a l.length)]) l.length (by omega) (fun i hi=>by
  have lr:qg (alR l a i)=(i:Int):=by unfold qg;rw[q5F]
  have e1:∀x:U,qg [[x]]=1:=fun _=>rfl;have ei:qsm [cI l i 0,cI l i 1,cI l i 2] a=cA l a i:=rfl;rw[qi2];simp only[STD,qlp,lr,e1,ei,qCY,ha.1,ha.2,jd hi (show l.length<9223372036854775808 by omega),show (i:Int)<l.length by omega,show (0:Int)<=i by omega,show qg l=(l.length:Int) from rfl,show (i:Int)+1<=17592186044416 by omega,and_self]) (by
  rw[qi2];simp only[STD,q7U])
 have key':(qf q0N [.r l,.i a,.i 0,.r []]).run=_:=key;rw[qvg];simp only[STD,key']
theorem qwW {l:R}(h0:0<l.length)(h:l.length<=64)(a:Int):(uc [.r (alR l a l.length)]).run=some (0,[.i (mnA l a),.i (mxA l a)]):=by
 have r:=qGs (s:=alR l a l.length) (by rw[q5F];exact h0) (by rw[q5F];omega);rw[r,q5F];obtain⟨f,hf⟩:∃f:Nat->Int,f=fun i:Nat=>cI (alR l a l.length) i 0:=⟨_,rfl⟩;have fe:∀i:Nat,i<l.length->f i=cA l a i:=fun i hi=>by rw[hf];exact qCp l a hi
 have e1:f (q5y f l.length)=mnA l a:=qGj h0 ⟨_,q4p (cA l a) h0,fe _ (q4p (cA l a) h0)⟩ fun i hi=>by rw[fe i hi];exact qmI (cA l a) hi
 have e2:f (q3s f l.length)=mxA l a:=qGq h0 ⟨_,q3l (cA l a) h0,fe _ (q3l (cA l a) h0)⟩ fun i hi=>by rw[fe i hi];exact qmF (cA l a) hi
 have k1:cI (alR l a l.length) (q5y (fun i:Nat=>cI (alR l a l.length) i 0) l.length:Nat) 0=mnA l a:=by rw[<-e1,hf]
 have k2:cI (alR l a l.length) (q3s (fun i:Nat=>cI (alR l a l.length) i 0) l.length:Nat) 0=mxA l a:=by rw[<-e2,hf]
 rw[k1,k2]
def szL(l m:R)(a:Int)(n:Nat):List Int:=(List.range n).flatMap fun i=>(List.range m.length).map fun k=>cA m a k-cA l a i
theorem qCb (l m:R)(a:Int)(n:Nat):szL l m a (n+1)=szL l m a n++(List.range m.length).map fun k=>cA m a k-cA l a n:=by unfold szL;rw[qP6,List.flatMap_append];simp
theorem qwY(l m:R)(a:Int):∀n,(szL l m a n).length=n*m.length
 | 0=>by simp[szL]
 | n+1=>by rw[qCb,qOz,qwY l m a n,qOm,qOM,Nat.succ_mul]
theorem qqE {l m:R}{a x:Int}:x∈szL l m a n↔∃i k,i<n/\k<m.length/\x=cA m a k-cA l a i:=by
 unfold szL;simp only[qQ8,qOV,qOP];constructor
 ·rintro ⟨i,hi,k,hk,rfl⟩;exact⟨i,k,hi,hk,rfl⟩
 ·rintro ⟨i,k,hi,hk,rfl⟩;exact⟨i,hi,k,hk,rfl⟩
theorem qHi {l m:R}(hl:q3h l)(hm:q3h m){a:Int}(ha:0<=a/\a<3):(q1i [.i a,.r l,.r m]).run=some (0,[.r (rI (szL l m a l.length))]):=by
 have l64:=hl.1;have m64:=hm.1;have inner:∀i,i<l.length->(qf ko [.r (alR l a l.length),.r (alR m a m.length),.i (i:Int),.i 0,.r (rI (szL l m a i))]).run=some (0,[.r (alR l a l.length),.r (alR m a m.length),.i (i:Int),.r (rI (szL l m a (i+1)))]):=fun i hi=>by
  have key:=qp (S:=ko) (fun k=>[.r (alR l a l.length),.r (alR m a m.length),.i (i:Int),.i (k:Int),.r (rI (szL l m a i++(List.range k).map fun k=>cA m a k-cA l a i))])
   (0,[.r (alR l a l.length),.r (alR m a m.length),.i (i:Int),.r (rI (szL l m a i++(List.range m.length).map fun k=>cA m a k-cA l a i))]) m.length (by omega) (fun k hk=>by
   have lr:qg (alR m a m.length)=(m.length:Int):=by unfold qg;rw[q5F]
   have ll:qg (alR l a l.length)=(l.length:Int):=by unfold qg;rw[q5F]
   have sl:qg (rI (szL l m a i++(List.range k).map fun k=>cA m a k-cA l a i))=((i*m.length+k:Nat):Int):=by rw[qCy,qOz,qwY,qOm,qOM]
   have im:i*m.length<=64*64:=qOS (by omega) m64;have e1:∀x:U,qg [[x]]=1:=fun _=>rfl;have c1:=qpH hm hk ha;have c2:=qpH hl hi ha;unfold co at c1 c2;have w1:yC .i64 (cA m a k) (cA l a i)=cA m a k-cA l a i:=zP ⟨by omega,by omega⟩;have ap:yB (rI (szL l m a i++(List.range k).map fun k=>cA m a k-cA l a i)) [[.i (cA m a k-cA l a i)]]=rI (szL l m a i++(List.range (k+1)).map fun k=>cA m a k-cA l a i):=by rw[show ([[.i (cA m a k-cA l a i)]]:R)=rI [cA m a k-cA l a i] from rfl,qK3,qOL,qP6,qOG];rfl
   rw[qfI];simp only[STD,lr,ll,sl,e1,qCp m a hk,qCp l a hi,w1,ap,jd hk (show m.length<9223372036854775808 by omega),show (k:Int)<m.length by omega,show (0:Int)<=k by omega,show (i:Int)<l.length by omega,show (0:Int)<=i by omega,show ((i*m.length+k:Nat):Int)+1<=17592186044416 by omega,and_self]) (by
   have lr:qg (alR m a m.length)=(m.length:Int):=by unfold qg;rw[q5F]
   rw[qfI];simp only[STD,lr,show ¬(m.length:Int)<m.length by omega])
  rw[<-qCb] at key;have e0:szL l m a i++(List.range 0).map (fun k=>cA m a k-cA l a i)=szL l m a i:=by simp
  rw[e0] at key;exact key
 have key:=qp (S:=q0K) (fun i=>[.r (alR l a l.length),.r (alR m a m.length),.i (i:Int),.r (rI (szL l m a i))]) (0,[.r (rI (szL l m a l.length))]) l.length (by omega) (fun i hi=>by
  have ll:qg (alR l a l.length)=(l.length:Int):=by unfold qg;rw[q5F]
  rw[qhY];simp only[STD,ll,inner i hi,jd hi (show l.length<9223372036854775808 by omega),show (i:Int)<l.length by omega]) (by
  have ll:qg (alR l a l.length)=(l.length:Int):=by unfold qg;rw[q5F]
  rw[qhY];simp only[STD,ll,show ¬(l.length:Int)<l.length by omega])
 have key':(qf q0K [.r (alR l a l.length),.r (alR m a m.length),.i 0,.r []]).run=_:=key;rw[qvc];simp only[STD,qqB l64 ha,qqB m64 ha,key']
theorem quc {xs:List Int}{i:Nat}(h:i<xs.length):xs.getD i 0∈xs:=by rw[qOd,qOk h];exact qOZ h
theorem qtz {xs:List Int}{x:Int}(h:x∈xs):∃i,i<xs.length/\xs.getD i 0=x:=by obtain⟨i,hi,e⟩:=List.mem_iff_getElem.1 h;exact⟨i,hi,by rw[qOd,qOk hi];exact e⟩
theorem qKu {l m:R}(hl:q3h l)(hm:q3h m)(l0:0<l.length)(m0:0<m.length)(a:Int):(uc [.r (rI (szL l m a l.length))]).run=some (0,[.i (mnA m a-mxA l a),.i (mxA m a-mnA l a)]):=by
 have l64:=hl.1;have m64:=hm.1;have ln:(rI (szL l m a l.length)).length=(szL l m a l.length).length:=qFX _;have lm:(szL l m a l.length).length=l.length*m.length:=qwY l m a _;have pos:0<l.length*m.length:=Nat.mul_pos l0 m0;have big:l.length*m.length<=64*64:=qOS l64 m64;have r:=qGs (s:=rI (szL l m a l.length)) (by omega) (by omega);obtain⟨f,hf⟩:∃f:Nat->Int,f=fun i:Nat=>cI (rI (szL l m a l.length)) i 0:=⟨_,rfl⟩;have fe:∀i:Nat,f i=(szL l m a l.length).getD i 0:=fun i=>by rw[hf];show cI _ _ _=_;rw[qGV,qOw]
 have i1:=q4p (cA l a) l0;have i2:=q3l (cA l a) l0;have k1:=q4p (cA m a) m0;have k2:=q3l (cA m a) m0;have e1:f (q5y f (szL l m a l.length).length)=mnA m a-mxA l a:=qGj (by omega) (by
  obtain⟨i,hi,e⟩:=qtz (xs:=szL l m a l.length) (x:=mnA m a-mxA l a) (qqE.2 ⟨_,_,i2,k1,rfl⟩);exact⟨i,hi,by rw[fe,e]⟩) fun i hi=>by
  rw[fe];obtain⟨j,k,hj,hk,e⟩:=qqE.1 (quc hi);rw[e];have:=qmI (cA m a) hk;have:=qmF (cA l a) hj;unfold mnA mxA;omega
 have e2:f (q3s f (szL l m a l.length).length)=mxA m a-mnA l a:=qGq (by omega) (by
  obtain⟨i,hi,e⟩:=qtz (xs:=szL l m a l.length) (x:=mxA m a-mnA l a) (qqE.2 ⟨_,_,i1,k2,rfl⟩);exact⟨i,hi,by rw[fe,e]⟩) fun i hi=>by
  rw[fe];obtain⟨j,k,hj,hk,e⟩:=qqE.1 (quc hi);rw[e];have:=qmF (cA m a) hk;have:=qmI (cA l a) hj;unfold mnA mxA;omega
 rw[r,ln];have q1:cI (rI (szL l m a l.length)) (q5y (fun i:Nat=>cI (rI (szL l m a l.length)) i 0) (szL l m a l.length).length:Nat) 0=mnA m a-mxA l a:=by rw[<-e1,hf]
 have q2:cI (rI (szL l m a l.length)) (q3s (fun i:Nat=>cI (rI (szL l m a l.length)) i 0) (szL l m a l.length).length:Nat) 0=mxA m a-mnA l a:=by rw[<-e2,hf]
 rw[q1,q2]
theorem qqj (a:Int):(q9F [.i a]).run=some (0,[.i (if a<0 then 1 else if 3<=a then 1 else 0)]):=by
 rw[qxK];by_cases h1:a<0
 ·simp only[STD,h1]
 ·by_cases h2:3<=a<;>simp only[STD,h1,h2]
theorem qxW (l:R):(q60 [.r l]).run=some (0,[.i (sdE l)]):=by rw[qyi];unfold sdE;by_cases h:qg l=0<;>simp only[STD,qow,h]
theorem qgE (a:Int)(l m:R):(q1F [.i a,.r l,.r m]).run=some (0,[.i (fcE a l m)]):=by
 rw[qvi];unfold fcE;by_cases h1:a<0
 ·simp only[STD,qqj,h1,show ¬(1:Int)=0 by decide]
 by_cases h2:3<=a
 ·simp only[STD,qqj,h1,h2,show ¬(1:Int)=0 by decide]
 by_cases h3:sdE l=0
 case neg=>simp only[STD,qqj,h1,h2,qxW,h3]
 by_cases h4:sdE m=0
 case neg=>simp only[STD,qqj,h1,h2,qxW,h3,h4]
 obtain⟨l1,l2,ls⟩:=qkZ h3;obtain⟨m1,m2,ms⟩:=qkZ h4;have big:l.length*m.length<=64*64:=qOS l2 m2;have rs:=qHi ls ms (a:=a) ⟨by omega,by omega⟩;obtain⟨xs,hx⟩:∃xs,xs=szL l m a l.length:=⟨_,rfl⟩;have xl:xs.length=l.length*m.length:=by rw[hx,qwY]
 rw[<-hx] at rs;have rl:qg (rI xs)=(xs.length:Int):=qCy xs;have k:=qe7 (S:=yp) (fun i=>[.r (rI xs),.i (i:Int)]) (fun i=>if xs.getD i 0<=0 then 9 else 0) [] [] xs.length (by omega) (fun i hi=>by
  have e:cI (rI xs) (i:Int) 0=xs.getD i 0:=by rw[qGV,qOw]
  rw[qgk];by_cases c:xs.getD i 0<=0
  ·simp only[STD,rl,e,c,show (i:Int)<xs.length by omega,show (0:Int)<=i by omega,show ¬(9:Int)=0 by decide,and_self]
  ·simp only[STD,rl,e,c,jd hi (show xs.length<9223372036854775808 by omega),show (i:Int)<xs.length by omega,show (0:Int)<=i by omega,and_self]) (by
  rw[qgk];simp only[STD,rl,show ¬(xs.length:Int)<xs.length by omega])
 by_cases h5:mnA m a<=mxA l a
 ·have hf:jZ (fun i=>if xs.getD i 0<=0 then 9 else 0) xs.length=9:=by
   obtain⟨i,hi,e⟩:=qtz (xs:=xs) (x:=mnA m a-mxA l a) (by rw[hx];exact qqE.2 ⟨_,_,q3l (cA l a) l1,q4p (cA m a) m1,rfl⟩);have ne:jZ (fun i=>if xs.getD i 0<=0 then 9 else 0) xs.length≠0:=fun h=>by have h6:(if xs.getD i 0<=0 then (9:Int) else 0)=0:=q5R h i hi;rw[if_pos (by omega)] at h6;exact absurd h6 (by decide)
   unfold jZ at ne ⊢;cases hs:q80 (q8D fun i=>if xs.getD i 0<=0 then (9:Int) else 0) 0 xs.length with
   | none=>rw[hs] at ne;exact absurd rfl ne
   | some x=>
    obtain⟨j,_,_,hj⟩:=qcd hs;unfold q8D at hj;split at hj
    ·cases hj
    ·rename_i hh;cases hj;by_cases c:xs.getD j 0<=0
     ·simp only[c,if_true,qOT]
     ·exact absurd (if_neg c) hh
  rw[if_neg (by rw[hf];decide),hf] at k;have k':(qf yp [.r (rI xs),.i 0]).run=_:=k;simp only[STD,qqj,h1,h2,qxW,h3,h4,rs,k',zf k',h5,show ¬((1:Nat)=0) by decide]
 ·have hf:jZ (fun i=>if xs.getD i 0<=0 then (9:Int) else 0) xs.length=0:=qnZ fun i hi=>by have hm:=quc hi;rw[hx] at hm;obtain⟨j,k,hj,hk,e⟩:=qqE.1 hm;rw[<-hx] at e;have:=qmI (cA m a) hk;have:=qmF (cA l a) hj;refine if_neg ?_;rw[e];unfold mnA mxA at h5;omega
  rw[if_pos hf] at k;have k':(qf yp [.r (rI xs),.i 0]).run=_:=k;simp only[STD,qqj,h1,h2,qxW,h3,h4,rs,k',zf k',h5]
theorem qHS {a:Int}{l m:R}(h:fcE a l m=0)(b:Bool):(q43 [.i a,.r l,.r m,.b b]).run=some (0,[.i (if b=true then mnA m a-mxA l a else mxA m a-mnA l a)]):=by
 obtain⟨ha,⟨l1,l2,l3⟩,⟨m1,m2,m3⟩,_⟩:=qoY h;have x1:=qpH l3 (q4p (cA l a) l1) ha;have x2:=qpH l3 (q3l (cA l a) l1) ha;have y1:=qpH m3 (q4p (cA m a) m1) ha;have y2:=qpH m3 (q3l (cA m a) m1) ha;unfold co at *;have w1:yC .i64 (mnA m a) (mxA l a)=mnA m a-mxA l a:=zP ⟨by unfold mnA mxA;omega,by unfold mnA mxA;omega⟩;have w2:yC .i64 (mxA m a) (mnA l a)=mxA m a-mnA l a:=zP ⟨by unfold mnA mxA;omega,by unfold mnA mxA;omega⟩;rw[qva];cases b
 ·simp only[STD,qqB l2 ha,qqB m2 ha,qwW l1 l2,qwW m1 m2,w2]
 ·simp only[STD,qqB l2 ha,qqB m2 ha,qwW l1 l2,qwW m1 m2,w1]
theorem qJM (a:Int)(l m:R):∃b,(yt [.i a,.r l,.r m]).run=some (0,[.b b]):=by
 obtain⟨b1,h1⟩:=qwp l;obtain⟨b2,h2⟩:=qwp m;rw[qpW];cases b1
 ·exact⟨false,by simp only[STD,h1]⟩
 ·exact⟨b2,by simp only[STD,h1,h2]⟩
end Go.Eng

namespace Go.Eng
def qMM(a:Int)(l m:R)(lo hi:Int):Bool:=decide (lo<=mnA m a-mxA l a/\mxA m a-mnA l a<=hi)
theorem qDZ(a:Int)(l m:R)(b:Bool)(lo hi:Int):(q3y [.i a,.r l,.r m,.b b,.i lo,.i hi]).run=some (0,if fcE a l m=0 then (if lmE lo hi=0 then [.b (qMM a l m lo hi),.i 0] else [.b false,.i (lmE lo hi)]) else [.b false,.i (fcE a l m)]):=by
 rw[qrI];by_cases h:fcE a l m=0
 ·by_cases h2:lmE lo hi=0
  ·rw[if_pos h,if_pos h2];unfold qMM;by_cases c:lo<=mnA m a-mxA l a
   ·have e:ile (mxA m a-mnA l a) hi=decide (lo<=mnA m a-mxA l a/\mxA m a-mnA l a<=hi):=by unfold ile;rw[decide_eq_decide];exact⟨fun h=>⟨c,h⟩,fun h=>h.2⟩
    simp only[STD,qbn,h,(q2W lo hi).1,h2,qjJ h,c,e]
   ·have e:decide (lo<=mnA m a-mxA l a/\mxA m a-mnA l a<=hi)=false:=decide_eq_false fun h=>c h.1;rw[e];simp only[STD,qbn,h,(q2W lo hi).1,h2,qjJ h,c]
  ·rw[if_pos h,if_neg h2];simp only[STD,qbn,h,(q2W lo hi).1,h2]
 ·rw[if_neg h];simp only[STD,qbn,h]
theorem qBL(a:Int)(l m:R)(b:Bool)(lo hi:Int):(q24 [.i a,.r l,.r m,.b b,.i lo,.i hi]).run=some (0,if fcE a l m=0 then (if lmE lo hi=0 then [.b (qMM a l m lo hi),.i 0] else [.b false,.i (lmE lo hi)]) else [.b false,.i (fcE a l m)]):=by
 rw[qqx];by_cases h:fcE a l m=0
 ·by_cases h2:lmE lo hi=0
  ·obtain⟨ha,⟨l1,l2,l3⟩,⟨m1,m2,m3⟩,_⟩:=qoY h;rw[if_pos h,if_pos h2];unfold qMM;have rs:=qHi l3 m3 ha;have re:=qKu l3 m3 l1 m1 a;have rt:=qHS h true;have rf:=qHS h false;rw[if_pos rfl] at rt;rw[if_neg (by decide)] at rf;cases b
   ·by_cases c:mxA m a-mnA l a<=hi
    ·have e:ile lo (mnA m a-mxA l a)=decide (lo<=mnA m a-mxA l a/\mxA m a-mnA l a<=hi):=by unfold ile;rw[decide_eq_decide];exact⟨fun h=>⟨h,c⟩,fun h=>h.1⟩
     simp only[STD,qgE,h,(q2W lo hi).2,h2,rs,re,rf,c,e]
    ·have e:decide (lo<=mnA m a-mxA l a/\mxA m a-mnA l a<=hi)=false:=decide_eq_false fun h=>c h.2;rw[e];simp only[STD,qgE,h,(q2W lo hi).2,h2,rs,re,rf,c]
   ·by_cases c:lo<=mnA m a-mxA l a
    ·have e:ile (mxA m a-mnA l a) hi=decide (lo<=mnA m a-mxA l a/\mxA m a-mnA l a<=hi):=by unfold ile;rw[decide_eq_decide];exact⟨fun h=>⟨c,h⟩,fun h=>h.2⟩
     simp only[STD,qgE,h,(q2W lo hi).2,h2,rs,re,rt,c,e]
    ·have e:decide (lo<=mnA m a-mxA l a/\mxA m a-mnA l a<=hi)=false:=decide_eq_false fun h=>c h.1;rw[e];simp only[STD,qgE,h,(q2W lo hi).2,h2,rs,re,rt,c]
  ·rw[if_pos h,if_neg h2];simp only[STD,qgE,h,(q2W lo hi).2,h2]
 ·rw[if_neg h];simp only[STD,qgE,h]
theorem qp2(x0:Int)(x1 x2:R)(x3:Bool)(x4 x5:Int)(_:IntKind.min .i64<=x0)(_:x0<=IntKind.max .i64)(_:UFit (.sl [(.int .i64),(.int .i64),(.int .i64)]) (.l x1))(_:UFit (.sl [(.int .i64),(.int .i64),(.int .i64)]) (.l x2))(_:IntKind.min .i64<=x4)(_:x4<=IntKind.max .i64)(_:IntKind.min .i64<=x5)(_:x5<=IntKind.max .i64):(jO [.i x0,.r x1,.r x2,.b x3,.i x4,.i x5]).run=some (0,[.b true]):=by
 obtain⟨b,hb⟩:=qJM x0 x1 x2;rw[qiG];cases b with
 | false=>simp only[STD,hb,q9w]
 | true=>
  have r1:=qDZ x0 x1 x2 x3 x4 x5;have r2:=qBL x0 x1 x2 x3 x4 x5;obtain⟨k1,k2,hk⟩:∃k1 k2,(if fcE x0 x1 x2=0 then (if lmE x4 x5=0 then [PV.b (qMM x0 x1 x2 x4 x5),.i 0] else [.b false,.i (lmE x4 x5)]) else [.b false,.i (fcE x0 x1 x2)])=[PV.b k1,.i k2]:=by
   split
   ·split
    ·exact⟨_,_,rfl⟩
    ·exact⟨_,_,rfl⟩
   ·exact⟨_,_,rfl⟩
  rw[hk] at r1 r2;simp only[STD,hb,r1,r2,q9w]
  try simp[ieq]
theorem qC5(a:Int)(l m:R):∃b,(q3U [.i a,.r l,.r m]).run=some (0,[.b b])/\(b=true->fcE a l m=0):=by
 obtain⟨b,hb⟩:=qJM a l m;rw[qvI];cases b
 ·exact⟨false,by simp only[STD,hb],fun h=>by cases h⟩
 ·refine⟨ieq (fcE a l m) 0,by simp only[STD,hb,qgE],fun h=>by simpa[ieq] using h⟩
theorem qMR{s:R}(h0:0<s.length)(h:s.length<=100000):(qZ [.r s]).run=some (0,[.i (cI s (q3s (fun i=>cI s i 0) s.length:Nat) 0)]):=by
 obtain⟨n,hn⟩:∃n,s.length=n+1:=⟨s.length-1,by omega⟩;have lr:qg s=((n+1:Nat):Int):=by unfold qg;rw[hn]
 obtain⟨f,hf⟩:∃f:Nat->Int,f=fun i:Nat=>cI s i 0:=⟨_,rfl⟩;have fe:∀i:Nat,cI s (i:Int) 0=f i:=fun i=>by rw[hf]
 have key:=qp (S:=zg) (fun j=>[.r s,.i (f (q3s f (j+1))),.i ((j+1:Nat):Int)])
  (0,[.i (f (q3s f (n+1)))]) n (by omega) (fun j hj=>by
  have w:=jd (show j+1<n+1 by omega) (show n+1<9223372036854775808 by omega);rw[u6];simp only[STD,lr,w,fe,qEL,show ((j+1:Nat):Int)<((n+1:Nat):Int) by omega,show (0:Int)<=((j+1:Nat):Int) by omega,and_self]) (by
  rw[u6];simp only[STD,lr,show ¬((n+1:Nat):Int)<((n+1:Nat):Int) by omega])
 have a1:q3s f (0+1)=0:=by simp[q3s]
 simp only[a1] at key;have key':(qf zg [.r s,.i (f 0),.i 1]).run=_:=key;have f0:cI s 0 0=f 0:=fe 0;rw[q9C,fe,<-hf,hn];simp only[STD,lr,f0,key',show ¬((n+1:Nat):Int)<1 by omega,show (0:Int)<((n+1:Nat):Int) by omega,show (0:Int)<=0 by decide,and_self]
theorem qMI{s:R}(h0:0<s.length)(h:s.length<=100000):(z6 [.r s]).run=some (0,[.i (cI s (q5y (fun i=>cI s i 0) s.length:Nat) 0)]):=by
 obtain⟨n,hn⟩:∃n,s.length=n+1:=⟨s.length-1,by omega⟩;have lr:qg s=((n+1:Nat):Int):=by unfold qg;rw[hn]
 obtain⟨f,hf⟩:∃f:Nat->Int,f=fun i:Nat=>cI s i 0:=⟨_,rfl⟩;have fe:∀i:Nat,cI s (i:Int) 0=f i:=fun i=>by rw[hf]
 have key:=qp (S:=zh) (fun j=>[.r s,.i (f (q5y f (j+1))),.i ((j+1:Nat):Int)])
  (0,[.i (f (q5y f (n+1)))]) n (by omega) (fun j hj=>by
  have w:=jd (show j+1<n+1 by omega) (show n+1<9223372036854775808 by omega);rw[yS];simp only[STD,lr,w,fe,qEI,show ((j+1:Nat):Int)<((n+1:Nat):Int) by omega,show (0:Int)<=((j+1:Nat):Int) by omega,and_self]) (by
  rw[yS];simp only[STD,lr,show ¬((n+1:Nat):Int)<((n+1:Nat):Int) by omega])
 have a1:q5y f (0+1)=0:=by simp[q5y]
 simp only[a1] at key;have key':(qf zh [.r s,.i (f 0),.i 1]).run=_:=key;have f0:cI s 0 0=f 0:=fe 0;rw[q9K,fe,<-hf,hn];simp only[STD,lr,f0,key',show ¬((n+1:Nat):Int)<1 by omega,show (0:Int)<((n+1:Nat):Int) by omega,show (0:Int)<=0 by decide,and_self]
theorem qof{l:R}(h0:0<l.length)(h:l.length<=64)(a:Int):(qZ [.r (alR l a l.length)]).run=some (0,[.i (mxA l a)])/\(z6 [.r (alR l a l.length)]).run=some (0,[.i (mnA l a)]):=by
 have r1:=qMR (s:=alR l a l.length) (by rw[q5F];exact h0) (by rw[q5F];omega);have r2:=qMI (s:=alR l a l.length) (by rw[q5F];exact h0) (by rw[q5F];omega);rw[r1,r2,q5F];obtain⟨f,hf⟩:∃f:Nat->Int,f=fun i:Nat=>cI (alR l a l.length) i 0:=⟨_,rfl⟩;have fe:∀i:Nat,i<l.length->f i=cA l a i:=fun i hi=>by rw[hf];exact qCp l a hi
 have e1:f (q5y f l.length)=mnA l a:=qGj h0 ⟨_,q4p (cA l a) h0,fe _ (q4p (cA l a) h0)⟩ fun i hi=>by rw[fe i hi];exact qmI (cA l a) hi
 have e2:f (q3s f l.length)=mxA l a:=qGq h0 ⟨_,q3l (cA l a) h0,fe _ (q3l (cA l a) h0)⟩ fun i hi=>by rw[fe i hi];exact qmF (cA l a) hi
 have k1:cI (alR l a l.length) (q5y (fun i:Nat=>cI (alR l a l.length) i 0) l.length:Nat) 0=mnA l a:=by rw[<-e1,hf]
 have k2:cI (alR l a l.length) (q3s (fun i:Nat=>cI (alR l a l.length) i 0) l.length:Nat) 0=mxA l a:=by rw[<-e2,hf]
 rw[k1,k2];exact⟨rfl,rfl⟩
theorem qIu{l u v:R}(h:l.length<=64){a:Int}(ha:0<=a/\a<3):(qY [.r l,.r [[.i a,.l u,.l v]],.i 0]).run=some (0,[.r (alR l a l.length)]):=by
 have ca:cI [[U.i a,.l u,.l v]] 0 0=a:=rfl;have key:=qp (S:=wJ) (fun i=>[.r [[.i a,.l u,.l v]],.i 0,.r l,.i (qg l),.i (i:Int),.r (alR l a i)]) (0,[.r (alR l a l.length)]) l.length (by omega) (fun i hi=>by
  have lr:qg (alR l a i)=(i:Int):=by unfold qg;rw[q5F]
  have e1:∀x:U,qg [[x]]=1:=fun _=>rfl;have ei:qsm [cI l i 0,cI l i 1,cI l i 2] a=cA l a i:=rfl;rw[q7r];simp only[STD,ca,lr,e1,ei,qCY,ha.1,ha.2,jd hi (show l.length<9223372036854775808 by omega),show (i:Int)<l.length by omega,show (0:Int)<=i by omega,show qg l=(l.length:Int) from rfl,show (i:Int)+1<=17592186044416 by omega,and_self]) (by
  rw[q7r];simp only[STD,q7U])
 have key':(qf wJ [.r [[.i a,.l u,.l v]],.i 0,.r l,.i (qg l),.i 0,.r []]).run=_:=key;rw[qjZ];simp only[STD,key']
theorem quE(x0:Int)(x1 x2:R)(x3:Int)(x4 x5:R)(_:IntKind.min .i64<=x0)(_:x0<=IntKind.max .i64)(_:UFit (.sl [(.int .i64),(.int .i64),(.int .i64)]) (.l x1))(_:UFit (.sl [(.int .i64),(.int .i64),(.int .i64)]) (.l x2))(lox3:IntKind.min .i64<=x3)(hix3:x3<=IntKind.max .i64)(_:UFit (.sl [(.int .i64),(.int .i64),(.int .i64)]) (.l x4))(_:UFit (.sl [(.int .i64),(.int .i64),(.int .i64)]) (.l x5)):(kI [.i x0,.r x1,.r x2,.i x3,.r x4,.r x5]).run=some (0,[.b true]):=by
 obtain⟨b,hb,hr⟩:=qC5 x0 x1 x2;obtain⟨c,hc,hs⟩:=qC5 x3 x4 x5;rw[qmM];cases b with
 | false=>simp only[STD,hb,q9w]
 | true=>
  cases c with
  | false=>simp only[STD,hb,hc,q9w]
  | true=>
   by_cases ax:x0=x3
   case neg=>simp only[STD,hb,hc,ax,q9w]
   subst ax;have h:=hr rfl;have g:=hs rfl;have r1:=qol x0 x1 x2 true;have r2:=qol x0 x4 x5 false;rw[if_pos h,if_pos rfl] at r1;rw[if_pos g,if_neg (by decide)] at r2;obtain⟨ha,⟨l1,l2,l3⟩,⟨m1,m2,m3⟩,_⟩:=qoY h;obtain⟨_,⟨u1,u2,u3⟩,⟨v1,v2,v3⟩,_⟩:=qoY g;have a1:=qIu (l:=x1) (u:=x1) (v:=x2) l2 ha;have a2:=qIu (l:=x4) (u:=x1) (v:=x2) u2 ha;have a3:=qIu (l:=x5) (u:=x1) (v:=x2) v2 ha;have a4:=qIu (l:=x2) (u:=x1) (v:=x2) m2 ha;have b1:=qpH l3 (q3l (cA x1 x0) l1) ha;have b2:=qpH u3 (q4p (cA x4 x0) u1) ha;have b3:=qpH v3 (q3l (cA x5 x0) v1) ha;unfold co at *;have w1:yC .i64 (mxA x1 x0) (mnA x4 x0)=mxA x1 x0-mnA x4 x0:=zP ⟨by unfold mnA mxA;omega,by unfold mnA mxA;omega⟩;have w2:qu .i64 (mxA x5 x0) (mxA x1 x0-mnA x4 x0)=mxA x5 x0+(mxA x1 x0-mnA x4 x0):=zt ⟨by unfold mnA mxA;omega,by unfold mnA mxA;omega⟩;have w0:qu .i64 0 0=0:=by decide
   have c1:cR [[U.i x0,.l x1,.l x2]] 0 1=x1:=rfl;have c2:cR [[U.i x0,.l x1,.l x2]] 0 2=x2:=rfl;have e:ile (mxA x5 x0+(mxA x1 x0-mnA x4 x0)) (mnA x2 x0)=ile (mxA x5 x0-mnA x4 x0) (mnA x2 x0-mxA x1 x0):=by unfold ile;rw[decide_eq_decide];constructor<;>intro _<;>omega
   simp only[STD,hb,hc,r1,r2,w0,c1,c2,a1,a2,a3,a4,(qof l1 l2 x0).1,(qof u1 u2 x0).2,(qof v1 v2 x0).1,(qof m1 m2 x0).2,w1,w2,e,q9w]
theorem qJd(x y:Int):qsl [[.i x,.i y]]=ptE x y:=by have h:=qoq x y;have hp:ptA [[.i x,.i y]] 0=ptE x y:=rfl;unfold qsl jZ;rw[if_neg (by simp[qg])];simp only[qON,qPb,q80,q8D,hp];rcases h with h|h<;>simp[h]
theorem qlG(x y:Int):(kY [.i x,.i y]).run=some (0,[.b (decide (ptE x y=0))]):=by rw[quI];simp only[STD,vH,qJd];rfl
def qJh(l:R)(i:Nat):Int:=if ¬(-100000<=cI l i 0/\cI l i 0<=100000) then 2 else if 0<i/\cI l i 0<=cI l ((i-1:Nat):Int) 0 then 9 else if qg (cR l i 1)=0 then 13 else qsl (cR l i 1)
def qxX(l:R):Int:=if qg l=0 then 13 else if 32<qg l then 5 else jZ (qJh l) l.length
theorem qrR(l:R)(i:Nat)(m:R)(hm:0<i->m=l):(kl [.i (cI l i 0),.r (cR l i 1),.b (decide (0<i)),.r m,.i ((i-1:Nat):Int)]).run=some (0,[.i (qJh l i)]):=by
 rw[qqD];simp only[STD,vH];unfold qJh;by_cases h1:cI l i 0 < -100000
 ·simp[h1,show ¬(-100000<=cI l i 0) by omega]
 ·by_cases h2:100000<cI l i 0
  ·simp[h1,h2,show ¬(cI l i 0<=100000) by omega]
  ·have h12:-100000<=cI l i 0/\cI l i 0<=100000:=by omega
   by_cases h3:0<i
   ·obtain rfl:=hm h3;by_cases h4:cI m i 0<=cI m ((i-1:Nat):Int) 0<;>by_cases h5:qg (cR m i 1)=0<;>simp[h1,h2,h12,h3,h4,h5]
   ·by_cases h5:qg (cR l i 1)=0<;>simp[h1,h2,h12,h3,h5]
theorem quO(l:R):(q56 [.r l]).run=some (0,[.i (qxX l)]):=by
 rw[quk];unfold qxX;by_cases h0:qg l=0
 ·simp only[STD,h0]
 by_cases h:32<qg l
 ·simp only[STD,h0,h]
 ·have hl:l.length<9223372036854775808:=by unfold qg at h;omega
  have k:=qe7 (S:=ww) (fun i=>[.b (decide (0<i)),.r (if i=0 then [] else l),.i ((i-1:Nat):Int),.i (qg l),.i (i:Int),.i 0,.r l]) (qJh l) [.r l] [.i 0,.r l] l.length hl (fun i hi=>by
   rw[q9d];simp only[STD,qib hi,q9A,qrR l i (if i=0 then [] else l) (fun h=>by simp[show ¬i=0 by omega]),and_self,jd hi hl];by_cases he:qJh l i=0
   ·simp[he]
   ·simp[he]) (by
   rw[q9d];simp only[STD,q7U])
  by_cases hf:jZ (qJh l) l.length=0
  ·rw[if_pos hf] at k;have k':(qf ww [.b false,.r [],.i 0,.i (qg l),.i 0,.i 0,.r l]).run=_:=k;simp only[STD,k',zf k',hf,h,h0]
  ·rw[if_neg hf] at k;have k':(qf ww [.b false,.r [],.i 0,.i (qg l),.i 0,.i 0,.r l]).run=_:=k;simp only[STD,k',zf k',h,h0,show ¬((1:Nat)=0) by decide]
def ql5(l:R)(x y:Int):Int:=if qxX l=0 then ptE x y else qxX l
theorem qeC(l:R)(x y:Int):(jI [.r l,.i x,.i y]).run=some (0,[.i (ql5 l x y)]):=by rw[qtU];simp only[STD,quO,qlG];unfold ql5;have:=qoq x y;by_cases h:qxX l=0<;>rcases this with h2|h2<;>simp[h,h2]
variable {i:Nat}
def mn:List Int->Int
 | []=>0
 | a::l=>l.foldl qaS a
def mx:List Int->Int
 | []=>0
 | a::l=>l.foldl qiL a
theorem qJA {l:List Int}(h:l≠[])(a:Int):mn (l++[a])=qaS (mn l) a:=by
 cases l with
 | nil=>exact absurd rfl h
 | cons b l=>simp[mn,List.foldl_append]
theorem qJY {l:List Int}(h:l≠[])(a:Int):mx (l++[a])=qiL (mx l) a:=by
 cases l with
 | nil=>exact absurd rfl h
 | cons b l=>simp[mx,List.foldl_append]
theorem qFb:∀(l:List Int) (a:Int),(∀x,x∈a::l->l.foldl qaS a<=x)/\l.foldl qaS a∈a::l
 | [],a=>by simp
 | b::l,a=>by
  obtain⟨h1,h2⟩:=qFb l (qaS a b);have ha:qaS a b=a\/qaS a b=b:=by unfold qaS;split<;>simp
  have hl:qaS a b<=a/\qaS a b<=b:=by unfold qaS;split<;>omega
  simp only[qPH];have h0:=h1 (qaS a b) qOx;refine⟨fun x hx=>?_,?_⟩
  ·rcases qOp.1 hx with rfl|hx
   ·omega
   ·rcases qOp.1 hx with rfl|hx
    ·omega
    ·exact h1 x (qOu _ hx)
  ·rcases qOp.1 h2 with h2|h2
   ·rw[h2];rcases ha with ha|ha<;>rw[ha]<;>simp
   ·exact qOu _ (qOu _ h2)
theorem qBw:∀(l:List Int) (a:Int),(∀x,x∈a::l->x<=l.foldl qiL a)/\l.foldl qiL a∈a::l
 | [],a=>by simp
 | b::l,a=>by
  obtain⟨h1,h2⟩:=qBw l (qiL a b);have ha:qiL a b=a\/qiL a b=b:=by unfold qiL;split<;>simp
  have hl:a<=qiL a b/\b<=qiL a b:=by unfold qiL;split<;>omega
  simp only[qPH];have h0:=h1 (qiL a b) qOx;refine⟨fun x hx=>?_,?_⟩
  ·rcases qOp.1 hx with rfl|hx
   ·omega
   ·rcases qOp.1 hx with rfl|hx
    ·omega
    ·exact h1 x (qOu _ hx)
  ·rcases qOp.1 h2 with h2|h2
   ·rw[h2];rcases ha with ha|ha<;>rw[ha]<;>simp
   ·exact qOu _ (qOu _ h2)
theorem qGp {l:List Int}(h:l≠[]):mn l∈l:=by
 cases l with
 | nil=>exact absurd rfl h
 | cons a l=>exact(qFb l a).2
theorem qLp {l:List Int}{x:Int}(h:x∈l):x<=mx l:=by
 cases l with
 | nil=>cases h
 | cons a l=>exact(qBw l a).1 x h
theorem qGQ {l:List Int}(h:l≠[]):mx l∈l:=by
 cases l with
 | nil=>exact absurd rfl h
 | cons a l=>exact(qBw l a).2
def qqy(l:List Int):R:=l.map fun v=>[.i v]
theorem qbF (l:List Int):qg (qqy l)=l.length:=by simp[qg,qqy]
theorem qwU {l:List Int}(h:i<l.length):cI (qqy l) i 0=l[i]:=by unfold cI zZ qqy;simp[h,U.toI]
theorem qfA {l:List Int}(h:i<l.length):l.take (i+1)=l.take i++[l[i]]:=by rw[List.take_add_one];simp[h]
theorem qAr {l:List Int}(h:0<l.length)(i:Nat):l.take (i+1)≠[]:=by
 cases l with
 | nil=>simp at h
 | cons a l=>simp
theorem qzd (l:List Int)(h0:0<l.length)(hl:l.length<1000000000000):(z6 [.r (qqy l)]).run=some (0,[.i (mn l)]):=by
 rw[q9K];have k:=qp (S:=zh) (fun i=>[.r (qqy l),.i (mn (l.take (i+1))),.i ((i+1:Nat):Int)]) (0,[.i (mn l)]) (l.length-1) (by omega) (fun i hi=>by
  rw[yS];have h1:i+1<l.length:=by omega
  simp only[STD,qbF,show ((i+1:Nat):Int)<(l.length:Int) by omega,q9A,and_self,qwU h1,jd h1 (by omega),<-qJA (qAr h0 i),<-qfA h1]) (by
  rw[yS];simp only[STD,qbF,show l.length-1+1=l.length by omega,qPB,Int.lt_irrefl])
 have e0:mn (l.take (0+1))=cI (qqy l) 0 0:=by have:=qwU h0;rw[show ((0:Nat):Int)=0 from rfl] at this;rw[this,qfA h0];simp[mn]
 simp only[e0] at k;have k':(qf zh [.r (qqy l),.i (cI (qqy l) 0 0),.i 1]).run=_:=k;have h1:¬qg (qqy l)<1:=by rw[qbF];omega
 have h2:(0:Int)<qg (qqy l):=by rw[qbF];omega
 simp only[STD,h1,h2,k',qOX,and_self]
theorem qzI (l:List Int)(h0:0<l.length)(hl:l.length<1000000000000):(qZ [.r (qqy l)]).run=some (0,[.i (mx l)]):=by
 rw[q9C];have k:=qp (S:=zg) (fun i=>[.r (qqy l),.i (mx (l.take (i+1))),.i ((i+1:Nat):Int)]) (0,[.i (mx l)]) (l.length-1) (by omega) (fun i hi=>by
  rw[u6];have h1:i+1<l.length:=by omega
  simp only[STD,qbF,show ((i+1:Nat):Int)<(l.length:Int) by omega,q9A,and_self,qwU h1,jd h1 (by omega),<-qJY (qAr h0 i),<-qfA h1]) (by
  rw[u6];simp only[STD,qbF,show l.length-1+1=l.length by omega,qPB,Int.lt_irrefl])
 have e0:mx (l.take (0+1))=cI (qqy l) 0 0:=by have:=qwU h0;rw[show ((0:Nat):Int)=0 from rfl] at this;rw[this,qfA h0];simp[mx]
 simp only[e0] at k;have k':(qf zg [.r (qqy l),.i (cI (qqy l) 0 0),.i 1]).run=_:=k;have h1:¬qg (qqy l)<1:=by rw[qbF];omega
 have h2:(0:Int)<qg (qqy l):=by rw[qbF];omega
 simp only[STD,h1,h2,k',qOX,and_self]
def sqr(x y:Int):Int:=x*x+y*y
def far(ax ay:Int)(l:R)(i:Nat):Int:=sqr (cI l i 0-ax) (cI l i 1-ay)
def rad(ax ay:Int)(l:R):List Int:=(List.range l.length).map (far ax ay l)
theorem qtb (ax ay:Int)(l:R):(rad ax ay l).length=l.length:=by simp[rad]
theorem qFA (ax ay:Int)(l:R)(h:i<(rad ax ay l).length):(rad ax ay l)[i]=far ax ay l i:=by simp[rad]
def okP(ax ay:Int)(l:R):Prop:=ptE ax ay=0/\∀i,i<l.length->ptA l i=0
theorem qNn {x:Int}(h1:-200000<=x)(h2:x<=200000):0<=x*x/\x*x<=40000000000:=by
 have:=qAa h1 h2 h1 h2;have h3:0<=x*x:=by
  rcases (show 0<=x\/0<=-x by omega) with h|h
  ·exact qOY h h
  ·have:=qOY h h;rwa [qPn] at this
 omega
theorem qMT {ax ay x y:Int}(h:ptE ax ay=0)(h2:ptE x y=0) :qu .i64 (zw .i64 (yC .i64 x ax) (yC .i64 x ax)) (zw .i64 (yC .i64 y ay) (yC .i64 y ay))=sqr (x-ax) (y-ay)/\0<=sqr (x-ax) (y-ay)/\sqr (x-ax) (y-ay)<=80000000000:=by obtain⟨a1,a2,a3,a4⟩:=qs8 h;obtain⟨b1,b2,b3,b4⟩:=qs8 h2;have e1:yC .i64 x ax=x-ax:=zP (by omega);have e2:yC .i64 y ay=y-ay:=zP (by omega);have q1:=qNn (x:=x-ax) (by omega) (by omega);have q2:=qNn (x:=y-ay) (by omega) (by omega);rw[e1,e2,zV (by omega),zV (by omega),zt (by omega)];unfold sqr;exact⟨rfl,by omega,by omega⟩
def qiZ(ax ay:Int)(m:R)(k:Nat):List Int:=((List.range k).map fun i:Nat=>rad ax ay (cR m (i:Int) 0)).flatten
theorem qpG (ax ay:Int)(m:R)(k:Nat):qiZ ax ay m (k+1)=qiZ ax ay m k++rad ax ay (cR m k 0):=by simp[qiZ,qP6]
theorem qIv (l:List Int)(v:Int):yB (qqy l) [[.i v]]=qqy (l++[v]):=by simp[yB,qqy]
theorem qsR{ax ay:Int}{m:R}(h:∀i,i<m.length->(cR m i 0).length<=64):∀k,k<=m.length->(qiZ ax ay m k).length<=64*k
 | 0,_=>by simp[qiZ]
 | k+1,hk=>by
  have:=qsR (ax:=ax) (ay:=ay) h k (by omega);rw[qpG,qOz,qtb];have:=h k (by omega);omega
theorem qxT {ax ay:Int}{m l:R}{n k:Int}{A:List Int}(h:okP ax ay l)(hl:l.length<=64)(hA:A.length<=1000000) :(qf uh [.r m,.i n,.i k,.r l,.i (qg l),.i 0,.i ax,.i ay,.r (qqy A)]).run=some (0,[.r m,.i n,.i k,.i ax,.i ay,.r (qqy (A++rad ax ay l))]):=by
 have hR:=qtb ax ay l;have kk:=qp (S:=uh) (fun i=>[.r m,.i n,.i k,.r l,.i (qg l),.i (i:Int),.i ax,.i ay,.r (qqy (A++(rad ax ay l).take i))]) (0,[.r m,.i n,.i k,.i ax,.i ay,.r (qqy (A++rad ax ay l))]) l.length (by omega) (fun i hi=>by
  rw[qe9];have hi':i<(rad ax ay l).length:=by omega
  simp only[STD,qib hi,q9A,and_self,jd hi (by omega),(qMT h.1 (h.2 i hi)).1,qJx,qbF];have hle:((A++(rad ax ay l).take i).length:Int)+1<=17592186044416:=by simp;omega
  rw[if_pos hle,qIv,qfA hi',qFA,<-qOL];rfl) (by
  rw[qe9];simp only[STD,q7U];rw[List.take_of_length_le (by omega)])
 simpa using kk
theorem qmf {ax ay:Int}{m:R}(hm:m.length<=1000)(h:∀i,i<m.length->okP ax ay (cR m i 0))(hl:∀i,i<m.length->(cR m i 0).length<=64)(h0:0<(qiZ ax ay m m.length).length) :(wR [.i ax,.i ay,.r m]).run=some (0,[.i (mn (qiZ ax ay m m.length)),.i (mx (qiZ ax ay m m.length))]):=by
 rw[qtK];have k:=qp (S:=kt) (fun i=>[.r m,.i (qg m),.i (i:Int),.i ax,.i ay,.r (qqy (qiZ ax ay m i))]) (0,[.r (qqy (qiZ ax ay m m.length))]) m.length (by omega) (fun i hi=>by
  rw[qfR];have hA:=qsR (ax:=ax) (ay:=ay) hl i (by omega);simp only[STD,qib hi,q9A,and_self,qxT (m:=m) (n:=qg m) (k:=(i:Int)) (h i hi) (hl i hi) (show (qiZ ax ay m i).length<=1000000 by omega),jd hi (by omega),qpG]) (by
  rw[qfR];simp only[STD,q7U])
 have k':(qf kt [.r m,.i (qg m),.i 0,.i ax,.i ay,.r []]).run=_:=k;have hA:=qsR (ax:=ax) (ay:=ay) hl m.length (qOe _);simp only[STD,k',qzd _ h0 (by omega),qzI _ h0 (by omega)]
def q7Z(lo hi t:Int):Prop:=hi-lo-t*t<=0\/(hi-lo-t*t)*(hi-lo-t*t)<=4*t*t*lo
instance (lo hi t:Int):Decidable (q7Z lo hi t):=by unfold q7Z;exact inferInstance
theorem qBZ {a b:Int}(ha:0<=a)(ha2:a<1099511627776)(hb:0<=b)(hb2:b<1099511627776) :∃h l,(q2b [.i a,.i b]).run=some (0,[.i h,.i l])/\h*1099511627776+l=a*b/\0<=l/\l<1099511627776:=by
 have q:∀x:Int,0<=x->x<9223372036854775808->qdo .i64 x 1048576=x/1048576:=fun x hx hx2=>by unfold qdo;rw[Int.tdiv_eq_ediv_of_nonneg hx];have:=zt (x:=x/1048576) (y:=0) (by omega);unfold qu at this;rwa [Int.add_zero] at this
 have q2:∀x:Int,0<=x->x<9223372036854775808->qdo .i64 x 1099511627776=x/1099511627776:=fun x hx hx2=>by unfold qdo;rw[Int.tdiv_eq_ediv_of_nonneg hx];have:=zt (x:=x/1099511627776) (y:=0) (by omega);unfold qu at this;rwa [Int.add_zero] at this
 have r:∀x n:Int,0<=x->qs2 x n=x%n:=fun x n hx=>by unfold qs2;rw[Int.tmod_eq_emod_of_nonneg hx]
 obtain⟨a1,hq1⟩:∃z,z=a/1048576:=⟨_,rfl⟩;obtain⟨a0,hr1⟩:∃z,z=a%1048576:=⟨_,rfl⟩;obtain⟨b1,hq2⟩:∃z,z=b/1048576:=⟨_,rfl⟩;obtain⟨b0,hr2⟩:∃z,z=b%1048576:=⟨_,rfl⟩;have ea:a=1048576*a1+a0:=by omega
 have eb:b=1048576*b1+b0:=by omega
 have p11:=qAa (a:=a1) (b:=b1) (A:=1048575) (B:=1048575) (by omega) (by omega) (by omega) (by omega);have p10:=qAa (a:=a1) (b:=b0) (A:=1048575) (B:=1048575) (by omega) (by omega) (by omega) (by omega);have p01:=qAa (a:=a0) (b:=b1) (A:=1048575) (B:=1048575) (by omega) (by omega) (by omega) (by omega);have p00:=qAa (a:=a0) (b:=b0) (A:=1048575) (B:=1048575) (by omega) (by omega) (by omega) (by omega);have n11:=qOY (show 0<=a1 by omega) (show 0<=b1 by omega);have n10:=qOY (show 0<=a1 by omega) (show 0<=b0 by omega);have n01:=qOY (show 0<=a0 by omega) (show 0<=b1 by omega);have n00:=qOY (show 0<=a0 by omega) (show 0<=b0 by omega);have eab:a*b=1099511627776*(a1*b1)+1048576*(a1*b0+a0*b1)+a0*b0:=by rw[ea,eb];grind
 have w10:zw .i64 a1 b0=a1*b0:=zV (by omega);have w01:zw .i64 a0 b1=a0*b1:=zV (by omega);have w11:zw .i64 a1 b1=a1*b1:=zV (by omega);have w00:zw .i64 a0 b0=a0*b0:=zV (by omega);rw[eab,qtL];simp only[q a ha (by omega),q b hb (by omega),r a _ ha,r b _ hb,<-hq1,<-hq2,<-hr1,<-hr2,w10,w01,w11,w00];generalize a1*b1=x11 at *;generalize a1*b0=x10 at *;generalize a0*b1=x01 at *;generalize a0*b0=x00 at *;have wm:qu .i64 x10 x01=x10+x01:=zt (by omega);have wml:zw .i64 ((x10+x01)%1048576) 1048576=(x10+x01)%1048576*1048576:=zV (by omega);have wl:qu .i64 x00 ((x10+x01)%1048576*1048576)=x00+(x10+x01)%1048576*1048576:=zt (by omega);have wh1:qu .i64 x11 ((x10+x01)/1048576)=x11+(x10+x01)/1048576:=zt (by omega);have wh:qu .i64 (x11+(x10+x01)/1048576) ((x00+(x10+x01)%1048576*1048576)/1099511627776)=x11+(x10+x01)/1048576+(x00+(x10+x01)%1048576*1048576)/1099511627776:=zt (by omega);simp only[wm,q _ (show 0<=x10+x01 by omega) (by omega),r _ _ (show 0<=x10+x01 by omega),wml,wl,r _ _ (show 0<=x00+(x10+x01)%1048576*1048576 by omega),q2 _ (show 0<=x00+(x10+x01)%1048576*1048576 by omega) (by omega),wh1,wh];exact⟨_,_,rfl,by omega,by omega,by omega⟩
end Go.Eng

namespace Go.Eng
variable {l:R}
theorem qxD (x:Int):0<=x*x:=by
 rcases (show 0<=x\/0<=-x by omega) with h|h
 ·exact qOY h h
 ·have:=qOY h h;rwa [qPn] at this
theorem qHD {x y:Int}(h0:0<=x)(h:x<=y):x*x<=y*y:=Int.mul_le_mul h h h0 (by omega)
theorem qAF (a b c d:Int)(hb:0<=b/\b<1099511627776)(hd:0<=d/\d<1099511627776) :(kH [.i a,.i b,.i c,.i d]).run=some (0,[.b (decide (a*1099511627776+b<=c*1099511627776+d))]):=by
 rw[qmx];simp only[STD];by_cases h1:a<c
 ·rw[if_pos h1,decide_eq_true (by omega)]
 ·rw[if_neg h1];by_cases h2:a=c
  ·rw[if_pos h2];subst h2;by_cases h3:b<=d
   ·simp[ile,h3]
   ·simp[ile,h3]
  ·rw[if_neg h2,decide_eq_false (by omega)]
theorem q7L {lo hi t:Int}(h1:0<=lo)(h2:lo<=hi)(h3:hi<=80000000000)(h4:0<=t)(h5:t<=400000):(yZ [.i lo,.i hi,.i t]).run=some (0,[.b (decide (q7Z lo hi t))]):=by
 have ht:=qAa (a:=t) (b:=t) (A:=400000) (B:=400000) (by omega) h5 (by omega) h5;have ht0:=qxD t;have e1:yC .i64 hi lo=hi-lo:=zP (by omega);have e2:zw .i64 t t=t*t:=zV (by omega);have e3:yC .i64 (hi-lo) (t*t)=hi-lo-t*t:=zP (by omega);have e4:zw .i64 4 t=4*t:=zV (by omega);have e4':4*t*t=4*(t*t):=Int.mul_assoc _ _ _;have e5:zw .i64 (4*t) t=4*t*t:=zV (by rw[e4'];omega);rw[qvj];simp only[STD,e1,e2,e3,e4,e5];by_cases hd:hi-lo-t*t<=0
 ·rw[if_pos hd,decide_eq_true (show q7Z lo hi t from .inl hd)]
 ·have hdd:0<(hi-lo-t*t)*(hi-lo-t*t):=Int.mul_pos (by omega) (by omega);by_cases hn:4*t*t=0
  ·rw[if_neg hd,if_pos hn,decide_eq_false fun h=>?_];rcases h with h|h
   ·exact hd h
   ·rw[hn,Int.zero_mul] at h;omega
  ·by_cases hl:lo=0
   ·rw[if_neg hd,if_neg hn,if_pos hl,decide_eq_false fun h=>?_];rcases h with h|h
    ·exact hd h
    ·rw[show 4*t*t*lo=0 by rw[hl,qQ2]] at h;omega
   ·obtain⟨a,b,f1,f2,f3,f4⟩:=qBZ (a:=hi-lo-t*t) (b:=hi-lo-t*t) (by omega) (by omega) (by omega) (by omega);obtain⟨c,d,g1,g2,g3,g4⟩:=qBZ (a:=4*t*t) (b:=lo) (by rw[e4'];omega) (by rw[e4'];omega) (by omega) (by omega);have hdec:decide (q7Z lo hi t)=decide ((hi-lo-t*t)*(hi-lo-t*t)<=4*t*t*lo):=by
     by_cases hq:(hi-lo-t*t)*(hi-lo-t*t)<=4*t*t*lo
     ·rw[decide_eq_true hq,decide_eq_true (show q7Z lo hi t from .inr hq)]
     ·rw[decide_eq_false hq,decide_eq_false fun h=>?_];rcases h with h|h
      ·exact hd h
      ·exact hq h
    rw[hdec,if_neg hd,if_neg hn,if_neg hl];have hm:=qAF a b c d ⟨f3,f4⟩ ⟨g3,g4⟩;rw[f2,g2] at hm;simp only[STD,f1,g1,hm]
theorem qFs {lo hi t s:Int}(h1:0<=lo)(h4:0<=t)(hs:t<=s)(h:q7Z lo hi t):q7Z lo hi s:=by
 have hts:=qHD h4 hs;unfold q7Z at *;by_cases hd:hi-lo-s*s<=0
 ·exact .inl hd
 ·rcases h with h|h
  ·omega
  ·right;have a1:(hi-lo-s*s)*(hi-lo-s*s)<=(hi-lo-t*t)*(hi-lo-t*t):=qHD (by omega) (by omega);have a2:4*t*t*lo<=4*s*s*lo:=by rw[Int.mul_assoc 4 t t,Int.mul_assoc 4 s s];exact qPS (by omega) h1
   omega
theorem qD2 {lo hi:Int}(h1:0<=lo)(h3:hi<=80000000000):q7Z lo hi 400000:=.inl (by omega)
theorem qe1 (t:Int):(vX [.i t]).run=some (0,[.b (decide (0<=t/\t<=100000))]):=by rw[qnq];simp only[STD];by_cases h:0<=t<;>simp[h,ile]
theorem qE8 {x y:Int}(h:ql5 l x y=0):qxX l=0/\ptE x y=0:=by
 unfold ql5 at h;split at h
 ·exact⟨by assumption,h⟩
 ·rename_i h1;exact absurd h h1
structure Secs (ax ay:Int) (l:R):Prop where
 pos:0<l.length
 le:l.length<=32
 axis:ptE ax ay=0
 pts:∀i:Nat,i<l.length->0<(cR l i 1).length/\(cR l i 1).length<=64/\okP ax ay (cR l i 1)
theorem qAD {x y:Int}(h:ql5 l x y=0):Secs x y l:=by
 obtain⟨h1,h2⟩:=qE8 h;unfold qxX at h1;split at h1
 ·omega
 ·split at h1
  ·omega
  ·rename_i a b;unfold qg at a b;refine⟨by omega,by omega,h2,fun i hi=>?_⟩;have:=q5R h1 i hi;unfold qJh at this;split at this
   ·omega
   ·split at this
    ·omega
    ·split at this
     ·omega
     ·rename_i c;unfold qsl at this;split at this
      ·omega
      ·rename_i d;unfold qg at c d;exact⟨by omega,by omega,h2,q5R this⟩
def q1U(ax ay:Int)(l:R):List Int:=((List.range l.length).map fun i:Nat=>rad ax ay (cR l (i:Int) 1)).flatten
theorem qAM {ax ay x:Int}:x∈rad ax ay l↔∃j,j<l.length/\x=far ax ay l j:=by unfold rad;simp only[qOP,qOV];exact⟨fun⟨j,h1,h2⟩=>⟨j,h1,h2.symm⟩,fun⟨j,h1,h2⟩=>⟨j,h1,h2.symm⟩⟩
theorem qqK {ax ay x:Int}:x∈q1U ax ay l↔∃i:Nat,i<l.length/\x∈rad ax ay (cR l i 1):=by unfold q1U;simp only[List.mem_flatten,qOP,qOV];exact⟨fun⟨a,⟨i,h1,h2⟩,h3⟩=>⟨i,h1,h2▸h3⟩,fun⟨i,h1,h2⟩=>⟨_,⟨i,h1,rfl⟩,h2⟩⟩
theorem qH8 {ax ay:Int}(h:okP ax ay l){x:Int}(hx:x∈rad ax ay l):0<=x/\x<=80000000000:=by obtain⟨j,h1,rfl⟩:=qAM.1 hx;have:=qMT h.1 (h.2 j h1);exact this.2
theorem qK4 {ax ay:Int}(h:0<l.length):rad ax ay l≠[]:=by intro e;have:=qtb ax ay l;rw[e] at this;simp at this;omega
theorem qtT {ax ay:Int}(h:Secs ax ay l):q1U ax ay l≠[]:=by have h0:=(h.pts 0 h.pos).1;have:far ax ay (cR l (0:Nat) 1) 0∈q1U ax ay l:=qqK.2 ⟨0,h.pos,qAM.2 ⟨0,h0,rfl⟩⟩;intro e;rw[e] at this;cases this
theorem qs7 {ax ay:Int}(h:okP ax ay l)(h0:0<l.length):0<=mn (rad ax ay l)/\mn (rad ax ay l)<=mx (rad ax ay l)/\mx (rad ax ay l)<=80000000000:=by have a:=qGp (qK4 (ax:=ax) (ay:=ay) h0);exact⟨(qH8 h a).1,qLp a,(qH8 h (qGQ (qK4 h0))).2⟩
theorem qCF {ax ay:Int}(h:Secs ax ay l):0<=mn (q1U ax ay l)/\mn (q1U ax ay l)<=mx (q1U ax ay l)/\mx (q1U ax ay l)<=80000000000:=by have a:=qGp (qtT h);have b:=qGQ (qtT h);obtain⟨i,h1,h2⟩:=qqK.1 a;obtain⟨j,h3,h4⟩:=qqK.1 b;exact⟨(qH8 (h.pts i h1).2.2 h2).1,qLp a,(qH8 (h.pts j h3).2.2 h4).2⟩
theorem qp0 {ax ay:Int}(h:Secs ax ay l):(q1c [.r l,.i ax,.i ay]).run=some (0,[.i (mn (q1U ax ay l)),.i (mx (q1U ax ay l))]):=by
 rw[qvf];have hl:=h.le;have k:=qp (S:=q0O) (fun i=>[.r l,.i (qg l),.i (i:Int),.i ax,.i ay,.r (qzX (fun i=>[.l (cR l i 1)]) i)]) (0,[.i ax,.i ay,.r (qzX (fun i=>[.l (cR l i 1)]) l.length)]) l.length (by omega) (fun i hi=>by
  rw[qij];simp only[STD,qib hi,q9A,and_self,jd hi (by omega)];rw[if_pos (qG4 hi (by omega) _),<-qEC]) (by
  rw[qij];simp only[STD,q7U])
 have k':(qf q0O [.r l,.i (qg l),.i 0,.i ax,.i ay,.r []]).run=_:=k;have hc:∀i:Nat,i<l.length->cR (qzX (fun i=>[.l (cR l i 1)]) l.length) i 0=cR l i 1:=fun i hi=>by rw[qKm _ hi];rfl
 have hA:qiZ ax ay (qzX (fun i=>[.l (cR l i 1)]) l.length) (qzX (fun i=>[.l (cR l i 1)]) l.length).length=q1U ax ay l:=by unfold qiZ q1U;rw[qsb];congr 1;exact qPl fun i hi=>by rw[hc i (qOV.1 hi)]
 have hne:=qtT h;have hlen:0<(q1U ax ay l).length:=qPJ.2 hne;have e:=qmf (ax:=ax) (ay:=ay) (m:=qzX (fun i=>[.l (cR l i 1)]) l.length) (by rw[qsb];omega) (fun i hi=>by rw[qsb] at hi;rw[hc i hi];exact(h.pts i hi).2.2)
  (fun i hi=>by rw[qsb] at hi;rw[hc i hi];exact(h.pts i hi).2.1) (by rw[hA];exact hlen)
 rw[hA] at e;simp only[STD,k',e]
def qNK(l:R)(ax ay t:Int):List PV:=if ql5 l ax ay≠0 then [.b false,.i (ql5 l ax ay)] else if t<0\/100000<t then [.b false,.i 2] else [.b (decide (q7Z (mn (q1U ax ay l)) (mx (q1U ax ay l)) t)),.i 0]
theorem qv5 (l:R)(ax ay t:Int):(q09 [.r l,.i ax,.i ay,.i t]).run=some (0,qNK l ax ay t):=by
 rw[qsL];simp only[STD,qeC,qe1];unfold qNK;by_cases hg:ql5 l ax ay=0
 ·by_cases h6:0<=t/\t<=100000
  ·have hs:=qAD hg;obtain⟨a,b,c⟩:=qCF hs;simp only[hg,h6,STD,qp0 hs,q7L a b c h6.1 (show t<=400000 by omega),and_self,show ¬(t<0\/100000<t) by omega]
  ·simp only[hg,h6,STD,show (t<0\/100000<t) by omega]
 ·simp only[hg,STD]
def qE5(l:R)(ax ay t:Int)(i:Nat):Bool:=decide (q7Z (mn (rad ax ay (cR l i 1))) (mx (rad ax ay (cR l i 1))) t)
def qzD(l:R)(ax ay t:Int):Nat:=(q80 (fun i=>if qE5 l ax ay t i=true then none else some i) 0 l.length).getD l.length
theorem qng {ax ay:Int}(h:okP ax ay l)(h0:0<l.length)(hl:l.length<=64):(wR [.i ax,.i ay,.r [[.l l]]]).run=some (0,[.i (mn (rad ax ay l)),.i (mx (rad ax ay l))]):=by
 have hc:∀i:Nat,i<[[U.l l]].length->cR [[.l l]] i 0=l:=fun i hi=>by
  have:i=0:=by simp at hi;exact hi
  subst this;rfl
 have hA:qiZ ax ay [[.l l]] [[U.l l]].length=rad ax ay l:=by have e:qiZ ax ay [[.l l]] 1=qiZ ax ay [[.l l]] 0++rad ax ay (cR [[.l l]] (0:Nat) 0):=qpG _ _ _ _;show qiZ ax ay [[.l l]] 1=_;rw[e];rfl
 have e:=qmf (ax:=ax) (ay:=ay) (m:=[[.l l]]) (by simp) (fun i hi=>by rw[hc i hi];exact h) (fun i hi=>by rw[hc i hi];exact hl) (by rw[hA,qtb];exact h0);rw[hA] at e;exact e
theorem qAS{f:Nat->Option Nat}(hf:∀i x,f i=some x->x=i):∀{k i x:Nat},q80 f i k=some x->i<=x/\x<i+k/\f x≠none
 | 0,i,x,h=>by cases h
 | k+1,i,x,h=>by
  simp only[q80] at h;cases hi:f i with
  | some a=>
   rw[hi] at h;simp only[qOc] at h;have:=hf i a hi;subst h;subst this;exact⟨qOe _,by omega,by rw[hi];simp⟩
  | none=>
   rw[hi] at h;obtain⟨h1,h2,h3⟩:=qAS hf h;exact⟨by omega,by omega,h3⟩
def qL0(l:R)(ax ay t:Int):List PV:=if ql5 l ax ay≠0 then [.b false,.i 0,.i (ql5 l ax ay)] else if t<0\/100000<t then [.b false,.i 0,.i 2] else [.b (decide (qzD l ax ay t=l.length)),.i (qzD l ax ay t),.i 0]
theorem qqf (l:R)(ax ay t:Int):(jq [.r l,.i ax,.i ay,.i t]).run=some (0,qL0 l ax ay t):=by
 rw[qoe];simp only[STD,qeC,qe1];unfold qL0;by_cases hg:ql5 l ax ay=0
 ·by_cases h6:0<=t/\t<=100000
  ·have hs:=qAD hg;have hl:=hs.le;have k:=q23 (S:=zH) (fun i=>[.r l,.i t,.r l,.i (qg l),.i (i:Int),.i ax,.i ay]) (fun i=>(if qE5 l ax ay t i=true then none else some i).map fun i:Nat=>(1,[.b false,.i (i:Int),.i 0])) (0,[.r l]) l.length (by omega) (fun i hi hf=>by
    obtain⟨a,b,c⟩:=qs7 (hs.pts i hi).2.2 (hs.pts i hi).1;have hn:qE5 l ax ay t i=true:=by
     cases h:qE5 l ax ay t i with
     | true=>rfl
     | false=>rw[h] at hf;simp at hf
    unfold qE5 at hn;rw[q3g];simp only[STD,qib hi,q9A,and_self,qng (hs.pts i hi).2.2 (hs.pts i hi).1 (hs.pts i hi).2.1,q7L a b c h6.1 (show t<=400000 by omega),hn,jd hi (by omega)]) (fun i r hi hf=>by
    obtain⟨a,b,c⟩:=qs7 (hs.pts i hi).2.2 (hs.pts i hi).1;have hn:qE5 l ax ay t i=false/\r=(1,[.b false,.i (i:Int),.i 0]):=by
     cases h:qE5 l ax ay t i with
     | true=>rw[h] at hf;simp at hf
     | false=>rw[h] at hf;simp at hf;exact⟨rfl,hf.symm⟩
    unfold qE5 at hn;rw[q3g];simp only[STD,qib hi,q9A,and_self,qng (hs.pts i hi).2.2 (hs.pts i hi).1 (hs.pts i hi).2.1,q7L a b c h6.1 (show t<=400000 by omega),hn.1,hn.2]) (by
    rw[q3g];simp only[STD,q7U])
   have k':(qf zH [.r l,.i t,.r l,.i (qg l),.i 0,.i ax,.i ay]).run=_:=k;rw[qxP] at k';unfold qzD;cases hsc:q80 (fun i=>if qE5 l ax ay t i=true then none else some i) 0 l.length with
   | none=>
    rw[hsc] at k';have k2:(qf zH [.r l,.i t,.r l,.i (qg l),.i 0,.i ax,.i ay]).run=some (0,[.r l]):=k';simp only[hg,h6,STD,k2,zf k2,and_self,show ¬(t<0\/100000<t) by omega,Option.getD_none,decide_true];rfl
   | some x=>
    rw[hsc] at k';have k2:(qf zH [.r l,.i t,.r l,.i (qg l),.i 0,.i ax,.i ay]).run=some (1,[.b false,.i (x:Int),.i 0]):=k';obtain⟨_,hx,_⟩:=qAS (fun i x h=>by split at h<;>simp at h;exact h.symm) hsc;simp only[hg,h6,STD,k2,zf k2,and_self,show ¬(t<0\/100000<t) by omega,qOT,show ¬((1:Nat)=0) by decide,show ¬(x=l.length) by omega,decide_false]
  ·simp only[hg,h6,STD,show (t<0\/100000<t) by omega]
 ·simp only[hg,STD]
theorem qFI {ax ay t:Int}(h:∀i,i<l.length->qE5 l ax ay t i=true):qzD l ax ay t=l.length:=by unfold qzD;rw[qgh (g:=fun _=>none) (fun j _ hj=>by rw[if_pos (h j (by omega))]),qsJ];rfl
theorem qH0 {ax ay t:Int}(h:qzD l ax ay t=l.length):∀i,i<l.length->qE5 l ax ay t i=true:=by
 intro i hi;unfold qzD at h;cases hsc:q80 (fun i=>if qE5 l ax ay t i=true then none else some i) 0 l.length with
 | none=>
  have:=qcG hsc i (by omega) (by omega);split at this
  ·assumption
  ·cases this
 | some x=>
  rw[hsc] at h;obtain⟨_,hx,_⟩:=qAS (fun i x h=>by split at h<;>simp at h;exact h.symm) hsc;simp at h;omega
noncomputable def qdI(lo hi:Int):Nat:=qtD fun n:Nat=>q7Z lo hi (n:Int)
theorem qmH {lo hi:Int}(h1:0<=lo)(h3:hi<=80000000000):q7Z lo hi (qdI lo hi)/\(∀n:Nat,q7Z lo hi n->qdI lo hi<=n)/\qdI lo hi<=400000:=by have hex:∃n:Nat,q7Z lo hi (n:Int):=⟨400000,qD2 h1 h3⟩;obtain⟨a,b⟩:=qku hex;exact⟨a,b,b 400000 (qD2 h1 h3)⟩
theorem qq4{lo hi:Int}(h1:0<=lo)(h2:lo<=hi)(h3:hi<=80000000000):∀(n:Nat) (m:Nat) (a b:Int),0<=a->a<=qdI lo hi->(qdI lo hi:Int)<=b->b<=400000->b-a<=n->n<m ->
  (qms wX m [.i lo,.i hi,.i a,.i b]).run=some (0,[.i (qdI lo hi)])
 | n,m,a,b,ha,hal,hlb,hb,hn,hm=>by
  obtain⟨m,rfl⟩:∃m',m=m'+1:=⟨m-1,by omega⟩;obtain⟨s1,s2,s3⟩:=qmH h1 h3;by_cases hab:a<b
  ·obtain⟨n,rfl⟩:∃n',n=n'+1:=⟨n-1,by omega⟩;have e1:qu .i64 a b=a+b:=zt (by omega);have e2:qdo .i64 (a+b) 2=(a+b)/2:=by unfold qdo;rw[Int.tdiv_eq_ediv_of_nonneg (by omega)];have:=zt (x:=(a+b)/2) (y:=0) (by omega);unfold qu at this;rwa [Int.add_zero] at this
   have e3:qu .i64 ((a+b)/2) 1=(a+b)/2+1:=zt (by omega);have hmid:0<=(a+b)/2/\(a+b)/2<=400000:=by omega
   by_cases hnear:q7Z lo hi ((a+b)/2)
   ·have hS:(wX [.i lo,.i hi,.i a,.i b]).run=some (0,[.i lo,.i hi,.i a,.i ((a+b)/2)]):=by rw[q8x];simp only[STD,hab,e1,e2,q7L h1 h2 h3 hmid.1 hmid.2,hnear,decide_true]
    have hle:(qdI lo hi:Int)<=(a+b)/2:=by have:=s2 ((a+b)/2).toNat (by rw[qPM hmid.1];exact hnear);omega
    rw[qnN hS];exact qq4 h1 h2 h3 n m a ((a+b)/2) ha hal hle (by omega) (by omega) (by omega)
   ·have hS:(wX [.i lo,.i hi,.i a,.i b]).run=some (0,[.i lo,.i hi,.i ((a+b)/2+1),.i b]):=by rw[q8x];simp only[STD,hab,e1,e2,e3,q7L h1 h2 h3 hmid.1 hmid.2,hnear,decide_false]
    have hle:(a+b)/2+1<=(qdI lo hi:Int):=by
     by_cases h:(qdI lo hi:Int)<=(a+b)/2
     ·exact absurd (qFs h1 (by omega) h s1) hnear
     ·omega
    rw[qnN hS];exact qq4 h1 h2 h3 n m ((a+b)/2+1) b (by omega) hle hlb hb (by omega) (by omega)
  ·have:a=qdI lo hi:=by omega
   have hS:(wX [.i lo,.i hi,.i a,.i b]).run=some (0+1,[.i (qdI lo hi)]):=by rw[q8x];simp only[STD,this];rw[if_neg (by omega)]
   rw[qjt hS]
noncomputable def qNM(l:R)(ax ay:Int):List PV:=if ql5 l ax ay≠0 then [.i 0,.i (ql5 l ax ay)] else [.i (qdI (mn (q1U ax ay l)) (mx (q1U ax ay l))),.i 0]
theorem qvD (l:R)(ax ay:Int):(q2g [.r l,.i ax,.i ay]).run=some (0,qNM l ax ay):=by
 rw[qu1];simp only[STD,qeC];unfold qNM;by_cases hg:ql5 l ax ay=0
 ·have hs:=qAD hg;obtain⟨a,b,c⟩:=qCF hs;obtain⟨_,_,s3⟩:=qmH a c;have e:(qf wX [.i (mn (q1U ax ay l)),.i (mx (q1U ax ay l)),.i 0,.i 400000]).run=some (0,[.i (qdI (mn (q1U ax ay l)) (mx (q1U ax ay l)))]):=
   qq4 a b c 400000 qls 0 400000 (by omega) (by omega) (by omega) (by omega) (by omega) (by unfold qls;decide)
  simp only[hg,STD,qp0 hs,e]
 ·simp only[hg,STD]
end Go.Eng

namespace Go.Eng
variable {l:R}
def okI(a:Int):Prop:=-1000000000000000000000000000000<a/\a<1000000000000000000000000000000
theorem qat {a:Int}(h:okI a):bnd 30 1 (a:Rat):=qtd (qLJ (by unfold okI at h;omega) (by omega)) (by omega)
theorem qJo (x:Bs):(wL [.s x,.i 0,.i 0]).run=some (0,[.s x,.i 0]):=by rw[qus];simp only[STD]
theorem qHZ {a b:Int}(ha:okI a)(hb:okI b):(vQ [.s (tQ (a:Rat)),.s (tQ (b:Rat)),.i 0]).run=some (0,[.s (tQ ((a-b:Int):Rat)),.i 0]):=by rw[qrQ,qPE];simp only[STD,q8g (qat ha) (qat hb) (by omega) (by omega) (by omega),qJo]
theorem qNW {a b:Int}(ha:okI a)(hb:okI b):(q3n [.s (tQ (a:Rat)),.s (tQ (b:Rat)),.i 0]).run=some (0,[.s (tQ ((a+b:Int):Rat)),.i 0]):=by rw[qrV,qQ3];simp only[STD,qhm (qat ha) (qat hb) (by omega) (by omega) (by omega),qJo]
theorem qFf {a b:Int}(ha:okI a)(hb:okI b):(zU [.s (tQ (a:Rat)),.s (tQ (b:Rat)),.i 0]).run=some (0,[.s (tQ ((a*b:Int):Rat)),.i 0]):=by rw[qrU,qPu];simp only[STD,qdf (qat ha) (qat hb) (by omega) (by omega),qJo]
theorem qKV {a b:Int}(ha:okI a)(hb:okI b):(qP [.s (tQ (a:Rat)),.s (tQ (b:Rat))]).run=some (0,[.i (sgn (a-b)),.i 0]):=by rw[q6L (qat ha) (qat hb) (by omega) (by omega),Rat.num_intCast,Rat.num_intCast,Rat.den_intCast,Rat.den_intCast,show ((1:Nat):Int)=1 from rfl,Int.mul_one,Int.mul_one]
theorem qCD {a b:Int}(ha:okI a)(hb:okI b):(z8 [.s (tQ (a:Rat)),.s (tQ (b:Rat)),.i 0]).run=some (0,[.b (decide (a<b)),.i 0]):=by
 have e:ilt (sgn (a-b)) 0=decide (a<b):=by unfold ilt;rw[decide_eq_decide,qG7];omega
 rw[qqM];simp only[STD,qKV ha hb,qJo,e]
theorem qKF:tQ ((0:Int):Rat)=[48]:=by decide +kernel
theorem qKL:tQ ((4:Int):Rat)=[52]:=by decide +kernel
theorem qJy {x y ax ay:Int}(hx:co x)(hy:co y)(h1:co ax)(h2:co ay):(jV [.i x,.i y,.s (tQ (ax:Rat)),.s (tQ (ay:Rat)),.i 0]).run=some (0,[.s (tQ ((sqr (x-ax) (y-ay):Int):Rat)),.i 0]):=by
 unfold co at *;have s1:=qNn (x:=x-ax) (by omega) (by omega);have s2:=qNn (x:=y-ay) (by omega) (by omega);have o:∀z:Int,-1000000000000<=z/\z<=1000000000000->okI z:=fun z h=>by unfold okI;omega
 rw[qmr];unfold sqr;obtain⟨u,hu⟩:∃u,u=x-ax:=⟨_,rfl⟩;obtain⟨v,hv⟩:∃v,v=y-ay:=⟨_,rfl⟩;rw[<-hu] at s1 ⊢;rw[<-hv] at s2 ⊢;have r1:=qHZ (o x (by omega)) (o ax (by omega));have r2:=qHZ (o y (by omega)) (o ay (by omega));rw[<-hu] at r1;rw[<-hv] at r2;have r3:=qFf (o u (by omega)) (o u (by omega));have r4:=qFf (o v (by omega)) (o v (by omega));have r5:=qNW (o (u*u) (by omega)) (o (v*v) (by omega));simp only[STD,zj (m:=x) (by omega),zj (m:=y) (by omega),r1,r2,r3,r4,r5]
theorem qIH {x y:Int}(h:ptE x y=0):co x/\co y:=by have:=qs8 h;unfold co;omega
theorem qB2 {z:Int}(h:0<=z/\z<=80000000000):okI z:=by unfold okI;omega
theorem qO4 {ax ay:Int}(h:okP ax ay l)(h0:0<l.length)(hl:l.length<=64):(qkx [.r l,.s (tQ (ax:Rat)),.s (tQ (ay:Rat))]).run = some (0,[.s (tQ (ax:Rat)),.s (tQ (ay:Rat)),.s (tQ ((mn (rad ax ay l):Int):Rat)),.s (tQ ((mx (rad ax ay l):Int):Rat)),.i 0]):=by
 obtain⟨A,hA⟩:∃A,A=rad ax ay l:=⟨_,rfl⟩;have lA:A.length=l.length:=by rw[hA];exact qtb _ _ _
 have bA:∀x,x∈A->0<=x/\x<=80000000000:=fun x hx=>by rw[hA] at hx;exact qH8 h hx
 obtain⟨c1,c2⟩:=qIH h.1;obtain⟨u,hu⟩:∃u,u=tQ (ax:Rat):=⟨_,rfl⟩;obtain⟨v,hv⟩:∃v,v=tQ (ay:Rat):=⟨_,rfl⟩;have key:=qp (S:=q8r) (fun i=>[.r l,.i (l.length:Int),.i (i:Int),.s u,.s v,.s [],.s [],.s [],.s [],.i 0,.s u,.s v,.s (if i=0 then [] else tQ ((mn (A.take i):Int):Rat)),.s (if i=0 then [] else tQ ((mx (A.take i):Int):Rat))])
  (0,[.s [],.s [],.s [],.s [],.i 0,.s u,.s v,.s (tQ ((mn A:Int):Rat)),.s (tQ ((mx A:Int):Rat))]) l.length (by omega) (fun i hi=>by
  obtain⟨d1,d2⟩:=qIH (h.2 i hi);have hiA:i<A.length:=by omega
  have sq:=qJy d1 d2 c1 c2;rw[<-hu,<-hv] at sq;have ev:sqr (cI l i 0-ax) (cI l i 1-ay)=A[i]:=by subst hA;rw[qFA];rfl
  rw[ev] at sq;have w:=jd hi (show l.length<9223372036854775808 by omega);have lr:qg l=(l.length:Int):=rfl;rw[qr2,if_neg (show ¬i+1=0 by omega),if_neg (show ¬i+1=0 by omega),qfA hiA];by_cases e0:i=0
  ·subst e0;have t1:mn (A.take 0++[A[0]])=A[0]:=rfl;have t2:mx (A.take 0++[A[0]])=A[0]:=rfl;have w':qu .i64 0 1=((0+1:Nat):Int):=w;rw[t1,t2];have sq':=sq;rw[show ((0:Nat):Int)=0 from rfl] at sq';simp only[STD,lr,sq',w',show ((0:Nat):Int)=0 from rfl,show (0:Int)<l.length by omega,show (0:Int)<=0 by decide,and_self]
  ·have ne:A.take i≠[]:=by obtain⟨j,rfl⟩:∃j,i=j+1:=⟨i-1,by omega⟩;exact qAr (by omega) j
   rw[qJA ne,qJY ne,if_neg e0,if_neg e0];have o1:=qB2 (bA _ (qPW (qGp ne)));have o2:=qB2 (bA _ (qPW (qGQ ne)));have o3:=qB2 (bA _ (qOZ hiA));have k1:=qCD o3 o1;have k2:=qCD o2 o3;have ei:¬(i:Int)=0:=by omega
   by_cases q1:A[i]<mn (A.take i)
   ·by_cases q2:mx (A.take i)<A[i]
    ·rw[show qaS (mn (A.take i)) A[i]=A[i] from if_pos q1,show qiL (mx (A.take i)) A[i]=A[i] from if_pos q2];simp only[STD,lr,sq,w,k1,k2,q1,q2,ei,show (i:Int)<l.length by omega,show (0:Int)<=i by omega,and_self]
    ·rw[show qaS (mn (A.take i)) A[i]=A[i] from if_pos q1,show qiL (mx (A.take i)) A[i]=mx (A.take i) from if_neg q2];simp only[STD,lr,sq,w,k1,k2,q1,q2,ei,show (i:Int)<l.length by omega,show (0:Int)<=i by omega,and_self]
   ·by_cases q2:mx (A.take i)<A[i]
    ·rw[show qaS (mn (A.take i)) A[i]=mn (A.take i) from if_neg q1,show qiL (mx (A.take i)) A[i]=A[i] from if_pos q2];simp only[STD,lr,sq,w,k1,k2,q1,q2,ei,show (i:Int)<l.length by omega,show (0:Int)<=i by omega,and_self]
    ·rw[show qaS (mn (A.take i)) A[i]=mn (A.take i) from if_neg q1,show qiL (mx (A.take i)) A[i]=mx (A.take i) from if_neg q2];simp only[STD,lr,sq,w,k1,k2,q1,q2,ei,show (i:Int)<l.length by omega,show (0:Int)<=i by omega,and_self]) (by
  rw[qr2,if_neg (show ¬l.length=0 by omega),if_neg (show ¬l.length=0 by omega),<-lA,qPB];simp only[STD,Int.lt_irrefl])
 have key':(qf q8r [.r l,.i (qg l),.i 0,.s u,.s v,.s [],.s [],.s [],.s [],.i 0,.s u,.s v,.s [],.s []]).run=_:=key;rw[<-hA,<-hu,<-hv,qDR];simp only[STD,key']
theorem qDp {n:Nat}(hl:l.length=n)(hn:n<1000000)(h:∀i,i<n->(qQ [.s (cS l (i:Int) 0)]).run=some (0,[.i 0])):(q4Y [.r l]).run=some (0,[.i 0]):=by
 rw[qsX];have key:=qp (S:=kw) (fun i=>[.r l,.i (n:Int),.i (i:Int)]) (0,[]) n (by omega) (fun i hi=>by
  rw[qg0];have e:qg l=(n:Int):=by unfold qg;rw[hl]
  simp only[STD,e,h i hi,jd hi (show n<9223372036854775808 by omega),show (i:Int)<n by omega,show (0:Int)<=i by omega,and_self]) (by
  rw[qg0];simp only[STD,show ¬(n:Int)<n by omega])
 have e:qg l=(n:Int):=by unfold qg;rw[hl]
 have key':(qf kw [.r l,.i (qg l),.i 0]).run=some (0,[]):=by rw[e];exact key
 simp only[STD,key',zf key']
theorem qO2 {ax ay:Int}(hc:qsl l=0)(h:okP ax ay l)(h0:0<l.length)(hl:l.length<=64):(qjx [.r l,.s (tQ (ax:Rat)),.s (tQ (ay:Rat))]).run = some (0,[.s (tQ (ax:Rat)),.s (tQ (ay:Rat)),.s (tQ ((mn (rad ax ay l):Int):Rat)),.s (tQ ((mx (rad ax ay l):Int):Rat)),.i 0]):=by
 have g:(q9f [.r l]).run=some (0,[.i 0]):=by rw[qy6];simp only[STD,vH,hc,show ¬qg l=0 by unfold qg;omega]
 obtain⟨c1,c2⟩:=qIH h.1;have k1:=q6T ((qtQ c1).ok (by omega) (by omega));have k2:=q6T ((qtQ c2).ok (by omega) (by omega));have r:=qO4 h h0 hl;obtain⟨u,hu⟩:∃u,u=tQ (ax:Rat):=⟨_,rfl⟩;obtain⟨v,hv⟩:∃v,v=tQ (ay:Rat):=⟨_,rfl⟩;rw[<-hu] at k1 r ⊢;rw[<-hv] at k2 r ⊢;have ck:=qDp (l:=[[.s u],[.s v]]) (n:=2) rfl (by decide) (fun i hi=>by
  rcases (show i=0\/i=1 by omega) with rfl|rfl
  ·exact k1
  ·exact k2)
 rw[qEv];simp only[STD,g,ck,r]
theorem qIh {lo hi t:Int}(x y:Bs)(h1:0<=lo)(h2:lo<=hi)(h3:hi<=80000000000)(h4:0<=t)(h5:t<=100000):(q7t [.s x,.s y,.s (tQ (lo:Rat)),.s (tQ (hi:Rat)),.i t]).run=some (0,[.b (decide (q7Z lo hi t)),.i 0]):=by
 have ht:=qAa (a:=t) (b:=t) (A:=100000) (B:=100000) (by omega) h5 (by omega) h5;have ht0:=qxD t;obtain⟨q,hq⟩:∃q,q=t*t:=⟨_,rfl⟩;rw[<-hq] at ht ht0;have e2:zw .i64 t t=q:=by rw[hq];exact zV (by omega)
 obtain⟨d,hd⟩:∃d,d=hi-lo-q:=⟨_,rfl⟩;have o:∀z:Int,-1000000000000<=z/\z<=1000000000000->okI z:=fun z h=>by unfold okI;omega
 have m1:=qAa (a:=d) (b:=d) (A:=1000000000000) (B:=1000000000000) (by omega) (by omega) (by omega) (by omega);have m2:=qAa (a:=4*q) (b:=lo) (A:=1000000000000) (B:=1000000000000) (by omega) (by omega) (by omega) (by omega);have r1:=qHZ (o hi (by omega)) (o lo (by omega));have r2:=qHZ (o (hi-lo) (by omega)) (o q (by omega));rw[<-hd] at r2;have r3:(z8 [.s [48],.s (tQ (d:Rat)),.i 0]).run=some (0,[.b (decide (0<d)),.i 0]):=by rw[<-qKF];exact qCD (o 0 (by omega)) (o d (by omega))
 have r4:(zU [.s [52],.s (tQ (q:Rat)),.i 0]).run=some (0,[.s (tQ ((4*q:Int):Rat)),.i 0]):=by rw[<-qKL];exact qFf (o 4 (by omega)) (o q (by omega))
 have r5:=qFf (o (4*q) (by omega)) (o lo (by omega));have r6:=qFf (o d (by omega)) (o d (by omega));have r7:=qCD (a:=4*q*lo) (b:=d*d) (by unfold okI;omega) (by unfold okI;omega);have en:q7Z lo hi t↔d<=0\/d*d<=4*q*lo:=by unfold q7Z;rw[<-hq,<-hd,show 4*t*t*lo=4*q*lo by rw[hq,Int.mul_assoc 4 t t]]
 rw[qv8];by_cases c:0<d
 ·by_cases c2:4*q*lo<d*d
  ·rw[decide_eq_false (show ¬q7Z lo hi t from fun hh=>by rcases en.1 hh with hh|hh<;>omega)];simp only[STD,e2,zj (m:=q) (by omega),r1,r2,r3,r4,r5,r6,r7,c,c2,show ¬t<0 by omega,show ¬100000<t by omega]
  ·rw[decide_eq_true (en.2 (.inr (by omega)))];simp only[STD,e2,zj (m:=q) (by omega),r1,r2,r3,r4,r5,r6,r7,c,c2,show ¬t<0 by omega,show ¬100000<t by omega];rfl
 ·rw[decide_eq_true (en.2 (.inl (by omega)))];simp only[STD,e2,zj (m:=q) (by omega),r1,r2,r3,c,show ¬t<0 by omega,show ¬100000<t by omega];rfl
theorem qLv {ax ay t:Int}(hc:qsl l=0)(h:okP ax ay l)(h0:0<l.length)(hl:l.length<=64)(h4:0<=t)(h5:t<=100000):(q9L [.r l,.s (tQ (ax:Rat)),.s (tQ (ay:Rat)),.i t]).run = some (0,[.b (decide (q7Z (mn (rad ax ay l)) (mx (rad ax ay l)) t)),.i 0]):=by obtain⟨e1,e2,e3⟩:=qs7 h h0;rw[qwV];simp only[STD,qO2 hc h h0 hl,qIh _ _ e1 e2 e3 h4 h5]
end Go.Eng

namespace Go.Eng
def E5:R:=[[.i 3,.i 0],[.i (-3),.i 0]]
theorem qGO:qrM E5=0:=by decide
theorem qIT:qAb (pV (raR E5)) (raR E5).length 1 (Lf (raR E5) [0,1]) (fun _=>1/2):=by
 refine⟨qK9 (a:=72) (by decide +kernel) (by decide +kernel) (by decide +kernel),?_,?_⟩
 ·decide +kernel
 ·decide +kernel
theorem qHN{L:List Nat}{n:Nat}(lo:LO (raR E5) 3 L n):sO (raR E5) L=9:=by
 have su:=qxx qIT (by decide) (by
  intro j k h1 h2;have e:j=0/\k=1:=by omega
  obtain⟨rfl,rfl⟩:=e;decide)
 obtain⟨e,_⟩:=qCs lo.sup su;rw[e];decide +kernel
theorem ue:(jF []).run=some (0,[.b true]):=by
 have p:(jS [.r [[.i 3,.i 0],[.i (-3),.i 0]],.i 6]).run=some (0,[.b true,.i 0]):=by obtain⟨L,n,lo,_⟩:=qkI qGO;have r:=qFQ qGO lo (d:=6) (by decide) (by decide);unfold pinB at r;rw[qHN lo,show decide ((4:Rat)*9<=((6*6:Int):Rat))=true by decide +kernel] at r;exact r
 have q:(q2g [.r [[.i 0,.l [[.i 3,.i 0],[.i 0,.i 5]]]],.i 0,.i 0]).run=some (0,[.i 2,.i 0]):=by
  rw[qvD];unfold qNM;rw[if_neg (by decide),show mn (q1U 0 0 [[.i 0,.l [[.i 3,.i 0],[.i 0,.i 5]]]])=9 by decide,show mx (q1U 0 0 [[.i 0,.l [[.i 3,.i 0],[.i 0,.i 5]]]])=25 by decide];obtain⟨s1,s2,_⟩:=qmH (lo:=9) (hi:=25) (by decide) (by decide);have h2:=s2 2 (by unfold q7Z;decide);have n0:¬q7Z 9 25 0:=by unfold q7Z;decide
  have n1:¬q7Z 9 25 1:=by unfold q7Z;decide
  obtain⟨k,hk⟩:∃k,k=qdI 9 25:=⟨_,rfl⟩;rw[<-hk] at s1 h2 ⊢;rcases (show k=0\/k=1\/k=2 by omega) with rfl|rfl|rfl
  ·exact absurd s1 n0
  ·exact absurd s1 n1
  ·rfl
 rw[qsY];simp only[STD,p,q,show qu .i64 0 0=0 by decide]
theorem qG5(l:R):∃b,(q1y [.r l]).run=some (0,[.b b]):=by
 rw[qz9];by_cases h:qg l<=8
 ·exact⟨true,by simp only[STD,h]⟩
 ·by_cases h2:64<qg l
  ·exact⟨ilt (qg l) 128,by simp only[STD,h,h2]⟩
  ·exact⟨false,by simp only[STD,h,h2]⟩
theorem qGY{l:R}(h0:¬qg l=0)(h:qsl l=0):qxX [[.i 0,.l l]]=0:=by
 have e:qJh [[.i 0,.l l]] 0=0:=by have a0:cI [[U.i 0,.l l]] ((0:Nat):Int) 0=0:=rfl;have a1:cR [[U.i 0,.l l]] ((0:Nat):Int) 1=l:=rfl;unfold qJh;rw[a0,a1,if_neg (by decide),if_neg fun hh=>Nat.lt_irrefl 0 hh.1,if_neg h0];exact h
 have a2:qg [[U.i 0,.l l]]=1:=rfl;unfold qxX;rw[a2,if_neg (by decide),if_neg (by decide)];exact qnZ fun i hi=>by
  have:i<1:=hi;have:i=0:=by omega
  subst this;exact e
theorem qwq{l:R}(h:qsl l=0):l.length<=64/\∀i,i<l.length->ptA l i=0:=by obtain⟨h1,h2⟩:=qj9 h;refine⟨h1,fun i hi=>?_⟩;obtain⟨a,b⟩:=h2 i hi;unfold co at a b;unfold ptA ptE;rw[if_pos (by omega)]
theorem qpn(x0:R)(x1 x2 x3:Int)(_:UFit (.sl [(.int .i64),(.int .i64)]) (.l x0))(wex0:x0.length*16<=140737488351232)(_:IntKind.min .i64<=x1)(_:x1<=IntKind.max .i64)(_:IntKind.min .i64<=x2)(_:x2<=IntKind.max .i64)(lox3:IntKind.min .u16<=x3)(hix3:x3<=IntKind.max .u16):(uI [.r x0,.i x1,.i x2,.i x3]).run=some (0,[.b true]):=by
 obtain⟨b,hb⟩:=qG5 x0;have t0:0<=x3:=lox3;have t1:x3<=65535:=hix3;have wc:qy8 .i64 x3=x3:=qD7 (by omega);rw[ql6];cases b with
 | false=>simp only[STD,hb,ue]
 | true=>
  by_cases hv:qsl x0=0
  case neg=>simp only[STD,hb,j4,hv,ue]
  by_cases hn:qg x0=0
  ·simp only[STD,hb,j4,hv,hn,ue]
  by_cases hp:ptE x1 x2=0
  case neg=>simp only[STD,hb,j4,hv,hn,kK,hp,ue]
  have hg:ql5 [[.i 0,.l x0]] x1 x2=0:=by unfold ql5;rw[if_pos (qGY hn hv)];exact hp
  obtain⟨v1,v2⟩:=qwq hv;have ok:okP x1 x2 x0:=⟨hp,v2⟩;have h0:0<x0.length:=by unfold qg at hn;omega
  obtain⟨c1,c2⟩:=qIH hp;have ea:q1U x1 x2 [[.i 0,.l x0]]=rad x1 x2 x0:=by unfold q1U;show (List.map _ [0]).flatten=_;rw[qPa,List.map_nil,qQ6,List.flatten_nil,qPf];rfl
  obtain⟨z,hz⟩:∃z,z=decide (q7Z (mn (rad x1 x2 x0)) (mx (rad x1 x2 x0)) x3):=⟨_,rfl⟩;have r1:=qqf [[.i 0,.l x0]] x1 x2 x3;have ec:decide (qzD [[.i 0,.l x0]] x1 x2 x3=[[U.i 0,.l x0]].length)=z:=by
   have es:qE5 [[.i 0,.l x0]] x1 x2 x3 0=z:=hz.symm;cases hzz:z with
   | true=>
    rw[hzz] at es;exact decide_eq_true (qFI fun i hi=>by
     have:i=0:=by simpa using hi
     subst this;exact es)
   | false=>
    rw[hzz] at es;refine decide_eq_false fun hh=>?_;have:=qH0 hh 0 Nat.one_pos;rw[es] at this;cases this
  unfold qL0 at r1;rw[if_neg (by simp[hg]),if_neg (by omega),ec] at r1;have r2:=qv5 [[.i 0,.l x0]] x1 x2 x3;unfold qNK at r2;rw[if_neg (by simp[hg]),if_neg (by omega),ea,<-hz] at r2;have r3:=qLv hv ok h0 v1 t0 (show x3<=100000 by omega);rw[<-hz] at r3;have w0:qu .i64 (qu .i64 0 0) 0=0:=by decide
  simp only[STD,hb,j4,hv,hn,kK,hp,ue,wc,r1,r2,r3,zj (qkD c1),zj (qkD c2),w0]
def dtI(x y z w:Int):Int:=x*z+y*w
def tsQ(px py ax ay bx cy:Int):Rat:=
 if 0<dtI (bx-ax) (cy-ay) (px-bx) (py-cy) then ((dtI (px-bx) (py-cy) (px-bx) (py-cy):Int):Rat)
 else if dtI (bx-ax) (cy-ay) (px-ax) (py-ay)<=0 then ((dtI (px-ax) (py-ay) (px-ax) (py-ay):Int):Rat)
 else Rat.divInt (((bx-ax)*(py-ay)-(cy-ay)*(px-ax))*((bx-ax)*(py-ay)-(cy-ay)*(px-ax))) (dtI (bx-ax) (cy-ay) (bx-ax) (cy-ay))
theorem qb1{x:Int}(h:x≠0):0<x*x:=by
 rcases (show 0<x\/0 < -x by omega) with q|q
 ·exact Int.mul_pos q q
 ·have:=Int.mul_pos q q;rwa [qPn] at this
theorem m_b{x y:Int}(hx:-200000<=x/\x<=200000)(hy:-200000<=y/\y<=200000):-40000000000<=x*y/\x*y<=40000000000:=by have:=qAa hx.1 hx.2 hy.1 hy.2;omega
theorem qLO{x y z w:Int}(hx:-200000<=x/\x<=200000)(hy:-200000<=y/\y<=200000)(hz:-200000<=z/\z<=200000)(hw:-200000<=w/\w<=200000):-80000000000<=dtI x y z w/\dtI x y z w<=80000000000:=by have a:=m_b hx hz;have b:=m_b hy hw;unfold dtI;omega
theorem qMA{x y z w:Int}(hx:-200000<=x/\x<=200000)(hy:-200000<=y/\y<=200000)(hz:-200000<=z/\z<=200000)(hw:-200000<=w/\w<=200000):(zq [.i x,.i y,.i z,.i w]).run=some (0,[.i (dtI x y z w)]):=by have a:=m_b hx hz;have b:=m_b hy hw;rw[qnl,zV (by omega),zV (by omega),zt (by omega)];rfl
theorem qNg{x y z w:Int}(hx:co x)(hy:co y)(hz:co z)(hw:co w):(yA [.i x,.i y,.i z,.i w]).run=some (0,[.i (z-x),.i (w-y)]):=by unfold co at *;rw[qzL,zP (by omega),zP (by omega)];rfl
theorem qJI{a b c d e f:Int}(h1:co a)(h2:co b)(h3:co c)(h4:co d)(h5:co e)(h6:co f):(qM [.r [[.i a,.i b],[.i c,.i d],[.i e,.i f]]]).run=some (0,[.i 0]):=by
 rw[qrp [[.i a,.i b],[.i c,.i d],[.i e,.i f]] (show (3:Nat)<9223372036854775808 by decide),qnZ fun i hi=>by
  have:i<3:=hi;unfold co at *;rcases (show i=0\/i=1\/i=2 by omega) with rfl|rfl|rfl
  ·show ptE a b=0;unfold ptE;rw[if_pos (by omega)]
  ·show ptE c d=0;unfold ptE;rw[if_pos (by omega)]
  ·show ptE e f=0;unfold ptE;rw[if_pos (by omega)]]
theorem qra{m n:Int}(hn0:n≠0)(hm:okL m)(hn:okL n):(q3w [.s (tI m),.s (tI n)]).run=some (0,[.s (tQ (Rat.divInt m n)),.i 0]):=by
 rw[qx7];have key:=qp (S:=q29) (fun i=>[.s (tI m),.s (tI n),.i 2,.i (i:Int),.r [[.s (tI m)],[.s (tI n)]]]) (0,[.s (tI m),.s (tI n)]) 2 (by omega) (fun i hi=>by
  rw[qiP];rcases (show i=0\/i=1 by omega) with rfl|rfl
  ·have e:cS [[.s (tI m)],[.s (tI n)]] ((0:Nat):Int) 0=tI m:=rfl;simp only[e,STD,qhc hm,show qg [[U.s (tI m)],[.s (tI n)]]=2 from rfl];rfl
  ·have e:cS [[.s (tI m)],[.s (tI n)]] ((1:Nat):Int) 0=tI n:=rfl;simp only[e,STD,qhc hn,show qg [[U.s (tI m)],[.s (tI n)]]=2 from rfl];rfl) (by rw[qiP];simp only[STD,show ((2:Nat):Int)=2 from rfl,show ¬(2:Int)<2 by omega])
 have key':(qf q29 [.s (tI m),.s (tI n),.i (qg [[U.s (tI m)],[.s (tI n)]]),.i 0,.r [[.s (tI m)],[.s (tI n)]]]).run=some (0,[.s (tI m),.s (tI n)]):=key;have z:(seq (tI n) [48]=true)=False:=by rw[yk,q8b];exact eq_false hn0
 simp only[STD,key',zf key',z,(qpe hn0 hm hn).1]
theorem qD9{m n:Int}(hn0:n≠0)(hm:-999999999999999<=m/\m<=999999999999999)(hn:-999999999999999<=n/\n<=999999999999999):(qbN [.i m,.i n]).run=some (0,[.s (tQ (Rat.divInt m n)),.i 0]):=by
 have ok:∀k:Int,-999999999999999<=k/\k<=999999999999999->okL k:=fun k hk=>by
  have:=qsM (m:=k) (n:=999999999999999) (by omega);have e:nl 999999999999999=15:=by decide
  unfold okL;omega
 rw[qB9];simp only[STD,q2m m (by omega),q2m n (by omega),qra hn0 (ok m hm) (ok n hn)]
theorem qMp{x y z w:Int}(hx:-200000<=x/\x<=200000)(hy:-200000<=y/\y<=200000)(hz:-200000<=z/\z<=200000)(hw:-200000<=w/\w<=200000):(uA [.i x,.i y,.i z,.i w]).run=some (0,[.i (x*w-y*z)]):=by have a:=m_b hx hw;have b:=m_b hy hz;rw[qld,zV (by omega),zV (by omega),zP (by omega)];rfl
theorem qBJ{a:Int}(h:okI a):okL a:=by have:=qLJ (m:=a) (k:=30) (by unfold okI at h;omega) (by omega);unfold okL;omega
theorem qGR{c v:Int}(hc:-80000000000<=c/\c<=80000000000)(hv:0<v/\v<=80000000000):(q21 [.i c,.s (tI v)]).run=some (0,[.s (tQ (Rat.divInt (c*c) v)),.i 0]):=by have m:=qAa (a:=c) (b:=c) (A:=80000000000) (B:=80000000000) (by omega) (by omega) (by omega) (by omega);have k1:=qBJ (a:=c) (by unfold okI;omega);have k2:=qBJ (a:=v) (by unfold okI;omega);have k3:=qBJ (a:=c*c) (by unfold okI;omega);rw[qpy];simp only[STD,q2m c (by omega),qLW k1 k1 k3,qra (show v≠0 by omega) k3 k2]
theorem qJf{px py ax ay bx cy:Int}(h1:co px)(h2:co py)(h3:co ax)(h4:co ay)(h5:co bx)(h6:co cy)(hv:0<dtI (bx-ax) (cy-ay) (bx-ax) (cy-ay)) :(q3E [.i px,.i py,.i ax,.i ay,.i bx,.i cy]).run=some (0,[.s (tQ (Rat.divInt (((bx-ax)*(py-ay)-(cy-ay)*(px-ax))*((bx-ax)*(py-ay)-(cy-ay)*(px-ax))) (dtI (bx-ax) (cy-ay) (bx-ax) (cy-ay)))),.i 0]):=by
 have ne:¬(ax=bx/\ay=cy):=fun h=>by obtain⟨rfl,rfl⟩:=h;unfold dtI at hv;simp at hv
 have r0:=qJI h1 h2 h3 h4 h5 h6;have r1:=qNg h3 h4 h5 h6;have r2:=qNg h3 h4 h1 h2;unfold co at *;have a1:-200000<=bx-ax/\bx-ax<=200000:=by omega
 have a2:-200000<=cy-ay/\cy-ay<=200000:=by omega
 have a3:-200000<=px-ax/\px-ax<=200000:=by omega
 have a4:-200000<=py-ay/\py-ay<=200000:=by omega
 have t:=qMp a1 a2 a3 a4;have d:=qMA a1 a2 a1 a2;have db:=qLO a1 a2 a1 a2;have b1:=m_b a1 a4;have b2:=m_b a2 a3;obtain⟨c,hc⟩:∃c,c=(bx-ax)*(py-ay)-(cy-ay)*(px-ax):=⟨_,rfl⟩;obtain⟨v,hV⟩:∃v,v=dtI (bx-ax) (cy-ay) (bx-ax) (cy-ay):=⟨_,rfl⟩;rw[<-hc] at t ⊢;rw[<-hV] at d db hv ⊢;have s:=qGR (c:=c) (v:=v) (by omega) (by omega);have ec:(q4T [.i ax,.i ay,.i bx,.i cy,.i px,.i py]).run=some (0,[.i c]):=by rw[qsH];simp only[STD,r1,r2,t]
 rw[qs5];by_cases e1:ax=bx
 ·have e2:¬ay=cy:=fun h=>ne ⟨e1,h⟩;subst e1;simp only[STD,r0,r1,ec,d,q2m v (by omega),s,e2,and_false,and_true]
 ·simp only[STD,r0,r1,ec,d,q2m v (by omega),s,e1,and_true,false_and]
theorem qKI{px py ax ay bx cy:Int}(h1:co px)(h2:co py)(h3:co ax)(h4:co ay)(h5:co bx)(h6:co cy)(hv:¬(ax=bx/\ay=cy)) :(jX [.i px,.i py,.i ax,.i ay,.i bx,.i cy]).run=some (0,[.s (tQ (tsQ px py ax ay bx cy)),.i 0]):=by
 have r0:=qJI h1 h2 h3 h4 h5 h6;have r1:=qNg h3 h4 h5 h6;have r2:=qNg h5 h6 h1 h2;have r4:=qNg h3 h4 h1 h2;have ln:=qJf h1 h2 h3 h4 h5 h6;unfold co at *;have a1:-200000<=bx-ax/\bx-ax<=200000:=by omega
 have a2:-200000<=cy-ay/\cy-ay<=200000:=by omega
 have a3:-200000<=px-ax/\px-ax<=200000:=by omega
 have a4:-200000<=py-ay/\py-ay<=200000:=by omega
 have a5:-200000<=px-bx/\px-bx<=200000:=by omega
 have a6:-200000<=py-cy/\py-cy<=200000:=by omega
 have r3:=qMA a1 a2 a5 a6;have r5:=qMA a1 a2 a3 a4;have r6:=qMA a5 a6 a5 a6;have r7:=qMA a3 a4 a3 a4;have d1:=qLO a5 a6 a5 a6;have d2:=qLO a3 a4 a3 a4;have w6:=zj (m:=dtI (px-bx) (py-cy) (px-bx) (py-cy)) (by omega);have w7:=zj (m:=dtI (px-ax) (py-ay) (px-ax) (py-ay)) (by omega);have vp:0<dtI (bx-ax) (cy-ay) (bx-ax) (cy-ay):=by
  have n1:=qxD (bx-ax);have n2:=qxD (cy-ay);unfold dtI;rcases (show bx-ax≠0\/cy-ay≠0 by omega) with q|q
  ·have:=qb1 q;omega
  ·have:=qb1 q;omega
 have l:=ln vp;unfold tsQ;rw[qn6];by_cases c1:0<dtI (bx-ax) (cy-ay) (px-bx) (py-cy)
 ·rw[if_pos c1];by_cases c2:dtI (bx-ax) (cy-ay) (px-ax) (py-ay)<=0
  ·simp only[STD,r0,r1,r2,r3,r4,r5,r6,w6,c1,c2]
  ·simp only[STD,r0,r1,r2,r3,r4,r5,r6,w6,c1,c2,and_true]
 ·rw[if_neg c1];by_cases c2:dtI (bx-ax) (cy-ay) (px-ax) (py-ay)<=0
  ·rw[if_pos c2];simp only[STD,r0,r1,r2,r3,r4,r5,r7,w7,c1,c2]
  ·rw[if_neg c2];by_cases e1:ax=bx
   ·have e2:¬ay=cy:=fun h=>hv ⟨e1,h⟩;subst e1;simp only[STD,r0,r1,r2,r3,r4,r5,l,c1,c2,e2,and_false,and_true]
   ·simp only[STD,r0,r1,r2,r3,r4,r5,l,c1,c2,e1,and_true,false_and]
theorem qxv{q:Rat}{N D:Nat}(h:bnd N D q)(hN:N<=100)(hD:D<=100):bnd 100 100 q:=⟨qOh h.1 hN,qOh h.2 hD⟩
theorem qFE(x y:Int):0<=dtI x y x y:=by have a:=qxD x;have b:=qxD y;unfold dtI;omega
theorem qKM{a:Rat}(h:0<=a):0<=a⁻¹:=by
 by_cases h0:a=0
 ·rw[h0,Rat.inv_zero];exact qPD
 ·exact Rat.le_of_lt (Rat.inv_pos.2 (by grind))
theorem qK7(px py ax ay bx cy:Int):0<=tsQ px py ax ay bx cy:=by
 unfold tsQ;split
 ·exact Rat.intCast_nonneg.2 (qFE _ _)
 ·split
  ·exact Rat.intCast_nonneg.2 (qFE _ _)
  ·rw[Rat.divInt_eq_div];rw[Rat.div_def];exact qPs (Rat.intCast_nonneg.2 (qxD _)) (qKM (Rat.intCast_nonneg.2 (qFE _ _)))
theorem qKt{px py ax ay bx cy:Int}(h1:co px)(h2:co py)(h3:co ax)(h4:co ay)(h5:co bx)(h6:co cy)(hv:¬(ax=bx/\ay=cy)):bnd 100 100 (tsQ px py ax ay bx cy):=by
 unfold co at *;have a1:-200000<=bx-ax/\bx-ax<=200000:=by omega
 have a2:-200000<=cy-ay/\cy-ay<=200000:=by omega
 have a3:-200000<=px-ax/\px-ax<=200000:=by omega
 have a4:-200000<=py-ay/\py-ay<=200000:=by omega
 have a5:-200000<=px-bx/\px-bx<=200000:=by omega
 have a6:-200000<=py-cy/\py-cy<=200000:=by omega
 have d1:=qLO a5 a6 a5 a6;have d2:=qLO a3 a4 a3 a4;have d3:=qLO a1 a2 a1 a2;have b1:=m_b a1 a4;have b2:=m_b a2 a3;unfold tsQ;split
 ·exact qxv (qat (by unfold okI;omega)) (by omega) (by omega)
 ·split
  ·exact qxv (qat (by unfold okI;omega)) (by omega) (by omega)
  ·obtain⟨c,hc⟩:∃c,c=(bx-ax)*(py-ay)-(cy-ay)*(px-ax):=⟨_,rfl⟩;rw[<-hc];have m:=qAa (a:=c) (b:=c) (A:=80000000000) (B:=80000000000) (by omega) (by omega) (by omega) (by omega);have vp:dtI (bx-ax) (cy-ay) (bx-ax) (cy-ay)≠0:=by
    have n1:=qxD (bx-ax);have n2:=qxD (cy-ay);unfold dtI;rcases (show bx-ax≠0\/cy-ay≠0 by omega) with q|q
    ·have:=qb1 q;omega
    ·have:=qb1 q;omega
   have k1:=qat (a:=c*c) (by unfold okI;omega);have k2:=qat (a:=dtI (bx-ax) (cy-ay) (bx-ax) (cy-ay)) (by unfold okI;omega);rw[Rat.divInt_eq_div];exact qxv (bnd.div (fun h=>vp (by exact_mod_cast h)) k1 k2) (by omega) (by omega)
theorem qNs(ax ay bx cy:Int):tsQ ax ay ax ay bx cy=0:=by
 have e:dtI (bx-ax) (cy-ay) (ax-bx) (ay-cy)=- dtI (bx-ax) (cy-ay) (bx-ax) (cy-ay):=by unfold dtI;rw[show ax-bx=-(bx-ax) by omega,show ay-cy=-(cy-ay) by omega,Int.mul_neg,Int.mul_neg];omega
 have:=qFE (bx-ax) (cy-ay);unfold tsQ;rw[if_neg (by omega),Int.sub_self,Int.sub_self,if_pos (by unfold dtI;simp)];decide
theorem qNt(ax ay bx cy:Int):tsQ bx cy ax ay bx cy=0:=by
 unfold tsQ;rw[if_neg (by unfold dtI;simp)];split
 ·rename_i h;have:=qFE (bx-ax) (cy-ay);rw[show dtI (bx-ax) (cy-ay) (bx-ax) (cy-ay)=0 by omega];decide
 ·rw[show (bx-ax)*(cy-ay)-(cy-ay)*(bx-ax)=0 by rw[qPN];omega];simp
theorem qIz(q:Rat):¬tQ q=[]:=by
 intro h;by_cases hq:q.den=1
 ·rw[qk5 hq] at h;unfold tI at h;split at h
  ·cases h
  ·exact qrT _ h
 ·rw[qfy hq] at h;have:=congrArg List.length h;rw[qOz,qON] at this;simp at this
def bq(f:Nat->Rat):Nat->Rat
 | 0=>f 0
 | i+1=>if f (i+1)<bq f i then f (i+1) else bq f i
def bqA(f:Nat->Rat):Nat->Nat
 | 0=>0
 | i+1=>if f (i+1)<bq f i then i+1 else bqA f i
theorem qGK(f:Nat->Rat):∀i,∃j,j<=i/\bq f i=f j
 | 0=>⟨0,qOe _,rfl⟩
 | i+1=>by
  simp only[bq];split
  ·exact⟨i+1,qOe _,rfl⟩
  ·obtain⟨j,h1,h2⟩:=qGK f i;exact⟨j,by omega,h2⟩
theorem qMV(f:Nat->Rat):∀{i j:Nat},j<=i->bq f i<=f j
 | 0,j,h=>by
  obtain rfl:j=0:=by omega
  exact qPD
 | i+1,j,h=>by
  simp only[bq];by_cases e:j=i+1
  ·subst e;split
   ·exact qPD
   ·rename_i hh;exact Rat.not_lt.1 hh
  ·have:=qMV f (i:=i) (j:=j) (by omega);split
   ·rename_i hh;grind
   ·exact this
theorem qG1{f:Nat->Rat}(h0:∀i,0<=f i){i j:Nat}(hj:j<=i)(h:f j=0):bq f i=0:=by obtain⟨k,_,h2⟩:=qGK f i;have a:=qMV f hj;rw[h] at a;have b:=h0 k;rw[<-h2] at b;exact Rat.le_antisymm a b
def sgA(l:R)(i:Nat):Prop:=cI l (i:Int) 0=cI l ((i+1:Nat):Int) 0/\cI l (i:Int) 1=cI l ((i+1:Nat):Int) 1
instance (l:R) (i:Nat):Decidable (sgA l i):=by unfold sgA;infer_instance
theorem qBK{i n:Nat}(h:i<n):qs2 (i:Int) (n:Int)=(i:Int):=by rw[qCM,Nat.mod_eq_of_lt h]
theorem qAz{l:R}(hv:qsl l=0):∃e,(q3j [.r l,.b false]).run=some (0,[.i e])/\(e=0->2<=l.length/\∀i,i+1<l.length->¬sgA l i):=by
 have l64:=(qj9 hv).1;have lr:qg l=(l.length:Int):=rfl;rw[qrC];by_cases h2:l.length<2
 ·exact⟨13,by simp only[STD,vH,hv,lr,show (l.length:Int)<2 by omega],fun h=>by cases h⟩
 ·have key:=q23 (S:=vn) (fun i=>[.r l,.i (l.length:Int),.i (i:Int),.i 0,.r l,.b false]) (fun i=>if sgA l i then some (1,[.i 7,.r l,.b false]) else none)
   (2,[.i 0,.r l,.b false]) (l.length-1) (by omega) (fun i hi hf=>by
    have ns:¬sgA l i:=by
     split at hf
     ·cases hf
     ·assumption
    have w:=jd (show i<l.length by omega) (show l.length<9223372036854775808 by omega);have r:=qBK (show i+1<l.length by omega);rw[q2A];unfold sgA at ns;simp only[STD,lr,w,r,show (i:Int)<l.length by omega,show (0:Int)<=i by omega,show ((i+1:Nat):Int)<l.length by omega,show (0:Int)<=((i+1:Nat):Int) by omega,show ¬((i+1:Nat):Int)=(l.length:Int) by omega,show ¬(l.length:Int)=0 by omega,ns,and_self,and_true]) (fun i r hi hf=>by
    have ns:sgA l i/\r=(1,[.i 7,.r l,.b false]):=by
     split at hf
     ·rename_i h;exact⟨h,(qOO hf).symm⟩
     ·cases hf
    obtain⟨⟨n1,n2⟩,rfl⟩:=ns;have w:=jd (show i<l.length by omega) (show l.length<9223372036854775808 by omega);have r:=qBK (show i+1<l.length by omega);rw[q2A];simp only[STD,lr,w,r,show (i:Int)<l.length by omega,show (0:Int)<=i by omega,show ((i+1:Nat):Int)<l.length by omega,show (0:Int)<=((i+1:Nat):Int) by omega,show ¬((i+1:Nat):Int)=(l.length:Int) by omega,show ¬(l.length:Int)=0 by omega,n1,n2,and_self]) (by
    have w:=jd (show l.length-1<l.length by omega) (show l.length<9223372036854775808 by omega);rw[show l.length-1+1=l.length by omega] at w;rw[q2A];simp only[STD,lr,w,show ((l.length-1:Nat):Int)<l.length by omega,show (0:Int)<=((l.length-1:Nat):Int) by omega,and_self])
  have key':(qf vn [.r l,.i (l.length:Int),.i 0,.i 0,.r l,.b false]).run=_:=key;cases hs:q80 (fun i=>if sgA l i then some (1,[PV.i 7,.r l,.b false]) else none) 0 (l.length-1) with
  | none=>
   rw[hs,Option.getD_none] at key';refine⟨0,by simp only[STD,vH,hv,lr,show ¬(l.length:Int)<2 by omega,key',zf key',show ¬((2:Nat)=0) by decide,show ¬((2:Nat)=1) by decide],fun _=>⟨by omega,fun i hi hb=>?_⟩⟩;have:=qcG hs i (by omega) (by omega);rw[if_pos hb] at this;cases this
  | some r=>
   obtain⟨k,_,_,hb⟩:=qcd hs;split at hb
   ·cases hb;rw[hs,qOT] at key';exact⟨7,by simp only[STD,vH,hv,lr,show ¬(l.length:Int)<2 by omega,key',zf key',show ¬((1:Nat)=0) by decide],fun h=>by cases h⟩
   ·cases hb
def sgF(l:R)(px py:Int)(i:Nat):Rat:=tsQ px py (cI l (i:Int) 0) (cI l (i:Int) 1) (cI l ((i+1:Nat):Int) 0) (cI l ((i+1:Nat):Int) 1)
theorem qCO{a b:Rat}(ha:bnd 100 100 a)(hb:bnd 100 100 b):(jQ [.s (tQ a),.s (tQ b)]).run=some (0,[.i (qIm a b)]):=by have r:=q6L ha hb (by omega) (by omega);change (qP _).run=some (0,[.i (qIm _ _),.i 0]) at r;rw[qrz];simp only[STD,r]
def bT(f:Nat->Rat):Nat->Bs
 | 0=>[]
 | i+1=>tQ (bq f i)
def bN(f:Nat->Rat):Nat->Nat
 | 0=>0
 | i+1=>bqA f i
theorem qHF{l:R}(hv:qsl l=0)(h2:2<=l.length)(hn:∀i,i+1<l.length->¬sgA l i){px py:Int}(h3:co px)(h4:co py) :(q0I [.r l,.b false,.i px,.i py]).run=some (0,[.s (tQ (bq (sgF l px py) (l.length-2))),.i (bqA (sgF l px py) (l.length-2):Nat),.i 0]):=by
 obtain⟨l64,hc⟩:=qj9 hv;have lr:qg l=(l.length:Int):=rfl;obtain⟨f,hf⟩:∃f,f=sgF l px py:=⟨_,rfl⟩;have fb:∀i,i+1<l.length->bnd 100 100 (f i):=fun i hi=>by rw[hf];exact qKt h3 h4 (hc i (by omega)).1 (hc i (by omega)).2 (hc (i+1) hi).1 (hc (i+1) hi).2 (hn i hi)
 have key:=qp (S:=wi) (fun i=>[.r l,.i (l.length:Int),.i (i:Int),.i px,.i py,.s [],.i 0,.i 0,.s (bT f i),.i (bN f i:Nat),.r l,.b false])
  (2,[.i px,.i py,.s [],.i 0,.i 0,.s (tQ (bq f (l.length-2))),.i (bqA f (l.length-2):Nat),.r l,.b false]) (l.length-1) (by omega) (fun i hi=>by
  have hi':i+1<l.length:=by omega
  have ts:=qKI h3 h4 (hc i (by omega)).1 (hc i (by omega)).2 (hc (i+1) hi').1 (hc (i+1) hi').2 (hn i hi');have ef:tsQ px py (cI l (i:Int) 0) (cI l (i:Int) 1) (cI l ((i+1:Nat):Int) 0) (cI l ((i+1:Nat):Int) 1)=f i:=by rw[hf];rfl
  rw[ef] at ts;have w:=jd (show i<l.length by omega) (show l.length<9223372036854775808 by omega);have r:=qBK hi';rw[q6l];cases i with
  | zero=>
   have s0:seq [] []=true:=by rw[yk]
   have w':qu .i64 0 1=((0+1:Nat):Int):=w;have ts':=ts;rw[show ((0:Nat):Int)=0 from rfl] at ts';simp only[STD,bT,bN,bq,bqA,lr,w',r,ts',s0,show ((0:Nat):Int)=0 from rfl,show (0:Int)<l.length by omega,show (0:Int)<=0 by decide,show ((0+1:Nat):Int)<l.length by omega,show (0:Int)<=((0+1:Nat):Int) by omega,show ¬((0+1:Nat):Int)=(l.length:Int) by omega,show ¬(l.length:Int)=0 by omega,and_self]
  | succ j=>
   obtain⟨k,k1,k2⟩:=qGK f j;have bb:bnd 100 100 (bq f j):=by rw[k2];exact fb k (by omega)
   have o:=qCO (fb (j+1) hi') bb;have s0:(seq (tQ (bq f j)) []=true)=False:=by rw[yk];exact eq_false (qIz _)
   by_cases c:f (j+1)<bq f j
   ·simp only[STD,bT,bN,bq,bqA,lr,w,r,ts,s0,o,qHo,c,show ((j+1:Nat):Int)<l.length by omega,show (0:Int)<=((j+1:Nat):Int) by omega,show ((j+1+1:Nat):Int)<l.length by omega,show (0:Int)<=((j+1+1:Nat):Int) by omega,show ¬((j+1+1:Nat):Int)=(l.length:Int) by omega,show ¬(l.length:Int)=0 by omega,and_self]
   ·simp only[STD,bT,bN,bq,bqA,lr,w,r,ts,s0,o,qHo,c,show ((j+1:Nat):Int)<l.length by omega,show (0:Int)<=((j+1:Nat):Int) by omega,show ((j+1+1:Nat):Int)<l.length by omega,show (0:Int)<=((j+1+1:Nat):Int) by omega,show ¬((j+1+1:Nat):Int)=(l.length:Int) by omega,show ¬(l.length:Int)=0 by omega,and_self]) (by
  obtain⟨n,hn⟩:∃n,l.length=n+2:=⟨l.length-2,by omega⟩;have w:=jd (show n+1<n+2 by omega) (show n+2<9223372036854775808 by omega);rw[show l.length-1=n+1 by omega,show l.length-2=n by omega,q6l];simp only[STD,bT,bN,lr,hn,w,show ((n+1:Nat):Int)<((n+2:Nat):Int) by omega,show (0:Int)<=((n+1:Nat):Int) by omega,and_self])
 have key':(qf wi [.r l,.i (qg l),.i 0,.i px,.i py,.s [],.i 0,.i 0,.s [],.i 0,.r l,.b false]).run=_:=key;rw[<-hf,qo1];simp only[STD,key',zf key',show ¬((2:Nat)=0) by decide,show ¬((2:Nat)=1) by decide]
variable {l:R}
theorem qJ7 (h2:2<=l.length){i:Nat}(hi:i<l.length):bq (sgF l (cI l (i:Int) 0) (cI l (i:Int) 1)) (l.length-2)=0:=by
 by_cases c:i+1<l.length
 ·exact qG1 (fun _=>qK7 _ _ _ _ _ _) (show i<=l.length-2 by omega) (qNs _ _ _ _)
 ·refine qG1 (j:=l.length-2) (fun _=>qK7 _ _ _ _ _ _) (qOe _) ?_;rw[show l.length-2+1=i by omega];exact qNt _ _ _ _
theorem qED (hv:qsl l=0):∃e,(q0Y [.r l,.b false,.r l,.i 0]).run=some (0,[.r [],.i e]):=by
 obtain⟨l64,hc⟩:=qj9 hv;obtain⟨e,he,hz⟩:=qAz hv;rw[qoM];by_cases h0:e=0
 case neg=>exact⟨e,by simp only[STD,he,h0]⟩
 subst h0;obtain⟨h2,hn⟩:=hz rfl;have lr:qg l=(l.length:Int):=rfl;have tk:=qp (S:=wG) (fun i=>[.r [[.i 0]],.i 1,.i (i:Int)]) (0,[]) 1 (by omega) (fun i hi=>by
  obtain rfl:i=0:=by omega
  rw[q7D];have a0:cI [[U.i 0]] ((0:Nat):Int) 0=0:=rfl;have a1:qg [[U.i 0]]=1:=rfl;simp only[STD,a0,a1,show ((0:Nat):Int)<1 by decide,show (0:Int)<=((0:Nat):Int) by decide,show ¬(0:Int)<0 by decide,show ¬(100000:Int)<0 by decide,and_self];rfl) (by
  rw[q7D];simp only[STD,show ¬((1:Nat):Int)<1 by decide])
 have tk':(qf wG [.r [[.i 0]],.i (qg [[U.i 0]]),.i 0]).run=some (0,[]):=tk;have tol:(yK [.r [[.i 0]]]).run=some (0,[.i 0]):=by rw[qkt];simp only[STD,tk',zf tk']
 have of:(qbN [.i 0,.i 4]).run=some (0,[.s (tQ 0),.i 0]):=by have r:=qD9 (m:=0) (n:=4) (by decide) (by decide) (by decide);rw[show Rat.divInt 0 4=0 by decide] at r;exact r
 have b0:bnd 100 100 0:=qxv qhE (by omega) (by omega);have bd:(kL [.s (tQ 0),.s (tQ 0)]).run=some (0,[.b false,.s (tQ 0)]):=by have o:=qCO b0 b0;rw[show qIm 0 0=0 by decide] at o;rw[qnw];simp only[STD,o,show ilt 0 0=false by decide]
 obtain⟨z,hZ⟩:∃z,z=tQ 0:=⟨_,rfl⟩;rw[<-hZ] at of bd;have key:=qp (S:=we) (fun i=>[.r l,.b false,.r l,.i (l.length:Int),.i (i:Int),.r l,.b false,.r l,.i 0,.i 0,.i 0,.i 0,.i 0,.r l,.b false,.i 0,.i 0,.r l,.i 0,.i 0,.i 0,.i 0,.i 0,.i 0,.r l,.b false,.r l,.r [[.i 0]],.s z,.r []])
  (0,[.r l,.b false,.r l,.i 0,.i 0,.i 0,.i 0,.i 0,.r l,.b false,.i 0,.i 0,.r l,.i 0,.i 0,.i 0,.i 0,.i 0,.i 0,.r l,.b false,.r l,.r [[.i 0]],.s z,.r []]) l.length (by omega) (fun i hi=>by
   have w:=jd hi (show l.length<9223372036854775808 by omega);have n:=qHF hv h2 hn (hc i hi).1 (hc i hi).2;rw[qJ7 h2 hi,<-hZ] at n;rw[q6g];simp only[STD,lr,w,n,bd,show (i:Int)<l.length by omega,show (0:Int)<=i by omega,and_self]) (by
   rw[q6g];simp only[STD,Int.lt_irrefl])
 have key':(qf we [.r l,.b false,.r l,.i (l.length:Int),.i 0,.r l,.b false,.r l,.i 0,.i 0,.i 0,.i 0,.i 0,.r l,.b false,.i 0,.i 0,.r l,.i 0,.i 0,.i 0,.i 0,.i 0,.i 0,.r l,.b false,.r l,.r [[.i 0]],.s z,.r []]).run=_:=key;exact⟨0,by simp only[STD,lr,he,vH,hv,tol,of,show zw .i64 0 0=0 by decide,key',zf key']⟩
theorem qIc (_:qrM l=0){L:List Nat}{n:Nat}(lo:LO (raR l) 3 L n){ax ay d:Int}(_:okP ax ay l)(hp:4*mx (rad ax ay l)<=d*d):pinB l L d=true:=by
 have key:sO (raR l) L+d2 ⟨(ax:Rat),(ay:Rat),0⟩ (Go.Eng.cen (n+1) (wts (tO (raR l) L) n) fun j=>pV (raR l) (Lf (raR l) L j))<=((mx (rad ax ay l):Int):Rat):=qME lo.sup fun i hi=>by
  rw[qt4] at hi;have e:=qNQ hi ax ay;rw[e];refine Rat.intCast_le_intCast.2 ?_;have m:far ax ay l i∈rad ax ay l:=qAM.2 ⟨i,hi,rfl⟩;have q:=qLp m;unfold far sqr at q;have s1:(ax-cI l (i:Int) 0)*(ax-cI l (i:Int) 0)=(cI l (i:Int) 0-ax)*(cI l (i:Int) 0-ax):=by rw[show ax-cI l (i:Int) 0=-(cI l (i:Int) 0-ax) by omega,qPn]
  have s2:(ay-cI l (i:Int) 1)*(ay-cI l (i:Int) 1)=(cI l (i:Int) 1-ay)*(cI l (i:Int) 1-ay):=by rw[show ay-cI l (i:Int) 1=-(cI l (i:Int) 1-ay) by omega,qPn]
  first
   | exact q
   | (rw[s1,s2];exact q)
 have dn:=qBr ⟨(ax:Rat),(ay:Rat),0⟩ (Go.Eng.cen (n+1) (wts (tO (raR l) L) n) fun j=>pV (raR l) (Lf (raR l) L j));have hc:((4*mx (rad ax ay l):Int):Rat)<=((d*d:Int):Rat):=Rat.intCast_le_intCast.2 hp;rw[qPu] at hc;refine decide_eq_true ?_;have e4:((4:Int):Rat)=4:=rfl;rw[e4] at hc;grind
theorem qpN (x0:R)(x1 x2 x3:Int)(_:UFit (.sl [(.int .i64),(.int .i64)]) (.l x0))(wex0:x0.length*16<=140737488351232)(_:IntKind.min .i64<=x1)(_:x1<=IntKind.max .i64)(_:IntKind.min .i64<=x2)(_:x2<=IntKind.max .i64)(lox3:IntKind.min .u16<=x3)(hix3:x3<=IntKind.max .u16):(kS [.r x0,.i x1,.i x2,.i x3]).run=some (0,[.b true]):=by
 obtain⟨b,hb⟩:=qG5 x0;have t0:0<=x3:=lox3;have t1:x3<=65535:=hix3;have wc:qy8 .i64 x3=x3:=qD7 (by omega);rw[qmh];cases b with
 | false=>simp only[STD,hb,ue]
 | true=>
  by_cases hv:qsl x0=0
  case neg=>simp only[STD,hb,j4,hv,ue]
  by_cases hn:qg x0=0
  ·simp only[STD,hb,j4,hv,hn,ue]
  by_cases hp:ptE x1 x2=0
  case neg=>simp only[STD,hb,j4,hv,hn,kK,hp,ue]
  obtain⟨v1,v2⟩:=qwq hv;have ok:okP x1 x2 x0:=⟨hp,v2⟩;have p0:0<x0.length:=by unfold qg at hn;omega
  have h0:qrM x0=0:=by unfold qrM;rw[if_pos hv,if_neg hn]
  have rr:(q4Z [.r x0,.i x1,.i x2]).run=some (0,[.i (mn (rad x1 x2 x0)),.i (mx (rad x1 x2 x0)),.i 0]):=by rw[qu4];simp only[STD,vH,qlG,hv,hn,hp,qng ok p0 v1]
  obtain⟨e1,e2,e3⟩:=qs7 ok p0;obtain⟨L,n,lo,_⟩:=qkI h0;have pp:=qFQ h0 lo (d:=x3) (by omega) (by omega);obtain⟨e,ho⟩:=qED hv;obtain⟨s1,s2⟩:=qCw (d:=x3) (by omega) (by omega);have w0:qu .i64 0 0=0:=by decide
  have w1:zw .i64 4 (mx (rad x1 x2 x0))=4*mx (rad x1 x2 x0):=zV ⟨by omega,by omega⟩;have w2:zw .i64 x3 x3=x3*x3:=zV ⟨by omega,by omega⟩;have rl:qg ([]:R)=0:=rfl;by_cases c:4*mx (rad x1 x2 x0)<=x3*x3
  ·have pt:=qIc h0 lo ok c;rw[pt] at pp;by_cases c2:e=0
   ·simp only[STD,hb,j4,hv,hn,kK,hp,ue,wc,rr,pp,ho,w0,w1,w2,c,c2,rl]
   ·simp only[STD,hb,j4,hv,hn,kK,hp,ue,wc,rr,pp,ho,w0,w1,w2,c,c2]
  ·by_cases c2:e=0
   ·simp only[STD,hb,j4,hv,hn,kK,hp,ue,wc,rr,pp,ho,w0,w1,w2,c,c2,rl]
   ·simp only[STD,hb,j4,hv,hn,kK,hp,ue,wc,rr,pp,ho,w0,w1,w2,c,c2]
end Go.Eng

