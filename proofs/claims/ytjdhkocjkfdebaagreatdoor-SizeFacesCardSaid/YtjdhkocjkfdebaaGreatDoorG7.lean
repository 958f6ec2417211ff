/- Texts of the proof, merged: what the code computes, and plain laws. No statement stands here. -/
import Derived.Test.YtjdhkocjkfdebaaGreatDoorG6
namespace Go.Eng
theorem qLR{P:Nat->Nat->Rat}{n C c a b:Nat}(hb:BM n C a b P)(hc:c<n)(hcC:c<C)(hp:P c c≠0)(ha:2*a+3*b<=90000):NxOk P n C c/\BM n C (2*a+2*b+1) (a+3*b) (nxt P c):=by
 have q:∀j,j<C->bnd (a+b) (b+a) (P c j/P c c):=fun j hj=>bnd.div hp (hb c j hc hj) (hb c c hc hcC);have m:∀i j,i<n->j<C->bnd (a+(a+b)) (b+(b+a)) (P i c*(P c j/P c c)):=fun i j hi hj=>(hb i c hi hcC).mul (q j hj);refine⟨⟨fun i j hi hj=>(hb i j hi hj).sm (by omega) (by omega),fun j hj=>(q j hj).sm (by omega) (by omega),fun i j hi hj=>(m i j hi hj).sm (by omega) (by omega)⟩,fun i j hi hj=>?_⟩;unfold nxt;by_cases e:i=c
 ·rw[if_pos e];exact(q j hj).mono (by omega) (by omega)
 ·rw[if_neg e];exact((hb i j hi hj).sub (m i j hi hj) (K:=2*a+2*b+1) (by omega) (by omega)).mono (qO0 _) (by omega)
theorem qJ0(k:Nat)(h:k<=3):2*(bs k).1+3*(bs k).2<=90000:=by rcases (show k=0\/k=1\/k=2\/k=3 by omega) with rfl|rfl|rfl|rfl<;>decide
theorem qNR{n:Nat}(hn:n<=3){M0:Nat->Nat->Rat}(hb0:BM n (n+1) 13 1 M0) :(∃N,q4n n (pvQ n) n 0 M0=some N/\(qf va [.i 0,.r (qcT (fun i j=>tQ (M0 i j)) n (n+1))]).run=some (0,[.r (qcT (fun i j=>tQ (N i j)) n (n+1))])) \/(q4n n (pvQ n) n 0 M0=none/\(qf va [.i 0,.r (qcT (fun i j=>tQ (M0 i j)) n (n+1))]).run=some (1,[.b false])):=by
 have key:=jh (S:=va) (n:=n)
  (fun k ps=>∃c M,c+k=n/\ps=[.i (c:Int),.r (qcT (fun i j=>tQ (M i j)) n (n+1))]/\BM n (n+1) (bs c).1 (bs c).2 M/\q4n n (pvQ n) k c M=q4n n (pvQ n) n 0 M0)
  (fun j qs=>(j=0/\∃N,q4n n (pvQ n) n 0 M0=some N/\qs=[.r (qcT (fun i j=>tQ (N i j)) n (n+1))])\/(j=1/\q4n n (pvQ n) n 0 M0=none/\qs=[.b false])) (by omega)
  (fun k ps hk hI=>by
   obtain⟨c,M,h1,rfl,hb,hg⟩:=hI;rw[qhf];cases k with
   | zero=>
    right;refine⟨0,[.r (qcT (fun i j=>tQ (M i j)) n (n+1))],?_,.inl ⟨rfl,M,hg.symm,rfl⟩⟩;have:c=n:=by omega
    subst this;simp only[STD,q9v,show ¬(c:Int)<c by omega]
   | succ k=>
    have hc:c<n:=by omega
    have sw:=qFV (P:=M) (C:=n+1) hc (by omega) (by omega);have hcn:(c:Int)<n:=by omega
    by_cases hp:pvI M c n (n-c)=n
    ·right;rw[if_pos hp] at sw;have g0:q4n n (pvQ n) (k+1) c M=none:=by simp only[q4n,pvQ,if_pos hp]
     refine⟨1,[.b false],?_,.inr ⟨rfl,by rw[<-hg,g0],rfl⟩⟩;simp only[STD,q9v,sw,hcn]
    ·left;rw[if_neg hp] at sw;obtain⟨i0,hi0⟩:∃i0,i0=pvI M c n (n-c):=⟨_,rfl⟩;rw[<-hi0] at sw hp;have cs:=qhK M c n (n-c) (by omega);rw[<-hi0] at cs;obtain⟨p1,p2,p3⟩:n-(n-c)<=i0/\i0<n/\M i0 c≠0:=by
      rcases cs with⟨e,_⟩|e
      ·exact absurd e hp
      ·exact e
     have hbP:BM n (n+1) (bs c).1 (bs c).2 fun i j=>M (swI c i0 i) j:=fun i j hi hj=>hb _ j (qwe hc p2 hi) hj;have hpc:(fun i j=>M (swI c i0 i) j) c c≠0:=by show M (swI c i0 c) c≠0;rw[qCx];exact p3
     obtain⟨ok,bn⟩:=qLR hbP hc (by omega) hpc (qJ0 c (by omega));have w:=qNp hc (show c<n+1 by omega) (by omega) (by omega) hpc ok;rw[qLY] at w bn;refine⟨k,[.i ((c+1:Nat):Int),.r (qcT (fun i j=>tQ (gs c i0 M i j)) n (n+1))],by omega,?_,c+1,gs c i0 M,by omega,rfl,bn,?_⟩
     ·simp only[STD,q9v,sw,w,hcn,vX hc (show n<9223372036854775808 by omega)]
     ·rw[<-hg];simp only[q4n,pvQ];rw[<-hi0,if_neg hp])
  (ps:=[.i ((0:Nat):Int),.r (qcT (fun i j=>tQ (M0 i j)) n (n+1))]) ⟨0,M0,by omega,rfl,hb0,rfl⟩
 obtain⟨j,qs,h1,⟨rfl,N,h2,rfl⟩|⟨rfl,h2,rfl⟩⟩:=key
 ·exact .inl ⟨N,h2,h1⟩
 ·exact .inr ⟨h2,h1⟩
theorem qIt{l:R}{n:Nat}(h:yu l)(hl:l.length=n+1):BM n (n+1) 13 1 (qtR (pV l) n):=fun i j hi hj=>by
 unfold qtR;by_cases e:j=n
 ·rw[if_pos e,<-qGq];have bd:=qAO h (i:=i+1) (k:=i+1) (by omega) (by omega);exact qp8 (qLy (by omega) (by omega)) (by omega)
 ·rw[if_neg e,<-qr3];have bd:=qAO h (i:=i+1) (k:=j+1) (by omega) (by omega);exact qp8 (qLy (by unfold gI2;omega) (by omega)) (by omega)
theorem qCY{l:R}{n:Nat}(h:yu l)(hl:l.length=n+1)(hn:n<=3){t:Nat->Rat}(ht:Bl n (pV l) t):(∀j,j<n+1->bnd 36 36 (wts t n j))/\CB (cen (n+1) (wts t n) (pV l)):=by
 rcases qCG h hl hn with⟨t',h1,h2,h3,_⟩|⟨h1,_⟩
 ·have e:=qn7 h1 ht;rw[qhM e] at h3;exact⟨fun j hj=>by rw[<-e j hj];exact h2 j hj,h3⟩
 ·exact absurd ht.ind h1
theorem qhC{l:R}{n:Nat}(h:yu l)(hl:l.length=n+1)(hn:n<=3) :(∃t,Bl n (pV l) t/\(jy [.r l]).run=some (0,[.r (txR ((List.range (n+1)).map fun j=>tQ (wts t n j))),.b true])) \/(¬Ind (n+1) (pV l)/\(jy [.r l]).run=some (0,[.r [],.b false])):=by
 have r0:=qNP h hl;rcases qNR hn (qIt h hl) with⟨N,g,r1⟩|⟨g,r1⟩
 ·left;have bl:=qG6 (qzh n) g;have tb:∀k,k<n->bnd 36 36 (N k n):=fun k hk=>by have:=(qCY h hl hn bl).1 (k+1) (by omega);unfold wts at this;rw[if_neg (by omega)] at this;exact this
  have r2:=qNm (P:=N) (n:=n) (by omega);have r3:=qwx hn tb;have r4:=q6m (qwU.sm (K:=100000) (by omega) (by omega)) ((qsp tb n (qO0 _)).sm (K:=100000) (by omega) (by omega));rw[show tQ 1=([49]:Bs) by decide] at r4;have e5:∀s:Bs,qg [[U.s s]]=1:=fun _=>rfl;have e6:=qD3 n fun i=>N i n;refine⟨_,bl,?_⟩;rw[qgG];simp only[STD,r0,r1,zh r1,r2,r3,r4,e5,e6,q4D,show (1:Int)+n<=8796093022208 by omega]
 ·right;refine⟨qF7 (qzh n) g,?_⟩;rw[qgG];simp only[STD,r0,r1,zh r1];rw[if_neg (by decide)]
theorem qpN{l:R}{n:Nat}(h:yu l)(hl:l.length=n+1)(hn:n<=3) :(∃t,Bl n (pV l) t/\(q0r [.r l]).run=some (0,[.s (tQ (cen (n+1) (wts t n) (pV l)).x),.s (tQ (cen (n+1) (wts t n) (pV l)).y),.s (tQ (cen (n+1) (wts t n) (pV l)).z),.s (tQ (d2 (cen (n+1) (wts t n) (pV l)) (pV l 0))),.b true])) \/(¬Ind (n+1) (pV l)/\(q0r [.r l]).run=some (0,[.s [],.s [],.s [],.s [],.b false])):=by
 have hL:qg l=((n+1:Nat):Int):=by unfold qg;rw[hl]
 rcases qhC h hl hn with⟨t,bl,r0⟩|⟨g,r0⟩
 ·left;obtain⟨wb,cb⟩:=qCY h hl hn bl;have r1:=qvq h hl (by omega) wb;refine⟨t,bl,?_⟩;obtain⟨c,hc⟩:∃c,c=cen (n+1) (wts t n) (pV l):=⟨_,rfl⟩;rw[<-hc] at r1 cb ⊢;obtain⟨z1,z2,z3⟩:=h.row0 (show 0<l.length by omega);have r2:(uQ [.s (tQ c.x),.s (tQ c.y),.s (tQ c.z),.i (cI l 0 0),.i (cI l 0 1),.i (cI l 0 2)]).run=some (0,[.s (tQ (d2 c (pV l 0)))]):=qq9 cb z1 z2 z3;rw[qmm];simp only[STD,r0,r1,r2,hL,show (0:Int)<((n+1:Nat):Int) by omega,show (0:Int)<=0 by omega,and_self]
 ·right;refine⟨g,?_⟩;rw[qmm];simp only[STD,r0]
theorem qLL{q:Rat}:(0<=sgq q)=(0<=q):=by apply propext;rw[<-Int.not_lt,qE2,Rat.not_lt]
def nnB(w:Nat->Rat):Nat->Bool
 | 0=>true
 | k+1=>nnB w k&&decide (0<=w k)
theorem qHB(w:Nat->Rat):∀k,nnB w k=true↔∀j,j<k->0<=w j
 | 0=>⟨fun _ j hj=>by omega,fun _=>rfl⟩
 | k+1=>by
  rw[nnB,qOd,qHB w k,decide_eq_true_iff];exact⟨fun h j hj=>if e:j=k then e▸h.2 else h.1 j (by omega),fun h=>⟨fun j hj=>h j (by omega),h k (by omega)⟩⟩
theorem qNs{n:Nat}(hn:n<=1000){w:Nat->Rat}(hw:∀k,k<n->sm 100000 (w k)) :(qf q1p [.r (txR ((List.range n).map fun k=>tQ (w k))),.b true,.i 0]).run=some (0,[.b (nnB w n)]):=by
 obtain⟨x,hx⟩:∃x,x=txR ((List.range n).map fun k=>tQ (w k)):=⟨_,rfl⟩;have lx:qg x=(n:Int):=by rw[hx,q4D]
 have gx:∀k,k<n->cS x (k:Int) 0=tQ (w k):=fun k hk=>by rw[hx];exact qhD (fun k=>tQ (w k)) hk
 rw[<-hx];have key:=qq (S:=q1p) (fun k=>[.r x,.b (nnB w k),.i (k:Int)]) (0,[.b (nnB w n)]) n (by omega) (fun k hk=>by
  have e:ile 0 (sgq (w k))=decide (0<=w k):=decide_eq_decide.2 (by rw[qLL]);rw[qe5,nnB];cases nnB w k with
  | false=>simp only[STD,lx,vX hk (show n<9223372036854775808 by omega),show (k:Int)<n by omega,Bool.false_and]
  | true=>simp only[STD,lx,gx k hk,quC (hw k hk),e,vX hk (show n<9223372036854775808 by omega),show (k:Int)<n by omega,show (0:Int)<=k by omega,and_self,Bool.true_and]) (by
  rw[qe5];simp only[STD,lx,show ¬(n:Int)<n by omega])
 exact key
theorem quO{l:R}{n:Nat}(h:yu l)(hl:l.length=n+1)(hn:n<=3){t:Nat->Rat}(ht:Bl n (pV l) t) :(q7V [.r l]).run=some (0,[.b (nnB (wts t n) (n+1))]):=by
 rcases qhC h hl hn with⟨t',bl,r0⟩|⟨g,r0⟩
 ·have e:=qn7 bl ht;have wb:=(qCY h hl hn ht).1;have el:((List.range (n+1)).map fun j=>tQ (wts t' n j))=(List.range (n+1)).map fun j=>tQ (wts t n j):=qPa fun j hj=>by rw[e j (qOV.1 hj)]
  rw[el] at r0;have r1:=qNs (n:=n+1) (by omega) (w:=wts t n) fun k hk=>(wb k hk).sm (by omega) (by omega);rw[qsw];simp only[STD,r0,r1]
 ·exact absurd ht.ind g
variable {L:List Nat}{l:R}{n:Nat}
theorem qDn {m:Nat}{p:Nat->V3}{L:Nat->Nat}{t:Nat->Rat}(h:qB5 p m n L t)(lt:∀j,j<n+1->L j<m)(asc:Asc (n+1) L) :Sup m p (n+1) L (wts t n) (d2 (cen (n+1) (wts t n) fun j=>p (L j)) (p (L 0))):=qIv h.1 lt asc h.2.1 h.2.2
theorem qIy {m:Nat}{p:Nat->V3}{L:Nat->Nat}{u:Nat->Rat}{s:Rat}(h:Sup m p (n+1) L u s):qB5 p m n L (fun j=>u (j+1)):=by
 obtain⟨b,e⟩:=qIM h;have ec:=qhM (c:=fun j=>p (L j)) e;refine⟨b,fun j hj=>?_,fun i hi=>?_⟩
 ·rw[<-e j hj];exact h.nn j hj
 ·rw[<-ec,h.eq 0 (by omega)];exact h.all i hi
noncomputable def kn(l:R)(L:List Nat):Bool:=@decide (∃t,qB5 (pV l) l.length (L.length-1) (Lf l L) t) (Classical.propDecidable _)
theorem qjG:kn l L=true↔∃t,qB5 (pV l) l.length (L.length-1) (Lf l L) t:=by unfold kn;exact @decide_eq_true_iff _ (Classical.propDecidable _)
theorem qlv:kn l L=false↔∀t,¬qB5 (pV l) l.length (L.length-1) (Lf l L) t:=by unfold kn;rw[@decide_eq_false_iff_not _ (Classical.propDecidable _)];exact⟨fun h t ht=>h ⟨t,ht⟩,fun h ⟨t,ht⟩=>h t ht⟩
def Mst(l:R)(m:Nat):Prop:=m=4\/m=3/\∀k,k<l.length->(pV l k).z=0
theorem qEm (hl:0<l.length){m:Nat}(hm:Mst l m):∃L n,qgt (kn l) l.length 1 m=some L/\L.length=n+1/\n<m/\n<=3/\(∀a,a∈L->a<l.length)/\L.Pairwise (·<·)/\∃t,qB5 (pV l) l.length n (Lf l L) t:=by
 cases e:qgt (kn l) l.length 1 m with
 | some L=>
  obtain⟨h1,j,h2,h3,h4⟩:=qsG e;obtain⟨q1,q2,q3⟩:=qld.1 h4;have hm4:m<=4:=by rcases hm with e|e<;>omega
  obtain⟨t,ht⟩:=qjG.1 h1;rw[q1] at ht;exact⟨L,j-1,rfl,by omega,by omega,by omega,q2,q3,t,ht⟩
 | none=>
  exfalso;obtain⟨L,u,s,h1,h2,h3,h4,h5,h6⟩:=qJc (pV l) hl l.length;have hm4:L.length<1+m:=by
   rcases hm with e|⟨e,hz⟩
   ·omega
   ·have:=h3 hz;omega
  have:=qsI e L.length (by omega) hm4 L (qld.2 ⟨rfl,h4,h5⟩);obtain⟨n,hn⟩:∃n,L.length=n+1:=⟨L.length-1,by omega⟩;rw[hn] at h6;refine qlv.1 this (fun j=>u (j+1)) ?_;rw[show L.length-1=n from by omega];exact qIy h6
theorem qg7 (hs:yu l)(hL:L.length=n+1)(hn:n<=3)(hlt:∀k,k∈L->k<l.length) :(q3Z [.r l,.r (rN L)]).run=some (0,[.b (kn l L)]):=by
 have ch:=qkO (l:=l) (L:=L) (by omega) hlt;have sp:=qsj hs (show L.length<=64 by omega) hlt;have hl:(chR l L).length=n+1:=by rw[qhG];exact hL
 have key:=qpN sp hl hn;have eL:L.length-1=n:=by omega
 rcases key with⟨t,h1,h4⟩|⟨h1,h4⟩
 ·obtain⟨wb,cb⟩:=qCY sp hl hn h1;have i1:=quO sp hl hn h1;rw[qzb] at h1 cb h4;have l0:Lf l L 0<l.length:=by unfold Lf;rw[qNZ,qO5 (show 0<L.length by omega)];exact hlt _ (qOI _)
  have fb:=qww hs cb l0;obtain⟨b2,j1,j2⟩:=qqp hs cb fb;have iff:kn l L=(nnB (wts t n) (n+1)&&b2):=by
   rw[Bool.eq_iff_iff,qjG,eL,qOd,qHB,j2];constructor
   ·rintro ⟨t',ht'⟩;have hh:=qA7 ht' h1;exact⟨hh.2.1,hh.2.2⟩
   ·rintro ⟨h2,h3⟩;exact⟨t,h1,h2,h3⟩
  rw[iff,qer];cases hb:nnB (wts t n) (n+1) with
  | false=>
   rw[hb] at i1;simp only[STD,ch,h4,i1,Bool.false_and]
  | true=>
   rw[hb] at i1;simp only[STD,ch,h4,i1,j1,Bool.true_and]
 ·rw[qzb] at h1;have e:kn l L=false:=qlv.2 fun t ht=>by rw[eL] at ht;exact h1 ht.1.ind
  rw[e,qer];simp only[STD,ch,h4]
end Go.Eng

namespace Go.Eng
variable {j:Nat}
def lsR(ls:List (List Nat)):R:=ls.map fun L=>[U.l (rN L)]
theorem q0x (ls:List (List Nat)):qg (lsR ls)=(ls.length:Int):=by unfold lsR qg;rw[qO7]
theorem qj6 {ls:List (List Nat)}{L:List Nat}(h:ls[j]?=some L):cR (lsR ls) (j:Int) 0=rN L:=by
 have e:(lsR ls).getD ((j:Int).toNat) []=[U.l (rN L)]:=by unfold lsR;rw[qO9,qNZ,qO8,h];rfl
 unfold cR zH;rw[e];rfl
theorem qAU (ls:List (List Nat))(L:List Nat):zD (lsR ls) [[.l (rN L)]]=lsR (ls++[L]):=by unfold lsR zD;rw[qOk];rfl
theorem qGa (l:List Nat)(i:Nat):zD (rN l) [[.i (i:Int)]]=rN (l++[i]):=by unfold rN rI zD;rw[qOk,qOk];rfl
theorem qHh (l:List Nat):zD [] (rN l)=rN l:=by unfold zD;rw[qPi]
theorem qLn {l:List Nat}(h:0<l.length):cI (rN l) ((l.length:Int)-1) 0+1=(nxL l:Int):=by
 rcases List.eq_nil_or_concat l with e|⟨l',b,e⟩
 ·subst e;cases h
 ·rw[List.concat_eq_append] at e;subst e;rw[qHa];have:(((l'++[b]).length:Nat):Int)-1=((l'.length:Nat):Int):=by rw[qOh];show ((l'.length+1:Nat):Int)-1=_;omega
  rw[this,qFB (k:=b) (by rw[qOi (qO0 _),qOK];rfl)];omega
def exT(l:List Nat)(j:Nat):List (List Nat):=(List.range' (nxL l) j).map fun i=>l++[i]
theorem qCt (l:List Nat):exT l 0=[]:=rfl
theorem qDq (l:List Nat)(j:Nat):exT l (j+1)=exT l j++[l++[nxL l+j]]:=by unfold exT;rw[show List.range' (nxL l) (j+1)=List.range' (nxL l) j++[nxL l+j] from by rw[List.range'_concat,qPz],qOk];rfl
theorem qHE (n:Nat)(l:List Nat):exT l (n-nxL l)=exL n l:=rfl
theorem qBF (l:List Nat)(j:Nat):(exT l j).length=j:=by unfold exT;rw[qO7,List.length_range']
theorem qsa {α β:Type}(f:α->List β){ls:List α}{a:α}(h:ls[j]?=some a):(ls.take (j+1)).flatMap f=(ls.take j).flatMap f++f a:=by rw[List.take_add_one,h,List.flatMap_append];show _++[a].flatMap f=_;rw[List.flatMap_cons,List.flatMap_nil,qOZ]
theorem qyV{α:Type}{P:List Nat->Bool}(g:List Nat->α):∀(ls pre:List (List Nat)),q6H (fun j=>if P ((pre++ls).getD j [])=true then some (g ((pre++ls).getD j [])) else none) pre.length ls.length=(ls.find? P).map g
 | [],pre=>rfl
 | L::ls,pre=>by
  have e:(pre++L::ls).getD pre.length []=L:=by rw[qNZ,qOi (qO0 _),qOK];rfl
  have ih:=qyV (P:=P) g ls (pre++[L]);rw[qOu,qOh] at ih;rw[qOt];simp only[q6H];rw[e,List.find?_cons];cases h:P L with
  | true=>rw[if_pos rfl];rfl
  | false=>rw[if_neg (by decide)];exact ih
theorem qze{α:Type}{P:List Nat->Bool}(g:List Nat->α)(f:List Nat->List (List Nat)):∀(ls pre:List (List Nat)),q6H (fun j=>((f ((pre++ls).getD j [])).find? P).map g) pre.length ls.length=((ls.flatMap f).find? P).map g
 | [],pre=>rfl
 | L::ls,pre=>by
  have e:(pre++L::ls).getD pre.length []=L:=by rw[qNZ,qOi (qO0 _),qOK];rfl
  have ih:=qze (P:=P) g f ls (pre++[L]);rw[qOu,qOh] at ih;rw[qOt];simp only[q6H];rw[e,List.flatMap_cons,List.find?_append];cases h:(f L).find? P with
  | some a=>rfl
  | none=>exact ih
theorem qo4{α:Type}{P:List Nat->Bool}(g:List Nat->α)(n:Nat):∀(m k:Nat),q6H (fun j=>((lsN n (j+1)).find? P).map g) k m=(qgt P n (k+1) m).map g
 | 0,k=>rfl
 | m+1,k=>by
  simp only[q6H];rw[qgt];cases h:(lsN n (k+1)).find? P with
  | some a=>rfl
  | none=>exact qo4 g n m (k+1)
theorem qH4{α:Type}{P:List Nat->Bool}(g:List Nat->α)(L:List Nat):∀(m k:Nat),q6H (fun j=>if P (L++[nxL L+j])=true then some (g (L++[nxL L+j])) else none) k m=(((List.range' (nxL L+k) m).map fun i=>L++[i]).find? P).map g
 | 0,k=>rfl
 | m+1,k=>by
  have ih:=qH4 (P:=P) g L m (k+1);rw[List.range'_succ,qP5,List.find?_cons];simp only[q6H];cases h:P (L++[nxL L+k]) with
  | true=>rw[if_pos rfl];rfl
  | false=>rw[if_neg (by decide)];exact ih
theorem qrT {ls:List (List Nat)}(hj:j<ls.length):ls[j]?=some (ls.getD j []):=by rw[qNZ,qO5 hj];rfl
end Go.Eng

namespace Go.Eng
variable {k:Nat}{n:Nat}
theorem qNk {S:List PV->TR}(hS:∀(y0:Int) (y1:R) (y2:Int) (y3:R) (y4:Int) (y5:Int) (y6:R),S [.i y0,.r y1,.i y2,.r y3,.i y4,.i y5,.r y6]=(.br (ilt y2 y0) (.br (ile ((qg [])+(qg y1)) 17592186044416) (.br (ile ((qg (zD [] y1))+(qg [[(.i y2)]])) 17592186044416) (.br (ile ((qg y6)+(qg [[(.l (zD (zD [] y1) [[(.i y2)]]))]])) 5864062014805) (.leaf (0,[(.i y0),(.r y1),(.i (qm .i64 y2 1)),(.r y3),(.i y4),(.i y5),(.r (zD y6 [[(.l (zD (zD [] y1) [[(.i y2)]]))]]))])) .fail) .fail) .fail) (.leaf (1,[(.i y0),(.r y3),(.i y4),(.i y5),(.r y6)])))){n:Nat} {l:List Nat} (hn:n<=64) (hl:l.length<=64) (y3:R) (y4 y5:Int) (acc:List (List Nat)) (ha:acc.length<=1000000000) :(qf S [.i (n:Int),.r (rN l),.i (nxL l:Int),.r y3,.i y4,.i y5,.r (lsR acc)]).run=some (0,[.i (n:Int),.r y3,.i y4,.i y5,.r (lsR (acc++exL n l))]):=by
 have key:=qq (S:=S) (fun j=>[.i (n:Int),.r (rN l),.i ((nxL l+j:Nat):Int),.r y3,.i y4,.i y5,.r (lsR (acc++exT l j))]) (0,[.i (n:Int),.r y3,.i y4,.i y5,.r (lsR (acc++exL n l))]) (n-nxL l) (by omega) (fun j hj=>by
  have w:qm .i64 ((nxL l+j:Nat):Int) 1=((nxL l+j+1:Nat):Int):=vX (show nxL l+j<64 by omega) (by omega);have e1:qg ([]:R)=0:=rfl;have e2:∀x:U,qg [[x]]=1:=fun _=>rfl;have e3:(acc++exT l j).length=acc.length+j:=by rw[qOh,qBF]
  rw[hS];simp only[STD,e1,e2,qHh,qGa,qao,q0x,qAU,e3,w,show ((nxL l+j:Nat):Int)<n by omega,show (0:Int)+l.length<=17592186044416 by omega,show (l.length:Int)+1<=17592186044416 by omega,
   show ((acc.length+j:Nat):Int)+1<=5864062014805 by omega,qDq,qOu,qPv]) (by
  rw[hS];simp only[STD,show ¬((nxL l+(n-nxL l):Nat):Int)<n by omega,qHE])
 have key':(qf S [.i (n:Int),.r (rN l),.i ((nxL l+0:Nat):Int),.r y3,.i y4,.i y5,.r (lsR (acc++exT l 0))]).run=_:=key;rw[qCt,qOZ,qOQ] at key';exact key'
theorem qBW {l:List Nat}(h:0<l.length)(hl:l.length<=64)(hx:nxL l<=64):qm .i64 (cI (rN l) (zY .i64 (l.length:Int) 1) 0) 1=(nxL l:Int):=by have e:=qLn h;have e1:zY .i64 (l.length:Int) 1=(l.length:Int)-1:=zc ⟨by omega,by omega⟩;rw[e1,qK ⟨by omega,by omega⟩];exact e
theorem qN4 {S S16:List PV->TR}(hS16:∀(y0:Int) (y1:R) (y2:Int) (y3:R) (y4:Int) (y5:Int) (y6:R),S16 [.i y0,.r y1,.i y2,.r y3,.i y4,.i y5,.r y6]=(.br (ilt y2 y0) (.br (ile ((qg [])+(qg y1)) 17592186044416) (.br (ile ((qg (zD [] y1))+(qg [[(.i y2)]])) 17592186044416) (.br (ile ((qg y6)+(qg [[(.l (zD (zD [] y1) [[(.i y2)]]))]])) 5864062014805) (.leaf (0,[(.i y0),(.r y1),(.i (qm .i64 y2 1)),(.r y3),(.i y4),(.i y5),(.r (zD y6 [[(.l (zD (zD [] y1) [[(.i y2)]]))]]))])) .fail) .fail) .fail) (.leaf (1,[(.i y0),(.r y3),(.i y4),(.i y5),(.r y6)]))))
  (hS:∀(y0:Int) (y1:R) (y2:Int) (y3:Int) (y4:R),S [.i y0,.r y1,.i y2,.i y3,.r y4]=(.br (ilt y3 y2) (.br (inb y3 (qg y1)) (.br (ilt 0 (qg (cR y1 y3 0))) (.br (inb (zY .i64 (qg (cR y1 y3 0)) 1) (qg (cR y1 y3 0))) (let r0:TR:=(qf S16 [(.i y0),(.r (cR y1 y3 0)),(.i (qm .i64 (cI (cR y1 y3 0) (zY .i64 (qg (cR y1 y3 0)) 1) 0) 1)),(.r y1),(.i y2),(.i y3),(.r y4)])
 .br (okR r0) (.leaf (0,[(.i (gI r0 0)),(.r (gR r0 1)),(.i (gI r0 2)),(.i (qm .i64 (gI r0 3) 1)),(.r (gR r0 4))])) .fail) .fail) (let r0:TR:=(qf S16 [(.i y0),(.r (cR y1 y3 0)),(.i 0),(.r y1),(.i y2),(.i y3),(.r y4)])
 .br (okR r0) (.leaf (0,[(.i (gI r0 0)),(.r (gR r0 1)),(.i (gI r0 2)),(.i (qm .i64 (gI r0 3) 1)),(.r (gR r0 4))])) .fail)) .fail) (.leaf (1,[(.r y4)]))))
  {n:Nat} {ls:List (List Nat)} (hn:n<=64) (hm:∀l,l∈ls->l.length<=64/\nxL l<=64) (hls:ls.length<=10000000) :
  (qf S [.i (n:Int),.r (lsR ls),.i (ls.length:Int),.i 0,.r []]).run=some (0,[.r (lsR (ls.flatMap (exL n)))]):=by
 have key:=qq (S:=S) (fun j=>[.i (n:Int),.r (lsR ls),.i (ls.length:Int),.i (j:Int),.r (lsR ((ls.take j).flatMap (exL n)))]) (0,[.r (lsR (ls.flatMap (exL n)))]) ls.length (by omega) (fun j hj=>by
  obtain⟨l,hl⟩:∃l,ls[j]?=some l:=⟨ls[j],qO5 hj⟩;obtain⟨m1,m2⟩:=hm l (qON hl);have fl:((ls.take j).flatMap (exL n)).length<=1000000000:=by have:=qqY (exL n) n (qBZ n) (ls.take j);rw[qOX,qOY (by omega)] at this;have:j*n<=10000000*64:=qOB (by omega) hn;omega
  have r0:=qNk hS16 hn m1 (lsR ls) (ls.length:Int) (j:Int) _ fl;have w:qm .i64 (j:Int) 1=((j+1:Nat):Int):=vX hj (by omega);rw[hS];by_cases h0:0<l.length
  ·have w1:zY .i64 (l.length:Int) 1=(l.length:Int)-1:=zc ⟨by omega,by omega⟩;have e:=qBW h0 m1 m2;rw[w1] at e;simp only[STD,q0x,qj6 hl,qao,w1,e,r0,w,qsa (exL n) hl,show (j:Int)<ls.length by omega,show (0:Int)<=j by omega,show (0:Int)<l.length by omega,show (0:Int)<=(l.length:Int)-1 by omega,show (l.length:Int)-1<l.length by omega,and_self]
  ·have e:l=[]:=qPu (by omega);subst e;have r1:(qf S16 [.i (n:Int),.r (rN []),.i 0,.r (lsR ls),.i (ls.length:Int),.i (j:Int),.r (lsR ((ls.take j).flatMap (exL n)))]).run=_:=r0;simp only[STD,q0x,qj6 hl,qao,r1,w,qsa (exL n) hl,show (j:Int)<ls.length by omega,show (0:Int)<=j by omega,show ¬(0:Int)<(([]:List Nat).length:Int) from by decide,and_self]) (by
  rw[hS];simp only[STD,show ¬(ls.length:Int)<ls.length by omega,qP9])
 exact key
theorem qIO (n:Nat):(kf [.i (n:Int),.i ((0:Nat):Int)]).run=some (0,[.r (lsR (lsN n 0))]):=by rw[qtL];simp only[STD,show (((0:Nat):Int)=0)=True from eq_true rfl];rfl
theorem qCz {n k:Nat}(hn:n<=64)(hk:k<=64):∀l,l∈lsN n k->l.length<=64/\nxL l<=64:=fun l hl=>by obtain⟨h1,h2,_⟩:=qld.1 hl;exact⟨by omega,qO2 (qGQ h2) hn⟩
theorem qoa {n k:Nat}(hn:n<=64)(hk:k<=3):(lsN n k).length<=10000000:=by refine qO2 (qBu n k) (qO2 (Nat.pow_le_pow_left hn k) (qO2 (qPs (by decide) hk) (by decide)))
theorem qIh (hn:n<=64)(hk:k<=1):(q1r [.i (n:Int),.i (k:Int)]).run=some (0,[.r (lsR (lsN n k))]):=by
 rw[qtP]
 match k with
 | 0=>
  simp only[STD,show (((0:Nat):Int)=0)=True from eq_true rfl];rfl
 | k+1=>
  have w:zY .i64 ((k+1:Nat):Int) 1=(k:Int):=by rw[zc ⟨by omega,by omega⟩];omega
  have r0:(kf [.i (n:Int),.i (k:Int)]).run=some (0,[.r (lsR (lsN n k))]):=by
   have e:k=0:=by omega
   subst e;exact qIO n
  have r1:=qN4 (S:=q41) (S16:=q0k) qmC qoB hn (qCz (k:=k) hn (by omega)) (qoa hn (by omega));simp only[STD,show ¬((k+1:Nat):Int)=0 by omega,w,r0,q0x,r1];rfl
theorem qIx (hn:n<=64)(hk:k<=2):(q1y [.i (n:Int),.i (k:Int)]).run=some (0,[.r (lsR (lsN n k))]):=by
 rw[qrC]
 match k with
 | 0=>
  simp only[STD,show (((0:Nat):Int)=0)=True from eq_true rfl];rfl
 | k+1=>
  have w:zY .i64 ((k+1:Nat):Int) 1=(k:Int):=by rw[zc ⟨by omega,by omega⟩];omega
  have r0:=qIh hn (k:=k) (by omega);have r1:=qN4 (S:=q4c) (S16:=kK) qnD qog hn (qCz (k:=k) hn (by omega)) (qoa hn (by omega));simp only[STD,show ¬((k+1:Nat):Int)=0 by omega,w,r0,q0x,r1];rfl
theorem qJl (hn:n<=64)(hk:k<=3):(q1B [.i (n:Int),.i (k:Int)]).run=some (0,[.r (lsR (lsN n k))]):=by
 rw[qto]
 match k with
 | 0=>
  simp only[STD,show (((0:Nat):Int)=0)=True from eq_true rfl];rfl
 | k+1=>
  have w:zY .i64 ((k+1:Nat):Int) 1=(k:Int):=by rw[zc ⟨by omega,by omega⟩];omega
  have r0:=qIx hn (k:=k) (by omega);have r1:=qN4 (S:=q4f) (S16:=kM) qnp qpq hn (qCz (k:=k) hn (by omega)) (qoa hn (by omega));simp only[STD,show ¬((k+1:Nat):Int)=0 by omega,w,r0,q0x,r1];rfl
theorem qGX (hn:n<=64)(hk:k<=4):(q9J [.i (n:Int),.i (k:Int)]).run=some (0,[.r (lsR (lsN n k))]):=by
 rw[quI]
 match k with
 | 0=>
  simp only[STD,show (((0:Nat):Int)=0)=True from eq_true rfl];rfl
 | k+1=>
  have w:zY .i64 ((k+1:Nat):Int) 1=(k:Int):=by rw[zc ⟨by omega,by omega⟩];omega
  have r0:=qJl hn (k:=k) (by omega);have r1:=qN4 (S:=q58) (S16:=q1g) qoc qqG hn (qCz (k:=k) hn (by omega)) (qoa hn (by omega));simp only[STD,show ¬((k+1:Nat):Int)=0 by omega,w,r0,q0x,r1];rfl
theorem qD8 {l:R}(hs:yu l){m k:Int}{ls:List (List Nat)}(hls:ls.length<=1000000000)(hm:∀L,L∈ls->∃n,L.length=n+1/\n<=3/\∀a,a∈L->a<l.length) :(qf q2n [.r l,.i m,.i k,.r (lsR ls),.i (ls.length:Int),.i 0]).run=some (((ls.find? (kn l)).map fun L=>(1,[.r (rN L)])).getD (0,[.r l,.i m,.i k])):=by
 have key:=q0g (S:=q2n) (fun j=>[.r l,.i m,.i k,.r (lsR ls),.i (ls.length:Int),.i (j:Int)]) (fun j=>if kn l (ls.getD j [])=true then some (1,[.r (rN (ls.getD j []))]) else none) (0,[.r l,.i m,.i k]) ls.length (by omega) (fun j hj hf=>by
  have hl:=qrT hj;obtain⟨n,h1,h2,h3⟩:=hm _ (qON hl);have r0:=qg7 hs h1 h2 h3;have e:kn l (ls.getD j [])=false:=by
   cases h:kn l (ls.getD j []) with
   | true=>rw[if_pos h] at hf;cases hf
   | false=>rfl
  rw[e] at r0;rw[q8V];simp only[STD,q0x,qj6 hl,r0,vX hj (show ls.length<9223372036854775808 by omega),show (j:Int)<ls.length by omega,show (0:Int)<=j by omega,and_self]) (fun j r hj hf=>by
  have hl:=qrT hj;obtain⟨n,h1,h2,h3⟩:=hm _ (qON hl);have r0:=qg7 hs h1 h2 h3;have e:kn l (ls.getD j [])=true:=by
   cases h:kn l (ls.getD j []) with
   | false=>rw[if_neg (by rw[h];decide)] at hf;cases hf
   | true=>rfl
  rw[e] at r0;rw[if_pos e] at hf;cases hf;rw[q8V];simp only[STD,q0x,qj6 hl,r0,show (j:Int)<ls.length by omega,show (0:Int)<=j by omega,and_self]) (by
  rw[q8V];simp only[STD,show ¬(ls.length:Int)<ls.length by omega])
 have e:=qyV (P:=kn l) (fun L=>((1:Nat),[PV.r (rN L)])) ls [];rw[qPi] at e;rw[show (q6H _ 0 ls.length)=_ from e] at key;exact key
theorem qK5 {n k j:Nat}(hk:k+1<=4)(hj:n=j):∀L,L∈lsN n (k+1)->∃q,L.length=q+1/\q<=3/\∀a,a∈L->a<j:=fun L hL=>by obtain⟨h1,h2,_⟩:=qld.1 hL;exact⟨k,h1,by omega,fun a ha=>hj▸h2 a ha⟩
theorem qCW {n k:Nat}(hn:n<=64)(hk:k<=4):(lsN n k).length<=1000000000:=by refine qO2 (qBu n k) (qO2 (Nat.pow_le_pow_left hn k) (qO2 (qPs (by decide) hk) (by decide)))
theorem qKi {l:R}(hs:yu l){m:Nat}(hm:m<=4){L:List Nat}(h:qgt (kn l) l.length 1 m=some L):(q5S [.r l,.i (m:Int)]).run=some (0,[.r (rN L)]):=by
 have key:=q0g (S:=q2h) (fun k=>[.r l,.i (m:Int),.i ((k+1:Nat):Int)]) (fun k=>((lsN l.length (k+1)).find? (kn l)).map fun L=>(1,[.r (rN L)])) (0,[]) m (by omega) (fun k hk hf=>by
  have r0:=qGX hs.1 (k:=k+1) (by omega);have r1:=qD8 hs (m:=(m:Int)) (k:=((k+1:Nat):Int)) (qCW (k:=k+1) hs.1 (by omega)) (qK5 (k:=k) (by omega) rfl);rw[hf] at r1;simp only[Option.getD_none] at r1;have w:qm .i64 ((k+1:Nat):Int) 1=((k+1+1:Nat):Int):=vX (show k+1<64 by omega) (by omega);have lx:qg l=(l.length:Int):=rfl;rw[q8X];simp only[STD,lx,r0,q0x,r1,zh r1,w,show ((k+1:Nat):Int)<=m by omega]) (fun k r hk hf=>by
  have r0:=qGX hs.1 (k:=k+1) (by omega);have r1:=qD8 hs (m:=(m:Int)) (k:=((k+1:Nat):Int)) (qCW (k:=k+1) hs.1 (by omega)) (qK5 (k:=k) (by omega) rfl);rw[hf] at r1;cases hx:(lsN l.length (k+1)).find? (kn l) with
  | none=>rw[hx] at hf;cases hf
  | some L'=>
   rw[hx] at hf;cases hf;simp only[qOW] at r1;have lx:qg l=(l.length:Int):=rfl;rw[q8X];simp only[STD,lx,r0,q0x,r1,zh r1,show ((k+1:Nat):Int)<=m by omega];rw[if_neg (by decide)]) (by
  rw[q8X];simp only[STD,show ¬((m+1:Nat):Int)<=m by omega])
 rw[qo4 (P:=kn l) (fun L=>((1:Nat),[PV.r (rN L)])) l.length m 0,h] at key;have key':(qf q2h [.r l,.i (m:Int),.i 1]).run=some (1,[.r (rN L)]):=key;rw[qv8];simp only[STD,key',zh key'];rw[if_neg (by decide)]
end Go.Eng

namespace Go.Eng
variable {L:List Nat}{l:R}
noncomputable def tO(l:R)(L:List Nat):Nat->Rat:=Classical.epsilon fun t=>qB5 (pV l) l.length (L.length-1) (Lf l L) t
noncomputable def cO(l:R)(L:List Nat):V3:=cen (L.length-1+1) (wts (tO l L) (L.length-1)) fun j=>pV l (Lf l L j)
noncomputable def sO(l:R)(L:List Nat):Rat:=d2 (cO l L) (pV l (Lf l L 0))
noncomputable def wO(l:R)(L:List Nat):R:=txR ((List.range (L.length-1+1)).map fun j=>tQ (wts (tO l L) (L.length-1) j))
theorem qCh (h:kn l L=true):qB5 (pV l) l.length (L.length-1) (Lf l L) (tO l L):=Classical.epsilon_spec (qjG.1 h)
theorem qAy (hs:yu l){n:Nat}(hL:L.length=n+1)(hn:n<=3)(hlt:∀k,k∈L->k<l.length)(h:kn l L=true) :CB (cO l L)/\(zK [.r l,.r (rN L)]).run=some (0,[.s (tQ (cO l L).x),.s (tQ (cO l L).y),.s (tQ (cO l L).z),.s (tQ (sO l L)),.r (wO l L),.b true,.i 0]):=by
 have eL:L.length-1=n:=by omega
 have sp:=qCh h;unfold sO wO;unfold cO;rw[eL] at sp ⊢;rcases qsh hs hL hn hlt with⟨t,h1,h2,h3,h4⟩|⟨h1,_⟩
 ·have e:=qn7 h1.1 sp.1;have ec:=qhM (c:=fun j=>pV l (Lf l L j)) e;have el:((List.range (n+1)).map fun j=>tQ (wts t n j))=(List.range (n+1)).map fun j=>tQ (wts (tO l L) n j):=qPa fun j hj=>by rw[e j (qOV.1 hj)]
  rw[ec,el] at h4;rw[ec] at h3;exact⟨h3,h4⟩
 ·exact absurd sp (h1 _)
theorem qIJ (hs:yu l){n:Nat}(hL:L.length=n+1)(hn:n<=3)(hlt:∀k,k∈L->k<l.length)(h:kn l L=false) :∃s1 s2 s3 s4 wl,(zK [.r l,.r (rN L)]).run=some (0,[.s s1,.s s2,.s s3,.s s4,.r wl,.b false,.i 0]):=by
 have eL:L.length-1=n:=by omega
 have hh:=qlv.1 h;rw[eL] at hh;rcases qsh hs hL hn hlt with⟨t,h1,_⟩|⟨_,h4⟩
 ·exact absurd h1 (hh t)
 ·exact h4
noncomputable def lO(l:R)(n m:Int)(L:List Nat):Nat×List PV:=(1,[.r l,.s (tQ (cO l L).x),.s (tQ (cO l L).y),.s (tQ (cO l L).z),.s (tQ (sO l L)),.r (wO l L),.i 0,.i n,.i m,.r (rN L)])
theorem qNb (hs:yu l)(hL:L.length<=3)(hlt:∀k,k∈L->k<l.length)(y2 y3 y4 y5 y13:Int)(y14:R)(acc:List (List Nat))(ha:acc.length<=1000000000) :(qf qD [.r (rN L),.i (nxL L:Int),.i y2,.i y3,.i y4,.i y5,.r l,.s [],.s [],.s [],.s [],.i 0,.i (l.length:Int),.i y13,.r y14,.r (lsR acc)]).run = some ((((exL l.length L).find? (kn l)).map (lO l l.length y13)).getD (0,[.i y2,.i y3,.i y4,.i y5,.r l,.s [],.s [],.s [],.s [],.i 0,.i (l.length:Int),.i y13,.r y14,.r (lsR (acc++exL l.length L))])):=by
 have hn:=hs.1;have key:=q0g (S:=qD) (fun j=>[.r (rN L),.i ((nxL L+j:Nat):Int),.i y2,.i y3,.i y4,.i y5,.r l,.s [],.s [],.s [],.s [],.i 0,.i (l.length:Int),.i y13,.r y14,.r (lsR (acc++exT L j))])
  (fun j=>if kn l (L++[nxL L+j])=true then some (lO l l.length y13 (L++[nxL L+j])) else none)
  (0,[.i y2,.i y3,.i y4,.i y5,.r l,.s [],.s [],.s [],.s [],.i 0,.i (l.length:Int),.i y13,.r y14,.r (lsR (acc++exL l.length L))]) (l.length-nxL L) (by omega) (fun j hj hf=>by
  have e:kn l (L++[nxL L+j])=false:=by
   cases h:kn l (L++[nxL L+j]) with
   | true=>rw[if_pos h] at hf;cases hf
   | false=>rfl
  have lj:(L++[nxL L+j]).length=L.length+1:=by rw[qOh];rfl
  have ltj:∀k,k∈L++[nxL L+j]->k<l.length:=fun k hk=>by
   rcases qOn.1 hk with q|q
   ·exact hlt k q
   ·rw[qOs.1 q];omega
  obtain⟨s1,s2,s3,s4,wl,r1⟩:=qIJ hs lj hL ltj e;have w:qm .i64 ((nxL L+j:Nat):Int) 1=((nxL L+j+1:Nat):Int):=vX (show nxL L+j<64 by omega) (by omega);have e2:∀x:U,qg [[x]]=1:=fun _=>rfl;have e3:(acc++exT L j).length=acc.length+j:=by rw[qOh,qBF]
  have cl:(wC [.r (rN L)]).run=some (0,[.r (rN L)]):=by rw[q56];simp only[STD,qao,show (L.length:Int)<=17592186044416 by omega]
  rw[q0J];simp only[STD,cl,e2,qGa,qao,q0x,qAU,e3,w,r1,show ((nxL L+j:Nat):Int)<l.length by omega,show (L.length:Int)+1<=17592186044416 by omega,
   show ((acc.length+j:Nat):Int)+1<=5864062014805 by omega,qDq,qOu,qPv]) (fun j r hj hf=>by
  have e:kn l (L++[nxL L+j])=true:=by
   cases h:kn l (L++[nxL L+j]) with
   | false=>rw[if_neg (by rw[h];decide)] at hf;cases hf
   | true=>rfl
  rw[if_pos e] at hf;cases hf;have lj:(L++[nxL L+j]).length=L.length+1:=by rw[qOh];rfl
  have ltj:∀k,k∈L++[nxL L+j]->k<l.length:=fun k hk=>by
   rcases qOn.1 hk with q|q
   ·exact hlt k q
   ·rw[qOs.1 q];omega
  obtain⟨_,r1⟩:=qAy hs lj hL ltj e;have e2:∀x:U,qg [[x]]=1:=fun _=>rfl;have e3:(acc++exT L j).length=acc.length+j:=by rw[qOh,qBF]
  have cl:(wC [.r (rN L)]).run=some (0,[.r (rN L)]):=by rw[q56];simp only[STD,qao,show (L.length:Int)<=17592186044416 by omega]
  rw[q0J];unfold lO;simp only[STD,cl,e2,qGa,qao,q0x,qAU,e3,r1,show ((nxL L+j:Nat):Int)<l.length by omega,show (L.length:Int)+1<=17592186044416 by omega,
   show ((acc.length+j:Nat):Int)+1<=5864062014805 by omega]) (by
  rw[q0J];simp only[STD,show ¬((nxL L+(l.length-nxL L):Nat):Int)<l.length by omega,qHE])
 have e:=qH4 (P:=kn l) (lO l l.length y13) L (l.length-nxL L) 0;rw[e] at key;have key':(qf qD [.r (rN L),.i ((nxL L+0:Nat):Int),.i y2,.i y3,.i y4,.i y5,.r l,.s [],.s [],.s [],.s [],.i 0,.i (l.length:Int),.i y13,.r y14,.r (lsR (acc++exT L 0))]).run=_:=key;rw[qCt,qOZ,qOQ] at key';exact key'
theorem qNM (hs:yu l){ls:List (List Nat)}{q:Nat}(hq:q<=3)(hls:ls.length<=10000000)(hm:∀L,L∈ls->L.length=q/\∀a,a∈L->a<l.length)(y0 y1 y11:Int) :(qf wU [.i y0,.i y1,.i (ls.length:Int),.i 0,.r l,.s [],.s [],.s [],.s [],.i 0,.i (l.length:Int),.i y11,.r (lsR ls),.r []]).run = some ((((ls.flatMap (exL l.length)).find? (kn l)).map (lO l l.length y11)).getD (0,[.i y0,.i y1,.r l,.s [],.s [],.s [],.s [],.i 0,.i (l.length:Int),.i y11,.r (lsR (ls.flatMap (exL l.length)))])):=by
 have hn:=hs.1;have step:∀j,j<ls.length->∃L,ls[j]?=some L/\ls.getD j []=L/\(qf qD [.r (rN L),.i (nxL L:Int),.i y0,.i y1,.i (ls.length:Int),.i (j:Int),.r l,.s [],.s [],.s [],.s [],.i 0,.i (l.length:Int),.i y11,.r (lsR ls),.r (lsR ((ls.take j).flatMap (exL l.length)))]).run =
   some ((((exL l.length L).find? (kn l)).map (lO l l.length y11)).getD (0,[.i y0,.i y1,.i (ls.length:Int),.i (j:Int),.r l,.s [],.s [],.s [],.s [],.i 0,.i (l.length:Int),.i y11,.r (lsR ls),.r (lsR ((ls.take (j+1)).flatMap (exL l.length)))])) /\
   L.length<=3/\nxL L<=64:=fun j hj=>by
  have hl:=qrT hj;obtain⟨h1,h2⟩:=hm _ (qON hl);have fl:((ls.take j).flatMap (exL l.length)).length<=1000000000:=by have:=qqY (exL l.length) l.length (qBZ l.length) (ls.take j);rw[qOX,qOY (by omega)] at this;have:j*l.length<=10000000*64:=qOB (by omega) hn;omega
  have r0:=qNb hs (L:=ls.getD j []) (by omega) h2 y0 y1 (ls.length:Int) (j:Int) y11 (lsR ls) _ fl;rw[<-qsa (exL l.length) hl] at r0;exact⟨_,hl,rfl,r0,by omega,qO2 (qGQ h2) hn⟩
 have key:=q0g (S:=wU) (fun j=>[.i y0,.i y1,.i (ls.length:Int),.i (j:Int),.r l,.s [],.s [],.s [],.s [],.i 0,.i (l.length:Int),.i y11,.r (lsR ls),.r (lsR ((ls.take j).flatMap (exL l.length)))])
  (fun j=>((exL l.length (ls.getD j [])).find? (kn l)).map (lO l l.length y11))
  (0,[.i y0,.i y1,.r l,.s [],.s [],.s [],.s [],.i 0,.i (l.length:Int),.i y11,.r (lsR (ls.flatMap (exL l.length)))]) ls.length (by omega) (fun j hj hf=>by
  obtain⟨L,hl,hg,r0,h3,h4⟩:=step j hj;rw[hg] at hf;rw[hf] at r0;simp only[Option.getD_none] at r0;have w:qm .i64 (j:Int) 1=((j+1:Nat):Int):=vX hj (by omega);rw[q1H];by_cases h0:0<L.length
  ·have w1:zY .i64 (L.length:Int) 1=(L.length:Int)-1:=zc ⟨by omega,by omega⟩;have e:=qBW h0 (by omega) h4;rw[w1] at e;simp only[STD,q0x,qj6 hl,qao,w1,e,r0,zh r0,w,show (j:Int)<ls.length by omega,show (0:Int)<=j by omega,show (0:Int)<L.length by omega,show (0:Int)<=(L.length:Int)-1 by omega,show (L.length:Int)-1<L.length by omega,and_self]
  ·have e:L=[]:=qPu (by omega);subst e;have r1:(qf qD [.r (rN []),.i 0,.i y0,.i y1,.i (ls.length:Int),.i (j:Int),.r l,.s [],.s [],.s [],.s [],.i 0,.i (l.length:Int),.i y11,.r (lsR ls),.r (lsR ((ls.take j).flatMap (exL l.length)))]).run=_:=r0;simp only[STD,q0x,qj6 hl,qao,r1,zh r1,w,show (j:Int)<ls.length by omega,show (0:Int)<=j by omega,show ¬(0:Int)<(([]:List Nat).length:Int) from by decide,and_self]) (fun j r hj hf=>by
  obtain⟨L,hl,hg,r0,h3,h4⟩:=step j hj;rw[hg] at hf;rw[hf] at r0;simp only[qOW] at r0;obtain⟨L2,hL2,e2⟩:=qPG.1 hf;subst e2;unfold lO at r0 ⊢;rw[q1H];by_cases h0:0<L.length
  ·have w1:zY .i64 (L.length:Int) 1=(L.length:Int)-1:=zc ⟨by omega,by omega⟩;have e:=qBW h0 (by omega) h4;rw[w1] at e;simp only[STD,q0x,qj6 hl,qao,w1,e,r0,zh r0,show (j:Int)<ls.length by omega,show (0:Int)<=j by omega,show (0:Int)<L.length by omega,show (0:Int)<=(L.length:Int)-1 by omega,show (L.length:Int)-1<L.length by omega,and_self];rw[if_neg (by decide)]
  ·have e:L=[]:=qPu (by omega);subst e;have r1:(qf qD [.r (rN []),.i 0,.i y0,.i y1,.i (ls.length:Int),.i (j:Int),.r l,.s [],.s [],.s [],.s [],.i 0,.i (l.length:Int),.i y11,.r (lsR ls),.r (lsR ((ls.take j).flatMap (exL l.length)))]).run=_:=r0;simp only[STD,q0x,qj6 hl,qao,r1,zh r1,show (j:Int)<ls.length by omega,show (0:Int)<=j by omega,show ¬(0:Int)<(([]:List Nat).length:Int) from by decide,and_self];rw[if_neg (by decide)]) (by
  rw[q1H];simp only[STD,show ¬(ls.length:Int)<ls.length by omega,qP9])
 have e:=qze (P:=kn l) (lO l l.length y11) (exL l.length) ls [];simp only[qPi,qOJ] at e;rw[e] at key;exact key
theorem qL7 (hs:yu l){m:Nat}(hm:m<=4)(h:qgt (kn l) l.length 1 m=some L) :(q09 [.r l,.i (m:Int)]).run=some (0,[.s (tQ (cO l L).x),.s (tQ (cO l L).y),.s (tQ (cO l L).z),.s (tQ (sO l L)),.r (wO l L),.r (rN L),.i 0]):=by
 have hn:=hs.1;have hms:∀q,∀L,L∈lsN l.length q->L.length=q/\∀a,a∈L->a<l.length:=fun q L hL=>by obtain⟨h1,h2,_⟩:=qld.1 hL;exact⟨h1,h2⟩
 have key:=q0g (S:=wW) (fun q=>[.i (m:Int),.i (q:Int),.r l,.s [],.s [],.s [],.s [],.i 0,.i (l.length:Int),.i (m:Int),.r (lsR (lsN l.length q))])
  (fun q=>((lsN l.length (q+1)).find? (kn l)).map (lO l l.length m))
  (0,[.r l,.s [],.s [],.s [],.s [],.i 0,.i (l.length:Int),.i (m:Int)]) m (by omega) (fun q hq hf=>by
  have r0:=qNM hs (q:=q) (by omega) (qoa (k:=q) hn (by omega)) (hms q) (m:Int) (q:Int) (m:Int);have hf':((((lsN l.length q).flatMap (exL l.length)).find? (kn l)).map (lO l l.length m))=none:=hf;rw[hf'] at r0;simp only[Option.getD_none] at r0;have w:qm .i64 (q:Int) 1=((q+1:Nat):Int):=vX hq (by omega);rw[q1K];simp only[STD,q0x,r0,zh r0,w,show (q:Int)<m by omega];rfl) (fun q r hq hf=>by
  have r0:=qNM hs (q:=q) (by omega) (qoa (k:=q) hn (by omega)) (hms q) (m:Int) (q:Int) (m:Int);have hf':((((lsN l.length q).flatMap (exL l.length)).find? (kn l)).map (lO l l.length m))=some r:=hf;rw[hf'] at r0;simp only[qOW] at r0;obtain⟨L2,hL2,e2⟩:=qPG.1 hf';subst e2;unfold lO at r0 ⊢;rw[q1K];simp only[STD,q0x,r0,zh r0,show (q:Int)<m by omega];rw[if_neg (by decide)]) (by
  rw[q1K];simp only[STD,show ¬(m:Int)<m by omega])
 rw[qo4 (P:=kn l) (lO l l.length m) l.length m 0,h] at key;have key':(qf wW [.i (m:Int),.i 0,.r l,.s [],.s [],.s [],.s [],.i 0,.i (l.length:Int),.i (m:Int),.r [[.l []]]]).run=some (lO l l.length m L):=key;unfold lO at key';have lx:qg l=(l.length:Int):=rfl;rw[qqW];simp only[STD,lx,key',zh key'];rw[if_neg (by decide)]
end Go.Eng

namespace Go.Eng
variable {l:R}
def ptE(x y:Int):Int:=if -100000<=x/\x<=100000/\-100000<=y/\y<=100000 then 0 else 2
def ptA(l:R)(i:Nat):Int:=ptE (cI l i 0) (cI l i 1)
def qEZ(l:R):Int:=if 64<qg l then 5 else q0m (ptA l) l.length
theorem qzn (x y:Int):ptE x y=0\/ptE x y=2:=by unfold ptE;split<;>simp
theorem qJn {x y:Int}(h:ptE x y=0):-100000<=x/\x<=100000/\-100000<=y/\y<=100000:=by
 unfold ptE at h;split at h
 ·assumption
 ·omega
theorem qi7 (x:Int):(qU [.i x]).run=some (0,[.b (decide (-100000<=x/\x<=100000))]):=by rw[qqw];simp only[STD];by_cases h:-100000<=x<;>simp[h,ile]
theorem qvA (x:Int):(j8 [.i x]).run=some (0,[.b (decide (-100000<=x/\x<=100000))]):=by rw[qBt];simp only[STD];by_cases h:-100000<=x<;>simp[h,ile]
theorem qyE (x y:Int):(uS [.i x,.i y]).run=some (0,[.b (decide (ptE x y=0))]):=by rw[qvm];simp only[STD,qi7];unfold ptE;by_cases h:-100000<=x<;>by_cases h2:x<=100000<;>by_cases h3:-100000<=y<;>by_cases h4:y<=100000<;>simp[h,h2,h3,h4]
theorem qx1 (x y:Int):(q5R [.i x,.i y]).run=some (0,[.b (decide (ptE x y=0))]):=by rw[qtW];simp only[STD,qvA];unfold ptE;by_cases h:-100000<=x<;>by_cases h2:x<=100000<;>by_cases h3:-100000<=y<;>by_cases h4:y<=100000<;>simp[h,h2,h3,h4]
theorem qAw (l:R)(hl:l.length<9223372036854775808):(j6 [.r l]).run=some (0,[.i (q0m (ptA l) l.length)]):=by
 rw[qfi];have k:=qjC (S:=ze) (fun i=>[.r l,.i (qg l),.i (i:Int)]) (ptA l) [] [] l.length hl (fun i hi=>by
  rw[q3S];simp only[STD,qvG hi,qaW,qyE,and_self,vX hi hl];show (if ¬ptA l i=0 then _ else _)=_;have:=qzn (cI l i 0) (cI l i 1);by_cases he:ptA l i=0
  ·simp[he]
  ·have:ptA l i=2:=by unfold ptA at *;omega
   simp[this]) (by
  rw[q3S];simp only[STD,qph])
 by_cases hf:q0m (ptA l) l.length=0
 ·rw[if_pos hf] at k;have k':(qf ze [.r l,.i (qg l),.i 0]).run=_:=k;simp only[STD,k',zh k',hf]
 ·rw[if_neg hf] at k;have k':(qf ze [.r l,.i (qg l),.i 0]).run=_:=k;simp only[STD,k',zh k',show ¬((1:Nat)=0) by decide]
theorem qk4 (l:R):(q3t [.r l]).run=some (0,[.i (qEZ l)]):=by
 rw[qtp];have e:(zZ [.r l]).run=some (0,[.i (qEZ l)]):=by
  rw[qaH];unfold qEZ;by_cases h:64<qg l
  ·simp only[STD,h]
  ·simp only[STD,h,qAw l (by unfold qg at h;omega)]
 simp only[STD,e]
theorem qeV (l:R):(q33 [.r l]).run=some (0,[.i (qEZ l)]):=by
 rw[qu6];unfold qEZ;by_cases h:64<qg l
 ·simp only[STD,h]
 ·have hl:l.length<9223372036854775808:=by unfold qg at h;omega
  have k:=qjC (S:=kP) (fun i=>[.r l,.i (i:Int)]) (ptA l) [] [] l.length hl (fun i hi=>by
   rw[qgI];simp only[STD,qvG hi,qaW,qx1,and_self,vX hi hl];show (if ¬ptA l i=0 then _ else _)=_;have:=qzn (cI l i 0) (cI l i 1);by_cases he:ptA l i=0
   ·simp[he]
   ·have:ptA l i=2:=by unfold ptA at *;omega
    simp[this]) (by
   rw[qgI];simp only[STD,qph])
  by_cases hf:q0m (ptA l) l.length=0
  ·rw[if_pos hf] at k;have k':(qf kP [.r l,.i 0]).run=_:=k;simp only[STD,k',zh k',hf,h]
  ·rw[if_neg hf] at k;have k':(qf kP [.r l,.i 0]).run=_:=k;simp only[STD,k',zh k',h,show ¬((1:Nat)=0) by decide]
def spE(x y z:Int):Int:=if -100000<=x/\x<=100000/\-100000<=y/\y<=100000/\-100000<=z/\z<=100000 then 0 else 2
def spA(l:R)(i:Nat):Int:=spE (cI l i 0) (cI l i 1) (cI l i 2)
def qHX(l:R):Int:=if 64<qg l then 5 else q0m (spA l) l.length
theorem qdR (x y z:Int):spE x y z=0\/spE x y z=2:=by unfold spE;split<;>simp
theorem qyk {x y z:Int}(h:spE x y z=0):co x/\co y/\co z:=by
 unfold spE at h;split at h
 ·unfold co;omega
 ·omega
theorem qyb (x y z:Int):(yq [.i x,.i y,.i z]).run=some (0,[.b (decide (spE x y z=0))]):=by rw[qvr];simp only[STD,qi7];unfold spE;by_cases h:-100000<=x<;>by_cases h2:x<=100000<;>by_cases h3:-100000<=y<;>by_cases h4:y<=100000<;>by_cases h5:-100000<=z<;>by_cases h6:z<=100000<;>simp[h,h2,h3,h4,h5,h6]
theorem qpw (x y z:Int):(yB [.i x,.i y,.i z]).run=some (0,[.b (decide (spE x y z=0))]):=by rw[qn5];simp only[STD,qvA];unfold spE;by_cases h:-100000<=x<;>by_cases h2:x<=100000<;>by_cases h3:-100000<=y<;>by_cases h4:y<=100000<;>by_cases h5:-100000<=z<;>by_cases h6:z<=100000<;>simp[h,h2,h3,h4,h5,h6]
theorem qnB (l:R)(hl:l.length<9223372036854775808):(zl [.r l]).run=some (0,[.i (q0m (spA l) l.length)]):=by
 rw[qhb];have k:=qjC (S:=zq) (fun i=>[.r l,.i (qg l),.i (i:Int)]) (spA l) [] [] l.length hl (fun i hi=>by
  rw[q4X];simp only[STD,qvG hi,qaW,qyb,and_self,vX hi hl];show (if ¬spA l i=0 then _ else _)=_;have:=qdR (cI l i 0) (cI l i 1) (cI l i 2);by_cases he:spA l i=0
  ·simp[he]
  ·have:spA l i=2:=by unfold spA at *;omega
   simp[this]) (by
  rw[q4X];simp only[STD,qph])
 by_cases hf:q0m (spA l) l.length=0
 ·rw[if_pos hf] at k;have k':(qf zq [.r l,.i (qg l),.i 0]).run=_:=k;simp only[STD,k',zh k',hf]
 ·rw[if_neg hf] at k;have k':(qf zq [.r l,.i (qg l),.i 0]).run=_:=k;simp only[STD,k',zh k',show ¬((1:Nat)=0) by decide]
theorem q0I (l:R):(wS [.r l]).run=some (0,[.i (qHX l)]):=by
 rw[qjU];have e:(wJ [.r l]).run=some (0,[.i (qHX l)]):=by
  rw[qbq];unfold qHX;by_cases h:64<qg l
  ·simp only[STD,h]
  ·simp only[STD,h,qnB l (by unfold qg at h;omega)]
 simp only[STD,e]
theorem qnE (l:R):(jG [.r l]).run=some (0,[.i (qHX l)]):=by
 rw[qly];unfold qHX;by_cases h:64<qg l
 ·simp only[STD,h]
 ·have hl:l.length<9223372036854775808:=by unfold qg at h;omega
  have k:=qjC (S:=wi) (fun i=>[.r l,.i (i:Int)]) (spA l) [] [] l.length hl (fun i hi=>by
   rw[q83];simp only[STD,qvG hi,qaW,qpw,and_self,vX hi hl];show (if ¬spA l i=0 then _ else _)=_;have:=qdR (cI l i 0) (cI l i 1) (cI l i 2);by_cases he:spA l i=0
   ·simp[he]
   ·have:spA l i=2:=by unfold spA at *;omega
    simp[this]) (by
   rw[q83];simp only[STD,qph])
  by_cases hf:q0m (spA l) l.length=0
  ·rw[if_pos hf] at k;have k':(qf wi [.r l,.i 0]).run=_:=k;simp only[STD,k',zh k',hf,h]
  ·rw[if_neg hf] at k;have k':(qf wi [.r l,.i 0]).run=_:=k;simp only[STD,k',zh k',h,show ¬((1:Nat)=0) by decide]
theorem qGx (h:qHX l=0):yu l:=by
 unfold qHX at h;split at h
 ·omega
 ·rename_i h64;unfold qg at h64;exact⟨by omega,fun i hi=>qyk (qaI h i hi)⟩
def qsk(l:R):Int:=if qEZ l=0 then (if qg l=0 then 13 else 0) else qEZ l
theorem quy (x:Int):(q3G [.i x]).run=some (0,[.i (if x=0 then 13 else 0)]):=by rw[qrn];by_cases h:x=0<;>simp[STD,h]
theorem quv (l:R):(q3r [.r l]).run=some (0,[.i (qsk l)]):=by
 rw[qrV];unfold qsk;by_cases h:qEZ l=0
 ·by_cases h2:qg l=0<;>simp only[STD,qk4,quy,h,h2]
 ·simp only[STD,qk4,h]
theorem qyO (l:R):(qbT [.r l]).run=some (0,[.i (qsk l)]):=by
 rw[qys];unfold qsk;by_cases h:qEZ l=0
 ·by_cases h2:qg l=0<;>simp only[STD,qeV,h,h2]
 ·simp only[STD,qeV,h]
def raR(l:R):R:=(List.range l.length).map fun i:Nat=>[.i (cI l (i:Int) 0),.i (cI l (i:Int) 1),.i 0]
def raN(l:R)(n:Nat):R:=(List.range n).map fun i:Nat=>[.i (cI l (i:Int) 0),.i (cI l (i:Int) 1),.i 0]
theorem qFs (l:R)(n:Nat):qg (raN l n)=(n:Int):=by unfold raN qg;rw[qO7,qOv]
theorem qxv (l:R):(raR l).length=l.length:=by unfold raR;rw[qO7,qOv]
theorem qDA (l:R)(n:Nat):raN l (n+1)=zD (raN l n) [[.i (cI l (n:Int) 0),.i (cI l (n:Int) 1),.i 0]]:=by unfold raN zD;rw[qOO,qOk];rfl
theorem qHC {i:Nat}(h:i<l.length):cI (raR l) (i:Int) 0=cI l (i:Int) 0/\cI (raR l) (i:Int) 1=cI l (i:Int) 1/\cI (raR l) (i:Int) 2=0:=by
 have e:(raR l).getD ((i:Int).toNat) []=[.i (cI l (i:Int) 0),.i (cI l (i:Int) 1),.i 0]:=by unfold raR;rw[qO9,qNZ,qO8,qOD h];rfl
 refine⟨?_,?_,?_⟩<;>(conv=>lhs;unfold cI zH)<;>rw[e]<;>rfl
theorem qJf (hl:l.length<=64):(q1l [.r l]).run=some (0,[.r (raR l)]):=by
 have key:=qq (S:=jI) (fun i=>[.r l,.i (l.length:Int),.i (i:Int),.r (raN l i)]) (0,[.r (raR l)]) l.length (by omega) (fun i hi=>by
  have e3:qg [[U.i (cI l (i:Int) 0),.i (cI l (i:Int) 1),.i 0]]=1:=rfl;have e4:qg l=(l.length:Int):=rfl;rw[qan];simp only[STD,qFs,qDA,e3,e4,vX hi (show l.length<9223372036854775808 by omega),show (i:Int)<l.length by omega,show (0:Int)<=i by omega,show (i:Int)+1<=5864062014805 by omega,and_self]) (by
  rw[qan];simp only[STD,show ¬(l.length:Int)<l.length by omega];rfl)
 have key':(qf jI [.r l,.i (qg l),.i 0,.r []]).run=some (0,[.r (raR l)]):=key;rw[qoQ];simp only[STD,key']
theorem qtY (hl:l.length<=64):(q7w [.r l]).run=some (0,[.r (raR l)]):=by
 have key:=qq (S:=q1c) (fun i=>[.r l,.i (i:Int),.r (raN l i)]) (0,[.r (raR l)]) l.length (by omega) (fun i hi=>by
  have e3:qg [[U.i (cI l (i:Int) 0),.i (cI l (i:Int) 1),.i 0]]=1:=rfl;have e4:qg l=(l.length:Int):=rfl;rw[qeD];simp only[STD,qFs,qDA,e3,e4,vX hi (show l.length<9223372036854775808 by omega),show (i:Int)<l.length by omega,show (0:Int)<=i by omega,show (i:Int)+1<=5864062014805 by omega,and_self]) (by
  have e4:qg l=(l.length:Int):=rfl;rw[qeD];simp only[STD,e4,show ¬(l.length:Int)<l.length by omega];rfl)
 have key':(qf q1c [.r l,.i 0,.r []]).run=some (0,[.r (raR l)]):=key;rw[qtF];simp only[STD,key']
theorem qHx (h:qEZ l=0):l.length<=64/\∀i,i<l.length->co (cI l (i:Int) 0)/\co (cI l (i:Int) 1):=by
 unfold qEZ at h;split at h
 ·omega
 ·rename_i h64;unfold qg at h64;refine⟨by omega,fun i hi=>?_⟩;obtain⟨h1,h2,h3,h4⟩:=qJn (qaI h i hi);exact⟨⟨h1,h2⟩,⟨h3,h4⟩⟩
theorem qoK (h:qsk l=0):qEZ l=0/\l.length<=64/\0<l.length/\yu (raR l)/\Mst (raR l) 3:=by
 unfold qsk at h;split at h
 ·rename_i h1;split at h
  ·omega
  ·rename_i h2;unfold qg at h2;obtain⟨q1,q2⟩:=qHx h1;refine⟨h1,q1,by omega,⟨by rw[qxv];exact q1,fun i hi=>?_⟩,.inr ⟨rfl,fun k hk=>?_⟩⟩
   ·rw[qxv] at hi;obtain⟨e1,e2,e3⟩:=qHC hi;obtain⟨k1,k2⟩:=q2 i hi;unfold qKN;rw[e1,e2,e3];exact⟨k1,k2,by unfold co;omega⟩
   ·rw[qxv] at hk;obtain⟨e1,e2,e3⟩:=qHC hk;show ((cI (raR l) (k:Int) 2:Int):Rat)=0;rw[e3];rfl
 ·rename_i h1;exact absurd h h1
end Go.Eng

namespace Go.Eng
variable {L:List Nat}{l:R}{n:Nat}
theorem qLM (hs:yu l)(hL:L.length=n+1)(hn:n<=3)(hlt:∀k,k∈L->k<l.length)(h:kn l L=true) :(q0r [.r (chR l L)]).run=some (0,[.s (tQ (cO l L).x),.s (tQ (cO l L).y),.s (tQ (cO l L).z),.s (tQ (sO l L)),.b true]):=by
 have sp:=qsj hs (show L.length<=64 by omega) hlt;have hl:(chR l L).length=n+1:=by rw[qhG];exact hL
 have eL:L.length-1=n:=by omega
 have st:=qCh h;rw[eL] at st;rcases qpN sp hl hn with⟨t,h1,h4⟩|⟨h1,h4⟩
 ·rw[qzb] at h1 h4;have e:=qhM (c:=fun j=>pV l (Lf l L j)) (qn7 h1 st.1);rw[e] at h4;have ec:cO l L=cen (n+1) (wts (tO l L) n) fun j=>pV l (Lf l L j):=by unfold cO;rw[eL]
  unfold sO;rw[ec];exact h4
 ·rw[qzb] at h1;exact absurd st.1.ind h1
structure LO (l:R) (m:Nat) (L:List Nat) (n:Nat):Prop where
 first:qgt (kn l) l.length 1 m=some L
 len:L.length=n+1
 most:n<m
 three:n<=3
 lt:∀a,a∈L->a<l.length
 asc:L.Pairwise (·<·)
 supp:kn l L=true
 cb:CB (cO l L)
 sup:Sup l.length (pV l) (n+1) (Lf l L) (wts (tO l L) n) (sO l L)
 cen:cO l L=Go.Eng.cen (n+1) (wts (tO l L) n) fun j=>pV l (Lf l L j)
theorem qLI (hL:L.length=n+1)(hlt:∀a,a∈L->a<l.length){j:Nat}(hj:j<n+1):Lf l L j<l.length:=by unfold Lf;rw[qNZ,qO5 (show j<L.length by omega)];exact hlt _ (qOI _)
theorem qId (hs:yu l)(hl:0<l.length){m:Nat}(hm:Mst l m):∃L n,LO l m L n:=by
 obtain⟨L,n,h1,h2,h3,h4,h5,h6,t,ht⟩:=qEm hl hm;have eL:L.length-1=n:=by omega
 have sb:kn l L=true:=qjG.2 ⟨t,by rw[eL];exact ht⟩;have st:=qCh sb;rw[eL] at st;have ec:cO l L=cen (n+1) (wts (tO l L) n) fun j=>pV l (Lf l L j):=by unfold cO;rw[eL]
 have su:=qDn st (fun j hj=>qLI h2 h5 hj) (by have:=qJq h6 l.length;rw[h2] at this;exact this);rw[<-ec] at su;exact⟨L,n,h1,h2,h3,h4,h5,h6,sb,(qAy hs h2 h4 h5 sb).1,su,ec⟩
theorem qvP (h0:qsk l=0):∃L n,LO (raR l) 3 L n /\(um [.r l]).run=some (0,[.s (tQ (cO (raR l) L).x),.s (tQ (cO (raR l) L).y),.s (tQ (sO (raR l) L)),.r (rN L),.i 0]):=by obtain⟨h1,h2,h3,h4,h5⟩:=qoK h0;obtain⟨L,n,lo⟩:=qId h4 (by rw[qxv];exact h3) h5;have r1:(q09 [.r (raR l),.i 3]).run=_:=qL7 h4 (m:=3) (by omega) lo.first;refine⟨L,n,lo,?_⟩;rw[qoV];simp only[STD,quv,h0,qJf h2,r1,qfO]
theorem qDE (h0:qsk l=0)(lo:LO (raR l) 3 L n) :(q7z [.r l]).run=some (0,[.s (tQ (cO (raR l) L).x),.s (tQ (cO (raR l) L).y),.s (tQ (sO (raR l) L)),.r (rN L),.i 0]):=by obtain⟨h1,h2,h3,h4,h5⟩:=qoK h0;have r2:(q5S [.r (raR l),.i 3]).run=_:=qKi h4 (m:=3) (by omega) lo.first;have r3:=qkO (l:=raR l) (L:=L) (by have:=lo.len;have:=lo.three;omega) lo.lt;have r4:=qLM h4 lo.len lo.three lo.lt lo.supp;rw[qsl];simp only[STD,qyO,h0,qtY h2,r2,r3,r4]
end Go.Eng

namespace Go.Eng
theorem qCa{y:R}(hy:y.length<9223372036854775808):(vZ [.r y,.r y]).run=some (0,[.b true]):=by
 have key:=qq (S:=zF) (fun i=>[.r y,.r y,.i (qg y),.i (i:Int)]) (0,[]) y.length hy (fun i hi=>by
  rw[q3D];simp only[STD,qvG hi,qaW,and_self,vX hi hy]) (by
  rw[q3D];simp only[STD,qph])
 have key':(qf zF [.r y,.r y,.i (qg y),.i 0]).run=_:=key;rw[qeU];simp only[STD,key',zh key']
def shN(s:qNX):Prop:=(spn s).length<=30/\(spd s).length<=30
instance (s:qNX):Decidable (shN s):=by unfold shN;infer_instance
def E4:R:=[[.i 0,.i 0],[.i 6,.i 0],[.i 3,.i 1]]
theorem qGU:qsk E4=0:=by decide
theorem qMa{c:Nat->V3}{t:Nat->Rat}{a:Rat}(h1:qve c 0 0=a)(ha:a≠0)(e1:a*t 0=d2 (c 0) (c 1)):Bl 1 c t:=by
 refine⟨qad.2 fun u hu=>?_,fun i hi=>?_⟩
 ·have q1:=hu 0 (by omega);simp only[su,h1] at q1;intro j hj;have:j=0:=by omega
  subst this;have z:a*u 0=0:=by grind
  rcases Rat.mul_eq_zero.1 z with h|h
  ·exact absurd h ha
  ·exact h
 ·have:i=0:=by omega
  subst this;simp only[su,h1];grind
theorem qI4:qB5 (pV (raR E4)) (raR E4).length 1 (Lf (raR E4) [0,1]) (fun _=>1/2):=by
 refine⟨qMa (a:=72) (by decide +kernel) (by decide +kernel) (by decide +kernel),?_,?_⟩
 ·decide +kernel
 ·decide +kernel
theorem qvE(l:R):∃b,(un [.r l]).run=some (0,[.b b]):=by
 rw[qoI];by_cases h1:qg l<=6
 ·exact⟨true,by simp only[STD,h1]⟩
 ·by_cases h2:64<qg l
  ·exact⟨ilt (qg l) 128,by simp only[STD,h1,h2]⟩
  ·exact⟨false,by simp only[STD,h1,h2]⟩
def qN6(a b:Rat):Int:=sgn (a.num*(b.den:Int)-b.num*(a.den:Int))
theorem qKM{a b:Rat}:0<qN6 a b↔b<a:=by unfold qN6;rw[qFR,qHI]
theorem qMA{l:R}(hs:yu l){m:Nat}{L:List Nat}{n:Nat}(h:LO l m L n):bnd 317 223 (sO l L):=qww hs h.cb (qLI h.len h.lt (by omega))
theorem qMp{x y:Int}(hx:-200000<=x/\x<=200000)(hy:-200000<=y/\y<=200000):-40000000000<=x*y/\x*y<=40000000000:=by
 have h1:(x*y).natAbs<=200000*200000:=by rw[qPc];exact qOB (by omega) (by omega)
 omega
theorem qK8(x:Int):0<=x*x:=by
 rcases Int.le_total 0 x with h|h
 ·exact qPH h h
 ·exact Int.mul_nonneg_of_nonpos_of_nonpos h h
theorem qDR{l:R}(h0:qsk l=0){L:List Nat}{n:Nat}(lo:LO (raR l) 3 L n):(um [.r l]).run=some (0,[.s (tQ (cO (raR l) L).x),.s (tQ (cO (raR l) L).y),.s (tQ (sO (raR l) L)),.r (rN L),.i 0]):=by
 obtain⟨L',n',lo',h⟩:=qvP h0;have e:L'=L:=by have:=lo'.first;rw[lo.first] at this;exact(qOE this).symm
 rw[e] at h;exact h
theorem qHq{d:Int}(h:¬d<0)(h2:¬100000<d):0<=d*d/\d*d<=10000000000:=by
 refine⟨qK8 d,?_⟩;have h1:(d*d).natAbs<=100000*100000:=by rw[qPc];exact qOB (by omega) (by omega)
 omega
theorem qrg:bnd 1 1 (4:Rat):=⟨by decide,by decide⟩
theorem qLc:tQ 4=[52]:=by decide +kernel
noncomputable def pinB(l:R)(L:List Nat)(d:Int):Bool:=decide (4*sO (raR l) L<=((d*d:Int):Rat))
theorem qNf{l:R}(h0:qsk l=0){L:List Nat}{n:Nat}(lo:LO (raR l) 3 L n){d:Int}(h1:¬d<0)(h2:¬100000<d) :(q2M [.r l,.i d]).run=some (0,[.b (pinB l L d),.i 0])/\(qt4 [.r l,.i d]).run=some (0,[.b (pinB l L d),.i 0]):=by
 obtain⟨g1,g2,g3,g4,g5⟩:=qoK h0;have r1:=qDR h0 lo;have q1:=qDE h0 lo;have sb:=qMA g4 lo;obtain⟨s1,s2⟩:=qHq h1 h2;have w:wL .i64 d d=d*d:=q0G ⟨by omega,by omega⟩;have r2:=qfW qrg sb (by omega) (by omega);have q2:=q30 (qrg.sm (K:=100000) (by omega) (by omega)) (sb.sm (K:=100000) (by omega) (by omega));rw[qLc] at r2 q2;have r3:=q0z (m:=d*d) ⟨by omega,by omega⟩;have q3:=q11 (m:=d*d) ⟨by omega,by omega⟩;have db:bnd 11 1 ((d*d:Int):Rat):=qp8 (qLy (by omega) (by omega)) (by omega);have r4:=qhi (qrg.mul sb) db (by omega) (by omega);change (wG _).run=some (0,[.i (qN6 _ _),.i 0]) at r4;have q4:=qnX ((qrg.mul sb).sm (K:=100000) (by omega) (by omega)) (db.sm (K:=100000) (by omega) (by omega));have e1:ile (qN6 (4*sO (raR l) L) ((d*d:Int):Rat)) 0=pinB l L d:=by
  unfold ile pinB;rw[decide_eq_decide];have:=qKM (a:=4*sO (raR l) L) (b:=((d*d:Int):Rat));constructor
  ·intro h;exact Rat.not_lt.1 fun hh=>by have:=this.2 hh;omega
  ·intro h;apply qOA;intro hh;exact absurd (this.1 (by omega)) (Rat.not_lt.2 h)
 have e2:ile (sgq (4*sO (raR l) L-((d*d:Int):Rat))) 0=pinB l L d:=by
  unfold ile pinB;rw[decide_eq_decide];have h3:=@qGo (4*sO (raR l) L-((d*d:Int):Rat));constructor
  ·intro h;apply Rat.not_lt.1;intro hh;have:0<sgq (4*sO (raR l) L-((d*d:Int):Rat)):=by rw[h3];grind
   omega
  ·intro h;apply qOA;intro hh;have:0<4*sO (raR l) L-((d*d:Int):Rat):=by rw[<-h3];omega
   grind
 have hr:¬qg l=0:=by unfold qg;omega
 constructor
 ·rw[qB8];simp only[STD,r1,h1,h2,w,r2,r3,r4,e1]
 ·rw[qAk];simp only[STD,qeV,g1,hr,h1,h2,q1,w,q2,q3,q4,e2]
def dS(l:R)(i:Nat):Int:=(cI l i 3-cI l i 0)*(cI l i 3-cI l i 0)+(cI l i 4-cI l i 1)*(cI l i 4-cI l i 1)+(cI l i 5-cI l i 2)*(cI l i 5-cI l i 2)
def prE(l:R)(i:Nat):Int:=if spE (cI l i 0) (cI l i 1) (cI l i 2)=0 then spE (cI l i 3) (cI l i 4) (cI l i 5) else spE (cI l i 0) (cI l i 1) (cI l i 2)
theorem qCq(e:Nat->Int):q0m e 2=if e 0=0 then e 1 else e 0:=by
 unfold q0m q6H q6H q6H q9B;by_cases h0:e 0=0
 ·by_cases h1:e 1=0<;>simp[h0,h1]
 ·simp[h0]
theorem qBd{x:Int}(h:-200000<=x/\x<=200000):0<=x*x/\x*x<=40000000000:=⟨qK8 x,(qMp h h).2⟩
theorem qnN(a b c d e f:Int):(vS [.i a,.i b,.i c,.i d,.i e,.i f]).run = if (if spE a b c=0 then spE d e f else spE a b c)=0 then some (0,[.i ((d-a)*(d-a)+(e-b)*(e-b)+(f-c)*(f-c)),.i 0]) else some (0,[.i 0,.i 2]):=by
 have r:=qnB [[.i a,.i b,.i c],[.i d,.i e,.i f]] (by simp);have e2:q0m (spA [[.i a,.i b,.i c],[.i d,.i e,.i f]]) 2=if spE a b c=0 then spE d e f else spE a b c:=qCq _
 have r':(zl [.r [[.i a,.i b,.i c],[.i d,.i e,.i f]]]).run=some (0,[.i (if spE a b c=0 then spE d e f else spE a b c)]):=by rw[<-e2];exact r
 rw[qiO];by_cases h1:spE a b c=0
 ·by_cases h2:spE d e f=0
  ·obtain⟨⟨a1,a2⟩,⟨b1,b2⟩,c1,c2⟩:=qyk h1;obtain⟨⟨d1,d2⟩,⟨e1,e2⟩,f1,f2⟩:=qyk h2;have w1:zY .i64 d a=d-a:=zc ⟨by omega,by omega⟩;have w2:zY .i64 e b=e-b:=zc ⟨by omega,by omega⟩;have w3:zY .i64 f c=f-c:=zc ⟨by omega,by omega⟩;have m1:=qBd (x:=d-a) ⟨by omega,by omega⟩;have m2:=qBd (x:=e-b) ⟨by omega,by omega⟩;have m3:=qBd (x:=f-c) ⟨by omega,by omega⟩;have p1:wL .i64 (d-a) (d-a)=(d-a)*(d-a):=q0G ⟨by omega,by omega⟩;have p2:wL .i64 (e-b) (e-b)=(e-b)*(e-b):=q0G ⟨by omega,by omega⟩;have p3:wL .i64 (f-c) (f-c)=(f-c)*(f-c):=q0G ⟨by omega,by omega⟩;have s1:qm .i64 ((d-a)*(d-a)) ((e-b)*(e-b))=(d-a)*(d-a)+(e-b)*(e-b):=qK ⟨by omega,by omega⟩;have s2:qm .i64 ((d-a)*(d-a)+(e-b)*(e-b)) ((f-c)*(f-c))=(d-a)*(d-a)+(e-b)*(e-b)+(f-c)*(f-c):=qK ⟨by omega,by omega⟩;simp only[STD,r',h1,h2,qrX,qnI,w1,w2,w3,p1,p2,p3,s1,s2]
  ·have h3:spE d e f=2:=(qdR d e f).resolve_left h2;simp only[STD,r',h1,h3,show ¬(2:Int)=0 by decide]
 ·have h3:spE a b c=2:=(qdR a b c).resolve_left h1;simp only[STD,r',h3,show ¬(2:Int)=0 by decide]
def paE(l:R):Int:=if 64<qg l then 5 else q0m (prE l) l.length
def sqR(l:R)(n:Nat):R:=(List.range n).map fun i:Nat=>[.i (dS l i)]
theorem qH1(l:R)(n:Nat):(sqR l n).length=n:=by unfold sqR;rw[qO7,qOv]
theorem qJ5(l:R)(n:Nat):zD (sqR l n) [[.i (dS l n)]]=sqR l (n+1):=by unfold sqR zD;rw[qOO,qOk];rfl
theorem qt0(l:R)(i:Nat):prE l i=0\/prE l i=2:=by
 unfold prE;split
 ·exact qdR _ _ _
 ·exact qdR _ _ _
theorem qxL(l:R):(q0t [.r l]).run=some (0,[.r (if paE l=0 then sqR l l.length else []),.i (paE l)]):=by
 rw[qux];unfold paE;by_cases h:64<qg l
 ·simp only[STD,h,show ¬(5:Int)=0 by decide]
 ·have hl:l.length<=64:=by unfold qg at h;omega
  have key:=q0g (S:=q07) (fun i=>[.r l,.i (l.length:Int),.i (i:Int),.r (sqR l i)]) (fun i=>(q9B (prE l) i).map fun x=>(1,[PV.i x])) (0,[.r (sqR l l.length)]) l.length (by omega) (fun i hi hf=>by
   have h0:prE l i=0:=by
    unfold q9B at hf;split at hf
    ·assumption
    ·cases hf
   have r:=qnN (cI l i 0) (cI l i 1) (cI l i 2) (cI l i 3) (cI l i 4) (cI l i 5);rw[if_pos (show (if spE (cI l i 0) (cI l i 1) (cI l i 2)=0 then spE (cI l i 3) (cI l i 4) (cI l i 5) else spE (cI l i 0) (cI l i 1) (cI l i 2))=0 from h0)] at r;have lr:qg (sqR l i)=(i:Int):=by unfold qg;rw[qH1]
   have e1:∀x:U,qg [[x]]=1:=fun _=>rfl;have es:=qJ5 l i;unfold dS at es;rw[q8Q];simp only[STD,r,lr,e1,es,vX hi (show l.length<9223372036854775808 by omega),show (i:Int)<l.length by omega,show (0:Int)<=i by omega,show qg l=(l.length:Int) from rfl,show (i:Int)+1<=17592186044416 by omega,and_self]) (fun i r hi hf=>by
   have h0:prE l i≠0/\r=(1,[PV.i (prE l i)]):=by
    unfold q9B at hf;split at hf
    ·cases hf
    ·rename_i hh;cases hf;exact⟨hh,rfl⟩
   have h2:prE l i=2:=(qt0 l i).resolve_left h0.1;have rr:=qnN (cI l i 0) (cI l i 1) (cI l i 2) (cI l i 3) (cI l i 4) (cI l i 5);rw[if_neg (show ¬(if spE (cI l i 0) (cI l i 1) (cI l i 2)=0 then spE (cI l i 3) (cI l i 4) (cI l i 5) else spE (cI l i 0) (cI l i 1) (cI l i 2))=0 from h0.1)] at rr;rw[h0.2,h2,q8Q];simp only[STD,rr,show (i:Int)<l.length by omega,show (0:Int)<=i by omega,show qg l=(l.length:Int) from rfl,show ¬(2:Int)=0 by decide,and_self]) (by
   rw[q8Q];simp only[STD,show ¬(l.length:Int)<l.length by omega])
  have key':(qf q07 [.r l,.i (l.length:Int),.i 0,.r []]).run=_:=key;have lr:qg l=(l.length:Int):=rfl;by_cases hf:q0m (prE l) l.length=0
  ·have hs:q6H (fun i=>(q9B (prE l) i).map fun x=>((1:Nat),[PV.i x])) 0 l.length=none:=by rw[qp3 (g:=fun _=>none) (fun j _ hj=>by unfold q9B;rw[if_pos (qaI hf j (by omega))];rfl),qzQ]
   rw[hs] at key';rw[lr] at h;simp only[STD,lr,h,key',zh key',hf,Option.getD_none]
  ·cases hs:q6H (fun i=>(q9B (prE l) i).map fun x=>((1:Nat),[PV.i x])) 0 l.length with
   | none=>
    exfalso;exact hf (qAi fun i hi=>by
     have:=qeA hs i (by omega) (by omega);unfold q9B at this;split at this
     ·assumption
     ·cases this)
   | some v=>
    obtain⟨j,_,hj2,hj⟩:=qaO hs;have hv:prE l j≠0/\v=(1,[PV.i (prE l j)]):=by
     unfold q9B at hj;split at hj
     ·cases hj
     ·rename_i hh;cases hj;exact⟨hh,rfl⟩
    have h2:prE l j=2:=(qt0 l j).resolve_left hv.1;have hE:q0m (prE l) l.length=2:=by
     unfold q0m at hf ⊢;cases hs2:q6H (q9B (prE l)) 0 l.length with
     | none=>rw[hs2] at hf;exact absurd rfl hf
     | some x=>
      obtain⟨k,_,_,hk⟩:=qaO hs2;unfold q9B at hk;split at hk
      ·cases hk
      ·rename_i hh;cases hk;exact(qt0 l k).resolve_left hh
    rw[hs,hv.2,h2] at key';rw[lr] at h;simp only[STD,lr,h,key',zh key',hE,qOW,show ¬((1:Nat)=0) by decide,show ¬(2:Int)=0 by decide]
def qJw(lo hi:Int):Int:=if (-100000<=lo/\lo<=100000)/\(-100000<=hi/\hi<=100000) then (if hi<lo then 9 else 0) else 2
theorem qml(x:Int):(ww [.i x]).run=some (0,[.b (decide (-100000<=x/\x<=100000))]):=by
 rw[qlS];by_cases h1:-100000<=x
 ·by_cases h2:x<=100000
  ·simp only[STD,h1,h2,and_self,decide_true];rw[show ile x 100000=true from by simp[ile,h2]]
  ·simp only[STD,h1,h2,and_false,decide_false];rw[show ile x 100000=false from by simp[ile];omega]
 ·simp only[STD,h1,false_and,decide_false]
theorem qca(lo hi:Int):(q0f [.i lo,.i hi]).run=some (0,[.i (qJw lo hi)]):=by
 rw[qmA];unfold qJw;by_cases h1:-100000<=lo/\lo<=100000
 ·by_cases h2:-100000<=hi/\hi<=100000
  ·by_cases h3:hi<lo
   ·simp only[STD,qml,h1,h2,h3,and_self]
   ·simp only[STD,qml,h1,h2,h3,and_self]
  ·simp only[STD,qml,h1,h2,and_self,and_false]
 ·simp only[STD,qml,h1,false_and]
theorem qfC(x:Int):(q4F [.i x]).run=some (0,[.b (decide (-100000<=x/\x<=100000))]):=by
 rw[qBw];by_cases h1:-100000<=x
 ·by_cases h2:x<=100000
  ·simp only[STD,h1,h2,and_self,decide_true];rw[show ile x 100000=true from by simp[ile,h2]]
  ·simp only[STD,h1,h2,and_false,decide_false];rw[show ile x 100000=false from by simp[ile];omega]
 ·simp only[STD,h1,false_and,decide_false]
theorem qkF(lo hi:Int):(q6o [.i lo,.i hi]).run=some (0,[.i (qJw lo hi)]):=by
 rw[qvs];unfold qJw;by_cases h1:-100000<=lo/\lo<=100000
 ·by_cases h2:-100000<=hi/\hi<=100000
  ·by_cases h3:hi<lo
   ·simp only[STD,qfC,h1,h2,h3,and_self]
   ·simp only[STD,qfC,h1,h2,h3,and_self]
  ·simp only[STD,qfC,h1,h2,and_self,and_false]
 ·simp only[STD,qfC,h1,false_and]
def lmE(lo hi:Int):Int:=if qJw lo hi=0 then (if lo<0 then 2 else 0) else qJw lo hi
theorem q1V(lo hi:Int):(q0E [.i lo,.i hi]).run=some (0,[.i (lmE lo hi)])/\(q0q [.i lo,.i hi]).run=some (0,[.i (lmE lo hi)]):=by
 unfold lmE;constructor
 ·rw[qut];by_cases h:qJw lo hi=0
  ·by_cases h2:lo<0<;>simp only[STD,qca,h,h2]
  ·simp only[STD,qca,h]
 ·rw[qxV];by_cases h:qJw lo hi=0
  ·by_cases h2:lo<0<;>simp only[STD,qkF,h,h2]
  ·simp only[STD,qkF,h]
theorem qJv{lo hi:Int}(h:lmE lo hi=0):0<=lo/\lo<=hi/\hi<=100000:=by
 unfold lmE at h;split at h
 ·rename_i h1;unfold qJw at h1;split at h1
  ·split at h1
   ·omega
   ·split at h<;>omega
  ·omega
 ·omega
theorem qJ7{l:R}(h:paE l=0):l.length<=64/\∀i,i<l.length->spE (cI l i 0) (cI l i 1) (cI l i 2)=0/\spE (cI l i 3) (cI l i 4) (cI l i 5)=0:=by
 unfold paE at h;split at h
 ·omega
 ·rename_i h64;unfold qg at h64;refine⟨by omega,fun i hi=>?_⟩;have:=qaI h i hi;unfold prE at this;split at this
  ·rename_i h1;exact⟨h1,this⟩
  ·rename_i h1;exact absurd this h1
def qlf(f:Nat->Int):Nat->Nat
 | 0=>0
 | i+1=>if f i<f (qlf f i) then i else qlf f i
def qjM(f:Nat->Int):Nat->Nat
 | 0=>0
 | i+1=>if f (qjM f i)<f i then i else qjM f i
theorem q4C(f:Nat->Int):∀{n:Nat},0<n->qlf f n<n
 | 0,h=>by omega
 | n+1,_=>by
  simp only[qlf];split
  ·omega
  ·cases n with
   | zero=>simp[qlf]
   | succ n=>have:=q4C f (n:=n+1) (by omega);omega
theorem q7j(f:Nat->Int):∀{n:Nat},0<n->qjM f n<n
 | 0,h=>by omega
 | n+1,_=>by
  simp only[qjM];split
  ·omega
  ·cases n with
   | zero=>simp[qjM]
   | succ n=>have:=q7j f (n:=n+1) (by omega);omega
theorem qNy(f:Nat->Int){i n:Nat}(h:i<n):qlf f i<n/\qjM f i<n:=by
 cases i with
 | zero=>simp only[qlf,qjM];omega
 | succ i=>exact⟨by have:=q4C f (n:=i+1) (by omega);omega,by have:=q7j f (n:=i+1) (by omega);omega⟩
def qLr(s:R)(lo hi:Int)(i:Nat):Option Nat:=if cI s i 0<lo*lo\/hi*hi<cI s i 0 then some i else none
def kpR(s:R)(lo hi:Int):List PV:=match q6H (qLr s lo hi) 0 s.length with
 | none=>[.b true,.i s.length,.i 0]
 | some j=>[.b false,.i j,.i 0]
theorem qNl{lo hi:Int}(h:lmE lo hi=0):wL .i64 lo lo=lo*lo/\wL .i64 hi hi=hi*hi:=by obtain⟨h1,h2,h3⟩:=qJv h;have a:=qHq (d:=lo) (by omega) (by omega);have b:=qHq (d:=hi) (by omega) (by omega);exact⟨q0G ⟨by omega,by omega⟩,q0G ⟨by omega,by omega⟩⟩
theorem qzH{f:Nat->Option Nat}{g:Nat->Nat×List PV}:∀k i,q6H (fun j=>(f j).map g) i k=(q6H f i k).map g
 | 0,_=>rfl
 | k+1,i=>by
  simp only[q6H];cases f i with
  | none=>simp only[Option.map_none];exact qzH k (i+1)
  | some x=>rfl
theorem qyN{s:R}(hs:s.length<=64){lo hi:Int}(h:lmE lo hi=0) :(w9 [.r s,.i lo,.i hi]).run=some (0,[.i (match q6H (qLr s lo hi) 0 s.length with|none=>-1|some j=>(j:Int)),.i lo,.i hi]):=by
 obtain⟨w1,w2⟩:=qNl h;have lr:qg s=(s.length:Int):=rfl;have key:=q0g (S:=z7) (fun i=>[.r s,.i (s.length:Int),.i (i:Int),.i lo,.i hi]) (fun i=>(qLr s lo hi i).map fun j:Nat=>(1,[PV.i (j:Int),.i lo,.i hi])) (0,[.i lo,.i hi]) s.length (by omega) (fun i hi2 hf=>by
  have hb:¬(cI s i 0<lo*lo\/hi*hi<cI s i 0):=fun hb=>by unfold qLr at hf;rw[if_pos hb] at hf;cases hf
  have e:ilt (hi*hi) (cI s i 0)=false:=by unfold ilt;simp;omega
  rw[jO];simp only[STD,qaR,w1,w2,lr,e,vX hi2 (show s.length<9223372036854775808 by omega),show ¬cI s i 0<lo*lo by omega,show (i:Int)<s.length by omega,show (0:Int)<=i by omega,and_self]) (fun i r hi2 hf=>by
  have hb:(cI s i 0<lo*lo\/hi*hi<cI s i 0)/\r=(1,[PV.i (i:Int),.i lo,.i hi]):=by
   unfold qLr at hf;split at hf
   ·rename_i hb;cases hf;exact⟨hb,rfl⟩
   ·cases hf
  rw[hb.2,jO];by_cases c:cI s i 0<lo*lo
  ·simp only[STD,qaR,w1,w2,lr,c,show (i:Int)<s.length by omega,show (0:Int)<=i by omega,and_self]
  ·have e:ilt (hi*hi) (cI s i 0)=true:=by unfold ilt;simp;omega
   simp only[STD,qaR,w1,w2,lr,c,e,show (i:Int)<s.length by omega,show (0:Int)<=i by omega,and_self]) (by
  rw[jO];simp only[STD,show ¬(s.length:Int)<s.length by omega])
 rw[qzH] at key;have key':(qf z7 [.r s,.i (s.length:Int),.i 0,.i lo,.i hi]).run=_:=key;rw[qav];cases hsc:q6H (qLr s lo hi) 0 s.length with
 | none=>
  rw[hsc] at key';simp only[Option.map_none,Option.getD_none] at key';simp only[STD,lr,key',zh key']
 | some j=>
  rw[hsc] at key';simp only[qOz,qOW] at key';simp only[STD,lr,key',zh key',show ¬((1:Nat)=0) by decide]
theorem qFz(l:R)(lo hi:Int):(q4Z [.r l,.i lo,.i hi]).run=some (0,if paE l=0 then (if lmE lo hi=0 then kpR (sqR l l.length) lo hi else [.b false,.i 0,.i (lmE lo hi)]) else [.b false,.i 0,.i (paE l)]):=by
 rw[qxM];by_cases h:paE l=0
 ·obtain⟨hl,_⟩:=qJ7 h;have r1:=qxL l;rw[if_pos h] at r1;by_cases h2:lmE lo hi=0
  ·have r2:=qyN (s:=sqR l l.length) (by rw[qH1];exact hl) h2;unfold kpR;rw[if_pos h,if_pos h2];cases hsc:q6H (qLr (sqR l l.length) lo hi) 0 (sqR l l.length).length with
   | none=>
    rw[hsc] at r2;simp only[STD,r1,h,(q1V lo hi).1,h2,r2,show ¬(0:Int)<=-1 by decide];rfl
   | some j=>
    rw[hsc] at r2;simp only[STD,r1,h,(q1V lo hi).1,h2,r2,show (0:Int)<=(j:Int) by omega]
  ·rw[if_pos h,if_neg h2];simp only[STD,r1,h,(q1V lo hi).1,h2]
 ·rw[if_neg h];simp only[STD,qxL,h]
variable {l:R}
def cA(l:R)(a:Int)(i:Nat):Int:=ql7 [cI l i 0,cI l i 1,cI l i 2] a
theorem qn6 (x y z:Int){a:Int}(h:0<=a/\a<3):(qE [.i x,.i y,.i z,.i a]).run=some (0,[.i (ql7 [x,y,z] a),.i a]):=by rw[qik];simp only[STD,h.1,h.2,and_self]
theorem qCg (h0:0<l.length)(h:l.length<=64){a:Int}(ha:0<=a/\a<3):(vb [.r l,.i a]).run=some (0,[.i (qlf (cA l a) l.length:Int),.i (qjM (cA l a) l.length:Int),.i a]):=by
 have key:=qq (S:=zm) (fun i=>[.r l,.r l,.i (l.length:Int),.i (i:Int),.i a,.i 0,.i 0,.i (qlf (cA l a) i:Int),.i (qjM (cA l a) i:Int)])
  (0,[.i a,.i 0,.i 0,.i (qlf (cA l a) l.length:Int),.i (qjM (cA l a) l.length:Int)]) l.length (by omega) (fun i hi=>by
  obtain⟨b1,b2⟩:=qNy (cA l a) hi;have lr:qg l=(l.length:Int):=rfl;have w:=vX hi (show l.length<9223372036854775808 by omega);obtain⟨x,hx⟩:∃x,x=qlf (cA l a) i:=⟨_,rfl⟩;obtain⟨y,hy⟩:∃y,y=qjM (cA l a) i:=⟨_,rfl⟩;have e1:qlf (cA l a) (i+1)=if cA l a i<cA l a x then i else x:=by rw[hx];rfl
  have e2:qjM (cA l a) (i+1)=if cA l a y<cA l a i then i else y:=by rw[hy];rfl
  have ei:ql7 [cI l i 0,cI l i 1,cI l i 2] a=cA l a i:=rfl;have ex:ql7 [cI l x 0,cI l x 1,cI l x 2] a=cA l a x:=rfl;have ey:ql7 [cI l y 0,cI l y 1,cI l y 2] a=cA l a y:=rfl;rw[<-hx] at b1;rw[<-hy] at b2;rw[q2e,e1,e2,<-hx,<-hy];by_cases c1:cA l a i<cA l a x
  ·by_cases c2:cA l a y<cA l a i
   ·simp only[STD,qn6 _ _ _ ha,lr,w,ei,ex,ey,c1,c2,show (i:Int)<l.length by omega,show (0:Int)<=i by omega,show (x:Int)<l.length by omega,show (0:Int)<=x by omega,show (y:Int)<l.length by omega,show (0:Int)<=y by omega,and_self]
   ·simp only[STD,qn6 _ _ _ ha,lr,w,ei,ex,ey,c1,c2,show (i:Int)<l.length by omega,show (0:Int)<=i by omega,show (x:Int)<l.length by omega,show (0:Int)<=x by omega,show (y:Int)<l.length by omega,show (0:Int)<=y by omega,and_self]
  ·by_cases c2:cA l a y<cA l a i
   ·simp only[STD,qn6 _ _ _ ha,lr,w,ei,ex,ey,c1,c2,show (i:Int)<l.length by omega,show (0:Int)<=i by omega,show (x:Int)<l.length by omega,show (0:Int)<=x by omega,show (y:Int)<l.length by omega,show (0:Int)<=y by omega,and_self]
   ·simp only[STD,qn6 _ _ _ ha,lr,w,ei,ex,ey,c1,c2,show (i:Int)<l.length by omega,show (0:Int)<=i by omega,show (x:Int)<l.length by omega,show (0:Int)<=x by omega,show (y:Int)<l.length by omega,show (0:Int)<=y by omega,and_self]) (by
  rw[q2e];simp only[STD,show ¬(l.length:Int)<l.length by omega])
 have key':(qf zm [.r l,.r l,.i (l.length:Int),.i 0,.i a,.i 0,.i 0,.i 0,.i 0]).run=_:=key;rw[qcP];simp only[STD,show qg l=(l.length:Int) from rfl,key']
def mnA(l:R)(a:Int):Int:=cA l a (qlf (cA l a) l.length)
def mxA(l:R)(a:Int):Int:=cA l a (qjM (cA l a) l.length)
theorem q7u (h0:0<l.length)(h:l.length<=64){a:Int}(ha:0<=a/\a<3):(zg [.r l,.i a]).run=some (0,[.i (mnA l a),.i (mxA l a)]):=by have r:=qCg h0 h ha;have b1:=q4C (cA l a) h0;have b2:=q7j (cA l a) h0;have lr:qg l=(l.length:Int):=rfl;rw[qlT];simp only[STD,r,lr,qn6 _ _ _ ha,show ((qlf (cA l a) l.length:Nat):Int)<l.length by omega,show (0:Int)<=((qlf (cA l a) l.length:Nat):Int) by omega,show ((qjM (cA l a) l.length:Nat):Int)<l.length by omega,show (0:Int)<=((qjM (cA l a) l.length:Nat):Int) by omega,and_self];rfl
def sdE(l:R):Int:=if qg l=0 then 13 else qHX l
def fcE(a:Int)(l m:R):Int:=if a<0 then 1 else if 3<=a then 1 else if sdE l=0 then (if sdE m=0 then (if mnA m a<=mxA l a then 9 else 0) else sdE m) else sdE l
theorem qjq (h:sdE l=0):0<l.length/\l.length<=64/\yu l:=by
 unfold sdE at h;split at h
 ·omega
 ·rename_i h1;have sp:=qGx h;exact⟨by unfold qg at h1;omega,sp.1,sp⟩
theorem qLo (l m:R)(a:Int){i:Nat}(hi:i<2):(jj [.r l,.r m,.i (i:Int),.i a,.r l,.r m]).run=if sdE (if i=0 then l else m)=0 then some (0,[.r l,.r m,.i ((i+1:Nat):Int),.i a,.r l,.r m]) else some (2,.i (sdE (if i=0 then l else m))::[]):=by
 have w:=vX hi (show 2<9223372036854775808 by omega);rw[qix];rcases (show i=0\/i=1 by omega) with rfl|rfl
 ·have w':qm .i64 0 1=((0+1:Nat):Int):=w;rw[if_pos rfl];unfold sdE;by_cases h:qg l=0
  ·simp only[STD,h,show ((0:Nat):Int)=0 from rfl,show (0:Int)<2 by decide,show ¬(13:Int)=0 by decide]
  ·by_cases h2:qHX l=0
   ·simp only[STD,h,h2,q0I,w',show ((0:Nat):Int)=0 from rfl,show (0:Int)<2 by decide]
   ·simp only[STD,h,h2,q0I,show ((0:Nat):Int)=0 from rfl,show (0:Int)<2 by decide]
 ·have w':qm .i64 1 1=((1+1:Nat):Int):=w;rw[show (if (1:Nat)=0 then l else m)=m from rfl];unfold sdE;by_cases h:qg m=0
  ·simp only[STD,h,show ((1:Nat):Int)=1 from rfl,show (1:Int)<2 by decide,show ¬(1:Int)=0 by decide,show ¬(13:Int)=0 by decide]
  ·by_cases h2:qHX m=0
   ·simp only[STD,h,h2,q0I,w',show ((1:Nat):Int)=1 from rfl,show (1:Int)<2 by decide,show ¬(1:Int)=0 by decide]
   ·simp only[STD,h,h2,q0I,show ((1:Nat):Int)=1 from rfl,show (1:Int)<2 by decide,show ¬(1:Int)=0 by decide]
theorem q5L (a:Int)(l m:R):(wA [.i a,.r l,.r m]).run=some (0,[.i (fcE a l m)]):=by
 rw[qxJ];unfold fcE;by_cases h1:a<0
 ·simp only[STD,h1]
 by_cases h2:3<=a
 ·simp only[STD,h1,h2]
 have k:=qjC (S:=jj) (fun i=>[.r l,.r m,.i (i:Int),.i a,.r l,.r m]) (fun i=>sdE (if i=0 then l else m)) [] [.i a,.r l,.r m] 2 (by omega) (fun i hi=>qLo l m a hi) (by rw[qix];simp only[STD,show ¬((2:Nat):Int)<2 by decide]);have e:q0m (fun i=>sdE (if i=0 then l else m)) 2=if sdE l=0 then sdE m else sdE l:=qCq _
 rw[e] at k;by_cases h3:sdE l=0
 ·by_cases h4:sdE m=0
  ·rw[if_pos (by rw[if_pos h3];exact h4)] at k;have k':(qf jj [.r l,.r m,.i 0,.i a,.r l,.r m]).run=_:=k;obtain⟨l1,l2,_⟩:=qjq h3;obtain⟨m1,m2,_⟩:=qjq h4;have c1:=q7u l1 l2 (a:=a) ⟨by omega,by omega⟩;have c2:=q7u m1 m2 (a:=a) ⟨by omega,by omega⟩;by_cases h5:mnA m a<=mxA l a
   ·simp only[STD,h1,h2,h3,h4,k',zh k',c1,c2,h5]
   ·simp only[STD,h1,h2,h3,h4,k',zh k',c1,c2,h5]
  ·rw[if_neg (by rw[if_pos h3];exact h4),if_pos h3] at k;have k':(qf jj [.r l,.r m,.i 0,.i a,.r l,.r m]).run=_:=k;simp only[STD,h1,h2,h3,h4,k',zh k',show ¬((1:Nat)=0) by decide]
 ·rw[if_neg (by rw[if_neg h3];exact h3),if_neg h3] at k;have k':(qf jj [.r l,.r m,.i 0,.i a,.r l,.r m]).run=_:=k;simp only[STD,h1,h2,h3,k',zh k',show ¬((1:Nat)=0) by decide]
theorem qmJ {a:Int}{l m:R}(h:fcE a l m=0):(0<=a/\a<3)/\(0<l.length/\l.length<=64/\yu l)/\(0<m.length/\m.length<=64/\yu m)/\mxA l a<mnA m a:=by
 unfold fcE at h;split at h
 ·omega
 ·split at h
  ·omega
  ·split at h
   ·rename_i h3;split at h
    ·rename_i h4;split at h
     ·omega
     ·exact⟨⟨by omega,by omega⟩,qjq h3,qjq h4,by omega⟩
    ·omega
   ·omega
theorem qtV (hs:yu l){i:Nat}(hi:i<l.length){a:Int}(ha:0<=a/\a<3):co (cA l a i):=by
 obtain⟨h1,h2,h3⟩:=hs.2 i hi;unfold cA;rcases (show a=0\/a=1\/a=2 by omega) with rfl|rfl|rfl
 ·exact h1
 ·exact h2
 ·exact h3
theorem qhh {a:Int}{l m:R}(h:fcE a l m=0):(yi [.i a,.r l,.r m]).run=some (0,[.i (mnA m a-mxA l a),.i (mxA m a-mnA l a)]):=by obtain⟨ha,⟨l1,l2,l3⟩,⟨m1,m2,m3⟩,_⟩:=qmJ h;have c1:=q7u l1 l2 ha;have c2:=q7u m1 m2 ha;have x1:=qtV l3 (q4C (cA l a) l1) ha;have x2:=qtV l3 (q7j (cA l a) l1) ha;have y1:=qtV m3 (q4C (cA m a) m1) ha;have y2:=qtV m3 (q7j (cA m a) m1) ha;unfold co at *;have w1:zY .i64 (mnA m a) (mxA l a)=mnA m a-mxA l a:=zc ⟨by unfold mnA mxA;omega,by unfold mnA mxA;omega⟩;have w2:zY .i64 (mxA m a) (mnA l a)=mxA m a-mnA l a:=zc ⟨by unfold mnA mxA;omega,by unfold mnA mxA;omega⟩;rw[qtS];simp only[STD,c1,c2,w1,w2]
theorem qig (a:Int)(l m:R)(b:Bool):(zT [.i a,.r l,.r m,.b b]).run=some (0,if fcE a l m=0 then [.i (if b=true then mnA m a-mxA l a else mxA m a-mnA l a),.i 0] else [.i 0,.i (fcE a l m)]):=by
 rw[qvd];by_cases h:fcE a l m=0
 ·cases b
  ·simp only[STD,q5L,h,qhh h]
  ·simp only[STD,q5L,h,qhh h]
 ·simp only[STD,q5L,h]
theorem qrS (a:Int)(l m:R):(ym [.i a,.r l,.r m]).run=some (0,if fcE a l m=0 then [.i (mnA m a-mxA l a),.i (mxA m a-mnA l a),.i 0] else [.i 0,.i 0,.i (fcE a l m)]):=by
 rw[quV];by_cases h:fcE a l m=0
 ·simp only[STD,q5L,h,qhh h]
 ·simp only[STD,q5L,h]
theorem qHW {L:List Nat}{n:Nat}(lo:LO (raR E4) 3 L n):sO (raR E4) L=9:=by
 have su:=qDn qI4 (by decide) (by
  intro j k h1 h2;have e:j=0/\k=1:=by omega
  obtain⟨rfl,rfl⟩:=e;decide)
 obtain⟨e,_⟩:=qJk lo.sup su;rw[e];decide +kernel
theorem qJS (d:Int)(h1:¬d<0)(h2:¬100000<d):(q2M [.r E4,.i d]).run=some (0,[.b (decide ((36:Rat)<=((d*d:Int):Rat))),.i 0]):=by obtain⟨L,n,lo,_⟩:=qvP qGU;rw[(qNf qGU lo h1 h2).1];unfold pinB;rw[qHW lo,show (4:Rat)*9=36 by decide +kernel]
theorem q6j:(zA []).run=some (0,[.b true]):=by
 have a0:=qxL [[.i 0,.i 0,.i 0,.i 3,.i 4,.i 0]];have a1:=qFz [[.i 0,.i 0,.i 0,.i 3,.i 4,.i 0]] 4 5;have a2:=qFz [[.i 0,.i 0,.i 0,.i 3,.i 4,.i 0]] 6 7;have a4:=qig 0 [[.i 0,.i 0,.i 0],[.i 1,.i 5,.i 0]] [[.i 10,.i 0,.i 0],[.i 12,.i 5,.i 0]] true;have a5:=qig 0 [[.i 0,.i 0,.i 0],[.i 1,.i 5,.i 0]] [[.i 10,.i 0,.i 0],[.i 12,.i 5,.i 0]] false;have a6:=qrS 0 [[.i 0,.i 0,.i 0],[.i 1,.i 5,.i 0]] [[.i 10,.i 0,.i 0],[.i 12,.i 5,.i 0]];have a7:(q2M [.r [[.i 0,.i 0],[.i 6,.i 0],[.i 3,.i 1]],.i 6]).run=_:=qJS 6 (by decide) (by decide);have a8:(q2M [.r [[.i 0,.i 0],[.i 6,.i 0],[.i 3,.i 1]],.i 5]).run=_:=qJS 5 (by decide) (by decide);have v0:paE [[.i 0,.i 0,.i 0,.i 3,.i 4,.i 0]]=0:=by decide
 have v1:sqR [[.i 0,.i 0,.i 0,.i 3,.i 4,.i 0]] (List.length [[U.i 0,.i 0,.i 0,.i 3,.i 4,.i 0]])=[[.i 25]]:=rfl;have v2:fcE 0 [[.i 0,.i 0,.i 0],[.i 1,.i 5,.i 0]] [[.i 10,.i 0,.i 0],[.i 12,.i 5,.i 0]]=0:=by decide
 have v3:mnA [[.i 10,.i 0,.i 0],[.i 12,.i 5,.i 0]] 0=10:=by decide
 have v4:mxA [[.i 10,.i 0,.i 0],[.i 12,.i 5,.i 0]] 0=12:=by decide
 have v5:mnA [[.i 0,.i 0,.i 0],[.i 1,.i 5,.i 0]] 0=0:=by decide
 have v6:mxA [[.i 0,.i 0,.i 0],[.i 1,.i 5,.i 0]] 0=1:=by decide
 have k1:kpR [[.i 25]] 4 5=[.b true,.i 1,.i 0]:=rfl;have k2:kpR [[.i 25]] 6 7=[.b false,.i 0,.i 0]:=rfl;rw[if_pos v0,v0,v1] at a0;rw[if_pos v0,if_pos (by decide),v1,k1] at a1;rw[if_pos v0,if_pos (by decide),v1,k2] at a2;rw[if_pos v2,if_pos rfl,v3,v6] at a4;rw[if_pos v2,if_neg (by decide),v4,v5] at a5;rw[if_pos v2,v3,v6,v4,v5] at a6;rw[show decide ((36:Rat)<=((6*6:Int):Rat))=true by decide +kernel] at a7;rw[show decide ((36:Rat)<=((5*5:Int):Rat))=false by decide +kernel] at a8;have eq:=qCa (y:=[[.i 25]]) (by decide);rw[qvp];have w0:qm .i64 0 0=0:=by decide
 simp only[STD,a0,a1,a2,qxi,a4,a5,a6,a7,a8,eq,w0,show (10:Int)-1=9 by decide,show (12:Int)-0=12 by decide,and_self,Bool.not_false]
end Go.Eng

namespace Go.Eng
variable {n:Nat}
theorem qop(f:Nat->Int):∀{n i:Nat},i<n->f (qlf f n)<=f i
 | 0,_,h=>by omega
 | n+1,i,h=>by
  simp only[qlf];by_cases e:i=n
  ·subst e;split<;>omega
  ·have:=qop f (n:=n) (i:=i) (by omega);split<;>omega
theorem qim(f:Nat->Int):∀{n i:Nat},i<n->f i<=f (qjM f n)
 | 0,_,h=>by omega
 | n+1,i,h=>by
  simp only[qjM];by_cases e:i=n
  ·subst e;split<;>omega
  ·have:=qim f (n:=n) (i:=i) (by omega);split<;>omega
theorem qK7 {f:Nat->Int}{v:Int}(h0:0<n)(h1:∃i,i<n/\f i=v)(h2:∀i,i<n->v<=f i):f (qlf f n)=v:=by obtain⟨i,hi,e⟩:=h1;have a:=qop f hi;have b:=h2 _ (q4C f h0);omega
theorem qK9 {f:Nat->Int}{v:Int}(h0:0<n)(h1:∃i,i<n/\f i=v)(h2:∀i,i<n->f i<=v):f (qjM f n)=v:=by obtain⟨i,hi,e⟩:=h1;have a:=qim f hi;have b:=h2 _ (q7j f h0);omega
theorem qLj (f:Nat->Int)(i:Nat):qjL (f (qlf f i)) (f i)=f (qlf f (i+1)):=by
 simp only[qlf,qjL];by_cases c:f i<f (qlf f i)
 ·rw[if_pos c,if_pos c]
 ·rw[if_neg c,if_neg c]
theorem qL9 (f:Nat->Int)(i:Nat):quL (f (qjM f i)) (f i)=f (qjM f (i+1)):=by
 simp only[qjM,quL];by_cases c:f (qjM f i)<f i
 ·rw[if_pos c,if_pos (show f i>f (qjM f i) from c)]
 ·rw[if_neg c,if_neg (show ¬f i>f (qjM f i) from c)]
theorem qHo {s:R}(h0:0<s.length)(h:s.length<=100000):(vW [.r s]).run=some (0,[.i (cI s (qlf (fun i=>cI s i 0) s.length:Nat) 0),.i (cI s (qjM (fun i=>cI s i 0) s.length:Nat) 0)]):=by
 obtain⟨n,hn⟩:∃n,s.length=n+1:=⟨s.length-1,by omega⟩;have lr:qg s=((n+1:Nat):Int):=by unfold qg;rw[hn]
 obtain⟨f,hf⟩:∃f:Nat->Int,f=fun i:Nat=>cI s i 0:=⟨_,rfl⟩;have fe:∀i:Nat,cI s (i:Int) 0=f i:=fun i=>by rw[hf]
 have key:=qq (S:=q1z) (fun j=>[.r s,.i (f (qlf f (j+1))),.i (f (qjM f (j+1))),.i ((j+1:Nat):Int)])
  (0,[.i (f (qlf f (n+1))),.i (f (qjM f (n+1)))]) n (by omega) (fun j hj=>by
  have w:=vX (show j+1<n+1 by omega) (show n+1<9223372036854775808 by omega);rw[qiU];simp only[STD,lr,w,fe,qLj,qL9,show ((j+1:Nat):Int)<((n+1:Nat):Int) by omega,show (0:Int)<=((j+1:Nat):Int) by omega,and_self]) (by
  rw[qiU];simp only[STD,lr,show ¬((n+1:Nat):Int)<((n+1:Nat):Int) by omega])
 have a0:qlf f (0+1)=0:=by simp[qlf]
 have a1:qjM f (0+1)=0:=by simp[qjM]
 simp only[a0,a1] at key;have key':(qf q1z [.r s,.i (f 0),.i (f 0),.i 1]).run=_:=key;have f0:cI s 0 0=f 0:=fe 0;rw[qyp,fe,fe,<-hf,hn];simp only[STD,lr,f0,key',show (0:Int)<((n+1:Nat):Int) by omega,show (0:Int)<=0 by decide,and_self]
def alR(l:R)(a:Int)(n:Nat):R:=(List.range n).map fun i:Nat=>[.i (cA l a i)]
theorem qeY (l:R)(a:Int)(n:Nat):(alR l a n).length=n:=by unfold alR;rw[qO7,qOv]
theorem qID (l:R)(a:Int)(n:Nat):zD (alR l a n) [[.i (cA l a n)]]=alR l a (n+1):=by unfold alR zD;rw[qOO,qOk];rfl
theorem qGl (l:R)(a:Int){n i:Nat}(h:i<n):cI (alR l a n) (i:Int) 0=cA l a i:=by
 have e:(alR l a n).getD ((i:Int).toNat) []=[.i (cA l a i)]:=by unfold alR;rw[qO9,qNZ,qO8,qOD h];rfl
 conv=>lhs;unfold cI zH
 rw[e];rfl
theorem qou {l:R}(h:l.length<=64){a:Int}(ha:0<=a/\a<3):(vB [.r l,.i a]).run=some (0,[.r (alR l a l.length)]):=by
 have key:=qq (S:=q0h) (fun i=>[.r l,.i a,.i (i:Int),.r (alR l a i)]) (0,[.r (alR l a l.length)]) l.length (by omega) (fun i hi=>by
  have lr:qg (alR l a i)=(i:Int):=by unfold qg;rw[qeY]
  have e1:∀x:U,qg [[x]]=1:=fun _=>rfl;have ei:ql7 [cI l i 0,cI l i 1,cI l i 2] a=cA l a i:=rfl;rw[qge];simp only[STD,qjQ,lr,e1,ei,qID,ha.1,ha.2,vX hi (show l.length<9223372036854775808 by omega),show (i:Int)<l.length by omega,show (0:Int)<=i by omega,show qg l=(l.length:Int) from rfl,show (i:Int)+1<=17592186044416 by omega,and_self]) (by
  rw[qge];simp only[STD,qph])
 have key':(qf q0h [.r l,.i a,.i 0,.r []]).run=_:=key;rw[qtT];simp only[STD,key']
theorem qxk {l:R}(h0:0<l.length)(h:l.length<=64)(a:Int):(vW [.r (alR l a l.length)]).run=some (0,[.i (mnA l a),.i (mxA l a)]):=by
 have r:=qHo (s:=alR l a l.length) (by rw[qeY];exact h0) (by rw[qeY];omega);rw[r,qeY];obtain⟨f,hf⟩:∃f:Nat->Int,f=fun i:Nat=>cI (alR l a l.length) i 0:=⟨_,rfl⟩;have fe:∀i:Nat,i<l.length->f i=cA l a i:=fun i hi=>by rw[hf];exact qGl l a hi
 have e1:f (qlf f l.length)=mnA l a:=qK7 h0 ⟨_,q4C (cA l a) h0,fe _ (q4C (cA l a) h0)⟩ fun i hi=>by rw[fe i hi];exact qop (cA l a) hi
 have e2:f (qjM f l.length)=mxA l a:=qK9 h0 ⟨_,q7j (cA l a) h0,fe _ (q7j (cA l a) h0)⟩ fun i hi=>by rw[fe i hi];exact qim (cA l a) hi
 have k1:cI (alR l a l.length) (qlf (fun i:Nat=>cI (alR l a l.length) i 0) l.length:Nat) 0=mnA l a:=by rw[<-e1,hf]
 have k2:cI (alR l a l.length) (qjM (fun i:Nat=>cI (alR l a l.length) i 0) l.length:Nat) 0=mxA l a:=by rw[<-e2,hf]
 rw[k1,k2]
def szL(l m:R)(a:Int)(n:Nat):List Int:=(List.range n).flatMap fun i=>(List.range m.length).map fun k=>cA m a k-cA l a i
theorem qCr (l m:R)(a:Int)(n:Nat):szL l m a (n+1)=szL l m a n++(List.range m.length).map fun k=>cA m a k-cA l a n:=by unfold szL;rw[qOO,List.flatMap_append];simp
theorem qwH(l m:R)(a:Int):∀n,(szL l m a n).length=n*m.length
 | 0=>by simp[szL]
 | n+1=>by rw[qCr,qOh,qwH l m a n,qO7,qOv,Nat.succ_mul]
theorem qpj {l m:R}{a x:Int}:x∈szL l m a n↔∃i k,i<n/\k<m.length/\x=cA m a k-cA l a i:=by
 unfold szL;simp only[qPW,qOV,qOP];constructor
 ·rintro ⟨i,hi,k,hk,rfl⟩;exact⟨i,k,hi,hk,rfl⟩
 ·rintro ⟨i,k,hi,hk,rfl⟩;exact⟨i,hi,k,hk,rfl⟩
theorem qAG {l m:R}(hl:yu l)(hm:yu m){a:Int}(ha:0<=a/\a<3):(yh [.i a,.r l,.r m]).run=some (0,[.r (rI (szL l m a l.length))]):=by
 have l64:=hl.1;have m64:=hm.1;have inner:∀i,i<l.length->(qf uo [.r (alR l a l.length),.r (alR m a m.length),.i (i:Int),.i 0,.r (rI (szL l m a i))]).run=some (0,[.r (alR l a l.length),.r (alR m a m.length),.i (i:Int),.r (rI (szL l m a (i+1)))]):=fun i hi=>by
  have key:=qq (S:=uo) (fun k=>[.r (alR l a l.length),.r (alR m a m.length),.i (i:Int),.i (k:Int),.r (rI (szL l m a i++(List.range k).map fun k=>cA m a k-cA l a i))])
   (0,[.r (alR l a l.length),.r (alR m a m.length),.i (i:Int),.r (rI (szL l m a i++(List.range m.length).map fun k=>cA m a k-cA l a i))]) m.length (by omega) (fun k hk=>by
   have lr:qg (alR m a m.length)=(m.length:Int):=by unfold qg;rw[qeY]
   have ll:qg (alR l a l.length)=(l.length:Int):=by unfold qg;rw[qeY]
   have sl:qg (rI (szL l m a i++(List.range k).map fun k=>cA m a k-cA l a i))=((i*m.length+k:Nat):Int):=by rw[qet,qOh,qwH,qO7,qOv]
   have im:i*m.length<=64*64:=qOB (by omega) m64;have e1:∀x:U,qg [[x]]=1:=fun _=>rfl;have c1:=qtV hm hk ha;have c2:=qtV hl hi ha;unfold co at c1 c2;have w1:zY .i64 (cA m a k) (cA l a i)=cA m a k-cA l a i:=zc ⟨by omega,by omega⟩;have ap:zD (rI (szL l m a i++(List.range k).map fun k=>cA m a k-cA l a i)) [[.i (cA m a k-cA l a i)]]=rI (szL l m a i++(List.range (k+1)).map fun k=>cA m a k-cA l a i):=by rw[show ([[.i (cA m a k-cA l a i)]]:R)=rI [cA m a k-cA l a i] from rfl,qJN,qOu,qOO,qOk];rfl
   rw[qeB];simp only[STD,lr,ll,sl,e1,qGl m a hk,qGl l a hi,w1,ap,vX hk (show m.length<9223372036854775808 by omega),show (k:Int)<m.length by omega,show (0:Int)<=k by omega,show (i:Int)<l.length by omega,show (0:Int)<=i by omega,show ((i*m.length+k:Nat):Int)+1<=17592186044416 by omega,and_self]) (by
   have lr:qg (alR m a m.length)=(m.length:Int):=by unfold qg;rw[qeY]
   rw[qeB];simp only[STD,lr,show ¬(m.length:Int)<m.length by omega])
  rw[<-qCr] at key;have e0:szL l m a i++(List.range 0).map (fun k=>cA m a k-cA l a i)=szL l m a i:=by simp
  rw[e0] at key;exact key
 have key:=qq (S:=q03) (fun i=>[.r (alR l a l.length),.r (alR m a m.length),.i (i:Int),.r (rI (szL l m a i))]) (0,[.r (rI (szL l m a l.length))]) l.length (by omega) (fun i hi=>by
  have ll:qg (alR l a l.length)=(l.length:Int):=by unfold qg;rw[qeY]
  rw[qgw];simp only[STD,ll,inner i hi,vX hi (show l.length<9223372036854775808 by omega),show (i:Int)<l.length by omega]) (by
  have ll:qg (alR l a l.length)=(l.length:Int):=by unfold qg;rw[qeY]
  rw[qgw];simp only[STD,ll,show ¬(l.length:Int)<l.length by omega])
 have key':(qf q03 [.r (alR l a l.length),.r (alR m a m.length),.i 0,.r []]).run=_:=key;rw[qvj];simp only[STD,qou l64 ha,qou m64 ha,key']
theorem qrx {xs:List Int}{i:Nat}(h:i<xs.length):xs.getD i 0∈xs:=by rw[qNZ,qO5 h];exact qOI h
theorem qrs {xs:List Int}{x:Int}(h:x∈xs):∃i,i<xs.length/\xs.getD i 0=x:=by obtain⟨i,hi,e⟩:=List.mem_iff_getElem.1 h;exact⟨i,hi,by rw[qNZ,qO5 hi];exact e⟩
theorem qFI {l m:R}(hl:yu l)(hm:yu m)(l0:0<l.length)(m0:0<m.length)(a:Int):(vW [.r (rI (szL l m a l.length))]).run=some (0,[.i (mnA m a-mxA l a),.i (mxA m a-mnA l a)]):=by
 have l64:=hl.1;have m64:=hm.1;have ln:(rI (szL l m a l.length)).length=(szL l m a l.length).length:=qGY _;have lm:(szL l m a l.length).length=l.length*m.length:=qwH l m a _;have pos:0<l.length*m.length:=Nat.mul_pos l0 m0;have big:l.length*m.length<=64*64:=qOB l64 m64;have r:=qHo (s:=rI (szL l m a l.length)) (by omega) (by omega);obtain⟨f,hf⟩:∃f:Nat->Int,f=fun i:Nat=>cI (rI (szL l m a l.length)) i 0:=⟨_,rfl⟩;have fe:∀i:Nat,f i=(szL l m a l.length).getD i 0:=fun i=>by rw[hf];show cI _ _ _=_;rw[qCc,qO9]
 have i1:=q4C (cA l a) l0;have i2:=q7j (cA l a) l0;have k1:=q4C (cA m a) m0;have k2:=q7j (cA m a) m0;have e1:f (qlf f (szL l m a l.length).length)=mnA m a-mxA l a:=qK7 (by omega) (by
  obtain⟨i,hi,e⟩:=qrs (xs:=szL l m a l.length) (x:=mnA m a-mxA l a) (qpj.2 ⟨_,_,i2,k1,rfl⟩);exact⟨i,hi,by rw[fe,e]⟩) fun i hi=>by
  rw[fe];obtain⟨j,k,hj,hk,e⟩:=qpj.1 (qrx hi);rw[e];have:=qop (cA m a) hk;have:=qim (cA l a) hj;unfold mnA mxA;omega
 have e2:f (qjM f (szL l m a l.length).length)=mxA m a-mnA l a:=qK9 (by omega) (by
  obtain⟨i,hi,e⟩:=qrs (xs:=szL l m a l.length) (x:=mxA m a-mnA l a) (qpj.2 ⟨_,_,i1,k2,rfl⟩);exact⟨i,hi,by rw[fe,e]⟩) fun i hi=>by
  rw[fe];obtain⟨j,k,hj,hk,e⟩:=qpj.1 (qrx hi);rw[e];have:=qim (cA m a) hk;have:=qop (cA l a) hj;unfold mnA mxA;omega
 rw[r,ln];have q1:cI (rI (szL l m a l.length)) (qlf (fun i:Nat=>cI (rI (szL l m a l.length)) i 0) (szL l m a l.length).length:Nat) 0=mnA m a-mxA l a:=by rw[<-e1,hf]
 have q2:cI (rI (szL l m a l.length)) (qjM (fun i:Nat=>cI (rI (szL l m a l.length)) i 0) (szL l m a l.length).length:Nat) 0=mxA m a-mnA l a:=by rw[<-e2,hf]
 rw[q1,q2]
theorem qoj (a:Int):(q84 [.i a]).run=some (0,[.i (if a<0 then 1 else if 3<=a then 1 else 0)]):=by
 rw[qyz];by_cases h1:a<0
 ·simp only[STD,h1]
 ·by_cases h2:3<=a<;>simp only[STD,h1,h2]
theorem qxq (l:R):(q4U [.r l]).run=some (0,[.i (sdE l)]):=by rw[qxZ];unfold sdE;by_cases h:qg l=0<;>simp only[STD,qnE,h]
theorem q2Y (a:Int)(l m:R):(zB [.i a,.r l,.r m]).run=some (0,[.i (fcE a l m)]):=by
 rw[quX];unfold fcE;by_cases h1:a<0
 ·simp only[STD,qoj,h1,show ¬(1:Int)=0 by decide]
 by_cases h2:3<=a
 ·simp only[STD,qoj,h1,h2,show ¬(1:Int)=0 by decide]
 by_cases h3:sdE l=0
 case neg=>simp only[STD,qoj,h1,h2,qxq,h3]
 by_cases h4:sdE m=0
 case neg=>simp only[STD,qoj,h1,h2,qxq,h3,h4]
 obtain⟨l1,l2,ls⟩:=qjq h3;obtain⟨m1,m2,ms⟩:=qjq h4;have big:l.length*m.length<=64*64:=qOB l2 m2;have rs:=qAG ls ms (a:=a) ⟨by omega,by omega⟩;obtain⟨xs,hx⟩:∃xs,xs=szL l m a l.length:=⟨_,rfl⟩;have xl:xs.length=l.length*m.length:=by rw[hx,qwH]
 rw[<-hx] at rs;have rl:qg (rI xs)=(xs.length:Int):=qet xs;have k:=qjC (S:=jP) (fun i=>[.r (rI xs),.i (i:Int)]) (fun i=>if xs.getD i 0<=0 then 9 else 0) [] [] xs.length (by omega) (fun i hi=>by
  have e:cI (rI xs) (i:Int) 0=xs.getD i 0:=by rw[qCc,qO9]
  rw[qed];by_cases c:xs.getD i 0<=0
  ·simp only[STD,rl,e,c,show (i:Int)<xs.length by omega,show (0:Int)<=i by omega,show ¬(9:Int)=0 by decide,and_self]
  ·simp only[STD,rl,e,c,vX hi (show xs.length<9223372036854775808 by omega),show (i:Int)<xs.length by omega,show (0:Int)<=i by omega,and_self]) (by
  rw[qed];simp only[STD,rl,show ¬(xs.length:Int)<xs.length by omega])
 by_cases h5:mnA m a<=mxA l a
 ·have hf:q0m (fun i=>if xs.getD i 0<=0 then 9 else 0) xs.length=9:=by
   obtain⟨i,hi,e⟩:=qrs (xs:=xs) (x:=mnA m a-mxA l a) (by rw[hx];exact qpj.2 ⟨_,_,q7j (cA l a) l1,q4C (cA m a) m1,rfl⟩);have ne:q0m (fun i=>if xs.getD i 0<=0 then 9 else 0) xs.length≠0:=fun h=>by have h6:(if xs.getD i 0<=0 then (9:Int) else 0)=0:=qaI h i hi;rw[if_pos (by omega)] at h6;exact absurd h6 (by decide)
   unfold q0m at ne ⊢;cases hs:q6H (q9B fun i=>if xs.getD i 0<=0 then (9:Int) else 0) 0 xs.length with
   | none=>rw[hs] at ne;exact absurd rfl ne
   | some x=>
    obtain⟨j,_,_,hj⟩:=qaO hs;unfold q9B at hj;split at hj
    ·cases hj
    ·rename_i hh;cases hj;by_cases c:xs.getD j 0<=0
     ·simp only[c,if_true,qOW]
     ·exact absurd (if_neg c) hh
  rw[if_neg (by rw[hf];decide),hf] at k;have k':(qf jP [.r (rI xs),.i 0]).run=_:=k;simp only[STD,qoj,h1,h2,qxq,h3,h4,rs,k',zh k',h5,show ¬((1:Nat)=0) by decide]
 ·have hf:q0m (fun i=>if xs.getD i 0<=0 then (9:Int) else 0) xs.length=0:=qAi fun i hi=>by have hm:=qrx hi;rw[hx] at hm;obtain⟨j,k,hj,hk,e⟩:=qpj.1 hm;rw[<-hx] at e;have:=qop (cA m a) hk;have:=qim (cA l a) hj;refine if_neg ?_;rw[e];unfold mnA mxA at h5;omega
  rw[if_pos hf] at k;have k':(qf jP [.r (rI xs),.i 0]).run=_:=k;simp only[STD,qoj,h1,h2,qxq,h3,h4,rs,k',zh k',h5]
theorem qB0 {a:Int}{l m:R}(h:fcE a l m=0)(b:Bool):(uO [.i a,.r l,.r m,.b b]).run=some (0,[.i (if b=true then mnA m a-mxA l a else mxA m a-mnA l a)]):=by
 obtain⟨ha,⟨l1,l2,l3⟩,⟨m1,m2,m3⟩,_⟩:=qmJ h;have x1:=qtV l3 (q4C (cA l a) l1) ha;have x2:=qtV l3 (q7j (cA l a) l1) ha;have y1:=qtV m3 (q4C (cA m a) m1) ha;have y2:=qtV m3 (q7j (cA m a) m1) ha;unfold co at *;have w1:zY .i64 (mnA m a) (mxA l a)=mnA m a-mxA l a:=zc ⟨by unfold mnA mxA;omega,by unfold mnA mxA;omega⟩;have w2:zY .i64 (mxA m a) (mnA l a)=mxA m a-mnA l a:=zc ⟨by unfold mnA mxA;omega,by unfold mnA mxA;omega⟩;rw[qvo];cases b
 ·simp only[STD,qou l2 ha,qou m2 ha,qxk l1 l2,qxk m1 m2,w2]
 ·simp only[STD,qou l2 ha,qou m2 ha,qxk l1 l2,qxk m1 m2,w1]
theorem qFN (a:Int)(l m:R)(b:Bool):(km [.i a,.r l,.r m,.b b]).run=some (0,if fcE a l m=0 then [.i (if b=true then mnA m a-mxA l a else mxA m a-mnA l a),.i 0] else [.i 0,.i (fcE a l m)]):=by
 rw[qt2];by_cases h:fcE a l m=0
 ·simp only[STD,q2Y,h,qB0 h]
 ·simp only[STD,q2Y,h]
theorem qFG (a:Int)(l m:R):(q3F [.i a,.r l,.r m]).run=some (0,if fcE a l m=0 then [.i (mnA m a-mxA l a),.i (mxA m a-mnA l a),.i 0] else [.i 0,.i 0,.i (fcE a l m)]):=by
 rw[qsL];by_cases h:fcE a l m=0
 ·obtain⟨ha,⟨l1,l2,l3⟩,⟨m1,m2,m3⟩,_⟩:=qmJ h;simp only[STD,q2Y,h,qAG l3 m3 ha,qFI l3 m3 l1 m1]
 ·simp only[STD,q2Y,h]
theorem qFP (a:Int)(l m:R):∃b,(zO [.i a,.r l,.r m]).run=some (0,[.b b]):=by
 obtain⟨b1,h1⟩:=qvE l;obtain⟨b2,h2⟩:=qvE m;rw[qoF];cases b1
 ·exact⟨false,by simp only[STD,h1]⟩
 ·exact⟨b2,by simp only[STD,h1,h2]⟩
theorem que (x0:Int)(x1 x2:R)(x3:Bool)(_:IntKind.min .i64<=x0)(_:x0<=IntKind.max .i64)(_:UFit (.sl [(.int .i64),(.int .i64),(.int .i64)]) (.l x1))(_:UFit (.sl [(.int .i64),(.int .i64),(.int .i64)]) (.l x2)):(q0a [.i x0,.r x1,.r x2,.b x3]).run=some (0,[.b true]):=by
 obtain⟨b,hb⟩:=qFP x0 x1 x2;rw[qnc];cases b with
 | false=>simp only[STD,hb,q6j]
 | true=>
  have r1:=qig x0 x1 x2 x3;have r2:=qFN x0 x1 x2 x3;have r3:=qrS x0 x1 x2;have r4:=qFG x0 x1 x2;by_cases h:fcE x0 x1 x2=0
  ·rw[if_pos h] at r1 r2 r3 r4;simp only[STD,hb,r1,r2,r3,r4,q6j,q5L,q2Y];simp[ieq]
  ·rw[if_neg h] at r1 r2 r3 r4;simp only[STD,hb,r1,r2,r3,r4,q6j,q5L,q2Y];simp[ieq]
end Go.Eng

namespace Go.Eng
end Go.Eng

