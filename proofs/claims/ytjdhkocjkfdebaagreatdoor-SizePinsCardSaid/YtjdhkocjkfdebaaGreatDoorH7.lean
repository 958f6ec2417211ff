/- Texts of the proof, merged: what the code computes, and plain laws. No statement stands here. -/
import Derived.Test.YtjdhkocjkfdebaaGreatDoorH6
namespace Go.Eng
def nxt(P:Nat->Nat->Rat)(c i j:Nat):Rat:=if i=c then P c j/P c c else P i j-P i c*(P c j/P c c)
structure NxOk (P:Nat->Nat->Rat) (n C c:Nat):Prop where
 cell:∀i j,i<n->j<C->sm 100000 (P i j)
 quo:∀j,j<C->sm 100000 (P c j/P c c)
 prod:∀i j,i<n->j<C->sm 100000 (P i c*(P c j/P c c))
theorem qug(P:Nat->Nat->Rat){n C i j:Nat}(hi:i<n)(hj:j<C):cS (cR (qfQ (fun i j=>tQ (P i j)) n C) (i:Int) 0) (j:Int) 0=tQ (P i j):=by rw[qt4 _ hi];exact qjs (fun j=>tQ (P i j)) hj
theorem qyI(P:Nat->Nat->Rat){n C i:Nat}(hi:i<n):qg (cR (qfQ (fun i j=>tQ (P i j)) n C) (i:Int) 0)=(C:Int):=by rw[qt4 _ hi,q5G]
theorem qO8{P:Nat->Nat->Rat}{n C c i:Nat}(hc:c<n)(hcC:c<C)(hi:i<n)(hC:C<=1000)(_:n<=1000)(hp:P c c≠0)(ok:NxOk P n C c)(acc:R) :(qf zB [.i c,.r (qfQ (fun i j=>tQ (P i j)) n C),.i i,.i 0,.r acc,.r []]).run = some (0,[.i c,.r (qfQ (fun i j=>tQ (P i j)) n C),.i i,.r acc,.r (txR ((List.range C).map fun j=>tQ (nxt P c i j)))]):=by
 obtain⟨rw',hrw⟩:∃rw',rw'=qfQ (fun i j=>tQ (P i j)) n C:=⟨_,rfl⟩;have gl:qg rw'=(n:Int):=by rw[hrw,qbt]
 have gr:∀i,i<n->qg (cR rw' (i:Int) 0)=(C:Int):=fun i hi=>by rw[hrw];exact qyI P hi
 have gc:∀i j,i<n->j<C->cS (cR rw' (i:Int) 0) (j:Int) 0=tQ (P i j):=fun i j hi hj=>by rw[hrw];exact qug P hi hj
 rw[<-hrw];have key:=qu (S:=zB) (fun j=>[.i c,.r rw',.i i,.i (j:Int),.r acc,.r (txR ((List.range j).map fun j=>tQ (nxt P c i j)))]) (0,[.i c,.r rw',.i i,.r acc,.r (txR ((List.range C).map fun j=>tQ (nxt P c i j)))]) C (by omega) (fun j hj=>by
  have by1:=qFw hp (ok.cell c j hc hj) (ok.cell c c hc hcC);have ti1:=q3A (ok.cell i c hi hcC) (ok.quo j hj);have mi1:=q6T (ok.cell i j hi hj) (ok.prod i j hi hj);have e1:txR ((List.range (j+1)).map fun j=>tQ (nxt P c i j))=zE (txR ((List.range j).map fun j=>tQ (nxt P c i j))) [[.s (tQ (nxt P c i j))]]:=by rw[qic,qhQ,qPO,qP9];rfl
  have e3:∀s:Bs,qg [[U.s s]]=1:=fun _=>rfl;have b1:(i:Int)<n:=by omega
  have b2:(c:Int)<n:=by omega
  have b3:(j:Int)<C:=by omega
  have b4:(c:Int)<C:=by omega
  have z1:(0:Int)<=i:=by omega
  have z2:(0:Int)<=c:=by omega
  have z3:(0:Int)<=j:=by omega
  rw[q7j];by_cases e:i=c
  ·have en:nxt P c i j=P c j/P c c:=by unfold nxt;rw[if_pos e]
   have ei:(i:Int)=c:=by omega
   rw[en] at e1;simp only[STD,gl,gr c hc,gc c j hc hj,gc c c hc hcC,by1,e1,e3,ei,q5G,j5 hj (show C<9223372036854775808 by omega),b2,b3,b4,z2,z3,and_self,show (j:Int)+1<=8796093022208 by omega]
  ·have en:nxt P c i j=P i j-P i c*(P c j/P c c):=by unfold nxt;rw[if_neg e]
   have ei:¬(i:Int)=c:=by omega
   rw[en] at e1;simp only[STD,gl,gr i hi,gr c hc,gc c j hc hj,gc c c hc hcC,gc i j hi hj,gc i c hi hcC,by1,ti1,mi1,e1,e3,ei,q5G,j5 hj (show C<9223372036854775808 by omega),b1,b2,b3,b4,z1,z2,z3,and_self,show (j:Int)+1<=8796093022208 by omega]) (by
  rw[q7j];simp only[STD,gl,gr i hi,show (i:Int)<n by omega,show (0:Int)<=i by omega,show ¬(C:Int)<C by omega,and_self])
 exact key
theorem qO9{P:Nat->Nat->Rat}{n C c:Nat}(hc:c<n)(hcC:c<C)(hC:C<=1000)(hn:n<=1000)(hp:P c c≠0)(ok:NxOk P n C c) :(qf wA [.i c,.r (qfQ (fun i j=>tQ (P i j)) n C),.i 0,.r []]).run=some (0,[.i c,.r (qfQ (fun i j=>tQ (nxt P c i j)) n C)]):=by
 obtain⟨rw',hrw⟩:∃rw',rw'=qfQ (fun i j=>tQ (P i j)) n C:=⟨_,rfl⟩;have gl:qg rw'=(n:Int):=by rw[hrw,qbt]
 have inner:∀i,i<n->∀acc:R,(qf zB [.i c,.r rw',.i i,.i 0,.r acc,.r []]).run=some (0,[.i c,.r rw',.i i,.r acc,.r (txR ((List.range C).map fun j=>tQ (nxt P c i j)))]):=fun i hi acc=>by rw[hrw];exact qO8 hc hcC hi hC hn hp ok acc
 rw[<-hrw];have key:=qu (S:=wA) (fun i=>[.i c,.r rw',.i (i:Int),.r (qfQ (fun i j=>tQ (nxt P c i j)) i C)]) (0,[.i c,.r (qfQ (fun i j=>tQ (nxt P c i j)) n C)]) n (by omega) (fun i hi=>by
  have es:=qB4 (fun i j=>tQ (nxt P c i j)) i C;have e4:∀x:R,qg [[U.l x]]=1:=fun _=>rfl;rw[q76];simp only[STD,gl,inner i hi,es,e4,qbt,j5 hi (show n<9223372036854775808 by omega),show (i:Int)<n by omega,show (i:Int)+1<=5864062014805 by omega]) (by
  rw[q76];simp only[STD,gl,show ¬(n:Int)<n by omega])
 exact key
theorem qOr{P:Nat->Nat->Rat}{n:Nat}(hn:n<=1000) :(qf wz [.i 0,.r (qfQ (fun i j=>tQ (P i j)) n (n+1)),.r []]).run=some (0,[.r (txR ((List.range n).map fun i=>tQ (P i n)))]):=by
 obtain⟨rw',hrw⟩:∃rw',rw'=qfQ (fun i j=>tQ (P i j)) n (n+1):=⟨_,rfl⟩;have gl:qg rw'=(n:Int):=by rw[hrw,qbt]
 have gr:∀i,i<n->qg (cR rw' (i:Int) 0)=((n+1:Nat):Int):=fun i hi=>by rw[hrw];exact qyI P hi
 have gc:∀i,i<n->cS (cR rw' (i:Int) 0) (n:Int) 0=tQ (P i n):=fun i hi=>by rw[hrw];exact qug P hi (by omega)
 rw[<-hrw];have key:=qu (S:=wz) (fun i=>[.i (i:Int),.r rw',.r (txR ((List.range i).map fun i=>tQ (P i n)))]) (0,[.r (txR ((List.range n).map fun i=>tQ (P i n)))]) n (by omega) (fun i hi=>by
  have e1:txR ((List.range (i+1)).map fun i=>tQ (P i n))=zE (txR ((List.range i).map fun i=>tQ (P i n))) [[.s (tQ (P i n))]]:=by rw[qic,qhQ,qPO,qP9];rfl
  have e3:∀s:Bs,qg [[U.s s]]=1:=fun _=>rfl;rw[q6N];simp only[STD,gl,gr i hi,gc i hi,e1,e3,q5G,j5 hi (show n<9223372036854775808 by omega),show (i:Int)<n by omega,show (0:Int)<=i by omega,show (0:Int)<=n by omega,show (n:Int)<((n+1:Nat):Int) by omega,show (i:Int)+1<=8796093022208 by omega,and_self]) (by
  rw[q6N];simp only[STD,gl,show ¬(n:Int)<n by omega])
 exact key
theorem qDy(G:Nat->R){n i:Nat}(hi:i<n)(x:R):qcN ((List.range n).map fun k=>[U.l (G k)]) (i:Int) 0 [.l x]=(List.range n).map fun k=>[U.l (if k=i then x else G k)]:=by
 have e:((List.range n).map fun k=>[U.l (G k)]).getD i []=[U.l (G i)]:=by rw[qOM,qOU,qPp hi];rfl
 unfold qcN;rw[qOX,e];show List.set _ i [U.l x]=_;apply qPC;intro k;by_cases hk:k<n
 ·by_cases hki:k=i
  ·subst hki;rw[qOZ (by rw[qOV,qPm];exact hk),qOU,qPp hk];simp
  ·rw[qOO (fun h=>hki h.symm),qOU,qOU,qPp hk];simp[hki]
 ·rw[qP7 (by rw[qPY,qOV,qPm];omega),qP7 (by rw[qOV,qPm];omega)]
theorem qIQ(F:Nat->Nat->Bs){n C c i:Nat}(hc:c<n)(hi:i<n) :qcN (qcN (qfQ F n C) (c:Int) 0 [.l (txR ((List.range C).map (F i)))]) (i:Int) 0 [.l (txR ((List.range C).map (F c)))]=qfQ (fun k=>F (swI c i k)) n C:=by
 unfold qfQ;rw[qDy (fun k=>txR ((List.range C).map (F k))) hc,qDy _ hi];apply qPV;intro k _;unfold swI;by_cases h1:k=i
 ·subst h1;by_cases h2:k=c
  ·subst h2;simp
  ·simp[h2]
 ·by_cases h2:k=c
  ·subst h2;simp[h1]
  ·simp[h1,h2]
theorem qE3{α:Type}(P:Nat->Nat->Rat)(c n:Nat)(G:Nat->α):∀(m i:Nat),c+i+m=n->q7V (fun k=>if P (c+k) c=0 then none else some (G (c+k))) i m=if pvI P c n m=n then none else some (G (pvI P c n m))
 | 0,i,h=>by simp[q7V,pvI]
 | m+1,i,h=>by
  have e:n-(m+1)=c+i:=by omega
  simp only[q7V,pvI,e];by_cases h0:P (c+i) c=0
  ·rw[if_pos h0,if_pos h0];exact qE3 P c n G m (i+1) (by omega)
  ·rw[if_neg h0,if_neg h0,if_neg (by omega)]
theorem qHO(l:R)(i:Int)(off:Nat)(us:List U):qg (qcN l i off us)=qg l:=by unfold qcN qg;rw[qPY]
theorem qMI(q:Rat):(seq (tQ q) [48]=true)=(q=0):=by rw[zQ,q8E]
theorem qG3{P:Nat->Nat->Rat}{n C c:Nat}(hc:c<n)(hcC:c<C)(hn:n<=1000) :(q2O [.r (qfQ (fun i j=>tQ (P i j)) n C),.i c]).run = if pvI P c n (n-c)=n then some (0,[.r [],.b false]) else some (0,[.r (qfQ (fun i j=>tQ (P (swI c (pvI P c n (n-c)) i) j)) n C),.b true]):=by
 obtain⟨x,hx⟩:∃x,x=qfQ (fun i j=>tQ (P i j)) n C:=⟨_,rfl⟩;have gl:qg x=(n:Int):=by rw[hx,qbt]
 have gr:∀i,i<n->qg (cR x (i:Int) 0)=(C:Int):=fun i hi=>by rw[hx];exact qyI P hi
 have gc:∀i j,i<n->j<C->cS (cR x (i:Int) 0) (j:Int) 0=tQ (P i j):=fun i j hi hj=>by rw[hx];exact qug P hi hj
 have sw:∀i,i<n->qcN (qcN x (c:Int) 0 [.l (cR x (i:Int) 0)]) (i:Int) 0 [.l (cR x (c:Int) 0)]=qfQ (fun k j=>tQ (P (swI c i k) j)) n C:=fun i hi=>by rw[hx,qt4 _ hi,qt4 _ hc];exact qIQ (fun i j=>tQ (P i j)) hc hi
 have key:=kt (S:=jk) (fun k=>[.r x,.i c,.i ((c+k:Nat):Int),.r x]) (fun k=>if P (c+k) c=0 then none else some (1,[PV.b true,.r (qfQ (fun i j=>tQ (P (swI c (c+k) i) j)) n C)])) (0,[]) (n-c) (by omega)
  (fun k hk hf=>by
   have h0:P (c+k) c=0:=qPn fun h=>by rw[if_neg h] at hf;cases hf
   have w1:qo .i64 ((c+k:Nat):Int) 1=((c+(k+1):Nat):Int):=j5 (show c+k<9223372036854775807 by omega) (by omega);rw[q7p];simp only[STD,gl,gr (c+k) (by omega),gc (c+k) c (by omega) hcC,qMI,h0,w1,show ((c+k:Nat):Int)<n by omega,show (0:Int)<=((c+k:Nat):Int) by omega,show (0:Int)<=c by omega,show (c:Int)<C by omega,and_self,not_true])
  (fun k r hk hf=>by
   have h0:¬P (c+k) c=0:=fun h=>by rw[if_pos h] at hf;cases hf
   rw[if_neg h0] at hf;cases hf;rw[q7p];simp only[STD,gl,gr (c+k) (by omega),gc (c+k) c (by omega) hcC,qMI,h0,qHO,sw (c+k) (by omega),show ((c+k:Nat):Int)<n by omega,show (0:Int)<=((c+k:Nat):Int) by omega,show (0:Int)<=c by omega,show (c:Int)<C by omega,show (c:Int)<n by omega,and_self])
  (by rw[q7p];simp only[STD,gl,show ¬((c+(n-c):Nat):Int)<n by omega])
 have sc:q7V (fun k=>if P (c+k) c=0 then none else some (1,[PV.b true,.r (qfQ (fun i j=>tQ (P (swI c (c+k) i) j)) n C)])) 0 (n-c)=if pvI P c n (n-c)=n then (none:Option (Nat×List PV)) else some (1,[PV.b true,.r (qfQ (fun i j=>tQ (P (swI c (pvI P c n (n-c)) i) j)) n C)]):=
  qE3 P c n (fun i=>((1:Nat),[PV.b true,.r (qfQ (fun k j=>tQ (P (swI c i k) j)) n C)])) (n-c) 0 (by omega)
 rw[sc] at key;have ra:zE [] x=x:=rfl;rw[<-hx,qsw];by_cases hp:pvI P c n (n-c)=n
 ·rw[if_pos hp] at key ⊢;have key':(qf jk [.r x,.i c,.i c,.r x]).run=some (0,[]):=key;simp only[STD,gl,ra,key',zm key',show qg []=0 from rfl,show (0:Int)+n<=5864062014805 by omega]
 ·rw[if_neg hp] at key ⊢;have key':(qf jk [.r x,.i c,.i c,.r x]).run=some (1,[PV.b true,.r (qfQ (fun k j=>tQ (P (swI c (pvI P c n (n-c)) k) j)) n C)]):=key;simp only[STD,gl,ra,key',zm key',show qg []=0 from rfl,show (0:Int)+n<=5864062014805 by omega];rfl
theorem qDf(c i:Nat):swI c i c=i:=by unfold swI;rw[if_pos rfl]
theorem qMR(c i0:Nat)(M:Nat->Nat->Rat):nxt (fun i j=>M (swI c i0 i) j) c=gs c i0 M:=by rw[<-qKp];funext i j;unfold nxt gsP;simp only[qDf]
theorem qMw{P:Nat->Nat->Rat}{n C c a b:Nat}(hb:BM n C a b P)(hc:c<n)(hcC:c<C)(hp:P c c≠0)(ha:2*a+3*b<=90000):NxOk P n C c/\BM n C (2*a+2*b+1) (a+3*b) (nxt P c):=by
 have q:∀j,j<C->bnd (a+b) (b+a) (P c j/P c c):=fun j hj=>bnd.div hp (hb c j hc hj) (hb c c hc hcC);have m:∀i j,i<n->j<C->bnd (a+(a+b)) (b+(b+a)) (P i c*(P c j/P c c)):=fun i j hi hj=>(hb i c hi hcC).mul (q j hj);refine⟨⟨fun i j hi hj=>(hb i j hi hj).sm (by omega) (by omega),fun j hj=>(q j hj).sm (by omega) (by omega),fun i j hi hj=>(m i j hi hj).sm (by omega) (by omega)⟩,fun i j hi hj=>?_⟩;unfold nxt;by_cases e:i=c
 ·rw[if_pos e];exact(q j hj).mono (by omega) (by omega)
 ·rw[if_neg e];exact((hb i j hi hj).sub (m i j hi hj) (K:=2*a+2*b+1) (by omega) (by omega)).mono (qON _) (by omega)
theorem qKc(k:Nat)(h:k<=3):2*(bs k).1+3*(bs k).2<=90000:=by rcases (show k=0\/k=1\/k=2\/k=3 by omega) with rfl|rfl|rfl|rfl<;>decide
theorem qOE{n:Nat}(hn:n<=3){M0:Nat->Nat->Rat}(hb0:BM n (n+1) 13 1 M0) :(∃N,q5H n (pvQ n) n 0 M0=some N/\(qf zN [.i 0,.r (qfQ (fun i j=>tQ (M0 i j)) n (n+1))]).run=some (0,[.r (qfQ (fun i j=>tQ (N i j)) n (n+1))])) \/(q5H n (pvQ n) n 0 M0=none/\(qf zN [.i 0,.r (qfQ (fun i j=>tQ (M0 i j)) n (n+1))]).run=some (1,[.b false])):=by
 have key:=jn (S:=zN) (n:=n)
  (fun k ps=>∃c M,c+k=n/\ps=[.i (c:Int),.r (qfQ (fun i j=>tQ (M i j)) n (n+1))]/\BM n (n+1) (bs c).1 (bs c).2 M/\q5H n (pvQ n) k c M=q5H n (pvQ n) n 0 M0)
  (fun j qs=>(j=0/\∃N,q5H n (pvQ n) n 0 M0=some N/\qs=[.r (qfQ (fun i j=>tQ (N i j)) n (n+1))])\/(j=1/\q5H n (pvQ n) n 0 M0=none/\qs=[.b false])) (by omega)
  (fun k ps hk hI=>by
   obtain⟨c,M,h1,rfl,hb,hg⟩:=hI;rw[qj3];cases k with
   | zero=>
    right;refine⟨0,[.r (qfQ (fun i j=>tQ (M i j)) n (n+1))],?_,.inl ⟨rfl,M,hg.symm,rfl⟩⟩;have:c=n:=by omega
    subst this;simp only[STD,qbt,show ¬(c:Int)<c by omega]
   | succ k=>
    have hc:c<n:=by omega
    have sw:=qG3 (P:=M) (C:=n+1) hc (by omega) (by omega);have hcn:(c:Int)<n:=by omega
    by_cases hp:pvI M c n (n-c)=n
    ·right;rw[if_pos hp] at sw;have g0:q5H n (pvQ n) (k+1) c M=none:=by simp only[q5H,pvQ,if_pos hp]
     refine⟨1,[.b false],?_,.inr ⟨rfl,by rw[<-hg,g0],rfl⟩⟩;simp only[STD,qbt,sw,hcn]
    ·left;rw[if_neg hp] at sw;obtain⟨i0,hi0⟩:∃i0,i0=pvI M c n (n-c):=⟨_,rfl⟩;rw[<-hi0] at sw hp;have cs:=qjU M c n (n-c) (by omega);rw[<-hi0] at cs;obtain⟨p1,p2,p3⟩:n-(n-c)<=i0/\i0<n/\M i0 c≠0:=by
      rcases cs with⟨e,_⟩|e
      ·exact absurd e hp
      ·exact e
     have hbP:BM n (n+1) (bs c).1 (bs c).2 fun i j=>M (swI c i0 i) j:=fun i j hi hj=>hb _ j (qxe hc p2 hi) hj;have hpc:(fun i j=>M (swI c i0 i) j) c c≠0:=by show M (swI c i0 c) c≠0;rw[qDf];exact p3
     obtain⟨ok,bn⟩:=qMw hbP hc (by omega) hpc (qKc c (by omega));have w:=qO9 hc (show c<n+1 by omega) (by omega) (by omega) hpc ok;rw[qMR] at w bn;refine⟨k,[.i ((c+1:Nat):Int),.r (qfQ (fun i j=>tQ (gs c i0 M i j)) n (n+1))],by omega,?_,c+1,gs c i0 M,by omega,rfl,bn,?_⟩
     ·simp only[STD,qbt,sw,w,hcn,j5 hc (show n<9223372036854775808 by omega)]
     ·rw[<-hg];simp only[q5H,pvQ];rw[<-hi0,if_neg hp])
  (ps:=[.i ((0:Nat):Int),.r (qfQ (fun i j=>tQ (M0 i j)) n (n+1))]) ⟨0,M0,by omega,rfl,hb0,rfl⟩
 obtain⟨j,qs,h1,⟨rfl,N,h2,rfl⟩|⟨rfl,h2,rfl⟩⟩:=key
 ·exact .inl ⟨N,h2,h1⟩
 ·exact .inr ⟨h2,h1⟩
theorem qK6{l:R}{n:Nat}(h:uN l)(hl:l.length=n+1):BM n (n+1) 13 1 (qvH (pV l) n):=fun i j hi hj=>by
 unfold qvH;by_cases e:j=n
 ·rw[if_pos e,<-qGk];have bd:=qCx h (i:=i+1) (k:=i+1) (by omega) (by omega);exact qqg (qMj (by omega) (by omega)) (by omega)
 ·rw[if_neg e,<-qtb];have bd:=qCx h (i:=i+1) (k:=j+1) (by omega) (by omega);exact qqg (qMj (by unfold gI2;omega) (by omega)) (by omega)
theorem qDt{l:R}{n:Nat}(h:uN l)(hl:l.length=n+1)(hn:n<=3){t:Nat->Rat}(ht:Bl n (pV l) t):(∀j,j<n+1->bnd 36 36 (wts t n j))/\CB (cen (n+1) (wts t n) (pV l)):=by
 rcases qDP h hl hn with⟨t',h1,h2,h3,_⟩|⟨h1,_⟩
 ·have e:=qoo h1 ht;rw[qk1 e] at h3;exact⟨fun j hj=>by rw[<-e j hj];exact h2 j hj,h3⟩
 ·exact absurd ht.ind h1
theorem qjK{l:R}{n:Nat}(h:uN l)(hl:l.length=n+1)(hn:n<=3) :(∃t,Bl n (pV l) t/\(vE [.r l]).run=some (0,[.r (txR ((List.range (n+1)).map fun j=>tQ (wts t n j))),.b true])) \/(¬Ind (n+1) (pV l)/\(vE [.r l]).run=some (0,[.r [],.b false])):=by
 have r0:=qOG h hl;rcases qOE hn (qK6 h hl) with⟨N,g,r1⟩|⟨g,r1⟩
 ·left;have bl:=qHP (qA5 n) g;have tb:∀k,k<n->bnd 36 36 (N k n):=fun k hk=>by have:=(qDt h hl hn bl).1 (k+1) (by omega);unfold wts at this;rw[if_neg (by omega)] at this;exact this
  have r2:=qOr (P:=N) (n:=n) (by omega);have r3:=qxX hn tb;have r4:=q6T (qzu.sm (K:=100000) (by omega) (by omega)) ((qtp tb n (qON _)).sm (K:=100000) (by omega) (by omega));rw[show tQ 1=([49]:Bs) by decide] at r4;have e5:∀s:Bs,qg [[U.s s]]=1:=fun _=>rfl;have e6:=qE5 n fun i=>N i n;refine⟨_,bl,?_⟩;rw[qiN];simp only[STD,r0,r1,zm r1,r2,r3,r4,e5,e6,q5G,show (1:Int)+n<=8796093022208 by omega]
 ·right;refine⟨qGJ (qA5 n) g,?_⟩;rw[qiN];simp only[STD,r0,r1,zm r1];rw[if_neg (by decide)]
theorem qrO{l:R}{n:Nat}(h:uN l)(hl:l.length=n+1)(hn:n<=3) :(∃t,Bl n (pV l) t/\(ku [.r l]).run=some (0,[.s (tQ (cen (n+1) (wts t n) (pV l)).x),.s (tQ (cen (n+1) (wts t n) (pV l)).y),.s (tQ (cen (n+1) (wts t n) (pV l)).z),.s (tQ (d2 (cen (n+1) (wts t n) (pV l)) (pV l 0))),.b true])) \/(¬Ind (n+1) (pV l)/\(ku [.r l]).run=some (0,[.s [],.s [],.s [],.s [],.b false])):=by
 have hL:qg l=((n+1:Nat):Int):=by unfold qg;rw[hl]
 rcases qjK h hl hn with⟨t,bl,r0⟩|⟨g,r0⟩
 ·left;obtain⟨wb,cb⟩:=qDt h hl hn bl;have r1:=qwi h hl (by omega) wb;refine⟨t,bl,?_⟩;obtain⟨c,hc⟩:∃c,c=cen (n+1) (wts t n) (pV l):=⟨_,rfl⟩;rw[<-hc] at r1 cb ⊢;obtain⟨z1,z2,z3⟩:=h.row0 (show 0<l.length by omega);have r2:(yJ [.s (tQ c.x),.s (tQ c.y),.s (tQ c.z),.i (cI l 0 0),.i (cI l 0 1),.i (cI l 0 2)]).run=some (0,[.s (tQ (d2 c (pV l 0)))]):=qrG cb z1 z2 z3;rw[qq2];simp only[STD,r0,r1,r2,hL,show (0:Int)<((n+1:Nat):Int) by omega,show (0:Int)<=0 by omega,and_self]
 ·right;refine⟨g,?_⟩;rw[qq2];simp only[STD,r0]
theorem qN5{q:Rat}:(0<=sgq q)=(0<=q):=by apply propext;rw[<-Int.not_lt,qEY,Rat.not_lt]
def nnB(w:Nat->Rat):Nat->Bool
 | 0=>true
 | k+1=>nnB w k&&decide (0<=w k)
theorem qH0(w:Nat->Rat):∀k,nnB w k=true↔∀j,j<k->0<=w j
 | 0=>⟨fun _ j hj=>by omega,fun _=>rfl⟩
 | k+1=>by
  rw[nnB,qP0,qH0 w k,decide_eq_true_iff];exact⟨fun h j hj=>if e:j=k then e▸h.2 else h.1 j (by omega),fun h=>⟨fun j hj=>h j (by omega),h k (by omega)⟩⟩
theorem qOj{n:Nat}(hn:n<=1000){w:Nat->Rat}(hw:∀k,k<n->sm 100000 (w k)) :(qf uQ [.r (txR ((List.range n).map fun k=>tQ (w k))),.b true,.i 0]).run=some (0,[.b (nnB w n)]):=by
 obtain⟨x,hx⟩:∃x,x=txR ((List.range n).map fun k=>tQ (w k)):=⟨_,rfl⟩;have lx:qg x=(n:Int):=by rw[hx,q5G]
 have gx:∀k,k<n->cS x (k:Int) 0=tQ (w k):=fun k hk=>by rw[hx];exact qjs (fun k=>tQ (w k)) hk
 rw[<-hx];have key:=qu (S:=uQ) (fun k=>[.r x,.b (nnB w k),.i (k:Int)]) (0,[.b (nnB w n)]) n (by omega) (fun k hk=>by
  have e:ile 0 (sgq (w k))=decide (0<=w k):=decide_eq_decide.2 (by rw[qN5]);rw[qgS,nnB];cases nnB w k with
  | false=>simp only[STD,lx,j5 hk (show n<9223372036854775808 by omega),show (k:Int)<n by omega,Bool.false_and]
  | true=>simp only[STD,lx,gx k hk,qwu (hw k hk),e,j5 hk (show n<9223372036854775808 by omega),show (k:Int)<n by omega,show (0:Int)<=k by omega,and_self,Bool.true_and]) (by
  rw[qgS];simp only[STD,lx,show ¬(n:Int)<n by omega])
 exact key
theorem qwn{l:R}{n:Nat}(h:uN l)(hl:l.length=n+1)(hn:n<=3){t:Nat->Rat}(ht:Bl n (pV l) t) :(q4W [.r l]).run=some (0,[.b (nnB (wts t n) (n+1))]):=by
 rcases qjK h hl hn with⟨t',bl,r0⟩|⟨g,r0⟩
 ·have e:=qoo bl ht;have wb:=(qDt h hl hn ht).1;have el:((List.range (n+1)).map fun j=>tQ (wts t' n j))=(List.range (n+1)).map fun j=>tQ (wts t n j):=qPV fun j hj=>by rw[e j (qPH.1 hj)]
  rw[el] at r0;have r1:=qOj (n:=n+1) (by omega) (w:=wts t n) fun k hk=>(wb k hk).sm (by omega) (by omega);rw[quK];simp only[STD,r0,r1]
 ·exact absurd ht.ind g
variable {L:List Nat}{l:R}{n:Nat}
theorem qDO {m:Nat}{p:Nat->V3}{L:Nat->Nat}{t:Nat->Rat}(h:qBS p m n L t)(lt:∀j,j<n+1->L j<m)(asc:Asc (n+1) L) :Sup m p (n+1) L (wts t n) (d2 (cen (n+1) (wts t n) fun j=>p (L j)) (p (L 0))):=qK1 h.1 lt asc h.2.1 h.2.2
theorem qJ8 {m:Nat}{p:Nat->V3}{L:Nat->Nat}{u:Nat->Rat}{s:Rat}(h:Sup m p (n+1) L u s):qBS p m n L (fun j=>u (j+1)):=by
 obtain⟨b,e⟩:=qJp h;have ec:=qk1 (c:=fun j=>p (L j)) e;refine⟨b,fun j hj=>?_,fun i hi=>?_⟩
 ·rw[<-e j hj];exact h.nn j hj
 ·rw[<-ec,h.eq 0 (by omega)];exact h.all i hi
noncomputable def kN(l:R)(L:List Nat):Bool:=@decide (∃t,qBS (pV l) l.length (L.length-1) (Lf l L) t) (Classical.propDecidable _)
theorem ql9:kN l L=true↔∃t,qBS (pV l) l.length (L.length-1) (Lf l L) t:=by unfold kN;exact @decide_eq_true_iff _ (Classical.propDecidable _)
theorem qn6:kN l L=false↔∀t,¬qBS (pV l) l.length (L.length-1) (Lf l L) t:=by unfold kN;rw[@decide_eq_false_iff_not _ (Classical.propDecidable _)];exact⟨fun h t ht=>h ⟨t,ht⟩,fun h ⟨t,ht⟩=>h t ht⟩
def Mst(l:R)(m:Nat):Prop:=m=4\/m=3/\∀k,k<l.length->(pV l k).z=0
theorem qF8 (hl:0<l.length){m:Nat}(hm:Mst l m):∃L n,qiQ (kN l) l.length 1 m=some L/\L.length=n+1/\n<m/\n<=3/\(∀a,a∈L->a<l.length)/\L.Pairwise (·<·)/\∃t,qBS (pV l) l.length n (Lf l L) t:=by
 cases e:qiQ (kN l) l.length 1 m with
 | some L=>
  obtain⟨h1,j,h2,h3,h4⟩:=qvA e;obtain⟨q1,q2,q3⟩:=qnp.1 h4;have hm4:m<=4:=by rcases hm with e|e<;>omega
  obtain⟨t,ht⟩:=ql9.1 h1;rw[q1] at ht;exact⟨L,j-1,rfl,by omega,by omega,by omega,q2,q3,t,ht⟩
 | none=>
  exfalso;obtain⟨L,u,s,h1,h2,h3,h4,h5,h6⟩:=qIY (pV l) hl l.length;have hm4:L.length<1+m:=by
   rcases hm with e|⟨e,hz⟩
   ·omega
   ·have:=h3 hz;omega
  have:=qtw e L.length (by omega) hm4 L (qnp.2 ⟨rfl,h4,h5⟩);obtain⟨n,hn⟩:∃n,L.length=n+1:=⟨L.length-1,by omega⟩;rw[hn] at h6;refine qn6.1 this (fun j=>u (j+1)) ?_;rw[show L.length-1=n from by omega];exact qJ8 h6
theorem qio (hs:uN l)(hL:L.length=n+1)(hn:n<=3)(hlt:∀k,k∈L->k<l.length) :(q1D [.r l,.r (rN L)]).run=some (0,[.b (kN l L)]):=by
 have ch:=qm5 (l:=l) (L:=L) (by omega) hlt;have sp:=quZ hs (show L.length<=64 by omega) hlt;have hl:(chR l L).length=n+1:=by rw[qkU];exact hL
 have key:=qrO sp hl hn;have eL:L.length-1=n:=by omega
 rcases key with⟨t,h1,h4⟩|⟨h1,h4⟩
 ·obtain⟨wb,cb⟩:=qDt sp hl hn h1;have i1:=qwn sp hl hn h1;rw[qBm] at h1 cb h4;have l0:Lf l L 0<l.length:=by unfold Lf;rw[qOM,qOS (show 0<L.length by omega)];exact hlt _ (qPx _)
  have fb:=qyG hs cb l0;obtain⟨b2,j1,j2⟩:=qsM hs cb fb;have iff:kN l L=(nnB (wts t n) (n+1)&&b2):=by
   rw[Bool.eq_iff_iff,ql9,eL,qP0,qH0,j2];constructor
   ·rintro ⟨t',ht'⟩;have hh:=qAL ht' h1;exact⟨hh.2.1,hh.2.2⟩
   ·rintro ⟨h2,h3⟩;exact⟨t,h1,h2,h3⟩
  rw[iff,qgo];cases hb:nnB (wts t n) (n+1) with
  | false=>
   rw[hb] at i1;simp only[STD,ch,h4,i1,Bool.false_and]
  | true=>
   rw[hb] at i1;simp only[STD,ch,h4,i1,j1,Bool.true_and]
 ·rw[qBm] at h1;have e:kN l L=false:=qn6.2 fun t ht=>by rw[eL] at ht;exact h1 ht.1.ind
  rw[e,qgo];simp only[STD,ch,h4]
end Go.Eng

namespace Go.Eng
variable {j:Nat}
def lsR(ls:List (List Nat)):R:=ls.map fun L=>[U.l (rN L)]
theorem q0V (ls:List (List Nat)):qg (lsR ls)=(ls.length:Int):=by unfold lsR qg;rw[qOV]
theorem qkD {ls:List (List Nat)}{L:List Nat}(h:ls[j]?=some L):cR (lsR ls) (j:Int) 0=rN L:=by
 have e:(lsR ls).getD ((j:Int).toNat) []=[U.l (rN L)]:=by unfold lsR;rw[qOX,qOM,qOU,h];rfl
 unfold cR zJ;rw[e];rfl
theorem qBG (ls:List (List Nat))(L:List Nat):zE (lsR ls) [[.l (rN L)]]=lsR (ls++[L]):=by unfold lsR zE;rw[qP9];rfl
theorem qGq (l:List Nat)(i:Nat):zE (rN l) [[.i (i:Int)]]=rN (l++[i]):=by unfold rN rI zE;rw[qP9,qP9];rfl
theorem qHm (l:List Nat):zE [] (rN l)=rN l:=by unfold zE;rw[qQ5]
theorem qLn {l:List Nat}(h:0<l.length):cI (rN l) ((l.length:Int)-1) 0+1=(nxL l:Int):=by
 rcases List.eq_nil_or_concat l with e|⟨l',b,e⟩
 ·subst e;cases h
 ·rw[List.concat_eq_append] at e;subst e;rw[qHd];have:(((l'++[b]).length:Nat):Int)-1=((l'.length:Nat):Int):=by rw[qP6];show ((l'.length+1:Nat):Int)-1=_;omega
  rw[this,qFW (k:=b) (by rw[qP4 (qON _),qPv];rfl)];omega
def exT(l:List Nat)(j:Nat):List (List Nat):=(List.range' (nxL l) j).map fun i=>l++[i]
theorem qDi (l:List Nat):exT l 0=[]:=rfl
theorem qE7 (l:List Nat)(j:Nat):exT l (j+1)=exT l j++[l++[nxL l+j]]:=by unfold exT;rw[show List.range' (nxL l) (j+1)=List.range' (nxL l) j++[nxL l+j] from by rw[List.range'_concat,qQo],qP9];rfl
theorem qFP (n:Nat)(l:List Nat):exT l (n-nxL l)=exL n l:=rfl
theorem qC9 (l:List Nat)(j:Nat):(exT l j).length=j:=by unfold exT;rw[qOV,List.length_range']
theorem qtR {α β:Type}(f:α->List β){ls:List α}{a:α}(h:ls[j]?=some a):(ls.take (j+1)).flatMap f=(ls.take j).flatMap f++f a:=by rw[List.take_add_one,h,List.flatMap_append];show _++[a].flatMap f=_;rw[List.flatMap_cons,List.flatMap_nil,qPL]
theorem qzV{α:Type}{P:List Nat->Bool}(g:List Nat->α):∀(ls pre:List (List Nat)),q7V (fun j=>if P ((pre++ls).getD j [])=true then some (g ((pre++ls).getD j [])) else none) pre.length ls.length=(ls.find? P).map g
 | [],pre=>rfl
 | L::ls,pre=>by
  have e:(pre++L::ls).getD pre.length []=L:=by rw[qOM,qP4 (qON _),qPv];rfl
  have ih:=qzV (P:=P) g ls (pre++[L]);rw[qPj,qP6] at ih;rw[qPg];simp only[q7V];rw[e,List.find?_cons];cases h:P L with
  | true=>rw[if_pos rfl];rfl
  | false=>rw[if_neg (by decide)];exact ih
theorem qAj{α:Type}{P:List Nat->Bool}(g:List Nat->α)(f:List Nat->List (List Nat)):∀(ls pre:List (List Nat)),q7V (fun j=>((f ((pre++ls).getD j [])).find? P).map g) pre.length ls.length=((ls.flatMap f).find? P).map g
 | [],pre=>rfl
 | L::ls,pre=>by
  have e:(pre++L::ls).getD pre.length []=L:=by rw[qOM,qP4 (qON _),qPv];rfl
  have ih:=qAj (P:=P) g f ls (pre++[L]);rw[qPj,qP6] at ih;rw[qPg];simp only[q7V];rw[e,List.flatMap_cons,List.find?_append];cases h:(f L).find? P with
  | some a=>rfl
  | none=>exact ih
theorem qqW{α:Type}{P:List Nat->Bool}(g:List Nat->α)(n:Nat):∀(m k:Nat),q7V (fun j=>((lsN n (j+1)).find? P).map g) k m=(qiQ P n (k+1) m).map g
 | 0,k=>rfl
 | m+1,k=>by
  simp only[q7V];rw[qiQ];cases h:(lsN n (k+1)).find? P with
  | some a=>rfl
  | none=>exact qqW g n m (k+1)
theorem qFR{α:Type}{P:List Nat->Bool}(g:List Nat->α)(L:List Nat):∀(m k:Nat),q7V (fun j=>if P (L++[nxL L+j])=true then some (g (L++[nxL L+j])) else none) k m=(((List.range' (nxL L+k) m).map fun i=>L++[i]).find? P).map g
 | 0,k=>rfl
 | m+1,k=>by
  have ih:=qFR (P:=P) g L m (k+1);rw[List.range'_succ,qPS,List.find?_cons];simp only[q7V];cases h:P (L++[nxL L+k]) with
  | true=>rw[if_pos rfl];rfl
  | false=>rw[if_neg (by decide)];exact ih
theorem quy {ls:List (List Nat)}(hj:j<ls.length):ls[j]?=some (ls.getD j []):=by rw[qOM,qOS hj];rfl
end Go.Eng

namespace Go.Eng
variable {k:Nat}{n:Nat}
theorem qNY {S:List PV->TR}(hS:∀(y0:Int) (y1:R) (y2:Int) (y3:R) (y4:Int) (y5:Int) (y6:R),S [.i y0,.r y1,.i y2,.r y3,.i y4,.i y5,.r y6]=(.br (ilt y2 y0) (.br (ile ((qg [])+(qg y1)) 17592186044416) (.br (ile ((qg (zE [] y1))+(qg [[(.i y2)]])) 17592186044416) (.br (ile ((qg y6)+(qg [[(.l (zE (zE [] y1) [[(.i y2)]]))]])) 5864062014805) (.leaf (0,[(.i y0),(.r y1),(.i (qo .i64 y2 1)),(.r y3),(.i y4),(.i y5),(.r (zE y6 [[(.l (zE (zE [] y1) [[(.i y2)]]))]]))])) .fail) .fail) .fail) (.leaf (1,[(.i y0),(.r y3),(.i y4),(.i y5),(.r y6)])))){n:Nat} {l:List Nat} (hn:n<=64) (hl:l.length<=64) (y3:R) (y4 y5:Int) (acc:List (List Nat)) (ha:acc.length<=1000000000) :(qf S [.i (n:Int),.r (rN l),.i (nxL l:Int),.r y3,.i y4,.i y5,.r (lsR acc)]).run=some (0,[.i (n:Int),.r y3,.i y4,.i y5,.r (lsR (acc++exL n l))]):=by
 have key:=qu (S:=S) (fun j=>[.i (n:Int),.r (rN l),.i ((nxL l+j:Nat):Int),.r y3,.i y4,.i y5,.r (lsR (acc++exT l j))]) (0,[.i (n:Int),.r y3,.i y4,.i y5,.r (lsR (acc++exL n l))]) (n-nxL l) (by omega) (fun j hj=>by
  have w:qo .i64 ((nxL l+j:Nat):Int) 1=((nxL l+j+1:Nat):Int):=j5 (show nxL l+j<64 by omega) (by omega);have e1:qg ([]:R)=0:=rfl;have e2:∀x:U,qg [[x]]=1:=fun _=>rfl;have e3:(acc++exT l j).length=acc.length+j:=by rw[qP6,qC9]
  rw[hS];simp only[STD,e1,e2,qHm,qGq,qdt,q0V,qBG,e3,w,show ((nxL l+j:Nat):Int)<n by omega,show (0:Int)+l.length<=17592186044416 by omega,show (l.length:Int)+1<=17592186044416 by omega,
   show ((acc.length+j:Nat):Int)+1<=5864062014805 by omega,qE7,qPj,qQj]) (by
  rw[hS];simp only[STD,show ¬((nxL l+(n-nxL l):Nat):Int)<n by omega,qFP])
 have key':(qf S [.i (n:Int),.r (rN l),.i ((nxL l+0:Nat):Int),.r y3,.i y4,.i y5,.r (lsR (acc++exT l 0))]).run=_:=key;rw[qDi,qPL,qPB] at key';exact key'
theorem qCH {l:List Nat}(h:0<l.length)(hl:l.length<=64)(hx:nxL l<=64):qo .i64 (cI (rN l) (wo .i64 (l.length:Int) 1) 0) 1=(nxL l:Int):=by have e:=qLn h;have e1:wo .i64 (l.length:Int) 1=(l.length:Int)-1:=ze ⟨by omega,by omega⟩;rw[e1,qK ⟨by omega,by omega⟩];exact e
theorem qNW {S S16:List PV->TR}(hS16:∀(y0:Int) (y1:R) (y2:Int) (y3:R) (y4:Int) (y5:Int) (y6:R),S16 [.i y0,.r y1,.i y2,.r y3,.i y4,.i y5,.r y6]=(.br (ilt y2 y0) (.br (ile ((qg [])+(qg y1)) 17592186044416) (.br (ile ((qg (zE [] y1))+(qg [[(.i y2)]])) 17592186044416) (.br (ile ((qg y6)+(qg [[(.l (zE (zE [] y1) [[(.i y2)]]))]])) 5864062014805) (.leaf (0,[(.i y0),(.r y1),(.i (qo .i64 y2 1)),(.r y3),(.i y4),(.i y5),(.r (zE y6 [[(.l (zE (zE [] y1) [[(.i y2)]]))]]))])) .fail) .fail) .fail) (.leaf (1,[(.i y0),(.r y3),(.i y4),(.i y5),(.r y6)]))))
  (hS:∀(y0:Int) (y1:R) (y2:Int) (y3:Int) (y4:R),S [.i y0,.r y1,.i y2,.i y3,.r y4]=(.br (ilt y3 y2) (.br (inb y3 (qg y1)) (.br (ilt 0 (qg (cR y1 y3 0))) (.br (inb (wo .i64 (qg (cR y1 y3 0)) 1) (qg (cR y1 y3 0))) (let r0:TR:=(qf S16 [(.i y0),(.r (cR y1 y3 0)),(.i (qo .i64 (cI (cR y1 y3 0) (wo .i64 (qg (cR y1 y3 0)) 1) 0) 1)),(.r y1),(.i y2),(.i y3),(.r y4)])
 .br (okR r0) (.leaf (0,[(.i (gI r0 0)),(.r (gR r0 1)),(.i (gI r0 2)),(.i (qo .i64 (gI r0 3) 1)),(.r (gR r0 4))])) .fail) .fail) (let r0:TR:=(qf S16 [(.i y0),(.r (cR y1 y3 0)),(.i 0),(.r y1),(.i y2),(.i y3),(.r y4)])
 .br (okR r0) (.leaf (0,[(.i (gI r0 0)),(.r (gR r0 1)),(.i (gI r0 2)),(.i (qo .i64 (gI r0 3) 1)),(.r (gR r0 4))])) .fail)) .fail) (.leaf (1,[(.r y4)]))))
  {n:Nat} {ls:List (List Nat)} (hn:n<=64) (hm:∀l,l∈ls->l.length<=64/\nxL l<=64) (hls:ls.length<=10000000) :
  (qf S [.i (n:Int),.r (lsR ls),.i (ls.length:Int),.i 0,.r []]).run=some (0,[.r (lsR (ls.flatMap (exL n)))]):=by
 have key:=qu (S:=S) (fun j=>[.i (n:Int),.r (lsR ls),.i (ls.length:Int),.i (j:Int),.r (lsR ((ls.take j).flatMap (exL n)))]) (0,[.r (lsR (ls.flatMap (exL n)))]) ls.length (by omega) (fun j hj=>by
  obtain⟨l,hl⟩:∃l,ls[j]?=some l:=⟨ls[j],qOS hj⟩;obtain⟨m1,m2⟩:=hm l (qPA hl);have fl:((ls.take j).flatMap (exL n)).length<=1000000000:=by have:=qsV (exL n) n (qCK n) (ls.take j);rw[qPJ,qPK (by omega)] at this;have:j*n<=10000000*64:=qPw (by omega) hn;omega
  have r0:=qNY hS16 hn m1 (lsR ls) (ls.length:Int) (j:Int) _ fl;have w:qo .i64 (j:Int) 1=((j+1:Nat):Int):=j5 hj (by omega);rw[hS];by_cases h0:0<l.length
  ·have w1:wo .i64 (l.length:Int) 1=(l.length:Int)-1:=ze ⟨by omega,by omega⟩;have e:=qCH h0 m1 m2;rw[w1] at e;simp only[STD,q0V,qkD hl,qdt,w1,e,r0,w,qtR (exL n) hl,show (j:Int)<ls.length by omega,show (0:Int)<=j by omega,show (0:Int)<l.length by omega,show (0:Int)<=(l.length:Int)-1 by omega,show (l.length:Int)-1<l.length by omega,and_self]
  ·have e:l=[]:=qQi (by omega);subst e;have r1:(qf S16 [.i (n:Int),.r (rN []),.i 0,.r (lsR ls),.i (ls.length:Int),.i (j:Int),.r (lsR ((ls.take j).flatMap (exL n)))]).run=_:=r0;simp only[STD,q0V,qkD hl,qdt,r1,w,qtR (exL n) hl,show (j:Int)<ls.length by omega,show (0:Int)<=j by omega,show ¬(0:Int)<(([]:List Nat).length:Int) from by decide,and_self]) (by
  rw[hS];simp only[STD,show ¬(ls.length:Int)<ls.length by omega,qPX])
 exact key
theorem qJx (n:Nat):(yC [.i (n:Int),.i ((0:Nat):Int)]).run=some (0,[.r (lsR (lsN n 0))]):=by rw[quE];simp only[STD,show (((0:Nat):Int)=0)=True from eq_true rfl];rfl
theorem qDn {n k:Nat}(hn:n<=64)(hk:k<=64):∀l,l∈lsN n k->l.length<=64/\nxL l<=64:=fun l hl=>by obtain⟨h1,h2,_⟩:=qnp.1 hl;exact⟨by omega,qOP (qHa h2) hn⟩
theorem qqS {n k:Nat}(hn:n<=64)(hk:k<=3):(lsN n k).length<=10000000:=by refine qOP (qBN n k) (qOP (Nat.pow_le_pow_left hn k) (qOP (qQg (by decide) hk) (by decide)))
theorem qKm (hn:n<=64)(hk:k<=1):(kY [.i (n:Int),.i (k:Int)]).run=some (0,[.r (lsR (lsN n k))]):=by
 rw[quc]
 match k with
 | 0=>
  simp only[STD,show (((0:Nat):Int)=0)=True from eq_true rfl];rfl
 | k+1=>
  have w:wo .i64 ((k+1:Nat):Int) 1=(k:Int):=by rw[ze ⟨by omega,by omega⟩];omega
  have r0:(yC [.i (n:Int),.i (k:Int)]).run=some (0,[.r (lsR (lsN n k))]):=by
   have e:k=0:=by omega
   subst e;exact qJx n
  have r1:=qNW (S:=q1M) (S16:=yO) qoF qqF hn (qDn (k:=k) hn (by omega)) (qqS hn (by omega));simp only[STD,show ¬((k+1:Nat):Int)=0 by omega,w,r0,q0V,r1];rfl
theorem qJZ (hn:n<=64)(hk:k<=2):(kH [.i (n:Int),.i (k:Int)]).run=some (0,[.r (lsR (lsN n k))]):=by
 rw[qtW]
 match k with
 | 0=>
  simp only[STD,show (((0:Nat):Int)=0)=True from eq_true rfl];rfl
 | k+1=>
  have w:wo .i64 ((k+1:Nat):Int) 1=(k:Int):=by rw[ze ⟨by omega,by omega⟩];omega
  have r0:=qKm hn (k:=k) (by omega);have r1:=qNW (S:=q1O) (S16:=yS) qps qqr hn (qDn (k:=k) hn (by omega)) (qqS hn (by omega));simp only[STD,show ¬((k+1:Nat):Int)=0 by omega,w,r0,q0V,r1];rfl
theorem qJS (hn:n<=64)(hk:k<=3):(kR [.i (n:Int),.i (k:Int)]).run=some (0,[.r (lsR (lsN n k))]):=by
 rw[qv0]
 match k with
 | 0=>
  simp only[STD,show (((0:Nat):Int)=0)=True from eq_true rfl];rfl
 | k+1=>
  have w:wo .i64 ((k+1:Nat):Int) 1=(k:Int):=by rw[ze ⟨by omega,by omega⟩];omega
  have r0:=qJZ hn (k:=k) (by omega);have r1:=qNW (S:=q1J) (S16:=yQ) qqc qqK hn (qDn (k:=k) hn (by omega)) (qqS hn (by omega));simp only[STD,show ¬((k+1:Nat):Int)=0 by omega,w,r0,q0V,r1];rfl
theorem qGA (hn:n<=64)(hk:k<=4):(q6J [.i (n:Int),.i (k:Int)]).run=some (0,[.r (lsR (lsN n k))]):=by
 rw[qwc]
 match k with
 | 0=>
  simp only[STD,show (((0:Nat):Int)=0)=True from eq_true rfl];rfl
 | k+1=>
  have w:wo .i64 ((k+1:Nat):Int) 1=(k:Int):=by rw[ze ⟨by omega,by omega⟩];omega
  have r0:=qJS hn (k:=k) (by omega);have r1:=qNW (S:=q2G) (S16:=uU) qqu qsG hn (qDn (k:=k) hn (by omega)) (qqS hn (by omega));simp only[STD,show ¬((k+1:Nat):Int)=0 by omega,w,r0,q0V,r1];rfl
theorem qDF {l:R}(hs:uN l){m k:Int}{ls:List (List Nat)}(hls:ls.length<=1000000000)(hm:∀L,L∈ls->∃n,L.length=n+1/\n<=3/\∀a,a∈L->a<l.length) :(qf q0I [.r l,.i m,.i k,.r (lsR ls),.i (ls.length:Int),.i 0]).run=some (((ls.find? (kN l)).map fun L=>(1,[.r (rN L)])).getD (0,[.r l,.i m,.i k])):=by
 have key:=kt (S:=q0I) (fun j=>[.r l,.i m,.i k,.r (lsR ls),.i (ls.length:Int),.i (j:Int)]) (fun j=>if kN l (ls.getD j [])=true then some (1,[.r (rN (ls.getD j []))]) else none) (0,[.r l,.i m,.i k]) ls.length (by omega) (fun j hj hf=>by
  have hl:=quy hj;obtain⟨n,h1,h2,h3⟩:=hm _ (qPA hl);have r0:=qio hs h1 h2 h3;have e:kN l (ls.getD j [])=false:=by
   cases h:kN l (ls.getD j []) with
   | true=>rw[if_pos h] at hf;cases hf
   | false=>rfl
  rw[e] at r0;rw[q9V];simp only[STD,q0V,qkD hl,r0,j5 hj (show ls.length<9223372036854775808 by omega),show (j:Int)<ls.length by omega,show (0:Int)<=j by omega,and_self]) (fun j r hj hf=>by
  have hl:=quy hj;obtain⟨n,h1,h2,h3⟩:=hm _ (qPA hl);have r0:=qio hs h1 h2 h3;have e:kN l (ls.getD j [])=true:=by
   cases h:kN l (ls.getD j []) with
   | false=>rw[if_neg (by rw[h];decide)] at hf;cases hf
   | true=>rfl
  rw[e] at r0;rw[if_pos e] at hf;cases hf;rw[q9V];simp only[STD,q0V,qkD hl,r0,show (j:Int)<ls.length by omega,show (0:Int)<=j by omega,and_self]) (by
  rw[q9V];simp only[STD,show ¬(ls.length:Int)<ls.length by omega])
 have e:=qzV (P:=kN l) (fun L=>((1:Nat),[PV.r (rN L)])) ls [];rw[qQ5] at e;rw[show (q7V _ 0 ls.length)=_ from e] at key;exact key
theorem qKC {n k j:Nat}(hk:k+1<=4)(hj:n=j):∀L,L∈lsN n (k+1)->∃q,L.length=q+1/\q<=3/\∀a,a∈L->a<j:=fun L hL=>by obtain⟨h1,h2,_⟩:=qnp.1 hL;exact⟨k,h1,by omega,fun a ha=>hj▸h2 a ha⟩
theorem qDx {n k:Nat}(hn:n<=64)(hk:k<=4):(lsN n k).length<=1000000000:=by refine qOP (qBN n k) (qOP (Nat.pow_le_pow_left hn k) (qOP (qQg (by decide) hk) (by decide)))
theorem qLI {l:R}(hs:uN l){m:Nat}(hm:m<=4){L:List Nat}(h:qiQ (kN l) l.length 1 m=some L):(q3M [.r l,.i (m:Int)]).run=some (0,[.r (rN L)]):=by
 have key:=kt (S:=q0F) (fun k=>[.r l,.i (m:Int),.i ((k+1:Nat):Int)]) (fun k=>((lsN l.length (k+1)).find? (kN l)).map fun L=>(1,[.r (rN L)])) (0,[]) m (by omega) (fun k hk hf=>by
  have r0:=qGA hs.1 (k:=k+1) (by omega);have r1:=qDF hs (m:=(m:Int)) (k:=((k+1:Nat):Int)) (qDx (k:=k+1) hs.1 (by omega)) (qKC (k:=k) (by omega) rfl);rw[hf] at r1;simp only[Option.getD_none] at r1;have w:qo .i64 ((k+1:Nat):Int) 1=((k+1+1:Nat):Int):=j5 (show k+1<64 by omega) (by omega);have lx:qg l=(l.length:Int):=rfl;rw[qaq];simp only[STD,lx,r0,q0V,r1,zm r1,w,show ((k+1:Nat):Int)<=m by omega]) (fun k r hk hf=>by
  have r0:=qGA hs.1 (k:=k+1) (by omega);have r1:=qDF hs (m:=(m:Int)) (k:=((k+1:Nat):Int)) (qDx (k:=k+1) hs.1 (by omega)) (qKC (k:=k) (by omega) rfl);rw[hf] at r1;cases hx:(lsN l.length (k+1)).find? (kN l) with
  | none=>rw[hx] at hf;cases hf
  | some L'=>
   rw[hx] at hf;cases hf;simp only[qPI] at r1;have lx:qg l=(l.length:Int):=rfl;rw[qaq];simp only[STD,lx,r0,q0V,r1,zm r1,show ((k+1:Nat):Int)<=m by omega];rw[if_neg (by decide)]) (by
  rw[qaq];simp only[STD,show ¬((m+1:Nat):Int)<=m by omega])
 rw[qqW (P:=kN l) (fun L=>((1:Nat),[PV.r (rN L)])) l.length m 0,h] at key;have key':(qf q0F [.r l,.i (m:Int),.i 1]).run=some (1,[.r (rN L)]):=key;rw[qwk];simp only[STD,key',zm key'];rw[if_neg (by decide)]
end Go.Eng

namespace Go.Eng
variable {L:List Nat}{l:R}
noncomputable def tO(l:R)(L:List Nat):Nat->Rat:=Classical.epsilon fun t=>qBS (pV l) l.length (L.length-1) (Lf l L) t
noncomputable def cO(l:R)(L:List Nat):V3:=cen (L.length-1+1) (wts (tO l L) (L.length-1)) fun j=>pV l (Lf l L j)
noncomputable def sO(l:R)(L:List Nat):Rat:=d2 (cO l L) (pV l (Lf l L 0))
noncomputable def wO(l:R)(L:List Nat):R:=txR ((List.range (L.length-1+1)).map fun j=>tQ (wts (tO l L) (L.length-1) j))
theorem qBy (h:kN l L=true):qBS (pV l) l.length (L.length-1) (Lf l L) (tO l L):=Classical.epsilon_spec (ql9.1 h)
theorem qAB (hs:uN l){n:Nat}(hL:L.length=n+1)(hn:n<=3)(hlt:∀k,k∈L->k<l.length)(h:kN l L=true) :CB (cO l L)/\(zO [.r l,.r (rN L)]).run=some (0,[.s (tQ (cO l L).x),.s (tQ (cO l L).y),.s (tQ (cO l L).z),.s (tQ (sO l L)),.r (wO l L),.b true,.i 0]):=by
 have eL:L.length-1=n:=by omega
 have sp:=qBy h;unfold sO wO;unfold cO;rw[eL] at sp ⊢;rcases quj hs hL hn hlt with⟨t,h1,h2,h3,h4⟩|⟨h1,_⟩
 ·have e:=qoo h1.1 sp.1;have ec:=qk1 (c:=fun j=>pV l (Lf l L j)) e;have el:((List.range (n+1)).map fun j=>tQ (wts t n j))=(List.range (n+1)).map fun j=>tQ (wts (tO l L) n j):=qPV fun j hj=>by rw[e j (qPH.1 hj)]
  rw[ec,el] at h4;rw[ec] at h3;exact⟨h3,h4⟩
 ·exact absurd sp (h1 _)
theorem qJN (hs:uN l){n:Nat}(hL:L.length=n+1)(hn:n<=3)(hlt:∀k,k∈L->k<l.length)(h:kN l L=false) :∃s1 s2 s3 s4 wl,(zO [.r l,.r (rN L)]).run=some (0,[.s s1,.s s2,.s s3,.s s4,.r wl,.b false,.i 0]):=by
 have eL:L.length-1=n:=by omega
 have hh:=qn6.1 h;rw[eL] at hh;rcases quj hs hL hn hlt with⟨t,h1,_⟩|⟨_,h4⟩
 ·exact absurd h1 (hh t)
 ·exact h4
noncomputable def lO(l:R)(n m:Int)(L:List Nat):Nat×List PV:=(1,[.r l,.s (tQ (cO l L).x),.s (tQ (cO l L).y),.s (tQ (cO l L).z),.s (tQ (sO l L)),.r (wO l L),.i 0,.i n,.i m,.r (rN L)])
theorem qOs (hs:uN l)(hL:L.length<=3)(hlt:∀k,k∈L->k<l.length)(y2 y3 y4 y5 y13:Int)(y14:R)(acc:List (List Nat))(ha:acc.length<=1000000000) :(qf qF [.r (rN L),.i (nxL L:Int),.i y2,.i y3,.i y4,.i y5,.r l,.s [],.s [],.s [],.s [],.i 0,.i (l.length:Int),.i y13,.r y14,.r (lsR acc)]).run = some ((((exL l.length L).find? (kN l)).map (lO l l.length y13)).getD (0,[.i y2,.i y3,.i y4,.i y5,.r l,.s [],.s [],.s [],.s [],.i 0,.i (l.length:Int),.i y13,.r y14,.r (lsR (acc++exL l.length L))])):=by
 have hn:=hs.1;have key:=kt (S:=qF) (fun j=>[.r (rN L),.i ((nxL L+j:Nat):Int),.i y2,.i y3,.i y4,.i y5,.r l,.s [],.s [],.s [],.s [],.i 0,.i (l.length:Int),.i y13,.r y14,.r (lsR (acc++exT L j))])
  (fun j=>if kN l (L++[nxL L+j])=true then some (lO l l.length y13 (L++[nxL L+j])) else none)
  (0,[.i y2,.i y3,.i y4,.i y5,.r l,.s [],.s [],.s [],.s [],.i 0,.i (l.length:Int),.i y13,.r y14,.r (lsR (acc++exL l.length L))]) (l.length-nxL L) (by omega) (fun j hj hf=>by
  have e:kN l (L++[nxL L+j])=false:=by
   cases h:kN l (L++[nxL L+j]) with
   | true=>rw[if_pos h] at hf;cases hf
   | false=>rfl
  have lj:(L++[nxL L+j]).length=L.length+1:=by rw[qP6];rfl
  have ltj:∀k,k∈L++[nxL L+j]->k<l.length:=fun k hk=>by
   rcases qPa.1 hk with q|q
   ·exact hlt k q
   ·rw[qPf.1 q];omega
  obtain⟨s1,s2,s3,s4,wl,r1⟩:=qJN hs lj hL ltj e;have w:qo .i64 ((nxL L+j:Nat):Int) 1=((nxL L+j+1:Nat):Int):=j5 (show nxL L+j<64 by omega) (by omega);have e2:∀x:U,qg [[x]]=1:=fun _=>rfl;have e3:(acc++exT L j).length=acc.length+j:=by rw[qP6,qC9]
  have cl:(wC [.r (rN L)]).run=some (0,[.r (rN L)]):=by rw[q6j];simp only[STD,qdt,show (L.length:Int)<=17592186044416 by omega]
  rw[q17];simp only[STD,cl,e2,qGq,qdt,q0V,qBG,e3,w,r1,show ((nxL L+j:Nat):Int)<l.length by omega,show (L.length:Int)+1<=17592186044416 by omega,
   show ((acc.length+j:Nat):Int)+1<=5864062014805 by omega,qE7,qPj,qQj]) (fun j r hj hf=>by
  have e:kN l (L++[nxL L+j])=true:=by
   cases h:kN l (L++[nxL L+j]) with
   | false=>rw[if_neg (by rw[h];decide)] at hf;cases hf
   | true=>rfl
  rw[if_pos e] at hf;cases hf;have lj:(L++[nxL L+j]).length=L.length+1:=by rw[qP6];rfl
  have ltj:∀k,k∈L++[nxL L+j]->k<l.length:=fun k hk=>by
   rcases qPa.1 hk with q|q
   ·exact hlt k q
   ·rw[qPf.1 q];omega
  obtain⟨_,r1⟩:=qAB hs lj hL ltj e;have e2:∀x:U,qg [[x]]=1:=fun _=>rfl;have e3:(acc++exT L j).length=acc.length+j:=by rw[qP6,qC9]
  have cl:(wC [.r (rN L)]).run=some (0,[.r (rN L)]):=by rw[q6j];simp only[STD,qdt,show (L.length:Int)<=17592186044416 by omega]
  rw[q17];unfold lO;simp only[STD,cl,e2,qGq,qdt,q0V,qBG,e3,r1,show ((nxL L+j:Nat):Int)<l.length by omega,show (L.length:Int)+1<=17592186044416 by omega,
   show ((acc.length+j:Nat):Int)+1<=5864062014805 by omega]) (by
  rw[q17];simp only[STD,show ¬((nxL L+(l.length-nxL L):Nat):Int)<l.length by omega,qFP])
 have e:=qFR (P:=kN l) (lO l l.length y13) L (l.length-nxL L) 0;rw[e] at key;have key':(qf qF [.r (rN L),.i ((nxL L+0:Nat):Int),.i y2,.i y3,.i y4,.i y5,.r l,.s [],.s [],.s [],.s [],.i 0,.i (l.length:Int),.i y13,.r y14,.r (lsR (acc++exT L 0))]).run=_:=key;rw[qDi,qPL,qPB] at key';exact key'
theorem qOy (hs:uN l){ls:List (List Nat)}{q:Nat}(hq:q<=3)(hls:ls.length<=10000000)(hm:∀L,L∈ls->L.length=q/\∀a,a∈L->a<l.length)(y0 y1 y11:Int) :(qf v8 [.i y0,.i y1,.i (ls.length:Int),.i 0,.r l,.s [],.s [],.s [],.s [],.i 0,.i (l.length:Int),.i y11,.r (lsR ls),.r []]).run = some ((((ls.flatMap (exL l.length)).find? (kN l)).map (lO l l.length y11)).getD (0,[.i y0,.i y1,.r l,.s [],.s [],.s [],.s [],.i 0,.i (l.length:Int),.i y11,.r (lsR (ls.flatMap (exL l.length)))])):=by
 have hn:=hs.1;have step:∀j,j<ls.length->∃L,ls[j]?=some L/\ls.getD j []=L/\(qf qF [.r (rN L),.i (nxL L:Int),.i y0,.i y1,.i (ls.length:Int),.i (j:Int),.r l,.s [],.s [],.s [],.s [],.i 0,.i (l.length:Int),.i y11,.r (lsR ls),.r (lsR ((ls.take j).flatMap (exL l.length)))]).run =
   some ((((exL l.length L).find? (kN l)).map (lO l l.length y11)).getD (0,[.i y0,.i y1,.i (ls.length:Int),.i (j:Int),.r l,.s [],.s [],.s [],.s [],.i 0,.i (l.length:Int),.i y11,.r (lsR ls),.r (lsR ((ls.take (j+1)).flatMap (exL l.length)))])) /\
   L.length<=3/\nxL L<=64:=fun j hj=>by
  have hl:=quy hj;obtain⟨h1,h2⟩:=hm _ (qPA hl);have fl:((ls.take j).flatMap (exL l.length)).length<=1000000000:=by have:=qsV (exL l.length) l.length (qCK l.length) (ls.take j);rw[qPJ,qPK (by omega)] at this;have:j*l.length<=10000000*64:=qPw (by omega) hn;omega
  have r0:=qOs hs (L:=ls.getD j []) (by omega) h2 y0 y1 (ls.length:Int) (j:Int) y11 (lsR ls) _ fl;rw[<-qtR (exL l.length) hl] at r0;exact⟨_,hl,rfl,r0,by omega,qOP (qHa h2) hn⟩
 have key:=kt (S:=v8) (fun j=>[.i y0,.i y1,.i (ls.length:Int),.i (j:Int),.r l,.s [],.s [],.s [],.s [],.i 0,.i (l.length:Int),.i y11,.r (lsR ls),.r (lsR ((ls.take j).flatMap (exL l.length)))])
  (fun j=>((exL l.length (ls.getD j [])).find? (kN l)).map (lO l l.length y11))
  (0,[.i y0,.i y1,.r l,.s [],.s [],.s [],.s [],.i 0,.i (l.length:Int),.i y11,.r (lsR (ls.flatMap (exL l.length)))]) ls.length (by omega) (fun j hj hf=>by
  obtain⟨L,hl,hg,r0,h3,h4⟩:=step j hj;rw[hg] at hf;rw[hf] at r0;simp only[Option.getD_none] at r0;have w:qo .i64 (j:Int) 1=((j+1:Nat):Int):=j5 hj (by omega);rw[q2g];by_cases h0:0<L.length
  ·have w1:wo .i64 (L.length:Int) 1=(L.length:Int)-1:=ze ⟨by omega,by omega⟩;have e:=qCH h0 (by omega) h4;rw[w1] at e;simp only[STD,q0V,qkD hl,qdt,w1,e,r0,zm r0,w,show (j:Int)<ls.length by omega,show (0:Int)<=j by omega,show (0:Int)<L.length by omega,show (0:Int)<=(L.length:Int)-1 by omega,show (L.length:Int)-1<L.length by omega,and_self]
  ·have e:L=[]:=qQi (by omega);subst e;have r1:(qf qF [.r (rN []),.i 0,.i y0,.i y1,.i (ls.length:Int),.i (j:Int),.r l,.s [],.s [],.s [],.s [],.i 0,.i (l.length:Int),.i y11,.r (lsR ls),.r (lsR ((ls.take j).flatMap (exL l.length)))]).run=_:=r0;simp only[STD,q0V,qkD hl,qdt,r1,zm r1,w,show (j:Int)<ls.length by omega,show (0:Int)<=j by omega,show ¬(0:Int)<(([]:List Nat).length:Int) from by decide,and_self]) (fun j r hj hf=>by
  obtain⟨L,hl,hg,r0,h3,h4⟩:=step j hj;rw[hg] at hf;rw[hf] at r0;simp only[qPI] at r0;obtain⟨L2,hL2,e2⟩:=qQu.1 hf;subst e2;unfold lO at r0 ⊢;rw[q2g];by_cases h0:0<L.length
  ·have w1:wo .i64 (L.length:Int) 1=(L.length:Int)-1:=ze ⟨by omega,by omega⟩;have e:=qCH h0 (by omega) h4;rw[w1] at e;simp only[STD,q0V,qkD hl,qdt,w1,e,r0,zm r0,show (j:Int)<ls.length by omega,show (0:Int)<=j by omega,show (0:Int)<L.length by omega,show (0:Int)<=(L.length:Int)-1 by omega,show (L.length:Int)-1<L.length by omega,and_self];rw[if_neg (by decide)]
  ·have e:L=[]:=qQi (by omega);subst e;have r1:(qf qF [.r (rN []),.i 0,.i y0,.i y1,.i (ls.length:Int),.i (j:Int),.r l,.s [],.s [],.s [],.s [],.i 0,.i (l.length:Int),.i y11,.r (lsR ls),.r (lsR ((ls.take j).flatMap (exL l.length)))]).run=_:=r0;simp only[STD,q0V,qkD hl,qdt,r1,zm r1,show (j:Int)<ls.length by omega,show (0:Int)<=j by omega,show ¬(0:Int)<(([]:List Nat).length:Int) from by decide,and_self];rw[if_neg (by decide)]) (by
  rw[q2g];simp only[STD,show ¬(ls.length:Int)<ls.length by omega,qPX])
 have e:=qAj (P:=kN l) (lO l l.length y11) (exL l.length) ls [];simp only[qQ5,qPu] at e;rw[e] at key;exact key
theorem qL8 (hs:uN l){m:Nat}(hm:m<=4)(h:qiQ (kN l) l.length 1 m=some L) :(q0C [.r l,.i (m:Int)]).run=some (0,[.s (tQ (cO l L).x),.s (tQ (cO l L).y),.s (tQ (cO l L).z),.s (tQ (sO l L)),.r (wO l L),.r (rN L),.i 0]):=by
 have hn:=hs.1;have hms:∀q,∀L,L∈lsN l.length q->L.length=q/\∀a,a∈L->a<l.length:=fun q L hL=>by obtain⟨h1,h2,_⟩:=qnp.1 hL;exact⟨h1,h2⟩
 have key:=kt (S:=v7) (fun q=>[.i (m:Int),.i (q:Int),.r l,.s [],.s [],.s [],.s [],.i 0,.i (l.length:Int),.i (m:Int),.r (lsR (lsN l.length q))])
  (fun q=>((lsN l.length (q+1)).find? (kN l)).map (lO l l.length m))
  (0,[.r l,.s [],.s [],.s [],.s [],.i 0,.i (l.length:Int),.i (m:Int)]) m (by omega) (fun q hq hf=>by
  have r0:=qOy hs (q:=q) (by omega) (qqS (k:=q) hn (by omega)) (hms q) (m:Int) (q:Int) (m:Int);have hf':((((lsN l.length q).flatMap (exL l.length)).find? (kN l)).map (lO l l.length m))=none:=hf;rw[hf'] at r0;simp only[Option.getD_none] at r0;have w:qo .i64 (q:Int) 1=((q+1:Nat):Int):=j5 hq (by omega);rw[q2d];simp only[STD,q0V,r0,zm r0,w,show (q:Int)<m by omega];rfl) (fun q r hq hf=>by
  have r0:=qOy hs (q:=q) (by omega) (qqS (k:=q) hn (by omega)) (hms q) (m:Int) (q:Int) (m:Int);have hf':((((lsN l.length q).flatMap (exL l.length)).find? (kN l)).map (lO l l.length m))=some r:=hf;rw[hf'] at r0;simp only[qPI] at r0;obtain⟨L2,hL2,e2⟩:=qQu.1 hf';subst e2;unfold lO at r0 ⊢;rw[q2d];simp only[STD,q0V,r0,zm r0,show (q:Int)<m by omega];rw[if_neg (by decide)]) (by
  rw[q2d];simp only[STD,show ¬(m:Int)<m by omega])
 rw[qqW (P:=kN l) (lO l l.length m) l.length m 0,h] at key;have key':(qf v7 [.i (m:Int),.i 0,.r l,.s [],.s [],.s [],.s [],.i 0,.i (l.length:Int),.i (m:Int),.r [[.l []]]]).run=some (lO l l.length m L):=key;unfold lO at key';have lx:qg l=(l.length:Int):=rfl;rw[qsT];simp only[STD,lx,key',zm key'];rw[if_neg (by decide)]
end Go.Eng

namespace Go.Eng
variable {l:R}
def ptE(x y:Int):Int:=if -100000<=x/\x<=100000/\-100000<=y/\y<=100000 then 0 else 2
def ptA(l:R)(i:Nat):Int:=ptE (cI l i 0) (cI l i 1)
def qEo(l:R):Int:=if 64<qg l then 5 else q0T (ptA l) l.length
theorem qBl (x y:Int):ptE x y=0\/ptE x y=2:=by unfold ptE;split<;>simp
theorem qJT {x y:Int}(h:ptE x y=0):-100000<=x/\x<=100000/\-100000<=y/\y<=100000:=by
 unfold ptE at h;split at h
 ·assumption
 ·omega
theorem qkB (x:Int):(qU [.i x]).run=some (0,[.b (decide (-100000<=x/\x<=100000))]):=by rw[qsL];simp only[STD];by_cases h:-100000<=x<;>simp[h,ile]
theorem qxG (x:Int):(jd [.i x]).run=some (0,[.b (decide (-100000<=x/\x<=100000))]):=by rw[qC4];simp only[STD];by_cases h:-100000<=x<;>simp[h,ile]
theorem qy5 (x y:Int):(kx [.i x,.i y]).run=some (0,[.b (decide (ptE x y=0))]):=by rw[qwB];simp only[STD,qkB];unfold ptE;by_cases h:-100000<=x<;>by_cases h2:x<=100000<;>by_cases h3:-100000<=y<;>by_cases h4:y<=100000<;>simp[h,h2,h3,h4]
theorem qzs (x y:Int):(q3U [.i x,.i y]).run=some (0,[.b (decide (ptE x y=0))]):=by rw[qvO];simp only[STD,qxG];unfold ptE;by_cases h:-100000<=x<;>by_cases h2:x<=100000<;>by_cases h3:-100000<=y<;>by_cases h4:y<=100000<;>simp[h,h2,h3,h4]
theorem qAP (l:R)(hl:l.length<9223372036854775808):(j8 [.r l]).run=some (0,[.i (q0T (ptA l) l.length)]):=by
 rw[qhe];have k:=qpF (S:=zb) (fun i=>[.r l,.i (qg l),.i (i:Int)]) (ptA l) [] [] l.length hl (fun i hi=>by
  rw[q4H];simp only[STD,qBh hi,qe3,qy5,and_self,j5 hi hl];show (if ¬ptA l i=0 then _ else _)=_;have:=qBl (cI l i 0) (cI l i 1);by_cases he:ptA l i=0
  ·simp[he]
  ·have:ptA l i=2:=by unfold ptA at *;omega
   simp[this]) (by
  rw[q4H];simp only[STD,qqy])
 by_cases hf:q0T (ptA l) l.length=0
 ·rw[if_pos hf] at k;have k':(qf zb [.r l,.i (qg l),.i 0]).run=_:=k;simp only[STD,k',zm k',hf]
 ·rw[if_neg hf] at k;have k':(qf zb [.r l,.i (qg l),.i 0]).run=_:=k;simp only[STD,k',zm k',show ¬((1:Nat)=0) by decide]
theorem qme (l:R):(q4k [.r l]).run=some (0,[.i (qEo l)]):=by
 rw[qvx];have e:(w9 [.r l]).run=some (0,[.i (qEo l)]):=by
  rw[qcp];unfold qEo;by_cases h:64<qg l
  ·simp only[STD,h]
  ·simp only[STD,h,qAP l (by unfold qg at h;omega)]
 simp only[STD,e]
theorem q1h (l:R):(q18 [.r l]).run=some (0,[.i (qEo l)]):=by
 rw[qwM];unfold qEo;by_cases h:64<qg l
 ·simp only[STD,h]
 ·have hl:l.length<9223372036854775808:=by unfold qg at h;omega
  have k:=qpF (S:=ug) (fun i=>[.r l,.i (i:Int)]) (ptA l) [] [] l.length hl (fun i hi=>by
   rw[qiz];simp only[STD,qBh hi,qe3,qzs,and_self,j5 hi hl];show (if ¬ptA l i=0 then _ else _)=_;have:=qBl (cI l i 0) (cI l i 1);by_cases he:ptA l i=0
   ·simp[he]
   ·have:ptA l i=2:=by unfold ptA at *;omega
    simp[this]) (by
   rw[qiz];simp only[STD,qqy])
  by_cases hf:q0T (ptA l) l.length=0
  ·rw[if_pos hf] at k;have k':(qf ug [.r l,.i 0]).run=_:=k;simp only[STD,k',zm k',hf,h]
  ·rw[if_neg hf] at k;have k':(qf ug [.r l,.i 0]).run=_:=k;simp only[STD,k',zm k',h,show ¬((1:Nat)=0) by decide]
def spE(x y z:Int):Int:=if -100000<=x/\x<=100000/\-100000<=y/\y<=100000/\-100000<=z/\z<=100000 then 0 else 2
def spA(l:R)(i:Nat):Int:=spE (cI l i 0) (cI l i 1) (cI l i 2)
def qKI(l:R):Int:=if 64<qg l then 5 else q0T (spA l) l.length
theorem qcY (x y z:Int):spE x y z=0\/spE x y z=2:=by unfold spE;split<;>simp
theorem qoa {x y z:Int}(h:spE x y z=0):co x/\co y/\co z:=by
 unfold spE at h;split at h
 ·unfold co;omega
 ·omega
theorem qy4 (x y z:Int):(yt [.i x,.i y,.i z]).run=some (0,[.b (decide (spE x y z=0))]):=by rw[qw1];simp only[STD,qkB];unfold spE;by_cases h:-100000<=x<;>by_cases h2:x<=100000<;>by_cases h3:-100000<=y<;>by_cases h4:y<=100000<;>by_cases h5:-100000<=z<;>by_cases h6:z<=100000<;>simp[h,h2,h3,h4,h5,h6]
theorem qoK (l:R)(hl:l.length<9223372036854775808):(zo [.r l]).run=some (0,[.i (q0T (spA l) l.length)]):=by
 rw[qj6];have k:=qpF (S:=zr) (fun i=>[.r l,.i (qg l),.i (i:Int)]) (spA l) [] [] l.length hl (fun i hi=>by
  rw[q65];simp only[STD,qBh hi,qe3,qy4,and_self,j5 hi hl];show (if ¬spA l i=0 then _ else _)=_;have:=qcY (cI l i 0) (cI l i 1) (cI l i 2);by_cases he:spA l i=0
  ·simp[he]
  ·have:spA l i=2:=by unfold spA at *;omega
   simp[this]) (by
  rw[q65];simp only[STD,qqy])
 by_cases hf:q0T (spA l) l.length=0
 ·rw[if_pos hf] at k;have k':(qf zr [.r l,.i (qg l),.i 0]).run=_:=k;simp only[STD,k',zm k',hf]
 ·rw[if_neg hf] at k;have k':(qf zr [.r l,.i (qg l),.i 0]).run=_:=k;simp only[STD,k',zm k',show ¬((1:Nat)=0) by decide]
theorem q1k (l:R):(wQ [.r l]).run=some (0,[.i (qKI l)]):=by
 rw[qlB];have e:(wD [.r l]).run=some (0,[.i (qKI l)]):=by
  rw[qdI];unfold qKI;by_cases h:64<qg l
  ·simp only[STD,h]
  ·simp only[STD,h,qoK l (by unfold qg at h;omega)]
 simp only[STD,e]
theorem qII (h:qKI l=0):uN l:=by
 unfold qKI at h;split at h
 ·omega
 ·rename_i h64;unfold qg at h64;exact⟨by omega,fun i hi=>qoa (qhY h i hi)⟩
def qdd(l:R):Int:=if qEo l=0 then (if qg l=0 then 13 else 0) else qEo l
theorem qvW (x:Int):(q4B [.i x]).run=some (0,[.i (if x=0 then 13 else 0)]):=by rw[qut];by_cases h:x=0<;>simp[STD,h]
theorem qmt (l:R):(q4l [.r l]).run=some (0,[.i (qdd l)]):=by
 rw[qtB];unfold qdd;by_cases h:qEo l=0
 ·by_cases h2:qg l=0<;>simp only[STD,qme,qvW,h,h2]
 ·simp only[STD,qme,h]
theorem qrT (l:R):(q9y [.r l]).run=some (0,[.i (qdd l)]):=by
 rw[qyU];unfold qdd;by_cases h:qEo l=0
 ·by_cases h2:qg l=0<;>simp only[STD,q1h,h,h2]
 ·simp only[STD,q1h,h]
def raR(l:R):R:=(List.range l.length).map fun i:Nat=>[.i (cI l (i:Int) 0),.i (cI l (i:Int) 1),.i 0]
def raN(l:R)(n:Nat):R:=(List.range n).map fun i:Nat=>[.i (cI l (i:Int) 0),.i (cI l (i:Int) 1),.i 0]
theorem qHX (l:R)(n:Nat):qg (raN l n)=(n:Int):=by unfold raN qg;rw[qOV,qPm]
theorem qyi (l:R):(raR l).length=l.length:=by unfold raR;rw[qOV,qPm]
theorem qDp (l:R)(n:Nat):raN l (n+1)=zE (raN l n) [[.i (cI l (n:Int) 0),.i (cI l (n:Int) 1),.i 0]]:=by unfold raN zE;rw[qPO,qP9];rfl
theorem qI9 {i:Nat}(h:i<l.length):cI (raR l) (i:Int) 0=cI l (i:Int) 0/\cI (raR l) (i:Int) 1=cI l (i:Int) 1/\cI (raR l) (i:Int) 2=0:=by
 have e:(raR l).getD ((i:Int).toNat) []=[.i (cI l (i:Int) 0),.i (cI l (i:Int) 1),.i 0]:=by unfold raR;rw[qOX,qOM,qOU,qPp h];rfl
 refine⟨?_,?_,?_⟩<;>(conv=>lhs;unfold cI zJ)<;>rw[e]<;>rfl
theorem qJG (hl:l.length<=64):(q1H [.r l]).run=some (0,[.r (raR l)]):=by
 have key:=qu (S:=jD) (fun i=>[.r l,.i (l.length:Int),.i (i:Int),.r (raN l i)]) (0,[.r (raR l)]) l.length (by omega) (fun i hi=>by
  have e3:qg [[U.i (cI l (i:Int) 0),.i (cI l (i:Int) 1),.i 0]]=1:=rfl;have e4:qg l=(l.length:Int):=rfl;rw[qcw];simp only[STD,qHX,qDp,e3,e4,j5 hi (show l.length<9223372036854775808 by omega),show (i:Int)<l.length by omega,show (0:Int)<=i by omega,show (i:Int)+1<=5864062014805 by omega,and_self]) (by
  rw[qcw];simp only[STD,show ¬(l.length:Int)<l.length by omega];rfl)
 have key':(qf jD [.r l,.i (qg l),.i 0,.r []]).run=some (0,[.r (raR l)]):=key;rw[qrl];simp only[STD,key']
theorem qwX (hl:l.length<=64):(q4Q [.r l]).run=some (0,[.r (raR l)]):=by
 have key:=qu (S:=uT) (fun i=>[.r l,.i (i:Int),.r (raN l i)]) (0,[.r (raR l)]) l.length (by omega) (fun i hi=>by
  have e3:qg [[U.i (cI l (i:Int) 0),.i (cI l (i:Int) 1),.i 0]]=1:=rfl;have e4:qg l=(l.length:Int):=rfl;rw[qg9];simp only[STD,qHX,qDp,e3,e4,j5 hi (show l.length<9223372036854775808 by omega),show (i:Int)<l.length by omega,show (0:Int)<=i by omega,show (i:Int)+1<=5864062014805 by omega,and_self]) (by
  have e4:qg l=(l.length:Int):=rfl;rw[qg9];simp only[STD,e4,show ¬(l.length:Int)<l.length by omega];rfl)
 have key':(qf uT [.r l,.i 0,.r []]).run=some (0,[.r (raR l)]):=key;rw[quT];simp only[STD,key']
theorem qI3 (h:qEo l=0):l.length<=64/\∀i,i<l.length->co (cI l (i:Int) 0)/\co (cI l (i:Int) 1):=by
 unfold qEo at h;split at h
 ·omega
 ·rename_i h64;unfold qg at h64;refine⟨by omega,fun i hi=>?_⟩;obtain⟨h1,h2,h3,h4⟩:=qJT (qhY h i hi);exact⟨⟨h1,h2⟩,⟨h3,h4⟩⟩
theorem qls (h:qdd l=0):qEo l=0/\l.length<=64/\0<l.length/\uN (raR l)/\Mst (raR l) 3:=by
 unfold qdd at h;split at h
 ·rename_i h1;split at h
  ·omega
  ·rename_i h2;unfold qg at h2;obtain⟨q1,q2⟩:=qI3 h1;refine⟨h1,q1,by omega,⟨by rw[qyi];exact q1,fun i hi=>?_⟩,.inr ⟨rfl,fun k hk=>?_⟩⟩
   ·rw[qyi] at hi;obtain⟨e1,e2,e3⟩:=qI9 hi;obtain⟨k1,k2⟩:=q2 i hi;unfold qLD;rw[e1,e2,e3];exact⟨k1,k2,by unfold co;omega⟩
   ·rw[qyi] at hk;obtain⟨e1,e2,e3⟩:=qI9 hk;show ((cI (raR l) (k:Int) 2:Int):Rat)=0;rw[e3];rfl
 ·rename_i h1;exact absurd h h1
end Go.Eng

namespace Go.Eng
variable {L:List Nat}{l:R}{n:Nat}
theorem qN0 (hs:uN l)(hL:L.length=n+1)(hn:n<=3)(hlt:∀k,k∈L->k<l.length)(h:kN l L=true) :(ku [.r (chR l L)]).run=some (0,[.s (tQ (cO l L).x),.s (tQ (cO l L).y),.s (tQ (cO l L).z),.s (tQ (sO l L)),.b true]):=by
 have sp:=quZ hs (show L.length<=64 by omega) hlt;have hl:(chR l L).length=n+1:=by rw[qkU];exact hL
 have eL:L.length-1=n:=by omega
 have st:=qBy h;rw[eL] at st;rcases qrO sp hl hn with⟨t,h1,h4⟩|⟨h1,h4⟩
 ·rw[qBm] at h1 h4;have e:=qk1 (c:=fun j=>pV l (Lf l L j)) (qoo h1 st.1);rw[e] at h4;have ec:cO l L=cen (n+1) (wts (tO l L) n) fun j=>pV l (Lf l L j):=by unfold cO;rw[eL]
  unfold sO;rw[ec];exact h4
 ·rw[qBm] at h1;exact absurd st.1.ind h1
structure LO (l:R) (m:Nat) (L:List Nat) (n:Nat):Prop where
 first:qiQ (kN l) l.length 1 m=some L
 len:L.length=n+1
 most:n<m
 three:n<=3
 lt:∀a,a∈L->a<l.length
 asc:L.Pairwise (·<·)
 supp:kN l L=true
 cb:CB (cO l L)
 sup:Sup l.length (pV l) (n+1) (Lf l L) (wts (tO l L) n) (sO l L)
 cen:cO l L=Go.Eng.cen (n+1) (wts (tO l L) n) fun j=>pV l (Lf l L j)
theorem qNa (hL:L.length=n+1)(hlt:∀a,a∈L->a<l.length){j:Nat}(hj:j<n+1):Lf l L j<l.length:=by unfold Lf;rw[qOM,qOS (show j<L.length by omega)];exact hlt _ (qPx _)
theorem qJn (hs:uN l)(hl:0<l.length){m:Nat}(hm:Mst l m):∃L n,LO l m L n:=by
 obtain⟨L,n,h1,h2,h3,h4,h5,h6,t,ht⟩:=qF8 hl hm;have eL:L.length-1=n:=by omega
 have sb:kN l L=true:=ql9.2 ⟨t,by rw[eL];exact ht⟩;have st:=qBy sb;rw[eL] at st;have ec:cO l L=cen (n+1) (wts (tO l L) n) fun j=>pV l (Lf l L j):=by unfold cO;rw[eL]
 have su:=qDO st (fun j hj=>qNa h2 h5 hj) (by have:=qJC h6 l.length;rw[h2] at this;exact this);rw[<-ec] at su;exact⟨L,n,h1,h2,h3,h4,h5,h6,sb,(qAB hs h2 h4 h5 sb).1,su,ec⟩
theorem qkZ (h0:qdd l=0):∃L n,LO (raR l) 3 L n /\(jT [.r l]).run=some (0,[.s (tQ (cO (raR l) L).x),.s (tQ (cO (raR l) L).y),.s (tQ (sO (raR l) L)),.r (rN L),.i 0]):=by obtain⟨h1,h2,h3,h4,h5⟩:=qls h0;obtain⟨L,n,lo⟩:=qJn h4 (by rw[qyi];exact h3) h5;have r1:(q0C [.r (raR l),.i 3]).run=_:=qL8 h4 (m:=3) (by omega) lo.first;refine⟨L,n,lo,?_⟩;rw[qgD];simp only[STD,qmt,h0,qJG h2,r1,qhr]
theorem qFk (h0:qdd l=0)(lo:LO (raR l) 3 L n) :(q1Y [.r l]).run=some (0,[.s (tQ (cO (raR l) L).x),.s (tQ (cO (raR l) L).y),.s (tQ (sO (raR l) L)),.r (rN L),.i 0]):=by obtain⟨h1,h2,h3,h4,h5⟩:=qls h0;have r2:(q3M [.r (raR l),.i 3]).run=_:=qLI h4 (m:=3) (by omega) lo.first;have r3:=qm5 (l:=raR l) (L:=L) (by have:=lo.len;have:=lo.three;omega) lo.lt;have r4:=qN0 h4 lo.len lo.three lo.lt lo.supp;rw[qkf];simp only[STD,qrT,h0,qwX h2,r2,r3,r4]
theorem qAh (h0:qdd l≠0):(jT [.r l]).run=some (0,[.s [],.s [],.s [],.r [],.i (qdd l)])/\(q1Y [.r l]).run=some (0,[.s [],.s [],.s [],.r [],.i (qdd l)]):=by
 rw[qgD,qkf];constructor
 ·simp only[STD,qmt,h0]
 ·simp only[STD,qrT,h0]
end Go.Eng

namespace Go.Eng
theorem quF{y:R}(hy:y.length<9223372036854775808):(zA [.r y,.r y]).run=some (0,[.b true]):=by
 have key:=qu (S:=zI) (fun i=>[.r y,.r y,.i (qg y),.i (i:Int)]) (0,[]) y.length hy (fun i hi=>by
  rw[q4n];simp only[STD,qBh hi,qe3,and_self,j5 hi hy]) (by
  rw[q4n];simp only[STD,qqy])
 have key':(qf zI [.r y,.r y,.i (qg y),.i 0]).run=_:=key;rw[qgX];simp only[STD,key',zm key']
def shN(s:qOK):Prop:=(spn s).length<=30/\(spd s).length<=30
instance (s:qOK):Decidable (shN s):=by unfold shN;infer_instance
def E4:R:=[[.i 0,.i 0],[.i 6,.i 0],[.i 3,.i 1]]
theorem qG4:qdd E4=0:=by decide
theorem qND{c:Nat->V3}{t:Nat->Rat}{a:Rat}(h1:qwN c 0 0=a)(ha:a≠0)(e1:a*t 0=d2 (c 0) (c 1)):Bl 1 c t:=by
 refine⟨qc2.2 fun u hu=>?_,fun i hi=>?_⟩
 ·have q1:=hu 0 (by omega);simp only[su,h1] at q1;intro j hj;have:j=0:=by omega
  subst this;have z:a*u 0=0:=by grind
  rcases Rat.mul_eq_zero.1 z with h|h
  ·exact absurd h ha
  ·exact h
 ·have:i=0:=by omega
  subst this;simp only[su,h1];grind
theorem qKb:qBS (pV (raR E4)) (raR E4).length 1 (Lf (raR E4) [0,1]) (fun _=>1/2):=by
 refine⟨qND (a:=72) (by decide +kernel) (by decide +kernel) (by decide +kernel),?_,?_⟩
 ·decide +kernel
 ·decide +kernel
theorem qOt(l:R):∃b,(qdn [.r l]).run=some (0,[.b b]):=by
 rw[qAO];by_cases h1:qg l<=8
 ·exact⟨true,by simp only[STD,h1]⟩
 ·by_cases h2:64<qg l
  ·exact⟨ilt (qg l) 128,by simp only[STD,h1,h2]⟩
  ·exact⟨false,by simp only[STD,h1,h2]⟩
def qNT(a b:Rat):Int:=sgn (a.num*(b.den:Int)-b.num*(a.den:Int))
theorem qMa{a b:Rat}:0<qNT a b↔b<a:=by unfold qNT;rw[qFV,qHE]
theorem qMJ{l:R}(hs:uN l){m:Nat}{L:List Nat}{n:Nat}(h:LO l m L n):bnd 317 223 (sO l L):=qyG hs h.cb (qNa h.len h.lt (by omega))
theorem qNl{x y:Int}(hx:-200000<=x/\x<=200000)(hy:-200000<=y/\y<=200000):-40000000000<=x*y/\x*y<=40000000000:=by
 have h1:(x*y).natAbs<=200000*200000:=by rw[qPZ];exact qPw (by omega) (by omega)
 omega
theorem qKL(x:Int):0<=x*x:=by
 rcases Int.le_total 0 x with h|h
 ·exact qQv h h
 ·exact Int.mul_nonneg_of_nonpos_of_nonpos h h
variable {l:R}
theorem qEv (h0:qdd l=0){L:List Nat}{n:Nat}(lo:LO (raR l) 3 L n):(jT [.r l]).run=some (0,[.s (tQ (cO (raR l) L).x),.s (tQ (cO (raR l) L).y),.s (tQ (sO (raR l) L)),.r (rN L),.i 0]):=by
 obtain⟨L',n',lo',h⟩:=qkZ h0;have e:L'=L:=by have:=lo'.first;rw[lo.first] at this;exact(qPq this).symm
 rw[e] at h;exact h
theorem qHZ {d:Int}(h:¬d<0)(h2:¬100000<d):0<=d*d/\d*d<=10000000000:=by
 refine⟨qKL d,?_⟩;have h1:(d*d).natAbs<=100000*100000:=by rw[qPZ];exact qPw (by omega) (by omega)
 omega
theorem qt6:bnd 1 1 (4:Rat):=⟨by decide,by decide⟩
theorem qLG:tQ 4=[52]:=by decide +kernel
noncomputable def pinB(l:R)(L:List Nat)(d:Int):Bool:=decide (4*sO (raR l) L<=((d*d:Int):Rat))
theorem qME (h0:qdd l=0){L:List Nat}{n:Nat}(lo:LO (raR l) 3 L n){d:Int}(h1:¬d<0)(h2:¬100000<d) :(jH [.r l,.i d]).run=some (0,[.b (pinB l L d),.i 0])/\(q2T [.r l,.i d]).run=some (0,[.b (pinB l L d),.i 0]):=by
 obtain⟨g1,g2,g3,g4,g5⟩:=qls h0;have r1:=qEv h0 lo;have q1:=qFk h0 lo;have sb:=qMJ g4 lo;obtain⟨s1,s2⟩:=qHZ h1 h2;have w:wd .i64 d d=d*d:=uK ⟨by omega,by omega⟩;have r2:=qht qt6 sb (by omega) (by omega);have q2:=q3A (qt6.sm (K:=100000) (by omega) (by omega)) (sb.sm (K:=100000) (by omega) (by omega));rw[qLG] at r2 q2;have r3:=q0X (m:=d*d) ⟨by omega,by omega⟩;have q3:=q15 (m:=d*d) ⟨by omega,by omega⟩;have db:bnd 11 1 ((d*d:Int):Rat):=qqg (qMj (by omega) (by omega)) (by omega);have r4:=qkz (qt6.mul sb) db (by omega) (by omega);change (wH _).run=some (0,[.i (qNT _ _),.i 0]) at r4;have q4:=qpa ((qt6.mul sb).sm (K:=100000) (by omega) (by omega)) (db.sm (K:=100000) (by omega) (by omega));have e1:ile (qNT (4*sO (raR l) L) ((d*d:Int):Rat)) 0=pinB l L d:=by
  unfold ile pinB;rw[decide_eq_decide];have:=qMa (a:=4*sO (raR l) L) (b:=((d*d:Int):Rat));constructor
  ·intro h;exact Rat.not_lt.1 fun hh=>by have:=this.2 hh;omega
  ·intro h;apply qPn;intro hh;exact absurd (this.1 (by omega)) (Rat.not_lt.2 h)
 have e2:ile (sgq (4*sO (raR l) L-((d*d:Int):Rat))) 0=pinB l L d:=by
  unfold ile pinB;rw[decide_eq_decide];have h3:=@qGM (4*sO (raR l) L-((d*d:Int):Rat));constructor
  ·intro h;apply Rat.not_lt.1;intro hh;have:0<sgq (4*sO (raR l) L-((d*d:Int):Rat)):=by rw[h3];grind
   omega
  ·intro h;apply qPn;intro hh;have:0<4*sO (raR l) L-((d*d:Int):Rat):=by rw[<-h3];omega
   grind
 have hr:¬qg l=0:=by unfold qg;omega
 constructor
 ·rw[qi1];simp only[STD,r1,h1,h2,w,r2,r3,r4,e1]
 ·rw[qeD];simp only[STD,q1h,g1,hr,h1,h2,q1,w,q2,q3,q4,e2]
theorem qHe (h0:qdd l≠0)(d:Int):(jH [.r l,.i d]).run=some (0,[.b false,.i (qdd l)])/\(q2T [.r l,.i d]).run=some (0,[.b false,.i (qdd l)]):=by
 constructor
 ·rw[qi1];simp only[STD,(qAh h0).1,h0]
 ·rw[qeD];by_cases h:qEo l=0
  ·have e:qdd l=13/\qg l=0:=by
    unfold qdd at h0 ⊢;rw[if_pos h] at h0 ⊢;split at h0
    ·rename_i h2;rw[if_pos h2];exact⟨rfl,h2⟩
    ·exact absurd rfl h0
   simp only[STD,q1h,h,e.1,e.2]
  ·have e:qdd l=qEo l:=by unfold qdd;rw[if_neg h]
   simp only[STD,q1h,h,e]
theorem qBV (h0:qdd l=0){d:Int}(h:d<0\/100000<d):(jH [.r l,.i d]).run=some (0,[.b false,.i 2])/\(q2T [.r l,.i d]).run=some (0,[.b false,.i 2]):=by
 obtain⟨L,n,lo,r1⟩:=qkZ h0;obtain⟨g1,g2,g3,g4,g5⟩:=qls h0;have hr:¬qg l=0:=by unfold qg;omega
 by_cases h1:d<0
 ·constructor
  ·rw[qi1];simp only[STD,r1,h1]
  ·rw[qeD];simp only[STD,q1h,g1,hr,h1]
 ·have h2:100000<d:=by omega
  constructor
  ·rw[qi1];simp only[STD,r1,h1,h2]
  ·rw[qeD];simp only[STD,q1h,g1,hr,h1,h2]
theorem qFq (l:R)(d:Int):∃b e,(jH [.r l,.i d]).run=some (0,[.b b,.i e])/\(q2T [.r l,.i d]).run=some (0,[.b b,.i e]):=by
 by_cases h0:qdd l=0
 ·by_cases h:d<0\/100000<d
  ·exact⟨_,_,qBV h0 h⟩
  ·obtain⟨L,n,lo,_⟩:=qkZ h0;exact⟨_,_,qME h0 lo (by omega) (by omega)⟩
 ·exact⟨_,_,qHe h0 d⟩
def dS(l:R)(i:Nat):Int:=(cI l i 3-cI l i 0)*(cI l i 3-cI l i 0)+(cI l i 4-cI l i 1)*(cI l i 4-cI l i 1)+(cI l i 5-cI l i 2)*(cI l i 5-cI l i 2)
def prE(l:R)(i:Nat):Int:=if spE (cI l i 0) (cI l i 1) (cI l i 2)=0 then spE (cI l i 3) (cI l i 4) (cI l i 5) else spE (cI l i 0) (cI l i 1) (cI l i 2)
theorem qDE (e:Nat->Int):q0T e 2=if e 0=0 then e 1 else e 0:=by
 unfold q0T q7V q7V q7V qbV;by_cases h0:e 0=0
 ·by_cases h1:e 1=0<;>simp[h0,h1]
 ·simp[h0]
theorem qri {x:Int}(h:-200000<=x/\x<=200000):0<=x*x/\x*x<=40000000000:=⟨qKL x,(qNl h h).2⟩
theorem qoI (a b c d e f:Int):(vV [.i a,.i b,.i c,.i d,.i e,.i f]).run = if (if spE a b c=0 then spE d e f else spE a b c)=0 then some (0,[.i ((d-a)*(d-a)+(e-b)*(e-b)+(f-c)*(f-c)),.i 0]) else some (0,[.i 0,.i 2]):=by
 have r:=qoK [[.i a,.i b,.i c],[.i d,.i e,.i f]] (by simp);have e2:q0T (spA [[.i a,.i b,.i c],[.i d,.i e,.i f]]) 2=if spE a b c=0 then spE d e f else spE a b c:=qDE _
 have r':(zo [.r [[.i a,.i b,.i c],[.i d,.i e,.i f]]]).run=some (0,[.i (if spE a b c=0 then spE d e f else spE a b c)]):=by rw[<-e2];exact r
 rw[qjR];by_cases h1:spE a b c=0
 ·by_cases h2:spE d e f=0
  ·obtain⟨⟨a1,a2⟩,⟨b1,b2⟩,c1,c2⟩:=qoa h1;obtain⟨⟨d1,d2⟩,⟨e1,e2⟩,f1,f2⟩:=qoa h2;have w1:wo .i64 d a=d-a:=ze ⟨by omega,by omega⟩;have w2:wo .i64 e b=e-b:=ze ⟨by omega,by omega⟩;have w3:wo .i64 f c=f-c:=ze ⟨by omega,by omega⟩;have m1:=qri (x:=d-a) ⟨by omega,by omega⟩;have m2:=qri (x:=e-b) ⟨by omega,by omega⟩;have m3:=qri (x:=f-c) ⟨by omega,by omega⟩;have p1:wd .i64 (d-a) (d-a)=(d-a)*(d-a):=uK ⟨by omega,by omega⟩;have p2:wd .i64 (e-b) (e-b)=(e-b)*(e-b):=uK ⟨by omega,by omega⟩;have p3:wd .i64 (f-c) (f-c)=(f-c)*(f-c):=uK ⟨by omega,by omega⟩;have s1:qo .i64 ((d-a)*(d-a)) ((e-b)*(e-b))=(d-a)*(d-a)+(e-b)*(e-b):=qK ⟨by omega,by omega⟩;have s2:qo .i64 ((d-a)*(d-a)+(e-b)*(e-b)) ((f-c)*(f-c))=(d-a)*(d-a)+(e-b)*(e-b)+(f-c)*(f-c):=qK ⟨by omega,by omega⟩;simp only[STD,r',h1,h2,quw,qoM,w1,w2,w3,p1,p2,p3,s1,s2]
  ·have h3:spE d e f=2:=(qcY d e f).resolve_left h2;simp only[STD,r',h1,h3,show ¬(2:Int)=0 by decide]
 ·have h3:spE a b c=2:=(qcY a b c).resolve_left h1;simp only[STD,r',h3,show ¬(2:Int)=0 by decide]
def paE(l:R):Int:=if 64<qg l then 5 else q0T (prE l) l.length
def sqR(l:R)(n:Nat):R:=(List.range n).map fun i:Nat=>[.i (dS l i)]
theorem qfY (l:R)(n:Nat):(sqR l n).length=n:=by unfold sqR;rw[qOV,qPm]
theorem qEn (l:R)(n:Nat):zE (sqR l n) [[.i (dS l n)]]=sqR l (n+1):=by unfold sqR zE;rw[qPO,qP9];rfl
theorem qva (l:R)(i:Nat):prE l i=0\/prE l i=2:=by
 unfold prE;split
 ·exact qcY _ _ _
 ·exact qcY _ _ _
theorem qlu (l:R):(vQ [.r l]).run=some (0,[.r (if paE l=0 then sqR l l.length else []),.i (paE l)]):=by
 rw[qw6];unfold paE;by_cases h:64<qg l
 ·simp only[STD,h,show ¬(5:Int)=0 by decide]
 ·have hl:l.length<=64:=by unfold qg at h;omega
  have key:=kt (S:=q0K) (fun i=>[.r l,.i (l.length:Int),.i (i:Int),.r (sqR l i)]) (fun i=>(qbV (prE l) i).map fun x=>(1,[PV.i x])) (0,[.r (sqR l l.length)]) l.length (by omega) (fun i hi hf=>by
   have h0:prE l i=0:=by
    unfold qbV at hf;split at hf
    ·assumption
    ·cases hf
   have r:=qoI (cI l i 0) (cI l i 1) (cI l i 2) (cI l i 3) (cI l i 4) (cI l i 5);rw[if_pos (show (if spE (cI l i 0) (cI l i 1) (cI l i 2)=0 then spE (cI l i 3) (cI l i 4) (cI l i 5) else spE (cI l i 0) (cI l i 1) (cI l i 2))=0 from h0)] at r;have lr:qg (sqR l i)=(i:Int):=by unfold qg;rw[qfY]
   have e1:∀x:U,qg [[x]]=1:=fun _=>rfl;have es:=qEn l i;unfold dS at es;rw[qae];simp only[STD,r,lr,e1,es,j5 hi (show l.length<9223372036854775808 by omega),show (i:Int)<l.length by omega,show (0:Int)<=i by omega,show qg l=(l.length:Int) from rfl,show (i:Int)+1<=17592186044416 by omega,and_self]) (fun i r hi hf=>by
   have h0:prE l i≠0/\r=(1,[PV.i (prE l i)]):=by
    unfold qbV at hf;split at hf
    ·cases hf
    ·rename_i hh;cases hf;exact⟨hh,rfl⟩
   have h2:prE l i=2:=(qva l i).resolve_left h0.1;have rr:=qoI (cI l i 0) (cI l i 1) (cI l i 2) (cI l i 3) (cI l i 4) (cI l i 5);rw[if_neg (show ¬(if spE (cI l i 0) (cI l i 1) (cI l i 2)=0 then spE (cI l i 3) (cI l i 4) (cI l i 5) else spE (cI l i 0) (cI l i 1) (cI l i 2))=0 from h0.1)] at rr;rw[h0.2,h2,qae];simp only[STD,rr,show (i:Int)<l.length by omega,show (0:Int)<=i by omega,show qg l=(l.length:Int) from rfl,show ¬(2:Int)=0 by decide,and_self]) (by
   rw[qae];simp only[STD,show ¬(l.length:Int)<l.length by omega])
  have key':(qf q0K [.r l,.i (l.length:Int),.i 0,.r []]).run=_:=key;have lr:qg l=(l.length:Int):=rfl;by_cases hf:q0T (prE l) l.length=0
  ·have hs:q7V (fun i=>(qbV (prE l) i).map fun x=>((1:Nat),[PV.i x])) 0 l.length=none:=by rw[qlo (g:=fun _=>none) (fun j _ hj=>by unfold qbV;rw[if_pos (qhY hf j (by omega))];rfl),qAs]
   rw[hs] at key';rw[lr] at h;simp only[STD,lr,h,key',zm key',hf,Option.getD_none]
  ·cases hs:q7V (fun i=>(qbV (prE l) i).map fun x=>((1:Nat),[PV.i x])) 0 l.length with
   | none=>
    exfalso;exact hf (qG9 fun i hi=>by
     have:=qgj hs i (by omega) (by omega);unfold qbV at this;split at this
     ·assumption
     ·cases this)
   | some v=>
    obtain⟨j,_,hj2,hj⟩:=qgl hs;have hv:prE l j≠0/\v=(1,[PV.i (prE l j)]):=by
     unfold qbV at hj;split at hj
     ·cases hj
     ·rename_i hh;cases hj;exact⟨hh,rfl⟩
    have h2:prE l j=2:=(qva l j).resolve_left hv.1;have hE:q0T (prE l) l.length=2:=by
     unfold q0T at hf ⊢;cases hs2:q7V (qbV (prE l)) 0 l.length with
     | none=>rw[hs2] at hf;exact absurd rfl hf
     | some x=>
      obtain⟨k,_,_,hk⟩:=qgl hs2;unfold qbV at hk;split at hk
      ·cases hk
      ·rename_i hh;cases hk;exact(qva l k).resolve_left hh
    rw[hs,hv.2,h2] at key';rw[lr] at h;simp only[STD,lr,h,key',zm key',hE,qPI,show ¬((1:Nat)=0) by decide,show ¬(2:Int)=0 by decide]
end Go.Eng

namespace Go.Eng
def qJk(lo hi:Int):Int:=if (-100000<=lo/\lo<=100000)/\(-100000<=hi/\hi<=100000) then (if hi<lo then 9 else 0) else 2
theorem qol(x:Int):(wu [.i x]).run=some (0,[.b (decide (-100000<=x/\x<=100000))]):=by
 rw[qn0];by_cases h1:-100000<=x
 ·by_cases h2:x<=100000
  ·simp only[STD,h1,h2,and_self,decide_true];rw[show ile x 100000=true from by simp[ile,h2]]
  ·simp only[STD,h1,h2,and_false,decide_false];rw[show ile x 100000=false from by simp[ile];omega]
 ·simp only[STD,h1,false_and,decide_false]
theorem qe7(lo hi:Int):(q0z [.i lo,.i hi]).run=some (0,[.i (qJk lo hi)]):=by
 rw[qom];unfold qJk;by_cases h1:-100000<=lo/\lo<=100000
 ·by_cases h2:-100000<=hi/\hi<=100000
  ·by_cases h3:hi<lo
   ·simp only[STD,qol,h1,h2,h3,and_self]
   ·simp only[STD,qol,h1,h2,h3,and_self]
  ·simp only[STD,qol,h1,h2,and_self,and_false]
 ·simp only[STD,qol,h1,false_and]
theorem qhM(x:Int):(q6b [.i x]).run=some (0,[.b (decide (-100000<=x/\x<=100000))]):=by
 rw[qCu];by_cases h1:-100000<=x
 ·by_cases h2:x<=100000
  ·simp only[STD,h1,h2,and_self,decide_true];rw[show ile x 100000=true from by simp[ile,h2]]
  ·simp only[STD,h1,h2,and_false,decide_false];rw[show ile x 100000=false from by simp[ile];omega]
 ·simp only[STD,h1,false_and,decide_false]
theorem qmA(lo hi:Int):(q7M [.i lo,.i hi]).run=some (0,[.i (qJk lo hi)]):=by
 rw[qwQ];unfold qJk;by_cases h1:-100000<=lo/\lo<=100000
 ·by_cases h2:-100000<=hi/\hi<=100000
  ·by_cases h3:hi<lo
   ·simp only[STD,qhM,h1,h2,h3,and_self]
   ·simp only[STD,qhM,h1,h2,h3,and_self]
  ·simp only[STD,qhM,h1,h2,and_self,and_false]
 ·simp only[STD,qhM,h1,false_and]
def lmE(lo hi:Int):Int:=if qJk lo hi=0 then (if lo<0 then 2 else 0) else qJk lo hi
theorem ql2(lo hi:Int):(q7g [.i lo,.i hi]).run=some (0,[.i (lmE lo hi)])/\(q5W [.i lo,.i hi]).run=some (0,[.i (lmE lo hi)]):=by
 unfold lmE;constructor
 ·rw[qw4];by_cases h:qJk lo hi=0
  ·by_cases h2:lo<0<;>simp only[STD,qe7,h,h2]
  ·simp only[STD,qe7,h]
 ·rw[qyO];by_cases h:qJk lo hi=0
  ·by_cases h2:lo<0<;>simp only[STD,qmA,h,h2]
  ·simp only[STD,qmA,h]
theorem qK7{lo hi:Int}(h:lmE lo hi=0):0<=lo/\lo<=hi/\hi<=100000:=by
 unfold lmE at h;split at h
 ·rename_i h1;unfold qJk at h1;split at h1
  ·split at h1
   ·omega
   ·split at h<;>omega
  ·omega
 ·omega
theorem qtf{l:R}(h:paE l=0):l.length<=64/\∀i,i<l.length->spE (cI l i 0) (cI l i 1) (cI l i 2)=0/\spE (cI l i 3) (cI l i 4) (cI l i 5)=0:=by
 unfold paE at h;split at h
 ·omega
 ·rename_i h64;unfold qg at h64;refine⟨by omega,fun i hi=>?_⟩;have:=qhY h i hi;unfold prE at this;split at this
  ·rename_i h1;exact⟨h1,this⟩
  ·rename_i h1;exact absurd this h1
def qgT(f:Nat->Int):Nat->Nat
 | 0=>0
 | i+1=>if f i<f (qgT f i) then i else qgT f i
def qdC(f:Nat->Int):Nat->Nat
 | 0=>0
 | i+1=>if f (qdC f i)<f i then i else qdC f i
theorem qur(f:Nat->Int):∀{n:Nat},0<n->qgT f n<n
 | 0,h=>by omega
 | n+1,_=>by
  simp only[qgT];split
  ·omega
  ·cases n with
   | zero=>simp[qgT]
   | succ n=>have:=qur f (n:=n+1) (by omega);omega
theorem qun(f:Nat->Int):∀{n:Nat},0<n->qdC f n<n
 | 0,h=>by omega
 | n+1,_=>by
  simp only[qdC];split
  ·omega
  ·cases n with
   | zero=>simp[qdC]
   | succ n=>have:=qun f (n:=n+1) (by omega);omega
theorem qLb(f:Nat->Int){i n:Nat}(h:i<n):qgT f i<n/\qdC f i<n:=by
 cases i with
 | zero=>simp only[qgT,qdC];omega
 | succ i=>exact⟨by have:=qur f (n:=i+1) (by omega);omega,by have:=qun f (n:=i+1) (by omega);omega⟩
def qHz(s:R)(lo hi:Int)(i:Nat):Option Nat:=if cI s i 0<lo*lo\/hi*hi<cI s i 0 then some i else none
def kpR(s:R)(lo hi:Int):List PV:=match q7V (qHz s lo hi) 0 s.length with
 | none=>[.b true,.i s.length,.i 0]
 | some j=>[.b false,.i j,.i 0]
theorem qNF{lo hi:Int}(h:lmE lo hi=0):wd .i64 lo lo=lo*lo/\wd .i64 hi hi=hi*hi:=by obtain⟨h1,h2,h3⟩:=qK7 h;have a:=qHZ (d:=lo) (by omega) (by omega);have b:=qHZ (d:=hi) (by omega) (by omega);exact⟨uK ⟨by omega,by omega⟩,uK ⟨by omega,by omega⟩⟩
theorem qto{f:Nat->Option Nat}{g:Nat->Nat×List PV}:∀k i,q7V (fun j=>(f j).map g) i k=(q7V f i k).map g
 | 0,_=>rfl
 | k+1,i=>by
  simp only[q7V];cases f i with
  | none=>simp only[Option.map_none];exact qto k (i+1)
  | some x=>rfl
theorem qAk{s:R}(hs:s.length<=64){lo hi:Int}(h:lmE lo hi=0) :(w8 [.r s,.i lo,.i hi]).run=some (0,[.i (match q7V (qHz s lo hi) 0 s.length with|none=>-1|some j=>(j:Int)),.i lo,.i hi]):=by
 obtain⟨w1,w2⟩:=qNF h;have lr:qg s=(s.length:Int):=rfl;have key:=kt (S:=z7) (fun i=>[.r s,.i (s.length:Int),.i (i:Int),.i lo,.i hi]) (fun i=>(qHz s lo hi i).map fun j:Nat=>(1,[PV.i (j:Int),.i lo,.i hi])) (0,[.i lo,.i hi]) s.length (by omega) (fun i hi2 hf=>by
  have hb:¬(cI s i 0<lo*lo\/hi*hi<cI s i 0):=fun hb=>by unfold qHz at hf;rw[if_pos hb] at hf;cases hf
  have e:ilt (hi*hi) (cI s i 0)=false:=by unfold ilt;simp;omega
  rw[jS];simp only[STD,qcA,w1,w2,lr,e,j5 hi2 (show s.length<9223372036854775808 by omega),show ¬cI s i 0<lo*lo by omega,show (i:Int)<s.length by omega,show (0:Int)<=i by omega,and_self]) (fun i r hi2 hf=>by
  have hb:(cI s i 0<lo*lo\/hi*hi<cI s i 0)/\r=(1,[PV.i (i:Int),.i lo,.i hi]):=by
   unfold qHz at hf;split at hf
   ·rename_i hb;cases hf;exact⟨hb,rfl⟩
   ·cases hf
  rw[hb.2,jS];by_cases c:cI s i 0<lo*lo
  ·simp only[STD,qcA,w1,w2,lr,c,show (i:Int)<s.length by omega,show (0:Int)<=i by omega,and_self]
  ·have e:ilt (hi*hi) (cI s i 0)=true:=by unfold ilt;simp;omega
   simp only[STD,qcA,w1,w2,lr,c,e,show (i:Int)<s.length by omega,show (0:Int)<=i by omega,and_self]) (by
  rw[jS];simp only[STD,show ¬(s.length:Int)<s.length by omega])
 rw[qto] at key;have key':(qf z7 [.r s,.i (s.length:Int),.i 0,.i lo,.i hi]).run=_:=key;rw[qd0];cases hsc:q7V (qHz s lo hi) 0 s.length with
 | none=>
  rw[hsc] at key';simp only[Option.map_none,Option.getD_none] at key';simp only[STD,lr,key',zm key']
 | some j=>
  rw[hsc] at key';simp only[qPk,qPI] at key';simp only[STD,lr,key',zm key',show ¬((1:Nat)=0) by decide]
theorem qD8(l:R)(lo hi:Int):(q0S [.r l,.i lo,.i hi]).run=some (0,if paE l=0 then (if lmE lo hi=0 then kpR (sqR l l.length) lo hi else [.b false,.i 0,.i (lmE lo hi)]) else [.b false,.i 0,.i (paE l)]):=by
 rw[qzl];by_cases h:paE l=0
 ·obtain⟨hl,_⟩:=qtf h;have r1:=qlu l;rw[if_pos h] at r1;by_cases h2:lmE lo hi=0
  ·have r2:=qAk (s:=sqR l l.length) (by rw[qfY];exact hl) h2;unfold kpR;rw[if_pos h,if_pos h2];cases hsc:q7V (qHz (sqR l l.length) lo hi) 0 (sqR l l.length).length with
   | none=>
    rw[hsc] at r2;simp only[STD,r1,h,(ql2 lo hi).1,h2,r2,show ¬(0:Int)<=-1 by decide];rfl
   | some j=>
    rw[hsc] at r2;simp only[STD,r1,h,(ql2 lo hi).1,h2,r2,show (0:Int)<=(j:Int) by omega]
  ·rw[if_pos h,if_neg h2];simp only[STD,r1,h,(ql2 lo hi).1,h2]
 ·rw[if_neg h];simp only[STD,qlu,h]
variable {l:R}
def cA(l:R)(a:Int)(i:Nat):Int:=qqf [cI l i 0,cI l i 1,cI l i 2] a
theorem qoC (x y z:Int){a:Int}(h:0<=a/\a<3):(qG [.i x,.i y,.i z,.i a]).run=some (0,[.i (qqf [x,y,z] a),.i a]):=by rw[qkL];simp only[STD,h.1,h.2,and_self]
theorem qCY (h0:0<l.length)(h:l.length<=64){a:Int}(ha:0<=a/\a<3):(wY [.r l,.i a]).run=some (0,[.i (qgT (cA l a) l.length:Int),.i (qdC (cA l a) l.length:Int),.i a]):=by
 have key:=qu (S:=zp) (fun i=>[.r l,.r l,.i (l.length:Int),.i (i:Int),.i a,.i 0,.i 0,.i (qgT (cA l a) i:Int),.i (qdC (cA l a) i:Int)])
  (0,[.i a,.i 0,.i 0,.i (qgT (cA l a) l.length:Int),.i (qdC (cA l a) l.length:Int)]) l.length (by omega) (fun i hi=>by
  obtain⟨b1,b2⟩:=qLb (cA l a) hi;have lr:qg l=(l.length:Int):=rfl;have w:=j5 hi (show l.length<9223372036854775808 by omega);obtain⟨x,hx⟩:∃x,x=qgT (cA l a) i:=⟨_,rfl⟩;obtain⟨y,hy⟩:∃y,y=qdC (cA l a) i:=⟨_,rfl⟩;have e1:qgT (cA l a) (i+1)=if cA l a i<cA l a x then i else x:=by rw[hx];rfl
  have e2:qdC (cA l a) (i+1)=if cA l a y<cA l a i then i else y:=by rw[hy];rfl
  have ei:qqf [cI l i 0,cI l i 1,cI l i 2] a=cA l a i:=rfl;have ex:qqf [cI l x 0,cI l x 1,cI l x 2] a=cA l a x:=rfl;have ey:qqf [cI l y 0,cI l y 1,cI l y 2] a=cA l a y:=rfl;rw[<-hx] at b1;rw[<-hy] at b2;rw[q37,e1,e2,<-hx,<-hy];by_cases c1:cA l a i<cA l a x
  ·by_cases c2:cA l a y<cA l a i
   ·simp only[STD,qoC _ _ _ ha,lr,w,ei,ex,ey,c1,c2,show (i:Int)<l.length by omega,show (0:Int)<=i by omega,show (x:Int)<l.length by omega,show (0:Int)<=x by omega,show (y:Int)<l.length by omega,show (0:Int)<=y by omega,and_self]
   ·simp only[STD,qoC _ _ _ ha,lr,w,ei,ex,ey,c1,c2,show (i:Int)<l.length by omega,show (0:Int)<=i by omega,show (x:Int)<l.length by omega,show (0:Int)<=x by omega,show (y:Int)<l.length by omega,show (0:Int)<=y by omega,and_self]
  ·by_cases c2:cA l a y<cA l a i
   ·simp only[STD,qoC _ _ _ ha,lr,w,ei,ex,ey,c1,c2,show (i:Int)<l.length by omega,show (0:Int)<=i by omega,show (x:Int)<l.length by omega,show (0:Int)<=x by omega,show (y:Int)<l.length by omega,show (0:Int)<=y by omega,and_self]
   ·simp only[STD,qoC _ _ _ ha,lr,w,ei,ex,ey,c1,c2,show (i:Int)<l.length by omega,show (0:Int)<=i by omega,show (x:Int)<l.length by omega,show (0:Int)<=x by omega,show (y:Int)<l.length by omega,show (0:Int)<=y by omega,and_self]) (by
  rw[q37];simp only[STD,show ¬(l.length:Int)<l.length by omega])
 have key':(qf zp [.r l,.r l,.i (l.length:Int),.i 0,.i a,.i 0,.i 0,.i 0,.i 0]).run=_:=key;rw[qfP];simp only[STD,show qg l=(l.length:Int) from rfl,key']
def mnA(l:R)(a:Int):Int:=cA l a (qgT (cA l a) l.length)
def mxA(l:R)(a:Int):Int:=cA l a (qdC (cA l a) l.length)
theorem q92 (h0:0<l.length)(h:l.length<=64){a:Int}(ha:0<=a/\a<3):(zn [.r l,.i a]).run=some (0,[.i (mnA l a),.i (mxA l a)]):=by have r:=qCY h0 h ha;have b1:=qur (cA l a) h0;have b2:=qun (cA l a) h0;have lr:qg l=(l.length:Int):=rfl;rw[qnV];simp only[STD,r,lr,qoC _ _ _ ha,show ((qgT (cA l a) l.length:Nat):Int)<l.length by omega,show (0:Int)<=((qgT (cA l a) l.length:Nat):Int) by omega,show ((qdC (cA l a) l.length:Nat):Int)<l.length by omega,show (0:Int)<=((qdC (cA l a) l.length:Nat):Int) by omega,and_self];rfl
def sdE(l:R):Int:=if qg l=0 then 13 else qKI l
def fcE(a:Int)(l m:R):Int:=if a<0 then 1 else if 3<=a then 1 else if sdE l=0 then (if sdE m=0 then (if mnA m a<=mxA l a then 9 else 0) else sdE m) else sdE l
theorem qtd (h:sdE l=0):0<l.length/\l.length<=64/\uN l:=by
 unfold sdE at h;split at h
 ·omega
 ·rename_i h1;have sp:=qII h;exact⟨by unfold qg at h1;omega,sp.1,sp⟩
theorem qLs (l m:R)(a:Int){i:Nat}(hi:i<2):(jo [.r l,.r m,.i (i:Int),.i a,.r l,.r m]).run=if sdE (if i=0 then l else m)=0 then some (0,[.r l,.r m,.i ((i+1:Nat):Int),.i a,.r l,.r m]) else some (2,.i (sdE (if i=0 then l else m))::[]):=by
 have w:=j5 hi (show 2<9223372036854775808 by omega);rw[qky];rcases (show i=0\/i=1 by omega) with rfl|rfl
 ·have w':qo .i64 0 1=((0+1:Nat):Int):=w;rw[if_pos rfl];unfold sdE;by_cases h:qg l=0
  ·simp only[STD,h,show ((0:Nat):Int)=0 from rfl,show (0:Int)<2 by decide,show ¬(13:Int)=0 by decide]
  ·by_cases h2:qKI l=0
   ·simp only[STD,h,h2,q1k,w',show ((0:Nat):Int)=0 from rfl,show (0:Int)<2 by decide]
   ·simp only[STD,h,h2,q1k,show ((0:Nat):Int)=0 from rfl,show (0:Int)<2 by decide]
 ·have w':qo .i64 1 1=((1+1:Nat):Int):=w;rw[show (if (1:Nat)=0 then l else m)=m from rfl];unfold sdE;by_cases h:qg m=0
  ·simp only[STD,h,show ((1:Nat):Int)=1 from rfl,show (1:Int)<2 by decide,show ¬(1:Int)=0 by decide,show ¬(13:Int)=0 by decide]
  ·by_cases h2:qKI m=0
   ·simp only[STD,h,h2,q1k,w',show ((1:Nat):Int)=1 from rfl,show (1:Int)<2 by decide,show ¬(1:Int)=0 by decide]
   ·simp only[STD,h,h2,q1k,show ((1:Nat):Int)=1 from rfl,show (1:Int)<2 by decide,show ¬(1:Int)=0 by decide]
theorem qoP (a:Int)(l m:R):(kF [.i a,.r l,.r m]).run=some (0,[.i (fcE a l m)]):=by
 rw[qyZ];unfold fcE;by_cases h1:a<0
 ·simp only[STD,h1]
 by_cases h2:3<=a
 ·simp only[STD,h1,h2]
 have k:=qpF (S:=jo) (fun i=>[.r l,.r m,.i (i:Int),.i a,.r l,.r m]) (fun i=>sdE (if i=0 then l else m)) [] [.i a,.r l,.r m] 2 (by omega) (fun i hi=>qLs l m a hi) (by rw[qky];simp only[STD,show ¬((2:Nat):Int)<2 by decide]);have e:q0T (fun i=>sdE (if i=0 then l else m)) 2=if sdE l=0 then sdE m else sdE l:=qDE _
 rw[e] at k;by_cases h3:sdE l=0
 ·by_cases h4:sdE m=0
  ·rw[if_pos (by rw[if_pos h3];exact h4)] at k;have k':(qf jo [.r l,.r m,.i 0,.i a,.r l,.r m]).run=_:=k;obtain⟨l1,l2,_⟩:=qtd h3;obtain⟨m1,m2,_⟩:=qtd h4;have c1:=q92 l1 l2 (a:=a) ⟨by omega,by omega⟩;have c2:=q92 m1 m2 (a:=a) ⟨by omega,by omega⟩;by_cases h5:mnA m a<=mxA l a
   ·simp only[STD,h1,h2,h3,h4,k',zm k',c1,c2,h5]
   ·simp only[STD,h1,h2,h3,h4,k',zm k',c1,c2,h5]
  ·rw[if_neg (by rw[if_pos h3];exact h4),if_pos h3] at k;have k':(qf jo [.r l,.r m,.i 0,.i a,.r l,.r m]).run=_:=k;simp only[STD,h1,h2,h3,h4,k',zm k',show ¬((1:Nat)=0) by decide]
 ·rw[if_neg (by rw[if_neg h3];exact h3),if_neg h3] at k;have k':(qf jo [.r l,.r m,.i 0,.i a,.r l,.r m]).run=_:=k;simp only[STD,h1,h2,h3,k',zm k',show ¬((1:Nat)=0) by decide]
theorem qJ4 {a:Int}{l m:R}(h:fcE a l m=0):(0<=a/\a<3)/\(0<l.length/\l.length<=64/\uN l)/\(0<m.length/\m.length<=64/\uN m)/\mxA l a<mnA m a:=by
 unfold fcE at h;split at h
 ·omega
 ·split at h
  ·omega
  ·split at h
   ·rename_i h3;split at h
    ·rename_i h4;split at h
     ·omega
     ·exact⟨⟨by omega,by omega⟩,qtd h3,qtd h4,by omega⟩
    ·omega
   ·omega
theorem qJz (hs:uN l){i:Nat}(hi:i<l.length){a:Int}(ha:0<=a/\a<3):co (cA l a i):=by
 obtain⟨h1,h2,h3⟩:=hs.2 i hi;unfold cA;rcases (show a=0\/a=1\/a=2 by omega) with rfl|rfl|rfl
 ·exact h1
 ·exact h2
 ·exact h3
theorem qum {a:Int}{l m:R}(h:fcE a l m=0):(q1a [.i a,.r l,.r m]).run=some (0,[.i (mnA m a-mxA l a),.i (mxA m a-mnA l a)]):=by obtain⟨ha,⟨l1,l2,l3⟩,⟨m1,m2,m3⟩,_⟩:=qJ4 h;have c1:=q92 l1 l2 ha;have c2:=q92 m1 m2 ha;have x1:=qJz l3 (qur (cA l a) l1) ha;have x2:=qJz l3 (qun (cA l a) l1) ha;have y1:=qJz m3 (qur (cA m a) m1) ha;have y2:=qJz m3 (qun (cA m a) m1) ha;unfold co at *;have w1:wo .i64 (mnA m a) (mxA l a)=mnA m a-mxA l a:=ze ⟨by unfold mnA mxA;omega,by unfold mnA mxA;omega⟩;have w2:wo .i64 (mxA m a) (mnA l a)=mxA m a-mnA l a:=ze ⟨by unfold mnA mxA;omega,by unfold mnA mxA;omega⟩;rw[qvY];simp only[STD,c1,c2,w1,w2]
theorem qAU (a:Int)(l m:R)(b:Bool):(q3e [.i a,.r l,.r m,.b b]).run=some (0,if fcE a l m=0 then [.i (if b=true then mnA m a-mxA l a else mxA m a-mnA l a),.i 0] else [.i 0,.i (fcE a l m)]):=by
 rw[qwF];by_cases h:fcE a l m=0
 ·cases b
  ·simp only[STD,qoP,h,qum h]
  ·simp only[STD,qoP,h,qum h]
 ·simp only[STD,qoP,h]
theorem qHc (a:Int)(l m:R):(q6q [.i a,.r l,.r m]).run=some (0,if fcE a l m=0 then [.i (mnA m a-mxA l a),.i (mxA m a-mnA l a),.i 0] else [.i 0,.i 0,.i (fcE a l m)]):=by
 rw[qvJ];by_cases h:fcE a l m=0
 ·simp only[STD,qoP,h,qum h]
 ·simp only[STD,qoP,h]
theorem qGS {L:List Nat}{n:Nat}(lo:LO (raR E4) 3 L n):sO (raR E4) L=9:=by
 have su:=qDO qKb (by decide) (by
  intro j k h1 h2;have e:j=0/\k=1:=by omega
  obtain⟨rfl,rfl⟩:=e;decide)
 obtain⟨e,_⟩:=qJo lo.sup su;rw[e];decide +kernel
theorem qKn (d:Int)(h1:¬d<0)(h2:¬100000<d):(jH [.r E4,.i d]).run=some (0,[.b (decide ((36:Rat)<=((d*d:Int):Rat))),.i 0]):=by obtain⟨L,n,lo,_⟩:=qkZ qG4;rw[(qME qG4 lo h1 h2).1];unfold pinB;rw[qGS lo,show (4:Rat)*9=36 by decide +kernel]
theorem qow:(yo []).run=some (0,[.b true]):=by
 have a0:=qlu [[.i 0,.i 0,.i 0,.i 3,.i 4,.i 0]];have a1:=qD8 [[.i 0,.i 0,.i 0,.i 3,.i 4,.i 0]] 4 5;have a2:=qD8 [[.i 0,.i 0,.i 0,.i 3,.i 4,.i 0]] 6 7;have a4:=qAU 0 [[.i 0,.i 0,.i 0],[.i 1,.i 5,.i 0]] [[.i 10,.i 0,.i 0],[.i 12,.i 5,.i 0]] true;have a5:=qAU 0 [[.i 0,.i 0,.i 0],[.i 1,.i 5,.i 0]] [[.i 10,.i 0,.i 0],[.i 12,.i 5,.i 0]] false;have a6:=qHc 0 [[.i 0,.i 0,.i 0],[.i 1,.i 5,.i 0]] [[.i 10,.i 0,.i 0],[.i 12,.i 5,.i 0]];have a7:(jH [.r [[.i 0,.i 0],[.i 6,.i 0],[.i 3,.i 1]],.i 6]).run=_:=qKn 6 (by decide) (by decide);have a8:(jH [.r [[.i 0,.i 0],[.i 6,.i 0],[.i 3,.i 1]],.i 5]).run=_:=qKn 5 (by decide) (by decide);have v0:paE [[.i 0,.i 0,.i 0,.i 3,.i 4,.i 0]]=0:=by decide
 have v1:sqR [[.i 0,.i 0,.i 0,.i 3,.i 4,.i 0]] (List.length [[U.i 0,.i 0,.i 0,.i 3,.i 4,.i 0]])=[[.i 25]]:=rfl;have v2:fcE 0 [[.i 0,.i 0,.i 0],[.i 1,.i 5,.i 0]] [[.i 10,.i 0,.i 0],[.i 12,.i 5,.i 0]]=0:=by decide
 have v3:mnA [[.i 10,.i 0,.i 0],[.i 12,.i 5,.i 0]] 0=10:=by decide
 have v4:mxA [[.i 10,.i 0,.i 0],[.i 12,.i 5,.i 0]] 0=12:=by decide
 have v5:mnA [[.i 0,.i 0,.i 0],[.i 1,.i 5,.i 0]] 0=0:=by decide
 have v6:mxA [[.i 0,.i 0,.i 0],[.i 1,.i 5,.i 0]] 0=1:=by decide
 have k1:kpR [[.i 25]] 4 5=[.b true,.i 1,.i 0]:=rfl;have k2:kpR [[.i 25]] 6 7=[.b false,.i 0,.i 0]:=rfl;rw[if_pos v0,v0,v1] at a0;rw[if_pos v0,if_pos (by decide),v1,k1] at a1;rw[if_pos v0,if_pos (by decide),v1,k2] at a2;rw[if_pos v2,if_pos rfl,v3,v6] at a4;rw[if_pos v2,if_neg (by decide),v4,v5] at a5;rw[if_pos v2,v3,v6,v4,v5] at a6;rw[show decide ((36:Rat)<=((6*6:Int):Rat))=true by decide +kernel] at a7;rw[show decide ((36:Rat)<=((5*5:Int):Rat))=false by decide +kernel] at a8;have eq:=quF (y:=[[.i 25]]) (by decide);rw[qvT];have w0:qo .i64 0 0=0:=by decide
 simp only[STD,a0,a1,a2,qzb,a4,a5,a6,a7,a8,eq,w0,show (10:Int)-1=9 by decide,show (12:Int)-0=12 by decide,and_self,Bool.not_false]
theorem qxT (x0:R)(x1:Int)(_:UFit (.sl [(.int .i64),(.int .i64)]) (.l x0))(_:x0.length*16<=140737488351232)(_:IntKind.min .i64<=x1)(_:x1<=IntKind.max .i64):(q1y [.r x0,.i x1]).run=some (0,[.b true]):=by
 rw[qrz];obtain⟨b,hb⟩:=qOt x0;cases b with
 | false=>simp only[STD,hb,qow]
 | true=>
  obtain⟨c,e,r1,r2⟩:=qFq x0 x1;simp only[STD,hb,r1,r2,qow];simp[ieq]
end Go.Eng

namespace Go.Eng
end Go.Eng

