/- Texts of the proof, merged: what the code computes, and plain laws. No statement stands here. -/
import Derived.Test.YtiohngnhjabaiaaGreatDoorM6
namespace Go.Eng
variable {l:R}
def ptE(x y:Int):Int:=if -100000<=x/\x<=100000/\-100000<=y/\y<=100000 then 0 else 2
def ptA(l:R)(i:Nat):Int:=ptE (cI l i 0) (cI l i 1)
def qwv(l:R):Int:=if 64<qh l then 5 else q1s (ptA l) l.length
theorem qx9 (x y:Int):ptE x y=0\/ptE x y=2:=by unfold ptE;split<;>simp
theorem qAC {x y:Int}(h:ptE x y=0):-100000<=x/\x<=100000/\-100000<=y/\y<=100000:=by
 unfold ptE at h;split at h
 ·assumption
 ·omega
theorem qiI (x:Int):(zu [.i x]).run=some (0,[.b (decide (-100000<=x/\x<=100000))]):=by rw[qq4];simp only[STD];by_cases h:-100000<=x<;>simp[h,ile]
theorem quG (x:Int):(jT [.i x]).run=some (0,[.b (decide (-100000<=x/\x<=100000))]):=by rw[qzm];simp only[STD];by_cases h:-100000<=x<;>simp[h,ile]
theorem qvi (x y:Int):(kS [.i x,.i y]).run=some (0,[.b (decide (ptE x y=0))]):=by rw[qth];simp only[STD,qiI];unfold ptE;by_cases h:-100000<=x<;>by_cases h2:x<=100000<;>by_cases h3:-100000<=y<;>by_cases h4:y<=100000<;>simp[h,h2,h3,h4]
theorem qnh (x y:Int):(q08 [.i x,.i y]).run=some (0,[.b (decide (ptE x y=0))]):=by rw[qt8];simp only[STD,quG];unfold ptE;by_cases h:-100000<=x<;>by_cases h2:x<=100000<;>by_cases h3:-100000<=y<;>by_cases h4:y<=100000<;>simp[h,h2,h3,h4]
theorem qxv (l:R)(hl:l.length<9223372036854775808):(jO [.r l]).run=some (0,[.i (q1s (ptA l) l.length)]):=by
 rw[qfq];have k:=qqh (S:=zS) (fun i=>[.r l,.i (qh l),.i (i:Int)]) (ptA l) [] [] l.length hl (fun i hi=>by
  rw[q4T];simp only[STD,qwI hi,qcT,qvi,and_self,kq hi hl];show (if ¬ptA l i=0 then _ else _)=_;have:=qx9 (cI l i 0) (cI l i 1);by_cases he:ptA l i=0
  ·simp[he]
  ·have:ptA l i=2:=by unfold ptA at *;omega
   simp[this]) (by
  rw[q4T];simp only[STD,qra])
 by_cases hf:q1s (ptA l) l.length=0
 ·rw[if_pos hf] at k;have k':(qf zS [.r l,.i (qh l),.i 0]).run=_:=k;simp only[STD,k',zU k',hf]
 ·rw[if_neg hf] at k;have k':(qf zS [.r l,.i (qh l),.i 0]).run=_:=k;simp only[STD,k',zU k',show ¬((1:Nat)=0) by decide]
theorem qkd (l:R):(q4L [.r l]).run=some (0,[.i (qwv l)]):=by
 rw[qrv];have e:(wV [.r l]).run=some (0,[.i (qwv l)]):=by
  rw[qbH];unfold qwv;by_cases h:64<qh l
  ·simp only[STD,h]
  ·simp only[STD,h,qxv l (by unfold qh at h;omega)]
 simp only[STD,e]
theorem qvZ (l:R):(q3V [.r l]).run=some (0,[.i (qwv l)]):=by
 rw[qsT];unfold qwv;by_cases h:64<qh l
 ·simp only[STD,h]
 ·have hl:l.length<9223372036854775808:=by unfold qh at h;omega
  have k:=qqh (S:=uZ) (fun i=>[.r l,.i (i:Int)]) (ptA l) [] [] l.length hl (fun i hi=>by
   rw[qgX];simp only[STD,qwI hi,qcT,qnh,and_self,kq hi hl];show (if ¬ptA l i=0 then _ else _)=_;have:=qx9 (cI l i 0) (cI l i 1);by_cases he:ptA l i=0
   ·simp[he]
   ·have:ptA l i=2:=by unfold ptA at *;omega
    simp[this]) (by
   rw[qgX];simp only[STD,qra])
  by_cases hf:q1s (ptA l) l.length=0
  ·rw[if_pos hf] at k;have k':(qf uZ [.r l,.i 0]).run=_:=k;simp only[STD,k',zU k',hf,h]
  ·rw[if_neg hf] at k;have k':(qf uZ [.r l,.i 0]).run=_:=k;simp only[STD,k',zU k',h,show ¬((1:Nat)=0) by decide]
def spE(x y z:Int):Int:=if -100000<=x/\x<=100000/\-100000<=y/\y<=100000/\-100000<=z/\z<=100000 then 0 else 2
def spA(l:R)(i:Nat):Int:=spE (cI l i 0) (cI l i 1) (cI l i 2)
def qBb(l:R):Int:=if 64<qh l then 5 else q1s (spA l) l.length
theorem qwH (x y z:Int):spE x y z=0\/spE x y z=2:=by unfold spE;split<;>simp
theorem qAA {x y z:Int}(h:spE x y z=0):co x/\co y/\co z:=by
 unfold spE at h;split at h
 ·unfold co;omega
 ·omega
theorem qvU (x y z:Int):(q04 [.i x,.i y,.i z]).run=some (0,[.b (decide (spE x y z=0))]):=by rw[qtq];simp only[STD,qiI];unfold spE;by_cases h:-100000<=x<;>by_cases h2:x<=100000<;>by_cases h3:-100000<=y<;>by_cases h4:y<=100000<;>by_cases h5:-100000<=z<;>by_cases h6:z<=100000<;>simp[h,h2,h3,h4,h5,h6]
theorem qeK (x y z:Int):(wT [.i x,.i y,.i z]).run=some (0,[.b (decide (spE x y z=0))]):=by rw[qm8];simp only[STD,quG];unfold spE;by_cases h:-100000<=x<;>by_cases h2:x<=100000<;>by_cases h3:-100000<=y<;>by_cases h4:y<=100000<;>by_cases h5:-100000<=z<;>by_cases h6:z<=100000<;>simp[h,h2,h3,h4,h5,h6]
theorem quW (l:R)(hl:l.length<9223372036854775808):(yB [.r l]).run=some (0,[.i (q1s (spA l) l.length)]):=by
 rw[qhq];have k:=qqh (S:=w8) (fun i=>[.r l,.i (qh l),.i (i:Int)]) (spA l) [] [] l.length hl (fun i hi=>by
  rw[q69];simp only[STD,qwI hi,qcT,qvU,and_self,kq hi hl];show (if ¬spA l i=0 then _ else _)=_;have:=qwH (cI l i 0) (cI l i 1) (cI l i 2);by_cases he:spA l i=0
  ·simp[he]
  ·have:spA l i=2:=by unfold spA at *;omega
   simp[this]) (by
  rw[q69];simp only[STD,qra])
 by_cases hf:q1s (spA l) l.length=0
 ·rw[if_pos hf] at k;have k':(qf w8 [.r l,.i (qh l),.i 0]).run=_:=k;simp only[STD,k',zU k',hf]
 ·rw[if_neg hf] at k;have k':(qf w8 [.r l,.i (qh l),.i 0]).run=_:=k;simp only[STD,k',zU k',show ¬((1:Nat)=0) by decide]
theorem qcq (l:R):(k9 [.r l]).run=some (0,[.i (qBb l)]):=by
 rw[qjA];have e:(vB [.r l]).run=some (0,[.i (qBb l)]):=by
  rw[qcD];unfold qBb;by_cases h:64<qh l
  ·simp only[STD,h]
  ·simp only[STD,h,quW l (by unfold qh at h;omega)]
 simp only[STD,e]
theorem qlP (l:R):(yQ [.r l]).run=some (0,[.i (qBb l)]):=by
 rw[ql8];unfold qBb;by_cases h:64<qh l
 ·simp only[STD,h]
 ·have hl:l.length<9223372036854775808:=by unfold qh at h;omega
  have k:=qqh (S:=wZ) (fun i=>[.r l,.i (i:Int)]) (spA l) [] [] l.length hl (fun i hi=>by
   rw[q9d];simp only[STD,qwI hi,qcT,qeK,and_self,kq hi hl];show (if ¬spA l i=0 then _ else _)=_;have:=qwH (cI l i 0) (cI l i 1) (cI l i 2);by_cases he:spA l i=0
   ·simp[he]
   ·have:spA l i=2:=by unfold spA at *;omega
    simp[this]) (by
   rw[q9d];simp only[STD,qra])
  by_cases hf:q1s (spA l) l.length=0
  ·rw[if_pos hf] at k;have k':(qf wZ [.r l,.i 0]).run=_:=k;simp only[STD,k',zU k',hf,h]
  ·rw[if_neg hf] at k;have k':(qf wZ [.r l,.i 0]).run=_:=k;simp only[STD,k',zU k',h,show ¬((1:Nat)=0) by decide]
theorem qy1 (h:qBb l=0):q1C l:=by
 unfold qBb at h;split at h
 ·omega
 ·rename_i h64;unfold qh at h64;exact⟨by omega,fun i hi=>qAA (qlN h i hi)⟩
def qhv(l:R):Int:=if qwv l=0 then (if qh l=0 then 13 else 0) else qwv l
def qxM(l:R):Int:=if qBb l=0 then (if qh l=0 then 13 else 0) else qBb l
theorem qjQ (x:Int):(q0i [.i x]).run=some (0,[.i (if x=0 then 13 else 0)]):=by rw[qsr];by_cases h:x=0<;>simp[STD,h]
theorem q8Q (l:R):(yg [.r l]).run=some (0,[.i (qhv l)]):=by
 rw[qrQ];unfold qhv;by_cases h:qwv l=0
 ·by_cases h2:qh l=0<;>simp only[STD,qkd,qjQ,h,h2]
 ·simp only[STD,qkd,h]
theorem qtz (l:R):(q4Y [.r l]).run=some (0,[.i (qxM l)]):=by
 rw[qrl];unfold qxM;by_cases h:qBb l=0
 ·by_cases h2:qh l=0<;>simp only[STD,qcq,qjQ,h,h2]
 ·simp only[STD,qcq,h]
theorem qC6 (h:qxM l=0):q1C l/\0<l.length:=by
 unfold qxM at h;split at h
 ·rename_i h1;split at h
  ·omega
  ·rename_i h2;unfold qh at h2;exact⟨qy1 h1,by omega⟩
 ·rename_i h1;exact absurd h h1
def raR(l:R):R:=(List.range l.length).map fun i:Nat=>[.i (cI l (i:Int) 0),.i (cI l (i:Int) 1),.i 0]
def raN(l:R)(n:Nat):R:=(List.range n).map fun i:Nat=>[.i (cI l (i:Int) 0),.i (cI l (i:Int) 1),.i 0]
theorem qFa (l:R)(n:Nat):qh (raN l n)=(n:Int):=by unfold raN qh;rw[qLE,qMa]
theorem q8c (l:R):(raR l).length=l.length:=by unfold raR;rw[qLE,qMa]
theorem qAd (l:R)(n:Nat):raN l (n+1)=wL (raN l n) [[.i (cI l (n:Int) 0),.i (cI l (n:Int) 1),.i 0]]:=by unfold raN wL;rw[qMQ,qM1];rfl
theorem qv4 {i:Nat}(h:i<l.length):cI (raR l) (i:Int) 0=cI l (i:Int) 0/\cI (raR l) (i:Int) 1=cI l (i:Int) 1/\cI (raR l) (i:Int) 2=0:=by
 have e:(raR l).getD ((i:Int).toNat) []=[.i (cI l (i:Int) 0),.i (cI l (i:Int) 1),.i 0]:=by unfold raR;rw[qLG,qLw,qLH,qMu h];rfl
 refine⟨?_,?_,?_⟩<;>(conv=>lhs;unfold cI we)<;>rw[e]<;>rfl
theorem qq7 (hl:l.length<=64):(vH [.r l]).run=some (0,[.r (raR l)]):=by
 have key:=qW (S:=yE) (fun i=>[.r l,.i (l.length:Int),.i (i:Int),.r (raN l i)]) (0,[.r (raR l)]) l.length (by omega) (fun i hi=>by
  have e3:qh [[U.i (cI l (i:Int) 0),.i (cI l (i:Int) 1),.i 0]]=1:=rfl;have e4:qh l=(l.length:Int):=rfl;rw[qck];simp only[STD,qFa,qAd,e3,e4,kq hi (show l.length<9223372036854775808 by omega),show (i:Int)<l.length by omega,show (0:Int)<=i by omega,show (i:Int)+1<=5864062014805 by omega,and_self]) (by
  rw[qck];simp only[STD,show ¬(l.length:Int)<l.length by omega];rfl)
 have key':(qf yE [.r l,.i (qh l),.i 0,.r []]).run=some (0,[.r (raR l)]):=key;rw[qoT];simp only[STD,key']
theorem qt9 (hl:l.length<=64):(uA [.r l]).run=some (0,[.r (raR l)]):=by
 have key:=qW (S:=kQ) (fun i=>[.r l,.i (i:Int),.r (raN l i)]) (0,[.r (raR l)]) l.length (by omega) (fun i hi=>by
  have e3:qh [[U.i (cI l (i:Int) 0),.i (cI l (i:Int) 1),.i 0]]=1:=rfl;have e4:qh l=(l.length:Int):=rfl;rw[qf6];simp only[STD,qFa,qAd,e3,e4,kq hi (show l.length<9223372036854775808 by omega),show (i:Int)<l.length by omega,show (0:Int)<=i by omega,show (i:Int)+1<=5864062014805 by omega,and_self]) (by
  have e4:qh l=(l.length:Int):=rfl;rw[qf6];simp only[STD,e4,show ¬(l.length:Int)<l.length by omega];rfl)
 have key':(qf kQ [.r l,.i 0,.r []]).run=some (0,[.r (raR l)]):=key;rw[qs1];simp only[STD,key']
theorem qsC (h:qwv l=0):l.length<=64/\∀i,i<l.length->co (cI l (i:Int) 0)/\co (cI l (i:Int) 1):=by
 unfold qwv at h;split at h
 ·omega
 ·rename_i h64;unfold qh at h64;refine⟨by omega,fun i hi=>?_⟩;obtain⟨h1,h2,h3,h4⟩:=qAC (qlN h i hi);exact⟨⟨h1,h2⟩,⟨h3,h4⟩⟩
theorem q2n (h:qhv l=0):qwv l=0/\l.length<=64/\0<l.length/\q1C (raR l)/\Mst (raR l) 3:=by
 unfold qhv at h;split at h
 ·rename_i h1;split at h
  ·omega
  ·rename_i h2;unfold qh at h2;obtain⟨q1,q2⟩:=qsC h1;refine⟨h1,q1,by omega,⟨by rw[q8c];exact q1,fun i hi=>?_⟩,.inr ⟨rfl,fun k hk=>?_⟩⟩
   ·rw[q8c] at hi;obtain⟨e1,e2,e3⟩:=qv4 hi;obtain⟨k1,k2⟩:=q2 i hi;unfold qBZ;rw[e1,e2,e3];exact⟨k1,k2,by unfold co;omega⟩
   ·rw[q8c] at hk;obtain⟨e1,e2,e3⟩:=qv4 hk;show ((cI (raR l) (k:Int) 2:Int):Rat)=0;rw[e3];rfl
 ·rename_i h1;exact absurd h h1
end Go.Eng

namespace Go.Eng
variable {l:R}
structure LO (l:R) (m:Nat) (L:List Nat) (n:Nat):Prop where
 first:qgO (q4l l) l.length 1 m=some L
 len:L.length=n+1
 most:n<m
 three:n<=3
 lt:∀a,a∈L->a<l.length
 asc:L.Pairwise (·<·)
 supp:q4l l L=true
 cb:CB (cO l L)
 sup:Sup l.length (pV l) (n+1) (Lf l L) (wts (tO l L) n) (sO l L)
 cen:cO l L=Go.Eng.cen (n+1) (wts (tO l L) n) fun j=>pV l (Lf l L j)
theorem qGi {L:List Nat}{n:Nat}(hL:L.length=n+1)(hlt:∀a,a∈L->a<l.length){j:Nat}(hj:j<n+1):Lf l L j<l.length:=by unfold Lf;rw[qLw,qLB (show j<L.length by omega)];exact hlt _ (qM6 _)
theorem qw6 (hs:q1C l)(hl:0<l.length){m:Nat}(hm:Mst l m):∃L n,LO l m L n:=by
 obtain⟨L,n,h1,h2,h3,h4,h5,h6,t,ht⟩:=qBk hl hm;have eL:L.length-1=n:=by omega
 have sb:q4l l L=true:=qj7.2 ⟨t,by rw[eL];exact ht⟩;have st:=qyu sb;rw[eL] at st;have ec:cO l L=cen (n+1) (wts (tO l L) n) fun j=>pV l (Lf l L j):=by unfold cO;rw[eL]
 have su:=qqk st (fun j hj=>qGi h2 h5 hj) (by have:=qGU h6 l.length;rw[h2] at this;exact this);rw[<-ec] at su;exact⟨L,n,h1,h2,h3,h4,h5,h6,sb,(qrB hs h2 h4 h5 sb).1,su,ec⟩
theorem qbi (h0:qhv l=0):∃L n,LO (raR l) 3 L n /\(qV [.r l]).run=some (0,[.s (tQ (cO (raR l) L).x),.s (tQ (cO (raR l) L).y),.s (tQ (sO (raR l) L)),.r (rN L),.i 0]):=by obtain⟨h1,h2,h3,h4,h5⟩:=q2n h0;obtain⟨L,n,lo⟩:=qw6 h4 (by rw[q8c];exact h3) h5;have r1:(jd [.r (raR l),.i 3]).run=_:=qCB h4 (m:=3) (by omega) lo.first;refine⟨L,n,lo,?_⟩;rw[qor];simp only[STD,q8Q,h0,qq7 h2,r1,q6P]
theorem qbn (h0:qxM l=0):∃L n,LO l 4 L n /\(ze [.r l]).run=some (0,[.s (tQ (cO l L).x),.s (tQ (cO l L).y),.s (tQ (cO l L).z),.s (tQ (sO l L)),.r (rN L),.i 0]):=by obtain⟨h4,h3⟩:=qC6 h0;obtain⟨L,n,lo⟩:=qw6 h4 h3 (m:=4) (.inl rfl);have r1:(jd [.r l,.i 4]).run=_:=qCB h4 (m:=4) (by omega) lo.first;refine⟨L,n,lo,?_⟩;rw[qnS];simp only[STD,qtz,h0,r1]
end Go.Eng

namespace Go.Eng
theorem qrS{y:R}(hy:y.length<9223372036854775808):(ve [.r y,.r y]).run=some (0,[.b true]):=by
 have key:=qW (S:=ww) (fun i=>[.r y,.r y,.i (qh y),.i (i:Int)]) (0,[]) y.length hy (fun i hi=>by
  rw[q4U];simp only[STD,qwI hi,qcT,and_self,kq hi hy]) (by
  rw[q4U];simp only[STD,qra])
 have key':(qf ww [.r y,.r y,.i (qh y),.i 0]).run=_:=key;rw[qgg];simp only[STD,key',zU key']
def qHr:List Bs->List Bs->Bool
 | [],[]=>true
 | a::l,b::m=>decide (a=b)&&qHr l m
 | _,_=>false
theorem qxN:∀(a b pa pb:List Bs),a.length=b.length->pa.length=pb.length ->
  qfo (fun i=>if (pa++a).getD i []=(pb++b).getD i [] then none else some ((1:Nat),[PV.b false])) pa.length a.length=if qHr a b=true then none else some (1,[.b false])
 | [],[],pa,pb,_,_=>rfl
 | x::a,y::b,pa,pb,h,hp=>by
  have ex:(pa++x::a).getD pa.length []=x:=by rw[qLw,qLL (qLy _),qMd];rfl
  have ey:(pb++y::b).getD pa.length []=y:=by rw[hp,qLw,qLL (qLy _),qMd];rfl
  have ih:=qxN a b (pa++[x]) (pb++[y]) (by simpa using h) (by simp[hp]);rw[qM2,qM2,qLR] at ih;rw[qM0];simp only[qfo];rw[ex,ey];unfold qHr;by_cases hxy:x=y
  ·subst hxy;rw[if_pos rfl];simp only[decide_true,Bool.true_and];exact ih
  ·rw[if_neg hxy];simp[hxy]
 | [],_::_,_,_,h,_=>by simp at h
 | _::_,[],_,_,h,_=>by simp at h
theorem qKd(a b:Bs):seq a b=decide (a=b):=by unfold seq;first|rfl|(by_cases h:a=b<;>simp[h])
theorem qEl{a b:List Bs}(h:a.length=b.length)(ha:a.length<=1000):(zA [.r (txR a),.r (txR b)]).run=some (0,[.b (qHr a b)]):=by
 have ra:qh (txR a)=(a.length:Int):=by unfold txR qh;rw[qLE]
 have rb:qh (txR b)=(a.length:Int):=by unfold txR qh;rw[qLE,h]
 have ga:∀(l:List Bs) (i:Nat),i<l.length->cS (txR l) (i:Int) 0=l.getD i []:=fun l i hi=>by
  have e:(txR l).getD ((i:Int).toNat) []=[U.s (l.getD i [])]:=by unfold txR;rw[qLG,qLw,qLH,qLw,qLB hi];rfl
  unfold cS we;rw[e];rfl
 have key:=q3o (S:=z7) (fun i=>[.r (txR a),.r (txR b),.i (a.length:Int),.i (i:Int)]) (fun i=>if a.getD i []=b.getD i [] then none else some (1,[.b false])) (0,[]) a.length (by omega) (fun i hi hf=>by
  have e:a.getD i []=b.getD i []:=qN7 fun hne=>by rw[if_neg hne] at hf;cases hf
  rw[jl];simp only[STD,qKd,ra,rb,ga a i hi,ga b i (by omega),e,kq hi (show a.length<9223372036854775808 by omega),show (i:Int)<a.length by omega,show (0:Int)<=i by omega,and_self]) (fun i r hi hf=>by
  have e:¬a.getD i []=b.getD i []:=fun he=>by rw[if_pos he] at hf;cases hf
  rw[if_neg e] at hf;cases hf;rw[jl];simp only[STD,qKd,ra,rb,ga a i hi,ga b i (by omega),e,show (i:Int)<a.length by omega,show (0:Int)<=i by omega,and_self]) (by
  rw[jl];simp only[STD,show ¬(a.length:Int)<a.length by omega])
 have e:=qxN a b [] [] h rfl;simp only[qMO,qMh] at e;rw[e] at key;rw[q8i];cases hb:qHr a b with
 | true=>
  rw[hb] at key;have key':(qf z7 [.r (txR a),.r (txR b),.i (a.length:Int),.i 0]).run=some (0,[]):=key;simp only[STD,ra,rb,key',zU key']
 | false=>
  rw[hb] at key;have key':(qf z7 [.r (txR a),.r (txR b),.i (a.length:Int),.i 0]).run=some (1,[.b false]):=key;simp only[STD,ra,rb,key',zU key'];rw[if_neg (by decide)]
def shN(s:qLv):Prop:=(spn s).length<=30/\(spd s).length<=30
instance (s:qLv):Decidable (shN s):=by unfold shN;infer_instance
variable {i:Nat}
theorem qy5 {S:List PV->TR}(st:Nat->List PV)(e:Nat->Int)(fin:List PV)(n:Nat)(hn:n<9223372036854775808)(h:∀i,i<n->(S (st i)).run=if e i=0 then some (0,st (i+1)) else some (2,[.b false,.i (e i)])) (h3:(S (st n)).run=some (1,fin)) :(qf S (st 0)).run=some (if q1s e n=0 then (0,fin) else (1,[.b false,.i (q1s e n)])):=by
 have key:=q3o st (fun i=>(qkV e i).map fun x=>(1,[PV.b false,PV.i x])) (0,fin) n hn (fun i hi hf=>by
  rw[h i hi];unfold qkV at hf;split at hf
  ·rename_i h0;rw[if_pos h0]
  ·simp at hf) (fun i r hi hf=>by
  rw[h i hi];unfold qkV at hf;split at hf
  ·simp at hf
  ·rename_i h0;simp at hf;rw[if_neg h0,<-hf]) h3
 rw[key,qwh];unfold q1s;cases hs:qfo (qkV e) 0 n with
 | none=>simp
 | some x=>simp[qqf hs]
noncomputable def qG5(cl:List Bs):Int:=q1s (fun i=>qGR (cl.getD i [])) cl.length
theorem qHa {l:List Bs}(hi:i<l.length):cS (txR l) (i:Int) 0=l.getD i []:=by
 have e:(txR l).getD ((i:Int).toNat) []=[U.s (l.getD i [])]:=by unfold txR;rw[qLG,qLw,qLH,qLw,qLB hi];rfl
 unfold cS we;rw[e];rfl
theorem qGv {l:List Bs}(hi:i<l.length):l.getD i []∈l:=by rw[qLw,qLB hi];exact qM6 _
theorem qJ9 {cl:List Bs}(h:∀s,s∈cl->s.length<=100000000)(hc:cl.length<=1000)(l y:R)(m:Int) :(qf jv [.r l,.r (txR cl),.r y,.i m,.r (txR cl),.i (qh (txR cl)),.i 0]).run=some (if qG5 cl=0 then (0,[.r l,.r (txR cl),.r y,.i m]) else (1,[.b false,.i (qG5 cl)])):=by
 rw[qgv];have key:=qy5 (S:=jv) (fun i=>[.r l,.r (txR cl),.r y,.i m,.r (txR cl),.i (cl.length:Int),.i (i:Int)]) (fun i=>qGR (cl.getD i [])) [.r l,.r (txR cl),.r y,.i m] cl.length (by omega) (fun i hi=>by
  have r0:=qmm _ (h _ (qGv hi));rw[q9b];by_cases he:qGR (cl.getD i [])=0
  ·rw[he] at r0;simp only[STD,qgv,qHa hi,r0,he,kq hi (show cl.length<9223372036854775808 by omega),show (i:Int)<cl.length by omega,show (0:Int)<=i by omega,and_self]
  ·simp only[STD,qgv,qHa hi,r0,he,show (i:Int)<cl.length by omega,show (0:Int)<=i by omega,and_self]) (by
  rw[q9b];simp only[STD,show ¬(cl.length:Int)<cl.length by omega])
 exact key
def qF9(n:Nat)(y:R)(i:Nat):Int:=if cI y i 0<0 then 2 else if (n:Int)<=cI y i 0 then 2 else if 0<i then (if cI y i 0<=cI y ((i-1:Nat):Int) 0 then 9 else 0) else 0
theorem qKC (h:0<i)(hi:i<9223372036854775808):vN .i64 (i:Int) 1=((i-1:Nat):Int):=by rw[wo ⟨by omega,by omega⟩];omega
theorem qIm {l y:R}(hy:y.length<1000000)(cl:R)(m:Int) :(qf vS [.r l,.r cl,.r y,.i m,.r y,.i (qh y),.i 0]).run=some (if q1s (qF9 l.length y) y.length=0 then (0,[.r l,.r cl,.r y,.i m]) else (1,[.b false,.i (q1s (qF9 l.length y) y.length)])):=by
 have lx:qh l=(l.length:Int):=rfl;have ly:qh y=(y.length:Int):=rfl;rw[ly];have key:=qy5 (S:=vS) (fun i=>[.r l,.r cl,.r y,.i m,.r y,.i (y.length:Int),.i (i:Int)]) (qF9 l.length y) [.r l,.r cl,.r y,.i m] y.length (by omega) (fun i hi=>by
  have w:=kq hi (show y.length<9223372036854775808 by omega);rw[q81];unfold qF9;by_cases h1:cI y i 0<0
  ·simp only[STD,lx,ly,h1,show (i:Int)<y.length by omega,show (0:Int)<=i by omega,and_self];rw[if_neg (by decide)]
  ·by_cases h2:(l.length:Int)<=cI y i 0
   ·simp only[STD,lx,ly,h1,h2,show (i:Int)<y.length by omega,show (0:Int)<=i by omega,and_self];rw[if_neg (by decide)]
   ·by_cases h3:0<i
    ·by_cases h4:cI y i 0<=cI y ((i-1:Nat):Int) 0
     ·simp only[STD,lx,ly,h1,h2,h3,h4,qKC h3 (show i<9223372036854775808 by omega),show (0:Int)<i by omega,show (i:Int)<y.length by omega,show (0:Int)<=i by omega,show ((i-1:Nat):Int)<y.length by omega,show (0:Int)<=((i-1:Nat):Int) by omega,and_self];rw[if_neg (by decide)]
     ·simp only[STD,lx,ly,h1,h2,h3,h4,w,qKC h3 (show i<9223372036854775808 by omega),show (0:Int)<i by omega,show (i:Int)<y.length by omega,show (0:Int)<=i by omega,show ((i-1:Nat):Int)<y.length by omega,show (0:Int)<=((i-1:Nat):Int) by omega,and_self]
    ·simp only[STD,lx,ly,h1,h2,h3,w,show ¬(0:Int)<i by omega,show (i:Int)<y.length by omega,show (0:Int)<=i by omega,and_self]) (by
  rw[q81];simp only[STD,show ¬(y.length:Int)<y.length by omega])
 exact key
theorem qzR {n:Nat}{ys:List Int}(h:q1s (qF9 n (rI ys)) ys.length=0):∃L:List Nat,rI ys=rN L/\L.length=ys.length/\(∀a,a∈L->a<n)/\L.Pairwise (·<·):=by
 have hi:∀i,i<ys.length->0<=ys.getD i 0/\ys.getD i 0<n/\(0<i->ys.getD (i-1) 0<ys.getD i 0):=fun i hi=>by
  have e:=qlN h i hi;unfold qF9 at e;rw[qzF,qzF,qLG,qLG] at e;split at e
  ·omega
  ·split at e
   ·omega
   ·split at e
    ·split at e
     ·omega
     ·refine⟨by omega,by omega,fun _=>by omega⟩
    ·refine⟨by omega,by omega,fun _=>by omega⟩
 have hg:∀i (hi:i<ys.length),ys.getD i 0=ys[i]:=fun i hi=>by rw[qLw,qLB hi];rfl
 refine⟨ys.map Int.toNat,?_,by rw[qLE],fun a ha=>?_,?_⟩
 ·unfold rN;congr 1;rw[List.map_map];apply List.ext_getElem
  ·rw[qLE]
  ·intro i h1 h2;rw[qNy];have:=(hi i h1).1;rw[hg i h1] at this;show ys[i]=((ys[i].toNat:Nat):Int);omega
 ·obtain⟨v,hv,rfl⟩:=qMm.1 ha;obtain⟨i,h1,rfl⟩:=qNf.1 hv;have:=hi i h1;rw[hg i h1] at this;omega
 ·rw[qNU];have mono:∀d i,i+d+1<ys.length->ys.getD i 0<ys.getD (i+d+1) 0:=by
   intro d;induction d with
   | zero=>intro i h1;exact(hi (i+1) h1).2.2 (by omega)
   | succ d ih=>
    intro i h1;have a:=ih i (by omega);have b:=(hi (i+(d+1)+1) h1).2.2 (by omega);have e:i+(d+1)+1-1=i+d+1:=by omega
    rw[e] at b;omega
  intro i j h1 h2 hij;rw[qLE] at h1 h2;rw[qNy,qNy];have a:=mono (j-i-1) i (by omega);have e:i+(j-i-1)+1=j:=by omega
  rw[e,hg i h1,hg j h2] at a;have b:=(hi i h1).1;rw[hg i h1] at b;omega
end Go.Eng

namespace Go.Eng
noncomputable def clE(n:Nat)(cl:List Bs)(y:R)(m:Int):Int:=if qG5 cl=0 then (if qh y=0 then 13 else if m<qh y then 5 else q1s (qF9 n y) y.length) else qG5 cl
theorem qFX{n:Nat}{cl:List Bs}{ys:List Int}{m:Nat}(hm:m<=4)(h:clE n cl (rI ys) m=0):qG5 cl=0/\q1s (qF9 n (rI ys)) (rI ys).length=0/\¬qh (rI ys)=0/\¬(m:Int)<qh (rI ys) /\∃(L:List Nat) (q:Nat),rI ys=rN L/\L.length=q+1/\q<=3/\q<m/\(∀a,a∈L->a<n)/\L.Pairwise (·<·):=by
 unfold clE at h;split at h
 ·rename_i h0;split at h
  ·omega
  ·rename_i h1;split at h
   ·omega
   ·rename_i h2;have h':=h;rw[qix] at h';obtain⟨L,e1,e2,e3,e4⟩:=qzR h';rw[qcc] at h1 h2;exact⟨h0,h,by rw[qcc];exact h1,by rw[qcc];exact h2,L,L.length-1,e1,by omega,by omega,by omega,e3,e4⟩
 ·rename_i h0;exact absurd h h0
theorem qxU{l:R}(hs:q1C l){a b c:Bs}(h:∀s,s∈[a,b,c]->s.length<=100000000){ys:List Int}(hy:ys.length<1000000)(he:clE l.length [a,b,c] (rI ys) 3=0) :∃L q,rI ys=rN L/\L.length=q+1/\q<=3/\q<3/\(∀a,a∈L->a<l.length)/\L.Pairwise (·<·) /\(ji [.r l,.r (txR [a,b,c]),.r (rI ys),.i 3]).run=some (0,[.b (q4l l L&&qHr [tQ (cO l L).x,tQ (cO l L).y,tQ (sO l L)] [a,b,c]),.i 0]):=by
 obtain⟨h0,h1,h2,h3,L,q,e1,e2,e3,e4,e5,e6⟩:=qFX (m:=3) (by omega) he;refine⟨L,q,e1,e2,e3,e4,e5,e6,?_⟩;have r0:=qJ9 h (by simp) l (rI ys) 3;have r1:=qIm (l:=l) (y:=rI ys) (by rw[qix];exact hy) (txR [a,b,c]) 3;rw[if_pos h0] at r0;rw[if_pos h1] at r1;have w:vN .i64 3 1=2:=by decide
 rw[qlu];rw[e1] at r0 r1 h2 h3 ⊢;cases hb:q4l l L with
 | false=>
  obtain⟨s1,s2,s3,s4,wl,r2⟩:=qAk hs e2 e3 e5 hb;simp only[STD,r0,zU r0,r1,zU r1,h2,show ¬(3:Int)<qh (rN L) from h3,r2,Bool.false_and]
 | true=>
  obtain⟨_,r2⟩:=qrB hs e2 e3 e5 hb;have r3:(zA [.r (wL (quz [[.s (tQ (cO l L).x)],[.s (tQ (cO l L).y)],[.s (tQ (cO l L).z)]] 0 2) [[.s (cS [[.s (tQ (cO l L).x),.s (tQ (cO l L).y),.s (tQ (cO l L).z),.s (tQ (sO l L)),.l (wO l L)]] 0 3)]]),.r (txR [a,b,c])]).run=_:=
   qEl (a:=[tQ (cO l L).x,tQ (cO l L).y,tQ (sO l L)]) (b:=[a,b,c]) rfl (by simp)
  have e8:qh (quz [[U.s (tQ (cO l L).x)],[.s (tQ (cO l L).y)],[.s (tQ (cO l L).z)]] 0 2)=2:=rfl;have e9:∀x:U,qh [[x]]=1:=fun _=>rfl;simp only[STD,r0,zU r0,r1,zU r1,h2,show ¬(3:Int)<qh (rN L) from h3,r2,w,e8,e9,r3,show (0:Int)<=2 by omega,show (2:Int)<=3 by omega,show (0:Int)<=0 by omega,show (0:Int)<1 by omega,show (2:Int)+1<=8796093022208 by omega,and_self,Bool.true_and]
theorem qLq{l:R}{L:List Nat}{n:Nat}(hL:L.length=n+1)(hlt:∀a,a∈L->a<l.length)(hz:∀k,k<l.length->(pV l k).z=0):(cO l L).z=0:=by
 have eL:L.length-1=n:=by omega
 unfold cO;rw[eL];show su (n+1) (fun j=>wts (tO l L) n j*(pV l (Lf l L j)).z)=0;rw[qo (g:=fun _=>0) fun j hj=>by rw[hz _ (qGi hL hlt hj)];grind,q7J]
theorem quP:tQ 0=[48]:=(qfw 0).symm▸rfl
variable {n:Nat}
def E1:R:=[[.i 0,.i 0],[.i 4,.i 0],[.i 0,.i 2]]
def E2:R:=[[.i 0,.i 0],[.i 6,.i 0],[.i 3,.i 5]]
def E3:R:=[[.i 0,.i 0,.i 0],[.i 2,.i 0,.i 0],[.i 0,.i 2,.i 0],[.i 0,.i 0,.i 2]]
def E4:R:=[[.i 0,.i 0],[.i 6,.i 0],[.i 3,.i 1]]
theorem qIE:qhv E1=0:=by decide
theorem qIy:qhv E2=0:=by decide
theorem qHU:qxM E3=0:=by decide
theorem qEK:qhv E4=0:=by decide
theorem qDN {c:Nat->V3}{t:Nat->Rat}{a b d:Rat}(h1:qqT c 0 0=a)(h2:qqT c 0 1=b)(h3:qqT c 1 0=b)(h4:qqT c 1 1=d)(hdet:a*d-b*b≠0)(e1:a*t 0+b*t 1=d2 (c 0) (c 1)) (e2:b*t 0+d*t 1=d2 (c 0) (c 2)):Bl 2 c t:=by
 refine⟨qf8.2 fun u hu=>?_,fun i hi=>?_⟩
 ·have q1:=hu 0 (by omega);have q2:=hu 1 (by omega);simp only[su,h1,h2,h3,h4] at q1 q2;have z0:u 0*(a*d-b*b)=0:=by grind
  have z1:u 1*(a*d-b*b)=0:=by grind
  intro j hj;rcases (show j=0\/j=1 by omega) with rfl|rfl
  ·rcases Rat.mul_eq_zero.1 z0 with h|h
   ·exact h
   ·exact absurd h hdet
  ·rcases Rat.mul_eq_zero.1 z1 with h|h
   ·exact h
   ·exact absurd h hdet
 ·rcases (show i=0\/i=1 by omega) with rfl|rfl
  ·simp only[su,h1,h2];grind
  ·simp only[su,h3,h4];grind
theorem qHF {c:Nat->V3}{t:Nat->Rat}{a:Rat}(h1:qqT c 0 0=a)(ha:a≠0)(e1:a*t 0=d2 (c 0) (c 1)):Bl 1 c t:=by
 refine⟨qf8.2 fun u hu=>?_,fun i hi=>?_⟩
 ·have q1:=hu 0 (by omega);simp only[su,h1] at q1;intro j hj;have:j=0:=by omega
  subst this;have z:a*u 0=0:=by grind
  rcases Rat.mul_eq_zero.1 z with h|h
  ·exact absurd h ha
  ·exact h
 ·have:i=0:=by omega
  subst this;simp only[su,h1];grind
theorem qol {p:Nat->V3}{q:Nat}{L:Nat->Nat}{u:Nat->Rat}{s:Rat}(h:Sup n p q L u s){α β γ δ:Rat}(hz:∀j,j<q->α*(p (L j)).x+β*(p (L j)).y+γ*(p (L j)).z+δ=0) :α*(cen q u fun j=>p (L j)).x+β*(cen q u fun j=>p (L j)).y+γ*(cen q u fun j=>p (L j)).z+δ=0:=by
 have e:su q (fun j=>u j*(α*(p (L j)).x+β*(p (L j)).y+γ*(p (L j)).z+δ))=0:=by rw[qo (g:=fun _=>0) fun j hj=>by rw[hz j hj];grind,q7J]
 have e2:su q (fun j=>u j*(α*(p (L j)).x+β*(p (L j)).y+γ*(p (L j)).z+δ))=α*su q (fun j=>u j*(p (L j)).x)+β*su q (fun j=>u j*(p (L j)).y)+γ*su q (fun j=>u j*(p (L j)).z)+δ*su q u:=by rw[<-wz,<-wz,<-wz,<-wz,<-q3g,<-q3g,<-q3g];exact qo fun j _=>by grind
 rw[h.one] at e2;show α*su q (fun j=>u j*(p (L j)).x)+β*su q (fun j=>u j*(p (L j)).y)+γ*su q (fun j=>u j*(p (L j)).z)+δ=0;grind
theorem qxx {l:R}(h0:qhv l=0)(hl:l.length=n+1)(hn:n<=2){t:Nat->Rat}(ht:Bl n (pV (raR l)) t) :(yY [.r l]).run=some (0,[.s (tQ (cen (n+1) (wts t n) (pV (raR l))).x),.s (tQ (cen (n+1) (wts t n) (pV (raR l))).y),.s (tQ (d2 (cen (n+1) (wts t n) (pV (raR l))) (pV (raR l) 0))),.i 0]):=by
 obtain⟨h1,h2,h3,h4,h5⟩:=q2n h0;have lr:qh (raR l)=(l.length:Int):=by unfold qh;rw[q8c]
 rcases qB1 h4 (n:=n) (by rw[q8c];exact hl) (by omega) with⟨t',g1,_,_,k1⟩|⟨g1,_⟩
 ·have e:=qik (c:=pV (raR l)) (qq9 g1 ht);rw[e] at k1;have ku:(q2b [.r (raR l),.i 3]).run=some (0,[.s (tQ (cen (n+1) (wts t n) (pV (raR l))).x),.s (tQ (cen (n+1) (wts t n) (pV (raR l))).y),.s (tQ (cen (n+1) (wts t n) (pV (raR l))).z),.s (tQ (d2 (cen (n+1) (wts t n) (pV (raR l))) (pV (raR l) 0))),.r (txR ((List.range (n+1)).map fun j=>tQ (wts t' n j))),.i 0]):=by rw[qou];simp only[STD,lr,k1,show ¬(3:Int)<l.length by omega]
  rw[qoS];simp only[STD,q8Q,h0,qq7 h2,ku,q6P]
 ·exact absurd ht.ind g1
theorem qBp {l:R}{L:List Nat}(hL:L.length=n+1){t:Nat->Rat}(h:qvx (pV l) l.length n (Lf l L) t) :q4l l L=true/\cO l L=cen (n+1) (wts t n) fun j=>pV l (Lf l L j):=by
 have eL:L.length-1=n:=by omega
 have sb:q4l l L=true:=qj7.2 ⟨t,by rw[eL];exact h⟩;have st:=qyu sb;rw[eL] at st;refine⟨sb,?_⟩;unfold cO;rw[eL];exact qik (qq9 st.1 h.1)
end Go.Eng

namespace Go.Eng
def qJ7(a b:Rat):Nat->Rat:=fun j=>if j=0 then a else b
theorem qCZ:(yY [.r E1]).run=some (0,[.s [50],.s [49],.s [53],.i 0]):=by
 have bl:Bl 2 (pV (raR E1)) (qJ7 (1/2) (1/2)):=qDN (a:=32) (b:=0) (d:=8) (by decide +kernel) (by decide +kernel) (by decide +kernel) (by decide +kernel) (by decide +kernel) (by decide +kernel) (by decide +kernel);have r:=qxx qIE (n:=2) rfl (by omega) bl;have e1:tQ (cen (2+1) (wts (qJ7 (1/2) (1/2)) 2) (pV (raR E1))).x=[50]:=by decide +kernel
 have e2:tQ (cen (2+1) (wts (qJ7 (1/2) (1/2)) 2) (pV (raR E1))).y=[49]:=by decide +kernel
 have e3:tQ (d2 (cen (2+1) (wts (qJ7 (1/2) (1/2)) 2) (pV (raR E1))) (pV (raR E1) 0))=[53]:=by decide +kernel
 rw[e1,e2,e3] at r;exact r
def T2:Nat->Rat:=qJ7 (17/50) (8/25)
theorem qFO:qvx (pV (raR E2)) (raR E2).length 2 (Lf (raR E2) [0,1,2]) T2:=by
 refine⟨qDN (a:=72) (b:=36) (d:=68) (by decide +kernel) (by decide +kernel) (by decide +kernel) (by decide +kernel) (by decide +kernel) (by decide +kernel) (by decide +kernel),?_,?_⟩
 ·decide +kernel
 ·decide +kernel
theorem qCt:cen (2+1) (wts T2 2) (fun j=>pV (raR E2) (Lf (raR E2) [0,1,2] j))=⟨3,8/5,0⟩:=by
 have h1:(cen (2+1) (wts T2 2) (fun j=>pV (raR E2) (Lf (raR E2) [0,1,2] j))).x=3:=by decide +kernel
 have h2:(cen (2+1) (wts T2 2) (fun j=>pV (raR E2) (Lf (raR E2) [0,1,2] j))).y=8/5:=by decide +kernel
 have h3:(cen (2+1) (wts T2 2) (fun j=>pV (raR E2) (Lf (raR E2) [0,1,2] j))).z=0:=by decide +kernel
 generalize cen (2+1) (wts T2 2) (fun j=>pV (raR E2) (Lf (raR E2) [0,1,2] j))=v at *;cases v;simp only at h1 h2 h3;rw[h1,h2,h3]
theorem qER{l:R}{L:List Nat}{n:Nat}(hL:L.length=n+1){j:Nat}(hj:j<n+1):Lf l L j∈L:=by unfold Lf;rw[qLw,qLB (show j<L.length by omega)];exact qM6 _
theorem qE6:(qV [.r E2]).run=some (0,[.s [51],.s [56,47,53],.s [50,56,57,47,50,53],.r [[.i 0],[.i 1],[.i 2]],.i 0]):=by
  obtain⟨L,n,lo,r⟩:=qbi qIy;have sp:=qqk qFO (by decide) (by intro j k h1 h2;have:j=0/\k=1\/j=0/\k=2\/j=1/\k=2:=(by omega);rcases this with⟨rfl,rfl⟩|⟨rfl,rfl⟩|⟨rfl,rfl⟩<;>decide)
  obtain⟨us,uc⟩:=qjb lo.sup sp;rw[<-lo.cen,qCt] at uc;rw[qCt] at us;have es:sO (raR E2) L=289/25:=by rw[us];decide +kernel
  have hlen:(raR E2).length=3:=rfl;have vals:∀k,k<3->(pV (raR E2) k=⟨0,0,0⟩/\k=0)\/(pV (raR E2) k=⟨6,0,0⟩/\k=1)\/(pV (raR E2) k=⟨3,5,0⟩/\k=2):=fun k hk=>by
    rcases (show k=0\/k=1\/k=2 by omega) with rfl|rfl|rfl
    · exact .inl ⟨rfl,rfl⟩
    · exact .inr (.inl ⟨rfl,rfl⟩)
    · exact .inr (.inr ⟨rfl,rfl⟩)
  have at_:∀j,j<n+1->(pV (raR E2) (Lf (raR E2) L j)=⟨0,0,0⟩/\0∈L)\/(pV (raR E2) (Lf (raR E2) L j)=⟨6,0,0⟩/\1∈L)\/(pV (raR E2) (Lf (raR E2) L j)=⟨3,5,0⟩/\2∈L):=fun j hj=>by
    have hm:=qER (l:=raR E2) lo.len hj;rcases vals _ (lo.lt _ hm) with⟨h1,h2⟩|⟨h1,h2⟩|⟨h1,h2⟩
    · exact .inl ⟨h1,h2▸hm⟩
    · exact .inr (.inl ⟨h1,h2▸hm⟩)
    · exact .inr (.inr ⟨h1,h2▸hm⟩)
  have m0:0∈L:=qN7 fun hn=>by
    have:=qol lo.sup (α:=-1/6) (β:=-1/10) (γ:=0) (δ:=1) fun j hj=>by
      rcases at_ j hj with⟨_,h⟩|⟨h,_⟩|⟨h,_⟩
      · exact absurd h hn
      · rw[h];decide +kernel
      · rw[h];decide +kernel
    rw[<-lo.cen,uc] at this;exact absurd this (by decide +kernel)
  have m1:1∈L:=qN7 fun hn=>by
    have:=qol lo.sup (α:=1/6) (β:=-1/10) (γ:=0) (δ:=0) fun j hj=>by
      rcases at_ j hj with⟨h,_⟩|⟨_,h⟩|⟨h,_⟩
      · rw[h];decide +kernel
      · exact absurd h hn
      · rw[h];decide +kernel
    rw[<-lo.cen,uc] at this;exact absurd this (by decide +kernel)
  have m2:2∈L:=qN7 fun hn=>by
    have:=qol lo.sup (α:=0) (β:=1) (γ:=0) (δ:=0) fun j hj=>by
      rcases at_ j hj with⟨h,_⟩|⟨h,_⟩|⟨_,h⟩
      · rw[h];decide +kernel
      · rw[h];decide +kernel
      · exact absurd h hn
    rw[<-lo.cen,uc] at this;exact absurd this (by decide +kernel)
  have eL:L=[0,1,2]:=by
    have hm:L∈lsN 3 (n+1):=q7L.2 ⟨lo.len,lo.lt,lo.asc⟩;have hn:=lo.most;rcases (show n=0\/n=1\/n=2 by omega) with rfl|rfl|rfl
    · exact(show ∀L,L∈lsN 3 1->0∈L->1∈L->2∈L->L=[0,1,2] by decide) L hm m0 m1 m2
    · exact(show ∀L,L∈lsN 3 2->0∈L->1∈L->2∈L->L=[0,1,2] by decide) L hm m0 m1 m2
    · exact(show ∀L,L∈lsN 3 3->0∈L->1∈L->2∈L->L=[0,1,2] by decide) L hm m0 m1 m2
  rw[uc,es,eL] at r;have e1:tQ 3=[51]:=by decide +kernel
  have e2:tQ (8/5)=[56,47,53]:=by decide +kernel
  have e3:tQ (289/25)=[50,56,57,47,50,53]:=by decide +kernel
  simp only[e1,e2,e3] at r;exact r
def T3:Nat->Rat:=qJ7 (1/3) (1/3)
theorem qFz:qvx (pV E3) E3.length 2 (Lf E3 [1,2,3]) T3:=by
 refine⟨qDN (a:=16) (b:=8) (d:=16) (by decide +kernel) (by decide +kernel) (by decide +kernel) (by decide +kernel) (by decide +kernel) (by decide +kernel) (by decide +kernel),?_,?_⟩
 ·decide +kernel
 ·decide +kernel
theorem qDG:cen (2+1) (wts T3 2) (fun j=>pV E3 (Lf E3 [1,2,3] j))=⟨2/3,2/3,2/3⟩:=by
 have h1:(cen (2+1) (wts T3 2) (fun j=>pV E3 (Lf E3 [1,2,3] j))).x=2/3:=by decide +kernel
 have h2:(cen (2+1) (wts T3 2) (fun j=>pV E3 (Lf E3 [1,2,3] j))).y=2/3:=by decide +kernel
 have h3:(cen (2+1) (wts T3 2) (fun j=>pV E3 (Lf E3 [1,2,3] j))).z=2/3:=by decide +kernel
 generalize cen (2+1) (wts T3 2) (fun j=>pV E3 (Lf E3 [1,2,3] j))=v at *;cases v;simp only at h1 h2 h3;rw[h1,h2,h3]
theorem qDr:(ze [.r E3]).run=some (0,[.s [50,47,51],.s [50,47,51],.s [50,47,51],.s [56,47,51],.r [[.i 1],[.i 2],[.i 3]],.i 0]):=by
  obtain⟨L,n,lo,r⟩:=qbn qHU;have sp:=qqk qFz (by decide) (by intro j k h1 h2;have:j=0/\k=1\/j=0/\k=2\/j=1/\k=2:=(by omega);rcases this with⟨rfl,rfl⟩|⟨rfl,rfl⟩|⟨rfl,rfl⟩<;>decide)
  obtain⟨us,uc⟩:=qjb lo.sup sp;rw[<-lo.cen,qDG] at uc;rw[qDG] at us;have es:sO E3 L=8/3:=by rw[us];decide +kernel
  have vals:∀k,k<4->(pV E3 k=⟨0,0,0⟩/\k=0)\/(pV E3 k=⟨2,0,0⟩/\k=1)\/(pV E3 k=⟨0,2,0⟩/\k=2)\/(pV E3 k=⟨0,0,2⟩/\k=3):=fun k hk=>by
    rcases (show k=0\/k=1\/k=2\/k=3 by omega) with rfl|rfl|rfl|rfl
    · exact .inl ⟨rfl,rfl⟩
    · exact .inr (.inl ⟨rfl,rfl⟩)
    · exact .inr (.inr (.inl ⟨rfl,rfl⟩))
    · exact .inr (.inr (.inr ⟨rfl,rfl⟩))
  have at_:∀j,j<n+1->(pV E3 (Lf E3 L j)=⟨2,0,0⟩/\1∈L)\/(pV E3 (Lf E3 L j)=⟨0,2,0⟩/\2∈L)\/(pV E3 (Lf E3 L j)=⟨0,0,2⟩/\3∈L):=fun j hj=>by
    have hm:=qER (l:=E3) lo.len hj;have hq:=lo.sup.eq j hj;rw[<-lo.cen,uc,es] at hq;rcases vals _ (lo.lt _ hm) with⟨h1,h2⟩|⟨h1,h2⟩|⟨h1,h2⟩|⟨h1,h2⟩
    · rw[h1] at hq
      exact absurd hq (by decide +kernel)
    · exact .inl ⟨h1,h2▸hm⟩
    · exact .inr (.inl ⟨h1,h2▸hm⟩)
    · exact .inr (.inr ⟨h1,h2▸hm⟩)
  have m0:0∉L:=fun hn=>by
    obtain⟨j,hj,he⟩:=qNf.1 hn;have hj':j<n+1:=by have:=lo.len;omega
    have hq:=lo.sup.eq j hj';have e0:Lf E3 L j=0:=by unfold Lf;rw[qLw,qLB hj];exact he
    rw[<-lo.cen,uc,es,e0] at hq;exact absurd hq (by decide +kernel)
  have m1:1∈L:=qN7 fun hn=>by
    have:=qol lo.sup (α:=1) (β:=0) (γ:=0) (δ:=0) fun j hj=>by
      rcases at_ j hj with⟨_,h⟩|⟨h,_⟩|⟨h,_⟩
      · exact absurd h hn
      · rw[h];decide +kernel
      · rw[h];decide +kernel
    rw[<-lo.cen,uc] at this;exact absurd this (by decide +kernel)
  have m2:2∈L:=qN7 fun hn=>by
    have:=qol lo.sup (α:=0) (β:=1) (γ:=0) (δ:=0) fun j hj=>by
      rcases at_ j hj with⟨h,_⟩|⟨_,h⟩|⟨h,_⟩
      · rw[h];decide +kernel
      · exact absurd h hn
      · rw[h];decide +kernel
    rw[<-lo.cen,uc] at this;exact absurd this (by decide +kernel)
  have m3:3∈L:=qN7 fun hn=>by
    have:=qol lo.sup (α:=0) (β:=0) (γ:=1) (δ:=0) fun j hj=>by
      rcases at_ j hj with⟨h,_⟩|⟨h,_⟩|⟨_,h⟩
      · rw[h];decide +kernel
      · rw[h];decide +kernel
      · exact absurd h hn
    rw[<-lo.cen,uc] at this;exact absurd this (by decide +kernel)
  have eL:L=[1,2,3]:=by
    have hm:L∈lsN 4 (n+1):=q7L.2 ⟨lo.len,lo.lt,lo.asc⟩;have hn:=lo.most;rcases (show n=0\/n=1\/n=2\/n=3 by omega) with rfl|rfl|rfl|rfl
    · exact(show ∀L,L∈lsN 4 1->0∉L->1∈L->2∈L->3∈L->L=[1,2,3] by decide) L hm m0 m1 m2 m3
    · exact(show ∀L,L∈lsN 4 2->0∉L->1∈L->2∈L->3∈L->L=[1,2,3] by decide) L hm m0 m1 m2 m3
    · exact(show ∀L,L∈lsN 4 3->0∉L->1∈L->2∈L->3∈L->L=[1,2,3] by decide) L hm m0 m1 m2 m3
    · exact(show ∀L,L∈lsN 4 4->0∉L->1∈L->2∈L->3∈L->L=[1,2,3] by decide) L hm m0 m1 m2 m3
  rw[uc,es,eL] at r;have e1:tQ (2/3)=[50,47,51]:=by decide +kernel
  have e3:tQ (8/3)=[56,47,51]:=by decide +kernel
  simp only[e1,e3] at r;exact r
theorem qFu:qvx (pV (raR E4)) (raR E4).length 1 (Lf (raR E4) [0,1]) (fun _=>1/2):=by
 refine⟨qHF (a:=72) (by decide +kernel) (by decide +kernel) (by decide +kernel),?_,?_⟩
 ·decide +kernel
 ·decide +kernel
theorem qDE:(zx [.r E4,.s [51],.s [48],.s [57],.r [[.i 0],[.i 1]]]).run=some (0,[.b true,.i 0]):=by
 obtain⟨h1,h2,h3,h4,h5⟩:=q2n qEK;have e3:tQ 3=[51]:=by decide +kernel
 have e0:tQ 0=[48]:=by decide +kernel
 have e9:tQ 9=[57]:=by decide +kernel
 have ck:qG5 [[51],[48],[57]]=0:=by
  rw[<-e3,<-e0,<-e9];unfold qG5;refine qhO fun i hi=>?_;have:i<3:=hi;rcases (show i=0\/i=1\/i=2 by omega) with rfl|rfl|rfl
  ·exact q9t (q:=3) (by constructor<;>decide +kernel)
  ·exact q9t (q:=0) (by constructor<;>decide +kernel)
  ·exact q9t (q:=9) (by constructor<;>decide +kernel)
 have hs:q1s (qF9 (raR E4).length (rI [0,1])) (rI [0,1]).length=0:=by decide
 have he:clE (raR E4).length [[51],[48],[57]] (rI [0,1]) 3=0:=by unfold clE;rw[if_pos ck,if_neg (by decide),if_neg (by decide)];exact hs
 obtain⟨L,q,k1,k2,k3,k4,k5,k6,r1⟩:=qxU h4 (a:=[51]) (b:=[48]) (c:=[57]) (by intro s hs;simp at hs;rcases hs with rfl|rfl|rfl<;>decide) (ys:=[0,1]) (by decide) he;have eL:L=[0,1]:=by
  have hl:L.length=2:=by have:=congrArg List.length k1;unfold rN at this;rw[qix,qix,qLE] at this;exact this.symm
  have hm:L∈lsN 3 2:=q7L.2 ⟨hl,k5,k6⟩;have h2':cI (rN L) 0 0=0/\cI (rN L) 1 0=1:=by rw[<-k1];exact⟨rfl,rfl⟩
  exact(show ∀L,L∈lsN 3 2->cI (rN L) 0 0=0/\cI (rN L) 1 0=1->L=[0,1] by decide) L hm h2'
 obtain⟨sb,sc⟩:=qBp (l:=raR E4) (L:=[0,1]) (n:=1) rfl qFu;have c1:(cO (raR E4) [0,1]).x=3:=by rw[sc];decide +kernel
 have c2:(cO (raR E4) [0,1]).y=0:=by rw[sc];decide +kernel
 have c3:sO (raR E4) [0,1]=9:=by unfold sO;rw[sc];decide +kernel
 rw[eL,sb,c1,c2,c3,e3,e0,e9] at r1;have r2:(ji [.r (raR E4),.r [[.s [51]],[.s [48]],[.s [57]]],.r [[.i 0],[.i 1]],.i 3]).run=some (0,[.b true,.i 0]):=r1;rw[q7a];simp only[STD,q8Q,qEK,qq7 h2,r2]
theorem q24:(vF []).run=some (0,[.b true]):=by
 have a1:(yY [.r [[.i 0,.i 0],[.i 4,.i 0],[.i 0,.i 2]]]).run=_:=qCZ;have a2:(qV [.r [[.i 0,.i 0],[.i 6,.i 0],[.i 3,.i 5]]]).run=_:=qE6;have a3:(ze [.r [[.i 0,.i 0,.i 0],[.i 2,.i 0,.i 0],[.i 0,.i 2,.i 0],[.i 0,.i 0,.i 2]]]).run=_:=qDr;have a4:(zx [.r [[.i 0,.i 0],[.i 6,.i 0],[.i 3,.i 1]],.s [51],.s [48],.s [57],.r [[.i 0],[.i 1]]]).run=_:=qDE;have b1:=qrS (y:=[[.i 0],[.i 1],[.i 2]]) (by decide);have b2:=qrS (y:=[[.i 1],[.i 2],[.i 3]]) (by decide);have at_:∀x y,(q2l [.i x,.i y]).run=some (0,[.i x,.i y]):=fun x y=>by rw[qzu];rfl
 have w0:qE .i64 0 0=0:=by decide
 have s1:∀s:Bs,seq s s=true:=fun s=>by rw[zr]
 rw[qtv];simp only[STD,at_,a1,a2,a3,a4,b1,b2,w0,s1,qnF,Bool.and_self]
theorem qmX(s:Bs):seq s s=true:=by rw[zr]
variable {l:R}
def qw3(a b:Rat):Int:=sgn (a.num*(b.den:Int)-b.num*(a.den:Int))
theorem qr7 {a b:Rat}:0<qw3 a b↔b<a:=by unfold qw3;rw[qEe,qEf]
theorem qqJ {a b:Rat}:qw3 a b<0↔a<b:=by unfold qw3;rw[qHA,Rat.lt_iff];omega
theorem qD0 {a b:Rat}:qw3 a b=0↔a=b:=by
 constructor
 ·intro h;have h1:¬b<a:=fun h'=>by have:=qr7.2 h';omega
  have h2:¬a<b:=fun h'=>by have:=qqJ.2 h';omega
  exact Rat.le_antisymm (Rat.not_lt.1 h1) (Rat.not_lt.1 h2)
 ·intro h;subst h;have h1:¬a<a:=Rat.lt_irrefl;have h2:¬0<qw3 a a:=fun h=>h1 (qr7.1 h);have h3:¬qw3 a a<0:=fun h=>h1 (qqJ.1 h);omega
theorem qp6 (hs:q1C l){m:Nat}{L:List Nat}{n:Nat}(h:LO l m L n):bnd 317 223 (sO l L):=qvo hs h.cb (qGi h.len h.lt (by omega))
theorem qAM {x y:Int}(hx:-200000<=x/\x<=200000)(hy:-200000<=y/\y<=200000):-40000000000<=x*y/\x*y<=40000000000:=by
 have h1:(x*y).natAbs<=200000*200000:=by rw[qMK];exact qMl (by omega) (by omega)
 omega
theorem qHE (x:Int):0<=x*x:=by
 rcases Int.le_total 0 x with h|h
 ·exact qNj h h
 ·exact Int.mul_nonneg_of_nonpos_of_nonpos h h
theorem qLh {a b c d:Int}(ha:co a)(hb:co b)(hc:co c)(hd:co d):(qcu [.i a,.i b,.i c,.i d]).run=some (0,[.i ((a-c)*(a-c)+(b-d)*(b-d))]):=by unfold co at *;have w1:vN .i64 a c=a-c:=wo ⟨by omega,by omega⟩;have w2:vN .i64 b d=b-d:=wo ⟨by omega,by omega⟩;have m1:=qAM (x:=a-c) (y:=a-c) ⟨by omega,by omega⟩ ⟨by omega,by omega⟩;have m2:=qAM (x:=b-d) (y:=b-d) ⟨by omega,by omega⟩ ⟨by omega,by omega⟩;have w3:jw .i64 (a-c) (a-c)=(a-c)*(a-c):=q7n ⟨by omega,by omega⟩;have w4:jw .i64 (b-d) (b-d)=(b-d)*(b-d):=q7n ⟨by omega,by omega⟩;have w5:qE .i64 ((a-c)*(a-c)) ((b-d)*(b-d))=(a-c)*(a-c)+(b-d)*(b-d):=zp ⟨by omega,by omega⟩;rw[qxG];simp only[STD,qtp,qtt,w1,w2,w3,w4,w5]
def mxF(F:Nat->Int):Nat->Int
 | 0=>0
 | k+1=>qos (mxF F k) (F k)
theorem qIK {x y z:Int}:qos x y<=z↔x<=z/\y<=z:=by unfold qos;split<;>omega
theorem qzv (x y:Int):x<=qos x y/\y<=qos x y:=by unfold qos;split<;>omega
theorem qHv{F:Nat->Int}{K:Int}(hK:0<=K):∀{n:Nat},(∀i,i<n->F i<=K)->mxF F n<=K
 | 0,_=>hK
 | n+1,h=>qIK.2 ⟨qHv hK fun i hi=>h i (by omega),h n (by omega)⟩
theorem qH0(F:Nat->Int):∀n,0<=mxF F n
 | 0=>qM3 0
 | n+1=>Int.le_trans (qH0 F n) (qzv _ _).1
theorem qHp{F:Nat->Int}:∀{n i:Nat},i<n->F i<=mxF F n
 | n+1,i,h=>by
  show _<=qos _ _;by_cases e:i=n
  ·rw[e];exact(qzv _ _).2
  ·exact Int.le_trans (qHp (show i<n by omega)) (qzv _ _).1
theorem qwT (l:R):(uq [.r l]).run=some (0,[.b (decide (0<qh l)&&(decide (qh l<=8)&&ieq (qwv l) 0))]):=by
 rw[qsM];by_cases h1:0<qh l
 ·by_cases h2:qh l<=8
  ·simp only[STD,qvZ,h1,h2,decide_true,Bool.true_and]
  ·simp only[STD,h1,h2,decide_true,decide_false,Bool.true_and,Bool.false_and]
 ·simp only[STD,h1,decide_false,Bool.false_and]
theorem qph (h:(decide (0<qh l)&&(decide (qh l<=8)&&ieq (qwv l) 0))=true):qhv l=0/\l.length<=8:=by simp only[qLN,decide_eq_true_eq] at h;obtain⟨h1,h2,h3⟩:=h;have h3':qwv l=0:=of_decide_eq_true (by simpa[ieq] using h3);unfold qhv;rw[if_pos h3',if_neg (by omega)];refine⟨rfl,?_⟩;unfold qh at h2;omega
theorem qKK {i:Nat}(hi:i<l.length)(x y:Int):d2 ⟨(x:Rat),(y:Rat),0⟩ (pV (raR l) i)=(((x-cI l i 0)*(x-cI l i 0)+(y-cI l i 1)*(y-cI l i 1):Int):Rat):=by obtain⟨e1,e2,e3⟩:=qv4 hi;unfold d2 pV;rw[e1,e2,e3];simp only[qN8,qNF,qNm];have:((0:Int):Rat)=0:=rfl;rw[this];grind
theorem qo7 (x0:R)(x1 x2:Int)(_:UFit (.sl [(.int .i64),(.int .i64)]) (.l x0))(wex0:x0.length*16<=140737488351232)(_:IntKind.min .i64<=x1)(_:x1<=IntKind.max .i64)(_:IntKind.min .i64<=x2)(_:x2<=IntKind.max .i64):(u9 [.r x0,.i x1,.i x2]).run=some (0,[.b true]):=by
 have hr:=qwT x0;rw[qhJ];cases hb:(decide (0<qh x0)&&(decide (qh x0<=8)&&ieq (qwv x0) 0)) with
 | false=>
  rw[hb] at hr;simp only[STD,hr,q24]
 | true=>
  rw[hb] at hr;obtain⟨h0,h8⟩:=qph hb;obtain⟨g1,g2,g3,g4,g5⟩:=q2n h0;have hp:=qnh x1 x2;by_cases hq:ptE x1 x2=0
  ·rw[decide_eq_true hq] at hp;obtain⟨q1,q2,q3,q4⟩:=qAC hq;obtain⟨v1,v2⟩:=qsC g1;obtain⟨L,n,lo,r1⟩:=qbi h0;have lx:qh x0=(x0.length:Int):=rfl;obtain⟨F,hF⟩:∃F:Nat->Int,F=fun i:Nat=>(x1-cI x0 (i:Int) 0)*(x1-cI x0 (i:Int) 0)+(x2-cI x0 (i:Int) 1)*(x2-cI x0 (i:Int) 1):=⟨_,rfl⟩;have fb:∀i,i<x0.length->0<=F i/\F i<=80000000000:=fun i hi=>by obtain⟨k1,k2⟩:=v2 i hi;unfold co at k1 k2;rw[hF];have m1:=qAM (x:=x1-cI x0 i 0) (y:=x1-cI x0 i 0) ⟨by omega,by omega⟩ ⟨by omega,by omega⟩;have m2:=qAM (x:=x2-cI x0 i 1) (y:=x2-cI x0 i 1) ⟨by omega,by omega⟩ ⟨by omega,by omega⟩;have n1:=qHE (x1-cI x0 i 0);have n2:=qHE (x2-cI x0 i 1);show 0<=_+_/\_+_<=_;omega
   have key:=qW (S:=wP) (fun i=>[.s (tQ (sO (raR x0) L)),.i (mxF F i),.r x0,.i (x0.length:Int),.i (i:Int),.i x1,.i x2,.s (tQ (cO (raR x0) L).x),.s (tQ (cO (raR x0) L).y)])
    (0,[.s (tQ (sO (raR x0) L)),.i (mxF F x0.length),.i x1,.i x2,.s (tQ (cO (raR x0) L).x),.s (tQ (cO (raR x0) L).y)]) x0.length (by omega) (fun i hi=>by
    obtain⟨k1,k2⟩:=v2 i hi;have rf:=qLh (show co x1 from⟨q1,q2⟩) (show co x2 from⟨q3,q4⟩) k1 k2;have e:qos (mxF F i) ((x1-cI x0 i 0)*(x1-cI x0 i 0)+(x2-cI x0 i 1)*(x2-cI x0 i 1))=mxF F (i+1):=by rw[mxF,hF]
    rw[q6g];simp only[STD,lx,rf,e,kq hi (show x0.length<9223372036854775808 by omega),show (i:Int)<x0.length by omega,show (0:Int)<=i by omega,and_self]) (by
    rw[q6g];simp only[STD,show ¬(x0.length:Int)<x0.length by omega])
   have key':(qf wP [.s (tQ (sO (raR x0) L)),.i 0,.r x0,.i (x0.length:Int),.i 0,.i x1,.i x2,.s (tQ (cO (raR x0) L).x),.s (tQ (cO (raR x0) L).y)]).run=_:=key;obtain⟨M,hM⟩:∃M,M=mxF F x0.length:=⟨_,rfl⟩;have mb:0<=M/\M<=80000000000:=by rw[hM];exact⟨qH0 F _,qHv (by omega) fun i hi=>(fb i hi).2⟩
   rw[<-hM] at key';have wh:(ye [.i M]).run=some (0,[.s (tQ (M:Rat))]):=q45 ⟨by omega,by omega⟩;have wx:=q45 (m:=x1) ⟨by omega,by omega⟩;have wy:=q45 (m:=x2) ⟨by omega,by omega⟩;have bM:bnd 12 1 (M:Rat):=quX (qLA (qoI (n:=80000000000) (by omega)) (show nl 80000000000<=12 by decide +kernel)) (by omega);have rc:=q3l bM (qp6 g4 lo) (by omega) (by omega);have sl:=qCv lo.sup (c:=⟨(x1:Rat),(x2:Rat),0⟩) (r:=(M:Rat)) fun i hi=>by rw[q8c] at hi;rw[qKK hi];have:F i<=M:=hM▸qHp hi;rw[hF] at this;exact Rat.intCast_le_intCast.2 this
   rw[<-lo.cen] at sl;have nn:=qt6 ⟨(x1:Rat),(x2:Rat),0⟩ (cO (raR x0) L);have ge:¬qw3 (M:Rat) (sO (raR x0) L)<0:=fun h=>by have:=qqJ.1 h;grind
   have rc':(zd [.s (tQ (M:Rat)),.s (tQ (sO (raR x0) L))]).run=some (0,[.i (qw3 (M:Rat) (sO (raR x0) L)),.i 0]):=rc;by_cases hgt:0<qw3 (M:Rat) (sO (raR x0) L)
   ·simp only[STD,hr,hp,r1,lx,key',wh,wx,wy,rc',hgt,q24]
   ·have hz:qw3 (M:Rat) (sO (raR x0) L)=0:=by omega
    have hs:=qD0.1 hz;have hd:d2 ⟨(x1:Rat),(x2:Rat),0⟩ (cO (raR x0) L)<=0:=by grind
    have hc:=qr5 hd;have cx:(cO (raR x0) L).x=(x1:Rat):=by rw[<-hc]
    have cy:(cO (raR x0) L).y=(x2:Rat):=by rw[<-hc]
    rw[hz] at rc';rw[cx,cy] at r1 key';simp only[STD,hr,hp,r1,lx,key',wh,wx,wy,rc',qmX,qnF,Bool.and_self,q24,show ¬(0:Int)<0 by omega]
  ·rw[decide_eq_false hq] at hp;simp only[STD,hr,hp,q24]
end Go.Eng

namespace Go.Eng
variable {L:List Nat}{l:R}
theorem qvz {i:Nat}(hL:L.length<=1000)(h:∀k,k∈L->k≠i):(zm [.r (rN L),.i (i:Int)]).run=some (0,[.b false]):=by
 have key:=qW (S:=zD) (fun j=>[.r (rN L),.i (i:Int),.i (L.length:Int),.i (j:Int)]) (0,[]) L.length (by omega) (fun j hj=>by
  obtain⟨k,hk⟩:∃k,L[j]?=some k:=⟨L[j],qLB hj⟩;have hne:=h k (qMc hk);rw[vA];simp only[STD,q1n,qpe hk,kq hj (show L.length<9223372036854775808 by omega),show (j:Int)<L.length by omega,show (0:Int)<=j by omega,show ¬(i:Int)=k by omega,and_self]) (by
  rw[vA];simp only[STD,show ¬(L.length:Int)<L.length by omega])
 have key':(qf zD [.r (rN L),.i (i:Int),.i (L.length:Int),.i 0]).run=_:=key;have r:(vh [.r (rN L),.i (i:Int)]).run=some (0,[.i (-1)]):=by rw[q7m];simp only[STD,q1n,key',zU key']
 rw[q4h];simp only[STD,r];rfl
theorem qsP {i:Nat}(hL:L.length<=1000)(h:i∈L):(zm [.r (rN L),.i (i:Int)]).run=some (0,[.b true]):=by
 have key:=q3o (S:=zD) (fun j=>[.r (rN L),.i (i:Int),.i (L.length:Int),.i (j:Int)]) (fun j=>if L.getD j 0=i then some (1,[.i (j:Int)]) else none) (0,[]) L.length (by omega) (fun j hj hf=>by
  have hk:L[j]?=some (L.getD j 0):=by rw[qLw,qLB hj];rfl
  have hne:¬L.getD j 0=i:=fun e=>by rw[if_pos e] at hf;cases hf
  rw[vA];simp only[STD,q1n,qpe hk,kq hj (show L.length<9223372036854775808 by omega),show (j:Int)<L.length by omega,show (0:Int)<=j by omega,show ¬(i:Int)=(L.getD j 0:Nat) by omega,and_self]) (fun j r hj hf=>by
  have hk:L[j]?=some (L.getD j 0):=by rw[qLw,qLB hj];rfl
  have he:L.getD j 0=i:=qN7 fun e=>by rw[if_neg e] at hf;cases hf
  rw[if_pos he] at hf;cases hf;rw[vA];simp only[STD,q1n,qpe hk,he,show (j:Int)<L.length by omega,show (0:Int)<=j by omega,and_self]) (by
  rw[vA];simp only[STD,show ¬(L.length:Int)<L.length by omega])
 have key':(qf zD [.r (rN L),.i (i:Int),.i (L.length:Int),.i 0]).run=_:=key;have r:∃j:Nat,(vh [.r (rN L),.i (i:Int)]).run=some (0,[.i (j:Int)]):=by
  rw[q7m];cases hs:qfo (fun j=>if L.getD j 0=i then some ((1:Nat),[PV.i (j:Int)]) else none) 0 L.length with
  | none=>
   exfalso;obtain⟨j,hj,e⟩:=qNf.1 h;have:=qfh hs j (by omega) (by omega);rw[qLw,qLB hj] at this;rw[if_pos (show (some L[j]).getD 0=i from e)] at this;cases this
  | some v=>
   obtain⟨j,_,_,hj⟩:=qii hs;split at hj
   ·cases hj;rw[hs] at key';refine⟨j,?_⟩;simp only[STD,q1n,key',zU key',qMH];rw[if_neg (by decide)]
   ·cases hj
 obtain⟨j,r⟩:=r;rw[q4h];simp only[STD,r];simp[ile]
theorem qBC (h:q1C l):qBb l=0:=by unfold qBb;have:=h.1;rw[if_neg (by unfold qh;omega)];refine qhO fun i hi=>?_;obtain⟨h1,h2,h3⟩:=h.2 i hi;unfold co at h1 h2 h3;show (if _ then (0:Int) else 2)=0;rw[if_pos (by omega)]
theorem qbD (h:q1C l)(hl:0<l.length):qxM l=0:=by unfold qxM;rw[if_pos (qBC h),if_neg (by unfold qh;omega)]
theorem qGt (a b:List Nat)(h:(a.map fun k:Nat=>(k:Int))=b.map fun k:Nat=>(k:Int)):a=b:=by
 induction a generalizing b with
 | nil=>cases b with
  | nil=>rfl
  | cons _ _=>cases h
 | cons x a ih=>cases b with
  | nil=>cases h
  | cons y b=>
   simp only[qMv,qMN] at h;rw[ih b h.2];have:=h.1;congr 1;omega
theorem qJI {a b:List Nat}(h:rN a=rN b):a=b:=by unfold rN rI at h;refine qGt a b ?_;have:=congrArg (fun l:R=>l.map fun r=>(r.getD 0 (.i 0)).toI) h;simp only[List.map_map] at this;exact this
theorem qGE {n:Nat}(h1:∀a,a∈L->a<n)(h2:L.Pairwise (·<·)):q1s (qF9 n (rN L)) (rN L).length=0:=by
 refine qhO fun i hi=>?_;unfold rN at hi;rw[qix,qLE] at hi;have g:∀j (hj:j<L.length),cI (rN L) (j:Int) 0=(L[j]:Nat):=fun j hj=>qpe (qLB hj);unfold qF9;rw[g i hi,if_neg (by omega),if_neg (by have:=h1 _ (qM6 hi);omega)];by_cases h0:0<i
 ·rw[if_pos h0,g (i-1) (by omega),if_neg (by have:=qNU.1 h2 (i-1) i (by omega) hi (by omega);omega)]
 ·rw[if_neg h0]
theorem qIr (h0:qhv l=0){n:Nat}(lo:LO (raR l) 3 L n) :(zx [.r l,.s (tQ (cO (raR l) L).x),.s (tQ (cO (raR l) L).y),.s (tQ (sO (raR l) L)),.r (rN L)]).run=some (0,[.b true,.i 0]):=by
 obtain⟨g1,g2,g3,g4,g5⟩:=q2n h0;have ox:=lo.cb.x.ok (by omega) (by omega);have oy:=lo.cb.y.ok (by omega) (by omega);have os:=(qp6 g4 lo).ok (by omega) (by omega);have hn:=lo.most;have ck:qG5 [tQ (cO (raR l) L).x,tQ (cO (raR l) L).y,tQ (sO (raR l) L)]=0:=by
  unfold qG5;refine qhO fun i hi=>?_;have hi:i<3:=hi;rcases (show i=0\/i=1\/i=2 by omega) with rfl|rfl|rfl
  ·exact q9t ox
  ·exact q9t oy
  ·exact q9t os
 have he:clE (raR l).length [tQ (cO (raR l) L).x,tQ (cO (raR l) L).y,tQ (sO (raR l) L)] (rI (L.map fun k:Nat=>(k:Int))) 3=0:=by
  unfold clE;have:=lo.len;have e:qh (rI (L.map fun k:Nat=>(k:Int)))=((n+1:Nat):Int):=by rw[qcc,qLE,lo.len]
  rw[if_pos ck,e,if_neg (by omega),if_neg (by omega)];exact qGE lo.lt lo.asc
 obtain⟨L',q,k1,k2,k3,k4,k5,k6,r1⟩:=qxU g4 (by
  intro s hs;simp only[qLQ,qNT,or_false] at hs;rcases hs with rfl|rfl|rfl
  ·have:=qdD ox;omega
  ·have:=qdD oy;omega
  ·have:=qdD os;omega) (ys:=L.map fun k:Nat=>(k:Int)) (by have:=lo.len;rw[qLE];omega) he
 have eL:L'=L:=(qJI (show rN L=rN L' from k1)).symm;have ee:qHr [tQ (cO (raR l) L).x,tQ (cO (raR l) L).y,tQ (sO (raR l) L)] [tQ (cO (raR l) L).x,tQ (cO (raR l) L).y,tQ (sO (raR l) L)]=true:=by simp only[qHr,decide_true,Bool.and_self]
 rw[eL,lo.supp,ee] at r1;have r2:(ji [.r (raR l),.r [[.s (tQ (cO (raR l) L).x)],[.s (tQ (cO (raR l) L).y)],[.s (tQ (sO (raR l) L))]],.r (rN L),.i 3]).run=some (0,[.b true,.i 0]):=r1;rw[q7a];simp only[STD,q8Q,h0,qq7 g2,r2]
theorem qoP (x0:R)(_:UFit (.sl [(.int .i64),(.int .i64)]) (.l x0))(wex0:x0.length*16<=140737488351232):(u5 [.r x0]).run=some (0,[.b true]):=by
 have hr:=qwT x0;rw[qhM];cases hb:(decide (0<qh x0)&&(decide (qh x0<=8)&&ieq (qwv x0) 0)) with
 | false=>
  rw[hb] at hr;simp only[STD,hr,q24]
 | true=>
  rw[hb] at hr;obtain⟨h0,h8⟩:=qph hb;obtain⟨g1,g2,g3,g4,g5⟩:=q2n h0;obtain⟨L,n,lo,r1⟩:=qbi h0;have hL:=lo.len;have hn:=lo.three;have ox:=lo.cb.x.ok (by omega) (by omega);have oy:=lo.cb.y.ok (by omega) (by omega);have rs:qh (rN L)=((n+1:Nat):Int):=by rw[q1n,lo.len]
  have cx:=q6B (tQ (cO (raR x0) L).x) (by have:=qdD ox;omega);have cy:=q6B (tQ (cO (raR x0) L).y) (by have:=qdD oy;omega);rw[q9t ox] at cx;rw[q9t oy] at cy;have hz:(cO (raR x0) L).z=0:=qLq lo.len lo.lt (by
   rcases g5 with g5|g5
   ·omega
   ·exact g5.2)
  have lr:qh (raR x0)=(x0.length:Int):=by unfold qh;rw[q8c]
  have key:=qW (S:=wN) (fun i=>[.r x0,.s (tQ (sO (raR x0) L)),.r (rN L),.r (raR x0),.i (x0.length:Int),.i (i:Int),.s (tQ (cO (raR x0) L).x),.s (tQ (cO (raR x0) L).y)])
   (0,[.r x0,.s (tQ (sO (raR x0) L)),.r (rN L),.s (tQ (cO (raR x0) L).x),.s (tQ (cO (raR x0) L).y)]) x0.length (by omega) (fun i hi=>by
   have hi':i<(raR x0).length:=by rw[q8c];exact hi
   obtain⟨k1,k2,k3⟩:=g4.row hi';have ra:=qpq lo.cb k1 k2 k3;rw[hz,quP] at ra;have ra':(q1q [.s (tQ (cO (raR x0) L).x),.s (tQ (cO (raR x0) L).y),.s [48],.i (cI (raR x0) (i:Int) 0),.i (cI (raR x0) (i:Int) 1),.i (cI (raR x0) (i:Int) 2)]).run=some (0,[.s (tQ (d2 (cO (raR x0) L) (pV (raR x0) i)))]):=ra;have rc:(zd [.s (tQ (d2 (cO (raR x0) L) (pV (raR x0) i))),.s (tQ (sO (raR x0) L))]).run=some (0,[.i (qw3 (d2 (cO (raR x0) L) (pV (raR x0) i)) (sO (raR x0) L)),.i 0]):=
    q3l (qvo g4 lo.cb hi') (qp6 g4 lo) (by omega) (by omega)
   have all:=lo.sup.all i hi';rw[<-lo.cen] at all;have ngt:¬0<qw3 (d2 (cO (raR x0) L) (pV (raR x0) i)) (sO (raR x0) L):=fun h=>absurd (qr7.1 h) (Rat.not_lt.2 all);have w:=kq hi (show x0.length<9223372036854775808 by omega);rw[q6m];by_cases hlt:qw3 (d2 (cO (raR x0) L) (pV (raR x0) i)) (sO (raR x0) L)<0
   ·have no:=qvz (L:=L) (i:=i) (by omega) fun k hk e=>by
     subst e;obtain⟨j,hj,e⟩:=qNf.1 hk;have hq:=lo.sup.eq j (by omega);have e0:Lf (raR x0) L j=k:=by unfold Lf;rw[qLw,qLB hj];exact e
     rw[<-lo.cen,e0] at hq;have:=qqJ.1 hlt;rw[hq] at this;exact absurd this Rat.lt_irrefl
    simp only[STD,lr,ra',rc,ngt,hlt,no,w,show (i:Int)<x0.length by omega,show (0:Int)<=i by omega,and_self]
   ·simp only[STD,lr,ra',rc,ngt,hlt,w,show (i:Int)<x0.length by omega,show (0:Int)<=i by omega,and_self]) (by
   rw[q6m];simp only[STD,show ¬(x0.length:Int)<x0.length by omega])
  have key':(qf wN [.r x0,.s (tQ (sO (raR x0) L)),.r (rN L),.r (raR x0),.i (x0.length:Int),.i 0,.s (tQ (cO (raR x0) L).x),.s (tQ (cO (raR x0) L).y)]).run=_:=key;have rv:=qIr h0 lo;have hh:=qbD g4 (by rw[q8c];exact g3);obtain⟨L',n',lo',r2⟩:=qbn hh;obtain⟨es,ec⟩:=qjb lo'.sup lo.sup;rw[<-lo'.cen,<-lo.cen] at ec;rw[ec,es,hz,quP] at r2;simp only[STD,hr,r1,rs,cx,cy,qt9 g2,lr,key',zU key',rv,r2,qmX,qnF,Bool.and_self,q24,show ¬((n+1:Nat):Int)=0 by omega]
end Go.Eng

namespace Go.Eng
theorem Sup.pts{n:Nat}{p p':Nat->V3}{q:Nat}{L:Nat->Nat}{u:Nat->Rat}{s:Rat}(h:Sup n p q L u s)(e:∀i,i<n->p i=p' i):Sup n p' q L u s:=by
 have ec:∀v:Nat->Rat,(cen q v fun j=>p' (L j))=cen q v fun j=>p (L j):=fun v=>qyQ fun j hj=>(e _ (h.lt j hj)).symm;refine⟨h.lt,h.asc,fun v h1 h2=>h.ind v h1 (by rw[<-ec];exact h2),h.one,fun j hj=>?_,h.nn,fun i hi=>?_⟩
 ·rw[ec,<-e _ (h.lt j hj)];exact h.eq j hj
 ·rw[ec,<-e i hi];exact h.all i hi
def quH(l:R)(x y z:Int):R:=wL l [[.i x,.i y,.i z]]
theorem qsB(l:R)(x y z:Int):(quH l x y z).length=l.length+1:=by simp[quH,wL]
theorem qvO(l:R)(x y z:Int){i:Nat}(h:i<l.length)(k:Nat):cI (quH l x y z) (i:Int) k=cI l (i:Int) k:=by unfold cI we quH wL;simp only[qLw,qLG,qLJ h]
theorem qCW(l:R)(x y z:Int):cI (quH l x y z) (l.length:Int) 0=x/\cI (quH l x y z) (l.length:Int) 1=y/\cI (quH l x y z) (l.length:Int) 2=z:=by
 have e:(quH l x y z).getD ((l.length:Int).toNat) []=[.i x,.i y,.i z]:=by rw[qLG,qLw,quH,wL,qLL (qLy _),qMd];rfl
 refine⟨?_,?_,?_⟩<;>(conv=>lhs;unfold cI we)<;>rw[e]<;>rfl
theorem qHC{l:R}{x y z:Int}{i:Nat}(h:i<l.length):pV l i=pV (quH l x y z) i:=by unfold pV;simp only[qvO l x y z h]
theorem qE0(l:R)(x y z:Int):pV (quH l x y z) l.length=spV x y z:=by obtain⟨h1,h2,h3⟩:=qCW l x y z;unfold pV spV;simp only[h1,h2,h3]
theorem qLa{l:R}{x y z:Int}{L L':List Nat}{n n':Nat}(lo:LO l 4 L n)(lo':LO (quH l x y z) 4 L' n') :(d2 (cO l L) (spV x y z)<=sO l L->cO l L=cO (quH l x y z) L'/\sO l L=sO (quH l x y z) L')/\(sO l L<d2 (cO l L) (spV x y z)->sO l L<sO (quH l x y z) L'/\l.length∈L'):=by
 have h1:=lo.sup.pts (p':=pV (quH l x y z)) fun i hi=>qHC hi;have h2:=lo'.sup;rw[qsB] at h2;have ec:cO l L=cen (n+1) (wts (tO l L) n) fun j=>pV (quH l x y z) (Lf l L j):=by rw[lo.cen];exact qyQ fun j hj=>qHC (qGi lo.len lo.lt hj)
 constructor
 ·intro h;obtain⟨e1,e2⟩:=qKm h1 h2 (by rw[<-ec,qE0];exact h);exact⟨by rw[ec,lo'.cen];exact e2,e1⟩
 ·intro h;obtain⟨e1,j,hj,e2⟩:=qHX h1 h2 (by rw[<-ec,qE0];exact h);refine⟨e1,?_⟩;rw[<-e2];unfold Lf;rw[qLw,qLB (show j<L'.length by rw[lo'.len];exact hj)];exact qM6 _
theorem qG7(l:R)(h:l.length<=64)(h0:l.length≠0):(z8 [.r l]).run=some (0,[.r l]):=by
 rw[q6u];have a:(0:Int)<qh l:=by unfold qh;omega
 have b:qh []+qh l<=5864062014805:=by show (0:Int)+qh l<=_;unfold qh;omega
 simp only[STD,a,b];rfl
theorem qLn{a b c:Bs}(ha:(zg [.s a]).run=some (0,[.i 0]))(hb:(zg [.s b]).run=some (0,[.i 0]))(hc:(zg [.s c]).run=some (0,[.i 0])) :(qq [.r [[.s a],[.s b],[.s c]]]).run=some (0,[.b false]):=by
 have one:∀x,(zg [.s x]).run=some (0,[.i 0])->(zN [.s x]).run=some (0,[.b false]):=fun x hx=>by rw[qgs];simp only[STD,hx];rfl
 have key:=qW (S:=ql) (fun i=>[.r [[.s a],[.s b],[.s c]],.i 3,.i (i:Int),.r [[.s a],[.s b],[.s c]],.r [[.s a],[.s b],[.s c]]])
  (0,[.r [[.s a],[.s b],[.s c]],.r [[.s a],[.s b],[.s c]]]) 3 (by omega) (fun i hi=>by
  have h:(zN [.s (cS [[.s a],[.s b],[.s c]] (i:Int) 0)]).run=some (0,[.b false]):=by
   rcases (show i=0\/i=1\/i=2 by omega) with rfl|rfl|rfl
   ·exact one _ ha
   ·exact one _ hb
   ·exact one _ hc
  have l3:qh [[U.s a],[U.s b],[U.s c]]=3:=rfl;rw[zk];simp only[STD,h,l3,kq hi (show 3<9223372036854775808 by omega),show (i:Int)<3 by omega,show (0:Int)<=i by omega,and_self]) (by
  rw[zk];simp only[STD,show ¬((3:Nat):Int)<3 by omega])
 have l3:qh [[U.s a],[U.s b],[U.s c]]=3:=rfl;have key':(qf ql [.r [[.s a],[.s b],[.s c]],.i 3,.i 0,.r [[.s a],[.s b],[.s c]],.r [[.s a],[.s b],[.s c]]]).run=_:=key;rw[vJ];simp only[STD,l3,key',zU key']
theorem qnP(x0:R)(x1 x2 x3:Int)(_:UFit (.sl [(.int .i64),(.int .i64),(.int .i64)]) (.l x0))(wex0:x0.length*24<=140737488351232)(_:IntKind.min .i64<=x1)(_:x1<=IntKind.max .i64)(_:IntKind.min .i64<=x2)(_:x2<=IntKind.max .i64)(_:IntKind.min .i64<=x3)(_:x3<=IntKind.max .i64):(u7 [.r x0,.i x1,.i x2,.i x3]).run=some (0,[.b true]):=by
 rw[qhE];by_cases h1:qh x0=0
 ·simp only[STD,h1,q24]
 by_cases h2:5<qh x0
 ·simp only[STD,h1,h2,q24]
 have h3:=qlP x0;by_cases h4:qBb x0=0
 case neg=>simp only[STD,h1,h2,h3,h4,q24]
 have h5:=qeK x1 x2 x3;by_cases h6:spE x1 x2 x3=0
 case neg=>simp only[STD,h1,h2,h3,h4,h5,h6,decide_false,q24]
 have sp:=qy1 h4;obtain⟨q1,q2,q3⟩:=qAA h6;have n0:0<x0.length:=by unfold qh at h1;omega
 have n5:x0.length<=5:=by unfold qh at h2;omega
 have sp':q1C (quH x0 x1 x2 x3):=⟨by rw[qsB];omega,fun i hi=>by
  rw[qsB] at hi;by_cases e:i<x0.length
  ·have:=sp.2 i e;unfold qBZ at *;rw[qvO x0 x1 x2 x3 e,qvO x0 x1 x2 x3 e,qvO x0 x1 x2 x3 e];exact this
  ·have e:i=x0.length:=by omega
   subst e;obtain⟨g1,g2,g3⟩:=qCW x0 x1 x2 x3;unfold qBZ;rw[g1,g2,g3];exact⟨q1,q2,q3⟩⟩
 obtain⟨L,n,lo,r1⟩:=qbn (qbD sp n0);obtain⟨L',n',lo',r2⟩:=qbn (qbD sp' (by rw[qsB];omega));have hc:=qG7 x0 (by omega) (by omega);have e3:qh [[U.i x1,U.i x2,U.i x3]]=1:=rfl;have room:qh x0+1<=5864062014805:=by unfold qh;omega
 have eg:wL x0 [[.i x1,.i x2,.i x3]]=quH x0 x1 x2 x3:=rfl;have ox:=lo.cb.x.ok (by omega) (by omega);have oy:=lo.cb.y.ok (by omega) (by omega);have oz:=lo.cb.z.ok (by omega) (by omega);have os:=(qp6 sp lo).ok (by omega) (by omega);have ck:∀{q:Rat},okQ q->(zg [.s (tQ q)]).run=some (0,[.i 0]):=fun {q} hq=>by
  have:=q6B (tQ q) (by have:=qdD hq;omega)
  rwa [q9t hq] at this
 have cf:=qLn (ck ox) (ck oy) (ck oz);have es:quz [[U.s (tQ (cO x0 L).x)],[U.s (tQ (cO x0 L).y)],[U.s (tQ (cO x0 L).z)]] 0 3=[[U.s (tQ (cO x0 L).x)],[U.s (tQ (cO x0 L).y)],[U.s (tQ (cO x0 L).z)]]:=rfl;have ra:=qpq lo.cb q1 q2 q3;have fb:=qvo sp' lo.cb (k:=x0.length) (by rw[qsB];omega);rw[qE0] at fb;have rc:=q3l fb (qp6 sp lo) (by omega) (by omega);have rm:=q3l (qp6 sp lo) (qp6 sp' lo') (by omega) (by omega);have e2:∀a b c:Bs,cS [[U.s a,U.s b,U.s c]] 0 2=c/\cS [[U.s a,U.s b,U.s c]] 0 1=b/\cS [[U.s a,U.s b,U.s c]] 0 0=a:=fun _ _ _=>⟨rfl,rfl,rfl⟩;obtain⟨gin,gout⟩:=qLa lo lo';change (zd _).run=some (0,[.i (qw3 _ _),.i 0]) at rc;change (zd _).run=some (0,[.i (qw3 _ _),.i 0]) at rm;by_cases hd:sO x0 L<d2 (cO x0 L) (spV x1 x2 x3)
 ·obtain⟨k1,k2⟩:=gout hd;have c1:¬qw3 (d2 (cO x0 L) (spV x1 x2 x3)) (sO x0 L)<=0:=by have:=qr7.2 hd;omega
  have c2:qw3 (sO x0 L) (sO (quH x0 x1 x2 x3) L')<0:=qqJ.2 k1;have yes:=qsP (L:=L') (i:=x0.length) (by have:=lo'.len;have:=lo'.three;omega) k2;have er:qh x0=(x0.length:Int):=rfl;rw[<-er] at yes;simp only[STD,h1,h2,h3,h4,h5,h6,decide_true,r1,hc,e3,room,eg,r2,ck os,es,cf,e2,ra,rc,c1,rm,c2,yes,q24];rfl
 ·obtain⟨k1,k2⟩:=gin (Rat.not_lt.1 hd);have c1:qw3 (d2 (cO x0 L) (spV x1 x2 x3)) (sO x0 L)<=0:=by apply qM9;intro h;exact hd (qr7.1 (by omega))
  rw[<-k1,<-k2] at r2;simp only[STD,h1,h2,h3,h4,h5,h6,decide_true,r1,hc,e3,room,eg,r2,ck os,es,cf,e2,ra,rc,c1,qmX,qnF,Bool.and_self,q24];rfl
theorem qc8:∀{n:Nat} {L:List Nat},(∀a,a∈L->a<n)->L.Pairwise (·<·)->(List.range n).filter (fun i=>decide (i∈L))=L
 | 0,L,h,_=>by
  cases L with
  | nil=>rfl
  | cons a L=>exact absurd (h a (qLS ..)) (qNr a)
 | n+1,L,h,hp=>by
  rw[qMQ,List.filter_append];by_cases hn:n∈L
  ·rcases List.eq_nil_or_concat L with e|⟨L0,b,e⟩
   ·subst e;cases hn
   ·rw[List.concat_eq_append] at e;subst e;have hp':=List.pairwise_append.1 hp;have hb:b=n:=by
     rcases qLU.1 hn with q|q
     ·have h1:=hp'.2.2 n q b (qLT.2 rfl);have h2:=h b (qMe _ (qLT.2 rfl));omega
     ·exact(qLT.1 q).symm
    subst hb;have h0:∀a,a∈L0->a<b:=fun a ha=>hp'.2.2 a ha b (qLT.2 rfl);have ih:=qc8 h0 hp'.1;have e1:(List.range b).filter (fun i=>decide (i∈L0++[b]))=(List.range b).filter (fun i=>decide (i∈L0)):=by
     apply List.filter_congr;intro i hi;have:=qMi.1 hi;rw[decide_eq_decide,qLU,qLT];constructor
     ·intro q;rcases q with q|q
      ·exact q
      ·omega
     ·intro q;exact .inl q
    rw[e1,ih,List.filter_cons,if_pos (by simp),List.filter_nil]
  ·have h0:∀a,a∈L->a<n:=fun a ha=>by have:=h a ha;have:a≠n:=fun e=>hn (e▸ha);omega
   rw[qc8 h0 hp,List.filter_cons,if_neg (by simp[hn]),List.filter_nil,qMr]
theorem qwy(p q:Nat->Bool):∀(l:List Nat),(∀i,i∈l->¬(p i=true/\q i=true))->(l.filter (fun i=>p i||q i)).length=(l.filter p).length+(l.filter q).length
 | [],_=>rfl
 | a::l,h=>by
  have ih:=qwy p q l fun i hi=>h i (qLW _ hi);have ha:=h a (qLS ..);rw[List.filter_cons,List.filter_cons,List.filter_cons];cases hp:p a<;>cases hq:q a
  ·simpa using ih
  ·simp[ih];omega
  ·simp[ih];omega
  ·exact absurd ⟨hp,hq⟩ ha
theorem qtP{x:Nat}:∀{n:Nat},x<n->((List.range n).filter (fun i=>decide (i=x))).length=1
 | n+1,h=>by
  rw[qMQ,List.filter_append,qLR];by_cases e:x=n
  ·subst e;have:(List.range x).filter (fun i=>decide (i=x))=[]:=by rw[List.filter_eq_nil_iff];intro i hi;have:=qMi.1 hi;simp;omega
   rw[this];simp
  ·rw[qtP (show x<n by omega)];simp[show ¬n=x by omega]
theorem qHT{n:Nat}{L:List Nat}(h1:∀a,a∈L->a<n)(h2:L.Pairwise (·<·))(hlt:L.length<n):∃L':List Nat,L'.length=L.length+1/\(∀a,a∈L'->a<n)/\L'.Pairwise (·<·)/\∀a,a∈L->a∈L':=by
 obtain⟨x,hx,hxL⟩:∃x,x<n/\x∉L:=by
  apply qM9;intro hh;have e:=qc8 h1 h2;have e2:(List.range n).filter (fun i=>decide (i∈L))=List.range n:=by rw[List.filter_eq_self];intro i hi;exact decide_eq_true (qM9 fun hn=>hh ⟨i,qMi.1 hi,hn⟩)
  rw[e2] at e;have:=congrArg List.length e;rw[qMa] at this;omega
 refine⟨(List.range n).filter (fun i=>decide (i∈L)||decide (i=x)),?_,fun a ha=>qMi.1 (List.mem_filter.1 ha).1,List.pairwise_lt_range.filter _,fun a ha=>List.mem_filter.2 ⟨qMi.2 (h1 a ha),by simp[ha]⟩⟩;rw[qwy _ _ _ (fun i _ ⟨q1,q2⟩=>hxL (by have a1:=of_decide_eq_true q1;have a2:=of_decide_eq_true q2;exact a2▸a1)),qc8 h1 h2,qtP hx]
theorem qHG{n k:Nat}(hk:k<=n):∀(d:Nat) {L:List Nat},L.length+d=k->(∀a,a∈L->a<n)->L.Pairwise (·<·)->∃L',L'∈lsN n k/\∀a,a∈L->a∈L'
 | 0,L,hl,h1,h2=>⟨L,q7L.2 ⟨by omega,h1,h2⟩,fun _ h=>h⟩
 | d+1,L,hl,h1,h2=>by
  obtain⟨L1,q1,q2,q3,q4⟩:=qHT h1 h2 (by omega);obtain⟨L',r1,r2⟩:=qHG hk d (L:=L1) (by omega) q2 q3;exact⟨L',r1,fun a ha=>r2 a (q4 a ha)⟩
variable {L:List Nat}{l:R}
theorem qHf {j:Nat}(h:L.length<=j):Lf l L j=l.length:=by unfold Lf;rw[qLw,qLV h];rfl
theorem qIs {j:Nat}(h:j<L.length):Lf l L j=L[j]:=by unfold Lf;rw[qLw,qLB h];rfl
theorem sub_le {S:R}{m m' n n':Nat}{L L' L2:List Nat}(lo:LO S m L n)(hlt:∀a,a∈L'->a<S.length)(lo2:LO (chR S L') m' L2 n'):sO (chR S L') L2<=sO S L:=by have h2:=lo2.sup;rw[qdN,qAR] at h2;exact qAU (f:=Lf S L') (fun i hi=>by rw[qIs hi];exact hlt _ (qM6 _)) lo.sup h2
theorem qJx {S:R}{m m' n n':Nat}{L L' L2:List Nat}(lo:LO S m L n)(lo2:LO (chR S L') m' L2 n')(hsub:∀a,a∈L->a∈L'):sO S L<=sO (chR S L') L2:=by
 have h2:=lo2.sup;rw[qdN] at h2;have hn:=lo.len;have ex:∀j:Nat,∃i:Nat,(j<n+1->i<L'.length)/\pV (chR S L') i=pV S (Lf S L j):=fun j=>by
  rw[qAR];by_cases hj:j<n+1
  ·have hm:Lf S L j∈L':=hsub _ (qER lo.len hj);obtain⟨i,hi,e⟩:=qNf.1 hm;refine⟨i,fun _=>hi,?_⟩;show pV S (Lf S L' i)=_;rw[qIs hi,e]
  ·refine⟨L'.length,fun h=>absurd h hj,?_⟩;show pV S (Lf S L' L'.length)=_;rw[qHf (qLy _),qHf (show L.length<=j by omega)]
 obtain⟨g,hg⟩:=Classical.axiomOfChoice ex;have own:=qIT lo.sup;have e:(fun j=>pV S (Lf S L j))=fun j=>pV (chR S L') (g j):=by funext j;exact(hg j).2.symm
 rw[e] at own;exact qAU (f:=g) (fun i hi=>(hg i).1 hi) h2 own
def chP(l:R)(L:List Nat):R:=L.map fun k:Nat=>[.i (cI l (k:Int) 0),.i (cI l (k:Int) 1)]
theorem qrb (l:R)(L:List Nat):(chP l L).length=L.length:=by unfold chP;rw[qLE]
theorem qEN {j k:Nat}(h:L[j]?=some k):cI (chP l L) (j:Int) 0=cI l (k:Int) 0/\cI (chP l L) (j:Int) 1=cI l (k:Int) 1:=by
 have e:(chP l L).getD ((j:Int).toNat) []=[.i (cI l (k:Int) 0),.i (cI l (k:Int) 1)]:=by unfold chP;rw[qLG,qLw,qLH,h];rfl
 refine⟨?_,?_⟩<;>(conv=>lhs;unfold cI we)<;>rw[e]<;>rfl
theorem qJs (hlt:∀a,a∈L->a<l.length):raR (chP l L)=chR (raR l) L:=by
 unfold chR
 conv=>lhs;unfold raR
 rw[qrb];apply List.ext_getElem
 ·simp
 ·intro j h1 h2;have hj:j<L.length:=by simpa using h1
  have hk:L[j]?=some L[j]:=qLB hj;obtain⟨e1,e2⟩:=qEN (l:=l) hk;obtain⟨f1,f2,f3⟩:=qv4 (hlt _ (qM6 hj));simp only[qNy,List.getElem_range];rw[e1,e2,f1,f2,f3]
theorem qIg (h1:l.length<=64)(h2:∀i,i<l.length->co (cI l (i:Int) 0)/\co (cI l (i:Int) 1)):qwv l=0:=by unfold qwv;rw[if_neg (by unfold qh;omega)];refine qhO fun i hi=>?_;obtain⟨k1,k2⟩:=h2 i hi;unfold co at k1 k2;show (if _ then (0:Int) else 2)=0;rw[if_pos (by omega)]
theorem qA4 (h0:0<l.length)(h1:l.length<=64)(h2:∀i,i<l.length->co (cI l (i:Int) 0)/\co (cI l (i:Int) 1)):qhv l=0:=by unfold qhv;rw[if_pos (qIg h1 h2),if_neg (by unfold qh;omega)]
theorem qFB (h:qhv l=0)(hL:0<L.length)(hL2:L.length<=64)(hlt:∀a,a∈L->a<l.length):qhv (chP l L)=0:=by obtain⟨g1,_⟩:=q2n h;obtain⟨_,v2⟩:=qsC g1;refine qA4 (by rw[qrb];exact hL) (by rw[qrb];exact hL2) fun i hi=>?_;rw[qrb] at hi;obtain⟨e1,e2⟩:=qEN (l:=l) (qLB hi);rw[e1,e2];exact v2 _ (hlt _ (qM6 hi))
noncomputable def mxQ(v:Nat->Rat):Nat->Rat
 | 0=>0
 | j+1=>if mxQ v j<v j then v j else mxQ v j
theorem qHm{v:Nat->Rat}{s:Rat}(h0:0<=s):∀{n:Nat},(∀j,j<n->v j<=s)->mxQ v n<=s
 | 0,_=>h0
 | n+1,h=>by
  unfold mxQ;split
  ·exact h n (by omega)
  ·exact qHm h0 fun j hj=>h j (by omega)
theorem qH8{v:Nat->Rat}:∀{n j:Nat},j<n->v j<=mxQ v n
 | n+1,j,h=>by
  unfold mxQ;by_cases e:j=n
  ·subst e;split
   ·exact qN9
   ·rename_i q;exact Rat.not_lt.1 q
  ·have ih:=qH8 (v:=v) (show j<n by omega);split
   ·rename_i q;exact Rat.le_trans ih (Rat.le_of_lt q)
   ·exact ih
theorem qK9 {v:Nat->Rat}{s:Rat}{n:Nat}(h0:0<=s)(h:∀j,j<n->v j<=s){k:Nat}(hk:k<n)(e:s<=v k):mxQ v n=s:=Rat.le_antisymm (qHm h0 h) (Rat.le_trans e (qH8 hk))
theorem qDC(v:Nat->Rat):∀n,mxQ v n=0\/∃j,j<n/\mxQ v n=v j
 | 0=>.inl rfl
 | n+1=>by
  unfold mxQ;split
  ·exact .inr ⟨n,by omega,rfl⟩
  ·rcases qDC v n with h|⟨j,hj,h⟩
   ·exact .inl h
   ·exact .inr ⟨j,by omega,h⟩
def E5:R:=[[.i 0,.i 0],[.i 6,.i 0]]
theorem qGe:qvx (pV (raR E5)) (raR E5).length 1 (Lf (raR E5) [0,1]) (fun _=>1/2):=by
 refine⟨qHF (a:=72) (by decide +kernel) (by decide +kernel) (by decide +kernel),?_,?_⟩
 ·decide +kernel
 ·decide +kernel
theorem qiV:(kI []).run=some (0,[.b true]):=by
  obtain⟨L,n,lo,r⟩:=qbi (l:=E5) (by decide);have sp:=qqk qGe (by decide) (by intro j k h1 h2;have:j=0/\k=1:=(by omega);rcases this with⟨rfl,rfl⟩;decide)
  obtain⟨us,_⟩:=qjb lo.sup sp;have es:sO (raR E5) L=9:=by rw[us];decide +kernel
  have e9:tQ 9=[57]:=by decide +kernel
  rw[es,e9] at r;have r':(qV [.r [[.i 0,.i 0],[.i 6,.i 0]]]).run=_:=r;rw[qo2];simp only[STD,r',qmX]
theorem qwR (l:R):∃b,(kM [.r l]).run=some (0,[.b b])/\(b=true->0<l.length/\l.length<=8/\∀i,i<l.length->(-9000<=cI l (i:Int) 0/\cI l (i:Int) 0<=9000)/\-9000<=cI l (i:Int) 1/\cI l (i:Int) 1<=9000):=by
 have lx:qh l=(l.length:Int):=rfl;rw[qnM];by_cases h1:0<l.length
 ·by_cases h2:l.length<=8
  ·obtain⟨bad,hbad⟩:∃bad:Nat->Bool,bad=fun i:Nat=>decide (cI l (i:Int) 0 < -9000)||(decide (9000<cI l (i:Int) 0)||(decide (cI l (i:Int) 1 < -9000)||decide (9000<cI l (i:Int) 1))):=⟨_,rfl⟩;have one:∀i:Nat,(jk [.i (cI l (i:Int) 0),.i (cI l (i:Int) 1)]).run=some (0,[.b (bad i)]):=fun i=>by
    rw[qlM,hbad];by_cases q1:cI l (i:Int) 0 < -9000
    ·simp only[STD,q1,decide_true,Bool.true_or]
    ·by_cases q2:9000<cI l (i:Int) 0
     ·simp only[STD,q1,q2,decide_true,decide_false,Bool.true_or,Bool.false_or]
     ·by_cases q3:cI l (i:Int) 1 < -9000
      ·simp only[STD,q1,q2,q3,decide_true,decide_false,Bool.true_or,Bool.false_or]
      ·simp only[STD,q1,q2,q3,decide_false,Bool.false_or];rfl
   have key:=q3o (S:=qg) (fun k=>[.r l,.i (l.length:Int),.i (k:Int),.r l,.r l]) (fun k=>if bad k=true then some (1,[.i (k:Int),.r l,.r l]) else none) (0,[.r l,.r l]) l.length (by omega)
    (fun k hk hf=>by
     have h0:bad k=false:=by
      cases hb:bad k with
      | true=>rw[if_pos hb] at hf;cases hf
      | false=>rfl
     rw[qF];simp only[STD,lx,one k,h0,kq hk (show l.length<9223372036854775808 by omega),show (k:Int)<l.length by omega,show (0:Int)<=k by omega,and_self])
    (fun k r hk hf=>by
     have h0:bad k=true:=by
      cases hb:bad k with
      | false=>rw[if_neg (by rw[hb];decide)] at hf;cases hf
      | true=>rfl
     rw[if_pos h0] at hf;cases hf;rw[qF];simp only[STD,lx,one k,h0,show (k:Int)<l.length by omega,show (0:Int)<=k by omega,and_self])
    (by rw[qF];simp only[STD,show ¬(l.length:Int)<l.length by omega])
   have cf:∃c,(qp [.r l]).run=some (0,[.b c])/\(c=false->∀k,k<l.length->bad k=false):=by
    rw[vO];cases hs:qfo (fun k=>if bad k=true then some (1,[.i (k:Int),.r l,.r l]) else (none:Option (Nat×List PV))) 0 l.length with
    | none=>
     rw[hs] at key;have key':(qf qg [.r l,.i (l.length:Int),.i 0,.r l,.r l]).run=some (0,[.r l,.r l]):=key;refine⟨false,by simp only[STD,lx,key',zU key'],fun _ k hk=>?_⟩;have:=qfh hs k (by omega) (by omega);cases hb:bad k with
     | true=>rw[hb] at this;simp at this
     | false=>rfl
    | some r=>
     rw[hs] at key;obtain⟨k,_,_,h3⟩:=qii hs;split at h3
     ·cases h3;have key':(qf qg [.r l,.i (l.length:Int),.i 0,.r l,.r l]).run=some (1,[.i (k:Int),.r l,.r l]):=key;exact⟨true,by simp only[STD,lx,key',zU key'];rfl,fun h=>by cases h⟩
     ·cases h3
   obtain⟨c,r,hc⟩:=cf;refine⟨!c,by simp only[STD,lx,r,show (0:Int)<l.length by omega,show (l.length:Int)<=8 by omega],fun h=>⟨h1,h2,fun i hi=>?_⟩⟩;have hc0:c=false:=by cases c<;>simp at h ⊢
   have:=hc hc0 i hi;rw[hbad] at this;simp only[Bool.or_eq_false_iff,decide_eq_false_iff_not] at this;omega
  ·exact⟨false,by simp only[STD,lx,show (0:Int)<l.length by omega,show ¬(l.length:Int)<=8 by omega],fun h=>by cases h⟩
 ·exact⟨false,by simp only[STD,lx,show ¬(0:Int)<l.length by omega],fun h=>by cases h⟩
end Go.Eng

namespace Go.Eng
variable {L:List Nat}
noncomputable def lsq(S:R)(m:Nat):Rat:=sO S ((qgO (q4l S) S.length 1 m).getD [])
theorem LO.lsq {S:R}{m n:Nat}(h:LO S m L n):lsq S m=sO S L:=by unfold Go.Eng.lsq;rw[h.first];rfl
theorem qKt {S:R}{m:Nat}(h:Mst S m)(hlt:∀a,a∈L->a<S.length):Mst (chR S L) m:=by
 rcases h with h|⟨h,hz⟩
 ·exact .inl h
 ·refine .inr ⟨h,fun k hk=>?_⟩;rw[qdN] at hk;rw[qAR];show (pV S (Lf S L k)).z=0;rw[qIs hk];exact hz _ (hlt _ (qM6 hk))
theorem qHQ {n:Nat}(h1:∀a,a∈L->a<n)(h2:L.Pairwise (·<·)):L.length<=n:=by have:=qc8 h1 h2;rw[<-this];refine qLA (List.length_filter_le _ _) (by rw[qMa];exact qLy n)
theorem qKM {S:R}{m n:Nat}(h:LO S m L n):0<=sO S L:=qJd h.sup (by omega)
theorem qJn {S:R}{m k:Nat}(hs:q1C S)(hm:Mst S m)(hk:0<k){L':List Nat}(h:L'∈lsN S.length k)(hk4:k<=4):q1C (chR S L')/\0<(chR S L').length/\Mst (chR S L') m:=by obtain⟨q1,q2,q3⟩:=q7L.1 h;exact⟨qxz hs (by omega) q2,by rw[qdN];omega,qKt hm q2⟩
theorem qGW {S:R}{m k n:Nat}(hs:q1C S)(h0:0<S.length)(hm:Mst S m)(lo:LO S m L n)(hk:k=min S.length m) :(∀L',L'∈lsN S.length k->lsq (chR S L') m<=sO S L)/\∃L',L'∈lsN S.length k/\sO S L<=lsq (chR S L') m:=by
 have m4:0<m/\m<=4:=by rcases hm with h|h<;>omega
 have one:∀L',L'∈lsN S.length k->∃L2 n2,LO (chR S L') m L2 n2:=fun L' hL'=>by obtain⟨c1,c2,c3⟩:=qJn hs hm (by omega) hL' (by omega);exact qw6 c1 c2 c3
 refine⟨fun L' hL'=>?_,?_⟩
 ·obtain⟨L2,n2,lo2⟩:=one L' hL';rw[lo2.lsq];exact sub_le lo (q7L.1 hL').2.1 lo2
 ·have hl:=qHQ lo.lt lo.asc;have:=lo.len;have:=lo.most;obtain⟨L',r1,r2⟩:=qHG (n:=S.length) (k:=k) (by omega) (k-L.length) (L:=L) (by omega) lo.lt lo.asc;obtain⟨L2,n2,lo2⟩:=one L' r1;exact⟨L',r1,by rw[lo2.lsq];exact qJx lo lo2 r2⟩
def zO(x1:R)(i:Nat):Int:=if (i:Int)<qh x1 then cI x1 (i:Int) 0 else 0
def sR(x0 x1:R)(n:Nat):R:=(List.range n).map fun i:Nat=>[.i (cI x0 (i:Int) 0),.i (cI x0 (i:Int) 1),.i (zO x1 i)]
theorem qru (x0 x1:R)(n:Nat):(sR x0 x1 n).length=n:=by unfold sR;rw[qLE,qMa]
theorem qIp (x0 x1:R)(n:Nat):sR x0 x1 (n+1)=wL (sR x0 x1 n) [[.i (cI x0 (n:Int) 0),.i (cI x0 (n:Int) 1),.i (zO x1 n)]]:=by unfold sR wL;rw[qMQ,qM1];rfl
theorem qKy (x0 x1:R){n i:Nat}(h:i<n):cI (sR x0 x1 n) (i:Int) 0=cI x0 (i:Int) 0/\cI (sR x0 x1 n) (i:Int) 1=cI x0 (i:Int) 1/\cI (sR x0 x1 n) (i:Int) 2=zO x1 i:=by
 have e:(sR x0 x1 n).getD ((i:Int).toNat) []=[.i (cI x0 (i:Int) 0),.i (cI x0 (i:Int) 1),.i (zO x1 i)]:=by unfold sR;rw[qLG,qLw,qLH,qMu h];rfl
 refine⟨?_,?_,?_⟩<;>(conv=>lhs;unfold cI we)<;>rw[e]<;>rfl
theorem qLj {x:R}(h:UFit (.sl [.int .i8]) (.l x)){i:Nat}(hi:i<x.length):-128<=cI x (i:Int) 0/\cI x (i:Int) 0<=127:=by
 cases h with
 | sl _ _ h1 h2 h3=>
  have hm:=qM6 hi;have hr:=h2 _ hm;have e:cI x (i:Int) 0=((x[i]).getD 0 (.i 0)).toI:=by
   have e0:x.getD ((i:Int).toNat) []=x[i]:=by rw[qLG,qLw,qLB hi];rfl
   unfold cI we;rw[e0]
  rw[e]
  match hx:x[i],hr with
  | [u],_=>
   have hf:=h3 x[i] 0 (.int .i8) u hm rfl (by rw[hx];rfl);cases hf with
   | int _ n q1 q2=>exact⟨q1,q2⟩
theorem qFh {x0 x1:R}(h0:x0.length<=64)(h1:UFit (.sl [.int .i8]) (.l x1)) :(qf wg [.r x0,.r x1,.r x0,.i (qh x0),.i 0,.r []]).run=some (0,[.r x0,.r (sR x0 x1 x0.length)]):=by
 have key:=qW (S:=wg) (fun i=>[.r x0,.r x1,.r x0,.i (x0.length:Int),.i (i:Int),.r (sR x0 x1 i)]) (0,[.r x0,.r (sR x0 x1 x0.length)]) x0.length (by omega) (fun i hi=>by
  have lx:qh x0=(x0.length:Int):=rfl;have ls:qh (sR x0 x1 i)=(i:Int):=by unfold qh;rw[qru]
  have w:=kq hi (show x0.length<9223372036854775808 by omega);have e3:∀a b c:U,qh [[a,b,c]]=1:=fun _ _ _=>rfl;have hz:zO x1 i=if (i:Int)<qh x1 then cI x1 (i:Int) 0 else 0:=rfl
  rw[q4g,qIp];by_cases hh:(i:Int)<qh x1
  ·have hb:=qLj h1 (i:=i) (by unfold qh at hh;omega);rw[if_pos hh] at hz;simp only[STD,lx,ls,e3,w,hh,hz,qqn (x:=cI x1 (i:Int) 0) ⟨by omega,by omega⟩,show (i:Int)<x0.length by omega,show (0:Int)<=i by omega,show (i:Int)+1<=5864062014805 by omega,and_self]
  ·rw[if_neg hh] at hz;simp only[STD,lx,ls,e3,w,hh,hz,show (i:Int)<x0.length by omega,show (0:Int)<=i by omega,show (i:Int)+1<=5864062014805 by omega,and_self]) (by
  rw[q4g];simp only[STD,show ¬(x0.length:Int)<x0.length by omega])
 exact key
theorem qK7 {x0:R}(hL:L.length<=64)(hlt:∀a,a∈L->a<x0.length)(s1 s3 s5 s6:Bs)(y2 y4 y8 y9:Int)(y7 y13:R) :(qf zV [.r x0,.s s1,.i y2,.s s3,.i y4,.s s5,.s s6,.r y7,.i y8,.i y9,.r (rN L),.i (qh (rN L)),.i 0,.r y13,.r []]).run=some (0,[.r x0,.s s1,.i y2,.s s3,.i y4,.s s5,.s s6,.r y7,.i y8,.i y9,.r y13,.r (chP x0 L)]):=by
 rw[q1n];have key:=qW (S:=zV) (fun j=>[.r x0,.s s1,.i y2,.s s3,.i y4,.s s5,.s s6,.r y7,.i y8,.i y9,.r (rN L),.i (L.length:Int),.i (j:Int),.r y13,.r (chP x0 (L.take j))])
  (0,[.r x0,.s s1,.i y2,.s s3,.i y4,.s s5,.s s6,.r y7,.i y8,.i y9,.r y13,.r (chP x0 L)]) L.length (by omega) (fun j hj=>by
  obtain⟨k,hk⟩:∃k,L[j]?=some k:=⟨L[j],qLB hj⟩;have hkl:=hlt k (qMc hk);have e1:chP x0 (L.take (j+1))=wL (chP x0 (L.take j)) [[.i (cI x0 (k:Int) 0),.i (cI x0 (k:Int) 1)]]:=by unfold chP wL;rw[List.take_add_one,hk,qM1];rfl
  have e2:qh (chP x0 (L.take j))=(j:Int):=by unfold qh;rw[qrb,qMn,qMq (by omega)]
  have e3:∀a b:U,qh [[a,b]]=1:=fun _ _=>rfl;have e4:qh x0=(x0.length:Int):=rfl;rw[q3w];simp only[STD,q1n,qpe hk,e1,e2,e3,e4,kq hj (show L.length<9223372036854775808 by omega),show (j:Int)<L.length by omega,show (0:Int)<=j by omega,show (0:Int)<=k by omega,show (k:Int)<x0.length by omega,
   show (j:Int)+1<=8796093022208 by omega,and_self]) (by
  rw[q3w];simp only[STD,show ¬(L.length:Int)<L.length by omega,qMz])
 exact key
theorem qvR {a b:Rat}:0<sgq (a-b)↔b<a:=by rw[qJC];constructor<;>intro h<;>grind
theorem qHz {v:Nat->Rat}{n:Nat}(h:∀j,j<n->sm 100000 (v j)):sm 100000 (mxQ v n):=by
 rcases qDC v n with e|⟨j,hj,e⟩
 ·rw[e];exact qaY.sm (by omega) (by omega)
 ·rw[e];exact h j hj
theorem qAB (v:Nat->Rat)(j:Nat):mxQ v (j+1)=if mxQ v j<v j then v j else mxQ v j:=rfl
theorem qHj {S:R}(hs:q1C S){m n:Nat}(lo:LO S m L n):okQ (sO S L)/\sm 100000 (sO S L):=by have b:=qp6 hs lo;exact⟨b.ok (by omega) (by omega),b.sm (by omega) (by omega)⟩
theorem qKY {x0:R}(h0:qhv x0=0){ls:List (List Nat)}{k:Nat}(hk:0<k)(hk4:k<=3)(hls:ls=lsN x0.length k)(s1 s3:Bs)(y2 y4:Int)(top:Bs)(y10:R) :(qf zW [.r x0,.s s1,.i y2,.s s3,.i y4,.s (tQ 0),.s top,.r (lsR ls),.i (qh (lsR ls)),.i 0,.r y10]).run = some (0,[.r x0,.s s1,.i y2,.s s3,.i y4,.s (tQ (mxQ (fun j=>lsq (chR (raR x0) (ls.getD j [])) 3) ls.length)),.s top,.r y10]):=by
 obtain⟨g1,g2,g3,g4,g5⟩:=q2n h0;obtain⟨v,hv⟩:∃v,v=fun j=>lsq (chR (raR x0) (ls.getD j [])) 3:=⟨_,rfl⟩;have hbig:ls.length<=10000000:=by rw[hls];exact qlk g2 hk4
 have one:∀j,j<ls.length->(ls[j]?=some (ls.getD j [])/\(ls.getD j []).length<=64/\(∀a,a∈ls.getD j []->a<x0.length))/\okQ (v j)/\sm 100000 (v j) /\
   ∃a b y,(qV [.r (chP x0 (ls.getD j []))]).run=some (0,[.s a,.s b,.s (tQ (v j)),.r y,.i 0]):=fun j hj=>by
  have hl:=qmS hj;have hm:ls.getD j []∈lsN x0.length k:=hls▸qMc hl;obtain⟨q1,q2,q3⟩:=q7L.1 hm;have hf:=qFB h0 (L:=ls.getD j []) (by omega) (by omega) q2;obtain⟨L2,n2,lo2,r⟩:=qbi hf;obtain⟨_,_,_,sp,_⟩:=q2n hf;have ok:=qHj sp lo2;have e:v j=sO (raR (chP x0 (ls.getD j []))) L2:=by rw[hv,<-lo2.lsq,qJs q2]
  rw[<-e] at ok r;exact⟨⟨hl,by omega,q2⟩,ok.1,ok.2,_,_,_,r⟩
 rw[un,<-hv];have key:=qW (S:=zW) (fun j=>[.r x0,.s s1,.i y2,.s s3,.i y4,.s (tQ (mxQ v j)),.s top,.r (lsR ls),.i (ls.length:Int),.i (j:Int),.r y10])
  (0,[.r x0,.s s1,.i y2,.s s3,.i y4,.s (tQ (mxQ v ls.length)),.s top,.r y10]) ls.length (by omega) (fun j hj=>by
  obtain⟨⟨hl,l64,hlt⟩,ok,sm1,a,b,y,rc⟩:=one j hj;have r0:=qK7 (x0:=x0) l64 hlt s1 s3 (tQ (mxQ v j)) top y2 y4 (ls.length:Int) (j:Int) (lsR ls) y10;rw[q1n] at r0;have rk:=q6B (tQ (v j)) (by have:=qdD ok;omega);rw[q9t ok] at rk;have ro:=qmq sm1 (qHz (v:=v) (n:=j) fun i hi=>(one i (by omega)).2.2.1);have w:=kq hj (show ls.length<9223372036854775808 by omega);rw[q3r,qAB];by_cases hgt:mxQ v j<v j
  ·simp only[STD,un,qem hl,q1n,r0,rc,rk,ro,qvR,hgt,w,show (j:Int)<ls.length by omega,show (0:Int)<=j by omega,and_self]
  ·simp only[STD,un,qem hl,q1n,r0,rc,rk,ro,qvR,hgt,w,show (j:Int)<ls.length by omega,show (0:Int)<=j by omega,and_self]) (by
  rw[q3r];simp only[STD,show ¬(ls.length:Int)<ls.length by omega])
 exact key
theorem qL5 {S:R}(hs:q1C S){ls:List (List Nat)}{k:Nat}(hk:0<k)(hk4:k<=4)(hls:ls=lsN S.length k)(s1 s3 best:Bs)(y2 y4:Int) :(qf zX [.s s1,.i y2,.s s3,.i y4,.s best,.s (tQ 0),.r (lsR ls),.i (qh (lsR ls)),.i 0,.r S]).run = some (0,[.s s1,.i y2,.s s3,.i y4,.s best,.s (tQ (mxQ (fun j=>lsq (chR S (ls.getD j [])) 4) ls.length))]):=by
 obtain⟨v,hv⟩:∃v,v=fun j=>lsq (chR S (ls.getD j [])) 4:=⟨_,rfl⟩;have hbig:ls.length<=1000000000:=by rw[hls];exact qFW hs.1 hk4
 have one:∀j,j<ls.length->(ls[j]?=some (ls.getD j [])/\(ls.getD j []).length<=64/\(∀a,a∈ls.getD j []->a<S.length))/\okQ (v j)/\sm 100000 (v j) /\
   ∃a b c y,(ze [.r (chR S (ls.getD j []))]).run=some (0,[.s a,.s b,.s c,.s (tQ (v j)),.r y,.i 0]):=fun j hj=>by
  have hl:=qmS hj;have hm:ls.getD j []∈lsN S.length k:=hls▸qMc hl;obtain⟨q1,q2,q3⟩:=q7L.1 hm;obtain⟨c1,c2,_⟩:=qJn (m:=4) hs (.inl rfl) hk hm hk4;obtain⟨L2,n2,lo2,r⟩:=qbn (qbD c1 c2);have ok:=qHj c1 lo2;have e:v j=sO (chR S (ls.getD j [])) L2:=by rw[hv,<-lo2.lsq]
  rw[<-e] at ok r;exact⟨⟨hl,by omega,q2⟩,ok.1,ok.2,_,_,_,_,r⟩
 rw[un,<-hv];have key:=qW (S:=zX) (fun j=>[.s s1,.i y2,.s s3,.i y4,.s best,.s (tQ (mxQ v j)),.r (lsR ls),.i (ls.length:Int),.i (j:Int),.r S])
  (0,[.s s1,.i y2,.s s3,.i y4,.s best,.s (tQ (mxQ v ls.length))]) ls.length (by omega) (fun j hj=>by
  obtain⟨⟨hl,l64,hlt⟩,ok,sm1,a,b,c,y,rc⟩:=one j hj;have r0:=qsN (l:=S) (L:=ls.getD j []) (by omega) hlt;have rk:=q6B (tQ (v j)) (by have:=qdD ok;omega);rw[q9t ok] at rk;have ro:=qmq sm1 (qHz (v:=v) (n:=j) fun i hi=>(one i (by omega)).2.2.1);have w:=kq hj (show ls.length<9223372036854775808 by omega);rw[q2Z,qAB];by_cases hgt:mxQ v j<v j
  ·simp only[STD,un,qem hl,r0,rc,rk,ro,qvR,hgt,w,show (j:Int)<ls.length by omega,show (0:Int)<=j by omega,and_self]
  ·simp only[STD,un,qem hl,r0,rc,rk,ro,qvR,hgt,w,show (j:Int)<ls.length by omega,show (0:Int)<=j by omega,and_self]) (by
  rw[q2Z];simp only[STD,show ¬(ls.length:Int)<ls.length by omega])
 exact key
theorem qEJ {S:R}{m k n:Nat}(hs:q1C S)(h0:0<S.length)(hm:Mst S m)(lo:LO S m L n)(hk:k=min S.length m){ls:List (List Nat)}(hls:ls=lsN S.length k) :mxQ (fun j=>lsq (chR S (ls.getD j [])) m) ls.length=sO S L:=by
 obtain⟨b1,L',b2,b3⟩:=qGW hs h0 hm lo hk;rw[<-hls] at b1 b2;obtain⟨i,hi,e⟩:=qNf.1 b2;have ei:ls.getD i []=L':=by rw[qLw,qLB hi];exact e
 refine qK9 (qKM lo) (fun j hj=>b1 _ (qMc (qmS hj))) hi ?_;show _<=lsq (chR S (ls.getD i [])) m;rw[ei];exact b3
theorem qzU (a b:Nat):qhy (a:Int) (b:Int)=((min a b:Nat):Int):=by unfold qhy;split<;>omega
theorem qhp (x0 x1:R)(_:UFit (.sl [(.int .i64),(.int .i64)]) (.l x0))(wex0:x0.length*16<=140737488351232)(lex1:UFit (.sl [(.int .i8)]) (.l x1))(_:x1.length*1<=140737488351232):(jo [.r x0,.r x1]).run=some (0,[.b true]):=by
 obtain⟨b,hp,hb⟩:=qwR x0;have lx:qh x0=(x0.length:Int):=rfl;rw[qeI];cases b with
 | false=>simp only[STD,hp,qiV]
 | true=>
  obtain⟨h1,h2,h3⟩:=hb rfl;by_cases h6:(6:Int)<x0.length
  ·simp only[STD,hp,lx,h6,qiV]
  ·have h0:qhv x0=0:=qA4 h1 (by omega) fun i hi=>by have:=h3 i hi;unfold co;omega
   obtain⟨g1,g2,g3,g4,g5⟩:=q2n h0;obtain⟨L,n,lo,r1⟩:=qbi h0;have rz:=qFh (x0:=x0) (x1:=x1) (by omega) lex1;rw[lx] at rz;have hs:q1C (sR x0 x1 x0.length):=by
    refine⟨by rw[qru];omega,fun i hi=>?_⟩;rw[qru] at hi;obtain⟨e1,e2,e3⟩:=qKy x0 x1 hi;have:=h3 i hi;unfold qBZ;rw[e1,e2,e3];refine⟨by unfold co;omega,by unfold co;omega,?_⟩;unfold zO co;split
    ·rename_i hh;have:=qLj lex1 (i:=i) (by unfold qh at hh;omega);omega
    ·omega
   have hs0:0<(sR x0 x1 x0.length).length:=by rw[qru];exact h1
   obtain⟨L',n',lo',r2⟩:=qbn (qbD hs hs0);have l3:=qDQ (n:=x0.length) (by omega) (k:=min x0.length 3) (by omega);have l4:=qDQ (n:=x0.length) (by omega) (k:=min x0.length 4) (by omega);have i3:qhy (x0.length:Int) 3=((min x0.length 3:Nat):Int):=qzU x0.length 3;have i4:qhy (x0.length:Int) 4=((min x0.length 4:Nat):Int):=qzU x0.length 4;have k3:=qKY h0 (k:=min x0.length 3) (by omega) (by omega) rfl (tQ (sO (raR x0) L)) (tQ (sO (sR x0 x1 x0.length) L')) 0 0 [48] (sR x0 x1 x0.length);have k4:=qL5 hs (k:=min x0.length 4) (by omega) (by omega) rfl (tQ (sO (raR x0) L)) (tQ (sO (sR x0 x1 x0.length) L')) (tQ (sO (raR x0) L)) 0 0;have b3:=qEJ g4 (by rw[q8c];exact h1) g5 lo (k:=min x0.length 3) (by rw[q8c]) (ls:=lsN x0.length (min x0.length 3)) (by rw[q8c]);have b4:=qEJ hs hs0 (m:=4) (.inl rfl) lo' (k:=min x0.length 4) (by rw[qru]) (ls:=lsN x0.length (min x0.length 4)) (by rw[qru]);rw[b3,un,quP] at k3;rw[qru] at k4;rw[b4,un,quP] at k4;simp only[STD,hp,lx,h6,rz,r1,r2,i3,i4,l3,l4,un,k3,k4,zU k3,zU k4,qmX,qiV]
end Go.Eng

