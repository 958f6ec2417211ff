/- Texts of the proof, merged: what the code computes, and plain laws. No statement stands here. -/
import Derived.Test.YtngkcfeldallkaaGreatDoorU4
namespace Go.Eng
theorem qA7{nr ny:Nat}{lr ly:List Int}(hr:WOK nr lr)(hnr:nrm nr lr)(hy:WOK ny ly)(hny:nrm ny ly)(h0:ny≠0)(hy231:ny≤231)(hlt:mv lr<mv ly*1000000000)(y0:Int)(xb:Bool)(xi:Int)(xr:R)(b2:Bool)(qb:Bool)(qi:Int)(qr:R)(br:Bool) :
  ∃(d:Int) (n:Nat) (l:List Int),(qh yq [.i y0,.i 0,.b xb,.i xi,.r xr,.b b2,.i (ny:Int),.r (rI ly),.b qb,.i qi,.r qr,.b br,.i (nr:Int),.r (rI lr)]).run =
   some (0,[.i y0,.i d,.b xb,.i xi,.r xr,.b b2,.i (ny:Int),.r (rI ly),.b qb,.i qi,.r qr,.b br,.i (n:Int),.r (rI l)])∧WOK n l∧nrm n l∧0≤d∧d<1000000000∧mv lr=d*mv ly+mv l∧mv l<mv ly:=by
 have hyp:0<mv ly:=by
  have:=hy.lo hny h0
  have:=qaL (ny-1)
  omega
 have hyb:=hy.bd
 obtain⟨j,qs,g1,rfl,d,n,l,rfl,g2⟩:=u7 (S:=yq) (fun k ps=>∃(d:Int) (n:Nat) (l:List Int),ps=[.i y0,.i d,.b xb,.i xi,.r xr,.b b2,.i (ny:Int),.r (rI ly),.b qb,.i qi,.r qr,.b br,.i (n:Int),.r (rI l)] ∧
   WOK n l∧nrm n l∧0≤d∧d+k=1000000000∧mv lr=d*mv ly+mv l)
  (fun j qs=>j=0∧∃(d:Int) (n:Nat) (l:List Int),qs=[.i y0,.i d,.b xb,.i xi,.r xr,.b b2,.i (ny:Int),.r (rI ly),.b qb,.i qi,.r qr,.b br,.i (n:Int),.r (rI l)]∧WOK n l∧nrm n l∧0≤d∧d<1000000000∧mv lr=d*mv ly+mv l∧mv l<mv ly) (n:=1000000000) (by omega)
  (fun k ps hk ⟨d,n,l,hps,hw,hn,hd0,hdk,hv⟩=>by
   subst hps
   have hlb:=hw.bd
   have hdlt:d<1000000000:=by
    rcases Int.lt_or_le d 1000000000 with h|h
    ·exact h
    ·have:=Int.mul_le_mul_of_nonneg_right h (show 0≤mv ly by omega)
     rw[Int.mul_comm (mv ly)] at hlt
     omega
   rw[qhu]
   obtain⟨r,r1,r2⟩:=qwj hw hn hy hny br b2
   by_cases hle:mv ly≤mv l
   ·left
    have hr0:0≤r:=by rw[r2];exact hle
    have hdm:=Int.mul_nonneg hd0 (show 0≤mv ly by omega)
    have hl9:mv l<pB (ny+1):=by rw[q9t];omega
    obtain⟨q,e1,e2,e3,e4⟩:=qxR hw hn hy hny h0 hle hl9 hy231 br b2
    obtain⟨n',l',c1,c2,c3,c4⟩:=qoq (f:=-q) (up:=0) hw hy (by omega) (by omega) (T:=mv l-q*mv ly) (by rw[q5j,Int.mul_one,Int.neg_mul];omega) (by omega)
     (by have:=hlb.2;have:=qbE hw.le;have:=Int.mul_nonneg (show 0≤q by omega) (show 0≤mv ly by omega);omega) br b2
    have hq2:(d+q)*mv ly+(mv l-q*mv ly)=d*mv ly+mv l:=by rw[Int.add_mul];omega
    have hdq:d+q<1000000000:=by
     rcases Int.lt_or_le (d+q) 1000000000 with h|h
     ·exact h
     ·have:=Int.mul_le_mul_of_nonneg_right h (show 0≤mv ly by omega)
      rw[Int.mul_comm (mv ly)] at hlt
      omega
    have w1:qw .i64 0 q=-q:=qqg (by omega)
    have w2:qj .i64 d q=d+q:=z8 (by omega)
    simp only[show ((0:Nat):Int)=0 from rfl] at c1
    refine⟨(1000000000-(d+q)).toNat,[.i y0,.i (d+q),.b xb,.i xi,.r xr,.b b2,.i (ny:Int),.r (rI ly),.b qb,.i qi,.r qr,.b br,.i (n':Int),.r (rI l')],by omega,?_,d+q,n',l',rfl,c2,c3,by omega,by omega,by rw[c4];omega⟩
    simp only[STD,r1,hr0,e1,w1,w2,c1]
   ·right
    have hr0:¬0≤r:=by rw[r2];exact hle
    refine⟨0,_,?_,rfl,d,n,l,rfl,hw,hn,hd0,hdlt,hv,by omega⟩
    simp only[STD,r1,hr0]) (ps:=[.i y0,.i 0,.b xb,.i xi,.r xr,.b b2,.i (ny:Int),.r (rI ly),.b qb,.i qi,.r qr,.b br,.i (nr:Int),.r (rI lr)]) ⟨0,nr,lr,rfl,hr,hnr,by omega,by omega,by omega⟩
 exact⟨d,n,l,g1,g2⟩
theorem qAT{n:Nat}{l:List Int}{d:Int}(h:WOK n l)(hn:n≤231)(hd:0≤d∧d<1000000000) :
  q6W (qit (rI l) 1 (rI l) 0 (q9E (qvw (n:Int) 0) (qvw 232 1))) 0 0 [.i d]=rI (d::(l.take n++l.drop (1+n)))∧WOK (n+1) (d::(l.take n++l.drop (1+n)))∧mv (d::(l.take n++l.drop (1+n)))=d+1000000000*mv l:=by
 have hlen:=h.len
 have e1:q9E (qvw (n:Int) 0) (qvw 232 1)=(n:Int):=by unfold q9E qvw;split<;>omega
 obtain⟨x,t,rfl⟩:∃x t,l=x::t:=by
  cases l with
  | nil=>simp at hlen
  | cons x t=>exact⟨x,t,rfl⟩
 refine⟨?_,⟨by simp;simp at hlen;omega,by omega,?_,?_⟩,?_⟩
 ·rw[e1]
  unfold qit
  have:(rI (x::t)).take (1:Int).toNat++((rI (x::t)).drop (0:Int).toNat).take (n:Int).toNat++(rI (x::t)).drop ((1:Int).toNat+(n:Int).toNat)=rI (x::((x::t).take n++(x::t).drop (1+n))):=by
   rw[Int.toNat_natCast]
   simp[rI,List.map_take,List.map_drop]
  rw[this,show (0:Int)=((0:Nat):Int) from rfl,qic]
  rfl
 ·intro y hy
  rcases List.mem_cons.1 hy with rfl|hy
  ·exact hd
  ·rcases List.mem_append.1 hy with hy|hy
   ·exact h.dig _ (List.mem_of_mem_take hy)
   ·exact h.dig _ (List.mem_of_mem_drop hy)
 ·intro i hi
  obtain⟨j,rfl⟩:∃j,i=j+1:=⟨i-1,by omega⟩
  have hz:=h.z (j+1) (by omega)
  rw[List.getD_eq_getElem?_getD] at hz ⊢
  rw[List.getElem?_cons_succ,List.getElem?_append_right (by simp;omega)]
  rw[List.getElem?_drop,List.length_take,Nat.min_eq_left (by omega)]
  rw[show 1+n+(j-n)=j+1 by omega]
  exact hz
 ·show d+1000000000*mv _=_
  rw[qwa,List.length_take,Nat.min_eq_left (by omega),vF h.dig h.z (show n≤1+n by omega)]
  have:=qat (x::t) n (by omega)
  rw[vF h.dig h.z (Nat.le_refl n)] at this
  omega
theorem qeB{nx ny:Nat}{lx ly:List Int}(hx:WOK nx lx)(hy:WOK ny ly)(hny:nrm ny ly)(h0:ny≠0)(hy231:ny≤231)(bx b2:Bool) :
  ∃(nq:Nat) (lq:List Int) (nr:Nat) (lr:List Int),(wO [.b bx,.i (nx:Int),.r (rI lx),.b b2,.i (ny:Int),.r (rI ly)]).run =
   some (0,[.b bx,.i (nx:Int),.r (rI lx),.b b2,.i (ny:Int),.r (rI ly),.b false,.i (nq:Int),.r (rI lq),.b false,.i (nr:Int),.r (rI lr)])∧WOK nq lq∧nrm nq lq∧WOK nr lr∧nrm nr lr∧mv lx=mv lq*mv ly+mv lr∧mv lr<mv ly:=by
 rw[qlZ]
 have hyp:0<mv ly:=by
  have:=hy.lo hny h0
  have:=qaL (ny-1)
  omega
 have hx232:=hx.le
 have e0:q3x 232 [.i 0]=rI (List.replicate 232 0):=qhN 232 0
 have hxl:=hx.len
 obtain⟨j,qs,g1,rfl,nq,lq,nr,lr,rfl,g2,g3,g4,g5,g6⟩:=u7 (S:=q0a) (fun k ps=>∃(Q:Int) (nq:Nat) (lq:List Int) (nr:Nat) (lr:List Int),
   ps=[.i ((k:Int)-1),.b bx,.i (nx:Int),.r (rI lx),.b b2,.i (ny:Int),.r (rI ly),.b false,.i (nq:Int),.r (rI lq),.b false,.i (nr:Int),.r (rI lr)]∧k≤nx∧WOK nq lq∧WOK nr lr∧nrm nr lr∧mv (lx.drop k)=Q*mv ly+mv lr∧mv lr<mv ly∧mv lq=pB k*Q∧∀i,i<k→lq.getD i 0=0)
  (fun j qs=>j=0∧∃(nq:Nat) (lq:List Int) (nr:Nat) (lr:List Int),qs=[.b bx,.i (nx:Int),.r (rI lx),.b b2,.i (ny:Int),.r (rI ly),.b false,.i (nq:Int),.r (rI lq),.b false,.i (nr:Int),.r (rI lr)]∧WOK nq lq∧WOK nr lr∧nrm nr lr∧mv lx=mv lq*mv ly+mv lr∧mv lr<mv ly) (n:=nx) (by omega)
  (fun k ps hk ⟨Q,nq,lq,nr,lr,hps,hkn,hwq,hwr,hnr,hv,hlt,hq,hz⟩=>by
   subst hps
   rw[qjc]
   rcases Nat.eq_zero_or_pos k with rfl|hk0
   ·right
    have a1:¬(0:Int)≤((0:Nat):Int)-1:=by omega
    refine⟨0,[.b bx,.i (nx:Int),.r (rI lx),.b b2,.i (ny:Int),.r (rI ly),.b false,.i (nq:Int),.r (rI lq),.b false,.i (nr:Int),.r (rI lr)],?_,rfl,nq,lq,nr,lr,rfl,hwq,hwr,hnr,?_,hlt⟩
    ·simp only[STD,a1]
    ·rw[hq,q5j,Int.one_mul,←hv,List.drop_zero]
   ·left
    obtain⟨i,rfl⟩:∃i,k=i+1:=⟨k-1,by omega⟩
    have e:(((i+1:Nat):Int)-1)=(i:Int):=by omega
    rw[e]
    have hnr231:nr≤231:=Nat.le_trans (qEg hwr hnr hy (by omega)) hy231
    have hil:i<lx.length:=by omega
    have gx:=hx.get i
    obtain⟨s1,s2,s3⟩:=qAT hwr hnr231 (d:=lx.getD i 0) gx
    obtain⟨m,t1,t2,t3⟩:=qim s2 false
    have hX:mv (lx.drop i)=lx.getD i 0+1000000000*(Q*mv ly+mv lr):=by rw[qb9 hil,←hv,jz hil]
    have hlt2:mv (lx.getD i 0::(lr.take nr++lr.drop (1+nr)))<mv ly*1000000000:=by rw[s3];omega
    obtain⟨d,n',l',d1,d2,d3,d4,d5,d6,d7⟩:=qA7 t2 t3 hy hny h0 hy231 hlt2 (i:Int) bx (nx:Int) (rI lx) b2 false (nq:Int) (rI lq) false
    rw[s3] at d6
    have a1:(0:Int)≤(i:Int):=by omega
    have a2:(i:Int)<232:=by omega
    have a3:(0:Int)≤232∧(232:Int)≤232:=by omega
    have a4:(0:Int)≤1∧(1:Int)≤232:=by omega
    have a5:(0:Int)≤(nr:Int)∧(nr:Int)≤232:=by omega
    have a6:(0:Int)≤0∧(0:Int)≤(nr:Int):=by omega
    have w1:qj .i64 (nr:Int) 1=((nr+1:Nat):Int):=by rw[z8 (by omega)];omega
    have w2:qj .i64 (i:Int) 1=((i+1:Nat):Int):=by rw[z8 (by omega)];omega
    have w3:qw .i64 (i:Int) 1=(i:Int)-1:=w9 (by omega)
    have w4:qer (nq:Int) ((i+1:Nat):Int)=((max nq (i+1):Nat):Int):=qrp _ _
    have hiq:i<lq.length:=by rw[hwq.len];omega
    have hzi:lq[i]=0:=by rw[←jz hiq];exact hz i (by omega)
    refine⟨i,[.i ((i:Int)-1),.b bx,.i (nx:Int),.r (rI lx),.b b2,.i (ny:Int),.r (rI ly),.b false,.i ((max nq (i+1):Nat):Int),.r (rI (lq.set i d)),.b false,.i (n':Int),.r (rI l')],by omega,?_,Q*1000000000+d,_,_,_,_,rfl,by omega,hwq.setW (by omega) ⟨d4,d5⟩,d2,d3,?_,d7,?_,?_⟩
    ·simp only[q4Y,s1,w1]
     simp only[STD,a1,a2,a3,a4,a5,a6,and_self,t1,d1,w2,w3,w4,qic]
    ·rw[hX,Int.add_mul,Int.mul_add]
     have:Q*1000000000*mv ly=1000000000*(Q*mv ly):=by grind
     omega
    ·rw[qw0 lq i hiq,hzi,hq,q9t];grind
    ·intro a ha
     rw[List.getD_eq_getElem?_getD,List.getElem?_set_ne (by omega),←List.getD_eq_getElem?_getD]
     exact hz a (by omega))
  (ps:=[.i ((nx:Int)-1),.b bx,.i (nx:Int),.r (rI lx),.b b2,.i (ny:Int),.r (rI ly),.b false,.i 0,.r (rI (List.replicate 232 0)),.b false,.i 0,.r (rI (List.replicate 232 0))])
  ⟨0,0,_,0,_,rfl,Nat.le_refl _,WOK.zero,WOK.zero,.inl rfl,by rw[vF hx.dig hx.z (Nat.le_refl _),qd5];omega,by rw[qd5];exact hyp,by rw[qd5,Int.mul_zero],fun i _=>qsb 232 i⟩
 obtain⟨m,t1,t2,t3⟩:=qim g2 false
 refine⟨m,lq,nr,lr,?_,t2,t3,g3,g4,g5,g6⟩
 have hs:qw .i64 (nx:Int) 1=(nx:Int)-1:=w9 (by omega)
 simp only[e0,hs]
 simp only[STD,g1,t1]
end Go.Eng

namespace Go.Eng
theorem qCR{c:UInt8}{t:List UInt8}:qet (c::t) 0 1=[c]:=by simp[qet]
theorem qyv(s:List UInt8):(qG [.s s,.s [45]]).run=some (0,[.b (decide (s.getD 0 0=45))]):=by
 rw[q5A]
 have h1:qu [45]=1:=rfl
 cases s with
 | nil=>
  have a:¬(1:Int)≤qu []:=by decide
  simp only[STD,h1,a];rfl
 | cons c t=>
  have a:(1:Int)≤qu (c::t):=by unfold qu;simp only[List.length_cons];omega
  simp only[STD,h1,a,show (0:Int)≤1 by omega,show (0:Int)≤0 by omega,and_self,qCR]
  have e:seq [c] [45]=decide ((c::t).getD 0 0=45):=by rw[Bool.eq_iff_iff,wk];simp
  rw[e]
theorem qrf(s:List UInt8):(qT [.s s,.s [45]]).run=some (0,[.s (mag s)]):=by
 rw[qff]
 have h:(zh [.s s,.s [45]]).run=some (0,[.s (mag s)]):=by
  rw[q57]
  have h1:qu [45]=1:=rfl
  unfold mag
  by_cases h:s.getD 0 0=45
  ·rw[if_pos h]
   have a:(1:Int)≤qu s:=by
    cases s with
    | nil=>simp at h
    | cons c t=>unfold qu;simp only[List.length_cons];omega
   have e:qet s 1 (qu s)=s.drop 1:=by unfold qet qu;simp
   simp only[STD,qyv,h,h1,a,and_self,Int.le_refl,show (0:Int)≤qu s by omega,show (0:Int)≤1 by omega,e]
  ·rw[if_neg h]
   simp only[STD,qyv,h]
 simp only[STD,h]
theorem qdo(s:List UInt8)(hl:s.length≤1000000000):(qP [.s s]).run=some (0,[.i (qwl s)]):=by
 rw[qpd]
 have hT:=qrf s
 have hml:(mag s).length≤s.length:=by unfold mag;split<;>simp
 have hR:=qDB (mag s) (by omega)
 have hcan:=qA3 s
 unfold qwl
 have hl3:(1024<qu (mag s))=¬((mag s).length≤1024):=by unfold qu;simp only[eq_iff_iff];omega
 by_cases hne:mag s=[]
 ·rw[if_neg (fun h=>(hcan.1 h).1 hne)]
  simp only[STD,hT,wk,hne]
 ·have hp:0<(mag s).length:=List.length_pos_iff.2 hne
  have a1:(0:Int)<qu (mag s):=by unfold qu;omega
  have hs:sat (mag s) 0=((mag s)[0].toNat:Int):=qqh (i:=0) hp
  have h48:((mag s)[0].toNat:Int)=48↔(mag s).getD 0 0=48:=by
   have:(mag s).getD 0 0=(mag s)[0]:=by simp[List.getD_eq_getElem?_getD,hp]
   rw[this]
   exact⟨fun h=>UInt8.toNat_inj.1 (by show (mag s)[0].toNat=48;omega),fun h=>by rw[h];rfl⟩
  by_cases hd:q62 (mag s)
  ·have hs1:((mag s).getD 0 0=48→s.length=1)↔(((mag s)[0].toNat:Int)=48→s=[48]):=by
    rw[h48]
    constructor
    ·intro h h2
     obtain⟨c,e⟩:=List.length_eq_one_iff.1 (h h2)
     subst e
     by_cases hc:c=45
     ·subst hc;exact absurd rfl hne
     ·have:mag [c]=[c]:=by unfold mag;rw[if_neg (by simpa using hc)]
      rw[this] at h2
      simp at h2
      rw[h2]
    ·intro h h2
     rw[h h2];rfl
   by_cases hz:((mag s)[0].toNat:Int)=48
   ·by_cases h0:s=[48]
    ·rw[if_pos (hcan.2 ⟨hne,hd,hs1.2 fun _=>h0⟩)]
     by_cases hL:(mag s).length≤1024
     ·simp only[STD,hT,hR,wk,hne,qfX,hd,a1,hs,hz,hl3,hL,Int.le_refl,and_self]
      simp only[STD,h0]
     ·simp only[STD,hT,hR,wk,hne,qfX,hd,a1,hs,hz,hl3,hL,Int.le_refl,and_self]
      simp only[STD,h0]
    ·rw[if_neg (fun h=>h0 (hs1.1 (hcan.1 h).2.2 hz))]
     simp only[STD,hT,hR,wk,hne,qfX,hd,a1,hs,hz,h0,Int.le_refl,and_self]
   ·rw[if_pos (hcan.2 ⟨hne,hd,fun h=>absurd (h48.2 h) hz⟩)]
    by_cases hL:(mag s).length≤1024
    ·simp only[STD,hT,hR,wk,hne,qfX,hd,a1,hs,hz,hl3,hL,Int.le_refl,and_self]
    ·simp only[STD,hT,hR,wk,hne,qfX,hd,a1,hs,hz,hl3,hL,Int.le_refl,and_self]
  ·rw[if_neg (fun h=>hd (hcan.1 h).2.1)]
   simp only[STD,hT,hR,wk,hne,qfX,hd]
def okL(m:Int):Prop:=nl m≤1024
theorem qvh{m:Int}(h:okL m):qwl (tI m)=0:=by
 unfold qwl
 rw[if_pos ⟨m,rfl⟩,qto,if_pos (show (tN m.natAbs).length≤1024 from h)]
theorem qu2{m:Int}(h:okL m):(tI m).length≤1025:=by
 have:=qt0 m
 unfold okL nl at h
 omega
theorem qdr{m:Int}(h:okL m):(qP [.s (tI m)]).run=some (0,[.i 0]):=by
 have:=qu2 h
 rw[qdo _ (by omega),qvh h]
def rS(l:List (List UInt8)):R:=l.map fun s=>[.s s]
theorem qq4(l:List (List UInt8)):qf (rS l)=l.length:=by simp[rS,qf]
theorem qxX{l:List (List UInt8)}{i:Nat}(h:i<l.length):cS (rS l) (i:Int) 0=l[i]:=by simp[cS,wJ,rS,List.getD_eq_getElem?_getD,h,U.toS]
theorem qDo{l:List (List UInt8)}(hn:l.length<1000000)(h:∀s,s∈l→(qP [.s s]).run=some (0,[.i 0])):(zY [.r (rS l)]).run=some (0,[.i 0]):=by
 rw[qtq,qq4]
 have key:=wB (S:=q5o) (fun i=>[.r (rS l),.i (l.length:Int),.i (i:Int)]) (0,[]) l.length (by omega) (fun i hi=>by
  rw[qgG,qxX hi]
  have a1:(i:Int)<(l.length:Int):=by omega
  have a2:(i:Int)<qf (rS l):=by rw[qq4];exact a1
  simp only[STD,a1,a2,uL,and_self,h _ (List.getElem_mem hi),q2U hi (show l.length<9223372036854775808 by omega)]) (by
  rw[qgG]
  have a1:¬(l.length:Int)<(l.length:Int):=by omega
  simp only[STD,a1])
 simp only[show (((0:Nat)):Int)=0 from rfl] at key
 simp only[STD,key,zk key]
theorem qdS{m n:Int}(hm:okL m)(hn:okL n):(zY [.r [[.s (tI m)],[.s (tI n)]]]).run=some (0,[.i 0]):=by
 have:=qDo (l:=[tI m,tI n]) (by simp) (fun s hs=>by
  simp only[List.mem_cons,List.not_mem_nil,or_false] at hs
  rcases hs with rfl|rfl
  ·exact qdr hm
  ·exact qdr hn)
 exact this
theorem q6n(n:Int)(h:-9223372036854775808≤n∧n≤9223372036854775807):(zx [.i n]).run=some (0,[.s (tI n)]):=by
 rw[quN]
 simp only[STD,qCL n h]
theorem q6D(m:Int):(tI m=[48])=(m=0):=propext ⟨fun h=>qvN (n:=0) h,fun h=>by rw[h];rfl⟩
theorem q2t(m:Int):(ug [.s (tI m)]).run=some (0,[.i (sgn m)]):=by
 rw[qrV]
 have a1:(0:Int)<qu (tI m):=by have:=qmm m;unfold qu;omega
 have hs:(sat (tI m) 0=45)=(m<0):=qwt m
 unfold sgn
 by_cases h0:m=0
 ·simp only[STD,wk,q6D,h0];rfl
 ·by_cases h1:m<0
  ·simp only[STD,wk,q6D,h0,a1,hs,h1,Int.le_refl,and_self]
  ·simp only[STD,wk,q6D,h0,a1,hs,h1,Int.le_refl,and_self]
theorem qta{m:Int}(h:okL m):(q7p [.s (tI m)]).run=some (0,[.i (sgn m),.i 0]):=by
 rw[qrn]
 simp only[STD,qdr h,q2t]
theorem qBP(m n:Nat):(q5F [.s (tN m),.s (tN n)]).run=some (0,[.i (sgn ((m:Int)-(n:Int)))]):=by
 rw[qpe]
 have hl:(qu (tN m)=qu (tN n))=((tN m).length=(tN n).length):=by unfold qu;simp only[eq_iff_iff];omega
 have hl2:(qu (tN m)<qu (tN n))=((tN m).length<(tN n).length):=by unfold qu;simp only[eq_iff_iff];omega
 by_cases he:(tN m).length=(tN n).length
 ·have h:=qwP (wl m) (wl n) he
  rw[q0N,q0N] at h
  simp only[STD,hl,he,h]
 ·by_cases hlt:(tN m).length<(tN n).length
  ·have h:=(qv0 m n).1 (.inl hlt)
   simp only[STD,hl,hl2,he,hlt]
   unfold sgn
   rw[if_pos (by omega)]
  ·have h:=(qv0 n m).1 (.inl (by omega))
   simp only[STD,hl,hl2,he,hlt]
   unfold sgn
   rw[if_neg (by omega),if_neg (by omega)]
theorem qca(m:Int):(m<0∧sgn m=-1)∨(m=0∧sgn m=0)∨(0<m∧sgn m=1):=by
 unfold sgn
 rcases Int.lt_trichotomy m 0 with h|h|h
 ·rw[if_pos h];omega
 ·subst h;simp
 ·rw[if_neg (by omega),if_neg (by omega)];omega
theorem qok(m:Int):-1≤sgn m∧sgn m≤1:=by rcases qca m with⟨_,e⟩|⟨_,e⟩|⟨_,e⟩<;>omega
theorem qC5(m n:Int):(if sgn m<sgn n then -1 else if sgn n<sgn m then 1 else sgn m*sgn ((m.natAbs:Int)-(n.natAbs:Int)))=sgn (m-n):=by
 rcases qca m with⟨a,ea⟩|⟨a,ea⟩|⟨a,ea⟩<;>rcases qca n with⟨b,eb⟩|⟨b,eb⟩|⟨b,eb⟩<;>rw[ea,eb]<;>simp only[Int.reduceLT,Int.reduceNeg,if_true,if_false] <;>
  rcases qca (m-n) with⟨c,ec⟩|⟨c,ec⟩|⟨c,ec⟩<;>rcases qca ((m.natAbs:Int)-(n.natAbs:Int)) with⟨d,ed⟩|⟨d,ed⟩|⟨d,ed⟩<;>omega
theorem qnp{m n:Int}(hm:okL m)(hn:okL n):(q2y [.s (tI m),.s (tI n)]).run=some (0,[.i (sgn (m-n)),.i 0]):=by
 rw[qlP]
 have h1:=qrf (tI m)
 have h2:=qrf (tI n)
 rw[qto] at h1 h2
 have h3:=qBP m.natAbs n.natAbs
 have hw:∀a b:Int,-1≤a∧a≤1→-1≤b∧b≤1→uk .i64 a b=a*b:=fun a b ha hb=>q19 (by have:=qA4 (A:=1) (B:=1) ha.1 ha.2 hb.1 hb.2;omega)
 have ba:=qok m
 have bb:=qok n
 have bc:=qok ((m.natAbs:Int)-(n.natAbs:Int))
 have e:=qC5 m n
 by_cases c1:sgn m<sgn n
 ·rw[if_pos c1] at e
  simp only[STD,qdS hm hn,q2t,h1,h2,h3,c1,←e]
 ·rw[if_neg c1] at e
  by_cases c2:sgn n<sgn m
  ·rw[if_pos c2] at e
   simp only[STD,qdS hm hn,q2t,h1,h2,h3,c1,c2,←e]
  ·rw[if_neg c2] at e
   simp only[STD,qdS hm hn,q2t,h1,h2,h3,c1,c2,hw _ _ ba bc,←e]
theorem qlm(m:Int)(hm:nl m≤2000):∃(n:Nat) (l:List Int),(zG [.s (tI m)]).run=some (0,[.b (decide (m<0)),.i (n:Int),.r (rI l)])∧WOK n l∧nrm n l∧mv l=m.natAbs∧9*n≤nl m+8:=by
 rw[qro]
 have h1:=qrf (tI m)
 rw[qto] at h1
 have a1:(0:Int)<qu (tI m):=by have:=qmm m;unfold qu;omega
 have hb:ieq (sat (tI m) 0) 45=decide (m<0):=by
  rw[Bool.eq_iff_iff,qkL,qwt];simp
 have e0:q3x 232 [.i 0]=rI (List.replicate 232 0):=qhN 232 0
 have hL:(tN m.natAbs).length≤2000:=hm
 obtain⟨j,qs,g1,rfl,n,l,rfl,g2,g3,g4⟩:=u7 (S:=q43) (fun k ps=>∃(n:Nat) (l:List Int),ps=[.s ((tN m.natAbs).take k),.b (decide (m<0)),.i (n:Int),.r (rI l)]∧k≤(tN m.natAbs).length∧WOK n l ∧
   (k=0∧9*n≤(tN m.natAbs).length+8∨k+9*n=(tN m.natAbs).length)∧((val (tN m.natAbs):Nat):Int)=((val ((tN m.natAbs).take k):Nat):Int)*pB n+mv l)
  (fun j qs=>j=0∧∃(n:Nat) (l:List Int),qs=[.b (decide (m<0)),.i (n:Int),.r (rI l)]∧WOK n l∧mv l=m.natAbs∧9*n≤(tN m.natAbs).length+8) (n:=(tN m.natAbs).length) (by omega)
  (fun k ps hk ⟨n,l,hps,hkl,hw,hkn,hv⟩=>by
   subst hps
   rw[qnR]
   have hlk:qu ((tN m.natAbs).take k)=(k:Int):=by unfold qu;rw[List.length_take,Nat.min_eq_left hkl]
   rcases Nat.eq_zero_or_pos k with rfl|hk0
   ·right
    refine⟨0,[.b (decide (m<0)),.i (n:Int),.r (rI l)],?_,rfl,n,l,rfl,hw,?_,by omega⟩
    ·have a:¬(0:Int)<qu ((tN m.natAbs).take 0):=by rw[hlk];omega
     simp only[STD,a]
    ·rw[q0N,List.take_zero,qd8] at hv
     simp at hv;omega
   ·left
    have hn231:n≤231:=by omega
    obtain⟨q,hq,hq9⟩:∃q:Nat,qer 0 (qw .i64 (k:Int) 9)=(q:Int)∧q=k-9:=by
     refine⟨k-9,?_,rfl⟩
     rw[w9 (by omega)];unfold qer;split<;>omega
    have hqk:q≤k:=by omega
    have hsub:qet ((tN m.natAbs).take k) (q:Int) (k:Int)=((tN m.natAbs).take k).drop q:=by unfold qet;simp[List.take_take]
    have hsub2:qet ((tN m.natAbs).take k) 0 (q:Int)=(tN m.natAbs).take q:=by unfold qet;simp[List.take_take,Nat.min_eq_left hqk]
    have hdg:q62 (((tN m.natAbs).take k).drop q):=qzK (qtJ (wl _) k) q
    have hdl:(((tN m.natAbs).take k).drop q).length=k-q:=by rw[List.length_drop,List.length_take,Nat.min_eq_left hkl]
    have hdn:((tN m.natAbs).take k).drop q≠[]:=by intro h;rw[h] at hdl;simp at hdl;omega
    have hA:=qyX (s:=((tN m.natAbs).take k).drop q) (by omega) (qsa hdg hdn)
    have hvl:=q68 hdg
    rw[hdl] at hvl
    have hv9:val (((tN m.natAbs).take k).drop q)<1000000000:=Nat.lt_of_lt_of_le hvl (by
     have:(10:Nat)^(k-q)≤10^9:=Nat.pow_le_pow_right (by omega) (by omega)
     simpa using this)
    have b1:(0:Int)<(k:Int):=by omega
    have b2:(0:Int)≤(q:Int)∧(q:Int)≤(k:Int):=by omega
    have b3:(0:Int)≤(k:Int)∧(k:Int)≤(k:Int):=by omega
    have b4:(0:Int)≤(n:Int)∧(n:Int)<232:=by omega
    have b5:(0:Int)≤0∧(0:Int)≤(q:Int):=by omega
    have w1:qj .i64 (n:Int) 1=((n+1:Nat):Int):=by rw[z8 (by omega)];omega
    have hnl:n<l.length:=by rw[hw.len];omega
    have hz:l[n]=0:=by rw[←jz hnl];exact hw.z n (Nat.le_refl _)
    have hW:=hw.setW (j:=n) (y:=((val (((tN m.natAbs).take k).drop q):Nat):Int)) (by omega) (by omega)
    rw[Nat.max_eq_right (by omega)] at hW
    refine⟨q,[.s ((tN m.natAbs).take q),.b (decide (m<0)),.i ((n+1:Nat):Int),.r (rI (l.set n ((val (((tN m.natAbs).take k).drop q):Nat):Int)))],by omega,?_,n+1,_,rfl,by omega,hW,by omega,?_⟩
    ·simp only[STD,hlk,b1,hq,b2,b3,b4,b5,and_self,hsub,hsub2,hA,w1,qic]
    ·rw[qw0 l n hnl,hz,hv]
     have hsp:val ((tN m.natAbs).take k)=val ((tN m.natAbs).take q)*10^(k-q)+val (((tN m.natAbs).take k).drop q):=by
      have h1:(tN m.natAbs).take k=((tN m.natAbs).take k).take q++((tN m.natAbs).take k).drop q:=(List.take_append_drop q _).symm
      have h2:((tN m.natAbs).take k).take q=(tN m.natAbs).take q:=by rw[List.take_take,Nat.min_eq_left hqk]
      rw[h2] at h1
      generalize ((tN m.natAbs).take k).drop q=D at *
      rw[h1,qrP,hdl]
     rw[hsp,q9t]
     rcases Nat.lt_or_ge k 9 with h9|h9
     ·have:q=0:=by omega
      subst this
      rw[List.take_zero,qd8]
      simp;omega
     ·have:k-q=9:=by omega
      rw[this]
      simp only[Int.natCast_add,Int.natCast_mul]
      have e9:(((10:Nat)^9:Nat):Int)=1000000000:=by simp
      rw[e9]
      grind) (ps:=[.s ((tN m.natAbs).take (tN m.natAbs).length),.b (decide (m<0)),.i 0,.r (rI (List.replicate 232 0))])
  ⟨0,_,rfl,Nat.le_refl _,WOK.zero,.inr (by omega),by rw[q5j,List.take_length,qd5];simp⟩
 rw[List.take_length] at g1
 obtain⟨n2,t1,t2,t3⟩:=qim g2 (decide (m<0))
 refine⟨n2,l,?_,t2,t3,g3,?_⟩
 ·simp only[STD,e0,hb,h1,a1,Int.le_refl,and_self,g1,t1]
 ·have:=qEg t2 t3 g2 (Int.le_refl _)
  unfold nl;omega
end Go.Eng

namespace Go.Eng
theorem qBV{m:Int}{k n:Nat}(h:nl m≤k)(hk:k≤9*n):(m.natAbs:Int)<pB n:=by
 rw[qz3]
 have h1:=qCS h
 have h2:(10:Nat)^k≤10^(9*n):=Nat.pow_le_pow_right (by omega) hk
 omega
theorem qq6{m:Int}(h:okL m):(m.natAbs:Int)<pB 114:=qBV (k:=1024) h (by omega)
theorem qrG{m:Int}(h:okL m):okL (-m):=by unfold okL;rw[qne];exact h
theorem qz9{n:Nat}:pB n+pB n≤pB (n+1):=by rw[q9t];have:=qaL n;omega
theorem qDO{b:Bool}{l:List Int}(h:0≤mv l):((sv b l).natAbs:Int)=mv l:=by unfold sv;cases b<;>simp<;>omega
theorem qsV{n:Nat}{l:List Int}(h:WOK n l)(hn:nrm n l)(b:Bool)(hk:okL (sv b l)):(zW [.b b,.i (n:Int),.r (rI l)]).run=some (0,[.s (tI (sv b l)),.i 0,.b b,.i (n:Int),.r (rI l)]):=by
 rw[qfq]
 simp only[STD,qw4 h hn,qdr hk]
theorem qu4(m n:Int):(yZ [.s (tI m),.s (tI n)]).run=some (0,if (tI m).length≤9∧(tI n).length≤9 then [.i m,.i n,.b true] else [.i 0,.i 0,.b false]):=by
 rw[qp0]
 have h1:(9<qu (tI m))=¬(tI m).length≤9:=by unfold qu;simp only[eq_iff_iff];omega
 have h2:(9<qu (tI n))=¬(tI n).length≤9:=by unfold qu;simp only[eq_iff_iff];omega
 by_cases a:(tI m).length≤9
 ·by_cases b:(tI n).length≤9
  ·simp only[STD,h1,h2,a,b,and_self,qyX (s:=tI m) (by omega) (qzo m),qyX (s:=tI n) (by omega) (qzo n)]
  ·simp only[STD,h1,h2,a,b,and_false]
 ·simp only[STD,h1,a,false_and]
theorem qga{m:Int}(h:(tI m).length≤9):m.natAbs<1000000000:=by
 have:(tN m.natAbs).length≤9:=by
  unfold tI at h
  split at h
  ·simp at h;omega
  ·exact h
 exact Nat.lt_of_lt_of_le (q5J this) (by simp)
theorem qvE(n:Int)(h:-9223372036854775808≤n∧n≤9223372036854775807):(kT [.i n]).run=some (0,[.s (tI n),.i 0]):=by
 rw[qni]
 simp only[STD,q6n n h]
theorem qyo{m:Int}{l:List Int}(h:mv l=m.natAbs):sv (decide (m<0)) l=m:=by
 unfold sv
 by_cases hm:m<0
 ·rw[decide_eq_true hm,if_pos rfl];omega
 ·rw[decide_eq_false hm,if_neg (by simp)];omega
theorem qDt{m n:Int}(hm:okL m)(hn:okL n)(hs:okL (m+n)):(qa7 [.r [[.s (tI m)],[.s (tI n)]]]).run=some (0,[.s (tI (m+n)),.i 0]):=by
 rw[qt6]
 have e0:q3x 232 [.i 0]=rI (List.replicate 232 0):=qhN 232 0
 have lm:=qq6 hm
 have ln:=qq6 hn
 obtain⟨q1,l1,r1,w1,n1,v1,_⟩:=qlm m (by unfold okL at hm;omega)
 obtain⟨q2,l2,r2,w2,n2,v2,_⟩:=qlm n (by unfold okL at hn;omega)
 have hb2:=qbE (show 115≤232 by omega)
 have hb1:pB 114+pB 114≤pB 115:=qz9
 have hb0:=qaL 114
 obtain⟨b1,k1,m1,a1,a2,a3,a4⟩:=qBD (lx:=List.replicate 232 0) (nx:=0) WOK.zero (.inl rfl) w1 n1 (by rw[qd5,v1];omega) false (decide (m<0))
 rw[qyo v1] at a4
 have a5:sv b1 m1=m:=by
  have:sv false (List.replicate 232 0)=0:=by unfold sv;rw[if_neg (by simp),qd5]
  rw[a4,this];omega
 obtain⟨b2,k2,m2,c1,c2,c3,c4⟩:=qBD a2 a3 w2 n2 (by rw[←qDO (b:=b1) a2.bd.1,a5,v2];omega) b1 (decide (n<0))
 rw[qyo v2,a5] at c4
 have key:=wB (S:=q5N) (fun i=>match i with
  | 0=>[.r [[.s (tI m)],[.s (tI n)]],.i 2,.i 0,.b false,.i 0,.r (rI (List.replicate 232 0))]
  | 1=>[.r [[.s (tI m)],[.s (tI n)]],.i 2,.i 1,.b b1,.i (k1:Int),.r (rI m1)]
  | _=>[.r [[.s (tI m)],[.s (tI n)]],.i 2,.i 2,.b b2,.i (k2:Int),.r (rI m2)]) (0,[.b b2,.i (k2:Int),.r (rI m2)]) 2 (by omega) (fun i hi=>by
   have:i=0∨i=1:=by omega
   have d0:cS [[.s (tI m)],[.s (tI n)]] 0 0=tI m:=rfl
   have d1:cS [[.s (tI m)],[.s (tI n)]] 1 0=tI n:=rfl
   have d2:qf [[U.s (tI m)],[U.s (tI n)]]=2:=rfl
   rcases this with rfl|rfl
   ·simp only
    rw[qbr,d0,d2]
    simp only[show ((0:Nat):Int)=0 from rfl] at a1
    have w:qj .i64 0 1=1:=by decide
    simp only[STD,r1,a1,w,show (0:Int)<2 by omega,show (0:Int)≤0 by omega,and_self]
   ·simp only
    rw[qbr,d1,d2]
    have w:qj .i64 1 1=2:=by decide
    simp only[STD,r2,c1,w,show (1:Int)<2 by omega,show (0:Int)≤1 by omega,and_self]) (by
   simp only
   rw[qbr]
   simp only[STD,show ¬(2:Int)<2 by omega])
 simp only at key
 have hL:=qsV c2 c3 b2 (by rw[c4];exact hs)
 rw[c4] at hL
 have d2:qf [[U.s (tI m)],[U.s (tI n)]]=2:=rfl
 simp only[e0,d2]
 simp only[STD,key,hL]
theorem qD9{m n:Int}(hm:okL m)(hn:okL n)(hs:okL (m+n)):(q2B [.s (tI m),.s (tI n)]).run=some (0,[.s (tI (m+n)),.i 0]):=by
 rw[qtE]
 have h:=qu4 m n
 by_cases hc:(tI m).length≤9∧(tI n).length≤9
 ·rw[if_pos hc] at h
  have b1:=qga hc.1
  have b2:=qga hc.2
  have w:qj .i64 m n=m+n:=z8 (by omega)
  simp only[STD,qdS hm hn,h,w,qvE (m+n) (by omega)]
 ·rw[if_neg hc] at h
  simp only[STD,qdS hm hn,h,qDt hm hn hs]
theorem qxw{m:Int}(hm:okL m):(q1m [.s (tI m)]).run=some (0,[.s (tI (-m))]):=by
 rw[qk4]
 have hl:=qu2 hm
 have hp:=qmm m
 rcases qca m with⟨h,e⟩|⟨h,e⟩|⟨h,e⟩
 ·have a1:(0:Int)≤qu (tI m)∧qu (tI m)≤qu (tI m):=by unfold qu;omega
  have a2:(0:Int)≤1∧1≤qu (tI m):=by unfold qu;omega
  have a3:qet (tI m) 1 (qu (tI m))=tI (-m):=by
   unfold qet qu
   rw[qaU h,qi9 (m:=-m) (by omega),Int.natAbs_neg];simp
  simp only[STD,q2t,e,a1,a2,a3,and_self,show ¬((-1:Int)=0) by omega,show ¬((-1:Int)=1) by omega]
 ·simp only[STD,q2t,e]
  rw[h];rfl
 ·have a1:qu [45]+qu (tI m)≤140737488355328:=by unfold qu;simp;omega
  have a3:qbV [45] (tI m)=tI (-m):=by
   unfold qbV
   rw[qaU (m:=-m) (by omega),qi9 (m:=m) (by omega),Int.natAbs_neg];rfl
  simp only[STD,q2t,e,a1,a3,show ¬((1:Int)=0) by omega]
theorem qE1{m n:Int}(hm:okL m)(hn:okL n)(hs:okL (m-n)):(q6B [.s (tI m),.s (tI n)]).run=some (0,[.s (tI (m-n)),.i 0]):=by
 rw[qtV]
 have h:=qD9 hm (qrG hn) (by rwa [←Int.sub_eq_add_neg])
 rw[←Int.sub_eq_add_neg] at h
 simp only[STD,qdS hm hn,qxw hn,h]
theorem qEb{m n:Int}(hm:okL m)(hn:okL n)(hs:okL (m*n)):(q4O [.s (tI m),.s (tI n)]).run=some (0,[.s (tI (m*n)),.i 0]):=by
 rw[qtT]
 have h:=qu4 m n
 by_cases hc:(tI m).length≤9∧(tI n).length≤9
 ·rw[if_pos hc] at h
  have b1:=qga hc.1
  have b2:=qga hc.2
  have b3:=qA4 (A:=999999999) (B:=999999999) (a:=m) (b:=n) (by omega) (by omega) (by omega) (by omega)
  have w:uk .i64 m n=m*n:=q19 (by omega)
  simp only[STD,qdS hm hn,h,w,qvE (m*n) (by omega)]
 ·rw[if_neg hc] at h
  unfold okL at hm hn
  obtain⟨q1,l1,r1,w1,n1,v1,z1⟩:=qlm m (by omega)
  obtain⟨q2,l2,r2,w2,n2,v2,z2⟩:=qlm n (by omega)
  obtain⟨k,l,t1,t2,t3,t4⟩:=qBI w1 w2 (by omega) (decide (m<0)) (decide (n<0))
  have hv:sv (!(Go.Eng.beq (decide (m<0)) (decide (n<0)))) l=m*n:=by
   unfold sv
   rw[t4,v1,v2]
   have e:((m.natAbs:Int)*(n.natAbs:Int))=(((m*n).natAbs:Nat):Int):=by rw[Int.natAbs_mul];simp
   rw[e]
   unfold Go.Eng.beq
   rcases Int.lt_trichotomy m 0 with a|a|a
   ·rcases Int.lt_trichotomy n 0 with b|b|b
    ·have:=Int.mul_pos_of_neg_of_neg a b
     simp[a,b];omega
    ·subst b;simp
    ·have:=Int.mul_neg_of_neg_of_pos a b
     have b':¬n<0:=by omega
     simp[a,b'];omega
   ·subst a;simp
   ·have a':¬m<0:=by omega
    rcases Int.lt_trichotomy n 0 with b|b|b
    ·have:=Int.mul_neg_of_pos_of_neg a b
     simp[a',b];omega
    ·subst b;simp
    ·have:=Int.mul_pos a b
     have b':¬n<0:=by omega
     simp[a',b'];omega
  have hL:=qsV t2 t3 (!(Go.Eng.beq (decide (m<0)) (decide (n<0)))) (by rw[hv];exact hs)
  rw[hv] at hL
  simp only[STD,qdS hm hn,h,r1,r2,t1,hL]
theorem qzH{n:Nat}{l:List Int}(h:WOK n l)(hn:nrm n l){k:Nat}(hl:mv l<pB k):n≤k:=by
 rcases Nat.lt_or_ge k n with h1|h1
 ·have:=h.lo hn (by omega)
  have:=qbE (show k≤n-1 by omega)
  omega
 ·exact h1
theorem qAl{k n:Int}(h0:n≠0)(hm:okL (k*n))(hn:okL n):(q3X [.s (tI (k*n)),.s (tI n)]).run=some (0,[.s (tI k),.s (tI 0),.i 0]):=by
 rw[qnZ]
 have h:=qu4 (k*n) n
 have hz:¬tI n=[48]:=by rw[q6D];exact h0
 by_cases hc:(tI (k*n)).length≤9∧(tI n).length≤9
 ·rw[if_pos hc] at h
  have b1:=qga hc.1
  have b2:=qga hc.2
  have hk:k.natAbs≤(k*n).natAbs:=by
   rw[Int.natAbs_mul]
   have:k.natAbs*1≤k.natAbs*n.natAbs:=Nat.mul_le_mul_left _ (by omega)
   omega
  have w1:q69 (k*n) n=0:=by unfold q69;exact Int.mul_tmod_left k n
  have w2:u6 .i64 (k*n) n=k:=by
   rw[Int.mul_comm];exact qfY h0 (by omega)
  simp only[STD,qdS hm hn,wk,hz,h,h0,w1,w2,q6n k (by omega),q6n 0 (by omega)]
 ·rw[if_neg hc] at h
  have lm:=qq6 hm
  have ln:=qq6 hn
  obtain⟨q1,l1,r1,w1,n1,v1,z1⟩:=qlm (k*n) (by unfold okL at hm;omega)
  obtain⟨q2,l2,r2,w2,n2,v2,z2⟩:=qlm n (by unfold okL at hn;omega)
  have hq2:q2≤114:=qzH w2 n2 (by omega)
  have hq0:q2≠0:=fun h=>by rw[qj3 w2 n2] at h;omega
  obtain⟨nq,lq,nr,lr,d1,d2,d3,d4,d5,d6,d7⟩:=qeB w1 w2 n2 hq0 (by omega) (decide (k*n<0)) (decide (n<0))
  have e1:((k*n).natAbs:Int)=(k.natAbs:Int)*(n.natAbs:Int):=by rw[Int.natAbs_mul];simp
  rw[v1,v2,e1] at d6
  rw[v2] at d7
  have b4:=d4.bd.1
  have hr0:mv lr=0∧mv lq=k.natAbs:=by
   have hn0:(0:Int)<(n.natAbs:Int):=by omega
   have e2:((k.natAbs:Int)-mv lq)*(n.natAbs:Int)=mv lr:=by rw[Int.sub_mul];omega
   rcases Int.lt_trichotomy ((k.natAbs:Int)-mv lq) 0 with a|a|a
   ·have:=Int.mul_neg_of_neg_of_pos a hn0;omega
   ·rw[a,Int.zero_mul] at e2;omega
   ·have:=Int.mul_le_mul_of_nonneg_right (show 1≤(k.natAbs:Int)-mv lq by omega) (show 0≤(n.natAbs:Int) by omega)
    omega
  have hnr:nr=0:=by rw[qj3 d4 d5];exact hr0.1
  have hv:sv (!(Go.Eng.beq (decide (k*n<0)) (decide (n<0)))) lq=k:=by
   unfold sv
   rw[hr0.2]
   unfold Go.Eng.beq
   rcases Int.lt_trichotomy k 0 with a|a|a
   ·rcases Int.lt_trichotomy n 0 with b|b|b
    ·have:=Int.mul_pos_of_neg_of_neg a b
     have c:¬k*n<0:=by omega
     simp[b,c];omega
    ·exact absurd b h0
    ·have c:=Int.mul_neg_of_neg_of_pos a b
     have b':¬n<0:=by omega
     simp[b',c];omega
   ·subst a;simp
   ·rcases Int.lt_trichotomy n 0 with b|b|b
    ·have c:=Int.mul_neg_of_pos_of_neg a b
     simp[b,c];omega
    ·exact absurd b h0
    ·have:=Int.mul_pos a b
     have c:¬k*n<0:=by omega
     have b':¬n<0:=by omega
     simp[b',c];omega
  have hT:=qw4 d2 d3 (!(Go.Eng.beq (decide (k*n<0)) (decide (n<0))))
  rw[hv] at hT
  have hT2:=qw4 d4 d5 (decide (k*n<0))
  have hv0:sv (decide (k*n<0)) lr=0:=by unfold sv;rw[hr0.1];split<;>rfl
  rw[hv0] at hT2
  have hnr':¬(0:Int)<(nr:Int):=by omega
  simp only[STD,qdS hm hn,wk,hz,h,r1,r2,d1,hnr',hT,hT2]
theorem qBd{m n:Int}(h:m.natAbs≤n.natAbs)(hn:okL n):okL m:=Nat.le_trans (ko h) hn
theorem qDZ{k n:Int}(h0:n≠0)(hm:okL (k*n))(hn:okL n):(q6u [.s (tI (k*n)),.s (tI n)]).run=some (0,[.s (tI k),.i 0]):=by
 rw[qtC]
 have hk:okL k:=qBd (by
  rw[Int.natAbs_mul]
  have:k.natAbs*1≤k.natAbs*n.natAbs:=Nat.mul_le_mul_left _ (by omega)
  omega) hm
 simp only[STD,qAl h0 hm hn,qdr hk]
theorem qzw(a b:Nat)(hb:b<9223372036854775808):(qh q1O [.i (a:Int),.i (b:Int)]).run=some (0,[.i ((Nat.gcd a b:Nat):Int)]):=by
 obtain⟨j,qs,h1,rfl,rfl⟩:=u7 (S:=q1O) (fun k ps=>∃x y:Nat,ps=[.i (x:Int),.i (y:Int)]∧y=k∧Nat.gcd x y=Nat.gcd a b)
  (fun j qs=>j=0∧qs=[.i ((Nat.gcd a b:Nat):Int)]) (n:=b) hb (fun k ps hk ⟨x,y,hps,hy,hg⟩=>by
  subst hps
  rw[qnz]
  by_cases h0:y=0
  ·right
   refine⟨0,[.i (x:Int)],?_,rfl,?_⟩
   ·simp only[STD,h0];simp[]
   ·rw[←hg,h0,Nat.gcd_zero_right]
  ·left
   refine⟨x%y,[.i (y:Int),.i ((x%y:Nat):Int)],by rw[←hy];exact Nat.mod_lt _ (by omega),?_,y,x%y,rfl,rfl,?_⟩
   ·simp only[STD,show ¬((y:Int)=0) by omega,qmd]
   ·rw[←hg,Nat.gcd_comm y,←Nat.gcd_rec,Nat.gcd_comm]) (ps:=[.i (a:Int),.i (b:Int)]) ⟨a,b,rfl,rfl,rfl⟩
 exact h1
theorem qBg{n:Nat}{l:List Int}(h:WOK n l)(hn:n≤1):mv l=l.getD 0 0:=by
 have:=qat l 1 (by rw[h.len];omega)
 rw[vF h.dig h.z hn,Int.mul_zero,Int.add_zero] at this
 have hl:=h.len
 obtain⟨x,t,rfl⟩:∃x t,l=x::t:=by
  cases l with
  | nil=>simp at hl
  | cons x t=>exact⟨x,t,rfl⟩
 rw[this];simp[mv]
theorem qDT{m n:Int}(hm:okL m)(hn:okL n):(q2j [.s (tI m),.s (tI n)]).run=some (0,[.s (tN (Nat.gcd m.natAbs n.natAbs)),.i 0]):=by
 rw[qsn]
 have lm:=qq6 hm
 have ln:=qq6 hn
 obtain⟨q1,l1,r1,w1,n1,v1,_⟩:=qlm m (by unfold okL at hm;omega)
 obtain⟨q2,l2,r2,w2,n2,v2,_⟩:=qlm n (by unfold okL at hn;omega)
 have hm':(tN m.natAbs).length≤1024:=hm
 have hn':(tN n.natAbs).length≤1024:=hn
 obtain⟨j,qs,g1,g2⟩:=u7 (S:=q5g) (fun k ps=>∃(x y:Nat) (b1 b2:Bool) (nx ny:Nat) (lx ly:List Int),ps=[.b b1,.i (nx:Int),.r (rI lx),.b b2,.i (ny:Int),.r (rI ly)] ∧
   WOK nx lx∧nrm nx lx∧WOK ny ly∧nrm ny ly∧mv lx=x∧mv ly=y∧eM x y=k∧Nat.gcd x y=Nat.gcd m.natAbs n.natAbs∧(x:Int)<pB 114∧(y:Int)<pB 114)
  (fun j qs=>(j=0∧∃(b:Bool) (n':Nat) (l:List Int),qs=[.b b,.i (n':Int),.r (rI l)]∧WOK n' l∧nrm n' l∧mv l=((Nat.gcd m.natAbs n.natAbs:Nat):Int))∨(j=1∧qs=[.s (tN (Nat.gcd m.natAbs n.natAbs)),.i 0])) (n:=eM m.natAbs n.natAbs) (qvR (by omega) (by omega))
  (fun k ps hk ⟨x,y,b1,b2,nx,ny,lx,ly,hps,hw,hnw,hw2,hn2,hx,hy,he,hg,lx1,ly1⟩=>by
  subst hps
  rw[qoO]
  have hxl:=hw.len
  have hyl:=hw2.len
  by_cases h0:ny=0
  ·right
   have hy0:mv ly=0:=by rw[←qj3 hw2 hn2];exact h0
   have hy0':y=0:=by omega
   refine⟨0,[.b b1,.i (nx:Int),.r (rI lx)],?_,.inl ⟨rfl,b1,nx,lx,rfl,hw,hnw,?_⟩⟩
   ·simp only[STD,h0,show ¬(0:Int)<((0:Nat):Int) by omega]
   ·rw[hx,←hg,hy0',Nat.gcd_zero_right]
  ·have a0:(0:Int)<(ny:Int):=by omega
   have hy0:y≠0:=fun h=>h0 (by rw[qj3 hw2 hn2];omega)
   by_cases hc:nx≤1∧ny≤1
   ·right
    have e1:=qBg hw hc.1
    have e2:=qBg hw2 hc.2
    have d1:cI (rI lx) 0 0=(x:Int):=by rw[show (0:Int)=((0:Nat):Int) from rfl,q4Y,←e1,hx]
    have d2:cI (rI ly) 0 0=(y:Int):=by rw[show (0:Int)=((0:Nat):Int) from rfl,q4Y,←e2,hy]
    have hy9:=hw2.get 0
    rw[←e2,hy] at hy9
    have hE:=qzw x y (by omega)
    have hgl:Nat.gcd x y≤y:=Nat.gcd_le_right _ (by omega)
    have hO:=q6n ((Nat.gcd x y:Nat):Int) (by omega)
    rw[q0Y] at hO
    have c1:(nx:Int)≤1:=by omega
    have c2:(ny:Int)≤1:=by omega
    refine⟨1,[.s (tN (Nat.gcd x y)),.i 0],?_,.inr ⟨rfl,by rw[hg]⟩⟩
    simp only[STD,a0,c1,c2,d1,d2,hE,hO]
   ·left
    have hny:ny≤114:=qzH hw2 hn2 (by omega)
    obtain⟨nq,lq,nr,lr,d1,d2,d3,d4,d5,d6,d7⟩:=qeB hw hw2 hn2 h0 (by omega) b1 b2
    have hr:mv lr=((x%y:Nat):Int):=by
     have b4:=d4.bd.1
     rw[hx,hy] at d6
     rw[hy] at d7
     have hy1:(0:Int)<(y:Int):=by omega
     have:=(Int.ediv_emod_unique hy1 (a:=(x:Int)) (r:=mv lr) (q:=mv lq)).2 ⟨by rw[Int.mul_comm];omega,b4,d7⟩
     rw[←this.2];simp
    refine⟨eM y (x%y),[.b b2,.i (ny:Int),.r (rI ly),.b false,.i (nr:Int),.r (rI lr)],by rw[←he];exact qze hy0,?_,y,x%y,b2,false,ny,nr,ly,lr,rfl,hw2,hn2,d4,d5,hy,hr,rfl,?_,ly1,?_⟩
    ·by_cases c1:nx≤1
     ·have c2:¬(ny:Int)≤1:=by omega
      have c1':(nx:Int)≤1:=by omega
      simp only[STD,a0,c1',c2,d1]
     ·have c1':¬(nx:Int)≤1:=by omega
      simp only[STD,a0,c1',d1]
    ·rw[←hg,Nat.gcd_comm y,←Nat.gcd_rec,Nat.gcd_comm]
    ·have:=Nat.mod_lt x (show 0<y by omega)
     omega) (ps:=[.b (decide (m<0)),.i (q1:Int),.r (rI l1),.b (decide (n<0)),.i (q2:Int),.r (rI l2)])
  ⟨m.natAbs,n.natAbs,_,_,q1,q2,l1,l2,rfl,w1,n1,w2,n2,v1,v2,rfl,rfl,lm,ln⟩
 rcases g2 with⟨rfl,b,n',l,rfl,a1,a2,a3⟩|⟨rfl,rfl⟩
 ·have hT:=qw4 a1 a2 false
  have hv:sv false l=((Nat.gcd m.natAbs n.natAbs:Nat):Int):=by unfold sv;rw[a3];rfl
  rw[hv,q0Y] at hT
  simp only[STD,qdS hm hn,r1,r2,g1,zk g1,hT]
 ·simp only[STD,qdS hm hn,r1,r2,g1,zk g1,show ¬(1=0) by omega]
end Go.Eng

namespace Go.Eng
theorem q97:okL 1:=by show nl 1≤1024;decide
theorem q82:okL 0:=by show nl 0≤1024;decide
theorem qDe(s:List UInt8)(hl:s.length≤1000000000):(q5r [.s s,.s [47]]).run=some (0,if sP s<s.length then [.s (s.take (sP s)),.s (s.drop (sP s+1)),.b true] else [.s s,.s [],.b false]):=by
 rw[qox]
 have h:(wC [.s s,.s [47]]).run=some (0,if sP s<s.length then [.s (s.take (sP s)),.s (s.drop (sP s+1)),.b true] else [.s s,.s [],.b false]):=by
  rw[q94]
  have hI:=qCe s
  by_cases hc:sP s<s.length
  ·rw[if_pos hc] at hI ⊢
   have w:qj .i64 (sP s:Int) (qu [47])=((sP s+1:Nat):Int):=by
    show qj .i64 (sP s:Int) 1=_
    rw[z8 (by omega)];omega
   have a1:(0:Int)≤(sP s:Int)∧(sP s:Int)≤qu s:=by unfold qu;omega
   have a2:(0:Int)≤0∧(0:Int)≤(sP s:Int):=by omega
   have a3:(0:Int)≤qu s∧qu s≤qu s:=by unfold qu;omega
   have a4:(0:Int)≤((sP s+1:Nat):Int)∧((sP s+1:Nat):Int)≤qu s:=by unfold qu;omega
   have e1:qet s 0 (sP s:Int)=s.take (sP s):=by unfold qet;simp
   have e2:qet s ((sP s+1:Nat):Int) (qu s)=s.drop (sP s+1):=by unfold qet qu;simp only[Int.toNat_natCast];rw[List.take_length]
   simp only[STD,hI,a1.1,a1.2,a2,a3,a4,and_self,w,e1,e2]
  ·rw[if_neg hc] at hI ⊢
   have a:¬(0:Int)≤-1:=by omega
   simp only[STD,hI,a]
 by_cases hc:sP s<s.length
 ·rw[if_pos hc] at h ⊢
  simp only[STD,h]
 ·rw[if_neg hc] at h ⊢
  simp only[STD,h]
theorem qDj(s:List UInt8)(hl:s.length≤1000000000):(qR [.s s]).run=some (0,[.s (spn s),.s (spd s),.b (decide (sP s<s.length))]):=by
 rw[qsT]
 have h:=qDe s hl
 unfold spn spd
 by_cases hc:sP s<s.length
 ·rw[if_pos hc] at h ⊢
  rw[decide_eq_true hc]
  simp only[STD,h]
 ·rw[if_neg hc] at h ⊢
  have:sP s=s.length:=by have:=qBG s;omega
  rw[decide_eq_false hc,this,List.take_length]
  simp only[STD,h]
theorem qDq(q:Rat):(sP (tQ q)<(tQ q).length)=(q.den≠1):=by
 by_cases h:q.den=1
 ·rw[q9m h,quG (qoG _)];simp[h]
 ·rw[q5W h,qzf (qoG _)];simp[h]
def okQ(q:Rat):Prop:=qn q≤1024∧qd q≤1024
theorem q4R{q:Rat}(h:okQ q):okL q.num:=h.1
theorem q0x{q:Rat}(h:okQ q):okL (q.den:Int):=h.2
theorem qml{q:Rat}(h:okQ q):(tQ q).length≤3000:=by have:=qDK q;have:=h.1;have:=h.2;omega
theorem q95{q:Rat}(h:okQ q):(qR [.s (tQ q)]).run=some (0,[.s (tI q.num),.s (tI (q.den:Int)),.b (decide (q.den≠1))]):=by
 have:=qml h
 rw[qDj _ (by omega),qBc,qBk,q0Y]
 simp only[qDq]
open Classical in
noncomputable def vI(s:List UInt8):Int:=if h:∃m:Int,s=tI m then h.choose else 0
theorem qzG(m:Int):vI (tI m)=m:=by
 unfold vI
 have h:∃k:Int,tI m=tI k:=⟨m,rfl⟩
 rw[dif_pos h]
 exact(qvN h.choose_spec).symm
theorem qrQ{s:List UInt8}(h:qwl s=0):∃m:Int,s=tI m∧okL m:=by
 unfold qwl at h
 split at h
 ·rename_i hm
  obtain⟨m,rfl⟩:=hm
  rw[qto] at h
  split at h
  ·rename_i hl;exact⟨m,rfl,hl⟩
  ·omega
 ·omega
theorem qtH(s:List UInt8):qwl s=0∨qwl s=3∨qwl s=11:=by
 unfold qwl
 split
 ·split<;>simp
 ·simp
noncomputable def qoz(s:List UInt8):Int:=
 if qwl (spn s)=3 then 3 else if qwl (spd s)=3 then 3 else if qwl (spn s)≠0 then 11 else if qwl (spd s)≠0 then 11
 else if sP s<s.length then (if sgn (vI (spd s)-1)≤0 then 3 else if Nat.gcd (vI (spn s)).natAbs (vI (spd s)).natAbs=1 then 0 else 3) else 0
theorem qD3(s:List UInt8):(spn s).length≤s.length:=by unfold spn;rw[List.length_take];omega
theorem qCZ(s:List UInt8):(spd s).length≤s.length+1:=by unfold spd;split<;>simp<;>omega
theorem q8Q(s:List UInt8)(hl:s.length≤100000000):(vZ [.s s]).run=some (0,[.i (qoz s)]):=by
 rw[qoN]
 have hn:=qD3 s
 have hd:=qCZ s
 have h1:=qdo (spn s) (by omega)
 have h2:=qdo (spd s) (by omega)
 have hc:=qDj s (by omega)
 have mx:qer 11 0=11∧qer 11 11=11∧qer 0 11=11:=by decide
 unfold qoz
 rcases qtH (spn s) with a|a|a<;>rcases qtH (spd s) with b|b|b<;>rw[a] at h1 ⊢<;>rw[b] at h2 ⊢
 ·obtain⟨m,em,om⟩:=qrQ a
  obtain⟨n,en,on⟩:=qrQ b
  rw[em] at h1 hc ⊢
  rw[en] at h2 hc ⊢
  have hC:=qnp on (n:=1) q97
  rw[qBl] at hC
  have hG:=qDT om on
  rw[qzG,qzG]
  by_cases hs:sP s<s.length
  ·by_cases ho:sgn (n-1)≤0
   ·simp only[STD,hc,h1,h2,hs,hC,hG,ho,show ¬((0:Int)=3) by omega,show ¬((0:Int)≠0) by omega]
   ·by_cases hg:Nat.gcd m.natAbs n.natAbs=1
    ·simp only[STD,hc,h1,h2,hs,hC,hG,ho,hg,wk,q8Z,show ¬((0:Int)=3) by omega,show ¬((0:Int)≠0) by omega]
    ·simp only[STD,hc,h1,h2,hs,hC,hG,ho,hg,wk,q8Z,show ¬((0:Int)=3) by omega,show ¬((0:Int)≠0) by omega]
  ·simp only[STD,hc,h1,h2,hs,show ¬((0:Int)=3) by omega,show ¬((0:Int)≠0) by omega]
 all_goals simp only[STD,hc,h1,h2,mx,show ¬((0:Int)=3) by omega,show ¬((11:Int)=3) by omega,show ¬((11:Int)=0) by omega,show ¬((3:Int)=0) by omega]
theorem qqi{q:Rat}(h:okQ q):qoz (tQ q)=0:=by
 unfold qoz
 have e1:spd (tQ q)=tI (q.den:Int):=by rw[qBk,q0Y]
 rw[qBc,e1,qvh (q4R h),qvh (q0x h)]
 simp only[qzG,qDq]
 by_cases hd:q.den=1
 ·simp[hd]
 ·have:=q.den_nz
  have hs:¬sgn ((q.den:Int)-1)≤0:=by
   unfold sgn;rw[if_neg (by omega),if_neg (by omega)];omega
  have hr:Nat.gcd q.num.natAbs q.den=1:=q.reduced
  simp[hd,hs,hr]
theorem qBT{s:List UInt8}(h:qoz s=0):∃q:Rat,s=tQ q∧okQ q:=by
 unfold qoz at h
 split at h
 ·omega
 split at h
 ·omega
 split at h
 ·omega
 split at h
 ·omega
 rename_i h1 h2 h3 h4
 obtain⟨m,em,om⟩:=qrQ (Decidable.byContradiction fun h=>h3 h)
 obtain⟨n,en,on⟩:=qrQ (Decidable.byContradiction fun h=>h4 h)
 rw[em,en,qzG,qzG] at h
 split at h
 ·rename_i hs
  split at h
  ·omega
  rename_i hsg
  split at h
  ·rename_i hg
   have hn1:1<n:=by
    unfold sgn at hsg
    by_cases c1:n-1<0
    ·rw[if_pos c1] at hsg;omega
    ·rw[if_neg c1] at hsg
     by_cases c2:n-1=0
     ·rw[if_pos c2] at hsg;omega
     ·omega
   obtain⟨k,rfl⟩:∃k:Nat,n=(k:Int):=⟨n.toNat,by omega⟩
   refine⟨⟨m,k,by omega,hg⟩,?_,om,on⟩
   rw[q5W (show k≠1 by omega)]
   have hslash:s=spn s++47::spd s:=by
    unfold spn spd
    rw[if_pos hs]
    have h47:s[sP s]=47:=by
     have:=List.findIdx_getElem (p:=(·==47)) (w:=hs)
     exact eq_of_beq this
    rw[←h47,List.getElem_cons_drop,List.take_append_drop]
   rw[hslash,em,en,q0Y]
  ·omega
 ·rename_i hs
  have e:sP s=s.length:=by have:=qBG s;omega
  have hsn:spn s=s:=by unfold spn;rw[e,List.take_length]
  refine⟨(m:Rat),?_,?_,?_⟩
  ·rw[qvd,←em,hsn]
  ·have:nl m≤1024:=om
   unfold qn;simpa using this
  ·unfold qd;simp;decide
theorem qE0(m:Int):nl m≤(tI m).length:=by unfold nl tI;split<;>simp
theorem qmJ(q:Rat):qn q≤(tQ q).length∧(q.den=1∨qn q+1+qd q≤(tQ q).length):=by
 have h1:=qE0 q.num
 by_cases h:q.den=1
 ·rw[q9m h];exact⟨h1,.inl h⟩
 ·rw[q5W h]
  unfold qn qd dl
  simp
  omega
theorem qsE{l:List (List UInt8)}(hn:l.length<1000000)(h:∀s,s∈l→(vZ [.s s]).run=some (0,[.i 0])):(qX [.r (rS l)]).run=some (0,[.i 0]):=by
 rw[qnt,qq4]
 have key:=wB (S:=q1z) (fun i=>[.r (rS l),.i (l.length:Int),.i (i:Int)]) (0,[]) l.length (by omega) (fun i hi=>by
  rw[qcI,qxX hi]
  have a1:(i:Int)<(l.length:Int):=by omega
  have a2:(i:Int)<qf (rS l):=by rw[qq4];exact a1
  simp only[STD,a1,a2,uL,and_self,h _ (List.getElem_mem hi),q2U hi (show l.length<9223372036854775808 by omega)]) (by
  rw[qcI]
  have a1:¬(l.length:Int)<(l.length:Int):=by omega
  simp only[STD,a1])
 simp only[show (((0:Nat)):Int)=0 from rfl] at key
 simp only[STD,key,zk key]
theorem qg9{q:Rat}(h:okQ q):(vZ [.s (tQ q)]).run=some (0,[.i 0]):=by
 have:=qml h
 rw[q8Q _ (by omega),qqi h]
theorem qeT{a b:Rat}(ha:okQ a)(hb:okQ b):(qX [.r [[.s (tQ a)],[.s (tQ b)]]]).run=some (0,[.i 0]):=by
 exact qsE (l:=[tQ a,tQ b]) (by simp) (fun s hs=>by
  simp only[List.mem_cons,List.not_mem_nil,or_false] at hs
  rcases hs with rfl|rfl
  ·exact qg9 ha
  ·exact qg9 hb)
theorem qC1{m n:Int}(hm:okL m)(hn:okL n)(h:okL (m+n)):(yx [.s (tI m),.s (tI n),.i 0]).run=some (0,[.s (tI (m+n)),.i 0]):=by
 rw[qjT]
 have:(wQ [.s (tI m),.s (tI n),.i 0]).run=some (0,[.s (tI (m+n)),.i 0]):=by
  rw[qag]
  simp only[STD,qD9 hm hn h]
 simp only[STD,this]
theorem quD{m n:Int}(hm:okL m)(hn:okL n)(h:okL (m-n)):(zu [.s (tI m),.s (tI n),.i 0]).run=some (0,[.s (tI (m-n)),.i 0]):=by
 rw[qkr]
 have:(wP [.s (tI m),.s (tI n),.i 0]).run=some (0,[.s (tI (m-n)),.i 0]):=by
  rw[qaj]
  simp only[STD,qE1 hm hn h]
 simp only[STD,this]
theorem qBJ{m n:Int}(hm:okL m)(hn:okL n)(h:okL (m*n)):(zV [.s (tI m),.s (tI n),.i 0]).run=some (0,[.s (tI (m*n)),.i 0]):=by
 rw[qaf]
 simp only[STD,qEb hm hn h]
theorem qCh{m n:Int}(hm:okL m)(hn:okL n):(wU [.s (tI m),.s (tI n),.i 0]).run=some (0,[.s (tN (Nat.gcd m.natAbs n.natAbs)),.i 0]):=by
 rw[qad]
 simp only[STD,qDT hm hn]
theorem qs3{k n:Int}(h0:n≠0)(hm:okL (k*n))(hn:okL n):(qZ [.s (tI (k*n)),.s (tI n),.i 0]).run=some (0,[.s (tI k),.i 0]):=by
 rw[qah]
 simp only[STD,qDZ h0 hm hn]
def prd:Int→List Int→Int
 | a,[]=>a
 | a,m::l=>prd (a*m) l
def qCm:Int→List Int→Prop
 | a,[]=>okL a
 | a,m::l=>okL a∧okL m∧qCm (a*m) l
theorem qyI:∀(l:List Int) (pre:List Int) (a:Int),qCm a l→pre.length+l.length<1000→∀f,l.length<f →
  (qiR yb f [.s (tI a),.r (rS ((pre++l).map tI)),.i ((pre++l).length:Int),.i (pre.length:Int),.i 0]).run=some (0,[.s (tI (prd a l)),.i 0])
 | [],pre,a,h,hl,f,hf=>by
  obtain⟨f,rfl⟩:∃g,f=g+1:=⟨f-1,by simp at hf;omega⟩
  refine q7a ?_
  rw[q9V,List.append_nil]
  have a1:¬(pre.length:Int)<(pre.length:Int):=by omega
  simp only[STD,a1];rfl
 | m::l,pre,a,h,hl,f,hf=>by
  obtain⟨f,rfl⟩:∃g,f=g+1:=⟨f-1,by simp at hf;omega⟩
  obtain⟨h1,h2,h3⟩:=h
  have hlt:pre.length<(pre++m::l).length:=by simp
  have ih:=qyI l (pre++[m]) (a*m) h3 (by simp at hl ⊢;omega) f (by simp at hf;omega)
  rw[List.append_assoc,List.singleton_append] at ih
  have hok:okL (a*m):=by
   cases l with
   | nil=>exact h3
   | cons x l=>exact h3.1
  rw[qg7 (qs:=[.s (tI (a*m)),.r (rS ((pre++m::l).map tI)),.i ((pre++m::l).length:Int),.i ((pre++[m]).length:Int),.i 0])]
  ·exact ih
  ·rw[q9V]
   have hlt2:pre.length<((pre++m::l).map tI).length:=by simp
   rw[qxX hlt2]
   have e:((pre++m::l).map tI)[pre.length]=tI m:=by simp
   rw[e]
   have a1:(pre.length:Int)<((pre++m::l).length:Int):=by omega
   have a2:(pre.length:Int)<qf (rS ((pre++m::l).map tI)):=by rw[qq4];omega
   have w:qj .i64 (pre.length:Int) 1=((pre++[m]).length:Int):=by
    rw[z8 (by omega)];simp
   simp only[STD,a1,a2,uL,and_self,qBJ h1 h2 hok,w]
theorem qth(l:List Int)(h:qCm 1 l)(hl:l.length<1000):(qg [.r (rS (l.map tI)),.i 0]).run=some (0,[.s (tI (prd 1 l)),.i 0]):=by
 rw[qkA,qq4]
 have h1:=qyI l [] 1 h (by simp;omega) qfB (by unfold qfB;omega)
 simp only[List.nil_append,List.length_nil] at h1
 have e:(qh yb [.s [49],.r (rS (l.map tI)),.i ((l.map tI).length:Int),.i 0,.i 0]).run=some (0,[.s (tI (prd 1 l)),.i 0]):=by
  rw[List.length_map]
  exact h1
 simp only[STD,e]
theorem qcm{m n:Int}(hm:okL m)(hn:okL n)(h:okL (m*n)):(qg [.r [[.s (tI m)],[.s (tI n)]],.i 0]).run=some (0,[.s (tI (m*n)),.i 0]):=by
 have:=qth [m,n] ⟨q97,hm,by rw[Int.one_mul];exact hm,hn,by rw[Int.one_mul];exact h⟩ (by simp)
 simp only[prd,Int.one_mul] at this
 exact this
theorem qtQ{q:Rat}(h:okQ q):(q1M [.s (tI q.num),.s (tI (q.den:Int))]).run=some (0,[.s (tQ q)]):=by
 rw[qnn,q0Y]
 have l1:=qu2 (q4R h)
 have l2:(tN q.den).length≤1024:=h.2
 have a1:qu (tI q.num)+qu [47]≤140737488355328:=by unfold qu;simp;omega
 have a2:qu (qbV (tI q.num) [47])+qu (tN q.den)≤140737488355328:=by unfold qu qbV;simp;omega
 by_cases h1:q.den=1
 ·simp only[STD,wk,q8Z,h1,q9m h1]
 ·simp only[STD,wk,q8Z,h1,q5W h1,a1,a2]
  simp[qbV]
theorem qAO(s:List UInt8):(uF [.s s,.s [45]]).run=some (0,[.b (decide (s.getD 0 0=45))]):=by
 rw[qgh]
 simp only[STD,qyv]
theorem qyD(n:Int):((tI n).getD 0 0=45)=(n<0):=by
 by_cases h:n<0
 ·rw[qaU h];simp[h]
 ·rw[qi9 h]
  obtain⟨c,t,e,h1,h2⟩:=qg1 (wl n.natAbs) (qmP _)
  rw[e]
  simp only[List.getD_cons_zero,h,eq_iff_iff,iff_false]
  intro hc;subst hc;revert h1;decide
theorem qj7{m n:Int}(hn0:n≠0)(hm:okL m)(hn:okL n):(qD [.s (tI m),.s (tI n),.i 0]).run=some (0,[.s (tQ (Rat.divInt m n)),.i 0])∧okQ (Rat.divInt m n):=by
 have hG:=qCh hm hn
 have hg0:0<Nat.gcd m.natAbs n.natAbs:=Nat.gcd_pos_of_pos_right _ (by omega)
 have hgn:Nat.gcd m.natAbs n.natAbs≤n.natAbs:=Nat.gcd_le_right _ (by omega)
 have hnum:=Rat.num_divInt m n
 have hden:=Rat.den_divInt m n
 rw[if_neg hn0] at hden
 have hgc:Int.gcd n m=Nat.gcd m.natAbs n.natAbs:=by unfold Int.gcd;exact Nat.gcd_comm _ _
 rw[hgc] at hnum hden
 obtain⟨k,hk⟩:((Nat.gcd m.natAbs n.natAbs:Nat):Int) ∣ m:=Int.ofNat_dvd_left.2 (Nat.gcd_dvd_left _ _)
 obtain⟨l,hl⟩:((Nat.gcd m.natAbs n.natAbs:Nat):Int) ∣ n:=Int.ofNat_dvd_left.2 (Nat.gcd_dvd_right _ _)
 generalize Nat.gcd m.natAbs n.natAbs=g at *
 generalize Rat.divInt m n=q at *
 have hgok:okL (g:Int):=qBd (by simpa using hgn) hn
 have hm2:k*(g:Int)=m:=by rw[Int.mul_comm];exact hk.symm
 have hn2:l*(g:Int)=n:=by rw[Int.mul_comm];exact hl.symm
 have hgz:(g:Int)≠0:=by omega
 have hok:okQ q:=by
  constructor
  ·refine Nat.le_trans (qbA ?_) hm
   rw[hnum]
   refine Nat.le_trans (Int.natAbs_ediv_le_natAbs _ _) ?_
   rw[Int.natAbs_mul,Int.natAbs_sign_of_ne_zero hn0];omega
  ·refine Nat.le_trans (ko ?_) hn
   rw[hden];exact Nat.div_le_self _ _
 refine⟨?_,hok⟩
 rw[qgn]
 have hP:=qAO (tI n)
 simp only[qyD] at hP
 by_cases hneg:n<0
 ·have e1:-k=q.num:=by
   rw[hnum,Int.sign_eq_neg_one_of_neg hneg,←hm2]
   rw[show (-1:Int)*(k*(g:Int))=(-k)*(g:Int) by rw[Int.neg_mul,Int.one_mul,Int.neg_mul]]
   exact(Int.mul_ediv_cancel _ hgz).symm
  have e2:-l=(q.den:Int):=by
   rw[hden]
   have h3:(n.natAbs:Int)=(-l)*(g:Int):=by rw[Int.neg_mul];omega
   rw[Int.natCast_ediv,h3,Int.mul_ediv_cancel _ hgz]
  have hS:=quD (m:=0) (n:=(g:Int)) q82 hgok (by rw[Int.zero_sub];exact qrG hgok)
  rw[Int.zero_sub,q0Y] at hS
  have Q1:=qs3 (k:=-k) (n:=-(g:Int)) (by omega) (by rw[Int.neg_mul_neg,hm2];exact hm) (qrG hgok)
  have Q2:=qs3 (k:=-l) (n:=-(g:Int)) (by omega) (by rw[Int.neg_mul_neg,hn2];exact hn) (qrG hgok)
  rw[Int.neg_mul_neg,hm2,e1] at Q1
  rw[Int.neg_mul_neg,hn2,e2] at Q2
  have hS':(zu [.s [48],.s (tN g),.i 0]).run=some (0,[.s (tI (-(g:Int))),.i 0]):=hS
  simp only[STD,hG,hP,hneg,hS',Q1,Q2,qtQ hok]
 ·have e1:k=q.num:=by
   rw[hnum,Int.sign_eq_one_of_pos (by omega),Int.one_mul,←hm2]
   exact(Int.mul_ediv_cancel _ hgz).symm
  have e2:l=(q.den:Int):=by
   rw[hden]
   have h3:(n.natAbs:Int)=l*(g:Int):=by omega
   rw[Int.natCast_ediv,h3,Int.mul_ediv_cancel _ hgz]
  have Q1:=qs3 (k:=k) (n:=(g:Int)) hgz (by rw[hm2];exact hm) hgok
  have Q2:=qs3 (k:=l) (n:=(g:Int)) hgz (by rw[hn2];exact hn) hgok
  rw[hm2,e1,q0Y] at Q1
  rw[hn2,e2,q0Y] at Q2
  simp only[STD,hG,hP,hneg,Q1,Q2,qtQ hok]
end Go.Eng

namespace Go.Eng
theorem qxc(a b:Rat):Rat.divInt (a.num*b.den+b.num*a.den) ((a.den:Int)*(b.den:Int))=a+b:=by
 rw[Rat.add_def',←Rat.divInt_ofNat];simp
theorem qwX(a b:Rat):Rat.divInt (a.num*b.den-b.num*a.den) ((a.den:Int)*(b.den:Int))=a-b:=by
 rw[Rat.sub_def',←Rat.divInt_ofNat];simp
theorem qxT(a b:Rat):Rat.divInt (a.num*b.num) ((a.den:Int)*(b.den:Int))=a*b:=by
 rw[Rat.mul_def',←Rat.divInt_ofNat];simp
theorem qxq(a b:Rat):Rat.divInt (a.num*b.den) ((a.den:Int)*b.num)=a/b:=by
 rw[Rat.div_def,Rat.inv_def,←Rat.divInt_mul_divInt,Rat.num_divInt_den]
theorem qkS(a b:Rat):(a.den:Int)*(b.den:Int)≠0:=by have:=Int.mul_pos (qB0 a) (qB0 b);omega
theorem qDY{m:Int}(h:m≠0):¬tI m=[48]:=by rw[q6D];exact h
def bnd(N D:Nat)(q:Rat):Prop:=qn q≤N∧qd q≤D
theorem bnd.ok{N D:Nat}{q:Rat}(h:bnd N D q)(hN:N≤1024)(hD:D≤1024):okQ q:=⟨Nat.le_trans h.1 hN,Nat.le_trans h.2 hD⟩
theorem bnd.mono{N D N' D':Nat}{q:Rat}(h:bnd N D q)(hN:N≤N')(hD:D≤D'):bnd N' D' q:=⟨Nat.le_trans h.1 hN,Nat.le_trans h.2 hD⟩
theorem bnd.mul{N D N' D':Nat}{a b:Rat}(ha:bnd N D a)(hb:bnd N' D' b):bnd (N+N') (D+D') (a*b):=
 ⟨Nat.le_trans (qBB a b) (Nat.add_le_add ha.1 hb.1),Nat.le_trans (qBx a b) (Nat.add_le_add ha.2 hb.2)⟩
theorem bnd.add{N D N' D' K:Nat}{a b:Rat}(ha:bnd N D a)(hb:bnd N' D' b)(h1:N+D'+1≤K)(h2:N'+D+1≤K):bnd K (D+D') (a+b):=
 ⟨by have:=qDw a b;have:=ha.1;have:=ha.2;have:=hb.1;have:=hb.2;omega,by have:=qDQ a b;have:=ha.2;have:=hb.2;omega⟩
theorem bnd.sub{N D N' D' K:Nat}{a b:Rat}(ha:bnd N D a)(hb:bnd N' D' b)(h1:N+D'+1≤K)(h2:N'+D+1≤K):bnd K (D+D') (a-b):=
 ⟨by have:=qD6 a b;have:=ha.1;have:=ha.2;have:=hb.1;have:=hb.2;omega,by have:=qD8 a b;have:=ha.2;have:=hb.2;omega⟩
theorem bnd.div{N D N' D':Nat}{a b:Rat}(h0:b≠0)(ha:bnd N D a)(hb:bnd N' D' b):bnd (N+D') (D+N') (a/b):=
 ⟨by have:=qDc a h0;have:=ha.1;have:=hb.2;omega,by have:=qDs a h0;have:=ha.2;have:=hb.1;omega⟩
theorem bnd.neg{N D:Nat}{a:Rat}(h:bnd N D a):bnd N D (-a):=⟨by rw[qDP];exact h.1,h.2⟩
theorem qaQ:bnd 1 1 0:=⟨by decide,by decide⟩
theorem qqM:bnd 1 1 2:=⟨by decide,by decide⟩
theorem qbx{m n:Int}{N M:Nat}(hm:nl m≤N)(hn:nl n≤M)(h:N+M≤1024):okL (m*n):=by
 have:=q48 m n
 unfold okL;omega
theorem qoi{N D N' D':Nat}{a b:Rat}(ha:bnd N D a)(hb:bnd N' D' b)(h1:N+N'≤1024)(h2:D+D'≤1024):(q14 [.s (tQ a),.s (tQ b)]).run=some (0,[.s (tQ (a*b)),.i 0]):=by
 have oa:=ha.ok (by omega) (by omega)
 have ob:=hb.ok (by omega) (by omega)
 have k1:okL (a.num*b.num):=qbx ha.1 hb.1 h1
 have k2:okL ((a.den:Int)*(b.den:Int)):=qbx ha.2 hb.2 h2
 have m1:=qcm (q4R oa) (q4R ob) k1
 have m2:=qcm (q0x oa) (q0x ob) k2
 have hL:=(qj7 (qkS a b) k1 k2).1
 rw[qxT] at hL
 rw[qtm]
 have key:(vG [.s (tQ a),.s (tQ b)]).run=some (0,[.s (tQ (a*b)),.i 0]):=by
  rw[qbd]
  have h1:(q2T [.s (tI a.num),.s (tI (a.den:Int)),.s (tI b.num),.s (tI (b.den:Int)),.i 0]).run=some (0,[.s (tI (a.num*b.num)),.s (tI ((a.den:Int)*(b.den:Int))),.i 0]):=by
   rw[qpc]
   simp only[STD,m1,m2]
  simp only[STD,qeT oa ob,q95 oa,q95 ob,h1,wk,qDY (qkS a b),hL]
 simp only[STD,key]
theorem quF{N D N' D':Nat}{a b:Rat}(ha:bnd N D a)(hb:bnd N' D' b)(h1:N+D'≤1023)(h2:N'+D≤1023)(h3:D+D'≤1024):(q6E [.s (tQ a),.s (tQ b)]).run=some (0,[.s (tQ (a+b)),.i 0]):=by
 have p1:=qnI a
 have p2:=qnI b
 have p3:=qwx a
 have p4:=qwx b
 have oa:okQ a:=⟨by have:=ha.1;have:=hb.2;omega,by have:=ha.2;have:=hb.2;omega⟩
 have ob:okQ b:=⟨by have:=hb.1;have:=ha.2;omega,by have:=ha.2;have:=hb.2;omega⟩
 have k1:okL (a.num*(b.den:Int)):=qbx ha.1 hb.2 (by omega)
 have k2:okL (b.num*(a.den:Int)):=qbx hb.1 ha.2 (by omega)
 have k3:okL ((a.den:Int)*(b.den:Int)):=qbx ha.2 hb.2 h3
 have k4:okL (a.num*(b.den:Int)+b.num*(a.den:Int)):=by
  have q1:=qt3 (a.num*(b.den:Int)) (b.num*(a.den:Int))
  have q2:=q48 a.num (b.den:Int)
  have q3:=q48 b.num (a.den:Int)
  have q4:nl a.num≤N:=ha.1
  have q5:nl (b.den:Int)≤D':=hb.2
  have q6:nl b.num≤N':=hb.1
  have q7:nl (a.den:Int)≤D:=ha.2
  unfold okL;omega
 have m1:=qcm (q4R oa) (q0x ob) k1
 have m2:=qcm (q4R ob) (q0x oa) k2
 have m3:=qcm (q0x oa) (q0x ob) k3
 have hL:=(qj7 (qkS a b) k4 k3).1
 rw[qxc] at hL
 rw[qsy]
 have key:(vl [.s (tQ a),.s (tQ b)]).run=some (0,[.s (tQ (a+b)),.i 0]):=by
  rw[qbl]
  have h1:(q2I [.s (tI a.num),.s (tI (a.den:Int)),.s (tI b.num),.s (tI (b.den:Int)),.i 0]).run=some (0,[.s (tI (a.num*b.den+b.num*a.den)),.s (tI ((a.den:Int)*(b.den:Int))),.i 0]):=by
   rw[qoF]
   simp only[STD,m1,m2,m3,qC1 k1 k2 k4]
  simp only[STD,qeT oa ob,q95 oa,q95 ob,h1,wk,qDY (qkS a b),hL]
 simp only[STD,key]
theorem qun{N D N' D':Nat}{a b:Rat}(ha:bnd N D a)(hb:bnd N' D' b)(h1:N+D'≤1023)(h2:N'+D≤1023)(h3:D+D'≤1024):(q6e [.s (tQ a),.s (tQ b)]).run=some (0,[.s (tQ (a-b)),.i 0]):=by
 have p1:=qnI a
 have p2:=qnI b
 have p3:=qwx a
 have p4:=qwx b
 have oa:okQ a:=⟨by have:=ha.1;have:=hb.2;omega,by have:=ha.2;have:=hb.2;omega⟩
 have ob:okQ b:=⟨by have:=hb.1;have:=ha.2;omega,by have:=ha.2;have:=hb.2;omega⟩
 have k1:okL (a.num*(b.den:Int)):=qbx ha.1 hb.2 (by omega)
 have k2:okL (b.num*(a.den:Int)):=qbx hb.1 ha.2 (by omega)
 have k3:okL ((a.den:Int)*(b.den:Int)):=qbx ha.2 hb.2 h3
 have k4:okL (a.num*(b.den:Int)-b.num*(a.den:Int)):=by
  have q1:=qzL (a.num*(b.den:Int)) (b.num*(a.den:Int))
  have q2:=q48 a.num (b.den:Int)
  have q3:=q48 b.num (a.den:Int)
  have q4:nl a.num≤N:=ha.1
  have q5:nl (b.den:Int)≤D':=hb.2
  have q6:nl b.num≤N':=hb.1
  have q7:nl (a.den:Int)≤D:=ha.2
  unfold okL;omega
 have m1:=qcm (q4R oa) (q0x ob) k1
 have m2:=qcm (q4R ob) (q0x oa) k2
 have m3:=qcm (q0x oa) (q0x ob) k3
 have hL:=(qj7 (qkS a b) k4 k3).1
 rw[qwX] at hL
 rw[qtU]
 have key:(vH [.s (tQ a),.s (tQ b)]).run=some (0,[.s (tQ (a-b)),.i 0]):=by
  rw[qbz]
  have h1:(q3n [.s (tI a.num),.s (tI (a.den:Int)),.s (tI b.num),.s (tI (b.den:Int)),.i 0]).run=some (0,[.s (tI (a.num*b.den-b.num*a.den)),.s (tI ((a.den:Int)*(b.den:Int))),.i 0]):=by
   rw[qpl]
   simp only[STD,m1,m2,m3,quD k1 k2 k4]
  simp only[STD,qeT oa ob,q95 oa,q95 ob,h1,wk,qDY (qkS a b),hL]
 simp only[STD,key]
theorem qou(q:Rat):(tQ q=[48])=(q=0):=by
 have:([48]:List UInt8)=tQ 0:=rfl
 rw[this,qx2]
theorem qui{N D N' D':Nat}{a b:Rat}(hb0:b≠0)(ha:bnd N D a)(hb:bnd N' D' b)(h1:N+D'≤1024)(h2:D+N'≤1024):(q6F [.s (tQ a),.s (tQ b)]).run=some (0,[.s (tQ (a/b)),.i 0]):=by
 have oa:okQ a:=⟨by have:=ha.1;omega,by have:=ha.2;omega⟩
 have ob:okQ b:=⟨by have:=hb.1;omega,by have:=hb.2;omega⟩
 have k1:okL (a.num*(b.den:Int)):=qbx ha.1 hb.2 h1
 have k2:okL ((a.den:Int)*b.num):=qbx ha.2 hb.1 h2
 have hbn:b.num≠0:=fun h=>hb0 (Rat.num_eq_zero.1 h)
 have hz:(a.den:Int)*b.num≠0:=by have:=qB0 a;exact Int.mul_ne_zero (by omega) hbn
 have m1:=qcm (q4R oa) (q0x ob) k1
 have m2:=qcm (q0x oa) (q4R ob) k2
 have hL:=(qj7 hz k1 k2).1
 rw[qxq] at hL
 rw[qsr]
 have key:(vu [.s (tQ a),.s (tQ b)]).run=some (0,[.s (tQ (a/b)),.i 0]):=by
  rw[qbK]
  have h1:(q32 [.s (tI a.num),.s (tI (a.den:Int)),.s (tI b.num),.s (tI (b.den:Int)),.i 0]).run=some (0,[.s (tI (a.num*b.den)),.s (tI ((a.den:Int)*b.num)),.i 0]):=by
   rw[qp1]
   simp only[STD,m1,m2]
  simp only[STD,qeT oa ob,q95 oa,q95 ob,h1,wk,qDY hz,hL]
 simp only[STD,qeT oa ob,wk,qou,hb0,key]
theorem q7O{m:Int}(h:okL m):(zy [.s (tI m),.i 0]).run=some (0,[.i (sgn m),.i 0]):=by
 rw[qiq]
 simp only[STD,qta h]
theorem qCk(m:Int):sgn m=sgq (m:Rat):=by unfold sgq;simp
theorem qv8{q k:Rat}(hk:0<k):sgq (k*q)=sgq q:=by
 rcases qcj q with⟨h,e⟩|⟨h,e⟩|⟨h,e⟩
 ·rw[e,qBu]
  have:=(Rat.mul_neg_iff_of_pos_left hk).2 h
  exact this
 ·rw[e,h,Rat.mul_zero];rfl
 ·rw[e,qum]
  exact Rat.mul_pos hk h
theorem q37(a:Rat):(0:Rat)<(a.den:Rat):=by
 have:=a.den_nz
 exact Rat.natCast_pos.2 (by omega)
theorem qee(a:Rat):(a.num:Rat)=a*(a.den:Rat):=by
 have h:a=(a.num:Rat)/(a.den:Rat):=by rw[←Rat.mkRat_eq_div,Rat.mkRat_self]
 have h2:=Rat.div_mul_cancel (a:=(a.num:Rat)) (b:=(a.den:Rat)) (by have:=q37 a;grind)
 rw[←h] at h2
 exact h2.symm
def rX(a b c:Rat):Int:=a.num*b.den*c.den
def rY(a b:Rat):Int:=b.num*a.den
def rR(c:Rat):Int:=c.num*c.den
theorem qDE(a b c:Rat):sgn (rX a b c)=sgq a:=by
 unfold rX sgq
 rw[qcW (qB0 c),qcW (qB0 b)]
theorem qD2(a b:Rat):sgn (rY a b)=sgq b:=by unfold rY sgq;rw[qcW (qB0 a)]
theorem qD4(c:Rat):sgn (rR c)=sgq c:=by unfold rR sgq;rw[qcW (qB0 c)]
theorem qCP(a b c:Rat):sgn (rX a b c*rX a b c-rY a b*rY a b*rR c)=sgq (a*a-b*b*c):=by
 rw[qCk]
 have h1:=q37 a
 have h2:=q37 b
 have h3:=q37 c
 have hk:(0:Rat)<((a.den:Rat)*b.den*c.den)*((a.den:Rat)*b.den*c.den):=by
  have:=Rat.mul_pos (Rat.mul_pos h1 h2) h3
  exact Rat.mul_pos this this
 rw[←qv8 (q:=a*a-b*b*c) hk]
 congr 1
 unfold rX rY rR
 simp only[Rat.intCast_sub,Rat.intCast_mul,qee,Rat.intCast_natCast]
 grind
theorem qzx(a b c:Rat):qgz a b c=if 0≤sgn (rX a b c)*(sgn (rY a b)*sgn (rR c)) then (if sgn (rX a b c)=0 then sgn (rY a b)*sgn (rR c) else sgn (rX a b c)) else sgn (rX a b c)*sgn (rX a b c*rX a b c-rY a b*rY a b*rR c):=by
 unfold qgz
 rw[qDE,qD2,qD4,qCP]
theorem qCa{x y r:Int}(hx:okL x)(hy:okL y)(hr:okL r)(hxx:okL (x*x))(hyy:okL (y*y))(hyr:okL (y*y*r))(hd:okL (x*x-y*y*r)) :
  (ut [.s (tI x),.s (tI y),.s (tI r),.i 0]).run=some (0,[.i (if 0≤sgn x*(sgn y*sgn r) then (if sgn x=0 then sgn y*sgn r else sgn x) else sgn x*sgn (x*x-y*y*r)),.i 0]):=by
 rw[qiG]
 have bx:=qok x
 have bY:=qok y
 have br:=qok r
 have bd:=qok (x*x-y*y*r)
 have m1:=qcm hx hx hxx
 have m2:=qth [y,y,r] ⟨q97,hy,by rw[Int.one_mul];exact hy,hy,by rw[Int.one_mul];exact hyy,hr,by rw[Int.one_mul];exact hyr⟩ (by simp)
 simp only[prd,Int.one_mul] at m2
 have m2':(qg [.r [[.s (tI y)],[.s (tI y)],[.s (tI r)]],.i 0]).run=some (0,[.s (tI (y*y*r)),.i 0]):=m2
 by_cases hc:0≤sgn x*(sgn y*sgn r)
 ·by_cases h0:sgn x=0
  ·have w0:uk .i64 0 (sgn y*sgn r)=0:=by rw[q19 (by rw[Int.zero_mul];omega),Int.zero_mul]
   simp only[STD,q7O hx,q7O hy,q7O hr,qkt bY br,h0,w0,Int.zero_mul,Int.le_refl,eq_self]
  ·simp only[STD,q7O hx,q7O hy,q7O hr,qkt bY br,qkt bx (qEm bY br),hc,h0]
 ·simp only[STD,q7O hx,q7O hy,q7O hr,qkt bY br,qkt bx (qEm bY br),hc,m1,m2',quD hxx hyr hd,q7O hd,qkt bx bd]
theorem qwc(m:Int):okL (0*m):=by rw[Int.zero_mul];exact q82
theorem qCl{c:Rat}(h:0≤c):¬(tQ c).getD 0 0=45:=by
 have hn:¬c.num<0:=by have:=Rat.num_nonneg.2 h;omega
 have e:(tQ c).getD 0 0=(tI c.num).getD 0 0:=by
  by_cases hd:c.den=1
  ·rw[q9m hd]
  ·rw[q5W hd]
   obtain⟨x,t,ex⟩:∃x t,tI c.num=x::t:=List.exists_cons_of_ne_nil (List.length_pos_iff.1 (qmm _))
   rw[ex];simp
 rw[e,qyD];exact hn
theorem qDh{c:Rat}(h:c<0):(tQ c).getD 0 0=45:=by
 have h1:¬0≤c:=by grind
 have hn:c.num<0:=by
  have h2:¬0≤c.num:=fun h=>h1 (Rat.num_nonneg.1 h)
  omega
 have e:(tQ c).getD 0 0=(tI c.num).getD 0 0:=by
  by_cases hd:c.den=1
  ·rw[q9m hd]
  ·rw[q5W hd]
   obtain⟨x,t,ex⟩:∃x t,tI c.num=x::t:=List.exists_cons_of_ne_nil (List.length_pos_iff.1 (qmm _))
   rw[ex];simp
 rw[e,qyD];exact hn
theorem qjA(s:List UInt8):(sat s 0=45)=(s.getD 0 0=45):=by
 unfold sat
 simp only[Int.toNat_zero,eq_iff_iff]
 exact⟨fun h=>UInt8.toNat_inj.1 (by show (s.getD 0 0).toNat=45;omega),fun h=>by rw[h];rfl⟩
structure RootOk (a b c:Rat):Prop where
 oa:okQ a
 ob:okQ b
 oc:okQ c
 x1:okL (a.num*b.den)
 x:okL (rX a b c)
 y:okL (rY a b)
 r:okL (rR c)
 xx:okL (rX a b c*rX a b c)
 yy:okL (rY a b*rY a b)
 yr:okL (rY a b*rY a b*rR c)
 d:okL (rX a b c*rX a b c-rY a b*rY a b*rR c)
theorem qx4{a b c:Rat}(h:RootOk a b c)(hc:0≤c):(q1l [.s (tQ a),.s (tQ b),.s (tQ c)]).run=some (0,[.i (qgz a b c),.i 0]):=by
 rw[qk7]
 have key:(q0P [.s (tQ a),.s (tQ b),.s (tQ c),.s [48],.s [48]]).run=some (0,[.i (qgz a b c),.i 0]):=by
  rw[qir]
  have o0:okQ 0:=qaQ.ok (by omega) (by omega)
  have hz:=qg9 o0
  rw[show tQ 0=[48] from rfl] at hz
  have hch:=qsE (l:=[tQ a,tQ b,tQ c,[48],[48]]) (by simp) (fun s hs=>by
   simp only[List.mem_cons,List.not_mem_nil,or_false] at hs
   rcases hs with rfl|rfl|rfl|rfl|rfl
   ·exact qg9 h.oa
   ·exact qg9 h.ob
   ·exact qg9 h.oc
   ·exact hz
   ·exact hz)
  have hch':(qX [.r [[.s (tQ a)],[.s (tQ b)],[.s (tQ c)],[.s [48]],[.s [48]]]]).run=some (0,[.i 0]):=hch
  have c0:=q95 o0
  rw[show tQ 0=[48] from rfl] at c0
  replace c0:(qR [.s [48]]).run=some (0,[.s [48],.s [49],.b false]):=c0
  have l1:(0:Int)<qu (tQ c):=by
   have h1:=qmJ c
   have h2:=qnI c
   unfold qu;omega
  have l2:(0:Int)<qu [48]:=by decide
  have n1:¬sat (tQ c) 0=45:=by rw[qjA];exact qCl hc
  have n2:¬sat [48] 0=45:=by decide
  have mx:=qth [a.num,b.den,c.den,1,1] ⟨q97,q4R h.oa,by rw[Int.one_mul];exact q4R h.oa,q0x h.ob,by rw[Int.one_mul];exact h.x1,q0x h.oc,by rw[Int.one_mul];exact h.x,q97,by rw[Int.one_mul,Int.mul_one];exact h.x,q97,by rw[Int.one_mul,Int.mul_one,Int.mul_one];exact h.x⟩ (by simp)
  have my:=qth [b.num,a.den,1,1] ⟨q97,q4R h.ob,by rw[Int.one_mul];exact q4R h.ob,q0x h.oa,by rw[Int.one_mul];exact h.y,q97,by rw[Int.one_mul,Int.mul_one];exact h.y,q97,by rw[Int.one_mul,Int.mul_one,Int.mul_one];exact h.y⟩ (by simp)
  have mr:=qcm (q4R h.oc) (q0x h.oc) h.r
  have mz:=qth [0,a.den,b.den,c.den] ⟨q97,q82,by rw[Int.mul_zero];exact q82,q0x h.oa,by simp only[Int.mul_zero];exact qwc _,q0x h.ob,by simp only[Int.mul_zero,Int.zero_mul];exact q82,q0x h.oc,by simp only[Int.mul_zero,Int.zero_mul];exact q82⟩ (by simp)
  have mt:=qcm (m:=0) (n:=1) q82 q97 (qwc _)
  simp only[prd,Int.one_mul,Int.mul_one,Int.zero_mul] at mx my mz mt
  have mx':(qg [.r [[.s (tI a.num)],[.s (tI (b.den:Int))],[.s (tI (c.den:Int))],[.s [49]],[.s [49]]],.i 0]).run=some (0,[.s (tI (rX a b c)),.i 0]):=mx
  have my':(qg [.r [[.s (tI b.num)],[.s (tI (a.den:Int))],[.s [49]],[.s [49]]],.i 0]).run=some (0,[.s (tI (rY a b)),.i 0]):=my
  have mr':(qg [.r [[.s (tI c.num)],[.s (tI (c.den:Int))]],.i 0]).run=some (0,[.s (tI (rR c)),.i 0]):=mr
  have mz':(qg [.r [[.s [48]],[.s (tI (a.den:Int))],[.s (tI (b.den:Int))],[.s (tI (c.den:Int))]],.i 0]).run=some (0,[.s (tI 0),.i 0]):=mz
  have mt':(qg [.r [[.s [48]],[.s [49]]],.i 0]).run=some (0,[.s (tI 0),.i 0]):=mt
  have hR:=qCa h.x h.y h.r h.xx h.yy h.yr h.d
  rw[←qzx] at hR
  have w1:uk .i64 (sgn 0) (sgn 0)=0:=by decide
  have w2:uk .i64 (qgz a b c) 0=0:=by rw[q19 (by rw[Int.mul_zero];omega),Int.mul_zero]
  by_cases h0:qgz a b c=0
  ·simp only[STD,hch',l1,l2,n1,n2,Int.le_refl,and_self,q95 h.oa,q95 h.ob,q95 h.oc,c0,mx',my',mr',mz',mt',hR,q7O q82,w1,h0,show uk .i64 0 0=0 from rfl]
  ·simp only[STD,hch',l1,l2,n1,n2,Int.le_refl,and_self,q95 h.oa,q95 h.ob,q95 h.oc,c0,mx',my',mr',mz',mt',hR,q7O q82,w1,w2,h0]
 simp only[STD,key]
theorem RootOk.of{N D N' D' R E:Nat}{a b c:Rat}(ha:bnd N D a)(hb:bnd N' D' b)(hc:bnd R E c)(h1:2*(N+D'+E)≤1023)(h2:2*(N'+D)+R+E≤1023):RootOk a b c:=by
 have q1:nl a.num≤N:=ha.1
 have q2:nl (a.den:Int)≤D:=ha.2
 have q3:nl b.num≤N':=hb.1
 have q4:nl (b.den:Int)≤D':=hb.2
 have q5:nl c.num≤R:=hc.1
 have q6:nl (c.den:Int)≤E:=hc.2
 have x1:=q48 a.num b.den
 have x2:=q48 (a.num*b.den) c.den
 have y1:=q48 b.num a.den
 have r1:=q48 c.num c.den
 have xx:=q48 (rX a b c) (rX a b c)
 have yy:=q48 (rY a b) (rY a b)
 have yr:=q48 (rY a b*rY a b) (rR c)
 have dd:=qzL (rX a b c*rX a b c) (rY a b*rY a b*rR c)
 have e1:nl (rX a b c)=nl (a.num*b.den*c.den):=rfl
 have e2:nl (rY a b)=nl (b.num*a.den):=rfl
 have e3:nl (rR c)=nl (c.num*c.den):=rfl
 have p1:=qmX a.num
 have p2:=qmX b.num
 have p3:=qmX c.num
 have p4:=qmX (a.den:Int)
 have p5:=qmX (b.den:Int)
 have p6:=qmX (c.den:Int)
 exact { oa:=⟨by show nl a.num≤1024;omega,by show nl (a.den:Int)≤1024;omega⟩,ob:=⟨by show nl b.num≤1024;omega,by show nl (b.den:Int)≤1024;omega⟩,oc:=⟨by show nl c.num≤1024;omega,by show nl (c.den:Int)≤1024;omega⟩,x1:=by unfold okL;omega,x:=by unfold okL;omega,y:=by unfold okL;omega,r:=by unfold okL;omega,xx:=by unfold okL;omega,yy:=by unfold okL;omega,yr:=by unfold okL;omega,d:=by unfold okL;omega }
end Go.Eng

namespace Go.Eng
theorem qy4{a b:Rat}{N D N' D':Nat}(ha:bnd N D a)(hb:bnd N' D' b)(h1:N+D'≤1023)(h2:N'+D≤1023)(h3:D+D'≤1024):(zQ [.s (tQ a),.s (tQ b),.i 0]).run=some (0,[.s (tQ (a+b)),.i 0]):=by
 rw[qkP]
 have:(wT [.s (tQ a),.s (tQ b),.i 0]).run=some (0,[.s (tQ (a+b)),.i 0]):=by
  rw[qai]
  simp only[STD,quF ha hb h1 h2 h3]
 simp only[STD,this]
theorem quu{a b:Rat}{N D N' D':Nat}(ha:bnd N D a)(hb:bnd N' D' b)(h1:N+D'≤1023)(h2:N'+D≤1023)(h3:D+D'≤1024):(zg [.s (tQ a),.s (tQ b),.i 0]).run=some (0,[.s (tQ (a-b)),.i 0]):=by
 rw[qk9]
 have:(wW [.s (tQ a),.s (tQ b),.i 0]).run=some (0,[.s (tQ (a-b)),.i 0]):=by
  rw[qac]
  simp only[STD,qun ha hb h1 h2 h3]
 simp only[STD,this]
theorem qsP{a b:Rat}{N D N' D':Nat}(ha:bnd N D a)(hb:bnd N' D' b)(h1:N+N'≤1024)(h2:D+D'≤1024):(z6 [.s (tQ a),.s (tQ b),.i 0]).run=some (0,[.s (tQ (a*b)),.i 0]):=by
 rw[qkH]
 have:(wY [.s (tQ a),.s (tQ b),.i 0]).run=some (0,[.s (tQ (a*b)),.i 0]):=by
  rw[qal]
  simp only[STD,qoi ha hb h1 h2]
 simp only[STD,this]
theorem qDS{a b:Rat}{N D N' D':Nat}(h0:b≠0)(ha:bnd N D a)(hb:bnd N' D' b)(h1:N+D'≤1024)(h2:D+N'≤1024):(zS [.s (tQ a),.s (tQ b),.i 0]).run=some (0,[.s (tQ (a/b)),.i 0]):=by
 rw[qae]
 simp only[STD,qui h0 ha hb h1 h2]
theorem qBi{ax ay bx by_:Rat}{N D N' D':Nat}(h1:bnd N D ax)(h2:bnd N D ay)(h3:bnd N' D' bx)(h4:bnd N' D' by_)(c1:N+D'≤1023)(c2:N'+D≤1023)(c3:D+D'≤1024) :
  (jv [.s (tQ ax),.s (tQ ay),.s (tQ bx),.s (tQ by_),.i 0]).run=some (0,[.s (tQ (ax-bx)),.s (tQ (ay-by_)),.i 0]):=by
 rw[qjp]
 simp only[STD,quu h1 h3 c1 c2 c3,quu h2 h4 c1 c2 c3]
theorem qAe{ax ay bx by_:Rat}{N D N' D':Nat}(h1:bnd N D ax)(h2:bnd N D ay)(h3:bnd N' D' bx)(h4:bnd N' D' by_)(c1:N+N'+(D+D')≤1023)(c2:D+D'+(D+D')≤1024) :
  (v7 [.s (tQ ax),.s (tQ ay),.s (tQ bx),.s (tQ by_),.i 0]).run=some (0,[.s (tQ (ax*bx+ay*by_)),.i 0]):=by
 rw[qkD]
 simp only[STD,qsP h1 h3 (by omega) (by omega),qsP h2 h4 (by omega) (by omega),qy4 (h1.mul h3) (h2.mul h4) (by omega) (by omega) (by omega)]
theorem qrw{ax ay bx by_:Rat}{N D N' D':Nat}(h1:bnd N D ax)(h2:bnd N D ay)(h3:bnd N' D' bx)(h4:bnd N' D' by_):bnd (N+N'+(D+D')+1) (D+D'+(D+D')) (ax*bx+ay*by_):=
 (h1.mul h3).add (h2.mul h4) (by omega) (by omega)
def q58(ax ay bx by_:Rat):Rat:=(ax-bx)*(ax-bx)+(ay-by_)*(ay-by_)
theorem qaw{a b:Rat}(ha:bnd 12 10 a)(hb:bnd 12 10 b):bnd 23 20 (a-b):=ha.sub hb (by omega) (by omega)
theorem qqp{ax ay bx by_:Rat}(h1:bnd 12 10 ax)(h2:bnd 12 10 ay)(h3:bnd 12 10 bx)(h4:bnd 12 10 by_):bnd 87 80 (q58 ax ay bx by_):=
 qrw (qaw h1 h3) (qaw h2 h4) (qaw h1 h3) (qaw h2 h4)
structure DQ where
 x:Rat
 y:Rat
 s:Rat
def DQ.sh(d:DQ):Prop:=bnd 12 10 d.x∧bnd 12 10 d.y∧bnd 13 10 d.s
def qEj(a b:DQ)(k:Rat):Int:=qgz (q58 a.x a.y b.x b.y-(a.s+b.s)) k (a.s*b.s)
theorem qDa{a b c:Rat}(h:RootOk a b c)(hc:0≤c):(q0l [.s (tQ a),.s (tQ b),.s (tQ c),.i 0]).run=some (0,[.i (qgz a b c),.i 0]):=by
 rw[qjk]
 simp only[STD,qx4 h hc]
theorem qx7(a:Rat):qgz a 0 0=sgq a:=by
 unfold qgz
 rw[show sgq 0=0 from rfl,Int.mul_zero,Int.mul_zero,if_pos (by omega)]
 split
 ·rename_i h;rw[h]
 ·rfl
theorem qBe:tQ 2=[50]:=qAM 2
def qA2(a b:DQ):Prop:=a.s≤b.s∧qEj a b 2≤0
instance (a b:DQ):Decidable (qA2 a b):=by unfold qA2;infer_instance
def shT(s:List UInt8):Prop:=s.length≤12
noncomputable def qCs(x y s:List UInt8):Int:=if qoz x≠0 then qoz x else if qoz y≠0 then qoz y else if qoz s≠0 then qoz s else if s.getD 0 0=45 then 2 else 0
theorem qE2{S:List PV→TR}{st:Nat→List PV}{e0 e1 e2:Int}{fin:List PV}
  (h0:(S (st 0)).run=if e0=0 then some (0,st 1) else some (2,[.i e0])) (h1:(S (st 1)).run=if e1=0 then some (0,st 2) else some (2,[.i e1])) (h2:(S (st 2)).run=if e2=0 then some (0,st 3) else some (2,[.i e2]))
  (h3:(S (st 3)).run=some (1,fin)):(qh S (st 0)).run=some (if e0≠0 then (1,[.i e0]) else if e1≠0 then (1,[.i e1]) else if e2≠0 then (1,[.i e2]) else (0,fin)):=by
 have hr:∃m,qfB=m+4:=⟨qfB-4,by unfold qfB;omega⟩
 obtain⟨m,hm⟩:=hr
 unfold qh
 rw[hm]
 by_cases c0:e0=0
 ·rw[if_pos c0] at h0
  rw[qg7 h0]
  by_cases c1:e1=0
  ·rw[if_pos c1] at h1
   rw[qg7 h1]
   by_cases c2:e2=0
   ·rw[if_pos c2] at h2
    rw[qg7 h2,q7a h3]
    simp[c0,c1,c2]
   ·rw[if_neg c2] at h2
    rw[q7a h2]
    simp[c0,c1,c2]
  ·rw[if_neg c1] at h1
   rw[q7a h1]
   simp[c0,c1]
 ·rw[if_neg c0] at h0
  rw[q7a h0]
  simp[c0]
theorem qqW(x y s:List UInt8)(h1:x.length≤1000000)(h2:y.length≤1000000)(h3:s.length≤1000000):(q2W [.s x,.s y,.s s]).run=some (0,[.i (qCs x y s)]):=by
  rw[qoR]
  have c0:=q8Q x (by omega)
  have c1:=q8Q y (by omega)
  have c2:=q8Q s (by omega)
  have d0:cS [[.s x],[.s y],[.s s]] 0 0=x:=rfl
  have d1:cS [[.s x],[.s y],[.s s]] 1 0=y:=rfl
  have d2:cS [[.s x],[.s y],[.s s]] 2 0=s:=rfl
  have d3:qf [[U.s x],[U.s y],[U.s s]]=3:=rfl
  have w0:qj .i64 0 1=1:=by decide
  have w1:qj .i64 1 1=2:=by decide
  have w2:qj .i64 2 1=3:=by decide
  have key:=qE2 (S:=q2e) (st:=fun i=>[.i 3,.i (i:Int),.s x,.s y,.s s,.r [[.s x],[.s y],[.s s]]]) (e0:=qoz x) (e1:=qoz y) (e2:=qoz s) (fin:=[.s x,.s y,.s s])
    (by rw [q4s]; simp only [show (((0 : Nat)) : Int) = 0 from rfl, show (((1 : Nat)) : Int) = 1 from rfl, d0, d3]
        by_cases c:qoz x=0
        · simp only[STD,c0,c,w0,show (0:Int)<3 by omega,Int.le_refl,and_self]
        · simp only[STD,c0,c,show (0:Int)<3 by omega,Int.le_refl,and_self])
    (by rw [q4s]; simp only [show (((1 : Nat)) : Int) = 1 from rfl, show (((2 : Nat)) : Int) = 2 from rfl, d1, d3]
        by_cases c:qoz y=0
        · simp only[STD,c1,c,w1,show (1:Int)<3 by omega,show (0:Int)≤1 by omega,and_self]
        · simp only[STD,c1,c,show (1:Int)<3 by omega,show (0:Int)≤1 by omega,and_self])
    (by rw [q4s]; simp only [show (((2 : Nat)) : Int) = 2 from rfl, show (((3 : Nat)) : Int) = 3 from rfl, d2, d3]
        by_cases c:qoz s=0
        · simp only[STD,c2,c,w2,show (2:Int)<3 by omega,show (0:Int)≤2 by omega,and_self]
        · simp only[STD,c2,c,show (2:Int)<3 by omega,show (0:Int)≤2 by omega,and_self])
    (by rw[q4s];simp only[show (((3:Nat)):Int)=3 from rfl];simp only[STD,show ¬(3:Int)<3 by omega])
  simp only[show (((0:Nat)):Int)=0 from rfl] at key
  unfold qCs
  rw[d3]
  by_cases e0:qoz x=0
  · by_cases e1:qoz y=0
    · by_cases e2:qoz s=0
      · simp only[e0,e1,e2,ne_eq,not_true,if_false] at key ⊢
        obtain⟨q,hq,_⟩:=qBT e2
        have hl:(0:Int)<qu s:=by
          have h1:=qmJ q
          have h2:=qnI q
          rw[hq];unfold qu;omega
        by_cases hm:s.getD 0 0=45
        · simp only[STD,key,zk key,Int.le_refl,hl,and_self,qjA,hm]
        · simp only[STD,key,zk key,Int.le_refl,hl,and_self,qjA,hm]
      · simp only[e0,e1,e2,ne_eq,not_true,not_false_eq_true,if_false,if_true] at key ⊢
        simp only[STD,key,zk key,show ¬(1=0) by omega]
    · simp only[e0,e1,ne_eq,not_true,not_false_eq_true,if_false,if_true] at key ⊢
      simp only[STD,key,zk key,show ¬(1=0) by omega]
  · simp only[e0,ne_eq,not_false_eq_true,if_true] at key ⊢
    simp only[STD,key,zk key,show ¬(1=0) by omega]
theorem qC9{d:DQ}(h1:okQ d.x)(h2:okQ d.y)(h3:okQ d.s)(h:0≤d.s):qCs (tQ d.x) (tQ d.y) (tQ d.s)=0:=by
 unfold qCs
 rw[qqi h1,qqi h2,qqi h3]
 have:=qCl h
 rw[if_neg (by simp),if_neg (by simp),if_neg (by simp),if_neg this]
end Go.Eng

namespace Go.Eng
def Bd(C e:Nat)(x:Int):Prop:=x.natAbs≤C*10^e
theorem Bd.mul{C e C' e':Nat}{x y:Int}(h:Bd C e x)(h':Bd C' e' y):Bd (C*C') (e+e') (x*y):=by
 unfold Bd at *
 rw[Int.natAbs_mul,Nat.pow_add]
 have:=Nat.mul_le_mul h h'
 have e1:C*10^e*(C'*10^e')=C*C'*(10^e*10^e'):=by
  rw[Nat.mul_mul_mul_comm]
 omega
theorem Bd.mono{C e C' e':Nat}{x:Int}(h:Bd C e x)(hC:C≤C')(he:e≤e'):Bd C' e' x:=by
 unfold Bd at *
 exact Nat.le_trans h (Nat.mul_le_mul hC (Nat.pow_le_pow_right (by omega) he))
theorem Bd.add{C C' e:Nat}{x y:Int}(h:Bd C e x)(h':Bd C' e y):Bd (C+C') e (x+y):=by
 unfold Bd at *
 rw[Nat.add_mul]
 have:=Int.natAbs_add_le x y
 omega
theorem Bd.neg{C e:Nat}{x:Int}(h:Bd C e x):Bd C e (-x):=by unfold Bd at *;rw[Int.natAbs_neg];exact h
theorem Bd.sub{C C' e:Nat}{x y:Int}(h:Bd C e x)(h':Bd C' e y):Bd (C+C') e (x-y):=by
 rw[Int.sub_eq_add_neg];exact h.add h'.neg
theorem Bd.okL{C e k:Nat}{x:Int}(h:Bd C e x)(hC:C≤10^k)(he:k+e≤1023)(hne:0<e+k):okL x:=by
 unfold Go.Eng.okL nl
 unfold Bd at h
 have h1:C*10^e≤10^k*10^e:=Nat.mul_le_mul_right _ hC
 rw[←Nat.pow_add] at h1
 have h2:(10:Nat)^(k+e)<10^(k+e+1):=Nat.pow_lt_pow_right (by omega) (by omega)
 have:=q5f (k+e) x.natAbs (by omega)
 omega
structure Wt (h v:Nat) (q:Rat):Prop where
 n:Bd 1 h q.num
 d:Bd 1 v (q.den:Int)
 dh:Bd 1 h (q.den:Int)
theorem qmh{q:Rat}{P M:Int}(hM:M≠0)(h:q*(M:Rat)=(P:Rat)):q.num.natAbs≤P.natAbs∧q.den≤M.natAbs:=by
 have hM':(M:Rat)≠0:=by
  intro e
  exact hM (Rat.intCast_inj.1 (e.trans (by simp)))
 have e:q=Rat.divInt P M:=by
  rw[Rat.divInt_eq_div,←h]
  exact(Rat.mul_div_cancel hM').symm
 rw[e]
 constructor
 ·rw[Rat.num_divInt]
  refine Nat.le_trans (Int.natAbs_ediv_le_natAbs _ _) ?_
  rw[Int.natAbs_mul,Int.natAbs_sign_of_ne_zero hM];omega
 ·rw[Rat.den_divInt,if_neg hM]
  exact Nat.div_le_self _ _
structure SQ where
 fx:Rat
 fy:Rat
 ax:Rat
 ay:Rat
 h:Rat
def qm(a b:DQ)(neg:Bool):SQ:=
 let dx:=b.x-a.x
 let dy:=b.y-a.y
 let far:=dx*dx+dy*dy
 let t:=(far+a.s-b.s)/(2*far)
 ⟨a.x+t*dx,a.y+t*dy,if neg then dy else 0-dy,if neg then 0-dx else dx,a.s/far-t*t⟩
def kA(d:DQ)(p:SQ):Rat:=(p.fx-d.x)*(p.fx-d.x)+(p.fy-d.y)*(p.fy-d.y)+p.h*(p.ax*p.ax+p.ay*p.ay)-d.s
def kB(d:DQ)(p:SQ):Rat:=2*((p.fx-d.x)*p.ax+(p.fy-d.y)*p.ay)
def q1o(d:DQ)(p:SQ):Prop:=qgz (kA d p) (kB d p) p.h≤0
instance (d:DQ) (p:SQ):Decidable (q1o d p):=by unfold q1o;infer_instance
section
variable (a1 p1 b1 q1 c1 r1 a2 p2 b2 q2 c2 r2 a3 p3 b3 q3 c3 r3:Int)
def iU:Int:=a2*p1-a1*p2
def iN:Int:=iU a1 p1 a2 p2*iU a1 p1 a2 p2*((q1*q2)*(q1*q2))+iU b1 q1 b2 q2*iU b1 q1 b2 q2*((p1*p2)*(p1*p2))
def iD:Int:=(p1*p2*(q1*q2))*(p1*p2*(q1*q2))
def iT:Int:=iN a1 p1 b1 q1 a2 p2 b2 q2*(r1*r2)+(c1*r2-c2*r1)*iD p1 q1 p2 q2
def iE:Int:=a1*p3-a3*p1
def iG:Int:=iE a1 p1 a3 p3*iE a1 p1 a3 p3*((q1*q3)*(q1*q3))+iE b1 q1 b3 q3*iE b1 q1 b3 q3*((p1*p3)*(p1*p3))
def iH:Int:=iE a1 p1 a3 p3*iU a1 p1 a2 p2*((q1*q1)*(q2*q3))+iE b1 q1 b3 q3*iU b1 q1 b2 q2*((p1*p1)*(p2*p3))
def iSq:Int:=((p1*q1)*(p3*q3))*((p1*q1)*(p3*q3))
def iA:Int:=iG a1 p1 b1 q1 a3 p3 b3 q3*iN a1 p1 b1 q1 a2 p2 b2 q2*(r1*r2*r3)*(p2*q2)+iT a1 p1 b1 q1 c1 r1 a2 p2 b2 q2 c2 r2*iH a1 p1 b1 q1 a2 p2 b2 q2 a3 p3 b3 q3*r3*(p3*q3)
 + c1*iN a1 p1 b1 q1 a2 p2 b2 q2*(r2*r3)*iSq p1 q1 p3 q3*(p2*q2)-c3*iN a1 p1 b1 q1 a2 p2 b2 q2*(r1*r2)*iSq p1 q1 p3 q3*(p2*q2)
def iM:Int:=iN a1 p1 b1 q1 a2 p2 b2 q2*(r1*r2*r3)*iSq p1 q1 p3 q3*(p2*q2)
def iK:Int:=2*(iE b1 q1 b3 q3*iU a1 p1 a2 p2*(p3*q2)-iE a1 p1 a3 p3*iU b1 q1 b2 q2*(q3*p2))
def iQ:Int:=(p1*p2*p3)*(q1*q2*q3)
def iCn:Int:=4*(c1*iD p1 q1 p2 q2*iN a1 p1 b1 q1 a2 p2 b2 q2*r1*(r2*r2))-iT a1 p1 b1 q1 c1 r1 a2 p2 b2 q2 c2 r2*iT a1 p1 b1 q1 c1 r1 a2 p2 b2 q2 c2 r2
def iCd:Int:=4*(iN a1 p1 b1 q1 a2 p2 b2 q2*iN a1 p1 b1 q1 a2 p2 b2 q2)*((r1*r2)*(r1*r2))
end
section
variable {a1 p1 b1 q1 c1 r1 a2 p2 b2 q2 c2 r2 a3 p3 b3 q3 c3 r3:Int} {hx1 hy1 hs1 hx2 hy2 hs2 hx3 hy3 hs3 vx1 vy1 vs1 vx2 vy2 vs2 vx3 vy3 vs3:Nat}
theorem bU(h1:Bd 1 hx1 a1)(h2:Bd 1 hx1 p1)(h3:Bd 1 hx2 a2)(h4:Bd 1 hx2 p2):Bd 2 (hx1+hx2) (iU a1 p1 a2 p2):=
 ((h3.mul h2).mono (Nat.le_refl _) (by omega)).sub (h1.mul h4)
theorem bE(h1:Bd 1 hx1 a1)(h2:Bd 1 hx1 p1)(h3:Bd 1 hx3 a3)(h4:Bd 1 hx3 p3):Bd 2 (hx1+hx3) (iE a1 p1 a3 p3):=
 (h1.mul h4).sub ((h3.mul h2).mono (Nat.le_refl _) (by omega))
theorem bN(x1:Bd 1 hx1 a1)(x1':Bd 1 hx1 p1)(y1:Bd 1 hy1 b1)(y1':Bd 1 hy1 q1)(x2:Bd 1 hx2 a2)(x2':Bd 1 hx2 p2)(y2:Bd 1 hy2 b2)(y2':Bd 1 hy2 q2) :
  Bd 8 (2*(hx1+hx2+hy1+hy2)) (iN a1 p1 b1 q1 a2 p2 b2 q2):=by
 have u:=bU x1 x1' x2 x2'
 have v:=bU y1 y1' y2 y2'
 have qq:=y1'.mul y2'
 have pp:=x1'.mul x2'
 exact(((u.mul u).mul (qq.mul qq)).mono (C':=4) (by omega) (by omega)).add (((v.mul v).mul (pp.mul pp)).mono (C':=4) (by omega) (by omega))
theorem bD(x1':Bd 1 hx1 p1)(y1':Bd 1 hy1 q1)(x2':Bd 1 hx2 p2)(y2':Bd 1 hy2 q2):Bd 1 (2*(hx1+hx2+hy1+hy2)) (iD p1 q1 p2 q2):=by
 have z:=(x1'.mul x2').mul (y1'.mul y2')
 exact(z.mul z).mono (by omega) (by omega)
theorem bT(x1:Bd 1 hx1 a1)(x1':Bd 1 hx1 p1)(y1:Bd 1 hy1 b1)(y1':Bd 1 hy1 q1)(x2:Bd 1 hx2 a2)(x2':Bd 1 hx2 p2)(y2:Bd 1 hy2 b2)(y2':Bd 1 hy2 q2)
  (s1:Bd 1 hs1 c1) (s1':Bd 1 hs1 r1) (s2:Bd 1 hs2 c2) (s2':Bd 1 hs2 r2):Bd 10 (2*(hx1+hx2+hy1+hy2)+hs1+hs2) (iT a1 p1 b1 q1 c1 r1 a2 p2 b2 q2 c2 r2):=by
 have n:=bN x1 x1' y1 y1' x2 x2' y2 y2'
 have d:=bD x1' y1' x2' y2'
 have s:=(s1.mul s2').sub ((s2.mul s1').mono (Nat.le_refl _) (by omega))
 exact((n.mul (s1'.mul s2')).mono (C':=8) (by omega) (by omega)).add ((s.mul d).mono (C':=2) (by omega) (by omega))
theorem bG(x1:Bd 1 hx1 a1)(x1':Bd 1 hx1 p1)(y1:Bd 1 hy1 b1)(y1':Bd 1 hy1 q1)(x3:Bd 1 hx3 a3)(x3':Bd 1 hx3 p3)(y3:Bd 1 hy3 b3)(y3':Bd 1 hy3 q3) :
  Bd 8 (2*(hx1+hx3+hy1+hy3)) (iG a1 p1 b1 q1 a3 p3 b3 q3):=by
 have u:=bE x1 x1' x3 x3'
 have v:=bE y1 y1' y3 y3'
 have qq:=y1'.mul y3'
 have pp:=x1'.mul x3'
 exact(((u.mul u).mul (qq.mul qq)).mono (C':=4) (by omega) (by omega)).add (((v.mul v).mul (pp.mul pp)).mono (C':=4) (by omega) (by omega))
theorem bH(x1:Bd 1 hx1 a1)(x1':Bd 1 hx1 p1)(y1:Bd 1 hy1 b1)(y1':Bd 1 hy1 q1)(x2:Bd 1 hx2 a2)(x2':Bd 1 hx2 p2)(y2:Bd 1 hy2 b2)(y2':Bd 1 hy2 q2)
  (x3:Bd 1 hx3 a3) (x3':Bd 1 hx3 p3) (y3:Bd 1 hy3 b3) (y3':Bd 1 hy3 q3):Bd 8 (2*hx1+hx2+hx3+2*hy1+hy2+hy3) (iH a1 p1 b1 q1 a2 p2 b2 q2 a3 p3 b3 q3):=by
 have u:=bU x1 x1' x2 x2'
 have v:=bU y1 y1' y2 y2'
 have e:=bE x1 x1' x3 x3'
 have f:=bE y1 y1' y3 y3'
 exact(((e.mul u).mul ((y1'.mul y1').mul (y2'.mul y3'))).mono (C':=4) (by omega) (by omega)).add (((f.mul v).mul ((x1'.mul x1').mul (x2'.mul x3'))).mono (C':=4) (by omega) (by omega))
theorem bSq(x1':Bd 1 hx1 p1)(y1':Bd 1 hy1 q1)(x3':Bd 1 hx3 p3)(y3':Bd 1 hy3 q3):Bd 1 (2*(hx1+hx3+hy1+hy3)) (iSq p1 q1 p3 q3):=by
 have z:=(x1'.mul y1').mul (x3'.mul y3')
 exact(z.mul z).mono (by omega) (by omega)
theorem bA(x1:Bd 1 hx1 a1)(x1':Bd 1 hx1 p1)(y1:Bd 1 hy1 b1)(y1':Bd 1 hy1 q1)(x2:Bd 1 hx2 a2)(x2':Bd 1 hx2 p2)(y2:Bd 1 hy2 b2)(y2':Bd 1 hy2 q2)
  (x3:Bd 1 hx3 a3) (x3':Bd 1 hx3 p3) (y3:Bd 1 hy3 b3) (y3':Bd 1 hy3 q3) (s1:Bd 1 hs1 c1) (s1':Bd 1 hs1 r1) (s2:Bd 1 hs2 c2) (s2':Bd 1 hs2 r2) (s3:Bd 1 hs3 c3) (s3':Bd 1 hs3 r3) :
  Bd 160 (4*hx1+3*hx2+2*hx3+4*hy1+3*hy2+2*hy3+hs1+hs2+hs3) (iA a1 p1 b1 q1 c1 r1 a2 p2 b2 q2 c2 r2 a3 p3 b3 q3 c3 r3):=by
 have g:=bG x1 x1' y1 y1' x3 x3' y3 y3'
 have n:=bN x1 x1' y1 y1' x2 x2' y2 y2'
 have t:=bT x1 x1' y1 y1' x2 x2' y2 y2' s1 s1' s2 s2'
 have h:=bH x1 x1' y1 y1' x2 x2' y2 y2' x3 x3' y3 y3'
 have sq:=bSq x1' y1' x3' y3'
 have k1:=(((g.mul n).mul ((s1'.mul s2').mul s3')).mul (x2'.mul y2')).mono (C':=64) (e':=4*hx1+3*hx2+2*hx3+4*hy1+3*hy2+2*hy3+hs1+hs2+hs3) (by omega) (by omega)
 have k2:=(((t.mul h).mul s3').mul (x3'.mul y3')).mono (C':=80) (e':=4*hx1+3*hx2+2*hx3+4*hy1+3*hy2+2*hy3+hs1+hs2+hs3) (by omega) (by omega)
 have k3:=((((s1.mul n).mul (s2'.mul s3')).mul sq).mul (x2'.mul y2')).mono (C':=8) (e':=4*hx1+3*hx2+2*hx3+4*hy1+3*hy2+2*hy3+hs1+hs2+hs3) (by omega) (by omega)
 have k4:=((((s3.mul n).mul (s1'.mul s2')).mul sq).mul (x2'.mul y2')).mono (C':=8) (e':=4*hx1+3*hx2+2*hx3+4*hy1+3*hy2+2*hy3+hs1+hs2+hs3) (by omega) (by omega)
 exact((k1.add k2).add k3).sub k4
theorem bM(x1:Bd 1 hx1 a1)(x1':Bd 1 hx1 p1)(y1:Bd 1 hy1 b1)(y1':Bd 1 hy1 q1)(x2:Bd 1 hx2 a2)(x2':Bd 1 hx2 p2)(y2:Bd 1 hy2 b2)(y2':Bd 1 hy2 q2)
  (wx1:Bd 1 vx1 p1) (wy1:Bd 1 vy1 q1) (wx2:Bd 1 vx2 p2) (wy2:Bd 1 vy2 q2) (wx3:Bd 1 vx3 p3) (wy3:Bd 1 vy3 q3) (ws1:Bd 1 vs1 r1) (ws2:Bd 1 vs2 r2) (ws3:Bd 1 vs3 r3) :
  Bd 8 (2*(hx1+hx2+hy1+hy2)+(vs1+vs2+vs3)+2*(vx1+vx3+vy1+vy3)+(vx2+vy2)) (iM a1 p1 b1 q1 r1 a2 p2 b2 q2 r2 p3 q3 r3):=by
 have n:=bN x1 x1' y1 y1' x2 x2' y2 y2'
 have sq:=bSq wx1 wy1 wx3 wy3
 exact(((n.mul ((ws1.mul ws2).mul ws3)).mul sq).mul (wx2.mul wy2)).mono (by omega) (by omega)
theorem bK(x1:Bd 1 hx1 a1)(x1':Bd 1 hx1 p1)(y1:Bd 1 hy1 b1)(y1':Bd 1 hy1 q1)(x2:Bd 1 hx2 a2)(x2':Bd 1 hx2 p2)(y2:Bd 1 hy2 b2)(y2':Bd 1 hy2 q2)
  (x3:Bd 1 hx3 a3) (x3':Bd 1 hx3 p3) (y3:Bd 1 hy3 b3) (y3':Bd 1 hy3 q3):Bd 16 (hx1+hx2+hx3+hy1+hy2+hy3) (iK a1 p1 b1 q1 a2 p2 b2 q2 a3 p3 b3 q3):=by
 have u:=bU x1 x1' x2 x2'
 have v:=bU y1 y1' y2 y2'
 have e:=bE x1 x1' x3 x3'
 have f:=bE y1 y1' y3 y3'
 have two:Bd 2 0 2:=by unfold Bd;decide
 have k1:=((f.mul u).mul (x3'.mul y2')).mono (C':=4) (e':=hx1+hx2+hx3+hy1+hy2+hy3) (by omega) (by omega)
 have k2:=((e.mul v).mul (y3'.mul x2')).mono (C':=4) (e':=hx1+hx2+hx3+hy1+hy2+hy3) (by omega) (by omega)
 exact(two.mul (k1.sub k2)).mono (by omega) (by omega)
theorem bQ(wx1:Bd 1 vx1 p1)(wy1:Bd 1 vy1 q1)(wx2:Bd 1 vx2 p2)(wy2:Bd 1 vy2 q2)(wx3:Bd 1 vx3 p3)(wy3:Bd 1 vy3 q3):Bd 1 (vx1+vx2+vx3+(vy1+vy2+vy3)) (iQ p1 q1 p2 q2 p3 q3):=
 (((wx1.mul wx2).mul wx3).mul ((wy1.mul wy2).mul wy3)).mono (by omega) (by omega)
theorem bCn(x1:Bd 1 hx1 a1)(x1':Bd 1 hx1 p1)(y1:Bd 1 hy1 b1)(y1':Bd 1 hy1 q1)(x2:Bd 1 hx2 a2)(x2':Bd 1 hx2 p2)(y2:Bd 1 hy2 b2)(y2':Bd 1 hy2 q2)
  (s1:Bd 1 hs1 c1) (s1':Bd 1 hs1 r1) (s2:Bd 1 hs2 c2) (s2':Bd 1 hs2 r2):Bd 132 (4*(hx1+hx2+hy1+hy2)+2*hs1+2*hs2) (iCn a1 p1 b1 q1 c1 r1 a2 p2 b2 q2 c2 r2):=by
 have n:=bN x1 x1' y1 y1' x2 x2' y2 y2'
 have d:=bD x1' y1' x2' y2'
 have t:=bT x1 x1' y1 y1' x2 x2' y2 y2' s1 s1' s2 s2'
 have four:Bd 4 0 4:=by unfold Bd;decide
 have k1:=(four.mul ((((s1.mul d).mul n).mul s1').mul (s2'.mul s2'))).mono (C':=32) (e':=4*(hx1+hx2+hy1+hy2)+2*hs1+2*hs2) (by omega) (by omega)
 have k2:=(t.mul t).mono (C':=100) (e':=4*(hx1+hx2+hy1+hy2)+2*hs1+2*hs2) (by omega) (by omega)
 exact k1.sub k2
theorem bCd(x1:Bd 1 hx1 a1)(x1':Bd 1 hx1 p1)(y1:Bd 1 hy1 b1)(y1':Bd 1 hy1 q1)(x2:Bd 1 hx2 a2)(x2':Bd 1 hx2 p2)(y2:Bd 1 hy2 b2)(y2':Bd 1 hy2 q2)
  (ws1:Bd 1 vs1 r1) (ws2:Bd 1 vs2 r2):Bd 256 (4*(hx1+hx2+hy1+hy2)+2*vs1+2*vs2) (iCd a1 p1 b1 q1 r1 a2 p2 b2 q2 r2):=by
 have n:=bN x1 x1' y1 y1' x2 x2' y2 y2'
 have four:Bd 4 0 4:=by unfold Bd;decide
 exact((four.mul (n.mul n)).mul ((ws1.mul ws2).mul (ws1.mul ws2))).mono (by omega) (by omega)
end
section
variable (a b d:DQ)
theorem qvH(q:Rat):(q.den:Rat)≠0:=by have:=q37 q;grind
theorem qul(neg:Bool)(hf:(b.x-a.x)*(b.x-a.x)+(b.y-a.y)*(b.y-a.y)≠0) :
  kA d (qm a b neg)*((iM a.x.num a.x.den a.y.num a.y.den a.s.den b.x.num b.x.den b.y.num b.y.den b.s.den d.x.den d.y.den d.s.den:Int):Rat)=((iA a.x.num a.x.den a.y.num a.y.den a.s.num a.s.den b.x.num b.x.den b.y.num b.y.den b.s.num b.s.den d.x.num d.x.den d.y.num d.y.den d.s.num d.s.den:Int):Rat) ∧
  kB d (qm a b neg)*((iQ a.x.den a.y.den b.x.den b.y.den d.x.den d.y.den:Int):Rat)=(((if neg then -1 else 1)*iK a.x.num a.x.den a.y.num a.y.den b.x.num b.x.den b.y.num b.y.den d.x.num d.x.den d.y.num d.y.den:Int):Rat) ∧
  (qm a b neg).h*((iCd a.x.num a.x.den a.y.num a.y.den a.s.den b.x.num b.x.den b.y.num b.y.den b.s.den:Int):Rat)=((iCn a.x.num a.x.den a.y.num a.y.den a.s.num a.s.den b.x.num b.x.den b.y.num b.y.den b.s.num b.s.den:Int):Rat) ∧
  iN a.x.num a.x.den a.y.num a.y.den b.x.num b.x.den b.y.num b.y.den≠0:=by
 obtain⟨far,hfar⟩:∃far,far=(b.x-a.x)*(b.x-a.x)+(b.y-a.y)*(b.y-a.y):=⟨_,rfl⟩
 obtain⟨t,ht⟩:∃t,t=(far+a.s-b.s)/(2*far):=⟨_,rfl⟩
 obtain⟨h,hh⟩:∃h,h=a.s/far-t*t:=⟨_,rfl⟩
 rw[←hfar] at hf
 have h2f:2*far≠0:=by grind
 have ht':2*far*t=far+a.s-b.s:=by
  rw[ht,Rat.mul_comm];exact Rat.div_mul_cancel h2f
 have hh':far*h=a.s-far*(t*t):=by
  have:a.s/far*far=a.s:=Rat.div_mul_cancel hf
  rw[hh];grind
 have hc:qm a b neg=⟨a.x+t*(b.x-a.x),a.y+t*(b.y-a.y),if neg then b.y-a.y else 0-(b.y-a.y),if neg then 0-(b.x-a.x) else b.x-a.x,h⟩:=by
  rw[hh,ht,hfar];rfl
 rw[hc]
 have nx1:=qee a.x
 have ny1:=qee a.y
 have ns1:=qee a.s
 have nx2:=qee b.x
 have ny2:=qee b.y
 have ns2:=qee b.s
 have nx3:=qee d.x
 have ny3:=qee d.y
 have ns3:=qee d.s
 have px1:=qvH a.x
 have py1:=qvH a.y
 have px2:=qvH b.x
 have py2:=qvH b.y
 obtain⟨x1,y1,s1⟩:=a
 obtain⟨x2,y2,s2⟩:=b
 obtain⟨x3,y3,s3⟩:=d
 simp only at *
 have hU:((iU x1.num x1.den x2.num x2.den:Int):Rat)=(x2-x1)*((x1.den:Rat)*x2.den):=by
  unfold iU;simp only[Rat.intCast_sub,Rat.intCast_mul,Rat.intCast_natCast,nx1,nx2];grind
 have hV:((iU y1.num y1.den y2.num y2.den:Int):Rat)=(y2-y1)*((y1.den:Rat)*y2.den):=by
  unfold iU;simp only[Rat.intCast_sub,Rat.intCast_mul,Rat.intCast_natCast,ny1,ny2];grind
 have hE:((iE x1.num x1.den x3.num x3.den:Int):Rat)=(x1-x3)*((x1.den:Rat)*x3.den):=by
  unfold iE;simp only[Rat.intCast_sub,Rat.intCast_mul,Rat.intCast_natCast,nx1,nx3];grind
 have hF:((iE y1.num y1.den y3.num y3.den:Int):Rat)=(y1-y3)*((y1.den:Rat)*y3.den):=by
  unfold iE;simp only[Rat.intCast_sub,Rat.intCast_mul,Rat.intCast_natCast,ny1,ny3];grind
 have hD:((iD x1.den y1.den x2.den y2.den:Int):Rat)=((x1.den:Rat)*x2.den*(y1.den*y2.den))*((x1.den:Rat)*x2.den*(y1.den*y2.den)):=by
  unfold iD;simp only[Rat.intCast_mul,Rat.intCast_natCast]
 have hN:((iN x1.num x1.den y1.num y1.den x2.num x2.den y2.num y2.den:Int):Rat)=far*(((x1.den:Rat)*x2.den*(y1.den*y2.den))*((x1.den:Rat)*x2.den*(y1.den*y2.den))):=by
  unfold iN;simp only[Rat.intCast_add,Rat.intCast_mul,Rat.intCast_natCast,hU,hV,hfar];grind
 have hN0:iN x1.num x1.den y1.num y1.den x2.num x2.den y2.num y2.den≠0:=by
  intro e
  rw[e] at hN
  have h1:(x1.den:Rat)*x2.den*(y1.den*y2.den)≠0:=by
   have:=Rat.mul_pos (Rat.mul_pos (q37 x1) (q37 x2)) (Rat.mul_pos (q37 y1) (q37 y2))
   grind
  have h2:far*(((x1.den:Rat)*x2.den*(y1.den*y2.den))*((x1.den:Rat)*x2.den*(y1.den*y2.den)))=0:=by rw[←hN];simp
  rcases Rat.mul_eq_zero.1 h2 with h3|h3
  ·exact hf h3
  ·rcases Rat.mul_eq_zero.1 h3 with h4|h4<;>exact h1 h4
 have hT:((iT x1.num x1.den y1.num y1.den s1.num s1.den x2.num x2.den y2.num y2.den s2.num s2.den:Int):Rat)=2*t*far*(((x1.den:Rat)*x2.den*(y1.den*y2.den))*((x1.den:Rat)*x2.den*(y1.den*y2.den)))*((s1.den:Rat)*s2.den):=by
  unfold iT;simp only[Rat.intCast_add,Rat.intCast_sub,Rat.intCast_mul,Rat.intCast_natCast,hN,hD,ns1,ns2]
  generalize ((x1.den:Rat)*x2.den*(y1.den*y2.den))*((x1.den:Rat)*x2.den*(y1.den*y2.den))=D2
  have:2*t*far*D2*((s1.den:Rat)*s2.den)=(2*far*t)*(D2*((s1.den:Rat)*s2.den)):=by grind
  rw[this,ht'];grind
 have hG:((iG x1.num x1.den y1.num y1.den x3.num x3.den y3.num y3.den:Int):Rat)=((x1-x3)*(x1-x3)+(y1-y3)*(y1-y3))*(((x1.den:Rat)*y1.den*(x3.den*y3.den))*((x1.den:Rat)*y1.den*(x3.den*y3.den))):=by
  unfold iG;simp only[Rat.intCast_add,Rat.intCast_mul,Rat.intCast_natCast,hE,hF];grind
 have hH:((iH x1.num x1.den y1.num y1.den x2.num x2.den y2.num y2.den x3.num x3.den y3.num y3.den:Int):Rat)=((x1-x3)*(x2-x1)+(y1-y3)*(y2-y1))*(((x1.den:Rat)*x1.den*(x2.den*x3.den))*((y1.den:Rat)*y1.den*(y2.den*y3.den))):=by
  unfold iH;simp only[Rat.intCast_add,Rat.intCast_mul,Rat.intCast_natCast,hE,hF,hU,hV];grind
 have hSq:((iSq x1.den y1.den x3.den y3.den:Int):Rat)=((x1.den:Rat)*y1.den*(x3.den*y3.den))*((x1.den:Rat)*y1.den*(x3.den*y3.den)):=by
  unfold iSq;simp only[Rat.intCast_mul,Rat.intCast_natCast]
 refine⟨?_,?_,?_,hN0⟩
 ·unfold iM iA
  simp only[Rat.intCast_add,Rat.intCast_sub,Rat.intCast_mul,Rat.intCast_natCast,hN,hT,hG,hH,hSq,ns1,ns3]
  have hA:kA ⟨x3,y3,s3⟩ ⟨x1+t*(x2-x1),y1+t*(y2-y1),if neg then y2-y1 else 0-(y2-y1),if neg then 0-(x2-x1) else x2-x1,h⟩=(x1-x3)*(x1-x3)+(y1-y3)*(y1-y3)+2*t*((x1-x3)*(x2-x1)+(y1-y3)*(y2-y1))+s1-s3:=by
   have e1:kA ⟨x3,y3,s3⟩ ⟨x1+t*(x2-x1),y1+t*(y2-y1),if neg then y2-y1 else 0-(y2-y1),if neg then 0-(x2-x1) else x2-x1,h⟩=(x1-x3)*(x1-x3)+(y1-y3)*(y1-y3)+2*t*((x1-x3)*(x2-x1)+(y1-y3)*(y2-y1))+far*(t*t)+far*h-s3:=by
    unfold kA
    rw[hfar]
    cases neg
    ·simp only[Bool.false_eq_true,if_false];grind
    ·simp only[if_true];grind
   rw[e1,hh'];grind
  rw[hA]
  generalize (x1-x3)*(x1-x3)+(y1-y3)*(y1-y3)=e2
  generalize (x1-x3)*(x2-x1)+(y1-y3)*(y2-y1)=ed
  generalize (x1.den:Rat)=P1
  generalize (x2.den:Rat)=P2
  generalize (x3.den:Rat)=P3
  generalize (y1.den:Rat)=Q1
  generalize (y2.den:Rat)=Q2
  generalize (y3.den:Rat)=Q3
  generalize (s1.den:Rat)=R1
  generalize (s2.den:Rat)=R2
  generalize (s3.den:Rat)=R3
  clear hU hV hE hF hD hN hN0 hT hG hH hSq nx1 nx2 nx3 ny1 ny2 ny3 ns1 ns2 ns3 px1 px2 py1 py2 hf h2f ht' hh' hc hfar
  grind
 ·unfold iQ iK kB
  simp only[Rat.intCast_sub,Rat.intCast_mul,Rat.intCast_natCast,hE,hF,hU,hV]
  cases neg
  ·simp only[Bool.false_eq_true,if_false]
   simp
   grind
  ·simp only[if_true]
   simp
   grind
 ·unfold iCd iCn
  simp only[Rat.intCast_sub,Rat.intCast_mul,Rat.intCast_natCast,hN,hT,hD,ns1]
  generalize ((x1.den:Rat)*x2.den*(y1.den*y2.den))*((x1.den:Rat)*x2.den*(y1.den*y2.den))=D2
  generalize (s1.den:Rat)=R1
  generalize (s2.den:Rat)=R2
  have e:s1=far*h+far*(t*t):=by rw[hh'];grind
  have f4:((4:Int):Rat)=4:=by simp
  rw[f4,e]
  clear hU hV hE hF hD hN hN0 hT hG hH hSq nx1 nx2 nx3 ny1 ny2 ny3 ns1 ns2 ns3 px1 px2 py1 py2 hf h2f ht' hh' hc hfar
  grind
end
end Go.Eng

namespace Go.Eng
theorem qrU{a b c:Rat}(hc:0≤c):qgz a b c≤0↔(a≤0∧(b≤0∨c=0∨b*b*c≤a*a))∨(0<a∧b<0∧a*a≤b*b*c):=by
 have hs:=qkR (a*a-b*b*c)
 have hs':(0≤sgq (a*a-b*b*c))=(b*b*c≤a*a):=by
  have h1:=qzS (a*a-b*b*c)
  have h2:=qkR (-(a*a-b*b*c))
  refine propext ⟨fun h=>?_,fun h=>?_⟩
  ·have:=h2▸(show sgq (-(a*a-b*b*c))≤0 by omega);grind
  ·have:sgq (-(a*a-b*b*c))≤0:=h2▸(show -(a*a-b*b*c)≤0 by grind)
   omega
 have bd:=qz5 (a*a-b*b*c)
 have pb:0<b→0<c→0<b*b*c:=fun h1 h2=>Rat.mul_pos (Rat.mul_pos h1 h1) h2
 have pa:0<a→0<a*a:=fun h1=>Rat.mul_pos h1 h1
 have za:a=0→a*a=0:=fun h=>by rw[h];grind
 have zc:c=0→b*b*c=0:=fun h=>by rw[h];grind
 unfold qgz
 generalize hz:sgq (a*a-b*b*c)=z at *
 rcases qcj a with⟨ha,ea⟩|⟨ha,ea⟩|⟨ha,ea⟩<;>rcases qcj b with⟨hb,eb⟩|⟨hb,eb⟩|⟨hb,eb⟩<;>rcases qcj c with⟨hc',ec⟩|⟨hc',ec⟩|⟨hc',ec⟩<;>rw[ea,eb,ec]
 all_goals try (exfalso;grind)
 all_goals simp only[
  
  
  show (-1:Int)*0=0 by decide,show (-1:Int)*1=-1 by decide,show (0:Int)*0=0 by decide,show (0:Int)*1=0 by decide,show (1:Int)*0=0 by decide,show (1:Int)*1=1 by decide,Int.one_mul]
 all_goals simp
 all_goals first|(exfalso;grind)|skip
 all_goals grind
theorem qqe{a b:Rat}(h0:0≤a)(h:a≤b):a*a≤b*b:=by
 have:=Rat.mul_nonneg (show 0≤b-a by grind) (show 0≤b+a by grind)
 grind
theorem qvQ{a b:Rat}(hb:0≤b)(h:a*a≤b*b):a≤b:=by
 apply Rat.not_lt.1
 intro hn
 have:=Rat.mul_pos (show 0<a-b by grind) (show 0<a+b by grind)
 grind
theorem qwO{a b c T0 T1:Rat}(h0:0≤T0)(h1:T0≤T1)(k0:T0*T0≤c)(k1:c≤T1*T1)(e0:a+b*T0≤0)(e1:a+b*T1≤0):qgz a b c≤0:=by
 have hc:0≤c:=by have:=Rat.mul_nonneg h0 h0;grind
 rw[qrU hc]
 by_cases hb:b≤0
 ·by_cases ha:a≤0
  ·exact .inl ⟨ha,.inl hb⟩
  ·have hb':b<0:=by
    apply Rat.not_le.1;intro hn
    have h:b=0:=by grind
    rw[h] at e0;grind
   refine .inr ⟨by grind,hb',?_⟩
   have h1:=qqe (a:=a) (b:=(-b)*T0) (by grind) (by grind)
   have h2:=Rat.mul_le_mul_of_nonneg_left k0 (show 0≤b*b by have:=Rat.mul_nonneg (show 0≤-b by grind) (show 0≤-b by grind);grind)
   grind
 ·have hb':0≤b:=by grind
  have h3:=Rat.mul_nonneg hb' h0
  refine .inl ⟨by grind,.inr (.inr ?_)⟩
  have h3:=Rat.mul_nonneg hb' (show 0≤T1 by grind)
  have h1:=qqe (a:=b*T1) (b:=-a) h3 (by grind)
  have h2:=Rat.mul_le_mul_of_nonneg_left k1 (Rat.mul_nonneg hb' hb')
  grind
theorem qA0{a b c:Rat}(hc:0≤c)(h:qgz a b c≤0):∃T,0≤T∧T*T≤c∧∀S,T≤S→S*S≤c→a+b*S≤0:=by
 rw[qrU hc] at h
 by_cases hb:b<0
 ·by_cases ha:a≤0
  ·refine⟨0,by grind,by grind,fun S h1 h2=>?_⟩
   have:=Rat.mul_nonneg (show 0≤-b by grind) h1
   grind
  ·rcases h with h|⟨h1,h2,h3⟩
   ·exact absurd h.1 ha
   ·have hq:a/(-b)*(-b)=a:=Rat.div_mul_cancel (by grind)
    have hq0:0≤a/(-b):=by
     apply Rat.not_lt.1;intro hn
     have:=Rat.mul_pos (show 0 < -(a/(-b)) by grind) (show 0 < -b by grind)
     grind
    generalize a/(-b)=T at *
    refine⟨T,hq0,?_,fun S hS _=>?_⟩
    ·apply Rat.not_lt.1;intro hn
     have:=Rat.mul_pos (show 0<T*T-c by grind) (Rat.mul_pos (show 0 < -b by grind) (show 0 < -b by grind))
     have e:a*a=T*T*(b*b):=by rw[←hq];grind
     rw[e] at h3;clear e hq;grind
    ·have:=Rat.mul_nonneg (show 0≤-b by grind) (show 0≤S-T by grind)
     grind
 ·refine⟨0,by grind,by grind,fun S h1 h2=>?_⟩
  rcases h with⟨h3,h4⟩|⟨_,h5,_⟩
  ·rcases h4 with h4|h4|h4
   ·have:b=0:=by grind
    rw[this];grind
   ·have:S*S≤0:=by grind
    have h6:=qvQ (a:=S) (b:=0) (by grind) (by grind)
    have:S=0:=by grind
    rw[this];grind
   ·have k1:=Rat.mul_le_mul_of_nonneg_left h2 (Rat.mul_nonneg (show 0≤b by grind) (show 0≤b by grind))
    have:=qvQ (a:=b*S) (b:=-a) (by grind) (by grind)
    grind
  ·exact absurd h5 hb
def pw(d:DQ)(x y:Rat):Rat:=(x-d.x)*(x-d.x)+(y-d.y)*(y-d.y)-d.s
def qeG(l:List DQ):Prop:=∃x y:Rat,∀d∈l,pw d x y≤0
theorem qeG.mono{l l':List DQ}(h:qeG l)(hs:∀d∈l',d∈l):qeG l':=by
 obtain⟨x,y,h⟩:=h
 exact⟨x,y,fun d hd=>h d (hs d hd)⟩
theorem qyA(d:DQ)(p:SQ)(T:Rat):pw d (p.fx+T*p.ax) (p.fy+T*p.ay)=kA d p+kB d p*T+(p.ax*p.ax+p.ay*p.ay)*(T*T-p.h):=by
 unfold pw kA kB;grind
theorem q9q(a:Rat):0≤a*a:=by
 rcases Rat.le_total (a:=0) (b:=a) with h|h
 ·exact Rat.mul_nonneg h h
 ·have:=Rat.mul_nonneg (show 0≤-a by grind) (show 0≤-a by grind);grind
theorem qpx(p:SQ)(hn:0≤p.h):∀l:List DQ,(∀d∈l,q1o d p)→∃T,0≤T∧T*T≤p.h∧∀d∈l,∀S,T≤S→S*S≤p.h→kA d p+kB d p*S≤0
 | [],_=>⟨0,by grind,by grind,fun d hd=>by cases hd⟩
 | a::l,h=>by
  obtain⟨T,h1,h2,h3⟩:=qpx p hn l fun d hd=>h d (List.mem_cons_of_mem _ hd)
  obtain⟨T',k1,k2,k3⟩:=qA0 hn (h a List.mem_cons_self)
  rcases Rat.le_total (a:=T) (b:=T') with hT|hT
  ·refine⟨T',k1,k2,fun d hd S hS hS2=>?_⟩
   rcases List.mem_cons.1 hd with rfl|hd
   ·exact k3 S hS hS2
   ·exact h3 d hd S (Rat.le_trans hT hS) hS2
  ·refine⟨T,h1,h2,fun d hd S hS hS2=>?_⟩
   rcases List.mem_cons.1 hd with rfl|hd
   ·exact k3 S (Rat.le_trans hT hS) hS2
   ·exact h3 d hd S hS hS2
theorem qrb{l:List DQ}{p:SQ}(hn:0≤p.h)(h:∀d∈l,q1o d p):qeG l:=by
 obtain⟨T,h1,h2,h3⟩:=qpx p hn l h
 refine⟨p.fx+T*p.ax,p.fy+T*p.ay,fun d hd=>?_⟩
 rw[qyA]
 have k1:=h3 d hd T (Rat.le_refl) h2
 have k2:=Rat.mul_nonneg (show 0≤p.ax*p.ax+p.ay*p.ay by have:=q9q p.ax;have:=q9q p.ay;grind) (show 0≤p.h-T*T by grind)
 grind
theorem qEs{A B C D p q r s:Rat}(_:A≤0)(_:B≤0)(_:C≤0)(_:D≤0)(_:0≤p)(_:0≤q)(_:0≤r)(_:0≤s):A+B+C+D-(p+q+r+s)≤0:=by grind
theorem qBy{x1 y1 x2 y2 x3 y3 x4 y4 m1 m2 m3 m4 X Y:Rat}(h1:0≤m1)(h2:0≤m2)(h3:0≤m3)(h4:0≤m4)(hM:0<m1+m2+m3+m4)
  (hX:X*(m1+m2+m3+m4)=m1*x1+m2*x2+m3*x3+m4*x4) (hY:Y*(m1+m2+m3+m4)=m1*y1+m2*y2+m3*y3+m4*y4) (d:DQ)
  (k1:m1=0∨pw d x1 y1≤0) (k2:m2=0∨pw d x2 y2≤0) (k3:m3=0∨pw d x3 y3≤0) (k4:m4=0∨pw d x4 y4≤0):pw d X Y≤0:=by
 have aux:∀{m a:Rat},0≤m→(m=0∨a≤0)→m*a≤0:=fun {m a} hm h=>by
  rcases h with rfl|h
  ·grind
  ·have:=Rat.mul_nonneg hm (show 0≤-a by grind);grind
 have e1:=aux h1 k1
 have e2:=aux h2 k2
 have e3:=aux h3 k3
 have e4:=aux h4 k4
 have s1:=Rat.mul_nonneg h1 (show 0≤(x1-X)*(x1-X)+(y1-Y)*(y1-Y) by have:=q9q (x1-X);have:=q9q (y1-Y);grind)
 have s2:=Rat.mul_nonneg h2 (show 0≤(x2-X)*(x2-X)+(y2-Y)*(y2-Y) by have:=q9q (x2-X);have:=q9q (y2-Y);grind)
 have s3:=Rat.mul_nonneg h3 (show 0≤(x3-X)*(x3-X)+(y3-Y)*(y3-Y) by have:=q9q (x3-X);have:=q9q (y3-Y);grind)
 have s4:=Rat.mul_nonneg h4 (show 0≤(x4-X)*(x4-X)+(y4-Y)*(y4-Y) by have:=q9q (x4-X);have:=q9q (y4-Y);grind)
 have key:(m1+m2+m3+m4)*pw d X Y=(m1*pw d x1 y1+m2*pw d x2 y2+m3*pw d x3 y3+m4*pw d x4 y4)
   - (m1*((x1-X)*(x1-X)+(y1-Y)*(y1-Y))+m2*((x2-X)*(x2-X)+(y2-Y)*(y2-Y))+m3*((x3-X)*(x3-X)+(y3-Y)*(y3-Y))+m4*((x4-X)*(x4-X)+(y4-Y)*(y4-Y))):=by
  have eX:m1*(x1-X)+m2*(x2-X)+m3*(x3-X)+m4*(x4-X)=0:=by grind
  have eY:m1*(y1-Y)+m2*(y2-Y)+m3*(y3-Y)+m4*(y4-Y)=0:=by grind
  have key0:(m1+m2+m3+m4)*pw d X Y=(m1*pw d x1 y1+m2*pw d x2 y2+m3*pw d x3 y3+m4*pw d x4 y4)
   - (m1*((x1-X)*(x1-X)+(y1-Y)*(y1-Y))+m2*((x2-X)*(x2-X)+(y2-Y)*(y2-Y))+m3*((x3-X)*(x3-X)+(y3-Y)*(y3-Y))+m4*((x4-X)*(x4-X)+(y4-Y)*(y4-Y)))
   - 2*((X-d.x)*(m1*(x1-X)+m2*(x2-X)+m3*(x3-X)+m4*(x4-X))+(Y-d.y)*(m1*(y1-Y)+m2*(y2-Y)+m3*(y3-Y)+m4*(y4-Y))):=by
   unfold pw
   clear hX hY eX eY e1 e2 e3 e4 s1 s2 s3 s4 k1 k2 k3 k4 h1 h2 h3 h4 hM aux
   grind
  rw[key0,eX,eY];grind
 apply Rat.not_lt.1
 intro hn
 have hpos:=Rat.mul_pos hM hn
 rw[key] at hpos
 exact absurd (qEs e1 e2 e3 e4 s1 s2 s3 s4) (Rat.not_le.2 hpos)
theorem qm8(a:Rat):∃m n:Rat,0≤m∧0≤n∧a=m-n∧(m=0∨n=0):=by
 rcases Rat.le_total (a:=0) (b:=a) with h|h
 ·exact⟨a,0,h,by grind,by grind,.inr rfl⟩
 ·exact⟨0,-a,by grind,by grind,by grind,.inl rfl⟩
theorem qqR{x1 y1 x2 y2 x3 y3 x4 y4 t1 t2 t3 t4:Rat}(h0:t1+t2+t3+t4=0)(hx:t1*x1+t2*x2+t3*x3+t4*x4=0)(hy:t1*y1+t2*y2+t3*y3+t4*y4=0)
  (hn:¬(t1=0∧t2=0∧t3=0∧t4=0)):∃X Y,∀d:DQ,((pw d x2 y2≤0∧pw d x3 y3≤0∧pw d x4 y4≤0)∨(pw d x1 y1≤0∧pw d x3 y3≤0∧pw d x4 y4≤0)∨(pw d x1 y1≤0∧pw d x2 y2≤0∧pw d x4 y4≤0)∨(pw d x1 y1≤0∧pw d x2 y2≤0∧pw d x3 y3≤0))→pw d X Y≤0:=by
 obtain⟨m1,n1,a1,b1,rfl,c1⟩:=qm8 t1
 obtain⟨m2,n2,a2,b2,rfl,c2⟩:=qm8 t2
 obtain⟨m3,n3,a3,b3,rfl,c3⟩:=qm8 t3
 obtain⟨m4,n4,a4,b4,rfl,c4⟩:=qm8 t4
 have hM:0<m1+m2+m3+m4:=by
  apply Rat.not_le.1;intro hle
  exact hn ⟨by grind,by grind,by grind,by grind⟩
 have hN:0<n1+n2+n3+n4:=by grind
 have hM0:m1+m2+m3+m4≠0:=by grind
 refine⟨(m1*x1+m2*x2+m3*x3+m4*x4)/(m1+m2+m3+m4),(m1*y1+m2*y2+m3*y3+m4*y4)/(m1+m2+m3+m4),fun d hd=>?_⟩
 have eX:(m1*x1+m2*x2+m3*x3+m4*x4)/(m1+m2+m3+m4)*(m1+m2+m3+m4)=m1*x1+m2*x2+m3*x3+m4*x4:=Rat.div_mul_cancel hM0
 have eY:(m1*y1+m2*y2+m3*y3+m4*y4)/(m1+m2+m3+m4)*(m1+m2+m3+m4)=m1*y1+m2*y2+m3*y3+m4*y4:=Rat.div_mul_cancel hM0
 generalize (m1*x1+m2*x2+m3*x3+m4*x4)/(m1+m2+m3+m4)=X at *
 generalize (m1*y1+m2*y2+m3*y3+m4*y4)/(m1+m2+m3+m4)=Y at *
 have hS:n1+n2+n3+n4=m1+m2+m3+m4:=by grind
 have fX:X*(n1+n2+n3+n4)=n1*x1+n2*x2+n3*x3+n4*x4:=by rw[hS,eX];grind
 have fY:Y*(n1+n2+n3+n4)=n1*y1+n2*y2+n3*y3+n4*y4:=by rw[hS,eY];grind
 have P:=qBy a1 a2 a3 a4 hM eX eY d
 have Q:=qBy b1 b2 b3 b4 hN fX fY d
 rcases hd with⟨p2,p3,p4⟩|⟨p1,p3,p4⟩|⟨p1,p2,p4⟩|⟨p1,p2,p3⟩
 ·rcases c1 with c|c
  ·exact P (.inl c) (.inr p2) (.inr p3) (.inr p4)
  ·exact Q (.inl c) (.inr p2) (.inr p3) (.inr p4)
 ·rcases c2 with c|c
  ·exact P (.inr p1) (.inl c) (.inr p3) (.inr p4)
  ·exact Q (.inr p1) (.inl c) (.inr p3) (.inr p4)
 ·rcases c3 with c|c
  ·exact P (.inr p1) (.inr p2) (.inl c) (.inr p4)
  ·exact Q (.inr p1) (.inr p2) (.inl c) (.inr p4)
 ·rcases c4 with c|c
  ·exact P (.inr p1) (.inr p2) (.inr p3) (.inl c)
  ·exact Q (.inr p1) (.inr p2) (.inr p3) (.inl c)
def qtX(x1 y1 x2 y2 x3 y3:Rat):Rat:=(x2-x1)*(y3-y1)-(x3-x1)*(y2-y1)
theorem qEc(x1 y1 x2 y2 x3 y3 x4 y4:Rat):∃X Y,∀d:DQ,((pw d x2 y2≤0∧pw d x3 y3≤0∧pw d x4 y4≤0)∨(pw d x1 y1≤0∧pw d x3 y3≤0∧pw d x4 y4≤0)∨(pw d x1 y1≤0∧pw d x2 y2≤0∧pw d x4 y4≤0)∨(pw d x1 y1≤0∧pw d x2 y2≤0∧pw d x3 y3≤0))→pw d X Y≤0:=by
 by_cases h:qtX x2 y2 x3 y3 x4 y4=0∧-qtX x1 y1 x3 y3 x4 y4=0∧qtX x1 y1 x2 y2 x4 y4=0∧-qtX x1 y1 x2 y2 x3 y3=0
 ·by_cases e:x1=x2∧y1=y2
  ·exact qqR (t1:=1) (t2:=-1) (t3:=0) (t4:=0) (by grind) (by grind) (by grind) (by grind)
  ·have hA:(x2-x1)*(y3-y1)-(x3-x1)*(y2-y1)=0:=by have:=h.2.2.2;unfold qtX at this;grind
   have hD:(x2-x1)*(x2-x1)+(y2-y1)*(y2-y1)≠0:=by
    intro h0
    have s1:=q9q (x2-x1)
    have s2:=q9q (y2-y1)
    have z1:(x2-x1)*(x2-x1)=0:=by grind
    have z2:(y2-y1)*(y2-y1)=0:=by grind
    rcases Rat.mul_eq_zero.1 z1 with h1|h1<;>rcases Rat.mul_eq_zero.1 z2 with h2|h2<;>exact e ⟨by grind,by grind⟩
   have hu:((x3-x1)*(x2-x1)+(y3-y1)*(y2-y1))/((x2-x1)*(x2-x1)+(y2-y1)*(y2-y1))*((x2-x1)*(x2-x1)+(y2-y1)*(y2-y1))=(x3-x1)*(x2-x1)+(y3-y1)*(y2-y1):=Rat.div_mul_cancel hD
   generalize ((x3-x1)*(x2-x1)+(y3-y1)*(y2-y1))/((x2-x1)*(x2-x1)+(y2-y1)*(y2-y1))=u at *
   have cancel:∀z:Rat,z*((x2-x1)*(x2-x1)+(y2-y1)*(y2-y1))=0→z=0:=fun z hz=>by
    rcases Rat.mul_eq_zero.1 hz with h|h
    ·exact h
    ·exact absurd h hD
   have kx:(1-u)*x1+u*x2-x3=0:=cancel _ (by clear h e hD cancel;grind)
   have ky:(1-u)*y1+u*y2-y3=0:=cancel _ (by clear h e hD cancel kx;grind)
   exact qqR (t1:=1-u) (t2:=u) (t3:=-1) (t4:=0) (by grind) (by grind) (by grind) (by grind)
 ·exact qqR (t1:=qtX x2 y2 x3 y3 x4 y4) (t2:=-qtX x1 y1 x3 y3 x4 y4) (t3:=qtX x1 y1 x2 y2 x4 y4) (t4:=-qtX x1 y1 x2 y2 x3 y3) (by unfold qtX;grind) (by unfold qtX;grind) (by unfold qtX;grind) h
theorem qD7:∀(n:Nat) (l:List DQ),l.length≤n→(∀x∈l,∀y∈l,∀z∈l,qeG [x,y,z])→qeG l
 | _,[],_,_=>⟨0,0,fun d hd=>by cases hd⟩
 | _,[x],_,h=>(h x (by simp) x (by simp) x (by simp)).mono (by simp)
 | _,[x,y],_,h=>(h x (by simp) y (by simp) y (by simp)).mono (by simp)
 | _,[x,y,z],_,h=>(h x (by simp) y (by simp) z (by simp)).mono (by simp)
 | 0,a::b::c::d::r,hl,_=>by simp at hl
 | n+1,a::b::c::d::r,hl,h=>by
  simp only[List.length_cons] at hl
  have sub:∀l':List DQ,(∀x∈l',x∈a::b::c::d::r)→l'.length≤n→qeG l':=fun l' hs hn=>
   qD7 n l' hn fun x hx y hy z hz=>h x (hs x hx) y (hs y hy) z (hs z hz)
  obtain⟨x1,y1,p1⟩:=sub (b::c::d::r) (by intro x hx;simp at hx ⊢;grind) (by simp only[List.length_cons];omega)
  obtain⟨x2,y2,p2⟩:=sub (a::c::d::r) (by intro x hx;simp at hx ⊢;grind) (by simp only[List.length_cons];omega)
  obtain⟨x3,y3,p3⟩:=sub (a::b::d::r) (by intro x hx;simp at hx ⊢;grind) (by simp only[List.length_cons];omega)
  obtain⟨x4,y4,p4⟩:=sub (a::b::c::r) (by intro x hx;simp at hx ⊢;grind) (by simp only[List.length_cons];omega)
  obtain⟨X,Y,hX⟩:=qEc x1 y1 x2 y2 x3 y3 x4 y4
  refine⟨X,Y,fun e he=>hX e ?_⟩
  simp only[List.mem_cons] at he
  rcases he with rfl|rfl|rfl|rfl|he
  ·exact .inl ⟨p2 _ (by simp),p3 _ (by simp),p4 _ (by simp)⟩
  ·exact .inr (.inl ⟨p1 _ (by simp),p3 _ (by simp),p4 _ (by simp)⟩)
  ·exact .inr (.inr (.inl ⟨p1 _ (by simp),p2 _ (by simp),p4 _ (by simp)⟩))
  ·exact .inr (.inr (.inr ⟨p1 _ (by simp),p2 _ (by simp),p3 _ (by simp)⟩))
  ·exact .inl ⟨p2 _ (by simp[he]),p3 _ (by simp[he]),p4 _ (by simp[he])⟩
end Go.Eng

namespace Go.Eng
theorem qtK{ι:Type}(f:ι→Rat):∀(L:List ι),L≠[]→∃a∈L,∀k∈L,f k≤f a
 | [],h=>absurd rfl h
 | [a],_=>⟨a,by simp,fun k hk=>by simp at hk;rw[hk];exact Rat.le_refl⟩
 | a::b::r,_=>by
  obtain⟨m,hm,h⟩:=qtK f (b::r) (by simp)
  rcases Rat.le_total (a:=f a) (b:=f m) with hle|hle
  ·refine⟨m,List.mem_cons_of_mem _ hm,fun k hk=>?_⟩
   rcases List.mem_cons.1 hk with rfl|hk
   ·exact hle
   ·exact h k hk
  ·refine⟨a,List.mem_cons_self,fun k hk=>?_⟩
   rcases List.mem_cons.1 hk with rfl|hk
   ·exact Rat.le_refl
   ·exact Rat.le_trans (h k hk) hle
theorem hit{ι:Type}(al be:ι→Rat):∀(L:List ι),(∀k∈L,al k≤0)→(∃k∈L,0<be k)→∃t,0≤t∧(∀k∈L,al k+be k*t≤0)∧∃b∈L,0<be b∧al b+be b*t=0
 | [],_,h=>by obtain⟨k,hk,_⟩:=h;cases hk
 | a::L,h0,h1=>by
  have hLn:∀k∈L,al k≤0:=fun k hk=>h0 k (List.mem_cons_of_mem _ hk)
  have ha0:=h0 a List.mem_cons_self
  by_cases ha:0<be a
  ·obtain⟨ta,hta⟩:∃ta,ta=-al a/be a:=⟨_,rfl⟩
   have eta:ta*be a=-al a:=by rw[hta];exact Rat.div_mul_cancel (by grind)
   have ta0:0≤ta:=by
    apply Rat.not_lt.1;intro hn
    have:=Rat.mul_pos (show 0 < -ta by grind) ha
    grind
   have own:al a+be a*ta=0:=by grind
   by_cases hL:∃k∈L,0<be k
   ·obtain⟨t,k1,k2,b,hb,k3,k4⟩:=hit al be L hLn hL
    rcases Rat.le_total (a:=t) (b:=ta) with hle|hle
    ·refine⟨t,k1,fun k hk=>?_,b,List.mem_cons_of_mem _ hb,k3,k4⟩
     rcases List.mem_cons.1 hk with rfl|hk
     ·have:=Rat.mul_nonneg (show 0≤be k by grind) (show 0≤ta-t by grind);grind
     ·exact k2 k hk
    ·refine⟨ta,ta0,fun k hk=>?_,a,List.mem_cons_self,ha,own⟩
     rcases List.mem_cons.1 hk with rfl|hk
     ·grind
     ·rcases Rat.le_total (a:=0) (b:=be k) with hb|hb
      ·have:=Rat.mul_nonneg hb (show 0≤t-ta by grind);have:=k2 k hk;grind
      ·have:=Rat.mul_nonneg (show 0≤-be k by grind) ta0;have:=hLn k hk;grind
   ·refine⟨ta,ta0,fun k hk=>?_,a,List.mem_cons_self,ha,own⟩
    rcases List.mem_cons.1 hk with rfl|hk
    ·grind
    ·have hb:be k≤0:=Rat.not_lt.1 fun hn=>hL ⟨k,hk,hn⟩
     have:=Rat.mul_nonneg (show 0≤-be k by grind) ta0;have:=hLn k hk;grind
  ·have hL:∃k∈L,0<be k:=by
    obtain⟨k,hk,h⟩:=h1
    rcases List.mem_cons.1 hk with rfl|hk
    ·exact absurd h ha
    ·exact⟨k,hk,h⟩
   obtain⟨t,k1,k2,b,hb,k3,k4⟩:=hit al be L hLn hL
   refine⟨t,k1,fun k hk=>?_,b,List.mem_cons_of_mem _ hb,k3,k4⟩
   rcases List.mem_cons.1 hk with rfl|hk
   ·have:=Rat.mul_nonneg (show 0≤-be k by grind) k1;grind
   ·exact k2 k hk
theorem qqj{a:Rat}(h:a*a≤0):a=0:=by
 have:=q9q a
 rcases Rat.mul_eq_zero.1 (show a*a=0 by grind) with h|h<;>exact h
theorem qm7{a b c d:Rat}(h:q58 a b c d=0):a=c∧b=d:=by
 unfold q58 at h
 have s1:=q9q (a-c)
 have s2:=q9q (b-d)
 have:=qqj (a:=a-c) (by grind)
 have:=qqj (a:=b-d) (by grind)
 exact⟨by grind,by grind⟩
theorem qA1(a b c d:Rat):0≤q58 a b c d:=by
 unfold q58
 have s1:=q9q (a-c)
 have s2:=q9q (b-d)
 grind
theorem qC7{l:List DQ}{x y:Rat}(hl:l≠[])(hs:∀d∈l,0≤d.s)(h:∀d∈l,pw d x y≤0) :
  (∃a∈l,∀d∈l,pw d a.x a.y≤0)∨∃a∈l,∃b∈l,∃X Y,q58 b.x b.y a.x a.y≠0∧pw b X Y=pw a X Y∧(∀d∈l,pw d X Y≤pw a X Y)∧pw a X Y≤0:=by
 obtain⟨a,ha,hmax⟩:=qtK (fun d=>pw d x y) l hl
 by_cases hc:∀d∈l,pw d a.x a.y≤0
 ·exact .inl ⟨a,ha,hc⟩
 ·have hex:∃k∈l,0<pw k a.x a.y:=by
   by_cases hn:∃k∈l,0<pw k a.x a.y
   ·exact hn
   ·exact absurd (fun d hd=>Rat.not_lt.1 fun h0=>hn ⟨d,hd,h0⟩) hc
  obtain⟨k0,hk0,hp⟩:=hex
  have hsa:=hs a ha
  have paa:pw a a.x a.y=-a.s:=by unfold pw;grind
  obtain⟨al,hal⟩:∃al:DQ→Rat,al=fun k=>pw k x y-pw a x y:=⟨_,rfl⟩
  obtain⟨be,hbe⟩:∃be:DQ→Rat,be=fun k=>pw k a.x a.y-pw a a.x a.y-(pw k x y-pw a x y):=⟨_,rfl⟩
  have al0:∀k∈l,al k≤0:=fun k hk=>by rw[hal];have:=hmax k hk;simp only at this ⊢;grind
  have be0:al k0+be k0>0:=by rw[hal,hbe];simp only;grind
  obtain⟨t,t0,ht,b,hb,hb1,hb2⟩:=hit al be l al0 ⟨k0,hk0,by have:=al0 k0 hk0;grind⟩
  have line:∀k,pw k (x+t*(a.x-x)) (y+t*(a.y-y))-pw a (x+t*(a.x-x)) (y+t*(a.y-y))=al k+be k*t:=fun k=>by
   rw[hal,hbe];simp only;unfold pw;grind
  have t1:t≤1:=by
   apply Rat.not_lt.1;intro hn
   have h1:=ht k0 hk0
   have h2:=al0 k0 hk0
   have:=Rat.mul_pos (show 0<be k0 by grind) (show 0<t-1 by grind)
   grind
  refine .inr ⟨a,ha,b,hb,x+t*(a.x-x),y+t*(a.y-y),fun hf=>?_,?_,fun d hd=>?_,?_⟩
  ·obtain⟨e1,e2⟩:=qm7 hf
   have:be b=0:=by rw[hbe];simp only;unfold pw;rw[e1,e2];grind
   grind
  ·have:=line b;grind
  ·have:=line d;have:=ht d hd;grind
  ·have h1:=h a ha
   have e:pw a (x+t*(a.x-x)) (y+t*(a.y-y))=(1-t)*(1-t)*((x-a.x)*(x-a.x)+(y-a.y)*(y-a.y))-a.s:=by unfold pw;grind
   have q:0≤(x-a.x)*(x-a.x)+(y-a.y)*(y-a.y):=by have:=q9q (x-a.x);have:=q9q (y-a.y);grind
   have m:=qqe (a:=1-t) (b:=1) (by grind) (by grind)
   have:=Rat.mul_nonneg (show 0≤1-(1-t)*(1-t) by grind) q
   rw[e]
   have:pw a x y=(x-a.x)*(x-a.x)+(y-a.y)*(y-a.y)-a.s:=rfl
   grind
theorem qnE{a b:DQ}(neg:Bool)(hf:q58 b.x b.y a.x a.y≠0) :
  (qm a b neg).ax*(qm a b neg).ax+(qm a b neg).ay*(qm a b neg).ay=q58 b.x b.y a.x a.y ∧
  (qm a b neg).ax*(b.x-a.x)+(qm a b neg).ay*(b.y-a.y)=0 ∧
  (qm a b neg).ax*((qm a b neg).fx-a.x)+(qm a b neg).ay*((qm a b neg).fy-a.y)=0 ∧
  2*(((qm a b neg).fx-a.x)*(b.x-a.x)+((qm a b neg).fy-a.y)*(b.y-a.y))=q58 b.x b.y a.x a.y+a.s-b.s ∧
  kA a (qm a b neg)=0∧kB a (qm a b neg)=0∧kA b (qm a b neg)=0∧kB b (qm a b neg)=0:=by
 obtain⟨far,hfar⟩:∃far,far=q58 b.x b.y a.x a.y:=⟨_,rfl⟩
 obtain⟨t,ht⟩:∃t,t=(far+a.s-b.s)/(2*far):=⟨_,rfl⟩
 obtain⟨h,hh⟩:∃h,h=a.s/far-t*t:=⟨_,rfl⟩
 rw[←hfar] at hf
 have h2f:2*far≠0:=by grind
 have ht':2*far*t=far+a.s-b.s:=by
  rw[ht,Rat.mul_comm];exact Rat.div_mul_cancel h2f
 have hh':far*h=a.s-far*(t*t):=by
  have:a.s/far*far=a.s:=Rat.div_mul_cancel hf
  rw[hh];grind
 have hc:qm a b neg=⟨a.x+t*(b.x-a.x),a.y+t*(b.y-a.y),if neg then b.y-a.y else 0-(b.y-a.y),if neg then 0-(b.x-a.x) else b.x-a.x,h⟩:=by
  rw[hh,ht,hfar];rfl
 have hfar':far=(b.x-a.x)*(b.x-a.x)+(b.y-a.y)*(b.y-a.y):=hfar
 rw[hc,←hfar]
 unfold kA kB
 clear hc hfar ht hh
 cases neg
 ·simp only[Bool.false_eq_true,if_false]
  refine⟨by grind,by grind,by grind,by grind,by grind,by grind,by grind,by grind⟩
 ·simp only[if_true]
  refine⟨by grind,by grind,by grind,by grind,by grind,by grind,by grind,by grind⟩
theorem qxb(a b:DQ):(qm a b true).ax=-(qm a b false).ax∧(qm a b true).ay=-(qm a b false).ay:=by
 unfold qm
 simp only[Bool.false_eq_true,if_false,if_true]
 exact⟨by grind,by grind⟩
theorem qs7{l:List DQ}{a b:DQ}{x y:Rat}(neg:Bool)(hf:q58 b.x b.y a.x a.y≠0)(hab:pw b x y=pw a x y)(hm:∀d∈l,pw d x y≤pw a x y)(h0:pw a x y≤0)
  (hv:0≤(qm a b neg).ax*(x-a.x)+(qm a b neg).ay*(y-a.y)) :
  (0≤(qm a b neg).h∧∀d∈l,q1o d (qm a b neg)) ∨
  ∃t k,0≤t∧k∈l∧(qm a b neg).ax*(k.x-a.x)+(qm a b neg).ay*(k.y-a.y)<0∧pw k (x+t*(qm a b neg).ax) (y+t*(qm a b neg).ay)=pw a (x+t*(qm a b neg).ax) (y+t*(qm a b neg).ay) ∧
   pw b (x+t*(qm a b neg).ax) (y+t*(qm a b neg).ay)=pw a (x+t*(qm a b neg).ax) (y+t*(qm a b neg).ay)∧(∀d∈l,pw d (x+t*(qm a b neg).ax) (y+t*(qm a b neg).ay)≤pw a (x+t*(qm a b neg).ax) (y+t*(qm a b neg).ay)) ∧
   pw a (x+t*(qm a b neg).ax) (y+t*(qm a b neg).ay)≤0:=by
 obtain⟨f1,f2,f3,f4,f5,f6,f7,f8⟩:=qnE neg hf
 have hpos:0<q58 b.x b.y a.x a.y:=by have:=qA1 b.x b.y a.x a.y;grind
 have hfd:q58 b.x b.y a.x a.y=(b.x-a.x)*(b.x-a.x)+(b.y-a.y)*(b.y-a.y):=rfl
 have hax:(qm a b neg).ax=if neg then b.y-a.y else 0-(b.y-a.y):=rfl
 have hay:(qm a b neg).ay=if neg then 0-(b.x-a.x) else b.x-a.x:=rfl
 generalize qm a b neg=p at *
 generalize q58 b.x b.y a.x a.y=far at *
 obtain⟨T0,hT0⟩:∃T0,T0=(p.ax*(x-p.fx)+p.ay*(y-p.fy))/far:=⟨_,rfl⟩
 have eT0:T0*far=p.ax*(x-p.fx)+p.ay*(y-p.fy):=by rw[hT0];exact Rat.div_mul_cancel hf
 have hp:(x-p.fx)*(b.x-a.x)+(y-p.fy)*(b.y-a.y)=0:=by
  unfold pw at hab;grind
 have cancel:∀z:Rat,z*far=0→z=0:=fun z hz=>by
  rcases Rat.mul_eq_zero.1 hz with h|h
  ·exact h
  ·exact absurd h hf
 have ex:x=p.fx+T0*p.ax:=by
  have:x-p.fx-T0*p.ax=0:=cancel _ (by
   have e:(x-p.fx-T0*p.ax)*far=(x-p.fx)*far-p.ax*(T0*far):=by grind
   rw[e,eT0,hfd]
   cases neg
   ·simp only[Bool.false_eq_true,if_false] at hax hay;rw[hax,hay];clear hax hay eT0 hT0 f1 f2 f3 f4 f5 f6 f7 f8 hv hab;grind
   ·simp only[if_true] at hax hay;rw[hax,hay];clear hax hay eT0 hT0 f1 f2 f3 f4 f5 f6 f7 f8 hv hab;grind)
  grind
 have ey:y=p.fy+T0*p.ay:=by
  have:y-p.fy-T0*p.ay=0:=cancel _ (by
   have e:(y-p.fy-T0*p.ay)*far=(y-p.fy)*far-p.ay*(T0*far):=by grind
   rw[e,eT0,hfd]
   cases neg
   ·simp only[Bool.false_eq_true,if_false] at hax hay;rw[hax,hay];clear hax hay eT0 hT0 f1 f2 f3 f4 f5 f6 f7 f8 hv hab ex;grind
   ·simp only[if_true] at hax hay;rw[hax,hay];clear hax hay eT0 hT0 f1 f2 f3 f4 f5 f6 f7 f8 hv hab ex;grind)
  grind
 have T0n:0≤T0:=by
  apply Rat.not_lt.1;intro hn
  have:=Rat.mul_pos (show 0 < -T0 by grind) hpos
  grind
 have line:∀d T,pw d (p.fx+T*p.ax) (p.fy+T*p.ay)=kA d p+kB d p*T+far*(T*T-p.h):=fun d T=>by rw[qyA,f1]
 have lineA:∀T,pw a (p.fx+T*p.ax) (p.fy+T*p.ay)=far*(T*T-p.h):=fun T=>by rw[line,f5,f6];grind
 have lineB:∀T,pw b (p.fx+T*p.ax) (p.fy+T*p.ay)=far*(T*T-p.h):=fun T=>by rw[line,f7,f8];grind
 have at0:∀d∈l,kA d p+kB d p*T0≤0:=fun d hd=>by
  have:=hm d hd
  rw[ex,ey,line,lineA] at this
  grind
 have hT:T0*T0≤p.h:=by
  rw[ex,ey,lineA] at h0
  apply Rat.not_lt.1;intro hn
  have:=Rat.mul_pos hpos (show 0<T0*T0-p.h by grind)
  grind
 have hn:0≤p.h:=by have:=q9q T0;grind
 have kb:∀d:DQ,kB d p=-(2*(p.ax*(d.x-a.x)+p.ay*(d.y-a.y))):=fun d=>by unfold kB;grind
 have all:∀T1,T0≤T1→p.h≤T1*T1→(∀d∈l,kA d p+kB d p*T1≤0)→0≤p.h∧∀d∈l,q1o d p:=fun T1 h1 h2 h3=>
  ⟨hn,fun d hd=>qwO T0n h1 hT h2 (at0 d hd) (h3 d hd)⟩
 by_cases hk:∃k∈l,0<kB k p
 ·obtain⟨t,t0,ht,k,hk,hk1,hk2⟩:=hit (fun d=>kA d p+kB d p*T0) (fun d=>kB d p) l at0 hk
  by_cases hle:(T0+t)*(T0+t)≤p.h
  ·have eX:x+t*p.ax=p.fx+(T0+t)*p.ax:=by grind
   have eY:y+t*p.ay=p.fy+(T0+t)*p.ay:=by grind
   refine .inr ⟨t,k,t0,hk,?_,?_,?_,fun d hd=>?_,?_⟩
   ·rw[kb] at hk1;grind
   ·rw[eX,eY,line,lineA];grind
   ·rw[eX,eY,lineA,lineB]
   ·rw[eX,eY,line,lineA];have:=ht d hd;grind
   ·rw[eX,eY,lineA]
    have:=Rat.mul_nonneg (show 0≤far by grind) (show 0≤p.h-(T0+t)*(T0+t) by grind);grind
  ·exact .inl (all (T0+t) (by grind) (by grind) fun d hd=>by have:=ht d hd;grind)
 ·refine .inl (all (T0+p.h+1) (by grind) ?_ fun d hd=>?_)
  ·have:=qqe (a:=p.h+1) (b:=T0+p.h+1) (by grind) (by grind)
   have:=Rat.mul_nonneg hn hn
   grind
  ·have h1:kB d p≤0:=Rat.not_lt.1 fun h=>hk ⟨d,hd,h⟩
   have:=Rat.mul_nonneg (show 0≤-kB d p by grind) (show 0≤p.h+1 by grind)
   have:=at0 d hd
   grind
def Vx(l:List DQ)(x y:Rat)(t:DQ×DQ×DQ):Prop:=
 qtX t.1.x t.1.y t.2.1.x t.2.1.y t.2.2.x t.2.2.y≠0∧pw t.2.1 x y=pw t.1 x y∧pw t.2.2 x y=pw t.1 x y∧(∀d∈l,pw d x y≤pw t.1 x y)∧pw t.1 x y≤0
theorem qBL{l:List DQ}{x y x' y':Rat}{t:DQ×DQ×DQ}(h:Vx l x y t)(h':Vx l x' y' t):x=x'∧y=y':=by
 obtain⟨a,b,c⟩:=t
 obtain⟨hA,h1,h2,-,-⟩:=h
 obtain⟨-,h1',h2',-,-⟩:=h'
 unfold pw qtX at *
 simp only at *
 have e1:(x-x')*(b.x-a.x)+(y-y')*(b.y-a.y)=0:=by grind
 have e2:(x-x')*(c.x-a.x)+(y-y')*(c.y-a.y)=0:=by grind
 generalize b.x-a.x=p at *
 generalize b.y-a.y=q at *
 generalize c.x-a.x=r at *
 generalize c.y-a.y=s at *
 have k1:(x-x')*(p*s-r*q)=0:=by clear h1 h2 h1' h2' hA;grind
 have k2:(y-y')*(p*s-r*q)=0:=by clear h1 h2 h1' h2' hA;grind
 constructor
 ·rcases Rat.mul_eq_zero.1 k1 with h|h
  ·grind
  ·exact absurd h hA
 ·rcases Rat.mul_eq_zero.1 k2 with h|h
  ·grind
  ·exact absurd h hA
theorem qyk(l:List DQ):∀L:List (DQ×DQ×DQ),(∃t∈L,∃x y,Vx l x y t)→∃t∈L,∃x y,Vx l x y t∧∀t'∈L,∀x' y',Vx l x' y' t'→pw t'.1 x' y'≤pw t.1 x y
 | [],h=>by obtain⟨t,ht,_⟩:=h;cases ht
 | s::L,h=>by
  by_cases hs:∃x y,Vx l x y s
  ·obtain⟨x,y,hs⟩:=hs
   have own:∀x' y',Vx l x' y' s→pw s.1 x' y'≤pw s.1 x y:=fun x' y' h'=>by
    obtain⟨rfl,rfl⟩:=qBL h' hs;exact Rat.le_refl
   by_cases hL:∃t∈L,∃x y,Vx l x y t
   ·obtain⟨t,ht,u,v,hv,hmax⟩:=qyk l L hL
    rcases Rat.le_total (a:=pw s.1 x y) (b:=pw t.1 u v) with hle|hle
    ·refine⟨t,List.mem_cons_of_mem _ ht,u,v,hv,fun t' ht' x' y' h'=>?_⟩
     rcases List.mem_cons.1 ht' with rfl|ht'
     ·exact Rat.le_trans (own x' y' h') hle
     ·exact hmax t' ht' x' y' h'
    ·refine⟨s,List.mem_cons_self,x,y,hs,fun t' ht' x' y' h'=>?_⟩
     rcases List.mem_cons.1 ht' with rfl|ht'
     ·exact own x' y' h'
     ·exact Rat.le_trans (hmax t' ht' x' y' h') hle
   ·refine⟨s,List.mem_cons_self,x,y,hs,fun t' ht' x' y' h'=>?_⟩
    rcases List.mem_cons.1 ht' with rfl|ht'
    ·exact own x' y' h'
    ·exact absurd ⟨t',ht',x',y',h'⟩ hL
  ·have hL:∃t∈L,∃x y,Vx l x y t:=by
    obtain⟨t,ht,h⟩:=h
    rcases List.mem_cons.1 ht with rfl|ht
    ·exact absurd h hs
    ·exact⟨t,ht,h⟩
   obtain⟨t,ht,u,v,hv,hmax⟩:=qyk l L hL
   refine⟨t,List.mem_cons_of_mem _ ht,u,v,hv,fun t' ht' x' y' h'=>?_⟩
   rcases List.mem_cons.1 ht' with rfl|ht'
   ·exact absurd ⟨x',y',h'⟩ hs
   ·exact hmax t' ht' x' y' h'
theorem qyl{l:List DQ}{x y:Rat}{t:DQ×DQ×DQ}(ht:t.1∈l∧t.2.1∈l∧t.2.2∈l)(hv:Vx l x y t) :
  ∃a∈l,∃b∈l,∃neg,q58 b.x b.y a.x a.y≠0∧pw a x y=pw t.1 x y∧pw b x y=pw a x y∧0≤(qm a b neg).ax*(x-a.x)+(qm a b neg).ay*(y-a.y) ∧
   ∀k∈l,pw k x y=pw a x y→0≤(qm a b neg).ax*(k.x-a.x)+(qm a b neg).ay*(k.y-a.y):=by
 obtain⟨a0,b0,c0⟩:=t
 obtain⟨hA,h1,h2,h3,h4⟩:=hv
 simp only at *
 obtain⟨I,hI⟩:∃I,I=l.filter fun k=>decide (pw k x y=pw a0 x y):=⟨_,rfl⟩
 have memI:∀k,k∈I↔k∈l∧pw k x y=pw a0 x y:=fun k=>by rw[hI];simp
 have ia:a0∈I:=(memI _).2 ⟨ht.1,rfl⟩
 have ib:b0∈I:=(memI _).2 ⟨ht.2.1,h1⟩
 have ic:c0∈I:=(memI _).2 ⟨ht.2.2,h2⟩
 obtain⟨a,haI,hmax⟩:=qtK (fun k:DQ=>q58 k.x k.y x y) I (by intro h;rw[h] at ia;cases ia)
 obtain⟨hal,hap⟩:=(memI a).1 haI
 obtain⟨D,hD⟩:∃D:DQ→Rat,D=fun k=>(x-a.x)*(k.x-a.x)+(y-a.y)*(k.y-a.y):=⟨_,rfl⟩
 obtain⟨X,hX⟩:∃X:DQ→Rat,X=fun k=>(x-a.x)*(k.y-a.y)-(y-a.y)*(k.x-a.x):=⟨_,rfl⟩
 obtain⟨J,hJ⟩:∃J,J=I.filter fun k=>decide (q58 k.x k.y a.x a.y≠0):=⟨_,rfl⟩
 have memJ:∀k,k∈J↔k∈I∧q58 k.x k.y a.x a.y≠0:=fun k=>by rw[hJ];simp
 have hDp:∀k∈J,0<D k:=fun k hk=>by
  obtain⟨hk1,hk2⟩:=(memJ k).1 hk
  have e1:=hmax k hk1
  have e2:=qA1 k.x k.y a.x a.y
  rw[hD]
  simp only at e1 ⊢
  unfold q58 at e1 e2 hk2
  grind
 have hJn:J≠[]:=by
  intro hJ0
  have all:∀k∈I,k.x=a.x∧k.y=a.y:=fun k hk=>by
   by_cases hz:q58 k.x k.y a.x a.y=0
   ·exact qm7 hz
   ·have:=(memJ k).2 ⟨hk,hz⟩
    rw[hJ0] at this;cases this
  obtain⟨p1,q1⟩:=all a0 ia
  obtain⟨p2,q2⟩:=all b0 ib
  obtain⟨p3,q3⟩:=all c0 ic
  apply hA
  unfold qtX
  rw[p1,p2,p3,q1,q2,q3];grind
 have slope:∀k b:DQ,0<D k→0<D b→X k/D k≤X b/D b→X k*D b≤X b*D k:=fun k b k0 b0 h=>by
  have e1:X k/D k*D k=X k:=Rat.div_mul_cancel (by grind)
  have e2:X b/D b*D b=X b:=Rat.div_mul_cancel (by grind)
  generalize X k/D k=u at *
  generalize X b/D b=v at *
  have:=Rat.mul_nonneg (show 0≤v-u by grind) (Rat.mul_nonneg (show 0≤D k by grind) (show 0≤D b by grind))
  rw[←e1,←e2];grind
 have lag:∀k b:DQ,((x-a.x)*(x-a.x)+(y-a.y)*(y-a.y))*((k.x-a.x)*(b.y-a.y)-(k.y-a.y)*(b.x-a.x))=D k*X b-X k*D b:=fun k b=>by
  rw[hD,hX];simp only;grind
 have upos:∀b,0<D b→0<(x-a.x)*(x-a.x)+(y-a.y)*(y-a.y):=fun b hb=>by
  apply Rat.not_le.1;intro hn
  have s1:=q9q (x-a.x)
  have s2:=q9q (y-a.y)
  have z1:=qqj (a:=x-a.x) (by grind)
  have z2:=qqj (a:=y-a.y) (by grind)
  rw[hD] at hb;simp only at hb;rw[z1,z2] at hb;grind
 obtain⟨b,hb,hbm⟩:=qtK (fun k=>X k/D k) J hJn
 have hbD:=hDp b hb
 obtain⟨hbI,hbf⟩:=(memJ b).1 hb
 obtain⟨hbl,hbp⟩:=(memI b).1 hbI
 have onI:∀k∈l,pw k x y=pw a x y→k∈I:=fun k hk e=>(memI k).2 ⟨hk,by rw[e,hap]⟩
 by_cases hXb:0≤X b
 ·refine⟨a,hal,b,hbl,true,hbf,hap,by rw[hbp,hap],?_,fun k hk hkp=>?_⟩
  ·have e:(qm a b true).ax*(x-a.x)+(qm a b true).ay*(y-a.y)=X b:=by
    rw[hX];unfold qm;simp only[if_true];grind
   rw[e];exact hXb
  ·have e:(qm a b true).ax*(k.x-a.x)+(qm a b true).ay*(k.y-a.y)=(k.x-a.x)*(b.y-a.y)-(k.y-a.y)*(b.x-a.x):=by
    unfold qm;simp only[if_true];grind
   rw[e]
   by_cases hz:q58 k.x k.y a.x a.y=0
   ·obtain⟨z1,z2⟩:=qm7 hz
    rw[z1,z2];grind
   ·have hkJ:=(memJ k).2 ⟨onI k hk hkp,hz⟩
    have s:=slope k b (hDp k hkJ) hbD (hbm k hkJ)
    have g:=lag k b
    apply Rat.not_lt.1;intro hn
    have:=Rat.mul_pos (upos b hbD) (show 0 < -((k.x-a.x)*(b.y-a.y)-(k.y-a.y)*(b.x-a.x)) by grind)
    grind
 ·obtain⟨c,hc,hcm⟩:=qtK (fun k=>-(X k/D k)) J hJn
  have hcD:=hDp c hc
  obtain⟨hcI,hcf⟩:=(memJ c).1 hc
  obtain⟨hcl,hcp⟩:=(memI c).1 hcI
  have hXc:X c<0:=by
   have s:=slope c b hcD hbD (hbm c hc)
   apply Rat.not_le.1;intro hn
   have m1:=Rat.mul_nonneg hn (show 0≤D b by grind)
   have m2:=Rat.mul_pos (show 0 < -X b by grind) hcD
   grind
  refine⟨a,hal,c,hcl,false,hcf,hap,by rw[hcp,hap],?_,fun k hk hkp=>?_⟩
  ·have e:(qm a c false).ax*(x-a.x)+(qm a c false).ay*(y-a.y)=-X c:=by
    rw[hX];unfold qm;simp only[Bool.false_eq_true,if_false];grind
   rw[e];grind
  ·have e:(qm a c false).ax*(k.x-a.x)+(qm a c false).ay*(k.y-a.y)=-((k.x-a.x)*(c.y-a.y)-(k.y-a.y)*(c.x-a.x)):=by
    unfold qm;simp only[Bool.false_eq_true,if_false];grind
   rw[e]
   by_cases hz:q58 k.x k.y a.x a.y=0
   ·obtain⟨z1,z2⟩:=qm7 hz
    rw[z1,z2];grind
   ·have hkJ:=(memJ k).2 ⟨onI k hk hkp,hz⟩
    have hle:=hcm k hkJ
    have s:=slope c k hcD (hDp k hkJ) (by grind)
    have g:=lag k c
    apply Rat.not_lt.1;intro hn
    have:=Rat.mul_pos (upos c hcD) (show 0<(k.x-a.x)*(c.y-a.y)-(k.y-a.y)*(c.x-a.x) by grind)
    grind
theorem qA8{l:List DQ}(hl:l≠[])(hs:∀d∈l,0≤d.s)(hm:qeG l) :
  (∃a∈l,∀d∈l,pw d a.x a.y≤0)∨∃a∈l,∃b∈l,∃neg,q58 b.x b.y a.x a.y≠0∧0≤(qm a b neg).h∧∀d∈l,q1o d (qm a b neg):=by
 obtain⟨x,y,hxy⟩:=hm
 rcases qC7 hl hs hxy with h|⟨a,ha,b,hb,X,Y,hf,hab,hmx,h0⟩
 ·exact .inl h
 ·right
  have vtx:∀{a b k:DQ} {neg:Bool} {X Y:Rat},(qm a b neg).ax*(k.x-a.x)+(qm a b neg).ay*(k.y-a.y)<0→pw k X Y=pw a X Y→pw b X Y=pw a X Y→(∀d∈l,pw d X Y≤pw a X Y)→pw a X Y≤0→Vx l X Y (a,b,k):=by
   intro a b k neg X Y h1 h2 h3 h4 h5
   refine⟨fun hA=>?_,h3,h2,h4,h5⟩
   unfold qtX at hA
   simp only at hA
   unfold qm at h1
   cases neg
   ·simp only[Bool.false_eq_true,if_false] at h1;grind
   ·simp only[if_true] at h1;grind
  have hneg:∃neg,0≤(qm a b neg).ax*(X-a.x)+(qm a b neg).ay*(Y-a.y):=by
   obtain⟨e1,e2⟩:=qxb a b
   rcases Rat.le_total (a:=0) (b:=(qm a b false).ax*(X-a.x)+(qm a b false).ay*(Y-a.y)) with h|h
   ·exact⟨false,h⟩
   ·exact⟨true,by rw[e1,e2];grind⟩
  obtain⟨neg,hv⟩:=hneg
  rcases qs7 neg hf hab hmx h0 hv with⟨h1,h2⟩|⟨t,k,t0,hk,k1,k2,k3,k4,k5⟩
  ·exact⟨a,ha,b,hb,neg,hf,h1,h2⟩
  ·obtain⟨L,hL⟩:∃L,L=l.flatMap fun a=>l.flatMap fun b=>l.map fun c=>(a,b,c):=⟨_,rfl⟩
   have memL:∀t:DQ×DQ×DQ,t∈L↔t.1∈l∧t.2.1∈l∧t.2.2∈l:=fun t=>by
    obtain⟨a,b,c⟩:=t
    rw[hL];simp only[List.mem_flatMap,List.mem_map,Prod.mk.injEq]
    exact⟨fun⟨a',h1,b',h2,c',h3,e1,e2,e3⟩=>⟨e1▸h1,e2▸h2,e3▸h3⟩,fun⟨h1,h2,h3⟩=>⟨a,h1,b,h2,c,h3,rfl,rfl,rfl⟩⟩
   obtain⟨s,hs,u,v,hV,hmax⟩:=qyk l L ⟨(a,b,k),(memL _).2 ⟨ha,hb,hk⟩,_,_,vtx k1 k2 k3 k4 k5⟩
   obtain⟨a',ha',b',hb',neg',hf',hp',hab',hv',hact⟩:=qyl ((memL s).1 hs) hV
   rcases qs7 neg' hf' hab' (fun d hd=>by rw[hp'];exact hV.2.2.2.1 d hd) (by rw[hp'];exact hV.2.2.2.2) hv' with⟨h1,h2⟩|⟨t,k,t0,hk,k1,k2,k3,k4,k5⟩
   ·exact⟨a',ha',b',hb',neg',hf',h1,h2⟩
   ·exfalso
    have hm':=hmax (a',b',k) ((memL _).2 ⟨ha',hb',hk⟩) _ _ (vtx k1 k2 k3 k4 k5)
    simp only at hm'
    rw[←hp'] at hm'
    obtain⟨f1,-⟩:=qnE neg' hf'
    have hpos:0<q58 b'.x b'.y a'.x a'.y:=by have:=qA1 b'.x b'.y a'.x a'.y;grind
    generalize qm a' b' neg'=p at *
    have t1:0<t:=by
     apply Rat.not_le.1;intro hn
     have:t=0:=by grind
     rw[this] at k2
     have e1:u+0*p.ax=u:=by grind
     have e2:v+0*p.ay=v:=by grind
     rw[e1,e2] at k2
     have:=hact k hk k2
     grind
    have e:pw a' (u+t*p.ax) (v+t*p.ay)=pw a' u v+2*(t*(p.ax*(u-a'.x)+p.ay*(v-a'.y)))+t*t*(p.ax*p.ax+p.ay*p.ay):=by unfold pw;grind
    rw[e,f1] at hm'
    have m1:=Rat.mul_nonneg t0 hv'
    have m2:=Rat.mul_pos (Rat.mul_pos t1 t1) hpos
    grind
end Go.Eng

namespace Go.Eng
def cls(q:Rat):Prop:=(qn q≤12∧q.den=1)∨(qn q≤10∧qd q≤10)
def qCU(q:Rat):Prop:=qn q≤13∧qd q≤10
structure GD (d:DQ):Prop where
 x:cls d.x
 y:cls d.y
 s:qCU d.s
 nn:0≤d.s
theorem Bd.of_nl{m:Int}{k:Nat}(h:nl m≤k):Bd 1 k m:=by
 unfold Bd
 have:=qCS h
 omega
theorem Bd.of_le{C e:Nat}{x y:Int}(h:Bd C e y)(hxy:x.natAbs≤y.natAbs):Bd C e x:=Nat.le_trans hxy h
theorem qq2{q:Rat}(h:cls q):∃u v,Wt u v q∧((u=12∧v=0)∨(u=10∧v=10)):=by
 rcases h with⟨h1,h2⟩|⟨h1,h2⟩
 ·refine⟨12,0,⟨Bd.of_nl h1,?_,?_⟩,.inl ⟨rfl,rfl⟩⟩
  ·unfold Bd;rw[h2];decide
  ·unfold Bd;rw[h2];decide
 ·exact⟨10,10,⟨Bd.of_nl h1,Bd.of_nl (m:=(q.den:Int)) h2,Bd.of_nl (m:=(q.den:Int)) h2⟩,.inr ⟨rfl,rfl⟩⟩
theorem qvl{q:Rat}(h:qCU q):∃u v,Wt u v q∧u=13∧v=10:=
 ⟨13,10,⟨Bd.of_nl h.1,Bd.of_nl (m:=(q.den:Int)) h.2,(Bd.of_nl (m:=(q.den:Int)) h.2).mono (by omega) (by omega)⟩,rfl,rfl⟩
theorem vM{q:Rat}(h:cls q):bnd 12 10 q:=by
 rcases h with⟨h1,h2⟩|⟨h1,h2⟩
 ·exact⟨h1,by unfold qd;rw[h2];decide⟩
 ·exact⟨by omega,h2⟩
theorem q8d{q:Rat}(h:qCU q):bnd 13 10 q:=h
theorem GD.sh{d:DQ}(h:GD d):d.sh:=⟨vM h.x,vM h.y,q8d h.s⟩
theorem qxy{a b d:DQ}(ga:GD a)(gb:GD b)(gd:GD d)(neg:Bool)(hf:(b.x-a.x)*(b.x-a.x)+(b.y-a.y)*(b.y-a.y)≠0)(oa:okQ (kA d (qm a b neg)))(ob:okQ (kB d (qm a b neg)))(oc:okQ (qm a b neg).h) :
  RootOk (kA d (qm a b neg)) (kB d (qm a b neg)) (qm a b neg).h:=by
 obtain⟨f1,f2,f3,f4⟩:=qul a b d neg hf
 generalize kA d (qm a b neg)=A at *
 generalize kB d (qm a b neg)=B at *
 generalize (qm a b neg).h=H at *
 obtain⟨hx1,vx1,wx1,ex1⟩:=qq2 ga.x
 obtain⟨hy1,vy1,wy1,ey1⟩:=qq2 ga.y
 obtain⟨hs1,vs1,ws1,es1⟩:=qvl ga.s
 obtain⟨hx2,vx2,wx2,ex2⟩:=qq2 gb.x
 obtain⟨hy2,vy2,wy2,ey2⟩:=qq2 gb.y
 obtain⟨hs2,vs2,ws2,es2⟩:=qvl gb.s
 obtain⟨hx3,vx3,wx3,ex3⟩:=qq2 gd.x
 obtain⟨hy3,vy3,wy3,ey3⟩:=qq2 gd.y
 obtain⟨hs3,vs3,ws3,es3⟩:=qvl gd.s
 have k1:8*hx1+vx1≤96∧14*hx1+4*vx1≤180:=by omega
 have k2:8*hy1+vy1≤96∧14*hy1+4*vy1≤180:=by omega
 have k3:7*hx2+vx2≤84∧14*hx2+2*vx2≤168:=by omega
 have k4:7*hy2+vy2≤84∧14*hy2+2*vy2≤168:=by omega
 have k5:2*hx3+vx3≤30∧2*hx3+4*vx3≤60:=by omega
 have k6:2*hy3+vy3≤30∧2*hy3+4*vy3≤60:=by omega
 have k7:hs1+2*vs1≤33∧2*hs1+4*vs1≤66:=by omega
 have k8:hs2+2*vs2≤33∧2*hs2+4*vs2≤66:=by omega
 have k9:hs3≤13∧vs3≤10:=by omega
 clear ex1 ey1 es1 ex2 ey2 es2 ex3 ey3 es3
 have p0:∀q:Rat,(q.den:Int)≠0:=fun q=>by have:=qB0 q;omega
 have hM:iM a.x.num a.x.den a.y.num a.y.den a.s.den b.x.num b.x.den b.y.num b.y.den b.s.den d.x.den d.y.den d.s.den≠0:=by
  unfold iM iSq
  have:=p0 a.x;have:=p0 a.y;have:=p0 a.s;have:=p0 b.x;have:=p0 b.y;have:=p0 b.s;have:=p0 d.x;have:=p0 d.y;have:=p0 d.s
  exact Int.mul_ne_zero (Int.mul_ne_zero (Int.mul_ne_zero f4 (Int.mul_ne_zero (Int.mul_ne_zero ‹_› ‹_›) ‹_›)) (Int.mul_ne_zero (Int.mul_ne_zero (Int.mul_ne_zero ‹_› ‹_›) (Int.mul_ne_zero ‹_› ‹_›)) (Int.mul_ne_zero (Int.mul_ne_zero ‹_› ‹_›) (Int.mul_ne_zero ‹_› ‹_›)))) (Int.mul_ne_zero ‹_› ‹_›)
 have hQ:iQ a.x.den a.y.den b.x.den b.y.den d.x.den d.y.den≠0:=by
  unfold iQ
  exact Int.mul_ne_zero (Int.mul_ne_zero (Int.mul_ne_zero (p0 _) (p0 _)) (p0 _)) (Int.mul_ne_zero (Int.mul_ne_zero (p0 _) (p0 _)) (p0 _))
 have hC:iCd a.x.num a.x.den a.y.num a.y.den a.s.den b.x.num b.x.den b.y.num b.y.den b.s.den≠0:=by
  unfold iCd
  exact Int.mul_ne_zero (Int.mul_ne_zero (by omega) (Int.mul_ne_zero f4 f4)) (Int.mul_ne_zero (Int.mul_ne_zero (p0 _) (p0 _)) (Int.mul_ne_zero (p0 _) (p0 _)))
 obtain⟨g1,g2⟩:=qmh hM f1
 obtain⟨g3,g4⟩:=qmh hQ f2
 obtain⟨g5,g6⟩:=qmh hC f3
 have b1:=(bA wx1.n wx1.dh wy1.n wy1.dh wx2.n wx2.dh wy2.n wy2.dh wx3.n wx3.dh wy3.n wy3.dh ws1.n ws1.dh ws2.n ws2.dh ws3.n ws3.dh).of_le (x:=A.num) g1
 have b2:=(bM wx1.n wx1.dh wy1.n wy1.dh wx2.n wx2.dh wy2.n wy2.dh wx1.d wy1.d wx2.d wy2.d wx3.d wy3.d ws1.d ws2.d ws3.d).of_le (x:=(A.den:Int)) g2
 have b3:Bd 16 (hx1+hx2+hx3+hy1+hy2+hy3) B.num:=by
  refine(bK wx1.n wx1.dh wy1.n wy1.dh wx2.n wx2.dh wy2.n wy2.dh wx3.n wx3.dh wy3.n wy3.dh).of_le (Nat.le_trans g3 ?_)
  rw[Int.natAbs_mul]
  cases neg<;>simp
 have b4:=(bQ wx1.d wy1.d wx2.d wy2.d wx3.d wy3.d).of_le (x:=(B.den:Int)) g4
 have b5:=(bCn wx1.n wx1.dh wy1.n wy1.dh wx2.n wx2.dh wy2.n wy2.dh ws1.n ws1.dh ws2.n ws2.dh).of_le (x:=H.num) g5
 have b6:=(bCd wx1.n wx1.dh wy1.n wy1.dh wx2.n wx2.dh wy2.n wy2.dh ws1.d ws2.d).of_le (x:=(H.den:Int)) g6
 have X1:=b1.mul b4
 have X:Bd 40960 500 (rX A B H):=(X1.mul b6).mono (by omega) (by omega)
 have Y:=b3.mul b2
 have R:=b5.mul b6
 have XX:=(X.mul X).mono (C':=1677721600) (e':=1000) (by omega) (by omega)
 have YY:=Y.mul Y
 have YR:=(YY.mul R).mono (C':=553648128) (e':=972) (by omega) (by omega)
 have c10:(1000000000:Nat)≤10^9:=by decide
 exact { oa:=oa,ob:=ob,oc:=oc,x1:=X1.okL (k:=9) (by omega) (by omega) (by omega),x:=X.okL (k:=9) (by omega) (by omega) (by omega),y:=Y.okL (k:=9) (by omega) (by omega) (by omega),r:=R.okL (k:=9) (by omega) (by omega) (by omega),xx:=XX.okL (k:=10) (by decide) (by omega) (by omega),yy:=YY.okL (k:=9) (by omega) (by omega) (by omega),yr:=YR.okL (k:=9) (by omega) (by omega) (by omega),d:=((XX.mono (C':=1677721600) (e':=1000) (by omega) (by omega)).sub (YR.mono (C':=553648128) (e':=1000) (by omega) (by omega))).okL (k:=10) (by decide) (by omega) (by omega) }
end Go.Eng

namespace Go.Eng
theorem qE8{far c:Rat}(h0:far≠0)(hf:bnd 87 80 far)(hc:bnd 24 20 c):bnd 108 108 ((far+c)/(2*far)):=by
 have hn:far.num≠0:=fun h=>h0 (Rat.num_eq_zero.1 h)
 have hm:2*(far.num*(c.den:Int))≠0:=by
  have:=qB0 c
  exact Int.mul_ne_zero (by omega) (Int.mul_ne_zero hn (by omega))
 have h2f:2*far≠0:=by grind
 have key:(far+c)/(2*far)*((2*(far.num*(c.den:Int)):Int):Rat)=((far.num*(c.den:Int)+c.num*(far.den:Int):Int):Rat):=by
  have e1:=qee far
  have e2:=qee c
  have e3:(far+c)/(2*far)*(2*far)=far+c:=Rat.div_mul_cancel h2f
  have f2:((2:Int):Rat)=2:=by simp
  simp only[Rat.intCast_add,Rat.intCast_mul,Rat.intCast_natCast,e1,e2,f2]
  generalize (far+c)/(2*far)=q at *
  generalize (far.den:Rat)=fd at *
  generalize (c.den:Rat)=cd at *
  have e4:q*(2*(far*fd*cd))=q*(2*far)*(fd*cd):=by grind
  rw[e4,e3];grind
 obtain⟨k1,k2⟩:=qmh hm key
 have g1:=qbA k1
 have g2:=qzE k2
 have a1:=qt3 (far.num*(c.den:Int)) (c.num*(far.den:Int))
 have a2:=q48 far.num (c.den:Int)
 have a3:=q48 c.num (far.den:Int)
 have a4:=q48 2 (far.num*(c.den:Int))
 have a5:nl 2=1:=by decide
 have a6:dl (2*(far.num*(c.den:Int))).natAbs=nl (2*(far.num*(c.den:Int))):=rfl
 have b1:nl far.num≤87:=hf.1
 have b2:nl (far.den:Int)≤80:=hf.2
 have b3:nl c.num≤24:=hc.1
 have b4:nl (c.den:Int)≤20:=hc.2
 refine⟨?_,?_⟩
 ·show nl _≤108
  omega
 ·show dl _≤108
  omega
structure PB (p:SQ):Prop where
 fx:bnd 142 138 p.fx
 fy:bnd 142 138 p.fy
 ax:bnd 23 20 p.ax
 ay:bnd 23 20 p.ay
 h:bnd 314 313 p.h
theorem qEo(a:Rat):0-a=-a:=by grind
theorem qzb{a b:DQ}(ga:GD a)(gb:GD b)(hf:q58 b.x b.y a.x a.y≠0):bnd 108 108 ((q58 b.x b.y a.x a.y+a.s-b.s)/(2*q58 b.x b.y a.x a.y)):=by
 rw[show q58 b.x b.y a.x a.y+a.s-b.s=q58 b.x b.y a.x a.y+(a.s-b.s) by grind]
 exact qE8 hf (qqp (vM gb.x) (vM gb.y) (vM ga.x) (vM ga.y)) ((q8d ga.s).sub (q8d gb.s) (by omega) (by omega))
theorem qip(a b:DQ)(neg:Bool):qm a b neg=⟨a.x+(q58 b.x b.y a.x a.y+a.s-b.s)/(2*q58 b.x b.y a.x a.y)*(b.x-a.x),a.y+(q58 b.x b.y a.x a.y+a.s-b.s)/(2*q58 b.x b.y a.x a.y)*(b.y-a.y),if neg then b.y-a.y else 0-(b.y-a.y),if neg then 0-(b.x-a.x) else b.x-a.x,a.s/q58 b.x b.y a.x a.y-(q58 b.x b.y a.x a.y+a.s-b.s)/(2*q58 b.x b.y a.x a.y)*((q58 b.x b.y a.x a.y+a.s-b.s)/(2*q58 b.x b.y a.x a.y))⟩:=rfl
theorem qiN{a b:DQ}(ga:GD a)(gb:GD b)(neg:Bool)(hf:q58 b.x b.y a.x a.y≠0):PB (qm a b neg):=by
 have dx:=qaw (vM gb.x) (vM ga.x)
 have dy:=qaw (vM gb.y) (vM ga.y)
 have far:=qqp (vM gb.x) (vM gb.y) (vM ga.x) (vM ga.y)
 have ht:=qzb ga gb hf
 rw[qip]
 have nx:bnd 23 20 (0-(b.x-a.x)):=by rw[qEo];exact dx.neg
 have ny:bnd 23 20 (0-(b.y-a.y)):=by rw[qEo];exact dy.neg
 have hh:=((q8d ga.s).div hf far).sub (ht.mul ht) (K:=314) (by omega) (by omega)
 have hx:=(vM ga.x).add (ht.mul dx) (K:=142) (by omega) (by omega)
 have hy:=(vM ga.y).add (ht.mul dy) (K:=142) (by omega) (by omega)
 exact⟨hx,hy,by cases neg<;>assumption,by cases neg<;>assumption,hh⟩
theorem PB.m{p:SQ}{d:DQ}(hp:PB p)(gd:GD d):bnd 153 148 (p.fx-d.x)∧bnd 153 148 (p.fy-d.y):=
 ⟨hp.fx.sub (vM gd.x) (by omega) (by omega),hp.fy.sub (vM gd.y) (by omega) (by omega)⟩
theorem PB.mm{p:SQ}{d:DQ}(hp:PB p)(gd:GD d):bnd 603 592 ((p.fx-d.x)*(p.fx-d.x)+(p.fy-d.y)*(p.fy-d.y)):=
 qrw (hp.m gd).1 (hp.m gd).2 (hp.m gd).1 (hp.m gd).2
theorem PB.aa{p:SQ}(hp:PB p):bnd 87 80 (p.ax*p.ax+p.ay*p.ay):=qrw hp.ax hp.ay hp.ax hp.ay
theorem PB.ha{p:SQ}(hp:PB p):bnd 401 393 (p.h*(p.ax*p.ax+p.ay*p.ay)):=hp.h.mul hp.aa
theorem PB.x{p:SQ}{d:DQ}(hp:PB p)(gd:GD d):bnd 997 985 ((p.fx-d.x)*(p.fx-d.x)+(p.fy-d.y)*(p.fy-d.y)+p.h*(p.ax*p.ax+p.ay*p.ay)):=
 (hp.mm gd).add hp.ha (by omega) (by omega)
theorem PB.ma{p:SQ}{d:DQ}(hp:PB p)(gd:GD d):bnd 345 336 ((p.fx-d.x)*p.ax+(p.fy-d.y)*p.ay):=
 qrw (hp.m gd).1 (hp.m gd).2 hp.ax hp.ay
theorem PB.kA{p:SQ}{d:DQ}(hp:PB p)(gd:GD d):bnd 1008 995 (kA d p):=(hp.x gd).sub (q8d gd.s) (by omega) (by omega)
theorem PB.kB{p:SQ}{d:DQ}(hp:PB p)(gd:GD d):bnd 346 337 (kB d p):=qqM.mul (hp.ma gd)
structure PG (p:SQ):Prop where
 pb:PB p
 nn:0≤p.h
 root:∀d,GD d→RootOk (kA d p) (kB d p) p.h
theorem qAm{a b:DQ}(ga:GD a)(gb:GD b)(neg:Bool)(hf:q58 b.x b.y a.x a.y≠0)(hn:0≤(qm a b neg).h):PG (qm a b neg):=
 ⟨qiN ga gb neg hf,hn,fun _ gd=>qxy ga gb gd neg hf (((qiN ga gb neg hf).kA gd).ok (by omega) (by omega)) (((qiN ga gb neg hf).kB gd).ok (by omega) (by omega)) ((qiN ga gb neg hf).h.ok (by omega) (by omega))⟩
theorem qDb{a:DQ}(ga:GD a):PG ⟨a.x,a.y,0,0,0⟩:=by
 refine⟨⟨(vM ga.x).mono (by omega) (by omega),(vM ga.y).mono (by omega) (by omega),qaQ.mono (by omega) (by omega),qaQ.mono (by omega) (by omega),qaQ.mono (by omega) (by omega)⟩,Rat.le_refl,fun d gd=>?_⟩
 have e1:Go.Eng.kA d ⟨a.x,a.y,0,0,0⟩=q58 a.x a.y d.x d.y-d.s:=by unfold Go.Eng.kA q58;grind
 have e2:Go.Eng.kB d ⟨a.x,a.y,0,0,0⟩=0:=by unfold Go.Eng.kB;grind
 rw[e1,e2]
 have f1:bnd 98 90 (q58 a.x a.y d.x d.y-d.s):=(qqp (vM ga.x) (vM ga.y) (vM gd.x) (vM gd.y)).sub (q8d gd.s) (by omega) (by omega)
 exact RootOk.of f1 qaQ qaQ (by omega) (by omega)
theorem qyy{d:DQ}{p:SQ}(gd:GD d)(hp:PG p) :
  (yk [.s (tQ d.x),.s (tQ d.y),.s (tQ d.s),.s (tQ p.fx),.s (tQ p.fy),.s (tQ p.ax),.s (tQ p.ay),.s (tQ p.h),.i 0]).run=some (0,[.b (decide (q1o d p)),.i 0]):=by
 rw[qhV]
 have hr:=qDa (hp.root d gd) hp.nn
 obtain⟨hp,-,-⟩:=hp
 obtain⟨m1,m2⟩:=hp.m gd
 have h0:=qBi hp.fx hp.fy (vM gd.x) (vM gd.y) (by omega) (by omega) (by omega)
 have h1:=qAe m1 m2 m1 m2 (by omega) (by omega)
 have h2:=qAe hp.ax hp.ay hp.ax hp.ay (by omega) (by omega)
 have h3:=qsP hp.h hp.aa (by omega) (by omega)
 have h4:=qy4 (hp.mm gd) hp.ha (by omega) (by omega) (by omega)
 have h5:=quu (hp.x gd) (q8d gd.s) (by omega) (by omega) (by omega)
 have h6:=qAe m1 m2 hp.ax hp.ay (by omega) (by omega)
 have h7:=qsP qqM (hp.ma gd) (by omega) (by omega)
 rw[qBe] at h7
 have e:q1o d p=(qgz (Go.Eng.kA d p) (Go.Eng.kB d p) p.h≤0):=rfl
 unfold Go.Eng.kA Go.Eng.kB at hr e
 simp only[STD,h0,h1,h2,h3,h4,h5,h6,h7,hr,e]
 rfl
def qev(d:DQ):List U:=[.s (tQ d.x),.s (tQ d.y),.s (tQ d.s)]
def rD(l:List DQ):R:=l.map qev
def ix(l:List DQ)(i:Nat):DQ:=l.getD i ⟨0,0,0⟩
theorem zv(l:List DQ):qf (rD l)=(l.length:Int):=by simp[qf,rD]
theorem qsR{l:List DQ}{i:Nat}(h:i<l.length):cS (rD l) (i:Int) 0=tQ (ix l i).x∧cS (rD l) (i:Int) 1=tQ (ix l i).y∧cS (rD l) (i:Int) 2=tQ (ix l i).s:=by
 unfold cS wJ rD ix
 simp[List.getD_eq_getElem?_getD,h,qev,U.toS]
theorem qc4{l:List DQ}{i:Nat}(h:i<l.length):ix l i∈l:=by
 unfold ix
 simp[List.getD_eq_getElem?_getD,h]
def qap(a b:DQ)(same:Bool)(side:Int):Option SQ:=
 if same then (if side=0 then some ⟨a.x,a.y,0,0,0⟩ else none)
 else if q58 b.x b.y a.x a.y=0 then none
 else if 0≤(qm a b (decide (side<0))).h∧((qm a b (decide (side<0))).h=0↔side=0) then some (qm a b (decide (side<0))) else none
theorem qAZ{a b:DQ}(ga:GD a)(gb:GD b){same:Bool}{side:Int}{p:SQ}(h:qap a b same side=some p):PG p:=by
 unfold qap at h
 split at h
 ·split at h
  ·cases h;exact qDb ga
  ·cases h
 ·split at h
  ·cases h
  ·rename_i hf
   split at h
   ·rename_i hc
    cases h;exact qAm ga gb _ hf hc.1
   ·cases h
def q3L(l:List DQ)(i j:Nat)(side:Int):Bool:=
 match qap (ix l i) (ix l j) (decide (i=j)) side with
 | none=>false
 | some p=>l.all fun d=>decide (q1o d p)
def qmw(l:List DQ)(i j:Nat)(side:Int):Option (Nat×Nat×Int):=if q3L l i j side then some (i,j,side) else none
def qdP(l:List DQ)(i j:Nat):Option (Nat×Nat×Int):=
 match qmw l i j 0 with
 | some w=>some w
 | none=>match qmw l i j 1 with
  | some w=>some w
  | none=>qmw l i j (-1)
def vD(l:List DQ):Option (Nat×Nat×Int):=
 match q0U (fun i=>qmw l i i 0) 0 l.length with
 | some w=>some w
 | none=>q0U (fun i=>q0U (fun k=>qdP l i (i+1+k)) 0 (l.length-(i+1))) 0 l.length
end Go.Eng

namespace Go.Eng
theorem qwL(d a:DQ):q1o d ⟨a.x,a.y,0,0,0⟩↔pw d a.x a.y≤0:=by
 have e1:kA d ⟨a.x,a.y,0,0,0⟩=pw d a.x a.y:=by unfold kA pw;grind
 have e2:kB d ⟨a.x,a.y,0,0,0⟩=0:=by unfold kB;grind
 unfold q1o
 rw[e1,e2]
 simp only[qx7,qkR]
theorem qtN{d:DQ}{p q:SQ}(hA:kA d p=kA d q)(hB:kB d p=kB d q)(hh:p.h=q.h):q1o d p↔q1o d q:=by
 unfold q1o;rw[hA,hB,hh]
theorem qmE{d:DQ}{p:SQ}(hh:p.h=0):q1o d p↔kA d p≤0:=by
 unfold q1o
 rw[hh,qrU (by grind)]
 constructor
 ·rintro (⟨h,-⟩|⟨h1,h2,h3⟩)
  ·exact h
  ·have:=Rat.mul_pos h1 h1;grind
 ·intro h;exact .inl ⟨h,.inr (.inl rfl)⟩
theorem qwG{a b:DQ}(neg:Bool)(hf:q58 b.x b.y a.x a.y≠0) :
  (qm b a (!neg)).fx=(qm a b neg).fx∧(qm b a (!neg)).fy=(qm a b neg).fy∧(qm b a (!neg)).ax=(qm a b neg).ax∧(qm b a (!neg)).ay=(qm a b neg).ay∧(qm b a (!neg)).h=(qm a b neg).h:=by
 have hsw:q58 a.x a.y b.x b.y=q58 b.x b.y a.x a.y:=by unfold q58;grind
 rw[qip,qip,hsw]
 generalize q58 b.x b.y a.x a.y=far at *
 have h2f:2*far≠0:=by grind
 have h1:(far+b.s-a.s)/(2*far)*(2*far)=far+b.s-a.s:=Rat.div_mul_cancel h2f
 have h2:(far+a.s-b.s)/(2*far)*(2*far)=far+a.s-b.s:=Rat.div_mul_cancel h2f
 have h3:a.s/far*far=a.s:=Rat.div_mul_cancel hf
 have h4:b.s/far*far=b.s:=Rat.div_mul_cancel hf
 generalize (far+b.s-a.s)/(2*far)=u at *
 generalize (far+a.s-b.s)/(2*far)=t at *
 generalize a.s/far=p at *
 generalize b.s/far=q at *
 have cancel:∀z:Rat,z*far=0→z=0:=fun z hz=>by
  rcases Rat.mul_eq_zero.1 hz with h|h
  ·exact h
  ·exact absurd h hf
 have hu:u=1-t:=by
  have:=cancel (u-(1-t)) (by grind)
  grind
 have hpq:q=p-t*t+(1-t)*(1-t):=by
  have:=cancel (q-(p-t*t+(1-t)*(1-t))) (by grind)
  grind
 simp only
 refine⟨by rw[hu];grind,by rw[hu];grind,?_,?_,by rw[hu,hpq];grind⟩
 ·cases neg<;>simp only[Bool.not_false,Bool.not_true,Bool.false_eq_true,if_false,if_true]<;>grind
 ·cases neg<;>simp only[Bool.not_false,Bool.not_true,Bool.false_eq_true,if_false,if_true]<;>grind
theorem qa1{l:List DQ}{d:DQ}(h:d∈l):∃i,i<l.length∧ix l i=d:=by
 obtain⟨i,hi,e⟩:=List.getElem_of_mem h
 exact⟨i,hi,by unfold ix;simp[List.getD_eq_getElem?_getD,hi,e]⟩
def Wit(l:List DQ):Prop:=(∃i,i<l.length∧q3L l i i 0=true)∨∃i j side,i<j∧j<l.length∧(side=0∨side=1∨side=-1)∧q3L l i j side=true
theorem qc1{l:List DQ}{i j:Nat}{side:Int}:q3L l i j side=true↔∃p,qap (ix l i) (ix l j) (decide (i=j)) side=some p∧∀d∈l,q1o d p:=by
 unfold q3L
 cases h:qap (ix l i) (ix l j) (decide (i=j)) side with
 | none=>simp
 | some p=>simp
theorem qAG{a b:DQ}{same:Bool}{side:Int}{p:SQ}(h:qap a b same side=some p):0≤p.h:=by
 unfold qap at h
 split at h
 ·split at h
  ·cases h;exact Rat.le_refl
  ·cases h
 ·split at h
  ·cases h
  ·split at h
   ·rename_i hc
    cases h;exact hc.1
   ·cases h
theorem qow{l:List DQ}{i j:Nat}{side:Int}(h:q3L l i j side=true):qeG l:=by
 obtain⟨p,h1,h2⟩:=qc1.1 h
 exact qrb (qAG h1) h2
theorem quJ{l:List DQ}(hl:l≠[])(hs:∀d∈l,0≤d.s)(hm:qeG l):Wit l:=by
 rcases qA8 hl hs hm with⟨a,ha,h⟩|⟨a,ha,b,hb,neg,hf,h0,hk⟩
 ·obtain⟨i,hi,rfl⟩:=qa1 ha
  refine .inl ⟨i,hi,qc1.2 ⟨⟨(ix l i).x,(ix l i).y,0,0,0⟩,?_,fun d hd=>(qwL d _).2 (h d hd)⟩⟩
  unfold qap;simp
 ·have main:∀(i j:Nat) (neg:Bool),i<j→j<l.length→q58 (ix l j).x (ix l j).y (ix l i).x (ix l i).y≠0→0≤(qm (ix l i) (ix l j) neg).h→(∀d∈l,q1o d (qm (ix l i) (ix l j) neg))→Wit l:=by
   intro i j neg hij hj hf h0 hk
   by_cases hz:(qm (ix l i) (ix l j) neg).h=0
   ·have hz':(qm (ix l i) (ix l j) false).h=0:=hz
    refine .inr ⟨i,j,0,hij,hj,.inl rfl,qc1.2 ⟨qm (ix l i) (ix l j) false,?_,fun d hd=>?_⟩⟩
    ·unfold qap
     rw[if_neg (by simp;omega),if_neg hf]
     simp[hz']
    ·have:=(qmE hz).1 (hk d hd)
     rw[qmE hz']
     have e:kA d (qm (ix l i) (ix l j) false)=kA d (qm (ix l i) (ix l j) neg):=by
      unfold kA;rw[hz,hz']
      have e1:(qm (ix l i) (ix l j) false).fx=(qm (ix l i) (ix l j) neg).fx:=rfl
      have e2:(qm (ix l i) (ix l j) false).fy=(qm (ix l i) (ix l j) neg).fy:=rfl
      rw[e1,e2];grind
     rw[e];exact this
   ·cases neg
    ·refine .inr ⟨i,j,1,hij,hj,.inr (.inl rfl),qc1.2 ⟨qm (ix l i) (ix l j) false,?_,hk⟩⟩
     unfold qap
     rw[if_neg (by simp;omega),if_neg hf]
     simp[hz,h0]
    ·refine .inr ⟨i,j,-1,hij,hj,.inr (.inr rfl),qc1.2 ⟨qm (ix l i) (ix l j) true,?_,hk⟩⟩
     unfold qap
     rw[if_neg (by simp;omega),if_neg hf]
     simp[hz,h0]
  obtain⟨i,hi,rfl⟩:=qa1 ha
  obtain⟨j,hj,rfl⟩:=qa1 hb
  rcases Nat.lt_trichotomy i j with hij|rfl|hij
  ·exact main i j neg hij hj hf h0 hk
  ·exact absurd (by unfold q58;grind) hf
  ·obtain⟨e1,e2,e3,e4,e5⟩:=qwG neg hf
   refine main j i (!neg) hij hi ?_ (by rw[e5];exact h0) fun d hd=>?_
   ·intro h;apply hf;unfold q58 at *;grind
   ·refine(qtN ?_ ?_ e5).2 (hk d hd)
    ·unfold kA;rw[e1,e2,e3,e4,e5]
    ·unfold kB;rw[e1,e2,e3,e4]
theorem qiM{l:List DQ}{i j:Nat}{side:Int}{w:Nat×Nat×Int}(h:qmw l i j side=some w):w=(i,j,side)∧q3L l i j side=true:=by
 unfold qmw at h
 split at h
 ·cases h;exact⟨rfl,by assumption⟩
 ·cases h
theorem qjO{l:List DQ}{i j:Nat}{side:Int}(h:qmw l i j side=none):q3L l i j side=false:=by
 unfold qmw at h
 split at h
 ·cases h
 ·simp_all
theorem q2l{α:Type}{f:Nat→Option α}{a:α}:∀{k i:Nat},q0U f i k=some a→∃j,i≤j∧j<i+k∧f j=some a∧∀m,i≤m→m<j→f m=none
 | 0,i,h=>by cases h
 | k+1,i,h=>by
  simp only[q0U] at h
  cases hf:f i with
  | some b=>rw[hf] at h;exact⟨i,Nat.le_refl _,by omega,by rw[hf];exact h,fun m h1 h2=>by omega⟩
  | none=>
   rw[hf] at h
   obtain⟨j,h1,h2,h3,h4⟩:=q2l h
   refine⟨j,by omega,by omega,h3,fun m m1 m2=>?_⟩
   rcases Nat.eq_or_lt_of_le m1 with rfl|m1
   ·exact hf
   ·exact h4 m m1 m2
theorem quy{l:List DQ}{i j:Nat}{w:Nat×Nat×Int}(h:qdP l i j=some w):∃side,w=(i,j,side)∧(side=0∨side=1∨side=-1)∧q3L l i j side=true:=by
 unfold qdP at h
 cases h0:qmw l i j 0 with
 | some v=>rw[h0] at h;simp only at h;cases h;obtain⟨e1,e2⟩:=qiM h0;exact⟨0,e1,.inl rfl,e2⟩
 | none=>
  rw[h0] at h;simp only at h
  cases h1:qmw l i j 1 with
  | some v=>rw[h1] at h;simp only at h;cases h;obtain⟨e1,e2⟩:=qiM h1;exact⟨1,e1,.inr (.inl rfl),e2⟩
  | none=>
   rw[h1] at h;simp only at h
   obtain⟨e1,e2⟩:=qiM h;exact⟨-1,e1,.inr (.inr rfl),e2⟩
theorem qu5{l:List DQ}{i j:Nat}(h:qdP l i j=none):∀side:Int,side=0∨side=1∨side=-1→q3L l i j side=false:=by
 unfold qdP at h
 cases h0:qmw l i j 0 with
 | some v=>rw[h0] at h;cases h
 | none=>
  rw[h0] at h;simp only at h
  cases h1:qmw l i j 1 with
  | some v=>rw[h1] at h;cases h
  | none=>
   rw[h1] at h;simp only at h
   rintro side (rfl|rfl|rfl)
   ·exact qjO h0
   ·exact qjO h1
   ·exact qjO h
theorem qo4{l:List DQ}{w:Nat×Nat×Int}(h:vD l=some w):q3L l w.1 w.2.1 w.2.2=true∧w.1≤w.2.1∧w.2.1<l.length∧(w.2.2=0∨w.2.2=1∨w.2.2=-1)∧(w.1=w.2.1→w.2.2=0):=by
 unfold vD at h
 cases h0:q0U (fun i=>qmw l i i 0) 0 l.length with
 | some v=>
  rw[h0] at h;simp only at h;cases h
  obtain⟨i,-,hi,hf,-⟩:=q2l h0
  obtain⟨rfl,e⟩:=qiM hf
  exact⟨e,Nat.le_refl _,by simpa using hi,.inl rfl,fun _=>rfl⟩
 | none=>
  rw[h0] at h;simp only at h
  obtain⟨i,-,hi,hf,-⟩:=q2l h
  obtain⟨k,-,hk,hf,-⟩:=q2l hf
  obtain⟨side,rfl,h1,h2⟩:=quy hf
  exact⟨h2,by simp only;omega,by simp only;omega,h1,fun h=>by simp only at h;omega⟩
theorem qv5{l:List DQ}(h:vD l=none):¬Wit l:=by
 unfold vD at h
 cases h0:q0U (fun i=>qmw l i i 0) 0 l.length with
 | some v=>rw[h0] at h;cases h
 | none=>
  rw[h0] at h;simp only at h
  rintro (⟨i,hi,hp⟩|⟨i,j,side,hij,hj,hs,hp⟩)
  ·have:=qjO (q1C h0 i (by omega) (by omega));simp_all
  ·have h1:=q1C h i (by omega) (by omega)
   have h2:=q1C h1 (j-(i+1)) (by omega) (by omega)
   simp only[show i+1+(j-(i+1))=j by omega] at h2
   have:=qu5 h2 side hs;simp_all
theorem q6p{l:List DQ}(hl:l≠[])(hs:∀d∈l,0≤d.s):(vD l).isSome=true↔qeG l:=by
 constructor
 ·intro h
  cases hf:vD l with
  | none=>rw[hf] at h;cases h
  | some w=>exact qow (qo4 hf).1
 ·intro h
  cases hf:vD l with
  | none=>exact absurd (quJ hl hs h) (qv5 hf)
  | some w=>rfl
theorem qAa{d:DQ}(h:0≤d.s):qeG [d]:=⟨d.x,d.y,fun e he=>by simp at he;rw[he];unfold pw;grind⟩
theorem qAt{l:List DQ}(hs:∀d∈l,0≤d.s)(h2:∀i j,i<j→j<l.length→qeG [ix l i,ix l j])(h3:∀i j k,i<j→j<k→k<l.length→qeG [ix l i,ix l j,ix l k]):qeG l:=by
 refine qD7 l.length l (Nat.le_refl _) fun x hx y hy z hz=>?_
 obtain⟨i,hi,rfl⟩:=qa1 hx
 obtain⟨j,hj,rfl⟩:=qa1 hy
 obtain⟨k,hk,rfl⟩:=qa1 hz
 have p2:∀i j,i<l.length→j<l.length→qeG [ix l i,ix l j]:=fun i j hi hj=>by
  rcases Nat.lt_trichotomy i j with h|rfl|h
  ·exact h2 i j h hj
  ·exact(qAa (hs _ (qc4 hi))).mono (by simp)
  ·exact(h2 j i h hi).mono (by simp<;>grind)
 rcases Nat.lt_trichotomy i j with h|rfl|h
 ·rcases Nat.lt_trichotomy j k with g|rfl|g
  ·exact h3 i j k h g hk
  ·exact(p2 i j hi hj).mono (by simp)
  ·rcases Nat.lt_trichotomy i k with f|rfl|f
   ·exact(h3 i k j f g hj).mono (by simp<;>grind)
   ·exact(p2 i j hi hj).mono (by simp<;>grind)
   ·exact(h3 k i j f h hj).mono (by simp<;>grind)
 ·exact(p2 i k hi hk).mono (by simp<;>grind)
 ·rcases Nat.lt_trichotomy i k with g|rfl|g
  ·exact(h3 j i k h g hk).mono (by simp<;>grind)
  ·exact(p2 i j hi hj).mono (by simp<;>grind)
  ·rcases Nat.lt_trichotomy j k with f|rfl|f
   ·exact(h3 j k i f g hi).mono (by simp<;>grind)
   ·exact(p2 i j hi hj).mono (by simp<;>grind)
   ·exact(h3 k j i f h hi).mono (by simp<;>grind)
end Go.Eng

namespace Go.Eng
def GDs(l:List DQ):Prop:=∀d∈l,GD d
theorem GDs.ix{l:List DQ}(h:GDs l){i:Nat}(hi:i<l.length):GD (ix l i):=h _ (qc4 hi)
theorem qBs(q:Rat):(seq (tQ q) [48]=true)=(q=0):=by rw[wk,qou]
theorem qk6(q:Rat):(0:Int)<qu (tQ q):=by
 have h1:=qmJ q
 have h2:=qnI q
 unfold qu;omega
theorem qEp(i:Nat):((i:Int)=(i:Int))=True:=by simp
def plc(p:SQ):List PV:=[.s (tQ p.fx),.s (tQ p.fy),.s (tQ p.ax),.s (tQ p.ay),.s (tQ p.h)]
theorem qkM(q:Rat):(¬(tQ q).getD 0 0=45)=(0≤q):=by
 by_cases h:0≤q
 ·exact propext ⟨fun _=>h,fun _=>qCl h⟩
 ·have:=qDh (c:=q) (by grind)
  exact propext ⟨fun h'=>absurd this h',fun h'=>absurd h' h⟩
theorem qCt(b:Bool)(p q:Prop)[Decidable p][Decidable q](hb:(b=true)=p):(Go.Eng.beq b (decide q))=decide (p↔q):=by
 subst hb
 by_cases hq:q<;>cases b<;>simp[Go.Eng.beq,hq]<;>rfl
set_option maxHeartbeats 2000000 in
theorem qCz{l:List DQ}(hl:GDs l){i j:Nat}(hi:i<l.length)(hj:j<l.length)(side:Int) :
  (qap (ix l i) (ix l j) (decide (i=j)) side=none∧∃a b c d e,(vT [.r (rD l),.i (i:Int),.i (j:Int),.i side,.i 0]).run=some (0,[.s a,.s b,.s c,.s d,.s e,.b false,.i 0])) ∨
  ∃p,qap (ix l i) (ix l j) (decide (i=j)) side=some p∧(vT [.r (rD l),.i (i:Int),.i (j:Int),.i side,.i 0]).run=some (0,plc p++[.b true,.i 0]):=by
 rw[qi2]
 obtain⟨x1,x2,x3⟩:=qsR hi
 obtain⟨y1,y2,y3⟩:=qsR hj
 have ga:=hl.ix hi
 have gb:=hl.ix hj
 have bi:0≤(i:Int)∧(i:Int)<qf (rD l):=by rw[zv];omega
 have bj:0≤(j:Int)∧(j:Int)<qf (rD l):=by rw[zv];omega
 obtain⟨a,ha⟩:∃a,a=ix l i:=⟨_,rfl⟩
 obtain⟨b,hb⟩:∃b,b=ix l j:=⟨_,rfl⟩
 rw[←ha] at x1 x2 x3 ga ⊢
 rw[←hb] at y1 y2 y3 gb ⊢
 simp only[x1,x2,x3,y1,y2,y3]
 clear x1 x2 x3 y1 y2 y3 hb
 unfold qap plc
 by_cases hij:i=j
 ·subst hij
  have z:tQ 0=[48]:=rfl
  by_cases hs:side=0
  ·subst hs
   right
   refine⟨⟨a.x,a.y,0,0,0⟩,by simp,?_⟩
   have e:ieq 0 0=true:=rfl
   simp only[STD,bi,and_self,z,e]
   rfl
  ·left
   refine⟨by simp[hs],tQ a.x,tQ a.y,[48],[48],[48],?_⟩
   have e:ieq side 0=false:=by simp[ieq,hs]
   simp only[STD,bi,and_self,e]
 ·have hij':¬(i:Int)=(j:Int):=by omega
  obtain⟨a1,a2,a3⟩:=ga.sh
  obtain⟨b1,b2,b3⟩:=gb.sh
  have dx:=qaw b1 a1
  have dy:=qaw b2 a2
  have far:=qqp b1 b2 a1 a2
  have h0:=qBi b1 b2 a1 a2 (by omega) (by omega) (by omega)
  have h1:=qAe dx dy dx dy (by omega) (by omega)
  have hfd:(b.x-a.x)*(b.x-a.x)+(b.y-a.y)*(b.y-a.y)=q58 b.x b.y a.x a.y:=rfl
  rw[hfd] at h1
  by_cases hf:q58 b.x b.y a.x a.y=0
  ·left
   refine⟨by simp[hij,hf],[],[],[],[],[],?_⟩
   simp only[STD,bi,bj,and_self,hij',h0,h1,qBs,hf]
  ·have hpb:=fun neg=>qiN ga gb neg hf
   have ht:=qzb ga gb hf
   have n1:bnd 98 90 (q58 b.x b.y a.x a.y+a.s):=far.add a3 (by omega) (by omega)
   have h2:=qy4 far a3 (by omega) (by omega) (by omega)
   have n2:bnd 112 100 (q58 b.x b.y a.x a.y+a.s-b.s):=n1.sub b3 (by omega) (by omega)
   have h3:=quu n1 b3 (by omega) (by omega) (by omega)
   have h4:=qsP qqM far (by omega) (by omega)
   rw[qBe] at h4
   have n4:=qqM.mul far
   have hf2:2*q58 b.x b.y a.x a.y≠0:=by grind
   have h5:=qDS hf2 n2 n4 (by omega) (by omega)
   have h6:=qsP ht dx (by omega) (by omega)
   have h7:=qy4 a1 (ht.mul dx) (by omega) (by omega) (by omega)
   have h8:=qsP ht dy (by omega) (by omega)
   have h9:=qy4 a2 (ht.mul dy) (by omega) (by omega) (by omega)
   have h10:=quu qaQ dy (by omega) (by omega) (by omega)
   have h14:=quu qaQ dx (by omega) (by omega) (by omega)
   rw[show tQ 0=[48] from rfl] at h10 h14
   have h11:=qDS hf a3 far (by omega) (by omega)
   have h12:=qsP ht ht (by omega) (by omega)
   have h13:=quu (a3.div hf far) (ht.mul ht) (by omega) (by omega) (by omega)
   have hbd:=fun (q:Rat)=>qCt (seq (tQ q) [48]) (q=0) (side=0) (qBs q)
   have hie:ieq side 0=decide (side=0):=rfl
   rw[if_neg (by simp[hij]),if_neg hf]
   obtain⟨p,hcr'⟩:∃p,p=qm a b (decide (side<0)):=⟨_,rfl⟩
   rw[←hcr']
   have hcr:=hcr'.symm
   clear hcr'
   rw[qip] at hcr
   obtain⟨t,htt⟩:∃t,t=(q58 b.x b.y a.x a.y+a.s-b.s)/(2*q58 b.x b.y a.x a.y):=⟨_,rfl⟩
   rw[←htt] at hcr h5 h6 h7 h8 h9 h12 h13
   obtain⟨h,hh⟩:∃h,h=a.s/q58 b.x b.y a.x a.y-t*t:=⟨_,rfl⟩
   rw[←hh] at hcr h13
   have hp5:p.h=h:=by rw[←hcr]
   by_cases hs:side<0
   ·simp only[hs,decide_true,if_true] at hcr
    by_cases hn:0≤h
    ·by_cases hz:(h=0↔side=0)
     ·right
      refine⟨p,by rw[if_pos ⟨by rw[hp5];exact hn,by rw[hp5];exact hz⟩],?_⟩
      rw[←hcr]
      simp only[STD,bi,bj,and_self,hij',h0,h1,h2,h3,h4,h5,h6,h7,h8,h9,h10,h11,h12,h13,h14,qBs,hf,hs,Int.le_refl,qk6,qjA,qkM,hn,hie,hbd,hz,decide_true]
      rfl
     ·left
      refine⟨by rw[if_neg (by rw[hp5];exact fun c=>hz c.2)],tQ p.fx,tQ p.fy,tQ p.ax,tQ p.ay,tQ p.h,?_⟩
      rw[←hcr]
      simp only[STD,bi,bj,and_self,hij',h0,h1,h2,h3,h4,h5,h6,h7,h8,h9,h10,h11,h12,h13,h14,qBs,hf,hs,Int.le_refl,qk6,qjA,qkM,hn,hie,hbd,hz,decide_false]
    ·left
     refine⟨by rw[if_neg (by rw[hp5];exact fun c=>hn c.1)],tQ p.fx,tQ p.fy,tQ p.ax,tQ p.ay,tQ p.h,?_⟩
     rw[←hcr]
     simp only[STD,bi,bj,and_self,hij',h0,h1,h2,h3,h4,h5,h6,h7,h8,h9,h10,h11,h12,h13,h14,qBs,hf,hs,Int.le_refl,qk6,qjA,qkM,hn]
   ·simp only[hs,decide_false,Bool.false_eq_true,if_false] at hcr
    by_cases hn:0≤h
    ·by_cases hz:(h=0↔side=0)
     ·right
      refine⟨p,by rw[if_pos ⟨by rw[hp5];exact hn,by rw[hp5];exact hz⟩],?_⟩
      rw[←hcr]
      simp only[STD,bi,bj,and_self,hij',h0,h1,h2,h3,h4,h5,h6,h7,h8,h9,h10,h11,h12,h13,h14,qBs,hf,hs,Int.le_refl,qk6,qjA,qkM,hn,hie,hbd,hz,decide_true]
      rfl
     ·left
      refine⟨by rw[if_neg (by rw[hp5];exact fun c=>hz c.2)],tQ p.fx,tQ p.fy,tQ p.ax,tQ p.ay,tQ p.h,?_⟩
      rw[←hcr]
      simp only[STD,bi,bj,and_self,hij',h0,h1,h2,h3,h4,h5,h6,h7,h8,h9,h10,h11,h12,h13,h14,qBs,hf,hs,Int.le_refl,qk6,qjA,qkM,hn,hie,hbd,hz,decide_false]
    ·left
     refine⟨by rw[if_neg (by rw[hp5];exact fun c=>hn c.1)],tQ p.fx,tQ p.fy,tQ p.ax,tQ p.ay,tQ p.h,?_⟩
     rw[←hcr]
     simp only[STD,bi,bj,and_self,hij',h0,h1,h2,h3,h4,h5,h6,h7,h8,h9,h10,h11,h12,h13,h14,qBs,hf,hs,Int.le_refl,qk6,qjA,qkM,hn]
end Go.Eng

namespace Go.Eng
theorem qC2{α:Type}(p:Nat→Bool)(g:Nat→α)(n:Nat):(q0U (fun i=>if p i=true then none else some (g i)) 0 n=none∧∀i,i<n→p i=true)∨∃i,i<n∧p i=false∧q0U (fun i=>if p i=true then none else some (g i)) 0 n=some (g i):=by
 cases h:q0U (fun i=>if p i=true then none else some (g i)) 0 n with
 | none=>
  refine .inl ⟨rfl,fun i hi=>?_⟩
  have:=q1C h i (by omega) (by omega)
  cases hp:p i
  ·rw[hp] at this;simp at this
  ·rfl
 | some a=>
  obtain⟨j,-,hj,hf,-⟩:=q2l h
  cases hp:p j
  ·rw[hp] at hf;simp at hf
   exact .inr ⟨j,by omega,hp,by rw[hf]⟩
  ·rw[hp] at hf;simp at hf
theorem qBC(l:List DQ)(p:DQ→Bool):l.all p=true↔∀i,i<l.length→p (ix l i)=true:=by
 rw[List.all_eq_true]
 constructor
 ·intro h i hi;exact h _ (qc4 hi)
 ·intro h d hd
  obtain⟨i,hi,rfl⟩:=qa1 hd
  exact h i hi
theorem qCr{l:List DQ}{p:DQ→Bool}{i:Nat}(hi:i<l.length)(h:p (ix l i)=false):l.all p=false:=by
 cases ha:l.all p
 ·rfl
 ·have:=(qBC l p).1 ha i hi;simp_all
theorem qrl{l:List DQ}(hl:GDs l)(hn:l.length<1000000){i j:Nat}(hi:i<l.length)(hj:j<l.length)(side:Int) :
  (qQ [.r (rD l),.i (i:Int),.i (j:Int),.i side,.i 0]).run=some (0,[.b (q3L l i j side),.i 0]):=by
 rw[qgp]
 unfold q3L
 rcases qCz hl hi hj side with⟨h1,a,b,c,d,e,h2⟩|⟨p,h1,h2⟩
 ·rw[h1]
  simp only[STD,h2]
 ·rw[h1]
  have hp:=qAZ (hl.ix hi) (hl.ix hj) h1
  unfold plc at h2
  simp only[List.cons_append,List.nil_append] at h2
  have key:=qjH (S:=wX)
   (fun k=>[.r (rD l),.i (qf (rD l)),.i (k:Int),.r (rD l),.r (rD l),.r (rD l),.i (i:Int),.i (j:Int),.i side,.b true,.s (tQ p.fx),.s (tQ p.fy),.s (tQ p.ax),.s (tQ p.ay),.s (tQ p.h),.b true,.r (rD l),.i (i:Int),.i (j:Int),.i side,.s (tQ p.fx),.s (tQ p.fy),.s (tQ p.ax),.s (tQ p.ay),.s (tQ p.h),.b true,.s (tQ p.fx),.s (tQ p.fy),.s (tQ p.ax),.s (tQ p.ay),.s (tQ p.h),.b true,.b true,.r (rD l),.i 0,.i (i:Int),.i (j:Int),.i side,.s (tQ p.fx),.s (tQ p.fy),.s (tQ p.ax),.s (tQ p.ay),.s (tQ p.h)])
   (fun k=>if decide (q1o (ix l k) p)=true then none else some (1,[.i (k:Int),.r (rD l),.r (rD l),.r (rD l),.i (i:Int),.i (j:Int),.i side,.b true,.s (tQ p.fx),.s (tQ p.fy),.s (tQ p.ax),.s (tQ p.ay),.s (tQ p.h),.b true,.r (rD l),.i (i:Int),.i (j:Int),.i side,.s (tQ p.fx),.s (tQ p.fy),.s (tQ p.ax),.s (tQ p.ay),.s (tQ p.h),.b true,.s (tQ p.fx),.s (tQ p.fy),.s (tQ p.ax),.s (tQ p.ay),.s (tQ p.h),.b true,.b true,.r (rD l),.i 0,.i (i:Int),.i (j:Int),.i side,.s (tQ p.fx),.s (tQ p.fy),.s (tQ p.ax),.s (tQ p.ay),.s (tQ p.h)]))
   (0,[.r (rD l),.r (rD l),.r (rD l),.i (i:Int),.i (j:Int),.i side,.b true,.s (tQ p.fx),.s (tQ p.fy),.s (tQ p.ax),.s (tQ p.ay),.s (tQ p.h),.b true,.r (rD l),.i (i:Int),.i (j:Int),.i side,.s (tQ p.fx),.s (tQ p.fy),.s (tQ p.ax),.s (tQ p.ay),.s (tQ p.h),.b true,.s (tQ p.fx),.s (tQ p.fy),.s (tQ p.ax),.s (tQ p.ay),.s (tQ p.h),.b true,.b true,.r (rD l),.i 0,.i (i:Int),.i (j:Int),.i side,.s (tQ p.fx),.s (tQ p.fy),.s (tQ p.ax),.s (tQ p.ay),.s (tQ p.h)])
   l.length (by omega)
   (fun k hk hf=>by
    rw[uN]
    obtain⟨x1,x2,x3⟩:=qsR hk
    have hK:=qyy (hl.ix hk) hp
    by_cases hd:q1o (ix l k) p
    ·simp only[x1,x2,x3,STD,hK,hd,zv,q2U hk (show l.length<9223372036854775808 by omega),show (k:Int)<(l.length:Int) by omega,show (0:Int)≤(k:Int) by omega,and_self,decide_true]
    ·simp[hd] at hf)
   (fun k r hk hf=>by
    rw[uN]
    obtain⟨x1,x2,x3⟩:=qsR hk
    have hK:=qyy (hl.ix hk) hp
    by_cases hd:q1o (ix l k) p
    ·simp[hd] at hf
    ·simp only[hd,decide_false,Bool.false_eq_true,if_false,Option.some.injEq] at hf
     subst hf
     simp only[x1,x2,x3,STD,hK,hd,zv,show (k:Int)<(l.length:Int) by omega,show (0:Int)≤(k:Int) by omega,and_self,decide_false])
   (by rw[uN];simp only[STD,zv,show ¬(l.length:Int)<(l.length:Int) by omega])
  rcases qC2 (fun k=>decide (q1o (ix l k) p)) (fun k=>((1,[.i (k:Int),.r (rD l),.r (rD l),.r (rD l),.i (i:Int),.i (j:Int),.i side,.b true,.s (tQ p.fx),.s (tQ p.fy),.s (tQ p.ax),.s (tQ p.ay),.s (tQ p.h),.b true,.r (rD l),.i (i:Int),.i (j:Int),.i side,.s (tQ p.fx),.s (tQ p.fy),.s (tQ p.ax),.s (tQ p.ay),.s (tQ p.h),.b true,.s (tQ p.fx),.s (tQ p.fy),.s (tQ p.ax),.s (tQ p.ay),.s (tQ p.h),.b true,.b true,.r (rD l),.i 0,.i (i:Int),.i (j:Int),.i side,.s (tQ p.fx),.s (tQ p.fy),.s (tQ p.ax),.s (tQ p.ay),.s (tQ p.h)]):Nat×List PV)) l.length with⟨s1,s2⟩|⟨k,hk,s2,s1⟩
  ·rw[s1] at key
   have hall:(l.all fun d=>decide (q1o d p))=true:=(qBC l _).2 s2
   simp only[Option.getD_none] at key
   simp only[STD,h2,hall]
   have key':=key
   simp only[show ((0:Nat):Int)=0 from rfl] at key'
   simp only[STD,key',zk key',show ieq 0 0=true from rfl]
  ·rw[s1] at key
   have hall:=qCr (p:=fun d=>decide (q1o d p)) hk s2
   simp only[Option.getD_some] at key
   simp only[STD,h2,hall]
   have key':=key
   simp only[show ((0:Nat):Int)=0 from rfl] at key'
   simp only[STD,key',zk key',show ¬(1=0) by omega,show (0:Int)≤(k:Int) by omega]
end Go.Eng

namespace Go.Eng
theorem q8z{S:List PV→TR}{α:Type}(st:Nat→List PV)(f:Nat→Option α)(g:α→List PV)(fin:List PV)(n:Nat)(hn:n<9223372036854775808)
  (h:∀i,i<n→(S (st i)).run=(f i).elim (some (0,st (i+1))) (fun a=>some (2,g a))) (h3:(S (st n)).run=some (1,fin)) :
  (qh S (st 0)).run=some ((q0U f 0 n).elim (0,fin) (fun a=>(1,g a))):=by
 have key:=qjH st (fun i=>(f i).map fun a=>(1,g a)) (0,fin) n hn (fun i hi hf=>by
  rw[h i hi]
  cases hfi:f i with
  | none=>rfl
  | some a=>rw[hfi] at hf;cases hf) (fun i r hi hf=>by
  rw[h i hi]
  cases hfi:f i with
  | none=>rw[hfi] at hf;cases hf
  | some a=>rw[hfi] at hf;simp at hf;rw[←hf];rfl) h3
 rw[key,qr7]
 cases q0U f 0 n<;>rfl
def sd(s:Nat):Int:=cI [[.i 0],[.i 1],[.i (-1)]] (s:Int) 0
theorem qwW(l:List DQ)(i j:Nat):q0U (fun s=>qmw l i j (sd s)) 0 3=qdP l i j:=by
 have e0:sd 0=0:=rfl
 have e1:sd 1=1:=rfl
 have e2:sd 2=-1:=rfl
 simp only[q0U,e0,e1,e2]
 unfold qdP
 cases qmw l i j 0
 ·cases qmw l i j 1
  ·cases qmw l i j (-1)<;>rfl
  ·rfl
 ·rfl
def dex(l:List DQ)(w:Nat×Nat×Int):List PV:=[.i 0,.r (rD l),.i (w.1:Int),.i (w.2.1:Int),.i w.2.2,.b true,.i (l.length:Int)]
def fW(o:Option (Nat×Nat×Int)):List PV:=o.elim [.i 0,.i 0,.i 0,.b false] (fun w=>[.i (w.1:Int),.i (w.2.1:Int),.i w.2.2,.b true])
theorem n3:qf [[U.i 0],[U.i 1],[U.i (-1)]]=3:=rfl
set_option maxHeartbeats 600000 in
theorem quT{l:List DQ}(hl:GDs l)(hn:l.length<1000000):(qE [.r (rD l),.i 0]).run=some (0,fW (vD l)++[.i 0]):=by
 rw[qhv]
 have big:l.length<9223372036854775808:=by omega
 have A:=q8z (S:=vq) (fun k=>[.i (l.length:Int),.i (k:Int),.i 0,.r (rD l),.i 0,.i 0,.i 0,.b false,.i (l.length:Int)]) (fun k=>qmw l k k 0) (dex l)
  [.i 0,.r (rD l),.i 0,.i 0,.i 0,.b false,.i (l.length:Int)] l.length big
  (fun k hk=>by
   rw[q42]
   have hp:=qrl hl hn hk hk 0
   unfold qmw
   by_cases c:q3L l k k 0=true
   ·rw[if_pos c]
    simp only[STD,hp,c,show (k:Int)<(l.length:Int) by omega,dex]
   ·rw[if_neg c]
    simp only[STD,hp,c,show (k:Int)<(l.length:Int) by omega,q2U hk big]
    rfl)
  (by rw[q42];simp only[STD,show ¬(l.length:Int)<(l.length:Int) by omega])
 have B:=fun i j (hi:i<l.length) (hj:j<l.length)=>q8z (S:=wN) (fun s=>[.i (i:Int),.i (j:Int),.i (l.length:Int),.i (i:Int),.i 3,.i (s:Int),.i 0,.r (rD l),.i 0,.i 0,.i 0,.b false,.i (l.length:Int),.r [[.i 0],[.i 1],[.i (-1)]]]) (fun s=>qmw l i j (sd s)) (dex l)
  [.i (i:Int),.i (j:Int),.i (l.length:Int),.i (i:Int),.i 0,.r (rD l),.i 0,.i 0,.i 0,.b false,.i (l.length:Int)] 3 (by omega)
  (fun s hs=>by
   rw[q3t]
   have hp:=qrl hl hn hi hj (sd s)
   have esd:cI [[.i 0],[.i 1],[.i (-1)]] (s:Int) 0=sd s:=rfl
   unfold qmw
   by_cases c:q3L l i j (sd s)=true
   ·rw[if_pos c]
    simp only[STD,hp,c,esd,n3,show (s:Int)<3 by omega,show (0:Int)≤(s:Int) by omega,and_self,dex]
   ·rw[if_neg c]
    simp only[STD,hp,c,esd,n3,show (s:Int)<3 by omega,show (0:Int)≤(s:Int) by omega,and_self,q2U hs (show 3<9223372036854775808 by omega)]
    rfl)
  (by rw[q3t];simp only[STD,show ((3:Nat):Int)=3 from rfl,show ¬(3:Int)<3 by omega])
 have C:=fun i (hi:i<l.length)=>q8z (S:=wS) (fun k=>[.i (i:Int),.i ((i+1+k:Nat):Int),.i (l.length:Int),.i (i:Int),.i 0,.r (rD l),.i 0,.i 0,.i 0,.b false,.i (l.length:Int)]) (fun k=>qdP l i (i+1+k)) (dex l)
  [.i (l.length:Int),.i (i:Int),.i 0,.r (rD l),.i 0,.i 0,.i 0,.b false,.i (l.length:Int)] (l.length-(i+1)) (by omega)
  (fun k hk=>by
   rw[q3u]
   have hj:i+1+k<l.length:=by omega
   have b:=B i (i+1+k) hi hj
   rw[qwW] at b
   simp only[show ((0:Nat):Int)=0 from rfl] at b
   have w:=q2U hj big
   cases hs:qdP l i (i+1+k) with
   | none=>
    rw[hs] at b
    simp only[Option.elim] at b ⊢
    simp only[STD,b,zk b,n3,show ((i+1+k:Nat):Int)<(l.length:Int) by omega,w]
    rfl
   | some v=>
    rw[hs] at b
    simp only[Option.elim,dex] at b ⊢
    simp only[STD,b,zk b,n3,show ((i+1+k:Nat):Int)<(l.length:Int) by omega,show ¬(1=0) by omega])
  (by rw[q3u];simp only[STD,show ¬((i+1+(l.length-(i+1)):Nat):Int)<(l.length:Int) by omega])
 have D:=q8z (S:=vJ) (fun i=>[.i (l.length:Int),.i (i:Int),.i 0,.r (rD l),.i 0,.i 0,.i 0,.b false,.i (l.length:Int)]) (fun i=>q0U (fun k=>qdP l i (i+1+k)) 0 (l.length-(i+1))) (dex l)
  [.i 0,.r (rD l),.i 0,.i 0,.i 0,.b false,.i (l.length:Int)] l.length big
  (fun i hi=>by
   rw[q49]
   have c:=C i hi
   simp only[Nat.add_zero] at c
   have w:=q2U hi big
   cases hs:q0U (fun k=>qdP l i (i+1+k)) 0 (l.length-(i+1)) with
   | none=>
    rw[hs] at c
    simp only[Option.elim] at c ⊢
    simp only[STD,w,c,zk c,show (i:Int)<(l.length:Int) by omega]
   | some v=>
    rw[hs] at c
    simp only[Option.elim,dex] at c ⊢
    simp only[STD,w,c,zk c,show (i:Int)<(l.length:Int) by omega,show ¬(1=0) by omega])
  (by rw[q49];simp only[STD,show ¬(l.length:Int)<(l.length:Int) by omega])
 simp only[show ((0:Nat):Int)=0 from rfl] at A D
 unfold vD
 cases hs:q0U (fun i=>qmw l i i 0) 0 l.length with
 | some v=>
  rw[hs] at A
  simp only[Option.elim,dex] at A
  simp only[STD,zv,A,zk A,show ¬(1=0) by omega,fW,Option.elim]
  rfl
 | none=>
  rw[hs] at A
  simp only[Option.elim] at A
  simp only[]
  cases hs':q0U (fun i=>q0U (fun k=>qdP l i (i+1+k)) 0 (l.length-(i+1))) 0 l.length with
  | none=>
   rw[hs'] at D
   simp only[Option.elim] at D
   simp only[STD,zv,A,zk A,D,zk D,fW,Option.elim]
   rfl
  | some v=>
   rw[hs'] at D
   simp only[Option.elim,dex] at D
   simp only[STD,zv,A,zk A,D,zk D,fW,Option.elim,show ¬(1=0) by omega]
   rfl
end Go.Eng

namespace Go.Eng
theorem qD0{d:DQ}(h:GD d):qCs (tQ d.x) (tQ d.y) (tQ d.s)=0:=
 qC9 ((vM h.x).ok (by omega) (by omega)) ((vM h.y).ok (by omega) (by omega)) ((q8d h.s).ok (by omega) (by omega)) h.nn
end Go.Eng

namespace Go.Eng
noncomputable def cD(x:R)(i:Nat):Int:=qCs (cS x (i:Int) 0) (cS x (i:Int) 1) (cS x (i:Int) 2)
noncomputable def lE(x:R):Int:=if 64<x.length then 5 else if q4W (cD x) x.length=0 then (if x.length=0 then 13 else 0) else q4W (cD x) x.length
theorem qsd(x:R)(h:64<x.length∨∀i,i<x.length→∀j,(cS x (i:Int) j).length≤1000000):(zI [.r x]).run=some (0,[.i (lE x)]):=by
 rw[qqn]
 unfold lE
 by_cases hn:64<x.length
 ·have:(64:Int)<qf x:=by unfold qf;omega
  simp only[STD,this,hn]
 ·have h':∀i,i<x.length→∀j,(cS x (i:Int) j).length≤1000000:=by
   rcases h with h|h
   ·omega
   ·exact h
  have hn':¬(64:Int)<qf x:=by unfold qf;omega
  have L:=qdl (S:=q4e) (fun k=>[.r x,.r x,.i (qf x),.i (k:Int)]) (cD x) [] [.r x] x.length (by omega)
   (fun i hi=>by
    rw[qfD]
    have c:=qqW _ _ _ (h' i hi 0) (h' i hi 1) (h' i hi 2)
    have w:=q2U hi (show x.length<9223372036854775808 by omega)
    by_cases e:qCs (cS x (i:Int) 0) (cS x (i:Int) 1) (cS x (i:Int) 2)=0
    ·simp only[STD,c,e,w,qdV hi,uL,and_self,cD]
    ·simp only[STD,c,e,qdV hi,uL,and_self,cD])
   (by rw[qfD];simp only[STD,qmr])
  simp only[show ((0:Nat):Int)=0 from rfl] at L
  by_cases e:q4W (cD x) x.length=0
  ·rw[if_pos e] at L
   by_cases z:x.length=0
   ·have:qf x=0:=by unfold qf;omega
    rw[if_neg hn,if_pos e,if_pos z]
    have L':=L
    rw[this] at L'
    simp only[STD,this,show ¬(64:Int)<0 by omega,L',zk L']
   ·have:¬qf x=0:=by unfold qf;omega
    simp only[STD,hn',L,zk L,hn,e,z,this]
  ·rw[if_neg e] at L
   simp only[STD,hn',L,zk L,hn,e,show ¬(1=0) by omega]
instance (s:List UInt8):Decidable (shT s):=by unfold shT;infer_instance
theorem qCj(x:R)(i:Nat)(j:Nat):cS x (i:Int) j=((x.getD i []).getD j (.i 0)).toS:=rfl
theorem qE9{l:List DQ}(hl:GDs l)(h0:l≠[])(hn:l.length≤64):lE (rD l)=0:=by
 have hlen:(rD l).length=l.length:=by simp[rD]
 have hz:l.length≠0:=fun h=>h0 (List.length_eq_zero_iff.1 h)
 unfold lE
 rw[hlen,if_neg (by omega),if_neg hz,if_pos]
 refine qmO fun i hi=>?_
 obtain⟨x1,x2,x3⟩:=qsR hi
 unfold cD
 rw[x1,x2,x3]
 exact qD0 (hl.ix hi)
theorem qC4{l:List DQ}(hl:GDs l):∀i,i<(rD l).length→∀j,(cS (rD l) (i:Int) j).length≤1000000:=by
 intro i hi j
 have hi':i<l.length:=by simpa[rD] using hi
 obtain⟨x1,x2,x3⟩:=qsR hi'
 have g:=hl.ix hi'
 match j with
 | 0=>rw[x1];have:=qml ((vM g.x).ok (by omega) (by omega));omega
 | 1=>rw[x2];have:=qml ((vM g.y).ok (by omega) (by omega));omega
 | 2=>rw[x3];have:=qml ((q8d g.s).ok (by omega) (by omega));omega
 | j+3=>
  rw[qCj]
  have e:(rD l).getD i []=qev (ix l i):=by
   unfold rD ix
   simp[List.getD_eq_getElem?_getD,hi']
  rw[e];simp[qev,List.getD_eq_getElem?_getD,U.toS]
theorem qno{l:List DQ}(hl:GDs l)(h0:l≠[])(hn:l.length≤64):(zI [.r (rD l)]).run=some (0,[.i 0]):=by
 rw[qsd _ (.inr (qC4 hl)),qE9 hl h0 hn]
def cW(o:Option (Nat×Nat×Int)):List PV:=o.elim [.b false,.i 0,.i 0,.i 0,.i 0] (fun w=>[.b true,.i (w.1:Int),.i (w.2.1:Int),.i w.2.2,.i 0])
theorem qvp{l:List DQ}(hl:GDs l)(h0:l≠[])(hn:l.length≤64):(q3T [.r (rD l)]).run=some (0,cW (vD l)):=by
 rw[qnh]
 have a:=qno hl h0 hn
 have b:=quT hl (by omega)
 cases hf:vD l with
 | none=>
  rw[hf] at b
  simp only[fW,Option.elim,List.cons_append,List.nil_append] at b
  simp only[STD,a,b,cW,Option.elim]
 | some w=>
  rw[hf] at b
  simp only[fW,Option.elim,List.cons_append,List.nil_append] at b
  simp only[STD,a,b,cW,Option.elim]
def vE(n x1 x2 x3:Int):Int:=if x1<0∨n≤x1∨x2<0∨n≤x2 then 2 else if x2<x1 then 9 else if x3 < -1∨1<x3 then 1 else 0
def vB(l:List DQ)(x1 x2 x3:Int):Bool:=if vE l.length x1 x2 x3=0 then q3L l x1.toNat x2.toNat x3 else false
theorem quc{l:List DQ}(hl:GDs l)(h0:l≠[])(hn:l.length≤64)(x1 x2 x3:Int):(q1K [.r (rD l),.i x1,.i x2,.i x3]).run=some (0,[.b (vB l x1 x2 x3),.i (vE l.length x1 x2 x3)]):=by
 rw[qmI]
 have a:=qno hl h0 hn
 unfold vB vE
 by_cases c1:x1<0
 ·simp only[STD,a,c1,true_or,show ¬((2:Int)=0) by omega]
 by_cases c2:(l.length:Int)≤x1
 ·simp only[STD,a,c1,c2,zv,true_or,or_true,show ¬((2:Int)=0) by omega]
 by_cases c3:x2<0
 ·simp only[STD,a,c1,c2,c3,zv,true_or,or_true,show ¬((2:Int)=0) by omega]
 by_cases c4:(l.length:Int)≤x2
 ·simp only[STD,a,c1,c2,c3,c4,zv,or_true,show ¬((2:Int)=0) by omega]
 by_cases c5:x2<x1
 ·simp only[STD,a,c1,c2,c3,c4,c5,zv,or_self,show ¬((9:Int)=0) by omega]
 by_cases c6:x3 < -1
 ·simp only[STD,a,c1,c2,c3,c4,c5,c6,zv,or_self,true_or,show ¬((1:Int)=0) by omega]
 by_cases c7:1<x3
 ·simp only[STD,a,c1,c2,c3,c4,c5,c6,c7,zv,or_self,or_true,show ¬((1:Int)=0) by omega]
 have p:=qrl hl (by omega) (i:=x1.toNat) (j:=x2.toNat) (by omega) (by omega) x3
 rw[show ((x1.toNat:Nat):Int)=x1 by omega,show ((x2.toNat:Nat):Int)=x2 by omega] at p
 simp only[STD,a,c1,c2,c3,c4,c5,c6,c7,zv,or_self,p]
end Go.Eng

namespace Go.Eng
theorem q4I(l:R)(h:l.length<9223372036854775808):(qK [.r l,.r l]).run=some (0,[.b true]):=by
 have e:(qh vz [.r l,.r l,.i (qf l),.i 0]).run=some (0,[]):=by
  refine wB (fun i=>[.r l,.r l,.i (qf l),.i (i:Int)]) (0,[]) l.length h (fun i hi=>?_) ?_
  ·have h1:(i:Int)<qf l:=by unfold qf;omega
   rw[q3U]
   simp only[STD,h1,q2U hi h,show (0:Int)≤(i:Int) by omega,and_self]
  ·rw[q3U]
   simp only[STD,show ¬((l.length:Int)<qf l) by unfold qf;omega]
 rw[qdI]
 simp only[STD,e,zk e]
end Go.Eng

namespace Go.Eng
def two(i j:Nat):R:=[[.i (i:Int)],[.i (j:Int)]]
def qhW(i j k:Nat):R:=[[.i (i:Int)],[.i (j:Int)],[.i (k:Int)]]
def q9p(l:List DQ)(i j:Nat):Option R:=if (vD [ix l i,ix l j]).isSome=true then none else some (two i j)
def q9j(l:List DQ)(i j k:Nat):Option R:=if (vD [ix l i,ix l j,ix l k]).isSome=true then none else some (qhW i j k)
def qrd(l:List DQ):Option R:=q0U (fun i=>q0U (fun k=>q9p l i (i+1+k)) 0 (l.length-(i+1))) 0 l.length
def qtv(l:List DQ):Option R:=q0U (fun i=>q0U (fun k=>q0U (fun m=>q9j l i (i+1+k) (i+1+k+1+m)) 0 (l.length-(i+1+k+1))) 0 (l.length-(i+1))) 0 l.length
def yJ(l:List DQ):R:=(qrd l).elim ((qtv l).getD []) id
theorem qEv{a b:DQ}(ga:GD a)(gb:GD b):GDs [a,b]:=fun d hd=>by
 simp only[List.mem_cons,List.not_mem_nil,or_false] at hd
 rcases hd with rfl|rfl<;>assumption
theorem qEr{a b c:DQ}(ga:GD a)(gb:GD b)(gc:GD c):GDs [a,b,c]:=fun d hd=>by
 simp only[List.mem_cons,List.not_mem_nil,or_false] at hd
 rcases hd with rfl|rfl|rfl<;>assumption
theorem qz4(o:Option (Nat×Nat×Int)):∃a b c,fW o=[.i a,.i b,.i c,.b o.isSome]:=by
 cases o with
 | none=>exact⟨_,_,_,rfl⟩
 | some w=>exact⟨_,_,_,rfl⟩
theorem qEl(l:List DQ)(i j k:Nat)(hk:k<2):∃m,(m=i∨m=j)∧cI (two i j) (k:Int) 0=(m:Int)∧[qev (ix l i),qev (ix l j)].take (k+1)=[qev (ix l i),qev (ix l j)].take k++[qev (ix l m)]:=by
 rcases (show k=0∨k=1 by omega) with rfl|rfl
 ·exact⟨i,.inl rfl,rfl,rfl⟩
 ·exact⟨j,.inr rfl,rfl,rfl⟩
theorem qEh(l:List DQ)(i j o k:Nat)(hk:k<3):∃m,(m=i∨m=j∨m=o)∧cI (qhW i j o) (k:Int) 0=(m:Int)∧[qev (ix l i),qev (ix l j),qev (ix l o)].take (k+1)=[qev (ix l i),qev (ix l j),qev (ix l o)].take k++[qev (ix l m)]:=by
 rcases (show k=0∨k=1∨k=2 by omega) with rfl|rfl|rfl
 ·exact⟨i,.inl rfl,rfl,rfl⟩
 ·exact⟨j,.inr (.inl rfl),rfl,rfl⟩
 ·exact⟨o,.inr (.inr rfl),rfl,rfl⟩
theorem qtP{x:R}{k:Nat}:qf (x.take k)≤qf x:=by unfold qf;rw[List.length_take];omega
theorem qwB(i j:Nat):qf (two i j)=2:=rfl
theorem qq7(i j k:Nat):qf (qhW i j k)=3:=rfl
theorem qyW{l:List DQ}(_:l.length<1000000){i j:Nat}(hi:i<l.length)(hj:j<l.length)(a b c d e f g h:Int) :
  (qh ze [.i (qf (two i j)),.i 0,.i a,.i b,.i c,.i d,.i e,.r (rD l),.i f,.i g,.i h,.r (rD l),.i 0,.r (two i j),.r []]).run=some (0,[.i a,.i b,.i c,.i d,.i e,.r (rD l),.i f,.i g,.i h,.r (rD l),.i 0,.r (two i j),.r (rD [ix l i,ix l j])]):=by
 have key:=wB (S:=ze) (fun k=>[.i (qf (two i j)),.i (k:Int),.i a,.i b,.i c,.i d,.i e,.r (rD l),.i f,.i g,.i h,.r (rD l),.i 0,.r (two i j),.r ([qev (ix l i),qev (ix l j)].take k)])
  (0,[.i a,.i b,.i c,.i d,.i e,.r (rD l),.i f,.i g,.i h,.r (rD l),.i 0,.r (two i j),.r (rD [ix l i,ix l j])]) 2 (by omega)
  (fun k hk=>by
   rw[q0V]
   obtain⟨m,hm,e1,e2⟩:=qEl l i j k hk
   have hml:m<l.length:=by rcases hm with rfl|rfl<;>assumption
   obtain⟨x1,x2,x3⟩:=qsR hml
   have w:=q2U hk (show 2<9223372036854775808 by omega)
   have t:=qtP (x:=[qev (ix l i),qev (ix l j)]) (k:=k)
   have t2:qf [qev (ix l i),qev (ix l j)]=2:=rfl
   have t1:qf [[U.s (tQ (ix l m).x),U.s (tQ (ix l m).y),U.s (tQ (ix l m).s)]]=1:=rfl
   rw[e1,x1,x2,x3,e2]
   simp only[STD,qwB,show (k:Int)<2 by omega,uL,zv,show (m:Int)<(l.length:Int) by omega,and_self,w,show qf ([qev (ix l i),qev (ix l j)].take k)+qf [[U.s (tQ (ix l m).x),U.s (tQ (ix l m).y),U.s (tQ (ix l m).s)]]≤2932031007402 by omega]
   rfl)
  (by rw[q0V];simp only[STD,qwB,show ¬((2:Nat):Int)<2 by omega];rfl)
 exact key
theorem qzd{l:List DQ}(_:l.length<1000000){i j o:Nat}(hi:i<l.length)(hj:j<l.length)(ho:o<l.length)(a b c d e f g h p q:Int) :
  (qh zd [.i (qf (qhW i j o)),.i 0,.i a,.i b,.i c,.i d,.i e,.i f,.r (rD l),.i g,.i h,.i p,.i q,.r (rD l),.i 0,.r (qhW i j o),.r []]).run=some (0,[.i a,.i b,.i c,.i d,.i e,.i f,.r (rD l),.i g,.i h,.i p,.i q,.r (rD l),.i 0,.r (qhW i j o),.r (rD [ix l i,ix l j,ix l o])]):=by
 have key:=wB (S:=zd) (fun k=>[.i (qf (qhW i j o)),.i (k:Int),.i a,.i b,.i c,.i d,.i e,.i f,.r (rD l),.i g,.i h,.i p,.i q,.r (rD l),.i 0,.r (qhW i j o),.r ([qev (ix l i),qev (ix l j),qev (ix l o)].take k)])
  (0,[.i a,.i b,.i c,.i d,.i e,.i f,.r (rD l),.i g,.i h,.i p,.i q,.r (rD l),.i 0,.r (qhW i j o),.r (rD [ix l i,ix l j,ix l o])]) 3 (by omega)
  (fun k hk=>by
   rw[q0X]
   obtain⟨m,hm,e1,e2⟩:=qEh l i j o k hk
   have hml:m<l.length:=by rcases hm with rfl|rfl|rfl<;>assumption
   obtain⟨x1,x2,x3⟩:=qsR hml
   have w:=q2U hk (show 3<9223372036854775808 by omega)
   have t:=qtP (x:=[qev (ix l i),qev (ix l j),qev (ix l o)]) (k:=k)
   have t2:qf [qev (ix l i),qev (ix l j),qev (ix l o)]=3:=rfl
   have t1:qf [[U.s (tQ (ix l m).x),U.s (tQ (ix l m).y),U.s (tQ (ix l m).s)]]=1:=rfl
   rw[e1,x1,x2,x3,e2]
   simp only[STD,qq7,show (k:Int)<3 by omega,uL,zv,show (m:Int)<(l.length:Int) by omega,and_self,w,show qf ([qev (ix l i),qev (ix l j),qev (ix l o)].take k)+qf [[U.s (tQ (ix l m).x),U.s (tQ (ix l m).y),U.s (tQ (ix l m).s)]]≤2932031007402 by omega]
   rfl)
  (by rw[q0X];simp only[STD,qq7,show ¬((3:Nat):Int)<3 by omega];rfl)
 exact key
theorem quY{l:List DQ}(hl:GDs l)(h0:l≠[])(hn:l.length≤64):(jZ [.r (rD l)]).run=some (0,[.r (yJ l),.i 0]):=by
 rw[qep]
 have a:=qno hl h0 hn
 have big:l.length<9223372036854775808:=by omega
 have A:=fun i (hi:i<l.length)=>q8z (S:=vt) (fun k=>[.i (i:Int),.i ((i+1+k:Nat):Int),.i (l.length:Int),.i (i:Int),.r (rD l),.i 0]) (fun k=>q9p l i (i+1+k)) (fun r=>[.i 0,.r r])
  [.i (l.length:Int),.i (i:Int),.r (rD l),.i 0] (l.length-(i+1)) (by omega)
  (fun k hk=>by
   rw[q46]
   have hj:i+1+k<l.length:=by omega
   have g:=qyW (l:=l) (by omega) hi hj (i:Int) ((i+1+k:Nat):Int) (l.length:Int) (i:Int) ((i+1+k:Nat):Int) (l.length:Int) (i:Int) ((i+1+k:Nat):Int)
   have f:=quT (qEv (hl.ix hi) (hl.ix hj)) (by simp)
   obtain⟨u,v,w,hfw⟩:=qz4 (vD [ix l i,ix l (i+1+k)])
   rw[hfw] at f
   simp only[List.cons_append,List.nil_append] at f
   have ws:=q2U hj big
   have tw:[[U.i (i:Int)],[U.i ((i+1+k:Nat):Int)]]=two i (i+1+k):=rfl
   rw[tw]
   unfold q9p
   cases hs:(vD [ix l i,ix l (i+1+k)]).isSome
   ·rw[hs] at f
    simp only[STD,zv,g,f,show ((i+1+k:Nat):Int)<(l.length:Int) by omega,show ieq 0 0=true from rfl,Option.elim,tw]
   ·rw[hs] at f
    simp only[STD,zv,g,f,show ((i+1+k:Nat):Int)<(l.length:Int) by omega,Option.elim,ws]
    rfl)
  (by rw[q46];simp only[STD,zv,show ¬((i+1+(l.length-(i+1)):Nat):Int)<(l.length:Int) by omega])
 have B:=q8z (S:=vQ) (fun i=>[.i (l.length:Int),.i (i:Int),.r (rD l),.i 0]) (fun i=>q0U (fun k=>q9p l i (i+1+k)) 0 (l.length-(i+1))) (fun r=>[.i 0,.r r])
  [.r (rD l),.i 0] l.length big
  (fun i hi=>by
   rw[q4Z]
   have c:=A i hi
   simp only[Nat.add_zero] at c
   have w:=q2U hi big
   cases hs:q0U (fun k=>q9p l i (i+1+k)) 0 (l.length-(i+1)) with
   | none=>
    rw[hs] at c
    simp only[Option.elim] at c ⊢
    simp only[STD,w,c,zk c,show (i:Int)<(l.length:Int) by omega]
   | some v=>
    rw[hs] at c
    simp only[Option.elim] at c ⊢
    simp only[STD,w,c,zk c,show (i:Int)<(l.length:Int) by omega,show ¬(1=0) by omega])
  (by rw[q4Z];simp only[STD,show ¬(l.length:Int)<(l.length:Int) by omega])
 have C:=fun i j (hi:i<l.length) (hj:j<l.length)=>q8z (S:=vr) (fun k=>[.i (i:Int),.i (j:Int),.i ((j+1+k:Nat):Int),.i (l.length:Int),.i (i:Int),.r (rD l),.i 0]) (fun k=>q9j l i j (j+1+k)) (fun r=>[.i 0,.r r])
  [.i (i:Int),.i (j:Int),.i (l.length:Int),.i (i:Int),.r (rD l),.i 0] (l.length-(j+1)) (by omega)
  (fun k hk=>by
   rw[q4b]
   have ho:j+1+k<l.length:=by omega
   have g:=qzd (l:=l) (by omega) hi hj ho (i:Int) (j:Int) ((j+1+k:Nat):Int) (l.length:Int) (i:Int) ((j+1+k:Nat):Int) (l.length:Int) (i:Int) (j:Int) ((j+1+k:Nat):Int)
   have f:=quT (qEr (hl.ix hi) (hl.ix hj) (hl.ix ho)) (by simp)
   obtain⟨u,v,w,hfw⟩:=qz4 (vD [ix l i,ix l j,ix l (j+1+k)])
   rw[hfw] at f
   simp only[List.cons_append,List.nil_append] at f
   have ws:=q2U ho big
   have tw:[[U.i (i:Int)],[U.i (j:Int)],[U.i ((j+1+k:Nat):Int)]]=qhW i j (j+1+k):=rfl
   rw[tw]
   unfold q9j
   cases hs:(vD [ix l i,ix l j,ix l (j+1+k)]).isSome
   ·rw[hs] at f
    simp only[STD,zv,g,f,show ((j+1+k:Nat):Int)<(l.length:Int) by omega,show ieq 0 0=true from rfl,Option.elim,tw]
   ·rw[hs] at f
    simp only[STD,zv,g,f,show ((j+1+k:Nat):Int)<(l.length:Int) by omega,Option.elim,ws]
    rfl)
  (by rw[q4b];simp only[STD,zv,show ¬((j+1+(l.length-(j+1)):Nat):Int)<(l.length:Int) by omega])
 have D:=fun i (hi:i<l.length)=>q8z (S:=vw) (fun k=>[.i (i:Int),.i ((i+1+k:Nat):Int),.i (l.length:Int),.i (i:Int),.r (rD l),.i 0]) (fun k=>q0U (fun m=>q9j l i (i+1+k) (i+1+k+1+m)) 0 (l.length-(i+1+k+1))) (fun r=>[.i 0,.r r])
  [.i (l.length:Int),.i (i:Int),.r (rD l),.i 0] (l.length-(i+1)) (by omega)
  (fun k hk=>by
   rw[q3Y]
   have hj:i+1+k<l.length:=by omega
   have c:=C i (i+1+k) hi hj
   simp only[Nat.add_zero] at c
   have w:=q2U hj big
   cases hs:q0U (fun m=>q9j l i (i+1+k) (i+1+k+1+m)) 0 (l.length-(i+1+k+1)) with
   | none=>
    rw[hs] at c
    simp only[Option.elim] at c ⊢
    simp only[STD,w,c,zk c,zv,show ((i+1+k:Nat):Int)<(l.length:Int) by omega]
    rfl
   | some v=>
    rw[hs] at c
    simp only[Option.elim] at c ⊢
    simp only[STD,w,c,zk c,zv,show ((i+1+k:Nat):Int)<(l.length:Int) by omega,show ¬(1=0) by omega])
  (by rw[q3Y];simp only[STD,zv,show ¬((i+1+(l.length-(i+1)):Nat):Int)<(l.length:Int) by omega])
 have E:=q8z (S:=vk) (fun i=>[.i (l.length:Int),.i (i:Int),.r (rD l),.i 0]) (fun i=>q0U (fun k=>q0U (fun m=>q9j l i (i+1+k) (i+1+k+1+m)) 0 (l.length-(i+1+k+1))) 0 (l.length-(i+1))) (fun r=>[.i 0,.r r])
  [.i 0] l.length big
  (fun i hi=>by
   rw[q4h]
   have c:=D i hi
   simp only[Nat.add_zero] at c
   have w:=q2U hi big
   cases hs:q0U (fun k=>q0U (fun m=>q9j l i (i+1+k) (i+1+k+1+m)) 0 (l.length-(i+1+k+1))) 0 (l.length-(i+1)) with
   | none=>
    rw[hs] at c
    simp only[Option.elim] at c ⊢
    simp only[STD,w,c,zk c,show (i:Int)<(l.length:Int) by omega]
   | some v=>
    rw[hs] at c
    simp only[Option.elim] at c ⊢
    simp only[STD,w,c,zk c,show (i:Int)<(l.length:Int) by omega,show ¬(1=0) by omega])
  (by rw[q4h];simp only[STD,show ¬(l.length:Int)<(l.length:Int) by omega])
 simp only[show ((0:Nat):Int)=0 from rfl] at B E
 unfold yJ
 cases hp:qrd l with
 | some r=>
  rw[show q0U (fun i=>q0U (fun k=>q9p l i (i+1+k)) 0 (l.length-(i+1))) 0 l.length=some r from hp] at B
  simp only[Option.elim] at B
  simp only[STD,a,zv,B,zk B,Option.elim,id,show ¬(1=0) by omega]
 | none=>
  rw[show q0U (fun i=>q0U (fun k=>q9p l i (i+1+k)) 0 (l.length-(i+1))) 0 l.length=none from hp] at B
  simp only[Option.elim] at B
  cases ht:qtv l with
  | some r=>
   rw[show q0U (fun i=>q0U (fun k=>q0U (fun m=>q9j l i (i+1+k) (i+1+k+1+m)) 0 (l.length-(i+1+k+1))) 0 (l.length-(i+1))) 0 l.length=some r from ht] at E
   simp only[Option.elim] at E
   simp only[STD,a,zv,B,zk B,E,zk E,Option.elim,Option.getD_some,show ¬(1=0) by omega]
  | none=>
   rw[show q0U (fun i=>q0U (fun k=>q0U (fun m=>q9j l i (i+1+k) (i+1+k+1+m)) 0 (l.length-(i+1+k+1))) 0 (l.length-(i+1))) 0 l.length=none from ht] at E
   simp only[Option.elim] at E
   simp only[STD,a,zv,B,zk B,E,zk E,Option.elim,Option.getD_none]
end Go.Eng

namespace Go.Eng
def mvD(u v:Rat)(d:DQ):DQ:=⟨d.x+u,d.y+v,d.s⟩
theorem qE3(d:DQ)(u v x y:Rat):pw (mvD u v d) (x+u) (y+v)=pw d x y:=by
 unfold pw mvD;grind
theorem qsq{l:List DQ}(u v:Rat)(h:qeG l):qeG (l.map (mvD u v)):=by
 obtain⟨x,y,hm⟩:=h
 refine⟨x+u,y+v,fun d' hd'=>?_⟩
 obtain⟨d,hd,rfl⟩:=List.mem_map.1 hd'
 rw[qE3];exact hm d hd
theorem qCC(u v:Rat)(l:List DQ):(l.map (mvD u v)).map (mvD (-u) (-v))=l:=by
 rw[List.map_map]
 have:(mvD (-u) (-v)∘mvD u v)=id:=by
  funext d
  show (⟨d.x+u+-u,d.y+v+-v,d.s⟩:DQ)=d
  have e1:d.x+u+-u=d.x:=by grind
  have e2:d.y+v+-v=d.y:=by grind
  rw[e1,e2]
 rw[this,List.map_id]
theorem qrR(u v:Rat)(l:List DQ):qeG (l.map (mvD u v))↔qeG l:=
 ⟨fun h=>by have:=qsq (-u) (-v) h;rwa [qCC] at this,qsq u v⟩
theorem qms{l:List DQ}(hs:∀d∈l,0≤d.s){i j:Nat}(hi:i<l.length)(hj:j<l.length):q9p l i j=none↔qeG [ix l i,ix l j]:=by
 have:=q6p (l:=[ix l i,ix l j]) (by simp) (fun d hd=>by
  simp only[List.mem_cons,List.not_mem_nil,or_false] at hd
  rcases hd with rfl|rfl
  ·exact hs _ (qc4 hi)
  ·exact hs _ (qc4 hj))
 rw[←this];unfold q9p
 split<;>simp_all
theorem qmT{l:List DQ}(hs:∀d∈l,0≤d.s){i j k:Nat}(hi:i<l.length)(hj:j<l.length)(hk:k<l.length):q9j l i j k=none↔qeG [ix l i,ix l j,ix l k]:=by
 have:=q6p (l:=[ix l i,ix l j,ix l k]) (by simp) (fun d hd=>by
  simp only[List.mem_cons,List.not_mem_nil,or_false] at hd
  rcases hd with rfl|rfl|rfl
  ·exact hs _ (qc4 hi)
  ·exact hs _ (qc4 hj)
  ·exact hs _ (qc4 hk))
 rw[←this];unfold q9j
 split<;>simp_all
theorem qwV{l:List DQ}(hs:∀d∈l,0≤d.s):(qrd l=none∧∀i j,i<j→j<l.length→qeG [ix l i,ix l j]) ∨
  ∃i j,i<j∧j<l.length∧qrd l=some (two i j)∧¬qeG [ix l i,ix l j]:=by
 cases h:qrd l with
 | none=>
  refine .inl ⟨rfl,fun i j hij hj=>?_⟩
  have h1:=q1C h i (by omega) (by omega)
  have h2:=q1C h1 (j-(i+1)) (by omega) (by omega)
  simp only[show i+1+(j-(i+1))=j by omega] at h2
  exact(qms hs (by omega) hj).1 h2
 | some a=>
  obtain⟨i,_,hi,h1,_⟩:=q2l h
  obtain⟨k,_,hk,h2,_⟩:=q2l h1
  refine .inr ⟨i,i+1+k,by omega,by omega,?_,?_⟩
  ·unfold q9p at h2
   split at h2
   ·cases h2
   ·exact h2.symm
  ·rw[←qms hs (by omega) (by omega),h2];simp
theorem qxG{l:List DQ}(hs:∀d∈l,0≤d.s):(qtv l=none∧∀i j k,i<j→j<k→k<l.length→qeG [ix l i,ix l j,ix l k]) ∨
  ∃i j k,i<j∧j<k∧k<l.length∧qtv l=some (qhW i j k)∧¬qeG [ix l i,ix l j,ix l k]:=by
 cases h:qtv l with
 | none=>
  refine .inl ⟨rfl,fun i j k hij hjk hk=>?_⟩
  have h1:=q1C h i (by omega) (by omega)
  have h2:=q1C h1 (j-(i+1)) (by omega) (by omega)
  simp only[show i+1+(j-(i+1))=j by omega] at h2
  have h3:=q1C h2 (k-(j+1)) (by omega) (by omega)
  simp only[show j+1+(k-(j+1))=k by omega] at h3
  exact(qmT hs (by omega) (by omega) hk).1 h3
 | some a=>
  obtain⟨i,_,hi,h1,_⟩:=q2l h
  obtain⟨k,_,hk,h2,_⟩:=q2l h1
  obtain⟨m,_,hm,h3,_⟩:=q2l h2
  refine .inr ⟨i,i+1+k,i+1+k+1+m,by omega,by omega,by omega,?_,?_⟩
  ·unfold q9j at h3
   split at h3
   ·cases h3
   ·exact h3.symm
  ·rw[←qmT hs (by omega) (by omega) (by omega),h3];simp
theorem qCQ{l:List DQ}{i j:Nat}(hi:i<l.length)(hj:j<l.length):∀d∈[ix l i,ix l j],d∈l:=fun d hd=>by
 simp only[List.mem_cons,List.not_mem_nil,or_false] at hd
 rcases hd with rfl|rfl
 ·exact qc4 hi
 ·exact qc4 hj
theorem qDI{l:List DQ}{i j k:Nat}(hi:i<l.length)(hj:j<l.length)(hk:k<l.length):∀d∈[ix l i,ix l j,ix l k],d∈l:=fun d hd=>by
 simp only[List.mem_cons,List.not_mem_nil,or_false] at hd
 rcases hd with rfl|rfl|rfl
 ·exact qc4 hi
 ·exact qc4 hj
 ·exact qc4 hk
theorem qlq{l:List DQ}(hs:∀d∈l,0≤d.s):(qeG l∧yJ l=[]) ∨
  (¬qeG l∧∃i j,i<j∧j<l.length∧yJ l=two i j∧¬qeG [ix l i,ix l j]) ∨
  (¬qeG l∧(∀i j,i<j→j<l.length→qeG [ix l i,ix l j])∧∃i j k,i<j∧j<k∧k<l.length∧yJ l=qhW i j k∧¬qeG [ix l i,ix l j,ix l k]):=by
 rcases qwV hs with⟨h1,h2⟩|⟨i,j,hij,hj,h1,h2⟩
 ·rcases qxG hs with⟨h3,h4⟩|⟨i,j,k,hij,hjk,hk,h3,h4⟩
  ·refine .inl ⟨qAt hs h2 h4,?_⟩
   unfold yJ;rw[h1,h3];rfl
  ·refine .inr (.inr ⟨fun h=>h4 (h.mono (qDI (by omega) (by omega) hk)),h2,i,j,k,hij,hjk,hk,?_,h4⟩)
   unfold yJ;rw[h1,h3];rfl
 ·refine .inr (.inl ⟨fun h=>h2 (h.mono (qCQ (by omega) hj)),i,j,hij,hj,?_,h2⟩)
  unfold yJ;rw[h1];rfl
end Go.Eng

namespace Go.Eng
def chk(x0 x1 x2 x3 x4 x5:Int)(x6:Bool):Int:=
 if ¬(-100000≤x0∧x0≤100000∧-100000≤x1∧x1≤100000∧1≤x2∧x2≤100000∧1≤x3∧x3≤100000) then 2
 else if x3<x2 then 9
 else if x4<0∨100000<x4∨(x6=false∧x2≤x4) then 2
 else if x5<0∨2<x5 then 1 else 0
theorem qkT(x:Int):(ux [.i x]).run=some (0,[.b (decide (-100000≤x∧x≤100000))]):=by
 rw[qvb];simp only[qf1,q5w,qbU];by_cases h:-100000≤x<;>simp[h,ile]
theorem qq9(x:Int):(q4T [.i x]).run=some (0,[.b (decide (-100000≤x∧x≤100000))]):=by
 rw[quR];simp only[qf1,q5w,qbU];by_cases h:-100000≤x<;>simp[h,ile]
theorem qf0(x:Int):(jQ [.i x]).run=some (0,[.b (decide (1≤x∧x≤100000))]):=by
 rw[qrv];simp only[qf1,q5w,qbU];by_cases h:1≤x<;>simp[h,ile]
theorem qfl(x:Int):(jY [.i x]).run=some (0,[.b (decide (1≤x∧x≤100000))]):=by
 rw[qr4];simp only[qf1,q5w,qbU];by_cases h:1≤x<;>simp[h,ile]
theorem q8T(x y:Int):(va [.i x,.i y]).run=some (0,[.b (decide (-100000≤x∧x≤100000∧-100000≤y∧y≤100000))]):=by
 rw[qoy];simp only[qf1,q5w,qlA (qq9 _),gB,qsU (qq9 _),List.getD_cons_zero,PV.toB,if_true,decide_eq_true_eq]
 by_cases h:-100000≤x<;>by_cases h2:x≤100000<;>simp[h,h2]
theorem q8p(x0 x1 x2 x3 x4 x5:Int)(x6:Bool):(jE [.i x0,.i x1,.i x2,.i x3,.i x4,.i x5,.b x6]).run=some (0,[.i (chk x0 x1 x2 x3 x4 x5 x6)]):=by
 rw[qoZ]
 simp only[qf1,q5w,qlA (qkT _),gB,qsU (qkT _),qlA (qf0 _),qsU (qf0 _),List.getD_cons_zero,PV.toB,if_true,Bool.not_eq_true',decide_eq_false_iff_not,qjY,qbU]
 unfold chk
 cases x6<;>simp only[reduceCtorEq,if_true,if_false,false_and,true_and,or_false]<;>repeat' split
 all_goals first|rfl|omega
theorem qcX(x0 x1 x2 x3 x4 x5:Int)(x6:Bool):(q2K [.i x0,.i x1,.i x2,.i x3,.i x4,.i x5,.b x6]).run=some (0,[.i (chk x0 x1 x2 x3 x4 x5 x6)]):=by
 rw[qoC]
 simp only[qf1,q5w,qlA (q8T _ _),gB,qsU (q8T _ _),qlA (qfl _),qsU (qfl _),List.getD_cons_zero,PV.toB,if_true,Bool.not_eq_true',decide_eq_false_iff_not,qjY,qbU]
 unfold chk
 cases x6<;>simp only[reduceCtorEq,if_true,if_false,false_and,true_and,or_false]<;>repeat' split
 all_goals first|rfl|omega
theorem qm4{x0 x1 x2 x3 x4 x5:Int}{x6:Bool}(h:chk x0 x1 x2 x3 x4 x5 x6=0):-100000≤x0∧x0≤100000∧-100000≤x1∧x1≤100000∧1≤x2∧x2≤100000∧1≤x3∧x3≤100000∧x2≤x3∧0≤x4∧x4≤100000∧(x6=false→x4<x2)∧0≤x5∧x5≤2:=by
 unfold chk at h
 repeat' split at h
 all_goals first|omega|skip
 rename_i h1 h2 h3 h4
 cases x6<;>simp at h3 ⊢<;>omega
def side(x5:Int)(x6:Bool):Int:=if (x5=2)=(x6=true) then -1 else 1
theorem qx9(x0 x1 x2 x3 x4 x5:Int)(x6:Bool)(h:0≤x5∧x5≤2):(qcf [.i x0,.i x1,.i x2,.i x3,.i x4,.i x5,.b x6]).run=some (0,[.i x0,.i x1,.i x2,.i x3,.i x4,.i x5,.b x6,.i (side x5 x6)]):=by
 rw[quH]
 have h012:x5=0∨x5=1∨x5=2:=by omega
 cases x6<;>rcases h012 with rfl|rfl|rfl<;>rfl
theorem q7s(x0 x1 x2 x3 x4 x5:Int)(x6:Bool)(x7 x8:Int):(jT [.i x0,.i x1,.i x2,.i x3,.i x4,.i x5,.b x6,.i x7,.i x8]).run=some (0,[.i (if x8<0 then x2 else x3)]):=by
 rw[qem]
 simp only[qf1,q5w,qjY]
 split<;>rfl
theorem qob(x0 x1 x2 x3 x4 x5:Int)(x6:Bool):(jU [.i x0,.i x1,.i x2,.i x3,.i x4,.i x5,.b x6]).run=some (0,if chk x0 x1 x2 x3 x4 x5 x6=0 then [.i (if (x5=2)=(x6=true) then x2-x4 else x3+x4),.i 0] else [.i 0,.i (chk x0 x1 x2 x3 x4 x5 x6)]):=by
 rw[qlX]
 simp only[qf1,q5w,gB,gI,List.getD_cons_zero,PV.toB,PV.toI,if_true,qr9,qlA (q8p _ _ _ _ _ _ _),qsU (q8p _ _ _ _ _ _ _)]
 by_cases hc:chk x0 x1 x2 x3 x4 x5 x6=0
 ·obtain⟨h1,h2,h3,h4,h5,h6,h7,h8,h9,h10,h11,h12,h13,h14⟩:=qm4 hc
  have e:=qx9 x0 x1 x2 x3 x4 x5 x6 ⟨h13,h14⟩
  simp only[hc,ne_eq,not_true_eq_false,if_false,qlA e,qsU e,List.getD_cons_zero,List.getD_cons_succ,if_true,qlA (q7s _ _ _ _ _ _ _ _ _),qsU (q7s _ _ _ _ _ _ _ _ _)]
  clear e hc
  congr 4
  unfold side
  split
  ·have e1:uk .i64 (-1) x4=-1*x4:=q19 (by omega)
   have e2:qj .i64 x2 (-1*x4)=x2+-1*x4:=z8 (by omega)
   rw[if_pos (show (-1:Int)<0 by decide),e1,e2];omega
  ·have e1:uk .i64 1 x4=1*x4:=q19 (by omega)
   have e2:qj .i64 x3 (1*x4)=x3+1*x4:=z8 (by omega)
   rw[if_neg (show ¬(1:Int)<0 by decide),e1,e2];omega
 ·simp[hc]
end Go.Eng

namespace Go.Eng
def ext(x2 x3 x5:Int)(x6:Bool)(n:Int):Int:=if x5=0 then 0 else if (x5=1)=(x6=true) then x3-n else n-x2
theorem qoV(x0 x1 x2 x3 x4 x5:Int)(x6:Bool)(n:Int):(kR [.i x0,.i x1,.i x2,.i x3,.i x4,.i x5,.b x6,.i n]).run=some (0,[.b (decide (x2≤n∧n≤x3))]):=by
 rw[qol];simp only[STD];by_cases h:x2≤n<;>simp[h,ile]
end Go.Eng

namespace Go.Eng
def qmH(a b c:Int):Int:=if -100000≤a∧a≤100000∧-100000≤b∧b≤100000∧1≤c∧c≤100000 then 0 else 2
theorem qke{a b c:Int}(h:qmH a b c=0):-100000≤a∧a≤100000∧-100000≤b∧b≤100000∧1≤c∧c≤100000:=by
 unfold qmH at h;split at h
 ·assumption
 ·omega
theorem qsI(a b c:Int):(q7g [.i a,.i b,.i c]).run=some (0,[.i (qmH a b c)]):=by
 rw[qrN];simp only[STD,qkT,qf0];unfold qmH
 repeat' split
 all_goals first|rfl|omega
theorem qtn(a b c:Int):(q2o [.i a,.i b,.i c]).run=some (0,[.i (qmH a b c)]):=by
 rw[qs4];simp only[STD,q8T,qfl];unfold qmH
 repeat' split
 all_goals first|rfl|omega
def qqc(x0 x1 x2 x3 x4 x5:Int)(x6:Bool)(a b c:Int):Int:=if chk x0 x1 x2 x3 x4 x5 x6=0 then qmH a b c else chk x0 x1 x2 x3 x4 x5 x6
theorem qwD{x0 x1 x2 x3 x4 x5:Int}{x6:Bool}{a b c:Int}(h:qqc x0 x1 x2 x3 x4 x5 x6 a b c=0):chk x0 x1 x2 x3 x4 x5 x6=0∧qmH a b c=0:=by
 unfold qqc at h;split at h
 ·exact⟨by assumption,h⟩
 ·exact absurd h (by assumption)
theorem qlw(x0 x1 x2 x3 x4 x5:Int)(x6:Bool)(a b c:Int):(q7f [.i x0,.i x1,.i x2,.i x3,.i x4,.i x5,.b x6,.i a,.i b,.i c]).run=some (0,[.i (qqc x0 x1 x2 x3 x4 x5 x6 a b c)]):=by
 rw[qrC];simp only[STD,q8p,qsI];unfold qqc
 by_cases hc:chk x0 x1 x2 x3 x4 x5 x6=0<;>simp[hc]
def sq2(u v:Int):Int:=u*u+v*v
theorem qm1(x0 x1 x2 x3 x4 x5:Int)(x6:Bool)(a b c:Int):(j6 [.i x0,.i x1,.i x2,.i x3,.i x4,.i x5,.b x6,.i a,.i b,.i c]).run =
  some (0,if qqc x0 x1 x2 x3 x4 x5 x6 a b c=0 then [.i (sq2 (a-x0) (b-x1)),.i 0] else [.i 0,.i (qqc x0 x1 x2 x3 x4 x5 x6 a b c)]):=by
 rw[qkB]
 by_cases hc:qqc x0 x1 x2 x3 x4 x5 x6 a b c=0
 ·obtain⟨c1,c2⟩:=qwD hc
  obtain⟨h1,h2,h3,h4,_⟩:=qm4 c1
  obtain⟨k1,k2,k3,k4,_⟩:=qke c2
  have e1:qw .i64 a x0=a-x0:=w9 (by omega)
  have e2:qw .i64 b x1=b-x1:=w9 (by omega)
  have b1:=qA4 (a:=a-x0) (b:=a-x0) (A:=200000) (B:=200000) (by omega) (by omega) (by omega) (by omega)
  have b2:=qA4 (a:=b-x1) (b:=b-x1) (A:=200000) (B:=200000) (by omega) (by omega) (by omega) (by omega)
  have e3:uk .i64 (a-x0) (a-x0)=(a-x0)*(a-x0):=q19 (by omega)
  have e4:uk .i64 (b-x1) (b-x1)=(b-x1)*(b-x1):=q19 (by omega)
  have e5:qj .i64 ((a-x0)*(a-x0)) ((b-x1)*(b-x1))=sq2 (a-x0) (b-x1):=z8 (by omega)
  simp only[STD,qlw,hc,qtt,e1,e2,e3,e4,e5]
 ·simp[qlw,hc,STD]
end Go.Eng

namespace Go.Eng
def qxV(l:R)(i:Nat):Int:=chk (cI l i 0) (cI l i 1) (cI l i 2) (cI l i 3) (cI l i 4) (cI l i 5) (cB l i 6)
def qwb(l:R)(i:Nat):Int:=qmH (cI l i 0) (cI l i 1) (cI l i 2)
end Go.Eng

namespace Go.Eng
def zD(x y n:Int):DQ:=⟨(x:Rat),(y:Rat),Rat.divInt n 2*Rat.divInt n 2⟩
theorem qCT(n:Int):Rat.divInt (n*n) 4=Rat.divInt n 2*Rat.divInt n 2:=by
 rw[Rat.divInt_mul_divInt];rfl
theorem qvU{x:Int}(h:-999999≤x∧x≤999999):nl x≤6:=by
 have:=qbA (m:=x) (n:=999999) (by omega)
 have e:nl 999999=6:=by decide
 omega
theorem qDr{x:Int}(h:-999999999999≤x∧x≤999999999999):nl x≤12:=by
 have:=qbA (m:=x) (n:=999999999999) (by omega)
 have e:nl 999999999999=12:=by decide
 omega
theorem qvB{n:Int}(h:-999999≤n∧n≤999999):0≤n*n∧n*n≤999998000001:=by
 have b:=qA4 (a:=n) (b:=n) (A:=999999) (B:=999999) (by omega) (by omega) (by omega) (by omega)
 refine⟨?_,by omega⟩
 rcases Int.le_total 0 n with h0|h0
 ·exact Int.mul_nonneg h0 h0
 ·exact Int.mul_nonneg_of_nonpos_of_nonpos h0 h0
theorem qzY{x:Int}(h:-999999≤x∧x≤999999):cls (x:Rat):=by
 refine .inl ⟨?_,by simp⟩
 have:=qvU h
 unfold qn;simp;omega
theorem qtw{n:Int}(h:-999999≤n∧n≤999999):qCU (Rat.divInt n 2*Rat.divInt n 2):=by
 rw[←qCT]
 have r:=qvB h
 have e:Rat.divInt (n*n) 4=mkRat (n*n) 4:=rfl
 rw[e]
 have m:=qb3 (n*n) 4
 have l:=qDr (x:=n*n) (by omega)
 have d:dl 4=1:=by decide
 unfold qCU qn qd
 omega
theorem qEn{x y n:Int}(hx:-999999≤x∧x≤999999)(hy:-999999≤y∧y≤999999)(hn:-999999≤n∧n≤999999):GD (zD x y n):=
 ⟨qzY hx,qzY hy,qtw hn,q9q _⟩
end Go.Eng

namespace Go.Eng
theorem qsl{m n:Int}(hn0:n≠0)(hm:okL m)(hn:okL n):(q7q [.s (tI m),.s (tI n)]).run=some (0,[.s (tQ (Rat.divInt m n)),.i 0]):=by
 rw[qr6]
 have key:=wB (S:=q1J) (fun i=>[.s (tI m),.s (tI n),.i 2,.i (i:Int),.r [[.s (tI m)],[.s (tI n)]]]) (0,[.s (tI m),.s (tI n)]) 2 (by omega) (fun i hi=>by
  rw[qeR]
  rcases (show i=0∨i=1 by omega) with rfl|rfl
  ·have e:cS [[.s (tI m)],[.s (tI n)]] ((0:Nat):Int) 0=tI m:=rfl
   simp only[e,STD,qdr hm,show qf [[U.s (tI m)],[.s (tI n)]]=2 from rfl]
   rfl
  ·have e:cS [[.s (tI m)],[.s (tI n)]] ((1:Nat):Int) 0=tI n:=rfl
   simp only[e,STD,qdr hn,show qf [[U.s (tI m)],[.s (tI n)]]=2 from rfl]
   rfl) (by rw[qeR];simp only[STD,show ((2:Nat):Int)=2 from rfl,show ¬(2:Int)<2 by omega])
 have key':(qh q1J [.s (tI m),.s (tI n),.i (qf [[U.s (tI m)],[.s (tI n)]]),.i 0,.r [[.s (tI m)],[.s (tI n)]]]).run=some (0,[.s (tI m),.s (tI n)]):=key
 have z:(seq (tI n) [48]=true)=False:=by rw[wk,q6D];exact eq_false hn0
 simp only[STD,key',zk key',z,(qj7 hn0 hm hn).1]
theorem qxj{m n:Int}(hn0:n≠0)(hm:-999999999999999≤m∧m≤999999999999999)(hn:-999999999999999≤n∧n≤999999999999999):(q8Y [.i m,.i n]).run=some (0,[.s (tQ (Rat.divInt m n)),.i 0]):=by
 have ok:∀k:Int,-999999999999999≤k∧k≤999999999999999→okL k:=fun k hk=>by
  have:=qbA (m:=k) (n:=999999999999999) (by omega)
  have e:nl 999999999999999=15:=by decide
  unfold okL;omega
 rw[qvt]
 simp only[STD,q6n m (by omega),q6n n (by omega),qsl hn0 (ok m hm) (ok n hn)]
theorem qjM{m:Int}(hm:-999999999999999≤m∧m≤999999999999999):(q15 [.i m]).run=some (0,[.s (tQ (m:Rat))]):=by
 rw[qoL,qvd]
 simp only[STD,q6n m (by omega)]
theorem qif{m:Int}(hm:-999999999999999≤m∧m≤999999999999999):(q1g [.i m]).run=some (0,[.s (tQ (m:Rat))]):=by
 rw[qoJ,qvd]
 simp only[STD,uU m (by omega) (by omega)]
theorem qsw{m n:Int}(hn0:n≠0)(hm:-999999999999999≤m∧m≤999999999999999)(hn:-999999999999999≤n∧n≤999999999999999):(q55 [.i m,.i n]).run=some (0,[.s (tQ (Rat.divInt m n))]):=by
 have ok:∀k:Int,-999999999999999≤k∧k≤999999999999999→nl k≤400000:=fun k hk=>by
  have:=qbA (m:=k) (n:=999999999999999) (by omega)
  have e:nl 999999999999999=15:=by decide
  omega
 rw[qqU]
 simp only[STD,uU m (by omega) (by omega),uU n (by omega) (by omega),qAR m n hn0 (ok m hm) (ok n hn)]
def inR(x:Int):Prop:=-999999≤x∧x≤999999
theorem qE4{n:Int}(h:inR n):-999999999999999≤n*n∧n*n≤999999999999999:=by have:=qvB h;omega
theorem kr(l:R):(qf l=0)=(l.length=0):=by unfold qf;exact propext ⟨fun h=>by omega,fun h=>by omega⟩
structure Rt (x0 x1:R):Prop where
 n:x0.length≤16
 e:x1.length=x0.length
 ne:x0.length≠0
 t:∀i,i<x0.length→qxV x0 i=0
 r:∀i,i<x0.length→qwb x1 i=0
 i:∀i:Nat,i<x0.length→cI x0 i 2≤cI x1 i 2∧cI x1 i 2≤cI x0 i 3
end Go.Eng

namespace Go.Eng
theorem qeZ(u v:Rat){l:List DQ}{i:Nat}(h:i<l.length):ix (l.map (mvD u v)) i=mvD u v (ix l i):=by
 unfold ix
 rw[List.getD_eq_getElem?_getD,List.getD_eq_getElem?_getD,List.getElem?_map,List.getElem?_eq_getElem h];rfl
theorem qyL(u v:Rat){l:List DQ}(hs:∀d∈l,0≤d.s):∀d∈l.map (mvD u v),0≤d.s:=fun d hd=>by
 obtain⟨e,he,rfl⟩:=List.mem_map.1 hd
 exact hs e he
theorem qrg(u v:Rat){l:List DQ}(hl:l≠[])(hs:∀d∈l,0≤d.s):(vD (l.map (mvD u v))).isSome=(vD l).isSome:=by
 rw[Bool.eq_iff_iff,q6p (by simpa using hl) (qyL u v hs),q6p hl hs,qrR]
theorem qzs(u v:Rat){l:List DQ}(hs:∀d∈l,0≤d.s){i j:Nat}(hi:i<l.length)(hj:j<l.length):q9p (l.map (mvD u v)) i j=q9p l i j:=by
 unfold q9p
 rw[qeZ u v hi,qeZ u v hj]
 have:=qrg u v (l:=[ix l i,ix l j]) (by simp) (fun d hd=>hs d (qCQ hi hj d hd))
 simp only[List.map_cons,List.map_nil] at this
 rw[this]
theorem qzi(u v:Rat){l:List DQ}(hs:∀d∈l,0≤d.s){i j k:Nat}(hi:i<l.length)(hj:j<l.length)(hk:k<l.length):q9j (l.map (mvD u v)) i j k=q9j l i j k:=by
 unfold q9j
 rw[qeZ u v hi,qeZ u v hj,qeZ u v hk]
 have:=qrg u v (l:=[ix l i,ix l j,ix l k]) (by simp) (fun d hd=>hs d (qDI hi hj hk d hd))
 simp only[List.map_cons,List.map_nil] at this
 rw[this]
theorem qyj(u v:Rat){l:List DQ}(hs:∀d∈l,0≤d.s):yJ (l.map (mvD u v))=yJ l:=by
 have e2:qrd (l.map (mvD u v))=qrd l:=by
  unfold qrd
  rw[List.length_map]
  refine q1H fun i _ hi=>q1H fun k _ hk=>?_
  exact qzs u v hs (by omega) (by omega)
 have e3:qtv (l.map (mvD u v))=qtv l:=by
  unfold qtv
  rw[List.length_map]
  refine q1H fun i _ hi=>q1H fun k _ hk=>q1H fun m _ hm=>?_
  exact qzi u v hs (by omega) (by omega) (by omega)
 unfold yJ
 rw[e2,e3]
theorem qxe{l:List DQ}(hs:∀d∈l,0≤d.s):(yJ l).length≤3∧((yJ l).length=0↔qeG l):=by
 rcases qlq hs with⟨h,e⟩|⟨h,i,j,_,_,e,_⟩|⟨h,_,i,j,k,_,_,_,e,_⟩<;>rw[e]
 ·exact⟨by simp,⟨fun _=>h,fun _=>rfl⟩⟩
 ·exact⟨by show 2≤3;omega,⟨fun z=>(by cases z),fun z=>absurd z h⟩⟩
 ·exact⟨Nat.le_refl 3,⟨fun z=>(by cases z),fun z=>absurd z h⟩⟩
end Go.Eng

namespace Go.Eng
def qia(x0 x1:R)(i:Nat):Int:=
 if qxV x0 i=0 then (if qxV x1 i=0 then (if cI x0 i 5=1∧cI x1 i 5=1 then (if (cI x0 i 0=cI x1 i 0∧cI x0 i 1=cI x1 i 1)∧cB x0 i 6≠cB x1 i 6 then 0 else 16) else 14) else qxV x1 i) else qxV x0 i
theorem qxK{x0 x1:R}{i:Nat}(h:qia x0 x1 i=0):qxV x0 i=0∧qxV x1 i=0∧(cI x0 i 5=1∧cI x1 i 5=1)∧(cI x0 i 0=cI x1 i 0∧cI x0 i 1=cI x1 i 1)∧cB x0 i 6≠cB x1 i 6:=by
 unfold qia at h
 split at h
 ·rename_i h1
  split at h
  ·rename_i h2
   split at h
   ·rename_i h3
    split at h
    ·rename_i h4;exact⟨h1,h2,h3,h4.1,h4.2⟩
    ·omega
   ·omega
  ·rename_i h2;exact absurd h h2
 ·rename_i h1;exact absurd h h1
def q5E(x0 x1:R):Int:=if x0.length=0 then 13 else if 16<x0.length then 5 else if x1.length=x0.length then q4W (qia x0 x1) x0.length else 8
structure Jt (x0 x1:R):Prop where
 n:x0.length≤16
 ne:x0.length≠0
 e:x1.length=x0.length
 p:∀i,i<x0.length→qia x0 x1 i=0
theorem qa6{x0 x1:R}(h:q5E x0 x1=0):Jt x0 x1:=by
 unfold q5E at h
 split at h
 ·omega
 ·rename_i h1
  split at h
  ·omega
  ·rename_i h2
   split at h
   ·rename_i h3;exact⟨by omega,h1,h3,fun i hi=>qnK h i hi⟩
   ·omega
theorem qyu{x0 x1:R}(h:Jt x0 x1):q5E x0 x1=0:=by
 unfold q5E
 rw[if_neg h.ne,if_neg (by have:=h.n;omega),if_pos h.e,qmO h.p]
def gau(l:R)(i:Nat):Int:=if cB l i 6=true then cI l i 3+cI l i 4 else cI l i 2-cI l i 4
theorem qDl{l:R}{i:Nat}(h:cI l i 5=1):(if (cI l i 5=2)=(cB l i 6=true) then cI l i 2-cI l i 4 else cI l i 3+cI l i 4)=gau l i:=by
 unfold gau
 rw[h]
 cases cB l i 6<;>simp
def mgA(x0 x1:R)(i:Nat):Int:=if cB x0 i 6=true then gau x1 i-gau x0 i else gau x0 i-gau x1 i
def mgL(x0 x1:R)(n:Nat):R:=ue (fun i=>[.i (mgA x0 x1 i)]) n
def qAo(x0 x1:R):Bool:=decide (∀i,i<x0.length→0≤mgA x0 x1 i)
def qu0(l c:R)(i:Nat):Prop:=cI l i 2≤cI c i 2∧cI c i 2≤cI l i 3
instance (l c:R) (i:Nat):Decidable (qu0 l c i):=inferInstanceAs (Decidable (_∧_))
def qyT(x0 x1 x2 x3:R)(i:Nat):Int:=if qwb x2 i=0 then (if qwb x3 i=0 then (if qu0 x0 x2 i∧qu0 x1 x3 i then 0 else 14) else qwb x3 i) else qwb x2 i
theorem qz1{x0 x1 x2 x3:R}{i:Nat}(h:qyT x0 x1 x2 x3 i=0):qwb x2 i=0∧qwb x3 i=0∧qu0 x0 x2 i∧qu0 x1 x3 i:=by
 unfold qyT at h
 split at h
 ·rename_i h1
  split at h
  ·rename_i h2
   split at h
   ·rename_i h3;exact⟨h1,h2,h3⟩
   ·omega
  ·rename_i h2;exact absurd h h2
 ·rename_i h1;exact absurd h h1
def qpG(x0 x1 x2 x3:R):Int:=if q5E x0 x1=0 then (if x2.length=x0.length∧x3.length=x1.length then q4W (qyT x0 x1 x2 x3) x0.length else 8) else q5E x0 x1
structure Gv (x0 x1 x2 x3:R):Prop where
 j:Jt x0 x1
 e2:x2.length=x0.length
 e3:x3.length=x0.length
 g:∀i,i<x0.length→qyT x0 x1 x2 x3 i=0
theorem qc7{x0 x1 x2 x3:R}(h:qpG x0 x1 x2 x3=0):Gv x0 x1 x2 x3:=by
 unfold qpG at h
 split at h
 ·rename_i h1
  have j:=qa6 h1
  split at h
  ·rename_i h2;exact⟨j,h2.1,h2.2.trans j.e,fun i hi=>qnK h i hi⟩
  ·omega
 ·rename_i h1;exact absurd h h1
theorem qr8{x0 x1 x2 x3:R}(h:Gv x0 x1 x2 x3):qpG x0 x1 x2 x3=0:=by
 unfold qpG
 rw[if_pos (qyu h.j),if_pos ⟨h.e2,h.e3.trans h.j.e.symm⟩,qmO h.g]
def kP(x0 x2 x3:R)(i:Nat):Int:=if cB x0 i 6=true then cI x3 i 2-cI x2 i 2 else cI x2 i 2-cI x3 i 2
def qB9(x0 x2 x3:R)(i:Nat):Bool:=decide (0≤kP x0 x2 x3 i∧4*sq2 (cI x2 i 0-cI x3 i 0) (cI x2 i 1-cI x3 i 1)≤kP x0 x2 x3 i*kP x0 x2 x3 i)
def zA(x0 x2 x3:R)(i:Nat):DQ:=zD (cI x3 i 0-cI x2 i 0) (cI x3 i 1-cI x2 i 1) (kP x0 x2 x3 i)
def zAT(x0 x2 x3:R)(k:Nat):List DQ:=(List.range k).map (zA x0 x2 x3)
theorem qwf(x0 x2 x3:R)(k:Nat):zAT x0 x2 x3 (k+1)=zAT x0 x2 x3 k++[zA x0 x2 x3 k]:=by unfold zAT;rw[List.range_succ,List.map_append];rfl
theorem qho(x0 x2 x3:R)(k:Nat):(zAT x0 x2 x3 k).length=k:=by simp[zAT]
def yo(x0 x2 x3:R):Option Nat:=q0U (fun i=>if kP x0 x2 x3 i<0 then some i else none) 0 x0.length
structure GvN (x0 x2 x3:R) (i:Nat):Prop where
 ax:-100000≤cI x2 i 0∧cI x2 i 0≤100000
 ay:-100000≤cI x2 i 1∧cI x2 i 1≤100000
 sa:1≤cI x2 i 2∧cI x2 i 2≤100000
 bx:-100000≤cI x3 i 0∧cI x3 i 0≤100000
 by_:-100000≤cI x3 i 1∧cI x3 i 1≤100000
 sb:1≤cI x3 i 2∧cI x3 i 2≤100000
 pl:-100000≤kP x0 x2 x3 i∧kP x0 x2 x3 i≤100000
theorem Gv.num{x0 x1 x2 x3:R}(h:Gv x0 x1 x2 x3){i:Nat}(hi:i<x0.length):GvN x0 x2 x3 i:=by
 obtain⟨h1,h2,_,_⟩:=qz1 (h.g i hi)
 obtain⟨a1,a2,a3,a4,a5,a6⟩:=qke h1
 obtain⟨b1,b2,b3,b4,b5,b6⟩:=qke h2
 refine⟨⟨a1,a2⟩,⟨a3,a4⟩,⟨a5,a6⟩,⟨b1,b2⟩,⟨b3,b4⟩,⟨b5,b6⟩,?_⟩
 unfold kP;split<;>omega
theorem Gv.gd{x0 x1 x2 x3:R}(h:Gv x0 x1 x2 x3){i:Nat}(hi:i<x0.length):GD (zA x0 x2 x3 i):=by
 have n:=h.num hi
 obtain⟨n1,n2,n3,n4,n5,n6,n7⟩:=n
 exact qEn (by omega) (by omega) (by omega)
theorem Gv.gds{x0 x1 x2 x3:R}(h:Gv x0 x1 x2 x3):GDs (zAT x0 x2 x3 x0.length):=fun d hd=>by
 obtain⟨i,hi,rfl⟩:=List.mem_map.1 hd
 exact h.gd (List.mem_range.1 hi)
theorem Gv.nez{x0 x1 x2 x3:R}(h:Gv x0 x1 x2 x3):zAT x0 x2 x3 x0.length≠[]:=by
 intro e
 have:=congrArg List.length e
 rw[qho] at this
 exact h.j.ne this
theorem Gv.nn{x0 x1 x2 x3:R}(h:Gv x0 x1 x2 x3):∀d∈zAT x0 x2 x3 x0.length,0≤d.s:=fun d hd=>(h.gds d hd).nn
theorem qEt(u v a:Int):((u:Rat)*u+(v:Rat)*v≤Rat.divInt a 2*Rat.divInt a 2)↔4*sq2 u v≤a*a:=by
 have e:Rat.divInt a 2=(a:Rat)/2:=by rw[Rat.divInt_eq_div];rfl
 rw[e]
 unfold sq2
 have c:(4*(u*u+v*v)≤a*a)↔((4*((u:Rat)*u+(v:Rat)*v))≤(a:Rat)*a):=by
  rw[←Rat.intCast_le_intCast];simp
 rw[c]
 constructor<;>intro h<;>grind
theorem qxl{x0 x2 x3:R}{n:Nat}(h:∀i,i<n→qB9 x0 x2 x3 i=true):qeG (zAT x0 x2 x3 n):=by
 refine⟨0,0,fun d hd=>?_⟩
 obtain⟨i,hi,rfl⟩:=List.mem_map.1 hd
 have e:=h i (List.mem_range.1 hi)
 unfold qB9 at e
 rw[decide_eq_true_iff] at e
 have t:=(qEt (cI x2 i 0-cI x3 i 0) (cI x2 i 1-cI x3 i 1) (kP x0 x2 x3 i)).2 e.2
 unfold pw zA zD
 simp only[Rat.intCast_sub] at t ⊢
 grind
theorem qps{x0 x2 x3:R}:yo x0 x2 x3=none↔∀i,i<x0.length→0≤kP x0 x2 x3 i:=by
 unfold yo
 constructor
 ·intro h i hi
  have:=q1C h i (by omega) (by omega)
  split at this
  ·cases this
  ·omega
 ·intro h
  rw[q1H (g:=fun _=>none) (fun j _ hj=>by rw[if_neg (by have:=h j (by omega);omega)]),qtk]
theorem quk{x0 x2 x3:R}(h:∀i,i<x0.length→qB9 x0 x2 x3 i=true):yo x0 x2 x3=none:=
 qps.2 fun i hi=>by
  have e:=h i hi
  unfold qB9 at e
  rw[decide_eq_true_iff] at e
  exact e.1
theorem qEe(x y n dx dy:Int):zD (x-dx) (y-dy) n=mvD (-(dx:Rat)) (-(dy:Rat)) (zD x y n):=by
 unfold zD mvD
 have e1:((x-dx:Int):Rat)=(x:Rat)+-(dx:Rat):=by rw[Rat.intCast_sub];grind
 have e2:((y-dy:Int):Rat)=(y:Rat)+-(dy:Rat):=by rw[Rat.intCast_sub];grind
 rw[e1,e2]
theorem qCX{x0 x2 x3 y2:R}{dx dy:Int}{n:Nat}(h0:∀i:Nat,i<n→cI y2 i 0=cI x2 i 0+dx)(h1:∀i:Nat,i<n→cI y2 i 1=cI x2 i 1+dy)(h2:∀i:Nat,i<n→cI y2 i 2=cI x2 i 2) :
  zAT x0 y2 x3 n=(zAT x0 x2 x3 n).map (mvD (-(dx:Rat)) (-(dy:Rat))):=by
 unfold zAT
 rw[List.map_map]
 refine List.map_congr_left fun i hi=>?_
 have hi:=List.mem_range.1 hi
 show zA x0 y2 x3 i=mvD _ _ (zA x0 x2 x3 i)
 unfold zA
 rw[←qEe]
 have p:kP x0 y2 x3 i=kP x0 x2 x3 i:=by unfold kP;rw[h2 i hi]
 rw[p,h0 i hi,h1 i hi,show cI x3 i 0-(cI x2 i 0+dx)=cI x3 i 0-cI x2 i 0-dx by omega,show cI x3 i 1-(cI x2 i 1+dy)=cI x3 i 1-cI x2 i 1-dy by omega]
theorem qvW{x0 x2 x3 y2:R}(h2:∀i:Nat,i<x0.length→cI y2 i 2=cI x2 i 2):yo x0 y2 x3=yo x0 x2 x3:=by
 unfold yo
 refine q1H fun j _ hj=>?_
 have:kP x0 y2 x3 j=kP x0 x2 x3 j:=by unfold kP;rw[h2 j (by omega)]
 rw[this]
end Go.Eng

namespace Go.Eng
theorem qnk{p:Nat→Bool}:∀{n:Nat},(qf (pick p n)=0)↔∀i,i<n→p i=false
 | 0=>by simp[pick,qf]
 | n+1=>by
  have ih:=qnk (p:=p) (n:=n)
  unfold pick
  by_cases hp:p n=true
  ·rw[if_pos hp]
   constructor
   ·intro h;unfold qf q3z at h;simp at h;omega
   ·intro h;rw[h n (by omega)] at hp;cases hp
  ·have hp':p n=false:=by simpa using hp
   rw[if_neg hp,ih]
   constructor
   ·intro h i hi
    rcases Nat.lt_or_ge i n with h'|h'
    ·exact h i h'
    ·obtain rfl:i=n:=by omega
     exact hp'
   ·intro h i hi;exact h i (by omega)
def qAL(a0 a1 a2 a3 a4 a5:Int)(a6:Bool)(b0 b1 b2 b3 b4 b5:Int)(b6:Bool):Int:=
 if chk a0 a1 a2 a3 a4 a5 a6=0 then (if chk b0 b1 b2 b3 b4 b5 b6=0 then (if a5=1∧b5=1 then (if (a0=b0∧a1=b1)∧a6≠b6 then 0 else 16) else 14) else chk b0 b1 b2 b3 b4 b5 b6) else chk a0 a1 a2 a3 a4 a5 a6
theorem qx3(e:Nat→Int):q4W e 2=if e 0=0 then e 1 else e 0:=by
 unfold q4W q0U q0U q0U qlE
 by_cases h0:e 0=0
 ·by_cases h1:e 1=0<;>simp[h0,h1]
 ·simp[h0]
theorem qn6(a0 a1 a2 a3 a4 a5:Int)(a6:Bool)(b0 b1 b2 b3 b4 b5:Int)(b6:Bool) :
  (q0r [.i a0,.i a1,.i a2,.i a3,.i a4,.i a5,.b a6,.i b0,.i b1,.i b2,.i b3,.i b4,.i b5,.b b6]).run=some (0,[.i (qAL a0 a1 a2 a3 a4 a5 a6 b0 b1 b2 b3 b4 b5 b6)]):=by
 rw[qlS]
 have key:=qdl (S:=un) (fun i=>[.i 2,.i (i:Int),.i a0,.i a1,.i a2,.i a3,.i a4,.i a5,.b a6,.i b0,.i b1,.i b2,.i b3,.i b4,.i b5,.b b6,.r [[.i a0,.i a1,.i a2,.i a3,.i a4,.i a5,.b a6],[.i b0,.i b1,.i b2,.i b3,.i b4,.i b5,.b b6]]])
  (fun i=>if i=0 then chk a0 a1 a2 a3 a4 a5 a6 else chk b0 b1 b2 b3 b4 b5 b6) [] [.i a0,.i a1,.i a2,.i a3,.i a4,.i a5,.b a6,.i b0,.i b1,.i b2,.i b3,.i b4,.i b5,.b b6] 2 (by omega) (fun i hi=>by
  rw[qb4]
  simp only[q8p,STD]
  rcases (show i=0∨i=1 by omega) with rfl|rfl
  ·rw[if_pos (show ((0:Nat):Int)<2 by omega),if_pos (show (0:Int)≤((0:Nat):Int)∧((0:Nat):Int)<qf [[U.i a0,.i a1,.i a2,.i a3,.i a4,.i a5,.b a6],[.i b0,.i b1,.i b2,.i b3,.i b4,.i b5,.b b6]] from⟨by omega,by show (0:Int)<2;omega⟩)]
   by_cases hc:chk a0 a1 a2 a3 a4 a5 a6=0
   ·rw[if_pos (show (if (0:Nat)=0 then chk a0 a1 a2 a3 a4 a5 a6 else chk b0 b1 b2 b3 b4 b5 b6)=0 from hc)]
    exact if_neg (fun h=>h hc)
   ·rw[if_neg (show ¬(if (0:Nat)=0 then chk a0 a1 a2 a3 a4 a5 a6 else chk b0 b1 b2 b3 b4 b5 b6)=0 from hc)]
    exact if_pos hc
  ·rw[if_pos (show ((1:Nat):Int)<2 by omega),if_pos (show (0:Int)≤((1:Nat):Int)∧((1:Nat):Int)<qf [[U.i a0,.i a1,.i a2,.i a3,.i a4,.i a5,.b a6],[.i b0,.i b1,.i b2,.i b3,.i b4,.i b5,.b b6]] from⟨by omega,by show (1:Int)<2;omega⟩)]
   by_cases hc:chk b0 b1 b2 b3 b4 b5 b6=0
   ·rw[if_pos (show (if (1:Nat)=0 then chk a0 a1 a2 a3 a4 a5 a6 else chk b0 b1 b2 b3 b4 b5 b6)=0 from hc)]
    exact if_neg (fun h=>h hc)
   ·rw[if_neg (show ¬(if (1:Nat)=0 then chk a0 a1 a2 a3 a4 a5 a6 else chk b0 b1 b2 b3 b4 b5 b6)=0 from hc)]
    exact if_pos hc) (by rw[qb4];simp only[STD,show ¬(((2:Nat):Int)<2) by omega])
 rw[qx3] at key
 simp only[show ((1:Nat)=0)=False by simp,if_true,if_false] at key
 have key':(qh un [.i (qf [[U.i a0,.i a1,.i a2,.i a3,.i a4,.i a5,.b a6],[.i b0,.i b1,.i b2,.i b3,.i b4,.i b5,.b b6]]),.i 0,.i a0,.i a1,.i a2,.i a3,.i a4,.i a5,.b a6,.i b0,.i b1,.i b2,.i b3,.i b4,.i b5,.b b6,.r [[.i a0,.i a1,.i a2,.i a3,.i a4,.i a5,.b a6],[.i b0,.i b1,.i b2,.i b3,.i b4,.i b5,.b b6]]]).run=_:=key
 unfold qAL
 by_cases ha:chk a0 a1 a2 a3 a4 a5 a6=0
 ·by_cases hb:chk b0 b1 b2 b3 b4 b5 b6=0
  ·simp only[ha,hb,if_true] at key'
   simp only[STD,key',zk key',ha,hb]
   by_cases c1:a5=1<;>by_cases c2:b5=1<;>by_cases c3:a0=b0<;>by_cases c4:a1=b1<;>by_cases c5:a6=b6<;>simp[c1,c2,c3,c4,c5]
  ·simp only[ha,hb,if_true,if_false] at key'
   simp only[STD,key',zk key',ha,hb]
   rfl
 ·simp only[ha,if_false] at key'
  simp only[STD,key',zk key',ha]
  rfl
theorem qtl(a0 a1 a2 a3 a4 a5:Int)(a6:Bool)(b0 b1 b2 b3 b4 b5:Int)(b6:Bool) :
  (q52 [.i a0,.i a1,.i a2,.i a3,.i a4,.i a5,.b a6,.i b0,.i b1,.i b2,.i b3,.i b4,.i b5,.b b6]).run=some (0,[.i (qAL a0 a1 a2 a3 a4 a5 a6 b0 b1 b2 b3 b4 b5 b6)]):=by
 rw[qrY]
 unfold qAL
 by_cases ha:chk a0 a1 a2 a3 a4 a5 a6=0
 ·by_cases hb:chk b0 b1 b2 b3 b4 b5 b6=0
  ·simp only[STD,qcX,ha,hb]
   by_cases c1:a5=1<;>by_cases c2:b5=1<;>by_cases c3:a0=b0<;>by_cases c4:a1=b1<;>by_cases c5:a6=b6<;>simp[c1,c2,c3,c4,c5]
  ·simp only[STD,qcX,ha,hb]
 ·simp only[STD,qcX,ha]
theorem q5B(l m:R):(qf l=qf m)=(l.length=m.length):=by unfold qf;exact propext ⟨fun h=>by omega,fun h=>by omega⟩
theorem qua(l:R)(n:Nat):((n:Int)<qf l)=(n<l.length):=by unfold qf;exact propext ⟨fun h=>by omega,fun h=>by omega⟩
theorem yD(x0 x1:R)(h:x0.length<9223372036854775808):(v6 [.r x0,.r x1]).run=some (0,[.i (q5E x0 x1)]):=by
 rw[qkF]
 unfold q5E
 have g:=qua x0 16
 simp only[show ((16:Nat):Int)=16 from rfl] at g
 by_cases h0:x0.length=0
 ·simp only[STD,kr,h0]
 by_cases h1:16<x0.length
 ·simp only[STD,kr,h0,g,h1]
 by_cases h2:x1.length=x0.length
 ·have key:=qdl (S:=uy) (fun i=>[.i (qf x0),.i (i:Int),.r x0,.r x1]) (qia x0 x1) [] [] x0.length h (fun i hi=>by
   rw[q7V]
   have a1:(i:Int)<qf x0:=by unfold qf;omega
   have a2:(i:Int)<qf x1:=by unfold qf;omega
   simp only[STD,a1,a2,uL,and_self,q2U hi h,qn6]
   show (if ¬qia x0 x1 i=0 then some (2,[PV.i (qia x0 x1 i)]) else _)=_
   by_cases c:qia x0 x1 i=0
   ·rw[if_neg (fun z=>z c),if_pos c]
   ·rw[if_pos c,if_neg c]) (by
   rw[q7V]
   simp only[STD,show ¬((x0.length:Int)<qf x0) by unfold qf;omega])
  simp only[show (((0:Nat)):Int)=0 from rfl] at key
  by_cases c:q4W (qia x0 x1) x0.length=0
  ·rw[if_pos c] at key
   simp only[STD,kr,h0,g,h1,q5B,h2,key,zk key,c]
  ·rw[if_neg c] at key
   simp only[STD,kr,h0,g,h1,q5B,h2,key,zk key]
   rfl
 ·simp only[STD,kr,h0,g,h1,q5B,h2,show ¬(x0.length=x1.length) from fun e=>h2 e.symm]
theorem q5X(x0 x1:R)(h:x0.length<9223372036854775808):(q2L [.r x0,.r x1]).run=some (0,[.i (q5E x0 x1)]):=by
 rw[qp8]
 unfold q5E
 have g:=qua x0 16
 simp only[show ((16:Nat):Int)=16 from rfl] at g
 by_cases h0:x0.length=0
 ·simp only[STD,kr,h0]
 by_cases h1:16<x0.length
 ·simp only[STD,kr,h0,g,h1]
 by_cases h2:x1.length=x0.length
 ·have key:=qdl (S:=q1t) (fun i=>[.i (i:Int),.r x0,.r x1]) (qia x0 x1) [] [] x0.length h (fun i hi=>by
   rw[qcJ]
   have a1:(i:Int)<qf x0:=by unfold qf;omega
   have a2:(i:Int)<qf x1:=by unfold qf;omega
   simp only[STD,a1,a2,uL,and_self,q2U hi h,qtl]
   show (if ¬qia x0 x1 i=0 then some (2,[PV.i (qia x0 x1 i)]) else _)=_
   by_cases c:qia x0 x1 i=0
   ·rw[if_neg (fun z=>z c),if_pos c]
   ·rw[if_pos c,if_neg c]) (by
   rw[qcJ]
   simp only[STD,show ¬((x0.length:Int)<qf x0) by unfold qf;omega])
  simp only[show (((0:Nat)):Int)=0 from rfl] at key
  by_cases c:q4W (qia x0 x1) x0.length=0
  ·rw[if_pos c] at key
   simp only[STD,kr,h0,g,h1,q5B,h2,key,zk key,c]
  ·rw[if_neg c] at key
   simp only[STD,kr,h0,g,h1,q5B,h2,key,zk key]
   rfl
 ·simp only[STD,kr,h0,g,h1,q5B,h2]
structure JtN (x0 x1:R) (i:Nat):Prop where
 ga:-100000≤gau x0 i∧gau x0 i≤200000
 gb:-100000≤gau x1 i∧gau x1 i≤200000
 t0:qxV x0 i=0
 t1:qxV x1 i=0
 m0:cI x0 i 5=1
 m1:cI x1 i 5=1
theorem Jt.num{x0 x1:R}(h:Jt x0 x1){i:Nat}(hi:i<x0.length):JtN x0 x1 i:=by
 obtain⟨t0,t1,⟨m0,m1⟩,_,_⟩:=qxK (h.p i hi)
 obtain⟨a1,a2,a3,a4,a5,a6,a7,a8,a9,a10,a11,_⟩:=qm4 t0
 obtain⟨b1,b2,b3,b4,b5,b6,b7,b8,b9,b10,b11,_⟩:=qm4 t1
 refine⟨?_,?_,t0,t1,m0,m1⟩<;>unfold gau<;>split<;>omega
def qvS(x0 x1:R):List PV:=if q5E x0 x1=0 then [.r (mgL x0 x1 x0.length),.i 0] else [.r [],.i (q5E x0 x1)]
theorem qtc{l:R}{i:Nat}(ht:qxV l i=0)(hm:cI l i 5=1):(jU [.i (cI l i 0),.i (cI l i 1),.i (cI l i 2),.i (cI l i 3),.i (cI l i 4),.i (cI l i 5),.b (cB l i 6)]).run=some (0,[.i (gau l i),.i 0]):=by
 rw[qob]
 have t:chk (cI l i 0) (cI l i 1) (cI l i 2) (cI l i 3) (cI l i 4) (cI l i 5) (cB l i 6)=0:=ht
 rw[if_pos t,qDl hm]
theorem qm3{l:R}{n:Nat}(h:l.length≤n)(hn:n≤1000000)(x:U):qf l+qf [[x]]≤17592186044416:=by
 rw[qAn];unfold qf;omega
theorem qaR(x0 x1:R)(h:x0.length<9223372036854775808):(vX [.r x0,.r x1]).run=some (0,qvS x0 x1):=by
 rw[qhJ]
 unfold qvS
 by_cases hc:q5E x0 x1=0
 ·have j:=qa6 hc
  have hn:=j.n
  have key:=wB (S:=j3) (fun i=>[.r x0,.i (qf x0),.i (i:Int),.r x0,.r x1,.r (mgL x0 x1 i)]) (0,[.r (mgL x0 x1 x0.length)]) x0.length h (fun i hi=>by
   rw[q7t]
   have a1:(i:Int)<qf x0:=by unfold qf;omega
   have a2:(i:Int)<qf x1:=by unfold qf;have:=j.e;omega
   have n:=j.num hi
   obtain⟨n1,n2,n3,n4,n5,n6⟩:=n
   have v0:=qtc n3 n5
   have v1:=qtc n4 n6
   have w0:qj .i64 0 0=0:=by decide
   have w1:qw .i64 (gau x0 i) (gau x1 i)=gau x0 i-gau x1 i:=w9 (by omega)
   have w2:qw .i64 (gau x1 i) (gau x0 i)=gau x1 i-gau x0 i:=w9 (by omega)
   have room:=fun x=>qm3 (l:=mgL x0 x1 i) (n:=16) (by unfold mgL;rw[q2S];omega) (by omega) x
   simp only[STD,a1,a2,uL,and_self,v0,v1,w0,w1,w2,q2U hi h,room]
   have m:q3z (mgL x0 x1 i) [[.i (mgA x0 x1 i)]]=mgL x0 x1 (i+1):=qcH _ i
   rw[←m]
   unfold mgA
   cases cB x0 i 6<;>rfl) (by
   rw[q7t]
   simp only[STD,show ¬((x0.length:Int)<qf x0) by unfold qf;omega])
  have key':(qh j3 [.r x0,.i (qf x0),.i 0,.r x0,.r x1,.r []]).run=some (0,[.r (mgL x0 x1 x0.length)]):=key
  simp only[STD,yD x0 x1 h,hc,key',zk key']
 ·simp only[STD,yD x0 x1 h,hc]
theorem qgJ(l:R)(h:l.length≤1000000):(qk [.r l]).run=some (0,[.r (pick (fun i=>decide (cI l i 0<0)) l.length)]):=by
 rw[q1y]
 have key:=wB (S:=qy) (fun i=>[.r l,.i (qf l),.i (i:Int),.r (pick (fun i=>decide (cI l i 0<0)) i)]) (0,[.r (pick (fun i=>decide (cI l i 0<0)) l.length)]) l.length (by omega) (fun i hi=>by
  rw[vN]
  have a1:(i:Int)<qf l:=by unfold qf;omega
  have pl:=qry (fun i=>decide (cI l i 0<0)) i
  have room:=qm3 (l:=pick (fun i=>decide (cI l i 0<0)) i) (n:=i) pl (by omega) (.i (i:Int))
  simp only[STD,a1,uL,and_self,qgw,q2U hi (by omega),room,pick]
  by_cases c:cI l i 0<0
  ·simp only[c,if_true]
  ·simp only[c,if_false]) (by
  rw[vN]
  simp only[STD,show ¬((l.length:Int)<qf l) by unfold qf;omega])
 have key':(qh qy [.r l,.i (qf l),.i 0,.r []]).run=some (0,[.r (pick (fun i=>decide (cI l i 0<0)) l.length)]):=key
 simp only[STD,key']
def qCv(x0 x1:R):List PV:=if q5E x0 x1=0 then [.b (qAo x0 x1),.i 0] else [.b false,.i (q5E x0 x1)]
theorem qzU(x0 x1:R)(n:Nat):(mgL x0 x1 n).length=n:=by unfold mgL;exact q2S _ _
theorem qBh(x0 x1:R){n i:Nat}(h:i<n):cI (mgL x0 x1 n) i 0=mgA x0 x1 i:=by unfold mgL;rw[qa5 _ h];rfl
theorem qy5(x0 x1:R):ieq (qf (pick (fun i=>decide (cI (mgL x0 x1 x0.length) i 0<0)) x0.length)) 0=qAo x0 x1:=by
 unfold ieq qAo
 rw[Bool.eq_iff_iff,beq_iff_eq,qnk,decide_eq_true_iff]
 constructor
 ·intro hh i hi
  have:=hh i hi
  rw[decide_eq_false_iff_not,qBh x0 x1 hi] at this
  omega
 ·intro hh i hi
  have:=hh i hi
  rw[decide_eq_false_iff_not,qBh x0 x1 hi]
  omega
theorem qmq(x0 x1:R)(h:x0.length<9223372036854775808):(q2n [.r x0,.r x1]).run=some (0,qCv x0 x1):=by
 rw[qlY]
 unfold qCv
 have m:=qaR x0 x1 h
 unfold qvS at m
 by_cases hc:q5E x0 x1=0
 ·have j:=qa6 hc
  rw[if_pos hc] at m
  have f:=qgJ (mgL x0 x1 x0.length) (by rw[qzU];have:=j.n;omega)
  rw[qzU] at f
  simp only[STD,m,hc,f]
  rw[qy5]
 ·rw[if_neg hc] at m
  simp only[STD,m,hc]
end Go.Eng

namespace Go.Eng
theorem qB2(l c:R)(i:Nat)(x y:Int):(ju [.i (cI l i 0),.i (cI l i 1),.i (cI l i 2),.i (cI l i 3),.i (cI l i 4),.i (cI l i 5),.b (cB l i 6),.i x,.i y,.i (cI c i 2)]).run=some (0,[.b (decide (qu0 l c i))]):=by
 rw[qiV]
 unfold qu0
 by_cases h1:cI l i 2≤cI c i 2
 ·by_cases h2:cI c i 2≤cI l i 3
  ·simp only[STD,h1,h2,and_self,decide_true]
   rw[show ile (cI c i 2) (cI l i 3)=true from by simp[ile,h2]]
  ·simp only[STD,h1,h2,and_false,decide_false]
   rw[show ile (cI c i 2) (cI l i 3)=false from by simp[ile];omega]
 ·simp only[STD,h1,false_and,decide_false]
theorem qBw{l c:R}{i:Nat}(ht:qxV l i=0):∃d,(j6 [.i (cI l i 0),.i (cI l i 1),.i (cI l i 2),.i (cI l i 3),.i (cI l i 4),.i (cI l i 5),.b (cB l i 6),.i (cI c i 0),.i (cI c i 1),.i (cI c i 2)]).run=some (0,[.i d,.i (qwb c i)]):=by
 rw[qm1]
 have t:chk (cI l i 0) (cI l i 1) (cI l i 2) (cI l i 3) (cI l i 4) (cI l i 5) (cB l i 6)=0:=ht
 have e:qqc (cI l i 0) (cI l i 1) (cI l i 2) (cI l i 3) (cI l i 4) (cI l i 5) (cB l i 6) (cI c i 0) (cI c i 1) (cI c i 2)=qwb c i:=by unfold qqc;rw[if_pos t];rfl
 rw[e]
 by_cases hr:qwb c i=0
 ·rw[if_pos hr];exact⟨_,by rw[hr]⟩
 ·rw[if_neg hr];exact⟨_,rfl⟩
theorem vA(x0 x1 x2 x3 : R)(h : x0.length < 9223372036854775808) : (wz [.r x0, .r x1, .r x2, .r x3]).run = some (0, [.i (qpG x0 x1 x2 x3)]) := by
  rw[qjL]
  unfold qpG
  by_cases hc:q5E x0 x1=0
  · have j:=qa6 hc
    have je:=j.e
    by_cases h2:x2.length=x0.length
    · by_cases h3:x3.length=x1.length
      · have key:=qdl (S:=yM) (fun i=>[.i (qf x0),.i (i:Int),.r x0,.r x1,.r x2,.r x3]) (qyT x0 x1 x2 x3) [] [] x0.length h (fun i hi=>by
          rw[q7l]
          have a0:(i:Int)<qf x0:=by unfold qf;omega
          have a1:(i:Int)<qf x1:=by unfold qf;omega
          have a2:(i:Int)<qf x2:=by unfold qf;omega
          have a3:(i:Int)<qf x3:=by unfold qf;omega
          have n:=j.num hi
          obtain⟨d0,v0⟩:=qBw (c:=x2) n.t0
          obtain⟨d1,v1⟩:=qBw (c:=x3) n.t1
          simp only[STD,a0,a1,a2,a3,uL,and_self,v0,v1,qB2,q2U hi h]
          unfold qyT
          by_cases c1:qwb x2 i=0
          · by_cases c2:qwb x3 i=0
            · by_cases c3:qu0 x0 x2 i
              · by_cases c4:qu0 x1 x3 i<;>simp[c1,c2,c3,c4]
              · simp[c1,c2,c3]
            · simp[c1,c2]
          · simp[c1]) (by
          rw[q7l]
          simp only[STD,show ¬((x0.length:Int)<qf x0) by unfold qf;omega])
        simp only[show (((0:Nat)):Int)=0 from rfl] at key
        by_cases c:q4W (qyT x0 x1 x2 x3) x0.length=0
        · rw[if_pos c] at key
          simp only[STD,yD x0 x1 h,hc,q5B,h2,h3,key,zk key,c,and_self]
        · rw[if_neg c] at key
          simp only[STD,yD x0 x1 h,hc,q5B,h2,h3,key,zk key,and_self]
          rfl
      · simp only[STD,yD x0 x1 h,hc,q5B,h2,h3,and_false]
    · simp only[STD,yD x0 x1 h,hc,q5B,h2,false_and]
  · simp only[STD,yD x0 x1 h,hc]
theorem qix(x0 x1 x2 x3:R)(h:x0.length<9223372036854775808):(q0Z [.r x0,.r x1,.r x2,.r x3]).run=some (0,[.i (qpG x0 x1 x2 x3)]):=by
 rw[qp2]
 unfold qpG
 by_cases hc:q5E x0 x1=0
 ·have j:=qa6 hc
  have je:=j.e
  by_cases h2:x2.length=x0.length
  ·by_cases h3:x3.length=x1.length
   ·have key:=qdl (S:=q1A) (fun i=>[.i (i:Int),.r x0,.r x1,.r x2,.r x3]) (qyT x0 x1 x2 x3) [] [] x0.length h (fun i hi=>by
     rw[qcb]
     have a0:(i:Int)<qf x0:=by unfold qf;omega
     have a1:(i:Int)<qf x1:=by unfold qf;omega
     have a2:(i:Int)<qf x2:=by unfold qf;omega
     have a3:(i:Int)<qf x3:=by unfold qf;omega
     simp only[STD,a0,a1,a2,a3,uL,and_self,qtn,qoV,q2U hi h]
     unfold qyT qu0 qwb
     by_cases c1:qmH (cI x2 i 0) (cI x2 i 1) (cI x2 i 2)=0
     ·by_cases c2:qmH (cI x3 i 0) (cI x3 i 1) (cI x3 i 2)=0
      ·by_cases c3:cI x0 i 2≤cI x2 i 2∧cI x2 i 2≤cI x0 i 3
       ·by_cases c4:cI x1 i 2≤cI x3 i 2∧cI x3 i 2≤cI x1 i 3
        ·simp only[c1,c2,c3,c4,and_self,not_true_eq_false,if_false,if_true]
        ·simp only[c1,c2,c3,c4,and_self,and_false,not_true_eq_false,not_false_eq_true,if_false,if_true];rfl
       ·simp only[c1,c2,c3,false_and,not_true_eq_false,not_false_eq_true,if_false,if_true];rfl
      ·simp only[c1,c2,not_true_eq_false,not_false_eq_true,if_false,if_true]
     ·simp only[c1,not_false_eq_true,if_false,if_true]) (by
     rw[qcb]
     simp only[STD,show ¬((x0.length:Int)<qf x2) by unfold qf;omega])
    simp only[show (((0:Nat)):Int)=0 from rfl] at key
    by_cases c:q4W (qyT x0 x1 x2 x3) x0.length=0
    ·rw[if_pos c] at key
     simp only[STD,q5X x0 x1 h,hc,q5B,h2,h3,key,zk key,c,and_self]
    ·rw[if_neg c] at key
     simp only[STD,q5X x0 x1 h,hc,q5B,h2,h3,key,zk key,and_self]
     rfl
   ·simp only[STD,q5X x0 x1 h,hc,q5B,h2,h3,and_false]
  ·simp only[STD,q5X x0 x1 h,hc,q5B,h2,false_and]
 ·simp only[STD,q5X x0 x1 h,hc]
def plL(x0 x2 x3:R)(n:Nat):R:=ue (fun i=>[.i (kP x0 x2 x3 i)]) n
theorem qhx(x0 x2 x3:R)(n:Nat):(plL x0 x2 x3 n).length=n:=by unfold plL;exact q2S _ _
theorem qy1(x0 x2 x3:R){n i:Nat}(h:i<n):cI (plL x0 x2 x3 n) i 0=kP x0 x2 x3 i:=by unfold plL;rw[qa5 _ h];rfl
theorem qkn{x0 x1 x2 x3:R}(g:Gv x0 x1 x2 x3):(zt [.r x0,.r x1,.r x2,.r x3]).run=some (0,[.r (plL x0 x2 x3 x0.length)]):=by
 rw[qkN]
 have hn:=g.j.n
 have key:=wB (S:=yp) (fun i=>[.r x0,.i (qf x0),.i (i:Int),.r x2,.r x3,.r (plL x0 x2 x3 i)]) (0,[.r (plL x0 x2 x3 x0.length)]) x0.length (by omega) (fun i hi=>by
  rw[qa8]
  have a0:(i:Int)<qf x0:=by unfold qf;omega
  have a2:(i:Int)<qf x2:=by unfold qf;have:=g.e2;omega
  have a3:(i:Int)<qf x3:=by unfold qf;have:=g.e3;omega
  obtain⟨_,_,n3,_,_,n6,_⟩:=g.num hi
  have w1:qw .i64 (cI x2 i 2) (cI x3 i 2)=cI x2 i 2-cI x3 i 2:=w9 (by omega)
  have w2:qw .i64 0 (cI x2 i 2-cI x3 i 2)=cI x3 i 2-cI x2 i 2:=by rw[qqg (by omega)];omega
  have room:=fun x=>qm3 (l:=plL x0 x2 x3 i) (n:=16) (by rw[qhx];omega) (by omega) x
  simp only[STD,a0,a2,a3,uL,and_self,w1,w2,q2U hi (show x0.length<9223372036854775808 by omega),room]
  have m:q3z (plL x0 x2 x3 i) [[.i (kP x0 x2 x3 i)]]=plL x0 x2 x3 (i+1):=qcH _ i
  rw[←m]
  unfold kP
  cases cB x0 i 6<;>rfl) (by
  rw[qa8]
  simp only[STD,show ¬((x0.length:Int)<qf x0) by unfold qf;omega])
 have key':(qh yp [.r x0,.i (qf x0),.i 0,.r x2,.r x3,.r []]).run=some (0,[.r (plL x0 x2 x3 x0.length)]):=key
 simp only[STD,key']
theorem qyM{x0 x2 x3:R}{i:Nat}(n:GvN x0 x2 x3 i):qj .i64 (uk .i64 (qw .i64 (cI x2 i 0) (cI x3 i 0)) (qw .i64 (cI x2 i 0) (cI x3 i 0))) (uk .i64 (qw .i64 (cI x2 i 1) (cI x3 i 1)) (qw .i64 (cI x2 i 1) (cI x3 i 1)))=sq2 (cI x2 i 0-cI x3 i 0) (cI x2 i 1-cI x3 i 1) ∧
  uk .i64 4 (sq2 (cI x2 i 0-cI x3 i 0) (cI x2 i 1-cI x3 i 1))=4*sq2 (cI x2 i 0-cI x3 i 0) (cI x2 i 1-cI x3 i 1) ∧
  uk .i64 (kP x0 x2 x3 i) (kP x0 x2 x3 i)=kP x0 x2 x3 i*kP x0 x2 x3 i:=by
 obtain⟨n1,n2,n3,n4,n5,n6,n7⟩:=n
 have e1:qw .i64 (cI x2 i 0) (cI x3 i 0)=cI x2 i 0-cI x3 i 0:=w9 (by omega)
 have e2:qw .i64 (cI x2 i 1) (cI x3 i 1)=cI x2 i 1-cI x3 i 1:=w9 (by omega)
 have b1:=qA4 (a:=cI x2 i 0-cI x3 i 0) (b:=cI x2 i 0-cI x3 i 0) (A:=200000) (B:=200000) (by omega) (by omega) (by omega) (by omega)
 have b2:=qA4 (a:=cI x2 i 1-cI x3 i 1) (b:=cI x2 i 1-cI x3 i 1) (A:=200000) (B:=200000) (by omega) (by omega) (by omega) (by omega)
 have b3:=qA4 (a:=kP x0 x2 x3 i) (b:=kP x0 x2 x3 i) (A:=100000) (B:=100000) (by omega) (by omega) (by omega) (by omega)
 unfold sq2
 rw[e1,e2]
 refine⟨?_,q19 (by omega),q19 (by omega)⟩
 rw[q19 (x:=cI x2 i 0-cI x3 i 0) (by omega),q19 (x:=cI x2 i 1-cI x3 i 1) (by omega),z8 (by omega)]
def qqw(x0 x2 x3:R)(i:Nat):Bool:=!qB9 x0 x2 x3 i
theorem qx1{x0 x1 x2 x3:R}(g:Gv x0 x1 x2 x3){i:Nat}(hi:i<x0.length):(wD [.i (i:Int),.i (kP x0 x2 x3 i),.r x2,.r x3]).run=some (0,[.b (qqw x0 x2 x3 i),.r x2,.r x3]):=by
 rw[qfp]
 have a2:(i:Int)<qf x2:=by unfold qf;have:=g.e2;omega
 have a3:(i:Int)<qf x3:=by unfold qf;have:=g.e3;omega
 obtain⟨v1,v2,v3⟩:=qyM (g.num hi)
 unfold qqw qB9
 by_cases c:kP x0 x2 x3 i<0
 ·simp only[STD,a2,a3,uL,and_self,c,show ¬(0≤kP x0 x2 x3 i) by omega,false_and,decide_false,Bool.not_false]
 ·simp only[STD,a2,a3,uL,and_self,c,v1,v2,v3,show (0≤kP x0 x2 x3 i) by omega,true_and]
  congr 4
  unfold ilt
  by_cases d:4*sq2 (cI x2 i 0-cI x3 i 0) (cI x2 i 1-cI x3 i 1)≤kP x0 x2 x3 i*kP x0 x2 x3 i
  ·rw[decide_eq_true d,decide_eq_false (by omega)];rfl
  ·rw[decide_eq_false d,decide_eq_true (by omega)];rfl
theorem qra{x0 x1 x2 x3:R}(g:Gv x0 x1 x2 x3):(qF [.r (plL x0 x2 x3 x0.length),.r x2,.r x3]).run=some (0,[.r (pick (qqw x0 x2 x3) x0.length),.r x2,.r x3]):=by
 rw[q17]
 have hn:=g.j.n
 have key:=wB (S:=qx) (fun i=>[.r (plL x0 x2 x3 x0.length),.i (qf (plL x0 x2 x3 x0.length)),.i (i:Int),.r x2,.r x3,.r (pick (qqw x0 x2 x3) i)]) (0,[.r x2,.r x3,.r (pick (qqw x0 x2 x3) x0.length)]) x0.length (by omega) (fun i hi=>by
  rw[vn]
  have a1:(i:Int)<qf (plL x0 x2 x3 x0.length):=by unfold qf;rw[qhx];omega
  have pl:=qry (qqw x0 x2 x3) i
  have room:=qm3 (l:=pick (qqw x0 x2 x3) i) (n:=i) pl (by omega) (.i (i:Int))
  simp only[STD,a1,uL,and_self,qy1 x0 x2 x3 hi,qx1 g hi,q2U hi (show x0.length<9223372036854775808 by omega),room,pick]
  cases qqw x0 x2 x3 i<;>rfl) (by
  rw[vn]
  simp only[STD,show ¬((x0.length:Int)<qf (plL x0 x2 x3 x0.length)) by unfold qf;rw[qhx];omega])
 have key':(qh qx [.r (plL x0 x2 x3 x0.length),.i (qf (plL x0 x2 x3 x0.length)),.i 0,.r x2,.r x3,.r []]).run=some (0,[.r x2,.r x3,.r (pick (qqw x0 x2 x3) x0.length)]):=key
 simp only[STD,key']
def qDX(x0 x1 x2 x3:R):List PV:=if qpG x0 x1 x2 x3=0 then [.r (pick (qqw x0 x2 x3) x0.length),.i 0] else [.r [],.i (qpG x0 x1 x2 x3)]
theorem q5R(x0 x1 x2 x3:R)(h:x0.length<9223372036854775808):(wc [.r x0,.r x1,.r x2,.r x3]).run=some (0,qDX x0 x1 x2 x3):=by
 rw[qi8]
 unfold qDX
 by_cases hc:qpG x0 x1 x2 x3=0
 ·have g:=qc7 hc
  simp only[STD,vA x0 x1 x2 x3 h,hc,qkn g,qra g]
 ·simp only[STD,vA x0 x1 x2 x3 h,hc]
theorem qtd{x0 x1 x2 x3:R}(g:Gv x0 x1 x2 x3){i:Nat}(hi:i<x0.length):(q4U [.r x0,.r x1,.r x2,.r x3,.i (i:Int)]).run=some (0,[.i (kP x0 x2 x3 i)]):=by
 rw[qrI]
 have a0:(i:Int)<qf x0:=by unfold qf;omega
 have a2:(i:Int)<qf x2:=by unfold qf;have:=g.e2;omega
 have a3:(i:Int)<qf x3:=by unfold qf;have:=g.e3;omega
 obtain⟨_,_,n3,_,_,n6,_⟩:=g.num hi
 have w1:qw .i64 (cI x2 i 2) (cI x3 i 2)=cI x2 i 2-cI x3 i 2:=w9 (by omega)
 have w2:qw .i64 (cI x3 i 2) (cI x2 i 2)=cI x3 i 2-cI x2 i 2:=w9 (by omega)
 simp only[STD,a0,a2,a3,uL,and_self,w1,w2]
 unfold kP
 cases cB x0 i 6<;>rfl
end Go.Eng

namespace Go.Eng
theorem qBK(l m:List DQ):rD (l++m)=rD l++rD m:=List.map_append
theorem qsL(l:List DQ)(d:DQ):q3z (rD l) [[.s (tQ d.x),.s (tQ d.y),.s (tQ d.s)]]=rD (l++[d]):=by
 rw[qBK];rfl
theorem qzr(x0 x2 x3:R){i n:Nat}(hi:i<n)(hn:n≤16)(x:List U):qf (rD (zAT x0 x2 x3 i))+qf [x]≤2932031007402:=by
 rw[zv,qho];unfold qf;simp;omega
theorem qAx{n:Int}(h:inR n):bnd 10 10 (Rat.divInt n 2):=by
 have m:=qb3 n 2
 have l:=qvU (x:=n) h
 have d:dl 2=1:=by decide
 have e:Rat.divInt n 2=mkRat n 2:=rfl
 rw[e];unfold bnd qn qd;omega
theorem qdW{x0 x1 x2 x3:R}(g:Gv x0 x1 x2 x3):(yu [.r x0,.r x1,.r x2,.r x3]).run=some (0,[.r (rD (zAT x0 x2 x3 x0.length))]):=by
 rw[qkJ]
 have hn:=g.j.n
 have key:=wB (S:=yf) (fun i=>[.r (plL x0 x2 x3 x0.length),.i (qf (plL x0 x2 x3 x0.length)),.i (i:Int),.r x2,.r x3,.r (rD (zAT x0 x2 x3 i))]) (0,[.r (rD (zAT x0 x2 x3 x0.length))]) x0.length (by omega) (fun i hi=>by
  rw[q9S]
  have a1:(i:Int)<qf (plL x0 x2 x3 x0.length):=by unfold qf;rw[qhx];omega
  have a2:(i:Int)<qf x2:=by unfold qf;have:=g.e2;omega
  have a3:(i:Int)<qf x3:=by unfold qf;have:=g.e3;omega
  obtain⟨n1,n2,n3,n4,n5,n6,n7⟩:=g.num hi
  have w1:qw .i64 (cI x3 i 0) (cI x2 i 0)=cI x3 i 0-cI x2 i 0:=w9 (by omega)
  have w2:qw .i64 (cI x3 i 1) (cI x2 i 1)=cI x3 i 1-cI x2 i 1:=w9 (by omega)
  have o:=qxj (m:=kP x0 x2 x3 i) (n:=2) (by omega) (by omega) (by omega)
  have hb:=qAx (n:=kP x0 x2 x3 i) (by unfold inR;omega)
  have m:=qoi hb hb (by omega) (by omega)
  have u1:=qjM (m:=cI x3 i 0-cI x2 i 0) (by omega)
  have u2:=qjM (m:=cI x3 i 1-cI x2 i 1) (by omega)
  have room:=fun x=>qzr x0 x2 x3 hi hn x
  simp only[STD,a1,a2,a3,uL,and_self,qy1 x0 x2 x3 hi,w1,w2,o,m,u1,u2,room,q2U hi (show x0.length<9223372036854775808 by omega)]
  have row:=qsL (zAT x0 x2 x3 i) (zA x0 x2 x3 i)
  rw[←qwf] at row
  rw[←row]
  rfl) (by
  rw[q9S]
  simp only[STD,show ¬((x0.length:Int)<qf (plL x0 x2 x3 x0.length)) by unfold qf;rw[qhx];omega])
 have key':(qh yf [.r (plL x0 x2 x3 x0.length),.i (qf (plL x0 x2 x3 x0.length)),.i 0,.r x2,.r x3,.r []]).run=some (0,[.r (rD (zAT x0 x2 x3 x0.length))]):=key
 simp only[STD,qkn g,key']
theorem qr0{x0 x1 x2 x3:R}(g:Gv x0 x1 x2 x3):(q30 [.r x0,.r x1,.r x2,.r x3]).run=some (0,[.r (rD (zAT x0 x2 x3 x0.length))]):=by
 rw[qp5]
 have hn:=g.j.n
 have key:=wB (S:=q0D) (fun i=>[.i (i:Int),.r x0,.r x1,.r x2,.r x3,.r (rD (zAT x0 x2 x3 i))]) (0,[.r (rD (zAT x0 x2 x3 x0.length))]) x0.length (by omega) (fun i hi=>by
  rw[qdZ]
  have a2:(i:Int)<qf x2:=by unfold qf;have:=g.e2;omega
  have a3:(i:Int)<qf x3:=by unfold qf;have:=g.e3;omega
  have n:=g.num hi
  obtain⟨v1,v2,v3⟩:=qyM n
  obtain⟨n1,n2,n3,n4,n5,n6,n7⟩:=n
  have w1:qw .i64 (cI x3 i 0) (cI x2 i 0)=cI x3 i 0-cI x2 i 0:=w9 (by omega)
  have w2:qw .i64 (cI x3 i 1) (cI x2 i 1)=cI x3 i 1-cI x2 i 1:=w9 (by omega)
  have hp:inR (kP x0 x2 x3 i):=by unfold inR;omega
  have o:=qsw (m:=kP x0 x2 x3 i*kP x0 x2 x3 i) (n:=4) (by omega) (qE4 hp) (by omega)
  have u1:=qif (m:=cI x3 i 0-cI x2 i 0) (by omega)
  have u2:=qif (m:=cI x3 i 1-cI x2 i 1) (by omega)
  have room:=fun x=>qzr x0 x2 x3 hi hn x
  simp only[STD,a2,a3,uL,and_self,qp7,qtd g hi,w1,w2,v3,o,u1,u2,room,qCT,q2U hi (show x0.length<9223372036854775808 by omega)]
  have row:=qsL (zAT x0 x2 x3 i) (zA x0 x2 x3 i)
  rw[←qwf] at row
  rw[←row]
  rfl) (by
  rw[qdZ]
  simp only[STD,show ¬((x0.length:Int)<qf x2) by unfold qf;have:=g.e2;omega])
 have key':(qh q0D [.i 0,.r x0,.r x1,.r x2,.r x3,.r []]).run=some (0,[.r (rD (zAT x0 x2 x3 x0.length))]):=key
 simp only[STD,key']
theorem qpy{p:Nat→Bool}:∀{n:Nat},(q0U (fun i=>if p i=true then some i else none) 0 n=none∧pick p n=[])∨∃i r,q0U (fun i=>if p i=true then some i else none) 0 n=some i∧pick p n=[.i (i:Int)]::r
 | 0=>.inl ⟨rfl,rfl⟩
 | n+1=>by
  have split:q0U (fun i=>if p i=true then some i else none) 0 (n+1)=(q0U (fun i=>if p i=true then some i else none) 0 n).or (if p n=true then some n else none):=by
   have key:∀k i,q0U (fun i=>if p i=true then some i else none) i (k+1)=(q0U (fun i=>if p i=true then some i else none) i k).or (if p (i+k)=true then some (i+k) else none):=by
    intro k
    induction k with
    | zero=>intro i;simp only[q0U,Nat.add_zero];by_cases c:p i=true<;>simp[c]
    | succ k ih=>
     intro i
     rw[q0U]
     by_cases c:p i=true
     ·simp[q0U,c]
     ·have c':p i=false:=by simpa using c
      simp only[c',Bool.false_eq_true,if_false]
      rw[ih (i+1)]
      simp only[q0U,c',Bool.false_eq_true,if_false]
      rw[show i+1+k=i+(k+1) by omega]
   have:=key n 0
   rwa [Nat.zero_add] at this
  rcases qpy (p:=p) (n:=n) with⟨h1,h2⟩|⟨i,r,h1,h2⟩
  ·rw[split,h1]
   unfold pick
   by_cases c:p n=true
   ·rw[if_pos c,if_pos c,h2];exact .inr ⟨n,[],rfl,rfl⟩
   ·rw[if_neg c,if_neg c,h2];exact .inl ⟨rfl,rfl⟩
  ·rw[split,h1]
   unfold pick
   by_cases c:p n=true
   ·rw[if_pos c,if_pos c,h2];exact .inr ⟨i,r++[[.i (n:Int)]],rfl,rfl⟩
   ·rw[if_neg c,if_neg c,h2];exact .inr ⟨i,r,rfl,rfl⟩
theorem qpJ(x0 x2 x3:R):(yo x0 x2 x3=none∧pick (fun i=>decide (cI (plL x0 x2 x3 x0.length) i 0<0)) x0.length=[])∨∃i r,yo x0 x2 x3=some i∧pick (fun i=>decide (cI (plL x0 x2 x3 x0.length) i 0<0)) x0.length=[.i (i:Int)]::r:=by
 have e:yo x0 x2 x3=q0U (fun i=>if decide (cI (plL x0 x2 x3 x0.length) (i:Int) 0<0)=true then some i else none) 0 x0.length:=by
  unfold yo
  refine q1H fun j _ hj=>?_
  rw[qy1 x0 x2 x3 (show j<x0.length by omega)]
  simp only[decide_eq_true_eq]
 rw[e]
 exact qpy
def qCH(x0 x1 x2 x3:R):List PV:=if qpG x0 x1 x2 x3=0 then (yo x0 x2 x3).elim (cW (vD (zAT x0 x2 x3 x0.length))) (fun _=>[.b false,.i 0,.i 0,.i 0,.i 0]) else [.b false,.i 0,.i 0,.i 0,.i (qpG x0 x1 x2 x3)]
def qDm(x0 x1 x2 x3:R):List PV:=if qpG x0 x1 x2 x3=0 then (yo x0 x2 x3).elim [.r (yJ (zAT x0 x2 x3 x0.length)),.i 0] (fun i=>[.r [[.i (i:Int)]],.i 0]) else [.r [],.i (qpG x0 x1 x2 x3)]
theorem qdE{x0 x1 x2 x3:R}(g:Gv x0 x1 x2 x3):(qk [.r (plL x0 x2 x3 x0.length)]).run=some (0,[.r (pick (fun i=>decide (cI (plL x0 x2 x3 x0.length) i 0<0)) x0.length)]):=by
 have f:=qgJ (plL x0 x2 x3 x0.length) (by rw[qhx];have:=g.j.n;omega)
 rwa [qhx] at f
theorem jr(x0 x1 x2 x3:R)(h:x0.length<9223372036854775808):(qv [.r x0,.r x1,.r x2,.r x3]).run=some (0,qCH x0 x1 x2 x3):=by
 rw[qgA]
 unfold qCH
 by_cases hc:qpG x0 x1 x2 x3=0
 ·have g:=qc7 hc
  have hn:=g.j.n
  have c:=qvp g.gds g.nez (by rw[qho];omega)
  rcases qpJ x0 x2 x3 with⟨t1,t2⟩|⟨i,r,t1,t2⟩
  ·simp only[STD,vA x0 x1 x2 x3 h,hc,qkn g,qdE g,t1,t2,show ¬((0:Int)<qf []) by unfold qf;simp,qdW g,c]
   cases vD (zAT x0 x2 x3 x0.length)<;>rfl
  ·simp only[STD,vA x0 x1 x2 x3 h,hc,qkn g,qdE g,t1,t2,show ((0:Int)<qf ([U.i (i:Int)]::r)) by unfold qf;simp<;>omega]
 ·simp only[STD,vA x0 x1 x2 x3 h,hc]
theorem q4z(x0 x1 x2 x3:R)(h:x0.length<9223372036854775808):(z7 [.r x0,.r x1,.r x2,.r x3]).run=some (0,qDm x0 x1 x2 x3):=by
 rw[qk5]
 unfold qDm
 by_cases hc:qpG x0 x1 x2 x3=0
 ·have g:=qc7 hc
  have hn:=g.j.n
  have c:=quY g.gds g.nez (by rw[qho];omega)
  rcases qpJ x0 x2 x3 with⟨t1,t2⟩|⟨i,r,t1,t2⟩
  ·simp only[STD,vA x0 x1 x2 x3 h,hc,qkn g,qdE g,t1,t2,show ¬((0:Int)<qf []) by unfold qf;simp,qdW g,c]
   rfl
  ·have b1:q6O 1 (qf ([U.i (i:Int)]::r))=true:=by unfold q6O qf;simp;omega
   simp only[STD,vA x0 x1 x2 x3 h,hc,qkn g,qdE g,t1,t2,show ((0:Int)<qf ([U.i (i:Int)]::r)) by unfold qf;simp<;>omega,
    show (0:Int)≤1 by omega,show (1:Int)≤qf ([U.i (i:Int)]::r) by unfold qf;simp<;>omega,show (0:Int)≤0 by omega,and_self]
   rfl
 ·simp only[STD,vA x0 x1 x2 x3 h,hc]
end Go.Eng

namespace Go.Eng
def qBr(lo hi:Int):Int:=if (-100000≤lo∧lo≤100000)∧(-100000≤hi∧hi≤100000) then (if hi<lo then 9 else 0) else 2
def thE(l:R)(i:Nat):Int:=if qBr (cI l i 0) (cI l i 1)=0 then (if cI l i 0<1 then 2 else 0) else qBr (cI l i 0) (cI l i 1)
def thC(l:R):Int:=if l.length=0 then 13 else if 16<l.length then 5 else q4W (thE l) l.length
theorem qmc(x:Int):(wI [.i x]).run=some (0,[.b (decide (-100000≤x∧x≤100000))]):=by
 rw[qhK]
 by_cases h1:-100000≤x
 ·by_cases h2:x≤100000
  ·simp only[STD,h1,h2,and_self,decide_true]
   rw[show ile x 100000=true from by simp[ile,h2]]
  ·simp only[STD,h1,h2,and_false,decide_false]
   rw[show ile x 100000=false from by simp[ile];omega]
 ·simp only[STD,h1,false_and,decide_false]
theorem qkx(lo hi:Int):(uo [.i lo,.i hi]).run=some (0,[.i (qBr lo hi)]):=by
 rw[qii]
 unfold qBr
 by_cases h1:-100000≤lo∧lo≤100000
 ·by_cases h2:-100000≤hi∧hi≤100000
  ·by_cases h3:hi<lo
   ·simp only[STD,qmc,h1,h2,h3,and_self]
   ·simp only[STD,qmc,h1,h2,h3,and_self]
  ·simp only[STD,qmc,h1,h2,and_self,and_false]
 ·simp only[STD,qmc,h1,false_and]
def qCf(f:Nat→Int):Nat→Int
 | 0=>0
 | n+1=>qj .i64 (qCf f n) (f n)
theorem qBN(l:R)(i:Nat):thE l i=if qBr (cI l i 0) (cI l i 1)=0 then (if cI l i 0<1 then 2 else 0) else qBr (cI l i 0) (cI l i 1):=rfl
theorem qyQ(l:R)(h:l.length<9223372036854775808):(wL [.r l]).run=some (0,[.i (thC l)]):=by
 rw[qcM]
 unfold thC
 have g:=qua l 16
 simp only[show ((16:Nat):Int)=16 from rfl] at g
 by_cases h0:l.length=0
 ·simp only[STD,kr,h0]
 by_cases h1:16<l.length
 ·simp only[STD,kr,h0,g,h1]
 have key:=qdl (S:=vo) (fun i=>[.r l,.i (qf l),.i (i:Int)]) (thE l) [] [] l.length h (fun i hi=>by
  rw[q3P]
  have a1:(i:Int)<qf l:=qdV hi
  simp only[STD,a1,uL,and_self,qkx,q2U hi h,qBN]
  by_cases c:qBr (cI l i 0) (cI l i 1)=0
  ·by_cases d:cI l i 0<1
   ·simp[c,d]
   ·simp[c,d]
  ·simp[c]) (by
  rw[q3P]
  simp only[STD,qmr])
 simp only[show (((0:Nat)):Int)=0 from rfl] at key
 by_cases c:q4W (thE l) l.length=0
 ·rw[if_pos c] at key
  simp only[STD,kr,h0,g,h1,key,zk key,c]
 ·rw[if_neg c] at key
  simp only[STD,kr,h0,g,h1,key,zk key,show ¬((1:Nat)=0) by omega]
def qCF(l:R)(n:Nat):Int:=qCf (fun i=>cI l i 0) n
def qxE(l:R)(n:Nat):Int:=qCf (fun i=>cI l i 1) n
def qmj(l:R):List PV:=if thC l=0 then [.i (qCF l l.length),.i (qxE l l.length),.i 0] else [.i 0,.i 0,.i (thC l)]
theorem qj9(l:R)(h:l.length<9223372036854775808):(kl [.r l]).run=some (0,qmj l):=by
 rw[qhp]
 unfold qmj
 by_cases hc:thC l=0
 ·have key:=wB (S:=j0) (fun i=>[.r l,.i (qf l),.i (i:Int),.i 0,.i 0,.i (qCF l i),.i (qxE l i)]) (0,[.i 0,.i 0,.i (qCF l l.length),.i (qxE l l.length)]) l.length h (fun i hi=>by
   rw[q7k]
   have a1:(i:Int)<qf l:=qdV hi
   simp only[STD,a1,uL,and_self,q2U hi h]
   rfl) (by
   rw[q7k]
   simp only[STD,qmr])
  have key':(qh j0 [.r l,.i (qf l),.i 0,.i 0,.i 0,.i 0,.i 0]).run=some (0,[.i 0,.i 0,.i (qCF l l.length),.i (qxE l l.length)]):=key
  simp only[STD,qyQ l h,hc,key']
 ·simp only[STD,qyQ l h,hc]
def qEu(l m:R)(i:Nat):Bool:=decide (cI m i 0<cI l i 0∨cI l i 1<cI m i 0)
def qEw(l m:R):Prop:=∀i,i<l.length→qEu l m i=false
instance (l m:R):Decidable (qEw l m):=inferInstanceAs (Decidable (∀i,i<l.length→_))
end Go.Eng

namespace Go.Eng
def jA:R:=[[.i 0,.i 0,.i 100,.i 104,.i 4,.i 1,.b false],[.i 1000,.i 0,.i 100,.i 104,.i 4,.i 1,.b false]]
def jB:R:=[[.i 0,.i 0,.i 90,.i 92,.i 4,.i 1,.b true],[.i 1000,.i 0,.i 90,.i 92,.i 4,.i 1,.b true]]
def mA:R:=[[.i 2,.i 0,.i 100],[.i 998,.i 0,.i 100]]
def mB(w:Int):R:=[[.i (-w),.i 0,.i 92],[.i (1000+w),.i 0,.i 92]]
theorem qCu:(q9a []).run=some (0,[.r jA,.r jB]):=by
 rw[qtj]
 have L:=wB (S:=q2Z) (fun i=>[.i 2,.i (i:Int),.r [[.i 0],[.i 1000]],.r (jA.take i),.r (jB.take i)]) (0,[.r jA,.r jB]) 2 (by omega) (fun i hi=>by
  rw[qh2]
  rcases (show i=0∨i=1 by omega) with rfl|rfl<;>rfl) (by rw[qh2];rfl)
 have L':(qh q2Z [.i (qf [[U.i 0],[.i 1000]]),.i 0,.r [[.i 0],[.i 1000]],.r [],.r []]).run=some (0,[.r jA,.r jB]):=L
 simp only[STD,L']
theorem qBt(w:Int)(h:0≤w∧w≤1000):(uV [.i w]).run=some (0,[.r mA,.r (mB w)]):=by
 rw[qkf,w9 (by omega),z8 (by omega)]
 unfold mA mB
 rw[show (0:Int)-w=-w by omega];rfl
theorem ej:q5E jA jB=0:=by decide +kernel
theorem es:qAo jA jB=true:=by decide +kernel
theorem eg2:qpG jA jB mA (mB 2)=0:=by decide +kernel
theorem eg3:qpG jA jB mA (mB 3)=0:=by decide +kernel
theorem et2:yo jA mA (mB 2)=none:=by decide +kernel
theorem et3:yo jA mA (mB 3)=none:=by decide +kernel
theorem ef2:(vD (zAT jA mA (mB 2) 2)).isSome=true:=by decide +kernel
theorem ef3:(vD (zAT jA mA (mB 3) 2)).isSome=false:=by decide +kernel
theorem eo(i:Nat)(h:i<2):qqw jA mA (mB 2) i=false∧qqw jA mA (mB 3) i=true:=by
 rcases (show i=0∨i=1 by omega) with rfl|rfl
 ·constructor<;>decide +kernel
 ·constructor<;>decide +kernel
theorem ep2:pick (qqw jA mA (mB 2)) 2=[]:=by
 unfold pick pick pick
 rw[(eo 1 (by omega)).1,(eo 0 (by omega)).1];rfl
theorem ep3:pick (qqw jA mA (mB 3)) 2=[[.i 0],[.i 1]]:=by
 unfold pick pick pick
 rw[(eo 1 (by omega)).2,(eo 0 (by omega)).2];rfl
theorem ec3:yJ (zAT jA mA (mB 3) 2)=[[.i 0],[.i 1]]:=by
 have z:q9p (zAT jA mA (mB 3) 2) 0 1=some (two 0 1):=by
  unfold q9p
  have:(vD [ix (zAT jA mA (mB 3) 2) 0,ix (zAT jA mA (mB 3) 2) 1]).isSome=false:=by decide +kernel
  rw[this];rfl
 unfold yJ qrd
 simp only[show (zAT jA mA (mB 3) 2).length=2 from qho _ _ _ _,q0U,Nat.zero_add,Nat.add_zero,show 2-1=1 from rfl,z,Option.elim,id]
 rfl
theorem em:mgL jA jB 2=[[.i 0],[.i 0]]:=by
 have h0:mgA jA jB 0=0:=by decide +kernel
 have h1:mgA jA jB 1=0:=by decide +kernel
 unfold mgL ue
 rw[show List.range 2=[0,1] from rfl]
 simp only[List.map_cons,List.map_nil,h0,h1]
theorem qos:jA.length<9223372036854775808:=by show 2<_;omega
theorem eh:qmj [[.i 10,.i 12],[.i 20,.i 21]]=[.i 30,.i 33,.i 0]:=by
 have h1:thC [[.i 10,.i 12],[.i 20,.i 21]]=0:=by decide +kernel
 have h2:qCF [[.i 10,.i 12],[.i 20,.i 21]] 2=30:=by decide +kernel
 have h3:qxE [[.i 10,.i 12],[.i 20,.i 21]] 2=33:=by decide +kernel
 unfold qmj
 rw[if_pos h1]
 show [PV.i (qCF _ 2),.i (qxE _ 2),.i 0]=_
 rw[h2,h3]
theorem q5y:(zp []).run=some (0,[.b true]):=by
 rw[qpi]
 have M:=qaR jA jB qos
 have S:=qmq jA jB qos
 have P2:=q5R jA jB mA (mB 2) qos
 have P3:=q5R jA jB mA (mB 3) qos
 have K:=q4z jA jB mA (mB 3) qos
 have T2:=jr jA jB mA (mB 2) qos
 have T3:=jr jA jB mA (mB 3) qos
 have H:=qj9 [[.i 10,.i 12],[.i 20,.i 21]] (by show 2<_;omega)
 unfold qvS at M
 unfold qCv at S
 unfold qDX at P2 P3
 unfold qDm at K
 unfold qCH at T2 T3
 have l2:jA.length=2:=rfl
 rw[if_pos ej,l2,em] at M
 rw[if_pos ej,es] at S
 rw[if_pos eg2,l2,ep2] at P2
 rw[if_pos eg3,l2,ep3] at P3
 rw[if_pos eg3,et3,l2,ec3] at K
 rw[if_pos eg2,et2,l2] at T2
 rw[if_pos eg3,et3,l2] at T3
 rw[eh] at H
 have f3:vD (zAT jA mA (mB 3) 2)=none:=by
  have:=ef3
  cases h:vD (zAT jA mA (mB 3) 2) with
  | none=>rfl
  | some x=>rw[h] at this;cases this
 obtain⟨w,f2⟩:∃w,vD (zAT jA mA (mB 2) 2)=some w:=Option.isSome_iff_exists.1 ef2
 rw[f2] at T2
 rw[f3] at T3
 have T2':(qv [.r jA,.r jB,.r mA,.r (mB 2)]).run=some (0,[.b true,.i (w.1:Int),.i (w.2.1:Int),.i w.2.2,.i 0]):=T2
 have T3':(qv [.r jA,.r jB,.r mA,.r (mB 3)]).run=some (0,[.b false,.i 0,.i 0,.i 0,.i 0]):=T3
 have K':(z7 [.r jA,.r jB,.r mA,.r (mB 3)]).run=some (0,[.r [[.i 0],[.i 1]],.i 0]):=K
 have m2:=qBt 2 (by omega)
 have m3:=qBt 3 (by omega)
 have q0:=q4I [[.i 0],[.i 0]] (by show 2<_;omega)
 have q1:=q4I [[.i 0],[.i 1]] (by show 2<_;omega)
 have w0:qj .i64 0 0=0:=by decide
 simp only[STD,qCu,M,S,P2,P3,K',T2',T3',H,m2,m3,q0,q1,w0,show qf []=0 from rfl,and_self]
theorem qCg(x0 x1 x2 x3:R)(h:x0.length<9223372036854775808):∃b,(q9f [.r x0,.r x1,.r x2,.r x3]).run=some (0,[.b b]):=by
 rw[qsz]
 by_cases h0:(40:Int)<qf x0
 ·simp only[STD,h0];exact⟨_,rfl⟩
 by_cases h1:(40:Int)<qf x1
 ·simp only[STD,h0,h1];exact⟨_,rfl⟩
 by_cases h2:(40:Int)<qf x2
 ·simp only[STD,h0,h1,h2];exact⟨_,rfl⟩
 by_cases h3:(40:Int)<qf x3
 ·simp only[STD,h0,h1,h2,h3];exact⟨_,rfl⟩
 by_cases h4:qf x0≤4
 ·simp only[STD,h0,h1,h2,h3,h4];exact⟨_,rfl⟩
 ·simp only[STD,h0,h1,h2,h3,h4,qix x0 x1 x2 x3 h];exact⟨_,rfl⟩
theorem qC3(x0 x1 x2 x3:R)(h:x0.length<9223372036854775808):∃b,(q9i [.r x0,.r x1,.r x2,.r x3]).run=some (0,[.b b]):=by
 rw[qtL]
 obtain⟨b,e⟩:=qCg x0 x1 x2 x3 h
 simp only[STD,e];exact⟨_,rfl⟩
theorem qot(x0 x1 x2 x3:R)(h:x0.length<9223372036854775808):∃b,(vR [.r x0,.r x1,.r x2,.r x3]).run=some (0,[.b b])∧(b=true→qpG x0 x1 x2 x3=0):=by
 rw[qoY]
 obtain⟨b,e⟩:=qC3 x0 x1 x2 x3 h
 have g:=qix x0 x1 x2 x3 h
 cases b with
 | false=>simp only[STD,e];exact⟨_,rfl,fun h=>by cases h⟩
 | true=>simp only[STD,e,g];exact⟨_,rfl,fun h=>by simpa[ieq] using h⟩
theorem qrO{sh:List Sh}{x:R}(h:UFit (.sl sh) (.l x)):x.length<9223372036854775808:=by cases h with|sl _ _ h=>unfold maxLen at h;omega
end Go.Eng

namespace Go.Eng
structure ThN (l:R) (i:Nat):Prop where
 lo:1≤cI l i 0
 le:cI l i 0≤cI l i 1
 hi:cI l i 1≤100000
 c:qBr (cI l i 0) (cI l i 1)=0
theorem qwv{x0 x1 x2 x3:R}(g:Gv x0 x1 x2 x3):∃x y z,qCH x0 x1 x2 x3=[.b (decide (yo x0 x2 x3=none)&&(vD (zAT x0 x2 x3 x0.length)).isSome),.i x,.i y,.i z,.i 0]:=by
 unfold qCH
 rw[if_pos (qr8 g)]
 cases yo x0 x2 x3 with
 | none=>
  show ∃x y z,cW (vD _)=_
  unfold cW
  cases vD (zAT x0 x2 x3 x0.length) with
  | none=>exact⟨_,_,_,rfl⟩
  | some w=>exact⟨_,_,_,rfl⟩
 | some i=>exact⟨_,_,_,rfl⟩
theorem qzT{x0 x1 x2 x3:R}(g:Gv x0 x1 x2 x3)(h:∀i,i<x0.length→qB9 x0 x2 x3 i=true):(decide (yo x0 x2 x3=none)&&(vD (zAT x0 x2 x3 x0.length)).isSome)=true:=by
 rw[quk h,(q6p g.nez g.nn).2 (qxl h)];rfl
theorem qyb{x0 x2 x3:R}:qf (pick (qqw x0 x2 x3) x0.length)=0↔∀i,i<x0.length→qB9 x0 x2 x3 i=true:=by
 rw[qnk]
 constructor
 ·intro h i hi
  have:=h i hi
  unfold qqw at this
  simpa using this
 ·intro h i hi
  unfold qqw;rw[h i hi];rfl
end Go.Eng

namespace Go.Eng
theorem qkd(l:R)(u:U)(i r off:Nat)(j:Nat)(h:i<l.length):wJ (q6W l (i:Int) off [u]) (r:Int) j=if r=i∧j=off then u else wJ l (r:Int) j:=by
 unfold wJ q6W
 simp only[Int.toNat_natCast]
 by_cases hi:r=i
 ·subst hi
  have e:(l.set r (qio (l.getD r []) off [u])).getD r []=qio (l.getD r []) off [u]:=by
   rw[List.getD_eq_getElem?_getD,List.getElem?_set_self h];rfl
  rw[e]
  unfold qio
  simp only[List.length_cons,List.length_nil]
  rw[List.getD_eq_getElem?_getD,List.getElem?_map]
  by_cases hj:j<max (l.getD r []).length (off+(0+1))
  ·rw[List.getElem?_range hj]
   simp only[Option.map_some,Option.getD_some]
   by_cases h4:j=off
   ·subst h4;simp
   ·rw[if_neg (by omega),if_neg (by omega)]
  ·rw[List.getElem?_eq_none (by rw[List.length_range];exact Nat.le_of_not_lt hj)]
   simp only[Option.map_none,Option.getD_none]
   rw[if_neg (by omega),List.getD_eq_getElem?_getD,List.getElem?_eq_none (by omega)];rfl
 ·rw[if_neg (by omega)]
  have e:(l.set i (qio (l.getD i []) off [u])).getD r []=l.getD r []:=by
   rw[List.getD_eq_getElem?_getD,List.getElem?_set_ne (by omega),←List.getD_eq_getElem?_getD]
  rw[e]
theorem qiT(l:R)(u:U)(i:Int)(off:Nat):(q6W l i off [u]).length=l.length:=by unfold q6W;simp
def mv1(l:R)(k:Nat)(a b:Int):R:=
 q6W (q6W l (k:Int) 0 [.i (qj .i64 (cI l k 0) a)]) (k:Int) 1 [.i (qj .i64 (cI (q6W l (k:Int) 0 [.i (qj .i64 (cI l k 0) a)]) k 1) b)]
def mvP(l:R)(a b:Int):Nat→R
 | 0=>l
 | k+1=>mv1 (mvP l a b k) k a b
theorem qBR(l:R)(k:Nat)(a b:Int):(mv1 l k a b).length=l.length:=by unfold mv1;rw[qiT,qiT]
theorem qrB(l:R)(a b:Int):∀k,(mvP l a b k).length=l.length
 | 0=>rfl
 | k+1=>by unfold mvP;rw[qBR,qrB l a b k]
theorem qAK(l:R)(k r:Nat)(a b:Int)(j:Nat)(h:k<l.length):wJ (mv1 l k a b) (r:Int) j=if r=k∧j=1 then .i (qj .i64 (cI l k 1) b) else if r=k∧j=0 then .i (qj .i64 (cI l k 0) a) else wJ l (r:Int) j:=by
 unfold mv1
 rw[qkd _ _ _ _ _ _ (by rw[qiT];exact h),qkd _ _ _ _ _ _ h]
 have e:cI (q6W l (k:Int) 0 [.i (qj .i64 (cI l k 0) a)]) k 1=cI l k 1:=by
  unfold cI
  rw[qkd _ _ _ _ _ _ h,if_neg (by omega)]
 rw[e]
theorem qrW(l:R)(a b:Int)(r j:Nat):∀k,k≤l.length→wJ (mvP l a b k) (r:Int) j=if r<k∧j=1 then .i (qj .i64 (cI l r 1) b) else if r<k∧j=0 then .i (qj .i64 (cI l r 0) a) else wJ l (r:Int) j
 | 0,_=>by unfold mvP;rw[if_neg (by omega),if_neg (by omega)]
 | k+1,hk=>by
  have ih:=qrW l a b r j k (by omega)
  unfold mvP
  rw[qAK _ _ _ _ _ _ (by rw[qrB];omega)]
  by_cases hr:r=k
  ·subst hr
   have c:∀j,cI (mvP l a b r) r j=cI l r j:=fun j=>by
    unfold cI
    rw[qrW l a b r j r (by omega),if_neg (by omega),if_neg (by omega)]
   rw[c,c,ih]
   by_cases h1:j=1
   ·rw[if_pos ⟨rfl,h1⟩,if_pos ⟨by omega,h1⟩]
   ·rw[if_neg (by omega),if_neg (show ¬(r<r+1∧j=1) by omega)]
    by_cases h0:j=0
    ·rw[if_pos ⟨rfl,h0⟩,if_pos ⟨by omega,h0⟩]
    ·rw[if_neg (by omega),if_neg (by omega),if_neg (by omega),if_neg (by omega)]
  ·rw[if_neg (by omega),if_neg (by omega),ih]
   by_cases h1:r<k∧j=1
   ·rw[if_pos h1,if_pos (by omega)]
   ·rw[if_neg h1,if_neg (show ¬(r<k+1∧j=1) by omega)]
    by_cases h0:r<k∧j=0
    ·rw[if_pos h0,if_pos (by omega)]
    ·rw[if_neg h0,if_neg (show ¬(r<k+1∧j=0) by omega)]
theorem qyK{x0 x1 x2 x3:R}(g:Gv x0 x1 x2 x3):qDm x0 x1 x2 x3=[.r ((yo x0 x2 x3).elim (yJ (zAT x0 x2 x3 x0.length)) fun i=>[[.i (i:Int)]]),.i 0]:=by
 unfold qDm
 rw[if_pos (qr8 g)]
 cases yo x0 x2 x3<;>rfl
theorem qzk{x0 x1 x2 x3:R}(g:Gv x0 x1 x2 x3):(decide (yo x0 x2 x3=none)&&(vD (zAT x0 x2 x3 x0.length)).isSome)=ieq (qf ((yo x0 x2 x3).elim (yJ (zAT x0 x2 x3 x0.length)) fun i=>[[.i (i:Int)]])) 0 ∧
  ¬(3<qf ((yo x0 x2 x3).elim (yJ (zAT x0 x2 x3 x0.length)) fun i=>[[.i (i:Int)]])):=by
 cases yo x0 x2 x3 with
 | none=>
  obtain⟨h1,h2⟩:=qxe g.nn
  show (decide True&&(vD _).isSome)=ieq (qf (yJ _)) 0∧¬(3<qf (yJ _))
  refine⟨?_,by unfold qf;omega⟩
  rw[Bool.eq_iff_iff,qkL,decide_true,Bool.true_and,q6p g.nez g.nn,←h2]
  unfold qf;omega
 | some i=>exact⟨rfl,by show ¬((3:Int)<1);omega⟩
theorem qB8(l:R)(h:l.length≤16)(h0:l.length≠0):(qA [.r l]).run=some (0,[.r l]):=by
 rw[q3F]
 have a:(0:Int)<qf l:=by unfold qf;omega
 have b:qf []+qf l≤5864062014805:=by show (0:Int)+qf l≤_;unfold qf;omega
 simp only[STD,a,b]
 rfl
theorem qiW(x0:R)(x1:R)(x2:R)(x3:R)(x4:Int)(x5:Int)(lex0:UFit (.sl [(.int .i64),(.int .i64),(.int .i64),(.int .i64),(.int .i64),(.int .i64),.bool]) (.l x0))(_:UFit (.sl [(.int .i64),(.int .i64),(.int .i64),(.int .i64),(.int .i64),(.int .i64),.bool]) (.l x1))(lex2:UFit (.sl [(.int .i64),(.int .i64),(.int .i64)]) (.l x2))(_:UFit (.sl [(.int .i64),(.int .i64),(.int .i64)]) (.l x3))(_:IntKind.min .i64≤x4)(_:x4≤IntKind.max .i64)(_:IntKind.min .i64≤x5)(_:x5≤IntKind.max .i64):(jP [.r x0,.r x1,.r x2,.r x3,.i x4,.i x5]).run=some (0,[.b true]):=by
 have h:=qrO lex0
 rw[qen]
 obtain⟨b,f,fr⟩:=qot x0 x1 x2 x3 h
 cases b with
 | false=>simp only[STD,f,q5y]
 | true=>
  have g:=qc7 (fr rfl)
  have hn:=g.j.n
  have rt:=q8T x4 x5
  by_cases hb:-100000≤x4∧x4≤100000∧-100000≤x5∧x5≤100000
  ·have I:=q5R x0 x1 x2 x3 h
   have T:=jr x0 x1 x2 x3 h
   have S:=q4z x0 x1 x2 x3 h
   unfold qDX at I
   rw[if_pos (qr8 g)] at I
   obtain⟨x,y,z,ht⟩:=qwv g
   rw[ht] at T
   rw[qyK g] at S
   obtain⟨st1,st2⟩:=qzk g
   have w0:qj .i64 0 0=0:=by decide
   have cl:=qB8 x2 (by rw[g.e2];exact hn) (by rw[g.e2];exact g.j.ne)
   obtain⟨ok,hok⟩:∃ok,ok=(decide (yo x0 x2 x3=none)&&(vD (zAT x0 x2 x3 x0.length)).isSome):=⟨_,rfl⟩
   obtain⟨stk,hst⟩:∃s,s=(yo x0 x2 x3).elim (yJ (zAT x0 x2 x3 x0.length)) fun i=>[[U.i (i:Int)]]:=⟨_,rfl⟩
   have pl:=fun (hh:∀i,i<x0.length→qB9 x0 x2 x3 i=true)=>qzT g hh
   rw[←hok] at T st1 pl
   rw[←hst] at S st1 st2
   have L:=wB (S:=zw) (fun i=>[.b ok,.r stk,.i (qf x2),.i (i:Int),.r x0,.r x1,.i x4,.i x5,.r x3,.r (mvP x2 x4 x5 i)]) (0,[.b ok,.r stk,.r x0,.r x1,.r x3,.r (mvP x2 x4 x5 x2.length)]) x2.length (qrO lex2) (fun i hi=>by
    rw[q4d]
    have a1:(i:Int)<qf x2:=qdV hi
    have a2:(i:Int)<qf (mvP x2 x4 x5 i):=qdV (by rw[qrB];exact hi)
    have a3:∀u,(i:Int)<qf (q6W (mvP x2 x4 x5 i) i 0 [u]):=fun u=>qdV (by rw[qiT,qrB];exact hi)
    simp only[STD,a1,a2,a3,uL,and_self,q2U hi (qrO lex2)]
    rfl) (by
    rw[q4d]
    simp only[STD,qmr])
   have L':(qh zw [.b ok,.r stk,.i (qf x2),.i 0,.r x0,.r x1,.i x4,.i x5,.r x3,.r x2]).run=some (0,[.b ok,.r stk,.r x0,.r x1,.r x3,.r (mvP x2 x4 x5 x2.length)]):=L
   obtain⟨y2,hy⟩:∃y2,y2=mvP x2 x4 x5 x2.length:=⟨_,rfl⟩
   have cell:∀(r j:Nat),r<x0.length→wJ y2 (r:Int) j=if j=1 then .i (qj .i64 (cI x2 r 1) x5) else if j=0 then .i (qj .i64 (cI x2 r 0) x4) else wJ x2 (r:Int) j:=fun r j hr=>by
    have e2:=g.e2
    rw[hy,qrW _ _ _ _ _ _ (Nat.le_refl _)]
    by_cases h1:j=1
    ·rw[if_pos ⟨by omega,h1⟩,if_pos h1]
    ·rw[if_neg (by omega),if_neg h1]
     by_cases h2:j=0
     ·rw[if_pos ⟨by omega,h2⟩,if_pos h2]
     ·rw[if_neg (by omega),if_neg h2]
   rw[←hy] at L'
   have c0:∀i:Nat,i<x0.length→cI y2 i 0=cI x2 i 0+x4:=fun i hi=>by
    have n:=g.num hi
    obtain⟨n1,n2,_⟩:=n
    unfold cI
    rw[cell i 0 hi,if_neg (by omega),if_pos rfl]
    show qj .i64 (cI x2 i 0) x4=cI x2 i 0+x4
    exact z8 (by omega)
   have c1:∀i:Nat,i<x0.length→cI y2 i 1=cI x2 i 1+x5:=fun i hi=>by
    have n:=g.num hi
    obtain⟨n1,n2,_⟩:=n
    unfold cI
    rw[cell i 1 hi,if_pos rfl]
    show qj .i64 (cI x2 i 1) x5=cI x2 i 1+x5
    exact z8 (by omega)
   have c2:∀i:Nat,i<x0.length→cI y2 i 2=cI x2 i 2:=fun i hi=>by
    unfold cI
    rw[cell i 2 hi,if_neg (by omega),if_neg (by omega)]
   obtain⟨b2,f2,fr2⟩:=qot x0 x1 y2 x3 h
   cases b2 with
   | false=>
    by_cases hp:qf (pick (qqw x0 x2 x3) x0.length)=0
    ·have:=pl (qyb.1 hp)
     rw[this] at T L' st1
     have s1:=st1.symm
     simp only[STD,f,rt,hb,I,T,S,w0,hp,s1,st2,cl,L',f2,q5y,eq_self,and_self,decide_true]
    ·have s1:=st1.symm
     simp only[STD,f,rt,hb,I,T,S,w0,hp,s1,st2,cl,L',f2,q5y,eq_self,and_self,decide_true]
   | true=>
    have g2:=qc7 (fr2 rfl)
    have T2:=jr x0 x1 y2 x3 h
    have S2:=q4z x0 x1 y2 x3 h
    obtain⟨x',y',z',ht2⟩:=qwv g2
    rw[ht2] at T2
    rw[qyK g2] at S2
    have zm:=qCX (x0:=x0) (x3:=x3) (n:=x0.length) c0 c1 c2
    rw[qvW c2,zm,qrg _ _ g.nez g.nn,←hok] at T2
    rw[qvW c2,zm,qyj _ _ g.nn,←hst] at S2
    have ln:stk.length<9223372036854775808:=by unfold qf at st2;omega
    have q:=q4I stk ln
    by_cases hp:qf (pick (qqw x0 x2 x3) x0.length)=0
    ·have:=pl (qyb.1 hp)
     rw[this] at T L' st1 T2
     have s1:=st1.symm
     simp only[STD,f,rt,hb,I,T,S,w0,hp,s1,st2,cl,L',f2,T2,S2,q,q5y,eq_self,and_self,decide_true]
    ·have s1:=st1.symm
     simp only[STD,f,rt,hb,I,T,S,w0,hp,s1,st2,cl,L',f2,T2,S2,q,q5y,eq_self,and_self,decide_true]
  ·simp only[STD,f,rt,hb,decide_false,q5y]
end Go.Eng

namespace Go.Eng
def q91(l s:R)(k:Nat):List U:=[.i (cI l (cI s k 0) 0),.i (cI l (cI s k 0) 1),.i (cI l (cI s k 0) 2),.i (cI l (cI s k 0) 3),.i (cI l (cI s k 0) 4),.i (cI l (cI s k 0) 5),.b (cB l (cI s k 0) 6)]
def q8b(l s:R)(k:Nat):List U:=[.i (cI l (cI s k 0) 0),.i (cI l (cI s k 0) 1),.i (cI l (cI s k 0) 2)]
theorem qfj(l:R){s:R}{n k i:Nat}(h:k<n)(e:cI s k 0=(i:Int)):cI (ue (q91 l s) n) k 0=cI l i 0∧cI (ue (q91 l s) n) k 1=cI l i 1∧cI (ue (q91 l s) n) k 2=cI l i 2∧cI (ue (q91 l s) n) k 3=cI l i 3 ∧
  cI (ue (q91 l s) n) k 4=cI l i 4∧cI (ue (q91 l s) n) k 5=cI l i 5∧cB (ue (q91 l s) n) k 6=cB l i 6:=by
 have e1:q91 l s k=[.i (cI l i 0),.i (cI l i 1),.i (cI l i 2),.i (cI l i 3),.i (cI l i 4),.i (cI l i 5),.b (cB l i 6)]:=by unfold q91;rw[e]
 refine⟨?_,?_,?_,?_,?_,?_,?_⟩
 ·rw[qa5 _ h,e1];rfl
 ·rw[qa5 _ h,e1];rfl
 ·rw[qa5 _ h,e1];rfl
 ·rw[qa5 _ h,e1];rfl
 ·rw[qa5 _ h,e1];rfl
 ·rw[qa5 _ h,e1];rfl
 ·rw[qCA _ h,e1];rfl
theorem qcs(l:R){s:R}{n k i:Nat}(h:k<n)(e:cI s k 0=(i:Int)):cI (ue (q8b l s) n) k 0=cI l i 0∧cI (ue (q8b l s) n) k 1=cI l i 1∧cI (ue (q8b l s) n) k 2=cI l i 2:=by
 have e1:q8b l s k=[.i (cI l i 0),.i (cI l i 1),.i (cI l i 2)]:=by unfold q8b;rw[e]
 refine⟨?_,?_,?_⟩
 ·rw[qa5 _ h,e1];rfl
 ·rw[qa5 _ h,e1];rfl
 ·rw[qa5 _ h,e1];rfl
theorem qDn{x0 x1 x2 x3 s:R}(g:Gv x0 x1 x2 x3)(h0:s.length≠0)(h3:s.length≤3)(hs:∀k,k<s.length→∃i:Nat,cI s k 0=(i:Int)∧i<x0.length) :
  Gv (ue (q91 x0 s) s.length) (ue (q91 x1 s) s.length) (ue (q8b x2 s) s.length) (ue (q8b x3 s) s.length):=by
 have e0:(ue (q91 x0 s) s.length).length=s.length:=q2S _ _
 refine⟨⟨by rw[e0];omega,by rw[e0];exact h0,by rw[q2S,q2S],fun k hk=>?_⟩,by rw[q2S,q2S],by rw[q2S,q2S],fun k hk=>?_⟩
 ·rw[e0] at hk
  obtain⟨i,e,hi⟩:=hs k hk
  obtain⟨a0,a1,a2,a3,a4,a5,a6⟩:=qfj x0 hk e
  obtain⟨b0,b1,b2,b3,b4,b5,b6⟩:=qfj x1 hk e
  rw[←g.j.p i hi]
  unfold qia qxV
  simp only[a0,a1,a2,a3,a4,a5,a6,b0,b1,b2,b3,b4,b5,b6]
 ·rw[e0] at hk
  obtain⟨i,e,hi⟩:=hs k hk
  obtain⟨_,_,a2,a3,_,_,_⟩:=qfj x0 hk e
  obtain⟨_,_,b2,b3,_,_,_⟩:=qfj x1 hk e
  obtain⟨c0,c1,c2⟩:=qcs x2 hk e
  obtain⟨d0,d1,d2⟩:=qcs x3 hk e
  rw[←g.g i hi]
  have iA:qu0 (ue (q91 x0 s) s.length) (ue (q8b x2 s) s.length) k=qu0 x0 x2 i:=by unfold qu0;rw[c2,a2,a3]
  have iB:qu0 (ue (q91 x1 s) s.length) (ue (q8b x3 s) s.length) k=qu0 x1 x3 i:=by unfold qu0;rw[d2,b2,b3]
  unfold qyT qwb
  simp only[iA,iB,c0,c1,c2,d0,d1,d2]
theorem qwz{x0 x2 x3 s:R}{k i:Nat}(hk:k<s.length)(e:cI s k 0=(i:Int)):kP (ue (q91 x0 s) s.length) (ue (q8b x2 s) s.length) (ue (q8b x3 s) s.length) k=kP x0 x2 x3 i:=by
 obtain⟨_,_,_,_,_,_,a6⟩:=qfj x0 hk e
 obtain⟨_,_,c2⟩:=qcs x2 hk e
 obtain⟨_,_,d2⟩:=qcs x3 hk e
 unfold kP
 simp only[a6,c2,d2]
theorem qyY{x0 x2 x3 s:R}{k i:Nat}(hk:k<s.length)(e:cI s k 0=(i:Int)):zA (ue (q91 x0 s) s.length) (ue (q8b x2 s) s.length) (ue (q8b x3 s) s.length) k=zA x0 x2 x3 i:=by
 obtain⟨c0,c1,_⟩:=qcs x2 hk e
 obtain⟨d0,d1,_⟩:=qcs x3 hk e
 unfold zA
 rw[qwz hk e,c0,c1,d0,d1]
theorem qsC(x0 x2 x3:R){n i:Nat}(h:i<n):ix (zAT x0 x2 x3 n) i=zA x0 x2 x3 i:=by
 unfold ix zAT
 rw[List.getD_eq_getElem?_getD,List.getElem?_map,List.getElem?_range h];rfl
theorem qDu(i j:Nat):cI (two i j) (0:Nat) 0=(i:Int)∧cI (two i j) (1:Nat) 0=(j:Int):=⟨rfl,rfl⟩
theorem qB1(i j k:Nat):cI (qhW i j k) (0:Nat) 0=(i:Int)∧cI (qhW i j k) (1:Nat) 0=(j:Int)∧cI (qhW i j k) (2:Nat) 0=(k:Int):=⟨rfl,rfl,rfl⟩
theorem quP{x0 x1 x2 x3 s:R}(g:Gv x0 x1 x2 x3)(hs:s=(yo x0 x2 x3).elim (yJ (zAT x0 x2 x3 x0.length)) fun i=>[[U.i (i:Int)]])(h0:s.length≠0) :
  s.length≤3∧(∀k,k<s.length→∃i:Nat,cI s k 0=(i:Int)∧i<x0.length) ∧
  ∀_:Gv (ue (q91 x0 s) s.length) (ue (q91 x1 s) s.length) (ue (q8b x2 s) s.length) (ue (q8b x3 s) s.length),
   (decide (yo (ue (q91 x0 s) s.length) (ue (q8b x2 s) s.length) (ue (q8b x3 s) s.length)=none)&&(vD (zAT (ue (q91 x0 s) s.length) (ue (q8b x2 s) s.length) (ue (q8b x3 s) s.length) (ue (q91 x0 s) s.length).length)).isSome)=false:=by
 cases ht:yo x0 x2 x3 with
 | some i=>
  rw[ht] at hs
  have hs:s=[[U.i (i:Int)]]:=hs
  obtain⟨i',_,hi,h1,_⟩:=q2l ht
  have hp:kP x0 x2 x3 i'<0∧i'=i:=by
   split at h1
   ·rename_i c;cases h1;exact⟨c,rfl⟩
   ·cases h1
  obtain⟨hp,rfl⟩:=hp
  have e:cI s (0:Nat) 0=(i':Int):=by rw[hs];rfl
  have l1:s.length=1:=by rw[hs];rfl
  refine⟨by omega,fun k hk=>⟨i',?_,by omega⟩,fun gy=>?_⟩
  ·obtain rfl:k=0:=by omega
   exact e
  ·have:yo (ue (q91 x0 s) s.length) (ue (q8b x2 s) s.length) (ue (q8b x3 s) s.length)≠none:=by
    intro hn
    have:=qps.1 hn 0 (by rw[q2S];omega)
    rw[qwz (by omega) e] at this
    omega
   rw[decide_eq_false this];rfl
 | none=>
  rw[ht] at hs
  have hs:s=yJ (zAT x0 x2 x3 x0.length):=hs
  have nomeet:∀gy:Gv (ue (q91 x0 s) s.length) (ue (q91 x1 s) s.length) (ue (q8b x2 s) s.length) (ue (q8b x3 s) s.length),
    ¬qeG (zAT (ue (q91 x0 s) s.length) (ue (q8b x2 s) s.length) (ue (q8b x3 s) s.length) s.length) →
    (decide (yo (ue (q91 x0 s) s.length) (ue (q8b x2 s) s.length) (ue (q8b x3 s) s.length)=none)&&(vD (zAT (ue (q91 x0 s) s.length) (ue (q8b x2 s) s.length) (ue (q8b x3 s) s.length) (ue (q91 x0 s) s.length).length)).isSome)=false:=by
   intro gy hm
   have:=q6p gy.nez gy.nn
   cases hf:(vD (zAT (ue (q91 x0 s) s.length) (ue (q8b x2 s) s.length) (ue (q8b x3 s) s.length) (ue (q91 x0 s) s.length).length)).isSome with
   | false=>rw[Bool.and_false]
   | true=>
    have:=this.1 hf
    rw[q2S] at this
    exact absurd this hm
  have lz:(zAT x0 x2 x3 x0.length).length=x0.length:=qho _ _ _ _
  rcases qlq g.nn with⟨_,e⟩|⟨_,i,j,hij,hj,e,hm⟩|⟨_,_,i,j,k,hij,hjk,hk,e,hm⟩
  ·rw[e] at hs;rw[hs] at h0;exact absurd rfl h0
  ·rw[e] at hs
   rw[lz] at hj
   have l2:s.length=2:=by rw[hs];rfl
   obtain⟨c0,c1⟩:=qDu i j
   rw[←hs] at c0 c1
   refine⟨by omega,fun k hk=>?_,fun gy=>nomeet gy fun hmm=>hm ?_⟩
   ·rcases (show k=0∨k=1 by omega) with rfl|rfl
    ·exact⟨i,c0,by omega⟩
    ·exact⟨j,c1,hj⟩
   ·rw[qsC _ _ _ (show i<x0.length by omega),qsC _ _ _ hj]
    refine hmm.mono fun d hd=>?_
    simp only[List.mem_cons,List.not_mem_nil,or_false] at hd
    unfold zAT
    rcases hd with rfl|rfl
    ·exact List.mem_map.2 ⟨0,List.mem_range.2 (by omega),qyY (by omega) c0⟩
    ·exact List.mem_map.2 ⟨1,List.mem_range.2 (by omega),qyY (by omega) c1⟩
  ·rw[e] at hs
   rw[lz] at hk
   have l3:s.length=3:=by rw[hs];rfl
   obtain⟨c0,c1,c2⟩:=qB1 i j k
   rw[←hs] at c0 c1 c2
   refine⟨by omega,fun q hq=>?_,fun gy=>nomeet gy fun hmm=>hm ?_⟩
   ·rcases (show q=0∨q=1∨q=2 by omega) with rfl|rfl|rfl
    ·exact⟨i,c0,by omega⟩
    ·exact⟨j,c1,by omega⟩
    ·exact⟨k,c2,hk⟩
   ·rw[qsC _ _ _ (show i<x0.length by omega),qsC _ _ _ (show j<x0.length by omega),qsC _ _ _ hk]
    refine hmm.mono fun d hd=>?_
    simp only[List.mem_cons,List.not_mem_nil,or_false] at hd
    unfold zAT
    rcases hd with rfl|rfl|rfl
    ·exact List.mem_map.2 ⟨0,List.mem_range.2 (by omega),qyY (by omega) c0⟩
    ·exact List.mem_map.2 ⟨1,List.mem_range.2 (by omega),qyY (by omega) c1⟩
    ·exact List.mem_map.2 ⟨2,List.mem_range.2 (by omega),qyY (by omega) c2⟩
theorem qCM{l:List DQ}{w:Nat×Nat×Int}(h:vD l=some w):vE l.length w.1 w.2.1 w.2.2=0∧vB l w.1 w.2.1 w.2.2=true:=by
 obtain⟨h1,h2,h3,h4,_⟩:=qo4 h
 have e:vE l.length w.1 w.2.1 w.2.2=0:=by
  unfold vE
  rw[if_neg (by omega),if_neg (by omega),if_neg (by omega)]
 refine⟨e,?_⟩
 unfold vB
 rw[if_pos e,Int.toNat_natCast,Int.toNat_natCast]
 exact h1
theorem qhy(x0:R)(x1:R)(x2:R)(x3:R)(lex0:UFit (.sl [(.int .i64),(.int .i64),(.int .i64),(.int .i64),(.int .i64),(.int .i64),.bool]) (.l x0))(_:UFit (.sl [(.int .i64),(.int .i64),(.int .i64),(.int .i64),(.int .i64),(.int .i64),.bool]) (.l x1))(_:UFit (.sl [(.int .i64),(.int .i64),(.int .i64)]) (.l x2))(_:UFit (.sl [(.int .i64),(.int .i64),(.int .i64)]) (.l x3)):(ji [.r x0,.r x1,.r x2,.r x3]).run=some (0,[.b true]):=by
 have h:=qrO lex0
 rw[qdK]
 obtain⟨b,f,fr⟩:=qot x0 x1 x2 x3 h
 cases b with
 | false=>simp only[STD,f,q5y]
 | true=>
  have g:=qc7 (fr rfl)
  have hn:=g.j.n
  have T:=jr x0 x1 x2 x3 h
  have S:=q4z x0 x1 x2 x3 h
  have w0:qj .i64 0 0=0:=by decide
  obtain⟨st1,st2⟩:=qzk g
  rw[qyK g] at S
  cases hok:(decide (yo x0 x2 x3=none)&&(vD (zAT x0 x2 x3 x0.length)).isSome) with
  | true=>
   have ht:yo x0 x2 x3=none:=by
    cases h':yo x0 x2 x3 with
    | none=>rfl
    | some i=>rw[h'] at hok;cases hok
   have hf:∃w,vD (zAT x0 x2 x3 x0.length)=some w:=by
    cases h':vD (zAT x0 x2 x3 x0.length) with
    | some w=>exact⟨w,rfl⟩
    | none=>rw[h',Option.isSome_none,Bool.and_false] at hok;cases hok
   obtain⟨w,hw⟩:=hf
   unfold qCH at T
   rw[if_pos (qr8 g),ht,Option.elim,hw] at T
   have T':(qv [.r x0,.r x1,.r x2,.r x3]).run=some (0,[.b true,.i (w.1:Int),.i (w.2.1:Int),.i w.2.2,.i 0]):=T
   obtain⟨v1,v2⟩:=qCM hw
   have V:=quc g.gds g.nez (by rw[qho];omega) w.1 w.2.1 w.2.2
   rw[v1,v2] at V
   simp only[STD,f,T',S,w0,qr0 g,V,q5y]
  | false=>
   obtain⟨x,y,z,ht⟩:=qwv g
   rw[ht,hok] at T
   rw[hok] at st1
   obtain⟨s,hs⟩:∃s,s=(yo x0 x2 x3).elim (yJ (zAT x0 x2 x3 x0.length)) fun i=>[[U.i (i:Int)]]:=⟨_,rfl⟩
   rw[←hs] at S st1 st2
   have h0:s.length≠0:=by
    intro e
    have:qf s=0:=by unfold qf;omega
    rw[this] at st1;cases st1
   obtain⟨s3,si,sg⟩:=quP g hs h0
   have gy:=qDn g h0 s3 si
   have L:=wB (S:=zU) (fun i=>[.r s,.r s,.i (qf s),.i (i:Int),.r x0,.r x1,.r x2,.r x3,.r (ue (q91 x0 s) i),.r (ue (q91 x1 s) i),.r (ue (q8b x2 s) i),.r (ue (q8b x3 s) i)])
    (0,[.r s,.r (ue (q91 x0 s) s.length),.r (ue (q91 x1 s) s.length),.r (ue (q8b x2 s) s.length),.r (ue (q8b x3 s) s.length)]) s.length (by omega) (fun k hk=>by
    rw[q3s]
    have a1:(k:Int)<qf s:=qdV hk
    obtain⟨i,e,hi⟩:=si k hk
    have i0:(i:Int)<qf x0:=qdV hi
    have i1:(i:Int)<qf x1:=qdV (by rw[g.j.e];exact hi)
    have i2:(i:Int)<qf x2:=qdV (by rw[g.e2];exact hi)
    have i3:(i:Int)<qf x3:=qdV (by rw[g.e3];exact hi)
    have r1:∀(q:Nat→List U) (a:List U),qf (ue q k)+qf [a]≤2513169434916:=fun q a=>qtp hk (by omega) a
    have r2:∀(q:Nat→List U) (a:List U),qf (ue q k)+qf [a]≤5864062014805:=fun q a=>qtp hk (by omega) a
    have m0:q3z (ue (q91 x0 s) k) [[.i (cI x0 i 0),.i (cI x0 i 1),.i (cI x0 i 2),.i (cI x0 i 3),.i (cI x0 i 4),.i (cI x0 i 5),.b (cB x0 i 6)]]=ue (q91 x0 s) (k+1):=by
     have:=qcH (q91 x0 s) k
     rw[show q91 x0 s k=[.i (cI x0 i 0),.i (cI x0 i 1),.i (cI x0 i 2),.i (cI x0 i 3),.i (cI x0 i 4),.i (cI x0 i 5),.b (cB x0 i 6)] by unfold q91;rw[e]] at this
     exact this
    have m1:q3z (ue (q91 x1 s) k) [[.i (cI x1 i 0),.i (cI x1 i 1),.i (cI x1 i 2),.i (cI x1 i 3),.i (cI x1 i 4),.i (cI x1 i 5),.b (cB x1 i 6)]]=ue (q91 x1 s) (k+1):=by
     have:=qcH (q91 x1 s) k
     rw[show q91 x1 s k=[.i (cI x1 i 0),.i (cI x1 i 1),.i (cI x1 i 2),.i (cI x1 i 3),.i (cI x1 i 4),.i (cI x1 i 5),.b (cB x1 i 6)] by unfold q91;rw[e]] at this
     exact this
    have m2:q3z (ue (q8b x2 s) k) [[.i (cI x2 i 0),.i (cI x2 i 1),.i (cI x2 i 2)]]=ue (q8b x2 s) (k+1):=by
     have:=qcH (q8b x2 s) k
     rw[show q8b x2 s k=[.i (cI x2 i 0),.i (cI x2 i 1),.i (cI x2 i 2)] by unfold q8b;rw[e]] at this
     exact this
    have m3:q3z (ue (q8b x3 s) k) [[.i (cI x3 i 0),.i (cI x3 i 1),.i (cI x3 i 2)]]=ue (q8b x3 s) (k+1):=by
     have:=qcH (q8b x3 s) k
     rw[show q8b x3 s k=[.i (cI x3 i 0),.i (cI x3 i 1),.i (cI x3 i 2)] by unfold q8b;rw[e]] at this
     exact this
    simp only[STD,a1,uL,and_self,e,i0,i1,i2,i3,r1,r2,show ¬((i:Int)<0) by omega,show ¬(qf x0≤(i:Int)) by omega,q2U hk (show s.length<9223372036854775808 by omega)]
    rw[m0,m1,m2,m3]) (by
    rw[q3s]
    simp only[STD,qmr])
   have L':(qh zU [.r s,.r s,.i (qf s),.i 0,.r x0,.r x1,.r x2,.r x3,.r [],.r [],.r [],.r []]).run=some (0,[.r s,.r (ue (q91 x0 s) s.length),.r (ue (q91 x1 s) s.length),.r (ue (q8b x2 s) s.length),.r (ue (q8b x3 s) s.length)]):=L
   have T2:=jr (ue (q91 x0 s) s.length) (ue (q91 x1 s) s.length) (ue (q8b x2 s) s.length) (ue (q8b x3 s) s.length) (by rw[q2S];omega)
   obtain⟨x',y',z',ht2⟩:=qwv gy
   rw[ht2,sg gy] at T2
   have pos:(0:Int)<qf s:=by unfold qf;omega
   simp only[STD,f,T,S,w0,L',zk L',T2,pos,q5y]
end Go.Eng

