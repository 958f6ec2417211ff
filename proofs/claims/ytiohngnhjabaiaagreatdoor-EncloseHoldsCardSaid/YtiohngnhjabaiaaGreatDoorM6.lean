/- Texts of the proof, merged: what the code computes, and plain laws. No statement stands here. -/
import Derived.Test.YtiohngnhjabaiaaGreatDoorM5
namespace Go.Eng
variable {i:Nat}
theorem qdn {m:Int}(h:m<0):tI m=45::tN m.natAbs:=by unfold tI;rw[if_pos h]
theorem qlw {m:Int}(h:¬m<0):tI m=tN m.natAbs:=by unfold tI;rw[if_neg h]
theorem q28 (n:Nat):tI (n:Int)=tN n:=by rw[qlw (by omega)];rfl
theorem qyo:tN 0=[48]:=rfl
theorem qj5 {s:qLv}(hd:q6p s)(hn:s≠[]):∃c t,s=c::t/\48<=c.toNat/\c.toNat<=57:=by
 cases s with
 | nil=>exact absurd rfl hn
 | cons c t=>exact⟨c,t,rfl,(q1d.1 hd).1⟩
theorem qwK (m:Int):(tI m).length<=(tN m.natAbs).length+1:=by unfold tI;split<;>simp
theorem qxp (m:Int):0<(tI m).length:=by have:=qkm m.natAbs;unfold tI;split<;>simp<;>omega
theorem qxm {m n:Int}(h:tI m=tI n):m=n:=by
 have key:∀{m n:Int},m<0->¬n<0->tI m≠tI n:=by intro m n h1 h2 e;rw[qdn h1,qlw h2] at e;obtain⟨c,t,hc,h3,h4⟩:=qj5 (wF n.natAbs) (qsd _);rw[hc] at e;have:=(List.cons.inj e).1;rw[<-this] at h3;exact absurd h3 (by decide)
 by_cases h1:m<0<;>by_cases h2:n<0
 ·rw[qdn h1,qdn h2] at h;have:=qun (List.cons.inj h).2;omega
 ·exact absurd h (key h1 h2)
 ·exact absurd h.symm (key h2 h1)
 ·rw[qlw h1,qlw h2] at h;have:=qun h;omega
theorem qA1 (m:Int):(sat (tI m) 0=45)=(m<0):=by
 by_cases h:m<0
 ·rw[qdn h];simp[sat,h]
 ·rw[qlw h];obtain⟨c,t,hc,h3,h4⟩:=qj5 (wF m.natAbs) (qsd _);rw[hc];simp[sat,h];omega
theorem va (m:Int):(qA [.s (tI m)]).run=some (0,[.s (tN m.natAbs)]):=by
 rw[qm3];have hp:=qxp m;have hne:¬tI m=[]:=fun h=>by rw[h] at hp;simp at hp
 have h1:(0:Int)<qD (tI m):=by unfold qD;omega
 have h2:(1:Int)<=qD (tI m):=by omega
 simp only[STD,zr,hne,h1,h2,qA1,qM3,show (0:Int)<=qD (tI m) by omega,and_self,show (0:Int)<=1 by omega];by_cases h:m<0
 ·rw[if_pos h,qdn h];simp[qcW,qD]
 ·rw[if_neg h,qlw h]
theorem jc (m:Int):(qL [.s (tI m)]).run=some (0,[.b (decide (m<0))]):=by
 rw[qsK];have hp:=qxp m;have h1:(0:Int)<qD (tI m):=by unfold qD;omega
 have h2:ieq (sat (tI m) 0) 45=decide (m<0):=by have:=qA1 m;by_cases h:m<0<;>simp[ieq,h] at this ⊢<;>exact this
 simp only[STD,h1,h2,qM3,and_self]
theorem q0x (n:Nat)(b:Bool)(hl:(tN n).length<=100000000):(zF [.s (tN n),.b b]).run=some (0,[.s (tI (if b then -(n:Int) else n))]):=by
 rw[qrV];have h1:qD [45]+qD (tN n)<=140737488355328:=by show (1:Int)+((tN n).length:Int)<=_;omega
 have h0:(tN n=[48])=(n=0):=by rw[<-qyo];exact propext ⟨fun h=>qun h,fun h=>by rw[h]⟩
 simp only[STD,zr,h1,h0];cases b with
 | false=>simp[q28]
 | true=>
  by_cases hn:n=0
  ·subst hn;simp[tI,qyo]
  ·have:(-(n:Int))<0:=by omega
   simp[hn,qdn this,qfl]
theorem qee (m:Int)(hl:(tN m.natAbs).length<=100000000):(wH [.s (tI m)]).run=some (0,[.s (tI (-m))]):=by
 rw[qrF];simp only[STD,va,jc,q0x _ _ hl];have e:(if ¬m<0 then -(m.natAbs:Int) else (m.natAbs:Int))=-m:=by
  by_cases h:m<0
  ·rw[if_neg (by simp[h])];omega
  ·rw[if_pos (by simp[h])];omega
 rw[e]
theorem qba {s:qLv}(h:i<s.length):val (s.take (i+1))=10*val (s.take i)+dv s[i]:=by rw[List.take_add_one,qLB h,Option.toList_some,qn2]
theorem qwC {s:qLv}(h:q6p s)(i:Nat):q6p (s.take i):=fun c hc=>h c (qNJ hc)
theorem qDK {s:qLv}(h:q6p s)(i:Nat):q6p (s.drop i):=fun c hc=>h c (qNK hc)
theorem qje {s:qLv}(h:q6p s)(hi:i<s.length):48<=s[i].toNat/\s[i].toNat<=57:=h _ (qM6 hi)
theorem qza {s:qLv}(h:q6p s)(hi:i<s.length):q2W .i64 (vN .u8 (sat s (i:Int)) 48)=(dv s[i]:Int)/\dv s[i]<10:=by have hd:=qje h hi;rw[qlp hi,qIj (by omega),qqn (by omega)];unfold dv;omega
theorem qk4 (m:Int)(hl:(tN m.natAbs).length<=18):(uB [.s (tI m)]).run=some (0,[.i m]):=by
 rw[qqs];have hd:=wF m.natAbs;have k:=qW (S:=kL) (fun i=>[.s (tI m),.i (val ((tN m.natAbs).take i):Int),.s (tN m.natAbs),.i (i:Int)]) (0,[.s (tI m),.i (m.natAbs:Int)]) (tN m.natAbs).length (by omega) (fun i hi=>by
  rw[qeW];obtain⟨e1,e2⟩:=qza hd hi;have hv:=q7R (qwC hd i);have hv2:10^((tN m.natAbs).take i).length<=100000000000000000:=qLA (qN1 (n:=10) (by omega) (show _<=17 by rw[qMn];omega)) (by decide);have hv3:=qMf hv hv2;clear hv hv2;have hlt:(i:Int)<qD (tN m.natAbs):=by unfold qD;omega
  have e3:qE .i64 (jw .i64 10 (val ((tN m.natAbs).take i):Int)) (dv (tN m.natAbs)[i]:Int)=((10*val ((tN m.natAbs).take i)+dv (tN m.natAbs)[i]:Nat):Int):=by rw[q7n (by omega),zp (by omega)];omega
  simp only[STD,hlt,qcT,and_self,e1,kq hi (by omega),qba hi,e3]) (by
  rw[qeW];have:¬((tN m.natAbs).length:Int)<qD (tN m.natAbs):=by unfold qD;omega
  simp only[STD,this,qMz,q1k])
 have k':(qf kL [.s (tI m),.i 0,.s (tN m.natAbs),.i 0]).run=_:=k;have hm:m.natAbs<1000000000000000000:=qMf (q7f hl) (by decide);have hneg:m<0->vN .i64 0 (m.natAbs:Int)=m:=fun h=>by rw[qyw (by omega)];omega
 have hpos:¬m<0->(m.natAbs:Int)=m:=fun h=>by omega
 clear hm k hd;simp only[STD,va,k',jc];by_cases h:m<0
 ·rw[if_pos h,hneg h]
 ·rw[if_neg h,hpos h]
theorem q7N (m n:Int):(jm [.s (tI m),.s (tI n)]).run=some (0,if (tN m.natAbs).length<=18/\(tN n.natAbs).length<=18 then [.i m,.i n,.b true] else [.i 0,.i 0,.b false]):=by
 rw[qtx];have e:∀t:List UInt8,(18<qD t)=¬(t.length<=18):=fun t=>by unfold qD;simp only[eq_iff_iff];omega
 by_cases h1:(tN m.natAbs).length<=18
 ·by_cases h2:(tN n.natAbs).length<=18
  ·simp only[STD,va,e,h1,h2,qk4 m h1,qk4 n h2,and_self]
  ·simp only[STD,va,e,h1,h2,and_false]
 ·simp only[STD,va,e,h1,false_and]
theorem qvk {d:Int}(h0:0<=d)(h:d<10):qo1 [[.i (q2W .u8 (qE .i64 48 d))]]=[dch d.toNat]:=by rw[zp (by omega),qui (by omega)];show [UInt8.ofNat (48+d).toNat]=[UInt8.ofNat (48+d.toNat)];rw[show (48+d).toNat=48+d.toNat by omega]
theorem qDI {S:List PV->TR}(hS:∀(y0:Int) (y1:qLv),S [.i y0,.s y1]=(.br (ilt 9 y0) (.br (ile ((qD (qo1 [[(.i (q2W .u8 (qE .i64 48 (qcL y0 10))))]]))+(qD y1)) 140737488355328) (.leaf (0,[(.i (qdm .i64 y0 10)),(.s (qfl (qo1 [[(.i (q2W .u8 (qE .i64 48 (qcL y0 10))))]]) y1))])) .fail) (.leaf (1,[(.i y0),(.s y1)]))))(n:Nat) (hn:n<9223372036854775808):∃(a:Nat) (r:qLv),(qf S [.i (n:Int),.s []]).run=some (0,[.i (a:Int),.s r])/\a<10/\tN n=tN a++r:=by
 have hlen:(tN n).length<=19:=q36 18 n (by omega);obtain⟨j,qs,h1,h2⟩:=yd (S:=S) (fun k ps=>∃(r:qLv),ps=[.i (k:Int),.s r]/\tN n=tN k++r) (fun j qs=>∃(a:Nat) (r:qLv),j=0/\qs=[.i (a:Int),.s r]/\a<10/\tN n=tN a++r) hn (fun k ps hk ⟨r,hps,ht⟩=>by
  subst hps;by_cases h9:k<10
  ·right;have:¬(9:Int)<(k:Int):=by omega
   exact⟨0,_,by rw[hS];simp only[STD,this],k,r,rfl,rfl,h9,ht⟩
  ·left;have h9':(9:Int)<(k:Int):=by omega
   have hr:qcL (k:Int) 10=((k%10:Nat):Int):=qqa k 10;have hq:qdm .i64 (k:Int) 10=((k/10:Nat):Int):=qAx (b:=10) (by omega);have hd:qo1 [[(.i (q2W .u8 (qE .i64 48 (qcL (k:Int) 10))))]]=[dch (k%10)]:=by rw[hr,qvk (by omega) (by omega)];rfl
   have hrl:r.length<=19:=by have:=congrArg List.length ht;rw[qLR] at this;omega
   have hle:qD [dch (k%10)]+qD r<=140737488355328:=by show (1:Int)+(r.length:Int)<=_;omega
   refine⟨k/10,[.i ((k/10:Nat):Int),.s ([dch (k%10)]++r)],by omega,?_,_,rfl,?_⟩
   ·rw[hS];simp only[STD,h9',hd,hq,hle];rfl
   ·rw[ht,qz3 (by omega),qM2]) (ps:=[.i (n:Int),.s []]) ⟨[],rfl,by simp⟩
 obtain⟨a,r,rfl,rfl,h3,h4⟩:=h2;exact⟨a,r,h1,h3,h4⟩
theorem qCG {a:Nat}{r:qLv}(ha:a<10):qfl (qo1 [[(.i (q2W .u8 (qE .i64 48 (a:Int))))]]) r=tN a++r:=by rw[qvk (by omega) (by omega),qwU ha];rfl
theorem qKe {a:Nat}{r:qLv}(ha:a<10)(hr:r.length<=1000):qD (qo1 [[(.i (q2W .u8 (qE .i64 48 (a:Int))))]])+qD r<=140737488355328:=by rw[qvk (by omega) (by omega)];show (1:Int)+(r.length:Int)<=_;omega
theorem qHb {x:Int}(h1:-9223372036854775808<x)(h2:x<=9223372036854775807):vN .i64 0 x=-x:=qyw (by omega)
theorem qJE (n:Nat)(hn:n<9223372036854775808):(q5P [.i (n:Int)]).run=some (0,[.s (tN n)])/\(wA [.i (n:Int)]).run=some (0,[.s (tN n)]):=by
 obtain⟨a,r,h1,h2,h3⟩:=qDI qtD n hn;obtain⟨a',r',h1',h2',h3'⟩:=qDI qva n hn;have hlen:(tN n).length<=19:=q36 18 n (by omega);have hr:r.length<=1000:=by have:=congrArg List.length h3;rw[qLR] at this;omega
 have hr':r'.length<=1000:=by have:=congrArg List.length h3';rw[qLR] at this;omega
 have hneg:vN .i64 0 (n:Int)=-(n:Int):=qHb (by omega) (by omega);have h0:((n:Int)=-(n:Int))=(n=0):=by simp only[eq_iff_iff];omega
 have hlt:¬(n:Int)<0:=by omega
 have hz:((n:Int)=0)=(n=0):=by simp only[eq_iff_iff];omega
 constructor
 ·rw[qxb];simp only[STD,hneg,h0,hz,hlt,h1,qCG h2,qKe h2 hr,<-h3];by_cases h:n=0<;>simp[h]
 ·rw[qrr];simp only[STD,hneg,h0,hz,hlt,h1',qCG h2',qKe h2' hr',<-h3'];by_cases h:n=0<;>simp[h]
theorem q2m (n:Int)(h1:-9223372036854775808<n)(h2:n<=9223372036854775807):(wA [.i n]).run=some (0,[.s (tI n)]):=by
 by_cases h:n<0
 ·obtain⟨a,ha⟩:∃a:Nat,n=-(a:Int):=⟨n.natAbs,by omega⟩;subst ha;have hneg:vN .i64 0 (-(a:Int))=(a:Int):=by rw[qHb (by omega) (by omega)];omega
  have hlen:(tN a).length<=19:=q36 18 a (by omega);have ht:=qee (a:Int) (by simp;omega);rw[q28] at ht;rw[qrr];have e1:¬(-(a:Int)=(a:Int)):=by omega
  simp only[STD,hneg,h,e1,(qJE a (by omega)).1,ht]
 ·obtain⟨a,rfl⟩:∃a:Nat,n=(a:Int):=⟨n.toNat,by omega⟩;rw[(qJE a (by omega)).2,q28]
theorem qio (m n:Nat):(q3a [.s (tN m),.s (tN n)]).run=some (0,[.b (decide (m<n))]):=by
 rw[quR];have h:=qzy m n;have e1:(qD (tN m)<qD (tN n))=((tN m).length<(tN n).length):=by unfold qD;simp only[eq_iff_iff];omega
 have e2:(qD (tN m)=qD (tN n))=((tN m).length=(tN n).length):=by unfold qD;simp only[eq_iff_iff];omega
 simp only[STD,e1,e2];by_cases h1:(tN m).length<(tN n).length
 ·have:m<n:=h.1 (.inl h1);simp[h1,this]
 ·by_cases h2:(tN m).length=(tN n).length
  ·cases hs:slt (tN m) (tN n) with
   | true=>simp[h2,h.1 (.inr ⟨h2,hs⟩)]
   | false=>
    have:¬m<n:=fun hh=>by rcases h.2 hh with h3|⟨_,h3⟩<;>simp_all
    simp[h2,this]
  ·have:¬m<n:=fun hh=>by rcases h.2 hh with h3|⟨h3,_⟩<;>omega
   simp[h1,h2,this]
end Go.Eng

namespace Go.Eng
variable {k:Nat}
theorem qpv (s:qLv)(n:Nat)(h0:0<n)(hn:n<=1000000000)(hl:s.length<=n):(q66 [.s s,.i (n:Int)]).run=some (0,[.s (List.replicate (n-s.length) 48++s)]):=by
 rw[quL];have k:=qW (S:=q2k) (fun i=>[.s s,.i (n:Int),.i (i:Int),.r (rI (List.replicate i 48++List.replicate (n-i) 0))]) (0,[.s s,.i (n:Int),.r (rI (List.replicate n 48))]) n (by omega) (fun i hi=>by
  rw[qiY];have h1:(i:Int)<(n:Int):=by omega
  have h2:(i:Int)<qh (rI (List.replicate i 48++List.replicate (n-i) 0)):=by rw[qcc];simp;omega
  have h3:(List.replicate i (48:Int)++List.replicate (n-i) 0).set (i:Int).toNat 48=List.replicate (i+1) 48++List.replicate (n-(i+1)) 0:=by rw[qLG,List.set_append_right _ _ (by simp),List.length_replicate,qMd];rw[show n-i=(n-(i+1))+1 by omega,qMV,qLK,List.replicate_succ'];simp
  simp only[STD,h1,h2,qcT,and_self,kq hi (by omega),qxL,h3]) (by
  rw[qiY];simp only[STD,Int.lt_irrefl,qMd,List.replicate_zero,qMr])
 have k':(qf q2k [.s s,.i (n:Int),.i 0,.r (rI (List.replicate n 0))]).run=some (0,[.s s,.i (n:Int),.r (rI (List.replicate n 48))]):=by simpa using k
 have e1:vN .i64 (n:Int) (qD s)=((n-s.length:Nat):Int):=by rw[wo (by unfold qD;omega)];unfold qD;omega
 have e2:(0:Int)<=(n:Int):=by omega
 have e3:(n:Int)<=140737488355328:=by omega
 have e4:(0:Int)<qh (rI (List.replicate n 48)):=by rw[qcc,List.length_replicate];omega
 have e5:((n-s.length:Nat):Int)<=qh (rI (List.replicate n 48)):=by rw[qcc,List.length_replicate];omega
 have e6:qD s<=qzH (qh (rI (List.replicate n 48))) ((n-s.length:Nat):Int):=by rw[qcc,List.length_replicate];unfold qzH qD;omega
 have e7:qo1 (rI (List.take ((n-s.length:Nat):Int).toNat (List.replicate n 48)++s.map (fun c=>(c.toNat:Int))++List.drop (((n-s.length:Nat):Int).toNat+s.length) (List.replicate n 48)))=List.replicate (n-s.length) 48++s:=by
  rw[qLG,List.take_replicate,List.drop_replicate,qMq (by omega),show n-(n-s.length+s.length)=0 by omega,List.replicate_zero,qMr];have:List.replicate (n-s.length) (48:Int)=(List.replicate (n-s.length) (48:UInt8)).map fun c=>(c.toNat:Int):=by rw[List.map_replicate];rfl
  rw[this,<-qM1,qoo]
 simp only[STD,qlv,qLG,e2,e3,and_self,k',e4,e5,e1,qcT,e6,qKc];rw[qLG] at e7;rw[e7]
theorem qcS {s:qLv}(hd:q6p s)(hn:s≠[])(hl:s.length<=1000000000):(uD [.s s]).run=some (0,[.s (tN (val s))]):=by
 rw[qvn];obtain⟨j,qs,h1,h2⟩:=yd (S:=q5e) (fun k ps=>∃t:List UInt8,ps=[.s t]/\t.length=k/\q6p t/\t≠[]/\val t=val s) (fun j qs=>j=0/\qs=[.s (tN (val s))]) (n:=s.length) (by omega) (fun k ps hk ⟨t,hps,hlk,hdt,hnt,hv⟩=>by
  subst hps;have hp:0<t.length:=qN5.2 hnt;have hs0:(0:Int)<qD t:=by unfold qD;omega
  rw[qqz];by_cases h1:1<t.length
  ·have hs1:(1:Int)<qD t:=by unfold qD;omega
   obtain⟨c,u,rfl⟩:∃c u,t=c::u:=by
    cases t with
    | nil=>exact absurd rfl hnt
    | cons c u=>exact⟨c,u,rfl⟩
   have hsat:sat (c::u) 0=(c.toNat:Int):=by simp[sat]
   by_cases h48:c=48
   ·left;subst h48;have hu:u≠[]:=by intro h;subst h;simp at h1
    refine⟨u.length,[.s u],by simp at hlk;omega,?_,u,rfl,rfl,(q1d.1 hdt).2,hu,by rw[<-hv,qAV]⟩;have hsub:qcW (48::u) 1 (qD (48::u))=u:=by simp[qcW,qD]
    have h48':(((48:UInt8).toNat:Nat):Int)=48:=rfl;simp only[STD,hs1,hs0,hsat,h48',qM3,and_self,Int.le_of_lt hs1,Int.le_of_lt hs0,show (0:Int)<=1 by omega,hsub]
   ·right;have hne:¬((c.toNat:Int)=48):=fun h=>h48 (qNk.1 (by show c.toNat=48;omega));refine⟨0,[.s (c::u)],?_,rfl,?_⟩
    ·simp only[STD,hs1,hs0,hsat,hne,qM3,and_self]
    ·rw[<-hv,<-qrh hdt hnt (.inr (by simpa using h48))]
  ·right;have hs1:¬(1:Int)<qD t:=by unfold qD;omega
   refine⟨0,[.s t],?_,rfl,?_⟩
   ·simp only[STD,hs1]
   ·rw[<-hv,<-qrh hdt hnt (.inl (by omega))]) (ps:=[.s s]) ⟨s,rfl,rfl,hd,hn,rfl⟩
 obtain⟨rfl,rfl⟩:=h2;simp only[STD,h1]
theorem qG3 {x y:UInt8}(hx:48<=x.toNat/\x.toNat<=57)(hy:48<=y.toNat/\y.toNat<=57)(c:Nat)(hc:c<=1)(add:Bool) :∃(d:UInt8) (c':Nat),(48<=d.toNat/\d.toNat<=57)/\c'<=1/\(q5i [.i x.toNat,.i y.toNat,.i (c:Int),.b add]).run=some (0,[.i d.toNat,.i (c':Int)]) /\(if add then dv x+dv y+c=dv d+10*c' else dv x+10*c'=dv y+c+dv d):=by
 have ex:q2W .i64 (vN .u8 (x.toNat:Int) 48)=(dv x:Int):=by rw[qIj (by omega),qqn (by omega)];unfold dv;omega
 have ey:q2W .i64 (vN .u8 (y.toNat:Int) 48)=(dv y:Int):=by rw[qIj (by omega),qqn (by omega)];unfold dv;omega
 have lx:=qBX hx;have ly:=qBX hy;have mk:∀v:Nat,v<10->((dch v).toNat:Int)=48+v:=fun v hv=>by rw[q39 hv];omega
 rw[qs4];simp only[STD,ex,ey];cases add with
 | true=>
  simp only[STD];have e1:qE .i64 (qE .i64 (dv x:Int) (dv y:Int)) (c:Int)=((dv x+dv y+c:Nat):Int):=by rw[zp (x:=(dv x:Int)) (by omega),zp (by omega)];omega
  rw[e1];by_cases h9:9<dv x+dv y+c
  ·have h9':(9:Int)<((dv x+dv y+c:Nat):Int):=by omega
   refine⟨dch (dv x+dv y+c-10),1,by rw[q39 (by omega)];omega,by omega,?_,by rw[qpj (by omega)];omega⟩;rw[if_pos h9',zp (by omega),wo (by omega),qui (by omega),mk _ (by omega)];rw[show (48:Int)+((dv x+dv y+c:Nat):Int)-10=48+((dv x+dv y+c-10:Nat):Int) by omega];rfl
  ·have h9':¬(9:Int)<((dv x+dv y+c:Nat):Int):=by omega
   have h0:¬((dv x+dv y+c:Nat):Int)<0:=by omega
   refine⟨dch (dv x+dv y+c),0,by rw[q39 (by omega)];omega,by omega,?_,by rw[qpj (by omega)];omega⟩;rw[if_neg h9',if_neg h0,zp (by omega),qui (by omega),mk _ (by omega)];rfl
 | false=>
  simp only[STD];have e1:vN .i64 (vN .i64 (dv x:Int) (dv y:Int)) (c:Int)=(dv x:Int)-dv y-c:=by rw[wo (x:=(dv x:Int)) (by omega),wo (by omega)]
  rw[e1];have h9':¬(9:Int)<(dv x:Int)-dv y-c:=by omega
  rw[if_neg h9'];by_cases h0:(dv x:Int)-dv y-c<0
  ·refine⟨dch (dv x+10-dv y-c),1,by rw[q39 (by omega)];omega,by omega,?_,?_⟩
   ·rw[if_pos h0,zp (x:=48) (by omega),zp (by omega),qui (by omega),mk _ (by omega)];rw[show (48:Int)+((dv x:Int)-dv y-c)+10=48+((dv x+10-dv y-c:Nat):Int) by omega];rfl
   ·rw[qpj (by omega)];omega
  ·refine⟨dch (dv x-dv y-c),0,by rw[q39 (by omega)];omega,by omega,?_,?_⟩
   ·rw[if_neg h0,zp (by omega),qui (by omega),mk _ (by omega)];rw[show (48:Int)+((dv x:Int)-dv y-c)=48+((dv x-dv y-c:Nat):Int) by omega];rfl
   ·rw[qpj (by omega)];omega
theorem qDz {s:qLv}(h:k<s.length):s.drop k=s[k]::s.drop (k+1):=(List.drop_eq_getElem_cons h)
theorem qA5 {s:qLv}(h:k<s.length):val (s.drop k)=dv s[k]*10^(s.length-(k+1))+val (s.drop (k+1)):=by rw[qDz h,q78,qNz]
theorem qxS {a b:qLv}{n:Nat}(ha:q6p a)(hb:q6p b)(hla:a.length=n)(hlb:b.length=n)(hn:n<=100000001)(add:Bool) :∃(t:qLv) (c:Nat),(qf q13 [.s a,.s b,.b add,.i 0,.i ((n:Int)-1),.r (rI (List.replicate n 0))]).run=some (0,[.r (rI (t.map fun c=>(c.toNat:Int)))])/\q6p t/\t.length=n /\(if add then val a+val b=val t+c*10^n else val a+c*10^n=val b+val t):=by
 obtain⟨j,qs,h1,h2⟩:=yd (S:=q13) (fun k ps=>∃(t:qLv) (c:Nat),ps=[.s a,.s b,.b add,.i (c:Int),.i ((k:Int)-1),.r (rI (List.replicate k 0++t.map fun c=>(c.toNat:Int)))]/\c<=1/\q6p t/\k+t.length=n /\
   (if add then val (a.drop k)+val (b.drop k)=val t+c*10^(n-k) else val (a.drop k)+c*10^(n-k)=val (b.drop k)+val t))
  (fun j qs=>j=0/\∃(t:qLv) (c:Nat),qs=[.r (rI (t.map fun c=>(c.toNat:Int)))]/\q6p t/\t.length=n/\(if add then val a+val b=val t+c*10^n else val a+c*10^n=val b+val t)) (n:=n) (by omega) (fun k ps hk ⟨t,c,hps,hc,hdt,hlt,hrel⟩=>by
  subst hps;rw[qpC];cases k with
  | zero=>
   right;have:¬(0:Int)<=((0:Nat):Int)-1:=by omega
   refine⟨0,[.r (rI (t.map fun c=>(c.toNat:Int)))],?_,rfl,t,c,rfl,hdt,by omega,by simpa using hrel⟩;simp only[STD,this,List.replicate_zero,qMO]
  | succ k=>
   left;have e0:((k+1:Nat):Int)-1=(k:Int):=by omega
   rw[e0];have hka:k<a.length:=by omega
   have hkb:k<b.length:=by omega
   obtain⟨d,c',hd,hc',hrun,hcol⟩:=qG3 (qje ha hka) (qje hb hkb) c hc add;have h3:(k:Int)<qD a:=by unfold qD;omega
   have h4:(k:Int)<qD b:=by unfold qD;omega
   have h5:(k:Int)<qh (rI (List.replicate (k+1) 0++t.map fun c=>(c.toNat:Int))):=by rw[qcc];simp;omega
   have h6:(List.replicate (k+1) (0:Int)++t.map fun c=>(c.toNat:Int)).set (k:Int).toNat (d.toNat:Int)=List.replicate k 0++(d::t).map fun c=>(c.toNat:Int):=by rw[qLG,List.replicate_succ',qM2,List.set_append_right _ _ (by simp),List.length_replicate,qMd];rfl
   have h7:vN .i64 (k:Int) 1=(k:Int)-1:=wo (by omega);refine⟨k,[.s a,.s b,.b add,.i (c':Int),.i ((k:Int)-1),.r (rI (List.replicate k 0++(d::t).map fun c=>(c.toNat:Int)))],by omega,?_,d::t,c',rfl,hc',q1d.2 ⟨hd,hdt⟩,by simp;omega,?_⟩
   ·simp only[STD,qcT,h3,h4,h5,and_self,qlp hka,qlp hkb,hrun,qxL,h6,h7]
   ·rw[qA5 hka,qA5 hkb,q78,hla,hlb,show t.length=n-(k+1) by omega,show n-k=(n-(k+1))+1 by omega,qMU];generalize 10^(n-(k+1))=p at *;cases add with
    | true=>
     simp only[↓reduceIte] at hrel hcol ⊢;have:=congrArg (·*p) hcol;simp only[qLO] at this;grind
    | false=>
     simp only[qMb,↓reduceIte] at hrel hcol ⊢;have:=congrArg (·*p) hcol;simp only[qLO] at this;grind) (ps:=[.s a,.s b,.b add,.i 0,.i ((n:Int)-1),.r (rI (List.replicate n 0))]) ⟨[],0,by simp,by omega,qmj,by simp,by
    rw[qNg (by omega),qNg (by omega)];cases add<;>simp[qgA]⟩
 obtain⟨rfl,t,c,rfl,h3,h4,h5⟩:=h2;exact⟨t,c,h1,h3,h4,h5⟩
theorem qCR {m n t c p:Nat}{add:Bool}(hm:m<p)(hn:n<p)(ht:t<p*10)(h4:if add then m+n=t+c*(p*10) else m+c*(p*10)=n+t)(hle:add=false->n<=m):t=if add then m+n else m-n:=by
 have hc0:c=0:=by
  rcases qMD c with h|h
  ·exact h
  ·exfalso;have h5:1*(p*10)<=c*(p*10):=qLX (p*10) h;cases add with
   | true=>simp only[↓reduceIte] at h4;omega
   | false=>simp only[qMb,↓reduceIte] at h4;have:=hle rfl;omega
 subst hc0;cases add with
 | true=>simp only[↓reduceIte] at h4 ⊢;omega
 | false=>simp only[qMb,↓reduceIte] at h4 ⊢;omega
theorem qvt (a b:Nat):qos (a:Int) (b:Int)=((max a b:Nat):Int):=by unfold qos;split<;>omega
theorem qb8 (m n:Nat)(add:Bool)(hm:(tN m).length<=100000000)(hn:(tN n).length<=100000000)(hle:add=false->n<=m) :(ur [.s (tN m),.s (tN n),.b add]).run=some (0,[.s (tN (if add then m+n else m-n))]):=by
 rw[qtw];obtain⟨N,hN⟩:∃N,N=max (tN m).length (tN n).length+1:=⟨_,rfl⟩;have l1:(tN m).length<=N-1:=by omega
 have l2:(tN n).length<=N-1:=by omega
 have l3:N=N-1+1:=by omega
 have p1:10^(tN m).length<=10^(N-1):=qN1 (Nat.succ_pos 9) l1;have p2:10^(tN n).length<=10^(N-1):=qN1 (Nat.succ_pos 9) l2;have p3:10^N=10^(N-1)*10:=(congrArg (10^·) l3).trans (qMU (n:=10) (m:=N-1));have e0:qE .i64 (qos (qD (tN m)) (qD (tN n))) 1=(N:Int):=by unfold qD;rw[qvt,zp (by omega)];omega
 have e1:vN .i64 (N:Int) 1=(N:Int)-1:=wo (by omega);have e2:(0:Int)<=(N:Int)/\(N:Int)<=140737488355328:=by omega
 have wa:=qpv (tN m) N (by omega) (by omega) (by omega);have wb:=qpv (tN n) N (by omega) (by omega) (by omega);have hda:q6p (List.replicate (N-(tN m).length) 48++tN m):=q8J.2 ⟨qom _,wF _⟩;have hdb:q6p (List.replicate (N-(tN n).length) 48++tN n):=q8J.2 ⟨qom _,wF _⟩;obtain⟨t,c,h1,h2,h3,h4⟩:=qxS (n:=N) hda hdb (by simp;omega) (by simp;omega) (by omega) add;rw[qrq,qrq,q1k,q1k] at h4;have ht:t≠[]:=by intro h;subst h;simp at h3;omega
 have hb:=qcS h2 ht (by omega);have e3:q4n (N:Int) [.i 0]=rI (List.replicate N 0):=by rw[qlv];rfl
 have hvm:=q7R (wF m);have hvn:=q7R (wF n);have hvt:=q7R h2;rw[q1k] at hvm hvn;rw[h3] at hvt;rw[p3] at h4 hvt;have q1:=qMf hvm p1;have q2:=qMf hvn p2;clear hvm hvn p1 p2 p3;have hval:val t=if add then m+n else m-n:=qCR q1 q2 hvt h4 hle
 rw[hval] at hb;simp only[STD,e0,wa,wb,e1,e2,and_self,e3,h1,qoo,hb]
theorem qzs (m n:Nat):(tN (m+n)).length<=max (tN m).length (tN n).length+1:=by have h1:=q7R (wF m);have h2:=q7R (wF n);rw[q1k] at h1 h2;have p1:10^(tN m).length<=10^(max (tN m).length (tN n).length):=qN1 (by omega) (by omega);have p2:10^(tN n).length<=10^(max (tN m).length (tN n).length):=qN1 (by omega) (by omega);exact q36 _ _ (by rw[qMU];omega)
theorem qrx (m n:Nat):(tN (m*n)).length<=(tN m).length+(tN n).length:=by
 have h1:=q7R (wF m);have h2:=q7R (wF n);rw[q1k] at h1 h2;have h3:=qkm m;have h4:=qkm n;have:m*n<10^((tN m).length+(tN n).length):=by rw[Nat.pow_add];exact Nat.mul_lt_mul'' h1 h2
 have:=q36 ((tN m).length+(tN n).length-1) (m*n) (by rwa [show (tN m).length+(tN n).length-1+1=(tN m).length+(tN n).length by omega]);omega
def nl(m:Int):Nat:=(tN m.natAbs).length
theorem qrM (m:Int):0<nl m:=qkm _
theorem qqN (m:Int):nl (-m)=nl m:=by unfold nl;rw[Int.natAbs_neg]
theorem qy4 (m n:Int):nl (m+n)<=max (nl m) (nl n)+1:=by unfold nl;exact qLA (q05 (Int.natAbs_add_le m n)) (qzs _ _)
theorem q0G (m n:Int):nl (m*n)<=nl m+nl n:=by unfold nl;rw[qMK];exact qrx _ _
theorem qL3 {m:Int}(h:nl m<=k):m.natAbs<10^k:=q7f h
theorem qpr (m n:Int)(hm:nl m<=100000000-1)(hn:nl n<=100000000-1):(q3e [.s (tI m),.s (tI n)]).run=some (0,[.s (tI (m+n))]):=by
 rw[qv1];have hm':(tN m.natAbs).length<=100000000-1:=hm;have hn':(tN n.natAbs).length<=100000000-1:=hn;have lt:=qy4 m n;by_cases hb:(tN m.natAbs).length<=18/\(tN n.natAbs).length<=18
 ·have b1:m.natAbs<1000000000000000000:=qMf (q7f hb.1) (by decide);have b2:n.natAbs<1000000000000000000:=qMf (q7f hb.2) (by decide);have e1:qE .i64 m n=m+n:=zp (by omega);have e2:=q2m (m+n) (by omega) (by omega);clear b1 b2;have hbr:=q7N m n;rw[if_pos hb] at hbr;simp only[STD,hbr,e1,e2]
 ·have hbr:=q7N m n;rw[if_neg hb] at hbr;have hP:=qb8 m.natAbs n.natAbs true (by omega) (by omega) (fun h=>by cases h);simp only[↓reduceIte] at hP;simp only[STD,hbr,va,jc,qio,decide_eq_decide,hP];have la:=qzs m.natAbs n.natAbs;by_cases hs:(m<0)=(n<0)
  ·have hs':(m<0↔n<0):=by rw[hs]
   rw[if_pos hs'];simp only[q0x _ _ (show (tN (m.natAbs+n.natAbs)).length<=100000000 by omega),STD];have e:(if m<0 then -((m.natAbs+n.natAbs:Nat):Int) else ((m.natAbs+n.natAbs:Nat):Int))=m+n:=by
    by_cases h:m<0
    ·rw[if_pos h];have:=hs'.1 h;omega
    ·rw[if_neg h];have:¬n<0:=fun q=>h (hs'.2 q);omega
   rw[e]
  ·have hs':¬(m<0↔n<0):=fun h=>hs (propext h);rw[if_neg hs'];by_cases hlt:m.natAbs<n.natAbs
   ·have hP2:=qb8 n.natAbs m.natAbs false (by omega) (by omega) (fun _=>by omega);simp only[qMb,↓reduceIte] at hP2;have ls:(tN (n.natAbs-m.natAbs)).length<=100000000:=qLA (q05 (Nat.sub_le _ _)) (by omega);simp only[STD,hlt,hP2,q0x _ _ ls];have e:(if n<0 then -((n.natAbs-m.natAbs:Nat):Int) else ((n.natAbs-m.natAbs:Nat):Int))=m+n:=by
     by_cases h:n<0
     ·rw[if_pos h];have:¬m<0:=fun q=>hs' ⟨fun _=>h,fun _=>q⟩;omega
     ·rw[if_neg h];have:m<0:=by
       rcases Decidable.em (m<0) with q|q
       ·exact q
       ·exact absurd ⟨fun x=>absurd x q,fun x=>absurd x h⟩ hs'
      omega
    rw[e]
   ·have hP2:=qb8 m.natAbs n.natAbs false (by omega) (by omega) (fun _=>by omega);simp only[qMb,↓reduceIte] at hP2;have ls:(tN (m.natAbs-n.natAbs)).length<=100000000:=qLA (q05 (Nat.sub_le _ _)) (by omega);simp only[STD,hlt,hP2,q0x _ _ ls];have e:(if m<0 then -((m.natAbs-n.natAbs:Nat):Int) else ((m.natAbs-n.natAbs:Nat):Int))=m+n:=by
     by_cases h:m<0
     ·rw[if_pos h];have:¬n<0:=fun q=>hs' ⟨fun _=>q,fun _=>h⟩;omega
     ·rw[if_neg h];have:n<0:=by
       rcases Decidable.em (n<0) with q|q
       ·exact q
       ·exact absurd ⟨fun x=>absurd x h,fun x=>absurd x q⟩ hs'
      omega
    rw[e]
theorem qaB (m n:Int)(hm:nl m<=100000000-1)(hn:nl n<=100000000-1):(jg [.s (tI m),.s (tI n)]).run=some (0,[.s (tI (m-n))]):=by rw[qsL];have ht:=qee n (by have:(tN n.natAbs).length<=100000000-1:=hn;omega);have hp:=qpr m (-n) hm (by rw[qqN];exact hn);rw[<-Int.sub_eq_add_neg] at hp;simp only[STD,ht,hp]
def sgn(n:Int):Int:=if n<0 then -1 else if n=0 then 0 else 1
theorem qn8 (m n:Int)(hm:nl m<=100000000-1)(hn:nl n<=100000000-1):(q1I [.s (tI m),.s (tI n)]).run=some (0,[.i (sgn (m-n))]):=by
 rw[qsX];have h0:(tI (m-n)=[48])=(m-n=0):=by have:tI 0=[48]:=rfl;rw[<-this];exact propext ⟨fun h=>qxm h,fun h=>by rw[h]⟩
 simp only[STD,qaB m n hm hn,zr,h0,jc];unfold sgn;by_cases h1:m-n=0
 ·rw[if_pos h1,if_neg (by omega),if_pos h1]
 ·rw[if_neg h1];by_cases h2:m-n<0
  ·rw[if_pos h2,if_pos h2]
  ·rw[if_neg h2,if_neg h2,if_neg h1]
end Go.Eng

namespace Go.Eng
def wv(l:List Int):Int:=l.foldl (fun a x=>10*a+x) 0
theorem qvD:∀(t:List Int) (a:Int),t.foldl (fun a x=>10*a+x) a=a*10^t.length+wv t
 | [],a=>by simp[wv]
 | c::t,a=>by
  have h1:=qvD t (10*a+c);have h2:=qvD t (10*0+c);have h3:wv (c::t)=t.foldl (fun a x=>10*a+x) (10*0+c):=rfl;rw[h3,h2,qNq,h1,qM0,Int.pow_succ];grind
theorem qoB(c:Int)(t:List Int):wv (c::t)=c*10^t.length+wv t:=by have h3:wv (c::t)=t.foldl (fun a x=>10*a+x) (10*0+c):=rfl;rw[h3,qvD];grind
theorem qJm:wv []=0:=rfl
theorem qGj(n:Nat):wv (List.replicate n 0)=0:=by
 induction n with
 | zero=>rfl
 | succ n ih=>rw[qMV,qoB,ih];simp
theorem qHi:∀(l:List Int) (j:Nat) (hj:j<l.length) (y:Int),wv (l.set j y)=wv l+(y-l[j])*10^(l.length-(j+1))
 | [],j,hj,y=>by simp at hj
 | c::t,0,hj,y=>by
  rw[qLK,qoB,qoB];simp only[List.getElem_cons_zero,qM0,qNR,qMp];grind
 | c::t,j+1,hj,y=>by
  have hj':j<t.length:=by simpa using hj
  rw[qLP,qoB,qoB,qHi t j hj' y,qMP];simp only[List.getElem_cons_succ,qM0];rw[show t.length+1-(j+1+1)=t.length-(j+1) by omega];grind
theorem qHI{l:List Int}{k:Nat}(h:k<l.length):wv (l.drop k)=l[k]*10^(l.length-(k+1))+wv (l.drop (k+1)):=by rw[List.drop_eq_getElem_cons h,qoB,qNz]
theorem yh{l:List Int}{j:Nat}(h:j<l.length):l.getD j 0=l[j]:=by simp[h]
theorem qrT{n i:Nat}(h:i<n):(10:Int)^(n-i)=10^(n-(i+1))*10:=by rw[<-Int.pow_succ];congr 1;omega
theorem qCN{V A Q B:Int}:V*(Q*10)*B+A*B*Q=(10*V+A)*Q*B:=by grind
theorem qHN{P Q A V y:Int}:A*(10*V+y)*P*Q=A*V*(P*10)*Q+A*y*(P*Q):=by grind
theorem quM{l:List Int}{j:Nat}{y B:Int}(h:∀x,x∈l->0<=x/\x<=B)(hy:0<=y/\y<=B):∀x,x∈l.set j y->0<=x/\x<=B:=by
 intro x hx;rcases qNS hx with h1|h1
 ·exact h x h1
 ·rw[h1];exact hy
theorem qC3{a b:qLv}(ha:q6p a)(hb:q6p b){i:Nat}(hi:i<a.length)(hla:a.length<=1000000)(hlb:b.length<=1000000){cols:List Int}(hc:cols.length=a.length+b.length){C:Nat}(hC:C<=1000000000000)(hB:∀x,x∈cols->0<=x/\x<=81*(C:Int)) :∃cols':List Int,(qf uJ [.s a,.s b,.i (i:Int),.i 0,.r (rI cols)]).run=some (0,[.s a,.s b,.i (i:Int),.r (rI cols')])/\cols'.length=a.length+b.length /\(∀x,x∈cols'->0<=x/\x<=81*((C+b.length:Nat):Int))/\wv cols'=wv cols+(dv a[i]:Int)*(val b:Int)*10^(a.length-(i+1)):=by
 obtain⟨j,qs,h1,h2⟩:=yd (S:=uJ) (fun K ps=>∃(k:Nat) (cs:List Int),K+k=b.length/\ps=[.s a,.s b,.i (i:Int),.i (k:Int),.r (rI cs)]/\cs.length=a.length+b.length /\
   (∀x,x∈cs->0<=x/\x<=81*((C+k:Nat):Int))/\wv cs=wv cols+(dv a[i]:Int)*(val (b.take k):Int)*10^(b.length-k)*10^(a.length-(i+1)))
  (fun j qs=>j=0/\∃cs:List Int,qs=[.s a,.s b,.i (i:Int),.r (rI cs)]/\cs.length=a.length+b.length /\
   (∀x,x∈cs->0<=x/\x<=81*((C+b.length:Nat):Int))/\wv cs=wv cols+(dv a[i]:Int)*(val b:Int)*10^(a.length-(i+1))) (n:=b.length) (by omega) (fun K ps hK ⟨k,cs,hkK,hps,hlen,hbd,hw⟩=>by
  subst hps;rw[qmR];cases K with
  | zero=>
   right;obtain rfl:k=b.length:=by omega
   have:¬(b.length:Int)<qD b:=by unfold qD;omega
   refine⟨0,[.s a,.s b,.i (i:Int),.r (rI cs)],?_,rfl,cs,rfl,hlen,hbd,?_⟩
   ·simp only[STD,this]
   ·rw[hw,qMz,qMd];grind
  | succ K=>
   left;have hk:k<b.length:=by omega
   have g1:(k:Int)<qD b:=by unfold qD;omega
   have g2:(i:Int)<qD a:=by unfold qD;omega
   have e1:qE .i64 (qE .i64 (i:Int) (k:Int)) 1=((i+k+1:Nat):Int):=by rw[zp (x:=(i:Int)) (by omega),zp (by omega)];omega
   have hj:i+k+1<cs.length:=by omega
   have g3:((i+k+1:Nat):Int)<qh (rI cs):=by rw[qcc];omega
   obtain⟨da,la⟩:=qza ha hi;obtain⟨db,lb⟩:=qza hb hk;have hx:=hbd _ (qM6 hj);have hmul:dv a[i]*dv b[k]<=9*9:=qMl (by omega) (by omega);have e2:jw .i64 (dv a[i]:Int) (dv b[k]:Int)=((dv a[i]*dv b[k]:Nat):Int):=by rw[q7n (by rw[<-qMk];omega)];simp
   have e3:qE .i64 cs[i+k+1] ((dv a[i]*dv b[k]:Nat):Int)=cs[i+k+1]+((dv a[i]*dv b[k]:Nat):Int):=zp (by omega);have e4:=kq hk (by omega);refine⟨K,[.s a,.s b,.i (i:Int),.i ((k+1:Nat):Int),.r (rI (cs.set (i+k+1) (cs[i+k+1]+((dv a[i]*dv b[k]:Nat):Int))))],by omega,?_,k+1,_,by omega,rfl,by simpa using hlen,?_,?_⟩
   ·simp only[STD,g1,g2,qcT,and_self,e1,g3,da,db,e2,qzF,qLG,yh hj,e3,e4,qxL]
   ·refine quM (fun x hx=>?_) ?_
    ·have:=hbd x hx;omega
    ·omega
   ·rw[qHi _ _ hj,hw,qba hk,hlen];have p1:=qrT hk;have p2:(10:Int)^(a.length+b.length-(i+k+1+1))=10^(b.length-(k+1))*10^(a.length-(i+1)):=by rw[<-Int.pow_add];congr 1;omega
    rw[p1,p2];generalize (10:Int)^(b.length-(k+1))=P;generalize (10:Int)^(a.length-(i+1))=Q;simp only[qNu,qMk];generalize (dv a[i]:Int)=A;generalize (dv b[k]:Int)=y;generalize (val (b.take k):Int)=V;generalize cs[i+k+1]=c;have:=qHN (P:=P) (Q:=Q) (A:=A) (V:=V) (y:=y);grind) (ps:=[.s a,.s b,.i (i:Int),.i 0,.r (rI cols)]) ⟨0,cols,by omega,rfl,hc,by simpa using hB,by simp[qgA]⟩
 obtain⟨rfl,cs,rfl,h3,h4,h5⟩:=h2;exact⟨cs,h1,h3,h4,h5⟩
theorem qC1{a b:qLv}(ha:q6p a)(hb:q6p b)(hla:a.length<=1000000)(hlb:b.length<=1000000) :∃cols:List Int,(qf uP [.s a,.s b,.i 0,.r (rI (List.replicate (a.length+b.length) 0))]).run=some (0,[.r (rI cols)])/\cols.length=a.length+b.length /\(∀x,x∈cols->0<=x/\x<=81000000000000)/\wv cols=(val a:Int)*(val b:Int):=by
 have hsq:∀i,i<=a.length->i*b.length<=1000000000000:=fun i hi=>by have:=qMl (show i<=1000000 by omega) hlb;omega
 obtain⟨j,qs,h1,h2⟩:=yd (S:=uP) (fun K ps=>∃(i:Nat) (cs:List Int),K+i=a.length/\ps=[.s a,.s b,.i (i:Int),.r (rI cs)]/\cs.length=a.length+b.length /\
   (∀x,x∈cs->0<=x/\x<=81*((i*b.length:Nat):Int))/\wv cs=(val (a.take i):Int)*10^(a.length-i)*(val b:Int))
  (fun j qs=>j=0/\∃cs:List Int,qs=[.r (rI cs)]/\cs.length=a.length+b.length/\(∀x,x∈cs->0<=x/\x<=81000000000000)/\wv cs=(val a:Int)*(val b:Int)) (n:=a.length) (by omega) (fun K ps hK ⟨i,cs,hiK,hps,hlen,hbd,hw⟩=>by
  subst hps;rw[qlW];have hs:=hsq i (by omega);cases K with
  | zero=>
   right;obtain rfl:i=a.length:=by omega
   have:¬(a.length:Int)<qD a:=by unfold qD;omega
   refine⟨0,[.r (rI cs)],?_,rfl,cs,rfl,hlen,fun x hx=>?_,?_⟩
   ·simp only[STD,this]
   ·have:=hbd x hx;omega
   ·rw[hw,qMz,qMd];grind
  | succ K=>
   left;have hi:i<a.length:=by omega
   have g1:(i:Int)<qD a:=by unfold qD;omega
   obtain⟨cs',q1,q2,q3,q4⟩:=qC3 ha hb hi hla hlb hlen (C:=i*b.length) hs hbd;have e4:=kq hi (by omega);refine⟨K,[.s a,.s b,.i ((i+1:Nat):Int),.r (rI cs')],by omega,?_,i+1,cs',by omega,rfl,q2,?_,?_⟩
   ·simp only[STD,g1,q1,e4]
   ·rw[qLO,qNc];exact q3
   ·rw[q4,hw,qba hi];rw[qrT hi,qNu,qMk];exact qCN) (ps:=[.s a,.s b,.i 0,.r (rI (List.replicate (a.length+b.length) 0))]) ⟨0,List.replicate (a.length+b.length) 0,by omega,rfl,by simp,fun x hx=>by rw[(qNM.1 hx).2];omega,by rw[qGj];simp[qgA]⟩
 obtain⟨rfl,cs,rfl,h3,h4,h5⟩:=h2;exact⟨cs,h1,h3,h4,h5⟩
theorem qBy{cols:List Int}{N:Nat}(hl:cols.length=N)(hN:N<=2000000)(hB:∀x,x∈cols->0<=x/\x<=81000000000000) :∃(t:qLv) (c:Nat),(qf yK [.i 0,.i ((N:Int)-1),.r (rI cols),.r (rI (List.replicate N 0))]).run=some (0,[.r (rI (t.map fun c=>(c.toNat:Int)))])/\q6p t/\t.length=N/\wv cols=(val t:Int)+(c:Int)*10^N:=by
 obtain⟨j,qs,h1,h2⟩:=yd (S:=yK) (fun K ps=>∃(t:qLv) (c:Nat),ps=[.i (c:Int),.i ((K:Int)-1),.r (rI cols),.r (rI (List.replicate K 0++t.map fun c=>(c.toNat:Int)))]/\c<=81000000000000/\q6p t/\K+t.length=N /\
   wv (cols.drop K)=(val t:Int)+(c:Int)*10^(N-K))
  (fun j qs=>j=0/\∃(t:qLv) (c:Nat),qs=[.r (rI (t.map fun c=>(c.toNat:Int)))]/\q6p t/\t.length=N/\wv cols=(val t:Int)+(c:Int)*10^N) (n:=N) (by omega) (fun K ps hK ⟨t,c,hps,hc,hdt,hlt,hrel⟩=>by
  subst hps;rw[qkE];cases K with
  | zero=>
   right;have:¬(0:Int)<=((0:Nat):Int)-1:=by omega
   refine⟨0,[.r (rI (t.map fun c=>(c.toNat:Int)))],?_,rfl,t,c,rfl,hdt,by omega,by simpa using hrel⟩;simp only[STD,this,List.replicate_zero,qMO]
  | succ K=>
   left;have e0:((K+1:Nat):Int)-1=(K:Int):=by omega
   rw[e0];have hk:K<cols.length:=by omega
   obtain⟨x,hx⟩:∃x:Nat,cols[K]=(x:Int)/\x<=81000000000000:=by have:=hB _ (qM6 hk);exact⟨cols[K].toNat,by omega,by omega⟩
   have e1:qE .i64 (c:Int) (x:Int)=((c+x:Nat):Int):=by rw[zp (by omega)];omega
   have e2:qdm .i64 ((c+x:Nat):Int) 10=(((c+x)/10:Nat):Int):=qAx (b:=10) (by omega);have e3:qcL ((c+x:Nat):Int) 10=(((c+x)%10:Nat):Int):=qqa _ 10;have e4:q2W .u8 (qE .i64 48 (((c+x)%10:Nat):Int))=((dch ((c+x)%10)).toNat:Int):=by rw[zp (by omega),qui (by omega),q39 (by omega)];omega
   have h3:(K:Int)<qh (rI cols):=by rw[qcc];omega
   have h5:(K:Int)<qh (rI (List.replicate (K+1) 0++t.map fun c=>(c.toNat:Int))):=by rw[qcc];simp;omega
   have h6:(List.replicate (K+1) (0:Int)++t.map fun c=>(c.toNat:Int)).set K ((dch ((c+x)%10)).toNat:Int)=List.replicate K 0++(dch ((c+x)%10)::t).map fun c=>(c.toNat:Int):=by rw[List.replicate_succ',qM2,List.set_append_right _ _ (by simp),List.length_replicate,qMd];rfl
   have h7:vN .i64 (K:Int) 1=(K:Int)-1:=wo (by omega);refine⟨K,[.i (((c+x)/10:Nat):Int),.i ((K:Int)-1),.r (rI cols),.r (rI (List.replicate K 0++(dch ((c+x)%10)::t).map fun c=>(c.toNat:Int)))],by omega,?_,_,_,rfl,by omega,q1d.2 ⟨by rw[q39 (by omega)];omega,hdt⟩,by simp;omega,?_⟩
   ·simp only[STD,qcT,h3,h5,and_self,qzF,qLG,yh hk,hx.1,e1,e2,e3,e4,qxL,h6,h7]
   ·rw[qHI hk,hrel,q78,hx.1,hl,qpj (by omega),show t.length=N-(K+1) by omega];rw[qrT (show K<N by omega)];have e:((c+x:Nat):Int)=10*(((c+x)/10:Nat):Int)+(((c+x)%10:Nat):Int):=by omega
    simp only[qNu,qMk,Int.natCast_pow] at e ⊢;generalize hP:(10:Int)^(N-(K+1))=P at *;generalize (((c+x)/10:Nat):Int)=q at *;generalize (((c+x)%10:Nat):Int)=r at *;have:(c:Int)=10*q+r-x:=by omega
    rw[this];grind) (ps:=[.i 0,.i ((N:Int)-1),.r (rI cols),.r (rI (List.replicate N 0))]) ⟨[],0,by simp,by omega,qmj,by simp,by
    rw[qNg (by omega)];simp[qgA,qJm]⟩
 obtain⟨rfl,t,c,rfl,h3,h4,h5⟩:=h2;exact⟨t,c,h1,h3,h4,h5⟩
theorem qri(m n:Nat)(hm:(tN m).length<=1000000)(hn:(tN n).length<=1000000):(q3u [.s (tN m),.s (tN n)]).run=some (0,[.s (tN (m*n))]):=by
 rw[qq1];obtain⟨cols,c1,c2,c3,c4⟩:=qC1 (wF m) (wF n) hm hn;obtain⟨N,hN⟩:∃N,N=(tN m).length+(tN n).length:=⟨_,rfl⟩;have hp:=qkm m;rw[<-hN] at c1 c2;obtain⟨t,c,t1,t2,t3,t4⟩:=qBy c2 (by omega) c3;have ht:t≠[]:=by intro h;subst h;simp at t3;omega
 have hb:=qcS t2 ht (by omega);have e0:qE .i64 (qD (tN m)) (qD (tN n))=(N:Int):=by unfold qD;rw[zp (by omega)];omega
 have e1:(0:Int)<=(N:Int)/\(N:Int)<=17592186044416:=by omega
 have e1':(0:Int)<=(N:Int)/\(N:Int)<=140737488355328:=by omega
 have e2:q4n (N:Int) [.i 0]=rI (List.replicate N 0):=by rw[qlv];rfl
 have e3:qh (rI cols)=(N:Int):=by rw[qcc,c2]
 have e4:vN .i64 (N:Int) 1=(N:Int)-1:=wo (by omega);have hval:val t=m*n:=by
  have v1:=q7R (wF m);have v2:=q7R (wF n);have v3:=q7R t2;rw[t3] at v3;rw[c4,q1k,q1k] at t4;rw[q1k] at v1 v2;have v4:m*n<10^N:=by rw[hN,Nat.pow_add];exact Nat.mul_lt_mul'' v1 v2
  have t5:m*n=val t+c*10^N:=by
   have:((m*n:Nat):Int)=((val t+c*10^N:Nat):Int):=by simpa using t4
   omega
  clear t4 c4 v1 v2;generalize 10^N=P at *;rcases qMD c with h|h
  ·subst h;omega
  ·have:=qLX P h;omega
 rw[hval] at hb;simp only[STD,e0,e1,e1',and_self,e2,c1,e3,e4,t1,qoo,hb]
theorem qmE(m n:Int)(hm:nl m<=1000000)(hn:nl n<=1000000):(vG [.s (tI m),.s (tI n)]).run=some (0,[.s (tI (m*n))]):=by
 rw[qtF];have hm':(tN m.natAbs).length<=1000000:=hm;have hn':(tN n.natAbs).length<=1000000:=hn;have hbr:=q7N m n;have hP:=qri m.natAbs n.natAbs hm' hn';have lm:=qrx m.natAbs n.natAbs;have hS:=fun b=>q0x (m.natAbs*n.natAbs) b (by omega);have tm:=qwK m;have tn:=qwK n;have e0:qE .i64 (qD (tI m)) (qD (tI n))=(((tI m).length+(tI n).length:Nat):Int):=by unfold qD;rw[zp (by omega)];omega
 have sg:(if (¬((m<0)=(n<0))) then -((m.natAbs*n.natAbs:Nat):Int) else ((m.natAbs*n.natAbs:Nat):Int))=m*n:=by
  by_cases h1:m<0<;>by_cases h2:n<0
  ·simp only[h1,h2,not_true_eq_false,if_false];rw[qMk,show (m.natAbs:Int)=-m by omega,show (n.natAbs:Int)=-n by omega];grind
  ·simp only[h1,h2];rw[if_pos (by simp),qMk,show (m.natAbs:Int)=-m by omega,show (n.natAbs:Int)=n by omega];grind
  ·simp only[h1,h2];rw[if_pos (by simp),qMk,show (m.natAbs:Int)=m by omega,show (n.natAbs:Int)=-n by omega];grind
  ·simp only[h1,h2,not_true_eq_false,if_false];rw[qMk,show (m.natAbs:Int)=m by omega,show (n.natAbs:Int)=n by omega]
 by_cases hb:(tN m.natAbs).length<=18/\(tN n.natAbs).length<=18
 ·rw[if_pos hb] at hbr;by_cases h18:(tI m).length+(tI n).length<=18
  ·have h18':(((tI m).length+(tI n).length:Nat):Int)<=18:=by omega
   have lmn:(tN (m*n).natAbs).length<=18:=by
    rw[qMK];have h3:∀q:Int,(tN q.natAbs).length<=(tI q).length:=fun q=>by unfold tI;split<;>simp
    have:=h3 m;have:=h3 n;omega
   have b1:(m*n).natAbs<1000000000000000000:=qMf (q7f lmn) (by decide);have e1:jw .i64 m n=m*n:=q7n (by omega);have e2:=q2m (m*n) (by omega) (by omega);clear b1;simp only[STD,hbr,e0,h18',e1,e2]
  ·have h18':¬(((tI m).length+(tI n).length:Nat):Int)<=18:=by omega
   simp only[STD,hbr,e0,h18',va,hP,jc,hS,decide_eq_decide];rw[<-sg];simp only[eq_iff_iff]
 ·rw[if_neg hb] at hbr;simp only[STD,hbr,va,hP,jc,hS,decide_eq_decide];rw[<-sg];simp only[eq_iff_iff]
theorem qJb{x:Int}(h:0<=x/\x<=254):qE .u8 x 1=x+1:=by unfold qE IntKind.wrap;simp[IntKind.signed,IntKind.bits];omega
theorem qym(a q:qLv)(i:Int){b x0:Nat}(hb:0<b)(hx:x0<10*b)(lb:(tN b).length<=1000000)(lx:(tN x0).length<=1000002) :(qf yI [.s a,.s (tN b),.s q,.s (tN x0),.i i,.i 48]).run=some (0,[.s a,.s (tN b),.s q,.s (tN (x0%b)),.i i,.i (48+((x0/b:Nat):Int))]):=by
 obtain⟨j,qs,h1,h2⟩:=yd (S:=yI) (fun k ps=>∃x c:Nat,ps=[.s a,.s (tN b),.s q,.s (tN x),.i i,.i (48+(c:Int))]/\x+c*b=x0/\c+k=10/\c<=9)
  (fun j qs=>j=0/\qs=[.s a,.s (tN b),.s q,.s (tN (x0%b)),.i i,.i (48+((x0/b:Nat):Int))]) (n:=10) (by omega) (fun k ps hk ⟨x,c,hps,he,hck,hc⟩=>by
  subst hps;rw[qkW];have hxl:x<=x0:=by rw[<-he];exact Nat.le_add_right _ _
  have hP:=qb8 x b false (by have:=q05 hxl;omega) (by omega);by_cases hlt:x<b
  ·right;refine⟨0,[.s a,.s (tN b),.s q,.s (tN x),.i i,.i (48+(c:Int))],?_,rfl,?_⟩
   ·simp only[STD,qio,hlt,decide_true]
   ·have e1:x0/b=c:=by rw[<-he,Nat.add_mul_div_right _ _ hb,Nat.div_eq_of_lt hlt,qMp]
    have e2:x0%b=x:=by rw[<-he,Nat.add_mul_mod_self_right,Nat.mod_eq_of_lt hlt]
    rw[e1,e2]
  ·left;have hge:b<=x:=by omega
   have hP:=hP (fun _=>hge);simp only[qMb,↓reduceIte] at hP;have hc9:c+1<10:=by apply Nat.lt_of_mul_lt_mul_right (a:=b);have:(c+1)*b=c*b+b:=Nat.succ_mul c b;omega
   refine⟨k-1,[.s a,.s (tN b),.s q,.s (tN (x-b)),.i i,.i (48+((c+1:Nat):Int))],by omega,?_,x-b,c+1,rfl,?_,by omega,by omega⟩
   ·simp only[STD,qio,hlt,decide_false,hP,qJb (show (0:Int)<=48+(c:Int)/\48+(c:Int)<=254 by omega)];rw[show (48+(c:Int)+1)=48+((c+1:Nat):Int) by omega]
   ·have:(c+1)*b=c*b+b:=Nat.succ_mul c b;omega) (ps:=[.s a,.s (tN b),.s q,.s (tN x0),.i i,.i 48]) ⟨x0,0,by simp,by simp,by omega,by omega⟩
 obtain⟨rfl,rfl⟩:=h2;exact h1
theorem qGJ{s:qLv}{i:Nat}(h:i<s.length):qcW s (i:Int) (((i+1:Nat):Int))=[s[i]]:=by unfold qcW;simp only[qLG];rw[List.take_succ_eq_append_getElem h,List.drop_append_of_le_length (by simp;omega)];rw[List.drop_of_length_le (by simp;omega)];rfl
theorem qrW{m n:Nat}(hn:0<n)(lm:(tN m).length<=1000000)(ln:(tN n).length<=1000000) :(q3q [.s (tN m),.s (tN n)]).run=some (0,[.s (tN (m/n)),.s (tN (m%n))]):=by
 rw[qpE];have hdm:=wF m;obtain⟨j,qs,h1,rfl,q,h2,h3,h4,h5⟩:=yd (S:=q0T) (fun k ps=>∃(i r:Nat) (q:qLv),ps=[.s (tN m),.s (tN n),.s q,.s (tN r),.i (i:Int)]/\i+k=(tN m).length/\q.length=i/\q6p q/\val q*n+r=val ((tN m).take i)/\r<n)
  (fun j qs=>j=0/\∃q:List UInt8,qs=[.s q,.s (tN (m%n))]/\q.length=(tN m).length/\q6p q/\val q=m/n) (n:=(tN m).length) (by omega) (fun k ps hk ⟨i,r,q,hps,hik,hql,hdq,hv,hr⟩=>by
  subst hps;rw[qnv];by_cases hi:i<(tN m).length
  ·left;have hc:=qje hdm hi;have hw:qE .i64 (i:Int) 1=((i+1:Nat):Int):=by rw[zp (by omega)];omega
   have hlr:(tN r).length<=(tN n).length:=q05 (by omega);have hd10:=qBX hc;have hB:=qcS (s:=tN r++[(tN m)[i]]) (q8J.2 ⟨wF r,fun c hcc=>by simp at hcc;subst hcc;exact hc⟩) (by simp) (by simp;omega);rw[qn2,q1k] at hB;have lx:(tN (10*r+dv (tN m)[i])).length<=1000002:=by
    have h10:10*r+dv (tN m)[i]<=10*n:=by omega
    have e10:(tN (10*n)).length<=(tN 10).length+(tN n).length:=qrx 10 n;have e11:(tN 10).length=2:=by decide
    have:=q05 h10;omega
   have hI:=qym (tN m) q (i:Int) hn (x0:=10*r+dv (tN m)[i]) (by omega) ln lx;have hq10:(10*r+dv (tN m)[i])/n<10:=by rw[Nat.div_lt_iff_lt_mul hn];omega
   have hd1:(i:Int)<qD (tN m):=by unfold qD;omega
   have hd2:((i+1:Nat):Int)<=qD (tN m):=by unfold qD;omega
   have hrs:qo1 [[.i (48+(((10*r+dv (tN m)[i])/n:Nat):Int))]]=[dch ((10*r+dv (tN m)[i])/n)]:=by simp only[qo1,qMv,List.map_nil,qN0,U.toI,dch];congr 2
   have hl1:qD (tN r)+qD [(tN m)[i]]<=140737488355328:=by unfold qD;simp;omega
   have hl2:qD q+qD [dch ((10*r+dv (tN m)[i])/n)]<=140737488355328:=by unfold qD;simp;omega
   refine⟨k-1,[.s (tN m),.s (tN n),.s (q++[dch ((10*r+dv (tN m)[i])/n)]),.s (tN ((10*r+dv (tN m)[i])%n)),.i ((i+1:Nat):Int)],by omega,?_,i+1,_,_,rfl,by omega,by simp[hql],?_,?_,qML _ hn⟩
   ·simp only[STD,hw,hd1,hd2,qGJ hi,hl1,qfl,hB,hI,hrs,hl2,show (0:Int)<=(i:Int) by omega,show (0:Int)<=((i+1:Nat):Int) by omega,show (i:Int)<=((i+1:Nat):Int) by omega,and_self]
   ·exact q8J.2 ⟨hdq,quO hq10⟩
   ·rw[qn2,qpj hq10,qba hi,<-hv];have hdm:=qNB (10*r+dv (tN m)[i]) n;generalize (10*r+dv (tN m)[i])/n=c at *;generalize (10*r+dv (tN m)[i])%n=e at *;have e1:(10*val q+c)*n=10*(val q*n)+n*c:=by rw[qLO,Nat.mul_assoc,Nat.mul_comm c n]
    omega
  ·right;have hie:i=(tN m).length:=by omega
   have hd1:¬((i:Int)<qD (tN m)):=by unfold qD;omega
   rw[hie,qMz,q1k] at hv;have e1:m/n=val q:=by rw[<-hv,Nat.add_comm,Nat.add_mul_div_right _ _ hn,Nat.div_eq_of_lt hr,qMp]
   have e2:m%n=r:=by rw[<-hv,Nat.add_comm,Nat.add_mul_mod_self_right,Nat.mod_eq_of_lt hr]
   refine⟨0,[.s q,.s (tN r)],?_,rfl,q,by rw[e2],by omega,hdq,e1.symm⟩;simp only[STD,hd1]) (ps:=[.s (tN m),.s (tN n),.s [],.s [48],.i 0]) ⟨0,0,[],rfl,by omega,rfl,qmj,by simp[qgA],hn⟩
 subst h2;have hB:=qcS (s:=q) h4 (by intro h;subst h;have:=qkm m;simp at h3;omega) (by omega);rw[h5] at hB;simp only[STD,h1,hB]
def fq(m n:Int):Int:=if 0<n then m/n else (-m)/(-n)
theorem qoq{m n q:Int}(h:(0<n/\q*n<=m/\m<q*n+n)\/(n<0/\q*n+n<m/\m<=q*n)):fq m n=q:=by
 unfold fq;rcases h with⟨h0,h1,h2⟩|⟨h0,h1,h2⟩
 ·rw[if_pos h0];exact((Int.ediv_emod_unique (r:=m-q*n) h0).2 ⟨by rw[qME];omega,by omega,by omega⟩).1
 ·rw[if_neg (by omega)];have e:-n*q=-(q*n):=by rw[Int.neg_mul,qME]
  exact((Int.ediv_emod_unique (r:=q*n-m) (show 0 < -n by omega)).2 ⟨by omega,by omega,by omega⟩).1
theorem qqm{n q:Int}(h:n≠0):fq (q*n) n=q:=by
 apply qoq;rcases Int.lt_or_lt_of_ne h with h|h
 ·exact .inr ⟨h,by omega,by omega⟩
 ·exact .inl ⟨h,by omega,by omega⟩
theorem qKQ(m:Int){n:Int}(_:n≠0):(fq m n).natAbs<=m.natAbs+1:=by
 unfold fq;split
 ·have:=qND m n;omega
 ·have:=qND (-m) (-n);omega
theorem qon(m:Int){n:Int}(hn:n≠0):n*m.tdiv n+qcL m n=m/\(qcL m n).natAbs<n.natAbs/\(0<=m->0<=qcL m n)/\(m<=0->qcL m n<=0):=by
 unfold qcL;refine⟨Int.mul_tdiv_add_tmod m n,?_,fun h=>Int.tmod_nonneg n h,fun h=>?_⟩
 ·rw[Int.natAbs_tmod];exact qML _ (by omega)
 ·have:=Int.tmod_nonneg n (show 0<=-m by omega);rw[Int.neg_tmod] at this;omega
theorem qGu{m:Int}(h:(tN m.natAbs).length<=18):m.natAbs<1000000000000000000:=qMf (q7f h) (by decide)
theorem qjp{n t:Int}(hn:n≠0)(h:-9223372036854775808<=t/\t<=9223372036854775807):qdm .i64 (n*t) n=t:=by unfold qdm;rw[Int.mul_tdiv_cancel_left _ hn];unfold IntKind.wrap;simp[IntKind.signed,IntKind.bits];omega
theorem qI7(m n:Int):(m.tdiv n).natAbs<=m.natAbs:=by rw[Int.natAbs_tdiv];exact qNv _ _
theorem qGw{m n:Int}(hn:n≠0) :(qcL m n≠0/\¬((qcL m n<0)=(n<0))->fq m n=m.tdiv n-1/\m-fq m n*n=qcL m n+n)/\(¬(qcL m n≠0/\¬((qcL m n<0)=(n<0)))->fq m n=m.tdiv n/\m-fq m n*n=qcL m n):=by
 obtain⟨h1,h2,h3,h4⟩:=qon m hn;generalize m.tdiv n=t at *;generalize qcL m n=r at *;have e:n*t=t*n:=qME _ _;have e2:(t-1)*n=t*n-n:=by rw[Int.sub_mul,qMR]
 constructor
 ·intro⟨c1,c2⟩;have c3:¬(r<0↔n<0):=fun h=>c2 (propext h);have:fq m n=t-1:=by
   apply qoq;rw[e2];rcases Int.lt_or_lt_of_ne hn with h|h
   ·have:¬r<0:=fun q=>c3 ⟨fun _=>h,fun _=>q⟩;exact .inr ⟨h,by omega,by omega⟩
   ·have:r<0:=by
     rcases Decidable.em (r<0) with q|q
     ·exact q
     ·exact absurd ⟨fun x=>by omega,fun x=>by omega⟩ c3
    exact .inl ⟨h,by omega,by omega⟩
  rw[this,e2];exact⟨rfl,by omega⟩
 ·intro c;have c':r=0\/(r<0↔n<0):=by
   rcases Decidable.em (r=0) with q|q
   ·exact .inl q
   ·right;rcases Decidable.em (r<0↔n<0) with q2|q2
    ·exact q2
    ·exact absurd ⟨q,fun h=>q2 (by rw[h])⟩ c
  have:fq m n=t:=by
   apply qoq;rcases Int.lt_or_lt_of_ne hn with h|h
   ·rcases c' with q|q
    ·exact .inr ⟨h,by omega,by omega⟩
    ·have:=q.2 h;exact .inr ⟨h,by omega,by omega⟩
   ·rcases c' with q|q
    ·exact .inl ⟨h,by omega,by omega⟩
    ·have:¬r<0:=fun x=>by have:=q.1 x;omega
     exact .inl ⟨h,by omega,by omega⟩
  rw[this];exact⟨rfl,by omega⟩
theorem qKk{m n:Int}(hn:n≠0) :(m.natAbs%n.natAbs≠0/\¬((m<0)=(n<0))->fq m n=-((m.natAbs/n.natAbs:Nat):Int)-1) /\(¬(m.natAbs%n.natAbs≠0/\¬((m<0)=(n<0)))->fq m n=if ¬((m<0)=(n<0)) then -((m.natAbs/n.natAbs:Nat):Int) else ((m.natAbs/n.natAbs:Nat):Int)):=by
 have hd:=qNB m.natAbs n.natAbs;have hl:=qML m.natAbs (show 0<n.natAbs by omega);generalize m.natAbs/n.natAbs=q at *;generalize m.natAbs%n.natAbs=r at *;have hq:((n.natAbs*q:Nat):Int)=(n.natAbs:Int)*(q:Int):=by simp
 have e1:n<0->(n.natAbs:Int)*(q:Int)=-((q:Int)*n):=fun h=>by rw[show (n.natAbs:Int)=-n by omega,Int.neg_mul,qME]
 have e2:0<n->(n.natAbs:Int)*(q:Int)=(q:Int)*n:=fun h=>by rw[show (n.natAbs:Int)=n by omega,qME]
 have e3:(-(q:Int)-1)*n=-((q:Int)*n)-n:=by rw[Int.sub_mul,Int.neg_mul,qMR]
 have e4:(-(q:Int))*n=-((q:Int)*n):=Int.neg_mul _ _;constructor
 ·intro⟨c1,c2⟩;have c3:¬(m<0↔n<0):=fun h=>c2 (propext h);apply qoq;rw[e3];rcases Int.lt_or_lt_of_ne hn with h|h
  ·have:=e1 h;have:¬m<0:=fun q=>c3 ⟨fun _=>h,fun _=>q⟩;exact .inr ⟨h,by omega,by omega⟩
  ·have:=e2 h;have:m<0:=by
    rcases Decidable.em (m<0) with q|q
    ·exact q
    ·exact absurd ⟨fun x=>by omega,fun x=>by omega⟩ c3
   exact .inl ⟨h,by omega,by omega⟩
 ·intro c;by_cases c2:(m<0)=(n<0)
  ·rw[if_neg (by simpa using c2)];have c3:m<0↔n<0:=by rw[c2]
   apply qoq;rcases Int.lt_or_lt_of_ne hn with h|h
   ·have:=e1 h;have:=c3.2 h;exact .inr ⟨h,by omega,by omega⟩
   ·have:=e2 h;have:¬m<0:=fun x=>by have:=c3.1 x;omega
    exact .inl ⟨h,by omega,by omega⟩
  ·rw[if_pos c2];have hr:r=0:=by
    rcases qMD r with h|h
    ·exact h
    ·exact absurd ⟨by omega,c2⟩ c
   have c3:¬(m<0↔n<0):=fun h=>c2 (propext h);apply qoq;rw[e4];rcases Int.lt_or_lt_of_ne hn with h|h
   ·have:=e1 h;have:¬m<0:=fun q=>c3 ⟨fun _=>h,fun _=>q⟩;exact .inr ⟨h,by omega,by omega⟩
   ·have:=e2 h;have:m<=0:=by
     rcases Decidable.em (m<0) with q|q
     ·omega
     ·exact absurd ⟨fun x=>by omega,fun x=>by omega⟩ c3
    exact .inl ⟨h,by omega,by omega⟩
theorem qDs:tI 1=[49]:=rfl
theorem q5K(n:Nat):(tN n=[48])=(n=0):=by rw[<-qyo];exact propext ⟨fun h=>qun h,fun h=>by rw[h]⟩
theorem qGk(m:Int){n:Int}(hn:n≠0):nl (fq m n)<=nl m+2:=by have h:=qKQ m hn;have h2:=q05 h;have h3:=qzs m.natAbs 1;have h4:(tN 1).length=1:=rfl;have:=qkm m.natAbs;unfold nl;omega
theorem q5g(m n:Int)(hn0:n≠0)(hm:nl m<=400000)(hn:nl n<=400000):(jb [.s (tI m),.s (tI n)]).run=some (0,[.s (tI (fq m n)),.s (tI (m-fq m n*n))]):=by
 rw[qr2];have hbr:=q7N m n;by_cases hb:(tN m.natAbs).length<=18/\(tN n.natAbs).length<=18
 ·rw[if_pos hb] at hbr;have b1:=qGu hb.1;have b2:=qGu hb.2;obtain⟨h1,h2,h3,h4⟩:=qon m hn0;obtain⟨g1,g2⟩:=qGw (m:=m) hn0;have ht:=qI7 m n;by_cases c0:qcL m n=0
  ·obtain⟨e1,e2⟩:=g2 (fun h=>h.1 c0);rw[e2,e1];have w1:vN .i64 m (qcL m n)=n*m.tdiv n:=by rw[wo (by omega)];omega
   have w2:=qjp (t:=m.tdiv n) hn0 (by omega);have o1:=q2m (m.tdiv n) (by omega) (by omega);have o2:=q2m (qcL m n) (by omega) (by omega);simp only[STD,hbr,hn0,c0] at w1 o2 ⊢;simp only[STD,w1,w2,o1,o2]
  ·by_cases c1:(qcL m n<0)=(n<0)
   ·obtain⟨e1,e2⟩:=g2 (fun h=>h.2 c1);rw[e2,e1];have w1:vN .i64 m (qcL m n)=n*m.tdiv n:=by rw[wo (by omega)];omega
    have w2:=qjp (t:=m.tdiv n) hn0 (by omega);have o1:=q2m (m.tdiv n) (by omega) (by omega);have o2:=q2m (qcL m n) (by omega) (by omega);have hbq:(ilt (qcL m n) 0=ilt n 0)=True:=by simp only[ilt,decide_eq_decide,eq_iff_iff,iff_true];rw[c1]
    simp only[STD,hbr,hn0,c0,hbq,w1,w2,o1,o2]
   ·obtain⟨e1,e2⟩:=g1 ⟨c0,c1⟩;rw[e2,e1];have w0:qE .i64 (qcL m n) n=qcL m n+n:=zp (by omega);have e3:n*(m.tdiv n-1)=n*m.tdiv n-n:=by rw[Int.mul_sub,Int.mul_one]
    have w1:vN .i64 m (qcL m n+n)=n*(m.tdiv n-1):=by rw[wo (by omega)];omega
    have w2:=qjp (t:=m.tdiv n-1) hn0 (by omega);have o1:=q2m (m.tdiv n-1) (by omega) (by omega);have o2:=q2m (qcL m n+n) (by omega) (by omega);have hbq:(ilt (qcL m n) 0=ilt n 0)=False:=by simp only[ilt,decide_eq_decide,eq_iff_iff,iff_false];exact fun h=>c1 (propext h)
    simp only[STD,hbr,hn0,c0,hbq,w0,w1,w2,o1,o2]
 ·rw[if_neg hb] at hbr;have hm':(tN m.natAbs).length<=400000:=hm;have hn':(tN n.natAbs).length<=400000:=hn;have hD:=qrW (m:=m.natAbs) (n:=n.natAbs) (by omega) (by omega) (by omega);have lq:(tN (m.natAbs/n.natAbs)).length<=(tN m.natAbs).length:=q05 (qNv _ _);have hS:=fun b=>q0x (m.natAbs/n.natAbs) b (by omega);have hbq:(decide (m<0)=decide (n<0))=((m<0)=(n<0)):=by simp only[decide_eq_decide,eq_iff_iff]
  have lf:=qGk m hn0;have hT:=qmE (fq m n) n (by omega) (by omega);have lt:=q0G (fq m n) n;have hM:=qaB m (fq m n*n) (by omega) (by omega);obtain⟨g1,g2⟩:=qKk (m:=m) hn0;by_cases c1:(m<0)=(n<0)
  ·have e1:=g2 (fun h=>h.2 c1);rw[if_neg (by simpa using c1)] at e1;have hS':=hS false;simp only[qMb,if_false] at hS';rw[<-e1] at hS';have hnb:(!Go.Eng.beq (decide (m<0)) (decide (n<0)))=false:=by simp only[Go.Eng.beq,Bool.not_eq_false',beq_iff_eq];rw[hbq];exact c1
   by_cases c0:m.natAbs%n.natAbs=0
   ·simp only[STD,hbr,va,hD,jc,hnb,hS',zr,q5K,c0,hT,hM]
   ·simp only[STD,hbr,va,hD,jc,hnb,hS',zr,q5K,c0,hT,hM]
  ·have hnb:(!Go.Eng.beq (decide (m<0)) (decide (n<0)))=true:=by
    have:¬(decide (m<0)=decide (n<0)):=by rw[hbq];exact c1
    simp only[Go.Eng.beq,qNb,beq_eq_false_iff_ne];exact this
   have hS':=hS true;simp only[if_true] at hS';by_cases c0:m.natAbs%n.natAbs=0
   ·have e1:=g2 (fun h=>h.1 c0);rw[if_pos c1] at e1;rw[<-e1] at hS';simp only[STD,hbr,va,hD,jc,hnb,hS',zr,q5K,c0,hT,hM]
   ·have e1:=g1 ⟨c0,c1⟩;have hMi:=qaB (-((m.natAbs/n.natAbs:Nat):Int)) 1 (by rw[qqN];show (tN (m.natAbs/n.natAbs)).length<=_;omega) (by decide);rw[qDs,<-e1] at hMi;simp only[STD,hbr,va,hD,jc,hnb,hS',zr,q5K,c0,hMi,hT,hM]
theorem qJS(x:Nat){y:Nat}(h:0<y):fq (x:Int) (y:Int)=((x/y:Nat):Int)/\(x:Int)-fq (x:Int) (y:Int)*(y:Int)=((x%y:Nat):Int):=by
 have e:fq (x:Int) (y:Int)=((x/y:Nat):Int):=by unfold fq;rw[if_pos (by omega)];rfl
 refine⟨e,?_⟩;rw[e];have:=qNB x y;have h2:((y*(x/y):Nat):Int)=((x/y:Nat):Int)*(y:Int):=by rw[Nat.mul_comm];simp
 omega
theorem qG4(a b:Nat)(hb:b<9223372036854775808):(qf uM [.i (a:Int),.i (b:Int)]).run=some (0,[.i ((Nat.gcd a b:Nat):Int)]):=by
 obtain⟨j,qs,h1,rfl,rfl⟩:=yd (S:=uM) (fun k ps=>∃x y:Nat,ps=[.i (x:Int),.i (y:Int)]/\y=k/\Nat.gcd x y=Nat.gcd a b)
  (fun j qs=>j=0/\qs=[.i ((Nat.gcd a b:Nat):Int)]) (n:=b) hb (fun k ps hk ⟨x,y,hps,hy,hg⟩=>by
  subst hps;rw[qnx];by_cases h0:y=0
  ·right;refine⟨0,[.i (x:Int)],?_,rfl,?_⟩
   ·simp only[STD,h0];simp[]
   ·rw[<-hg,h0,Nat.gcd_zero_right]
  ·left;refine⟨x%y,[.i (y:Int),.i ((x%y:Nat):Int)],by rw[<-hy];exact qML _ (by omega),?_,y,x%y,rfl,rfl,?_⟩
   ·simp only[STD,show (0:Int)<(y:Int) by omega,show ¬((y:Int)=0) by omega,qqa]
   ·rw[<-hg,qN2 y,<-Nat.gcd_rec,qN2]) (ps:=[.i (a:Int),.i (b:Int)]) ⟨a,b,rfl,rfl,rfl⟩
 exact h1
def eM(a b:Nat):Nat:=if b=0 then 0 else Nat.log2 (a*b)+1+if a<b then 1 else 0
theorem qCT{m n:Nat}(h:m<=n):Nat.log2 m<=Nat.log2 n:=by
 by_cases hm:m=0
 ·subst hm;simp
 ·rcases qLF (Nat.log2 n) (Nat.log2 m) with h1|h1
  ·have:=(Nat.log2_lt (show n≠0 by omega)).1 h1;have h2:=Nat.log2_self_le hm;omega
  ·exact h1
theorem qD4{a b:Nat}(hb:b≠0):eM b (a%b)<eM a b:=by
 have hlt:=qML a (show 0<b by omega);unfold eM;rw[if_neg hb];by_cases hr:a%b=0
 ·rw[if_pos hr];omega
 ·rw[if_neg hr,if_neg (show ¬b<a%b by omega)];by_cases hab:a<b
  ·rw[if_pos hab,Nat.mod_eq_of_lt hab,Nat.mul_comm b a];omega
  ·rw[if_neg hab];have hd:=qNB a b;have hq:1<=a/b:=(Nat.le_div_iff_mul_le (by omega)).2 (by omega);have h1:b*1<=b*(a/b):=Nat.mul_le_mul_left _ hq;have h2:2*(b*(a%b))<=a*b:=by
    have:2*(a%b)<=a:=by omega
    have:=qLX b this;rw[Nat.mul_assoc,Nat.mul_comm (a%b) b] at this;exact this
   have h3:=qCT h2;have h4:Nat.log2 (2*(b*(a%b)))=Nat.log2 (b*(a%b))+1:=by apply Nat.log2_two_mul;exact Nat.mul_ne_zero hb hr
   omega
theorem qF0{x k j:Nat}(h:(tN x).length<=k)(hj:4*k=j):x<2^j:=by
 have h3:x<10^k:=q7f h;have h4:(10:Nat)^k<=16^k:=Nat.pow_le_pow_left (by omega) _;have h5:(16:Nat)^k=2^j:=by rw[show (16:Nat)=2^4 from rfl,<-Nat.pow_mul,hj]
 rw[h5] at h4;exact qMf h3 h4
theorem qAp{a b:Nat}(ha:(tN a).length<=400000)(hb:(tN b).length<=400000):eM a b<9223372036854775808:=by
 unfold eM;have h1:=qrx a b;by_cases h0:a*b=0
 ·rw[h0];simp;split<;>(try split)<;>omega
 ·obtain⟨j,hj⟩:∃j,j=3200000:=⟨_,rfl⟩;have h2:a*b<2^j:=qF0 (k:=800000) (by omega) (by omega);have:=(Nat.log2_lt h0).2 h2;split<;>(try split)<;>omega
theorem qjP(m n:Int)(hm:nl m<=400000)(hn:nl n<=400000):(q0t [.s (tI m),.s (tI n)]).run=some (0,[.s (tN (Nat.gcd m.natAbs n.natAbs))]):=by
 rw[qsu];have hm':(tN m.natAbs).length<=400000:=hm;have hn':(tN n.natAbs).length<=400000:=hn;have hS:=fun x (h:(tN x).length<=400000)=>q0x x false (by omega);simp only[qMb,if_false,q28] at hS;obtain⟨j,qs,h1,h2,rfl⟩:=yd (S:=q26) (fun k ps=>∃x y:Nat,ps=[.s (tN x),.s (tN y)]/\eM x y=k/\Nat.gcd x y=Nat.gcd m.natAbs n.natAbs/\(tN x).length<=400000/\(tN y).length<=400000)
  (fun j qs=>(j=0\/j=1)/\qs=[.s (tN (Nat.gcd m.natAbs n.natAbs))]) (n:=eM m.natAbs n.natAbs) (qAp hm' hn') (fun k ps hk ⟨x,y,hps,hy,hg,lx,ly⟩=>by
  subst hps;rw[qox];by_cases h0:y=0
  ·right;refine⟨0,[.s (tN x)],?_,.inl rfl,?_⟩
   ·simp only[STD,zr,q5K,h0]
   ·rw[<-hg,h0,Nat.gcd_zero_right]
  ·have hbr:=q7N (x:Int) (y:Int);rw[q28,q28] at hbr;simp only[Int.natAbs_natCast] at hbr;by_cases hb:(tN x).length<=18/\(tN y).length<=18
   ·right;rw[if_pos hb] at hbr;have b1:=qGu (m:=(x:Int)) hb.1;have b2:=qGu (m:=(y:Int)) hb.2;simp only[Int.natAbs_natCast] at b1 b2;have hE:=qG4 x y (by omega);have hgl:Nat.gcd x y<=y:=Nat.gcd_le_right _ (by omega);have hO:=q2m ((Nat.gcd x y:Nat):Int) (by omega) (by omega);rw[q28] at hO;refine⟨1,[.s (tN (Nat.gcd x y))],?_,.inr rfl,by rw[hg]⟩;simp only[STD,zr,q5K,h0,hbr,hE,hO]
   ·left;rw[if_neg hb] at hbr;have hP:=q5g (x:Int) (y:Int) (by omega) (by exact lx) (by exact ly);rw[q28,q28,(qJS x (show 0<y by omega)).2,q28] at hP;refine⟨eM y (x%y),[.s (tN y),.s (tN (x%y))],by rw[<-hy];exact qD4 h0,?_,y,x%y,rfl,rfl,?_,ly,qLA (q05 (Nat.le_of_lt (qML _ (by omega)))) ly⟩
    ·simp only[STD,zr,q5K,h0,hbr,hP]
    ·rw[<-hg,qN2 y,<-Nat.gcd_rec,qN2]) (ps:=[.s (tN m.natAbs),.s (tN n.natAbs)]) ⟨_,_,rfl,rfl,rfl,hm',hn'⟩
 rcases h2 with rfl|rfl
 ·simp only[STD,va,hS _ hm',hS _ hn',h1,zU h1,ite_self]
 ·simp only[STD,va,hS _ hm',hS _ hn',h1,zU h1,ite_self]
def mag(s:qLv):List UInt8:=if s.getD 0 0=45 then s.drop 1 else s
theorem qxl(m:Int):mag (tI m)=tN m.natAbs:=by
 unfold mag;by_cases h:m<0
 ·rw[qdn h];simp
 ·rw[qlw h];obtain⟨c,t,e,h1,h2⟩:=qj5 (wF m.natAbs) (qsd _);rw[e];simp only[qN0];rw[if_neg];intro hc;subst hc;revert h1;decide
theorem qwW(s:qLv):(∃m:Int,s=tI m)↔mag s≠[]/\q6p (mag s)/\((mag s).getD 0 0=48->s.length=1):=by
 constructor
 ·rintro ⟨m,rfl⟩;rw[qxl];refine⟨qsd _,wF _,fun h=>?_⟩;rcases qDB m.natAbs with h1|h1
  ·have h2:=qwe m.natAbs;have hv:m.natAbs=0:=by obtain⟨c,e⟩:∃c,tN m.natAbs=[c]:=List.length_eq_one_iff.1 h1;rw[e] at h;simp at h;have:=q1k m.natAbs;rw[e,h] at this;simpa[val,dv] using this.symm
   have hm0:m=0:=by omega
   rw[hm0];rfl
  ·exact absurd h h1
 ·rintro ⟨h1,h2,h3⟩;by_cases h45:s.getD 0 0=45
  ·have hm:mag s=s.drop 1:=by unfold mag;rw[if_pos h45]
   obtain⟨c,t,rfl⟩:∃c t,s=c::t:=by
    cases s with
    | nil=>simp at h45
    | cons c t=>exact⟨c,t,rfl⟩
   simp at h45;subst h45;rw[hm] at h1 h2 h3;simp only[List.drop_succ_cons,List.drop_zero] at h1 h2 h3;have h4:t.getD 0 0≠48:=fun h=>by have:=h3 h;simp at this;exact h1 this
   have hv:=qAO h2 h1 h4;have hp:0<10^(t.length-1):=Nat.pow_pos (by omega);refine⟨-((val t:Nat):Int),?_⟩;rw[qdn (by omega)];simp only[Int.natAbs_neg,Int.natAbs_natCast];rw[<-qrh h2 h1 (.inr h4)]
  ·have hm:mag s=s:=by unfold mag;rw[if_neg h45]
   rw[hm] at h1 h2 h3;refine⟨((val s:Nat):Int),?_⟩;rw[q28];refine qrh h2 h1 ?_;by_cases h4:s.getD 0 0=48
   ·exact .inl (h3 h4)
   ·exact .inr h4
open Classical in
noncomputable def qyk(s:qLv):Int:=if ∃m:Int,s=tI m then (if (mag s).length<=1024 then 0 else 11) else 3
theorem qK8(s:qLv)(hl:s.length<=9223372036854775807):(qA [.s s]).run=some (0,[.s (mag s)]):=by
 rw[qm3];cases s with
 | nil=>simp only[STD,zr];rfl
 | cons c t=>
  have h1:(0:Int)<qD (c::t):=by unfold qD;simp only[qM0];omega
  have h2:(1:Int)<=qD (c::t):=by omega
  have hs:sat (c::t) 0=(c.toNat:Int):=by simp[sat]
  have hc:((c.toNat:Int)=45)=(c=45):=by simp only[eq_iff_iff];exact⟨fun h=>qNk.1 (by show c.toNat=45;omega),fun h=>by rw[h];rfl⟩
  simp only[STD,zr,show ¬(c::t=[]) by simp,h1,h2,hs,hc,qM3,and_self,show (0:Int)<=qD (c::t) by omega,show (0:Int)<=1 by omega];unfold mag;simp only[qN0];by_cases h:c=45
  ·rw[if_pos h,if_pos h];simp[qcW,qD]
  ·rw[if_neg h,if_neg h]
theorem qmA(s:qLv)(hl:s.length<=1000000000):(q3J [.s s]).run=some (0,[.i (qyk s)]):=by
 rw[qsY];have hsz:=qK8 s (by omega);have hml:(mag s).length<=s.length:=by unfold mag;split<;>simp
 obtain⟨j,qs,h1,h2⟩:=yd (S:=q3b) (fun k ps=>∃i:Nat,ps=[.s (mag s),.i (i:Int)]/\i+k=(mag s).length/\q6p ((mag s).take i))
  (fun j qs=>(q6p (mag s)/\j=0/\qs=[.s (mag s)])\/(¬q6p (mag s)/\j=1/\qs=[.i 3])) (n:=(mag s).length) (by omega) (fun k ps hk ⟨i,hps,hi,hd⟩=>by
  subst hps;rw[qpw];by_cases hlt:i<(mag s).length
  ·have a1:(i:Int)<qD (mag s):=by unfold qD;omega
   have a2:(0:Int)<=(i:Int):=by omega
   have hs:=qlp hlt;have hw:qE .i64 (i:Int) 1=((i+1:Nat):Int):=by rw[zp (by omega)];omega
   by_cases b1:((mag s)[i].toNat:Int)<48
   ·right;refine⟨1,[.i 3],?_,.inr ⟨fun h=>?_,rfl,rfl⟩⟩
    ·simp only[STD,a1,a2,hs,b1,and_self]
    ·have:=(qje h hlt).1;omega
   ·by_cases b2:(57:Int)<((mag s)[i].toNat:Int)
    ·right;refine⟨1,[.i 3],?_,.inr ⟨fun h=>?_,rfl,rfl⟩⟩
     ·simp only[STD,a1,a2,hs,b1,b2,and_self]
     ·have:=(qje h hlt).2;omega
    ·left;refine⟨k-1,[.s (mag s),.i ((i+1:Nat):Int)],by omega,?_,i+1,rfl,by omega,?_⟩
     ·simp only[STD,a1,a2,hs,b1,b2,and_self,hw]
     ·rw[List.take_succ_eq_append_getElem hlt];exact q8J.2 ⟨hd,fun c hc=>by simp at hc;subst hc;omega⟩
  ·right;have a1:¬((i:Int)<qD (mag s)):=by unfold qD;omega
   refine⟨0,[.s (mag s)],?_,.inl ⟨?_,rfl,rfl⟩⟩
   ·simp only[STD,a1]
   ·rwa [qNN (by omega)] at hd) (ps:=[.s (mag s),.i 0]) ⟨0,rfl,by omega,by simpa using qmj⟩
 have hcan:=qwW s;unfold qyk;by_cases hne:mag s=[]
 ·rw[if_neg (fun h=>(hcan.1 h).1 hne)];simp only[STD,hsz,zr,hne]
 ·have hp:0<(mag s).length:=qN5.2 hne;have a1:(0:Int)<qD (mag s):=by unfold qD;omega
  have hs:sat (mag s) 0=((mag s)[0].toNat:Int):=qlp (i:=0) hp;have h48:((mag s)[0].toNat:Int)=48↔(mag s).getD 0 0=48:=by
   have:(mag s).getD 0 0=(mag s)[0]:=by simp[hp]
   rw[this];exact⟨fun h=>qNk.1 (by show (mag s)[0].toNat=48;omega),fun h=>by rw[h];rfl⟩
  have hl1:(1<qD s)=(1<s.length):=by unfold qD;simp only[eq_iff_iff];omega
  have hl2:(1<qD (mag s))=(1<(mag s).length):=by unfold qD;simp only[eq_iff_iff];omega
  have hl3:(1024<qD (mag s))=¬((mag s).length<=1024):=by unfold qD;simp only[eq_iff_iff];omega
  by_cases hz:((mag s)[0].toNat:Int)=48
  ·by_cases hs1:1<s.length
   ·rw[if_neg (fun h=>by have:=(hcan.1 h).2.2 (h48.1 hz);omega)];by_cases hs2:1<(mag s).length
    ·simp only[STD,hsz,zr,hne,a1,hs,hz,hl1,hl2,hs1,hs2,qM3,and_self]
    ·simp only[STD,hsz,zr,hne,a1,hs,hz,hl1,hl2,hs1,hs2,qM3,and_self]
   ·have hs2:¬1<(mag s).length:=by omega
    rcases h2 with⟨hd,rfl,rfl⟩|⟨hd,rfl,rfl⟩
    ·rw[if_pos (hcan.2 ⟨hne,hd,fun _=>by omega⟩)];simp only[STD,hsz,zr,hne,a1,hs,hz,hl1,hl2,hl3,hs1,hs2,qM3,and_self,h1,zU h1];split<;>simp_all
    ·rw[if_neg (fun h=>hd (hcan.1 h).2.1)];simp only[STD,hsz,zr,hne,a1,hs,hz,hl1,hl2,hs1,hs2,qM3,and_self,h1,zU h1,show ¬(1=0) by omega]
  ·rcases h2 with⟨hd,rfl,rfl⟩|⟨hd,rfl,rfl⟩
   ·rw[if_pos (hcan.2 ⟨hne,hd,fun h=>absurd (h48.2 h) hz⟩)];simp only[STD,hsz,zr,hne,a1,hs,hz,hl1,hl2,hl3,qM3,and_self,h1,zU h1];split<;>simp_all
   ·rw[if_neg (fun h=>hd (hcan.1 h).2.1)];simp only[STD,hsz,zr,hne,a1,hs,hz,hl1,hl2,qM3,and_self,h1,zU h1,show ¬(1=0) by omega]
end Go.Eng

namespace Go.Eng
variable {q:Rat}
def tQ(q:Rat):List UInt8:=if q.den=1 then tI q.num else tI q.num++47::tN q.den
def dl(n:Nat):Nat:=(tN n).length
def qn(q:Rat):Nat:=nl q.num
def qd(q:Rat):Nat:=dl q.den
theorem qCx {s:qLv}(h:q6p s):∀c,c∈s->c≠47:=fun c hc e=>by have:=h c hc;rw[e] at this;revert this;decide
theorem qt4 (m:Int):∀c,c∈tI m->c≠47:=by
 intro c hc;unfold tI at hc;split at hc
 ·rcases qLQ.1 hc with rfl|hc
  ·decide
  ·exact qCx (wF _) c hc
 ·exact qCx (wF _) c hc
theorem qB4:∀{s s' t t':qLv},(∀c,c∈s->c≠47)->(∀c,c∈s'->c≠47)->s++47::t=s'++47::t'->s=s'/\t=t'
 | [],[],t,t',_,_,h=>⟨rfl,by simpa using h⟩
 | [],c::s',t,t',_,h2,h=>by
  simp only[qMO,qMX,qMN] at h;exact absurd h.1.symm (h2 c qLS)
 | c::s,[],t,t',h1,_,h=>by
  simp only[qMO,qMX,qMN] at h;exact absurd h.1 (h1 c qLS)
 | c::s,c'::s',t,t',h1,h2,h=>by
  simp only[qMX,qMN] at h;obtain⟨e1,e2⟩:=qB4 (fun c hc=>h1 c (qLW _ hc)) (fun c hc=>h2 c (qLW _ hc)) h.2;exact⟨by rw[h.1,e1],e2⟩
theorem qir (h:q.den=1):tQ q=tI q.num:=by unfold tQ;rw[if_pos h]
theorem qei (h:q.den≠1):tQ q=tI q.num++47::tN q.den:=by unfold tQ;rw[if_neg h]
theorem qJp {a b:Rat}(h:tQ a=tQ b):a=b:=by
 by_cases ha:a.den=1<;>by_cases hb:b.den=1
 ·rw[qir ha,qir hb] at h;exact Rat.ext (qxm h) (ha.trans hb.symm)
 ·rw[qir ha,qei hb] at h;exact absurd rfl (qt4 a.num 47 (by rw[h];simp))
 ·rw[qei ha,qir hb] at h;exact absurd rfl (qt4 b.num 47 (by rw[<-h];simp))
 ·rw[qei ha,qei hb] at h;obtain⟨e1,e2⟩:=qB4 (qt4 _) (qt4 _) h;exact Rat.ext (qxm e1) (qun e2)
theorem qCg (a b:Rat):(tQ a=tQ b)=(a=b):=propext ⟨qJp,fun h=>by rw[h]⟩
theorem qF4 (m:Int):tQ (m:Rat)=tI m:=qir (by simp)
theorem qoI {m n:Int}(h:m.natAbs<=n.natAbs):nl m<=nl n:=q05 h
theorem qHW {m n:Nat}(h:m<=n):dl m<=dl n:=q05 h
theorem qks (n:Nat):nl (n:Int)=dl n:=rfl
theorem qDA (m n:Nat):dl (m*n)<=dl m+dl n:=qrx m n
theorem qAg (m n:Int):nl (m-n)<=max (nl m) (nl n)+1:=by
 rw[Int.sub_eq_add_neg];have:=qy4 m (-n)
 rwa [qqN] at this
theorem qj3 (N:Int)(D:Nat):nl (mkRat N D).num<=nl N/\dl (mkRat N D).den<=dl D:=by
 rw[Rat.num_mkRat,Rat.den_mkRat];by_cases h:D=0
 ·rw[if_pos h,if_pos h,h];exact⟨qoI (by simp),by decide⟩
 ·rw[if_neg h,if_neg h];exact⟨qoI (qND _ _),qHW (qNv _ _)⟩
theorem qHq (a b:Rat):qn (a*b)<=qn a+qn b:=by unfold qn;rw[Rat.mul_def'];exact qLA (qj3 _ _).1 (q0G _ _)
theorem qH2 (a b:Rat):qd (a*b)<=qd a+qd b:=by unfold qd;rw[Rat.mul_def'];exact qLA (qj3 _ _).2 (qDA _ _)
theorem qJU (a b:Rat):qn (a+b)<=max (qn a+qd b) (qn b+qd a)+1:=by unfold qn qd;rw[Rat.add_def'];have h1:=(qj3 (a.num*b.den+b.num*a.den) (a.den*b.den)).1;have h2:=qy4 (a.num*b.den) (b.num*a.den);have h3:=q0G a.num b.den;have h4:=q0G b.num a.den;rw[qks] at h3 h4;omega
theorem qKg (a b:Rat):qd (a+b)<=qd a+qd b:=by unfold qd;rw[Rat.add_def'];exact qLA (qj3 _ _).2 (qDA _ _)
theorem qJX (a b:Rat):qn (a-b)<=max (qn a+qd b) (qn b+qd a)+1:=by unfold qn qd;rw[Rat.sub_def'];have h1:=(qj3 (a.num*b.den-b.num*a.den) (a.den*b.den)).1;have h2:=qAg (a.num*b.den) (b.num*a.den);have h3:=q0G a.num b.den;have h4:=q0G b.num a.den;rw[qks] at h3 h4;omega
theorem qKi (a b:Rat):qd (a-b)<=qd a+qd b:=by unfold qd;rw[Rat.sub_def'];exact qLA (qj3 _ _).2 (qDA _ _)
theorem qJR (a:Rat):qn (-a)=qn a:=by unfold qn;rw[Rat.neg_num,qqN]
theorem qu9 (a:Rat):0<qn a:=qrM _
theorem qug (a:Rat):0<qd a:=qkm _
theorem qK0 {a:Rat}(h:a≠0):qn a⁻¹<=qd a:=by unfold qn qd;rw[Rat.num_inv,<-qks];apply qoI;rw[qMK,qNV (by rwa [Ne,Rat.num_eq_zero])];simp
theorem qKz {a:Rat}(h:a≠0):qd a⁻¹<=qn a:=by unfold qn qd;rw[Rat.den_inv,if_neg (by rwa [Rat.num_eq_zero])];exact qLy _
theorem qJl (a:Rat){b:Rat}(h:b≠0):qn (a/b)<=qn a+qd b:=by rw[Rat.div_def];exact qLA (qHq _ _) (Nat.add_le_add_left (qK0 h) _)
theorem qJD (a:Rat){b:Rat}(h:b≠0):qd (a/b)<=qd a+qn b:=by rw[Rat.div_def];exact qLA (qH2 _ _) (Nat.add_le_add_left (qKz h) _)
def sgq(q:Rat):Int:=sgn q.num
theorem qI5 (m:Int):sgn (-m)=-sgn m:=by
 unfold sgn;rcases qN6 m 0 with h|h|h
 ·rw[if_pos h,if_neg (by omega),if_neg (by omega)];rfl
 ·subst h;rfl
 ·rw[if_pos (by omega),if_neg (by omega),if_neg (by omega)]
theorem qzh (h:0<q):sgq q=1:=by
 unfold sgq sgn;have h1:0<=q.num:=Rat.num_nonneg.2 (Rat.le_of_lt h);have h2:q.num≠0:=fun e=>by rw[Rat.num_eq_zero] at e;rw[e] at h;exact Rat.lt_irrefl h
 rw[if_neg (by omega),if_neg h2]
theorem qIh (q:Rat):sgq (-q)=-sgq q:=by unfold sgq;rw[Rat.neg_num,qI5]
theorem qHe (h:q<0):sgq q=-1:=by
 have h1:0 < -q:=by grind
 have:=qzh h1;rw[qIh] at this;omega
theorem qy6 (q:Rat):(q<0/\sgq q=-1)\/(q=0/\sgq q=0)\/(0<q/\sgq q=1):=by
 by_cases h1:q<0
 ·exact .inl ⟨h1,qHe h1⟩
 ·by_cases h2:q=0
  ·exact .inr (.inl ⟨h2,by rw[h2];rfl⟩)
  ·exact .inr (.inr ⟨by grind,qzh (by grind)⟩)
theorem qEb (N:Int){D:Nat}(h:D≠0):sgq (mkRat N D)=sgn N:=by
 have hp:(0:Rat)<(D:Rat):=by
  have:0<D:=by omega
  exact Rat.natCast_pos.2 this
 have e:(mkRat N D)*(D:Rat)=(N:Rat):=by rw[Rat.mkRat_eq_div];exact Rat.div_mul_cancel (by grind)
 have h2:sgn N=sgq (N:Rat):=by unfold sgq;simp
 rw[h2,<-e];rcases qy6 (mkRat N D) with⟨h,e⟩|⟨h,e⟩|⟨h,e⟩
 ·rw[e,qHe];exact(Rat.mul_neg_iff_of_pos_right hp).2 h
 ·rw[e,h,Rat.zero_mul];rfl
 ·rw[e,qzh];exact qNo h hp
theorem qIn (a b:Rat):sgq (a-b)=sgn (a.num*b.den-b.num*a.den):=by rw[Rat.sub_def',qEb];exact Nat.mul_ne_zero a.den_nz b.den_nz
end Go.Eng

namespace Go.Eng
def sP(s:qLv):Nat:=s.findIdx (·==47)
def spn(s:qLv):List UInt8:=s.take (sP s)
def spd(s:qLv):List UInt8:=if sP s<s.length then s.drop (sP s+1) else [49]
theorem qI9(s:qLv):sP s<=s.length:=List.findIdx_le_length
theorem qI3{s:qLv}{i:Nat}(h:i<s.length)(h1:s[i]=47)(h2:∀j (hj:j<i),s[j]≠47):sP s=i:=by unfold sP;rw[List.findIdx_eq h];exact⟨by simp[h1],fun j hj=>by simp[h2 j hj]⟩
theorem qwk{s:qLv}(h:∀c,c∈s->c≠47):sP s=s.length:=by unfold sP;rw[List.findIdx_eq_length];intro x hx;simpa using h x hx
theorem qDq{s t:qLv}(h:∀c,c∈s->c≠47):sP (s++47::t)=s.length:=by
 apply qI3 (by simp)
 ·simp
 ·intro j hj;rw[List.getElem_append_left hj];exact h _ (qM6 hj)
theorem qDm(q:Rat):spn (tQ q)=tI q.num:=by
 unfold spn;by_cases h:q.den=1
 ·rw[qir h,qwk (qt4 _),qMz]
 ·rw[qei h,qDq (qt4 _)];simp
theorem qDj(q:Rat):spd (tQ q)=tN q.den:=by
 unfold spd;by_cases h:q.den=1
 ·rw[qir h,qwk (qt4 _),if_neg (Nat.lt_irrefl _),h];rfl
 ·rw[qei h,qDq (qt4 _),if_pos (by simp)];simp
theorem qDO(s:qLv)(hl:s.length<=9223372036854775807):(q1Z [.s s]).run=some (0,[.i (if sP s<s.length then (sP s:Int) else -1)]):=by
 rw[qtg];obtain⟨j,qs,h1,h2⟩:=yd (S:=q3i) (fun k ps=>∃i:Nat,ps=[.s s,.i (i:Int)]/\i+k=s.length/\∀j (hj:j<i) (hj2:j<s.length),s[j]≠47)
  (fun j qs=>(¬sP s<s.length/\j=0/\qs=[])\/(sP s<s.length/\j=1/\qs=[.i (sP s:Int)])) (n:=s.length) (by omega) (fun k ps hk ⟨i,hps,hi,hd⟩=>by
  subst hps;rw[qpX];by_cases hlt:i<s.length
  ·have a1:(i:Int)<qD s:=by unfold qD;omega
   have a2:(0:Int)<=(i:Int):=by omega
   have hs:=qlp hlt;have hw:qE .i64 (i:Int) 1=((i+1:Nat):Int):=by rw[zp (by omega)];omega
   by_cases b1:s[i]=47
   ·right;have e:=qI3 hlt b1 (fun j hj=>hd j hj (by omega));have b2:(s[i].toNat:Int)=47:=by rw[b1];rfl
    refine⟨1,[.i (i:Int)],?_,.inr ⟨by rw[e];exact hlt,rfl,by rw[e]⟩⟩;simp only[STD,a1,a2,hs,b2,and_self]
   ·left;have b2:¬(s[i].toNat:Int)=47:=fun h=>b1 (qNk.1 (by show s[i].toNat=47;omega));refine⟨k-1,[.s s,.i ((i+1:Nat):Int)],by omega,?_,i+1,rfl,by omega,?_⟩
    ·simp only[STD,a1,a2,hs,b2,and_self,hw]
    ·intro j hj hj2;rcases qLF j i with h|h
     ·exact hd j h hj2
     ·obtain rfl:j=i:=by omega
      exact b1
  ·right;have a1:¬((i:Int)<qD s):=by unfold qD;omega
   refine⟨0,[],?_,.inl ⟨?_,rfl,rfl⟩⟩
   ·simp only[STD,a1]
   ·rw[qwk]
    ·omega
    ·intro c hc;obtain⟨j,hj,rfl⟩:=qNf.1 hc;exact hd j (by omega) hj) (ps:=[.s s,.i 0]) ⟨0,rfl,by omega,fun j hj=>by omega⟩
 rcases h2 with⟨h2,rfl,rfl⟩|⟨h2,rfl,rfl⟩
 ·rw[if_neg h2];simp only[STD,h1,zU h1]
 ·rw[if_pos h2];simp only[STD,h1,zU h1,show ¬(1=0) by omega]
theorem qDt(s:qLv)(hl:s.length<=9223372036854775807):(ul [.s s]).run=some (0,[.s (spn s),.s (spd s)]):=by
 rw[qtj];have hs:=qDO s hl;have hle:=qI9 s;unfold spd spn;by_cases h:sP s<s.length
 ·rw[if_pos h] at hs ⊢;have a1:¬((sP s:Int)<0):=by omega
  have a2:(sP s:Int)<=qD s:=by unfold qD;omega
  have hw:qE .i64 (sP s:Int) 1=((sP s+1:Nat):Int):=by rw[zp (by omega)];omega
  have a3:((sP s+1:Nat):Int)<=qD s:=by unfold qD;omega
  have e1:qcW s 0 (sP s:Int)=s.take (sP s):=by simp[qcW]
  have e2:qcW s ((sP s+1:Nat):Int) (qD s)=s.drop (sP s+1):=by unfold qcW qD;simp only[qLG,qMz]
  simp only[STD,hs,a1,a2,hw,a3,e1,e2,show (0:Int)<=(sP s:Int) by omega,show (0:Int)<=((sP s+1:Nat):Int) by omega,show (0:Int)<=qD s by unfold qD;omega,qM3,and_self]
 ·rw[if_neg h] at hs ⊢;have e:s.take (sP s)=s:=qNN (by omega);rw[e];simp only[STD,hs,show (-1:Int)<0 by omega]
theorem qHk(q:Rat):(tQ q).length<=qn q+qd q+2:=by
 have h1:=qwK q.num;unfold qn qd nl dl;by_cases h:q.den=1
 ·rw[qir h];omega
 ·rw[qei h];simp;omega
theorem qAf(q:Rat)(hn:qn q<=400000)(hd:qd q<=400000):(ul [.s (tQ q)]).run=some (0,[.s (tI q.num),.s (tI (q.den:Int))]):=by have:=qHk q;rw[qDt _ (by omega),qDm,qDj,q28]
theorem qnf(a b:Rat)(ha:qn a<=400000)(ha':qd a<=400000)(hb:qn b<=400000)(hb':qd b<=400000) :(wG [.s (tQ a),.s (tQ b)]).run=some (0,[.r [[.s (tI (a.num*b.den))],[.s (tI (b.num*a.den))],[.s (tI (a.den*b.den))],[.s (tI (a.num*b.num))],[.s (tI (a.den*b.num))]]]):=by rw[qpz];have t:=fun (m n:Int) (h1:nl m<=400000) (h2:nl n<=400000)=>qmE m n (by omega) (by omega);simp only[STD,qAf a ha ha',qAf b hb hb',t a.num b.den ha hb',t b.num a.den hb ha',t a.den b.den ha' hb',t a.num b.num ha hb,t a.den b.num ha' hb]
theorem q6n(n:Nat):(tN n=[49])=(n=1):=by have:tN 1=[49]:=rfl;rw[<-this];exact propext ⟨fun h=>qun h,fun h=>by rw[h]⟩
theorem quN(m n:Int)(hn:n≠0)(hm':nl m<=400000)(hn':nl n<=400000):(yj [.s (tI m),.s (tI n)]).run=some (0,[.s (tQ (Rat.divInt m n))]):=by
 rw[qs6];have hS:=qjP m n hm' hn';have hg0:0<Nat.gcd m.natAbs n.natAbs:=Nat.gcd_pos_of_pos_right _ (by omega);have hgn:Nat.gcd m.natAbs n.natAbs<=n.natAbs:=Nat.gcd_le_right _ (by omega);have hgl:(tN (Nat.gcd m.natAbs n.natAbs)).length<=400000:=qLA (q05 hgn) hn';have hnum:=Rat.num_divInt m n;have hden:=Rat.den_divInt m n;rw[if_neg hn] at hden;have hgc:Int.gcd n m=Nat.gcd m.natAbs n.natAbs:=by unfold Int.gcd;exact qN2 _ _
 rw[hgc] at hnum hden;obtain⟨k,hk⟩:((Nat.gcd m.natAbs n.natAbs:Nat):Int) ∣ m:=Int.ofNat_dvd_left.2 (Nat.gcd_dvd_left _ _);obtain⟨l,hl⟩:((Nat.gcd m.natAbs n.natAbs:Nat):Int) ∣ n:=Int.ofNat_dvd_left.2 (Nat.gcd_dvd_right _ _);generalize Nat.gcd m.natAbs n.natAbs=g at *;generalize Rat.divInt m n=q at *;have hB:=jc n;have hm2:k*(g:Int)=m:=by rw[qME];exact hk.symm
 have hn2:l*(g:Int)=n:=by rw[qME];exact hl.symm
 have hql:nl q.num<=400000:=by refine qLA (qoI ?_) hm';rw[hnum];refine qLA (qND _ _) ?_;rw[qMK,qNV hn];omega
 have hdl:(tN q.den).length<=400000:=by refine qLA (q05 ?_) hn';rw[hden];exact qNv _ _
 have hil:=qwK q.num;have hil2:(tN q.num.natAbs).length<=400000:=hql;have fin:(Tree.br (seq (tI (q.den:Int)) [49]) (Tree.leaf (0,[PV.s (tI q.num)])) (Tree.br (ile (qD (tI q.num)+qD [47]) 140737488355328) (Tree.br (ile (qD (qfl (tI q.num) [47])+qD (tI (q.den:Int))) 140737488355328)
   (Tree.leaf (0,[PV.s (qfl (qfl (tI q.num) [47]) (tI (q.den:Int)))])) Tree.fail) Tree.fail)).run=some (0,[PV.s (tQ q)]):=by
  rw[q28];have a1:qD (tI q.num)+qD [47]<=140737488355328:=by unfold qD;simp;omega
  have a2:qD (qfl (tI q.num) [47])+qD (tN q.den)<=140737488355328:=by unfold qD qfl;simp;omega
  by_cases h1:q.den=1
  ·simp only[STD,zr,q6n,h1,qir h1]
  ·simp only[STD,zr,q6n,h1,qei h1,a1,a2];simp[qfl]
 by_cases hneg:n<0
 ·have hT:=qee (g:Int) (by simp only[Int.natAbs_natCast];omega);rw[q28] at hT;have e1:fq m (-(g:Int))=q.num:=by have:fq ((-k)*(-(g:Int))) (-(g:Int))=-k:=qqm (by omega);rw[show (-k)*(-(g:Int))=m by rw[qNE];exact hm2] at this;rw[this,hnum,Int.sign_eq_neg_one_of_neg hneg,<-hm2];rw[show (-1:Int)*(k*(g:Int))=(-k)*(g:Int) by rw[Int.neg_mul,qMR,Int.neg_mul]];exact(qNl _ (by omega)).symm
  have e2:fq n (-(g:Int))=(q.den:Int):=by
   have:fq ((-l)*(-(g:Int))) (-(g:Int))=-l:=qqm (by omega);rw[show (-l)*(-(g:Int))=n by rw[qNE];exact hn2] at this;rw[this,hden];have h3:(n.natAbs:Int)=(-l)*(g:Int):=by rw[Int.neg_mul];omega
   rw[Int.natCast_ediv,h3,qNl _ (by omega)]
  have P1:=q5g m (-(g:Int)) (by omega) hm' (by rw[qqN];exact hgl);have P2:=q5g n (-(g:Int)) (by omega) hn' (by rw[qqN];exact hgl);rw[e1] at P1;rw[e2] at P2;simp only[STD,hS,hB,hneg,hT,P1,P2] at fin ⊢;exact fin
 ·have e1:fq m (g:Int)=q.num:=by have:fq (k*(g:Int)) (g:Int)=k:=qqm (by omega);rw[hm2] at this;rw[this,hnum,Int.sign_eq_one_of_pos (by omega),qMR,<-hm2];exact(qNl _ (by omega)).symm
  have e2:fq n (g:Int)=(q.den:Int):=by
   have:fq (l*(g:Int)) (g:Int)=l:=qqm (by omega);rw[hn2] at this;rw[this,hden];have h3:(n.natAbs:Int)=l*(g:Int):=by omega
   rw[Int.natCast_ediv,h3,qNl _ (by omega)]
  have P1:=q5g m (g:Int) (by omega) hm' hgl;have P2:=q5g n (g:Int) (by omega) hn' hgl;rw[e1,q28] at P1;rw[e2,q28] at P2;simp only[STD,hS,hB,hneg,P1,P2] at fin ⊢;rw[q28] at fin;exact fin
def sm(K:Nat)(q:Rat):Prop:=qn q<=K/\qd q<=K
theorem qGH(a:Rat):(0:Int)<(a.den:Int):=by have:=a.den_nz;omega
theorem qie{a b:Rat}(ha:sm 100000 a)(hb:sm 100000 b):(q3t [.s (tQ a),.s (tQ b)]).run=some (0,[.s (tQ (a+b))]):=by
 rw[qve];obtain⟨h1,h2⟩:=ha;obtain⟨h3,h4⟩:=hb;have hc:=qnf a b (by omega) (by omega) (by omega) (by omega);simp only[qn,qd] at h1 h2 h3 h4;have l1:=q0G a.num b.den;have l2:=q0G b.num a.den;have l3:=q0G a.den b.den;rw[qks] at l1 l2 l3;rw[qks] at l3;have l4:=qy4 (a.num*b.den) (b.num*a.den);have hP:=qpr (a.num*b.den) (b.num*a.den) (by omega) (by omega);have hL:=quN (a.num*b.den+b.num*a.den) (a.den*b.den) (by have:=Int.mul_pos (qGH a) (qGH b);omega) (by omega) (by omega);have e:Rat.divInt (a.num*b.den+b.num*a.den) ((a.den:Int)*(b.den:Int))=a+b:=by rw[Rat.add_def',<-Rat.divInt_ofNat];simp
 rw[e] at hL;simp only[STD,hc,cS,we,qh,qM0,qMh,Int.toNat_zero,qN0,U.toS,show (1:Int).toNat=1 from rfl,show (2:Int).toNat=2 from rfl,List.getD_cons_succ,hP,hL];simp[]
theorem qfG{a b:Rat}(ha:sm 100000 a)(hb:sm 100000 b):(q1Y [.s (tQ a),.s (tQ b)]).run=some (0,[.s (tQ (a-b))]):=by
 rw[qtb];obtain⟨h1,h2⟩:=ha;obtain⟨h3,h4⟩:=hb;have hc:=qnf a b (by omega) (by omega) (by omega) (by omega);simp only[qn,qd] at h1 h2 h3 h4;have l1:=q0G a.num b.den;have l2:=q0G b.num a.den;have l3:=q0G a.den b.den;rw[qks] at l1 l2 l3;rw[qks] at l3;have l4:=qAg (a.num*b.den) (b.num*a.den);have hP:=qaB (a.num*b.den) (b.num*a.den) (by omega) (by omega);have hL:=quN (a.num*b.den-b.num*a.den) (a.den*b.den) (by have:=Int.mul_pos (qGH a) (qGH b);omega) (by omega) (by omega);have e:Rat.divInt (a.num*b.den-b.num*a.den) ((a.den:Int)*(b.den:Int))=a-b:=by rw[Rat.sub_def',<-Rat.divInt_ofNat];simp
 rw[e] at hL;simp only[STD,hc,cS,we,qh,qM0,qMh,Int.toNat_zero,qN0,U.toS,show (1:Int).toNat=1 from rfl,show (2:Int).toNat=2 from rfl,List.getD_cons_succ,hP,hL];simp[]
theorem qgp{a b:Rat}(ha:sm 100000 a)(hb:sm 100000 b):(q1T [.s (tQ a),.s (tQ b)]).run=some (0,[.s (tQ (a*b))]):=by
 rw[qsI];obtain⟨h1,h2⟩:=ha;obtain⟨h3,h4⟩:=hb;have hc:=qnf a b (by omega) (by omega) (by omega) (by omega);simp only[qn,qd] at h1 h2 h3 h4;have l1:=q0G a.num b.num;have l3:=q0G a.den b.den;rw[qks,qks] at l3;have hL:=quN (a.num*b.num) (a.den*b.den) (by have:=Int.mul_pos (qGH a) (qGH b);omega) (by omega) (by omega);have e:Rat.divInt (a.num*b.num) ((a.den:Int)*(b.den:Int))=a*b:=by rw[Rat.mul_def',<-Rat.divInt_ofNat];simp
 rw[e] at hL;simp only[STD,hc,cS,we,qh,qM0,qMh,U.toS,show (3:Int).toNat=3 from rfl,show (2:Int).toNat=2 from rfl,List.getD_cons_succ,qN0,hL];simp[]
theorem qmq{a b:Rat}(ha:sm 100000 a)(hb:sm 100000 b):(q43 [.s (tQ a),.s (tQ b)]).run=some (0,[.i (sgq (a-b))]):=by rw[qsU];obtain⟨h1,h2⟩:=ha;obtain⟨h3,h4⟩:=hb;have hc:=qnf a b (by omega) (by omega) (by omega) (by omega);simp only[qn,qd] at h1 h2 h3 h4;have l1:=q0G a.num b.den;have l2:=q0G b.num a.den;rw[qks] at l1 l2;have hP:=qn8 (a.num*b.den) (b.num*a.den) (by omega) (by omega);rw[<-qIn] at hP;simp only[STD,hc,cS,we,qh,qM0,qMh,U.toS,Int.toNat_zero,show (1:Int).toNat=1 from rfl,List.getD_cons_succ,qN0,hP];simp[]
variable {n:Nat}
def mv:List Int->Int
 | []=>0
 | x::l=>x+1000000000*mv l
def pB(n:Nat):Int:=1000000000^n
theorem q7u:pB 0=1:=rfl
theorem qby (n:Nat):pB (n+1)=pB n*1000000000:=Int.pow_succ _ _
theorem qcR:∀n,0<pB n
 | 0=>by decide
 | n+1=>by rw[qby];have:=qcR n;omega
theorem qJF (m n:Nat):pB (m+n)=pB m*pB n:=Int.pow_add _ _ _
theorem qer {m n:Nat}(h:m<=n):pB m<=pB n:=by
 obtain⟨k,rfl⟩:∃k,n=m+k:=⟨n-m,by omega⟩;induction k with
 | zero=>simp
 | succ k ih=>
  have h1:=ih (by omega);rw[show m+(k+1)=(m+k)+1 by omega,qby];have:=qcR (m+k);omega
def dgs(l:List Int):Prop:=∀x,x∈l->0<=x/\x<1000000000
theorem qAy:∀(l:List Int) (j:Nat) (h:j<l.length) (y:Int),mv (l.set j y)=mv l+(y-l[j])*pB j
 | [],j,h,_=>by simp at h
 | x::l,0,_,y=>by simp only[qLK,mv,List.getElem_cons_zero,q7u];omega
 | x::l,j+1,h,y=>by
  have ih:=qAy l j (by simpa using h) y;simp only[qLP,mv,List.getElem_cons_succ,qby];rw[ih];grind
theorem qB8:∀(l:List Int) (n:Nat),dgs l->(∀i,n<=i->l.getD i 0=0)->0<=mv l/\mv l<pB n
 | [],n,_,_=>⟨qM3 _,qcR n⟩
 | x::l,0,hd,hz=>by
  have ih:=qB8 l 0 (fun y hy=>hd y (qLW _ hy)) (fun i _=>by have:=hz (i+1) (by omega);simpa using this);have hx:x=0:=by simpa using hz 0 (by omega)
  rw[q7u] at ih ⊢;simp only[mv];omega
 | x::l,n+1,hd,hz=>by
  have ih:=qB8 l n (fun y hy=>hd y (qLW _ hy)) (fun i hi=>by have:=hz (i+1) (by omega);simpa using this);have hx:=hd x qLS;rw[qby];simp only[mv];generalize pB n=p at *;omega
theorem qJ8:∀(l:List Int) (j:Nat) (h:j<l.length),dgs l->l[j]≠0->pB j<=mv l
 | [],j,h,_,_=>by simp at h
 | x::l,0,_,hd,hx=>by
  have h1:=hd x qLS;have h2:=(qB8 l l.length (fun y hy=>hd y (qLW _ hy)) (fun i hi=>by simp[hi])).1;simp only[List.getElem_cons_zero] at hx;simp only[mv,q7u];omega
 | x::l,j+1,h,hd,hx=>by
  have ih:=qJ8 l j (by simpa using h) (fun y hy=>hd y (qLW _ hy)) (by simpa using hx);have h1:=hd x qLS;rw[qby];simp only[mv];omega
theorem qA6:∀(s t:List Int),mv (s++t)=mv s+pB s.length*mv t
 | [],t=>by simp[mv,q7u]
 | x::s,t=>by
  simp only[qMX,mv,qM0,qby];rw[qA6 s t];grind
theorem qgw (n:Nat):mv (List.replicate n 0)=0:=by
 induction n with
 | zero=>rfl
 | succ n ih=>simp[qMV,mv,ih]
theorem qeb {l:List Int}{i:Nat}(h:i<l.length):mv (l.drop i)=l[i]+1000000000*mv (l.drop (i+1)):=by rw[List.drop_eq_getElem_cons h];rfl
theorem vW {l:List Int}{n i:Nat}(hd:dgs l)(hz:∀i,n<=i->l.getD i 0=0)(hi:n<=i):mv (l.drop i)=0:=by have:=qB8 (l.drop i) 0 (fun x hx=>hd x (qNK hx)) (fun j _=>by have:=hz (i+j) (by omega);simpa[qLw] using this);rw[q7u] at this;omega
structure WOK (n:Nat) (l:List Int):Prop where
 len:l.length=232
 le:n<=232
 dig:dgs l
 z:∀i,n<=i->l.getD i 0=0
def nrm(n:Nat)(l:List Int):Prop:=n=0\/l.getD (n-1) 0≠0
theorem WOK.bd {l:List Int}(h:WOK n l):0<=mv l/\mv l<pB n:=qB8 l n h.dig h.z
theorem WOK.lo {l:List Int}(h:WOK n l)(hn:nrm n l)(h0:n≠0):pB (n-1)<=mv l:=by
 have h1:=h.le;have h2:=h.len;rcases hn with hn|hn
 ·exact absurd hn h0
 ·refine qJ8 l (n-1) (by omega) h.dig ?_
  rwa [yh (by omega)] at hn
theorem qxq (N i:Nat):(List.replicate N (0:Int)).getD i 0=0:=by rw[qLw,List.getElem?_replicate];split<;>rfl
theorem qCF (N:Nat):dgs (List.replicate N 0):=fun x hx=>by have:=(qNM.1 hx).2;omega
theorem WOK.zero:WOK 0 (List.replicate 232 0):=⟨List.length_replicate,by omega,qCF 232,fun i _=>qxq 232 i⟩
theorem WOK.get {l:List Int}(h:WOK n l)(i:Nat):0<=l.getD i 0/\l.getD i 0<1000000000:=by
 rcases qLF i l.length with hi|hi
 ·rw[yh hi];exact h.dig _ (qM6 hi)
 ·simp[hi]
theorem WOK.setW {l:List Int}(h:WOK n l){j:Nat}{y:Int}(hj:j<232)(hy:0<=y/\y<1000000000):WOK (max n (j+1)) (l.set j y):=by
 have h1:=h.le;refine⟨by simp[h.len],by omega,fun x hx=>?_,fun i hi=>?_⟩
 ·rcases qNS hx with hx|rfl
  ·exact h.dig x hx
  ·exact hy
 ·have:=h.z i (by omega);rw[qLw,qLz (by omega),<-qLw];exact this
theorem q6c (l:List Int)(i:Nat):cI (rI l) (i:Int) 0=l.getD i 0:=by rw[qzF,qLG]
theorem qkH (l:List Int)(i:Nat)(v:Int):qhx (rI l) (i:Int) 0 [.i v]=rI (l.set i v):=by rw[qxL,qLG]
theorem qn5 {l:List Int}(h:WOK n l)(b:Bool):∃m,(zl [.b b,.i (n:Int),.r (rI l)]).run=some (0,[.b b,.i ((m:Nat):Int),.r (rI l)])/\WOK m l/\nrm m l:=by
 rw[qhU];have h232:=h.le;obtain⟨j,qs,h1,rfl,m,rfl,h3,h4⟩:=yd (S:=jL) (fun k ps=>ps=[.b b,.i (k:Int),.r (rI l)]/\WOK k l)
  (fun j qs=>j=0/\∃m:Nat,qs=[.b b,.i (m:Int),.r (rI l)]/\WOK m l/\nrm m l) (n:=n) (by omega) (fun k ps hk ⟨hps,hw⟩=>by
  subst hps;rw[qfX];have hk2:=hw.le;by_cases h0:k=0
  ·right;refine⟨0,_,?_,rfl,k,rfl,hw,.inl h0⟩;simp only[STD,h0];rfl
  ·have hs:vN .i64 (k:Int) 1=((k-1:Nat):Int):=by rw[wo (by omega)];omega
   have a1:(0:Int)<(k:Int):=by omega
   have a2:(0:Int)<=((k-1:Nat):Int)/\((k-1:Nat):Int)<232:=by omega
   by_cases hz:l.getD (k-1) 0=0
   ·left;refine⟨k-1,[.b b,.i ((k-1:Nat):Int),.r (rI l)],by omega,?_,rfl,hw.len,by omega,hw.dig,fun i hi=>?_⟩
    ·simp only[STD,a1,hs,a2,q6c,hz,and_self]
    ·rcases qNa hi with e|e
     ·rw[<-e];exact hz
     ·exact hw.z i (by omega)
   ·right;refine⟨0,[.b b,.i (k:Int),.r (rI l)],?_,rfl,k,rfl,hw,.inr hz⟩;simp only[STD,a1,hs,a2,q6c,hz,and_self]) (ps:=[.b b,.i (n:Int),.r (rI l)]) ⟨rfl,h⟩
 exact⟨m,by simp only[STD,h1],h3,h4⟩
theorem qK6 (s:Int):∃q r:Int,s.tdiv 1000000000=q/\s=q*1000000000+r/\(0<=s->0<=r)/\(s<=0->r<=0)/\-1000000000<r/\r<1000000000:=by obtain⟨h1,h2,h3,h4⟩:=qon s (show (1000000000:Int)≠0 by decide);refine⟨_,qcL s 1000000000,rfl,by omega,h3,h4,by omega,by omega⟩
theorem qBW {f up rest:Int}{i n j:Nat}{l ly:List Int}{bx b2:Bool}{ny:Nat}{S:Int}(hj:((j:Nat):Int)=qE .i64 (i:Int) up)(hj2:j<232)(hw:WOK n l)(hin:i<233)(hS:S=if i<ny then l.getD j 0+rest+f*ly.getD i 0 else l.getD j 0+rest) (hr:-1000000000<=rest/\rest<=1000000000) (hfy:-999999999999999999<=f*ly.getD i 0/\f*ly.getD i 0<=999999999999999999) (hny:ny<=232)(hgo:i<ny\/rest≠0) :∃q s:Int,S=q*1000000000+s/\0<=s/\s<1000000000 /\(js [.i f,.i up,.i rest,.i (i:Int),.b bx,.i (n:Int),.r (rI l),.b b2,.i (ny:Int),.r (rI ly)]).run=some (0,[.i f,.i up,.i q,.i ((i+1:Nat):Int),.b bx,.i ((max n (j+1):Nat):Int),.r (rI (l.set j s)),.b b2,.i (ny:Int),.r (rI ly)]):=by
 have hg:=hw.get j;obtain⟨q,r,e1,e2,e3,e4,e5,e6⟩:=qK6 S;have hSb:-1000000000999999999<=S/\S<=1000000001999999998:=by rw[hS];split<;>omega
 have w1:qdm .i64 S 1000000000=q:=by unfold qdm;rw[e1];unfold IntKind.wrap;simp[IntKind.signed,IntKind.bits];omega
 have w2:jw .i64 q 1000000000=q*1000000000:=q7n (by omega);have w3:vN .i64 S (q*1000000000)=r:=by rw[wo (by omega)];omega
 have w4:qE .i64 (l.getD j 0) rest=l.getD j 0+rest:=zp (by omega);have w5:qE .i64 (i:Int) 1=((i+1:Nat):Int):=by rw[zp (by omega)];omega
 have w6:qE .i64 (j:Int) 1=((j+1:Nat):Int):=by rw[zp (by omega)];omega
 have w7:qos (n:Int) ((j+1:Nat):Int)=((max n (j+1):Nat):Int):=qvt _ _;have a1:(0:Int)<=(j:Int)/\(j:Int)<232:=by omega
 have hw8:r<0->qE .i64 r 1000000000=r+1000000000:=fun _=>zp (by omega);have hw9:r<0->vN .i64 q 1=q-1:=fun _=>wo (by omega);rw[q9f];by_cases hi:i<ny
 ·rw[if_pos hi] at hS;have a2:(i:Int)<(ny:Int):=by omega
  have a3:(0:Int)<=(i:Int)/\(i:Int)<232:=by omega
  have w10:jw .i64 f (ly.getD i 0)=f*ly.getD i 0:=q7n (by omega);have w11:qE .i64 (l.getD j 0+rest) (f*ly.getD i 0)=S:=by rw[zp (by omega),hS]
  by_cases hneg:r<0
  ·refine⟨q-1,r+1000000000,by omega,by omega,by omega,?_⟩;simp only[STD,a2,<-hj,a1,a3,q6c,w4,w10,w11,w1,w2,w3,hneg,hw8 hneg,hw9 hneg,w5,w6,w7,qkH,and_self]
  ·refine⟨q,r,by omega,by omega,by omega,?_⟩;simp only[STD,a2,<-hj,a1,a3,q6c,w4,w10,w11,w1,w2,w3,hneg,w5,w6,w7,qkH,and_self]
 ·rw[if_neg hi] at hS;have hr0:rest≠0:=hgo.resolve_left hi;have a2:¬(i:Int)<(ny:Int):=by omega
  rw[<-hS] at w4;by_cases hneg:r<0
  ·refine⟨q-1,r+1000000000,by omega,by omega,by omega,?_⟩;simp only[STD,a2,hr0,<-hj,a1,q6c,w4,w1,w2,w3,hneg,hw8 hneg,hw9 hneg,w5,w6,w7,qkH,and_self]
  ·refine⟨q,r,by omega,by omega,by omega,?_⟩;simp only[STD,a2,hr0,<-hj,a1,q6c,w4,w1,w2,w3,hneg,w5,w6,w7,qkH,and_self]
theorem qqD {f:Int}{up nx ny:Nat}{lx ly:List Int}(hx:WOK nx lx)(hy:WOK ny ly)(hf:-999999999<=f/\f<=999999999)(hup:ny+up<=232){T:Int}(hT:T=mv lx+f*mv ly*pB up)(h0:0<=T)(h1:T<pB 232)(bx b2:Bool) :∃(n:Nat) (l:List Int),(zq [.i f,.i (up:Int),.b bx,.i (nx:Int),.r (rI lx),.b b2,.i (ny:Int),.r (rI ly)]).run=some (0,[.b bx,.i (n:Int),.r (rI l),.b b2,.i (ny:Int),.r (rI ly)])/\WOK n l/\nrm n l/\mv l=T:=by
 rw[ql3];have hny:=hy.le;obtain⟨j,qs,g1,rfl,n,l,rfl,g3,g4⟩:=yd (S:=js) (fun k ps=>∃(i n:Nat) (rest:Int) (l:List Int),ps=[.i f,.i (up:Int),.i rest,.i (i:Int),.b bx,.i (n:Int),.r (rI l),.b b2,.i (ny:Int),.r (rI ly)] /\
   i+k=300/\i<=232/\WOK n l/\-1000000000<=rest/\rest<=1000000000/\mv l+rest*pB (i+up)+f*mv (ly.drop i)*pB (i+up)=T)
  (fun j qs=>j=0/\∃(n:Nat) (l:List Int),qs=[.b bx,.i (n:Int),.r (rI l),.b b2,.i (ny:Int),.r (rI ly)]/\WOK n l/\mv l=T) (n:=300) (by omega) (fun k ps hk ⟨i,n,rest,l,hps,hik,hi,hw,hr1,hr2,hv⟩=>by
  subst hps;have hg:=hy.get i;have hfy:=qKE (A:=999999999) (B:=999999999) hf.1 hf.2 (show -(999999999:Int)<=ly.getD i 0 by omega) (show ly.getD i 0<=999999999 by omega);have hbd:=hw.bd;have hn232:=hw.le;by_cases hgo:i<ny\/rest≠0
  ·left;have hj:i+up<232:=by
    rcases qLF i ny with h|h
    ·omega
    ·rcases qLF (i+up) 232 with h2|h2
     ·exact h2
     ·exfalso;have hr0:=hgo.resolve_left (by omega);rw[vW hy.dig hy.z h] at hv;have hP:=qer h2;have hlt:=qer hn232;simp only[Int.mul_zero,Int.zero_mul,Int.add_zero] at hv;generalize pB (i+up)=P at *;rcases Int.lt_or_lt_of_ne hr0 with h3|h3
      ·have:rest*P<=-1*P:=qNw (by omega) (by have:=qcR 232;omega);omega
      ·have:1*P<=rest*P:=qNw (by omega) (by have:=qcR 232;omega);omega
   have hjw:(((i+up:Nat)):Int)=qE .i64 (i:Int) (up:Int):=by rw[zp (by omega)];omega
   obtain⟨q,s,s1,s2,s3,s4⟩:=qBW (bx:=bx) (b2:=b2) (f:=f) (ly:=ly) hjw hj hw (by omega) rfl ⟨hr1,hr2⟩ (by omega) hny hgo;refine⟨k-1,_,by omega,s4,i+1,_,q,_,rfl,by omega,by omega,hw.setW hj ⟨s2,s3⟩,?_,?_,?_⟩
   ·have hgl:=hw.get (i+up);split at s1<;>omega
   ·have hgl:=hw.get (i+up);split at s1<;>omega
   ·have hjl:i+up<l.length:=by rw[hw.len];exact hj
    rw[qAy l (i+up) hjl,<-hv,show i+1+up=(i+up)+1 by omega,qby];rw[yh hjl] at s1;have hil:i<ly.length:=by rw[hy.len];omega
    rw[qeb hil];rw[yh hil] at s1;generalize pB (i+up)=P at *;generalize l[i+up]=d at *;by_cases hiny:i<ny
    ·rw[if_pos hiny] at s1;generalize ly[i]=y at *;generalize mv (ly.drop (i+1))=m at *;grind
    ·rw[if_neg hiny] at s1;have z1:ly[i]=0:=by rw[<-yh hil];exact hy.z i (by omega)
     rw[z1,vW hy.dig hy.z (show ny<=i+1 by omega)];grind
  ·right;have c1:¬i<ny:=fun h=>hgo (.inl h);have c2:rest=0:=qN7 fun h=>hgo (.inr h);refine⟨0,[.b bx,.i (n:Int),.r (rI l),.b b2,.i (ny:Int),.r (rI ly)],?_,rfl,n,l,rfl,hw,?_⟩
   ·rw[q9f];have a2:¬(i:Int)<(ny:Int):=by omega
    simp only[STD,a2,c2]
   ·rw[vW hy.dig hy.z (by omega),c2] at hv;simp only[Int.mul_zero,Int.zero_mul,Int.add_zero] at hv;exact hv) (ps:=[.i f,.i (up:Int),.i 0,.i 0,.b bx,.i (nx:Int),.r (rI lx),.b b2,.i (ny:Int),.r (rI ly)])
  ⟨0,nx,0,lx,rfl,by omega,by omega,hx,by omega,by omega,by simp[hT]⟩
 obtain⟨m,t1,t2,t3⟩:=qn5 g3 bx;exact⟨m,l,by simp only[STD,g1,t1],t2,t3,g4⟩
end Go.Eng

namespace Go.Eng
theorem qcQ(l:List Int)(j:Nat)(h:j<=l.length):mv l=mv (l.take j)+pB j*mv (l.drop j):=by have:=qA6 (l.take j) (l.drop j);rw[qNO,qMn,qMq h] at this;exact this
theorem qGp{l:List Int}(h:dgs l)(j:Nat):dgs (l.take j):=fun x hx=>h x (qNJ hx)
theorem qbk{l:List Int}(h:dgs l)(j:Nat):0<=mv (l.take j)/\mv (l.take j)<pB j:=
 qB8 (l.take j) j (qGp h j) fun i hi=>by rw[qLw,qLV (by simp;omega)];rfl
theorem qpu{l:List Int}{i:Nat}(h:i<l.length):mv (l.take (i+1))=mv (l.take i)+l[i]*pB i:=by rw[List.take_succ_eq_append_getElem h,qA6,qMn,qMq (by omega)];simp only[mv];grind
theorem WOK.mono{n m:Nat}{l:List Int}(h:WOK n l)(hm:n<=m)(h2:m<=232):WOK m l:=⟨h.len,h2,h.dig,fun i hi=>h.z i (by omega)⟩
theorem qnD{n:Nat}{l:List Int}(h:WOK n l)(hn:nrm n l):(n=0)=(mv l=0):=by
 apply propext;constructor
 ·intro h0;have:=h.bd;rw[h0,q7u] at this;omega
 ·intro h0;rcases qMD n with h1|h1
  ·exact h1
  ·have:=h.lo hn (by omega);have:=qcR (n-1);omega
theorem qL0{n m:Nat}{l k:List Int}(h:WOK n l)(hn:nrm n l)(h2:WOK m k)(hle:mv l<=mv k):n<=m:=by
 rcases qLF m n with h3|h3
 ·exfalso;have h4:=h.lo hn (by omega);have h5:=h2.bd.2;have h6:=qer (show m<=n-1 by omega);omega
 ·exact h3
theorem qAJ{nx ny:Nat}{lx ly:List Int}(hx:WOK nx lx)(hnx:nrm nx lx)(hy:WOK ny ly)(hny:nrm ny ly)(bx b2:Bool) :∃r:Int,(vM [.b bx,.i (nx:Int),.r (rI lx),.b b2,.i (ny:Int),.r (rI ly)]).run=some (0,[.i r,.b bx,.i (nx:Int),.r (rI lx),.b b2,.i (ny:Int),.r (rI ly)])/\((0<=r)=(mv ly<=mv lx)):=by
 rw[qjL];have h1:=hx.le;have h2:=hy.le;by_cases hne:nx=ny
 ·subst hne;have hs:vN .i64 (nx:Int) 1=(nx:Int)-1:=wo (by omega);obtain⟨j,qs,g1,g2⟩:=yd (S:=yD) (fun k ps=>ps=[.i ((k:Int)-1),.b bx,.i (nx:Int),.r (rI lx),.b b2,.i (nx:Int),.r (rI ly)]/\k<=nx/\mv (lx.drop k)=mv (ly.drop k))
   (fun j qs=>(j=0/\qs=[.b bx,.i (nx:Int),.r (rI lx),.b b2,.i (nx:Int),.r (rI ly)]/\mv lx=mv ly)\/(j=1/\∃r:Int,qs=[.i r,.b bx,.i (nx:Int),.r (rI lx),.b b2,.i (nx:Int),.r (rI ly)]/\((0<=r)=(mv ly<=mv lx)))) (n:=nx) (by omega) (fun k ps hk ⟨hps,hkn,hd⟩=>by
   subst hps;rw[qhl];by_cases h0:k=0
   ·right;refine⟨0,_,?_,.inl ⟨rfl,rfl,?_⟩⟩
    ·have a:¬(0:Int)<=(k:Int)-1:=by omega
     simp only[STD,a]
    ·rw[h0] at hd;simpa using hd
   ·obtain⟨i,rfl⟩:∃i,k=i+1:=⟨k-1,by omega⟩;have e:(((i+1:Nat):Int)-1)=(i:Int):=by omega
    rw[e];have a1:(0:Int)<=(i:Int):=by omega
    have a2:(i:Int)<232:=by omega
    have gx:=hx.get i;have gy:=hy.get i;have hxl:i<lx.length:=by rw[hx.len];omega
    have hyl:i<ly.length:=by rw[hy.len];omega
    by_cases hc:lx.getD i 0=ly.getD i 0
    ·left;refine⟨i,[.i ((i:Int)-1),.b bx,.i (nx:Int),.r (rI lx),.b b2,.i (nx:Int),.r (rI ly)],by omega,?_,rfl,by omega,?_⟩
     ·have w:vN .i64 (i:Int) 1=(i:Int)-1:=wo (by omega);simp only[STD,a1,a2,and_self,q6c,hc,w]
     ·rw[qeb hxl,qeb hyl,hd];rw[yh hxl,yh hyl] at hc;rw[hc]
    ·right;have w:vN .i64 (lx.getD i 0) (ly.getD i 0)=lx.getD i 0-ly.getD i 0:=wo (by omega);refine⟨1,[.i (lx.getD i 0-ly.getD i 0),.b bx,.i (nx:Int),.r (rI lx),.b b2,.i (nx:Int),.r (rI ly)],?_,.inr ⟨rfl,_,rfl,?_⟩⟩
     ·simp only[STD,a1,a2,and_self,q6c,hc,w]
     ·have sx:=qcQ lx i (by omega);have sy:=qcQ ly i (by omega);rw[qeb hxl] at sx;rw[qeb hyl] at sy;have tx:=qbk hx.dig i;have ty:=qbk hy.dig i;rw[yh hxl,yh hyl] at hc ⊢;rw[hd] at sx;have hp:=qcR i;generalize pB i=P at *;generalize lx[i]=u at *;generalize ly[i]=v at *;generalize mv (ly.drop (i+1))=w at *;have e1:P*(u+1000000000*w)=P*u+P*(1000000000*w):=Int.mul_add _ _ _;have e2:P*(v+1000000000*w)=P*v+P*(1000000000*w):=Int.mul_add _ _ _;have e3:P*(u-v)=P*u-P*v:=Int.mul_sub _ _ _;apply propext;rcases Int.lt_or_lt_of_ne (show u-v≠0 by omega) with h|h
      ·have:P*(u-v)<=P*(-1):=qNW (by omega) (by omega);constructor
       ·intro;omega
       ·intro;omega
      ·have:P*1<=P*(u-v):=qNW (by omega) (by omega);constructor
       ·intro;omega
       ·intro;omega) (ps:=[.i ((nx:Int)-1),.b bx,.i (nx:Int),.r (rI lx),.b b2,.i (nx:Int),.r (rI ly)])
   ⟨rfl,qLy _,by rw[vW hx.dig hx.z (qLy _),vW hy.dig hy.z (qLy _)]⟩
  rcases g2 with⟨rfl,rfl,g2⟩|⟨rfl,r,rfl,g2⟩
  ·refine⟨0,?_,?_⟩
   ·simp only[STD,hs,g1,zU g1]
   ·apply propext;simp;omega
  ·refine⟨r,?_,g2⟩;simp only[STD,hs,g1,zU g1,show ¬(1=0) by omega]
 ·have hs:vN .i64 (nx:Int) (ny:Int)=(nx:Int)-(ny:Int):=wo (by omega);refine⟨(nx:Int)-(ny:Int),?_,?_⟩
  ·have a:¬(nx:Int)=(ny:Int):=by omega
   simp only[STD,a,hs]
  ·apply propext;have b1:=hx.bd;have b2:=hy.bd;rcases Nat.lt_or_gt_of_ne hne with h|h
   ·have:=hy.lo hny (by omega);have:=qer (show nx<=ny-1 by omega);constructor
    ·intro;omega
    ·intro;omega
   ·have:=hx.lo hnx (by omega);have:=qer (show ny<=nx-1 by omega);constructor
    ·intro;omega
    ·intro;omega
def sv(b:Bool)(l:List Int):Int:=if b then -mv l else mv l
theorem qH6{nx ny:Nat}{lx ly:List Int}(hx:WOK nx lx)(hnx:nrm nx lx)(hy:WOK ny ly)(hny:nrm ny ly)(hb:mv lx+mv ly<pB 232)(bx b2:Bool) :∃(b:Bool) (n:Nat) (l:List Int),(vU [.b bx,.i (nx:Int),.r (rI lx),.b b2,.i (ny:Int),.r (rI ly)]).run=some (0,[.b b,.i (n:Int),.r (rI l),.b b2,.i (ny:Int),.r (rI ly)])/\WOK n l/\nrm n l/\sv b l=sv bx lx+sv b2 ly:=by
 rw[qm5];have h1:=hx.bd;have h2:=hy.bd;have l1:=hx.le;have l2:=hy.le;by_cases hs:bx=b2
 ·subst hs;obtain⟨n,l,g1,g2,g3,g4⟩:=qqD (f:=1) (up:=0) hx hy (by omega) (by omega) (T:=mv lx+mv ly) (by rw[q7u];omega) (by omega) hb bx bx;refine⟨bx,n,l,?_,g2,g3,?_⟩
  ·simp only[STD,show ((0:Nat):Int)=0 from rfl] at g1 ⊢;simp only[STD,g1]
  ·unfold sv;rw[g4];cases bx<;>simp<;>omega
 ·obtain⟨r,r1,r2⟩:=qAJ hx hnx hy hny bx b2;by_cases hr:mv ly<=mv lx
  ·have hr':0<=r:=by rw[r2];exact hr
   obtain⟨n,l,g1,g2,g3,g4⟩:=qqD (f:=-1) (up:=0) hx hy (by omega) (by omega) (T:=mv lx-mv ly) (by rw[q7u];omega) (by omega) (by omega) bx b2;refine⟨bx,n,l,?_,g2,g3,?_⟩
   ·simp only[show ((0:Nat):Int)=0 from rfl] at g1;simp only[STD,hs,r1,hr',g1]
   ·unfold sv;rw[g4];cases bx<;>cases b2<;>simp_all<;>omega
  ·have hr':¬0<=r:=by rw[r2];exact hr
   obtain⟨n,l,g1,g2,g3,g4⟩:=qqD (f:=-1) (up:=0) hy hx (by omega) (by omega) (T:=mv ly-mv lx) (by rw[q7u];omega) (by omega) (by omega) b2 bx;refine⟨b2,n,l,?_,g2,g3,?_⟩
   ·simp only[show ((0:Nat):Int)=0 from rfl] at g1;simp only[STD,hs,r1,hr',g1]
   ·unfold sv;rw[g4];cases bx<;>cases b2<;>simp_all<;>omega
theorem qDZ{x y:Int}{m n:Nat}(h0:0<=x)(h1:x<pB m)(h2:0<=y)(h3:y<=pB n):x*y<pB (m+n)\/y=0:=by
 rcases Int.lt_or_eq_of_le h2 with h|h
 ·left;rw[qJF];have e1:x*y<pB m*y:=Int.mul_lt_mul_of_pos_right h1 h;have e2:pB m*y<=pB m*pB n:=qNW h3 (by omega);omega
 ·exact .inr h.symm
theorem qId{nx ny:Nat}{lx ly:List Int}(hx:WOK nx lx)(hy:WOK ny ly)(hb:nx+ny<=232)(bx b2:Bool) :∃(n:Nat) (l:List Int),(q07 [.b bx,.i (nx:Int),.r (rI lx),.b b2,.i (ny:Int),.r (rI ly)]).run=some (0,[.b bx,.i (nx:Int),.r (rI lx),.b b2,.i (ny:Int),.r (rI ly),.b (!(Go.Eng.beq bx b2)),.i (n:Int),.r (rI l)])/\WOK n l/\nrm n l/\mv l=mv lx*mv ly:=by
 rw[ql7];have hbx:=hx.bd;have e0:q4n 232 [.i 0]=rI (List.replicate 232 0):=qlv 232 0;obtain⟨j,qs,g1,rfl,n,l,rfl,g2,g3,g4⟩:=yd (S:=ub) (fun k ps=>∃(i n:Nat) (l:List Int),ps=[.i (ny:Int),.i (i:Int),.b bx,.i (nx:Int),.r (rI lx),.b b2,.i (ny:Int),.r (rI ly),.b (!(Go.Eng.beq bx b2)),.i (n:Int),.r (rI l)] /\
   i+k=ny/\WOK n l/\nrm n l/\mv l=mv lx*mv (ly.take i))
  (fun j qs=>j=0/\∃(n:Nat) (l:List Int),qs=[.b bx,.i (nx:Int),.r (rI lx),.b b2,.i (ny:Int),.r (rI ly),.b (!(Go.Eng.beq bx b2)),.i (n:Int),.r (rI l)]/\WOK n l/\nrm n l/\mv l=mv lx*mv ly) (n:=ny) (by omega) (fun k ps hk ⟨i,n,l,hps,hik,hw,hn,hv⟩=>by
  subst hps;rw[qiJ];by_cases hi:i<ny
  ·left;have hil:i<ly.length:=by rw[hy.len];omega
   have gy:=hy.get i;have tb:=qbk hy.dig i;have tb2:=qbk hy.dig (i+1);have hT:mv lx*mv (ly.take (i+1))=mv l+ly.getD i 0*mv lx*pB i:=by rw[qpu hil,hv,yh hil];grind
   have hlt:mv lx*mv (ly.take (i+1))<pB 232:=by
    rcases qDZ (n:=i+1) hbx.1 hbx.2 tb2.1 (by omega) with h|h
    ·exact Int.lt_of_lt_of_le h (qer (by omega))
    ·rw[h,Int.mul_zero];exact qcR _
   obtain⟨n',l',c1,c2,c3,c4⟩:=qqD (f:=ly.getD i 0) (up:=i) hw hx (by omega) (by omega) hT (qNj hbx.1 tb2.1) hlt (!(Go.Eng.beq bx b2)) bx;have w:qE .i64 (i:Int) 1=((i+1:Nat):Int):=by rw[zp (by omega)];omega
   refine⟨k-1,_,by omega,?_,i+1,n',l',rfl,by omega,c2,c3,c4⟩;have a1:(i:Int)<(ny:Int):=by omega
   have a2:(0:Int)<=(i:Int)/\(i:Int)<232:=by omega
   simp only[STD,a1,a2,and_self,q6c,c1,w]
  ·right;have hi2:i=ny:=by omega
   have a1:¬(i:Int)<(ny:Int):=by omega
   refine⟨0,[.b bx,.i (nx:Int),.r (rI lx),.b b2,.i (ny:Int),.r (rI ly),.b (!(Go.Eng.beq bx b2)),.i (n:Int),.r (rI l)],?_,rfl,n,l,rfl,hw,hn,?_⟩
   ·simp only[STD,a1]
   ·have:=qcQ ly ny (by rw[hy.len];exact hy.le);rw[vW hy.dig hy.z (qLy _),Int.mul_zero,Int.add_zero] at this;rw[hv,hi2,<-this])
  (ps:=[.i (ny:Int),.i 0,.b bx,.i (nx:Int),.r (rI lx),.b b2,.i (ny:Int),.r (rI ly),.b (!(Go.Eng.beq bx b2)),.i 0,.r (rI (List.replicate 232 0))])
  ⟨0,0,_,rfl,by omega,WOK.zero,.inl rfl,by rw[qgw];simp[mv]⟩
 refine⟨n,l,?_,g2,g3,g4⟩;simp only[e0];simp only[STD,g1]
theorem qBt{nx ny:Nat}{lx ly:List Int}(hx:WOK nx lx)(hnx:nrm nx lx)(hy:WOK ny ly)(hny:nrm ny ly)(h0:ny≠0)(hle:mv ly<=mv lx)(hlt:mv lx<pB (ny+1))(hn231:ny<=231)(bx b2:Bool) :∃k:Int,(q2f [.b bx,.i (nx:Int),.r (rI lx),.b b2,.i (ny:Int),.r (rI ly)]).run=some (0,[.i k,.b bx,.i (nx:Int),.r (rI lx),.b b2,.i (ny:Int),.r (rI ly)])/\1<=k/\k<=999999999/\k*mv ly<=mv lx:=by
 rw[qog];obtain⟨m,rfl⟩:∃m,ny=m+1:=⟨ny-1,by omega⟩;have hxl:=hx.len;have hyl:=hy.len;have hnx1:m+1<=nx:=qL0 hy hny hx hle;have hnx2:nx<=m+2:=by
  rcases qLF (m+2) nx with h|h
  ·exfalso;have h1:=hx.lo hnx (by omega);have h2:=qer (show m+1+1<=nx-1 by omega);omega
  ·exact h
 have gx1:=hx.get m;have gx2:=hx.get (m+1);have gy:=hy.get m;have sx:=qcQ lx m (by omega);have sy:=qcQ ly m (by omega);rw[qeb (show m<lx.length by omega),qeb (show m+1<lx.length by omega),vW hx.dig hx.z (show nx<=m+1+1 by omega)] at sx;rw[qeb (show m<ly.length by omega),vW hy.dig hy.z (qLy _)] at sy;have tx:=qbk hx.dig m;have ty:=qbk hy.dig m;have hyn:ly.getD m 0≠0:=by
  rcases hny with h|h
  ·omega
  ·simpa using h
 have w1:vN .i64 ((m+1:Nat):Int) 1=(m:Int):=by rw[wo (by omega)];omega
 have c1:¬((m+1:Nat):Int)<0:=by omega
 have c2:¬(nx:Int)<=(m:Int):=by omega
 have c3:¬(m:Int)<0:=by omega
 have c4:¬((m+1:Nat):Int)<=(m:Int):=by omega
 have c5:(0:Int)<=(m:Int)/\(m:Int)<232:=by omega
 have c6:(0:Int)<=((m+1:Nat):Int)/\((m+1:Nat):Int)<232:=by omega
 have gex:lx[m]'(by omega)=lx.getD m 0:=(yh (by omega)).symm;have gex1:lx[m+1]'(by omega)=lx.getD (m+1) 0:=(yh (by omega)).symm;have gey:ly[m]'(by omega)=ly.getD m 0:=(yh (by omega)).symm;rw[gex,gex1] at sx;rw[gey] at sy;have hp:=qcR m;have key:∀a b:Int,a=lx.getD m 0+1000000000*lx.getD (m+1) 0->0<b->mv ly<=b*pB m->∀k,k=a/b->k*mv ly<=mv lx/\qhy k 999999999*mv ly<=mv lx:=by
  intro a b ha hb hbY k hk;have hk0:0<=k:=by rw[hk];exact Int.ediv_nonneg (by omega) (by omega)
  have hkb:k*b<=a:=by rw[hk];exact Int.ediv_mul_le a (by omega)
  have hY:=(hy.bd).1;have f1:k*mv ly<=k*(b*pB m):=qNW hbY hk0;have f2:k*b*pB m<=a*pB m:=qNw hkb (by omega);have f3:k*(b*pB m)=k*b*pB m:=(Int.mul_assoc _ _ _).symm;have f4:a*pB m=pB m*(lx.getD m 0+1000000000*(lx.getD (m+1) 0+1000000000*0)):=by rw[ha];grind
  have f5:k*mv ly<=mv lx:=by omega
  refine⟨f5,?_⟩;have:qhy k 999999999<=k:=by unfold qhy;split<;>omega
  have:=qNw this hY;omega
 have wq:∀a b:Int,0<=a->a<1000000000000000000->0<b->qdm .i64 a b=a/b:=by intro a b h1 h2 h3;unfold qdm;rw[Int.tdiv_eq_ediv_of_nonneg h1];have q1:0<=a/b:=Int.ediv_nonneg h1 (by omega);have q2:a/b<=a:=Int.ediv_le_self _ h1;generalize a/b=q at *;unfold IntKind.wrap;simp[IntKind.signed,IntKind.bits];omega
 have fin:∀k:Int,(0<k->k*mv ly<=mv lx/\qhy k 999999999*mv ly<=mv lx)->∃k':Int,(if 0<k then qhy k 999999999 else 1)=k'/\1<=k'/\k'<=999999999/\k'*mv ly<=mv lx:=by
  intro k hk;by_cases h:0<k
  ·rw[if_pos h];refine⟨_,rfl,?_,?_,(hk h).2⟩
   ·unfold qhy;split<;>omega
   ·unfold qhy;split<;>omega
  ·rw[if_neg h];exact⟨1,rfl,by omega,by omega,by omega⟩
 by_cases hcase:nx<=m+1
 ·have c7:(nx:Int)<=((m+1:Nat):Int):=by omega
  have z1:lx.getD (m+1) 0=0:=hx.z _ (by omega);have wa:qE .i64 0 (lx.getD m 0)=lx.getD m 0:=by rw[zp (by omega)];omega
  by_cases hm:m=0
  ·subst hm;have c8:¬(1:Int)<((0+1:Nat):Int):=by omega
   have hq:=wq (lx.getD 0 0) (ly.getD 0 0) (by omega) (by omega) (by omega);have hbY:mv ly<=ly.getD 0 0*pB 0:=by rw[q7u] at sy ty ⊢;omega
   obtain⟨k',f1,f2,f3,f4⟩:=fin (lx.getD 0 0/ly.getD 0 0) (fun _=>key _ _ (by rw[z1];omega) (by omega) hbY _ rfl);refine⟨k',?_,f2,f3,f4⟩;rw[<-f1];simp only[STD,c1,w1,c2,c3,c4,c5,c6,c7,c8,and_self,q6c,wa,hyn,hq];split<;>rfl
  ·have c8:(1:Int)<((m+1:Nat):Int):=by omega
   have wb:qE .i64 (ly.getD m 0) 1=ly.getD m 0+1:=zp (by omega);have hq:=wq (lx.getD m 0) (ly.getD m 0+1) (by omega) (by omega) (by omega);have hbY:mv ly<=(ly.getD m 0+1)*pB m:=by
    have:(ly.getD m 0+1)*pB m=pB m*(ly.getD m 0+1000000000*0)+pB m:=by grind
    omega
   obtain⟨k',f1,f2,f3,f4⟩:=fin (lx.getD m 0/(ly.getD m 0+1)) (fun _=>key _ _ (by rw[z1];omega) (by omega) hbY _ rfl);refine⟨k',?_,f2,f3,f4⟩;rw[<-f1];have hne:¬ly.getD m 0+1=0:=by omega
   simp only[STD,c1,w1,c2,c3,c4,c5,c6,c7,c8,and_self,q6c,wa,wb,hne,hq];split<;>rfl
 ·have c7:¬(nx:Int)<=((m+1:Nat):Int):=by omega
  have wm:jw .i64 (lx.getD (m+1) 0) 1000000000=lx.getD (m+1) 0*1000000000:=q7n (by omega);have wa:qE .i64 (lx.getD (m+1) 0*1000000000) (lx.getD m 0)=lx.getD (m+1) 0*1000000000+lx.getD m 0:=zp (by omega);by_cases hm:m=0
  ·subst hm;have c8:¬(1:Int)<((0+1:Nat):Int):=by omega
   have hq:=wq (lx.getD (0+1) 0*1000000000+lx.getD 0 0) (ly.getD 0 0) (by omega) (by omega) (by omega);have hbY:mv ly<=ly.getD 0 0*pB 0:=by rw[q7u] at sy ty ⊢;omega
   obtain⟨k',f1,f2,f3,f4⟩:=fin ((lx.getD (0+1) 0*1000000000+lx.getD 0 0)/ly.getD 0 0) (fun _=>key _ _ (by omega) (by omega) hbY _ rfl);refine⟨k',?_,f2,f3,f4⟩;rw[<-f1];simp only[STD,c1,w1,c2,c3,c4,c5,c6,c7,c8,and_self,q6c,wm,wa,hyn,hq];split<;>rfl
  ·have c8:(1:Int)<((m+1:Nat):Int):=by omega
   have wb:qE .i64 (ly.getD m 0) 1=ly.getD m 0+1:=zp (by omega);have hq:=wq (lx.getD (m+1) 0*1000000000+lx.getD m 0) (ly.getD m 0+1) (by omega) (by omega) (by omega);have hbY:mv ly<=(ly.getD m 0+1)*pB m:=by
    have:(ly.getD m 0+1)*pB m=pB m*(ly.getD m 0+1000000000*0)+pB m:=by grind
    omega
   obtain⟨k',f1,f2,f3,f4⟩:=fin ((lx.getD (m+1) 0*1000000000+lx.getD m 0)/(ly.getD m 0+1)) (fun _=>key _ _ (by omega) (by omega) hbY _ rfl);refine⟨k',?_,f2,f3,f4⟩;rw[<-f1];have hne:¬ly.getD m 0+1=0:=by omega
   simp only[STD,c1,w1,c2,c3,c4,c5,c6,c7,c8,and_self,q6c,wm,wa,wb,hne,hq];split<;>rfl
theorem qHy(u:Nat):Lib.decDigits u=tN u:=by
 induction u using Nat.strongRecOn with
 | _ u ih=>
  rw[Lib.decDigits];split
  ·rename_i h;rw[qwU h];rfl
  ·rename_i h;rw[ih (u/10) (by omega)];exact(qz3 (n:=u) (by omega)).symm
theorem qzA(n:Int):Lib.itoa n=tI n:=by
 unfold Lib.itoa;by_cases h:n<0
 ·rw[if_pos h,qHy,qdn h]
 ·rw[if_neg h,qHy,qlw h];congr 1;omega
theorem qJc(n:Int)(h:-9223372036854775808<=n/\n<=9223372036854775807):(q58 [.i n]).run=some (0,[.s (tI n)]):=by show (qDx [.i n]).run=_;unfold qDx;simp only;rw[if_pos h,qzA];rfl
theorem qxn{c:UInt8}(h:48<=c.toNat/\c.toNat<=57):Lib.digitVal c=some (dv c):=by
 unfold Lib.digitVal dv
 simp_all
theorem qrH:∀{s:qLv} (a:Nat),q6p s->Lib.decFrom a s=some (a*10^s.length+val s)
 | [],a,_=>by simp[Lib.decFrom,val]
 | c::s,a,h=>by
  obtain⟨h1,h2⟩:=q1d.1 h;rw[Lib.decFrom,qxn h1];simp only;rw[qrH _ h2,q78,qM0,qMU];congr 1;grind
theorem qtO{s:qLv}(h:q6p s)(hn:s≠[]):Lib.decNat s=some (val s):=by unfold Lib.decNat;rw[if_neg (by simpa using hn),qrH 0 h];simp
theorem qxt{s:qLv}(h:q6p s)(hn:s≠[]):Lib.atoi s=some (val s:Int):=by
 obtain⟨c,t,e,h1,h2⟩:=qj5 h hn;rw[e] at h ⊢;have n1:(c==45)=false:=by rw[beq_eq_false_iff_ne];intro hc;subst hc;revert h1;decide
 have n2:(c==43)=false:=by rw[beq_eq_false_iff_ne];intro hc;subst hc;revert h1;decide
 unfold Lib.atoi;simp only[n1,n2,qMb,if_false];rw[qtO h (by simp)];rfl
theorem qEp(m:Int):Lib.atoi (tI m)=some m:=by
 by_cases h:m<0
 ·rw[qdn h];unfold Lib.atoi;simp only[beq_self_eq_true,if_true];rw[qtO (wF _) (qsd _),q1k];simp;omega
 ·rw[qlw h,qxt (wF _) (qsd _),q1k];congr 1;omega
theorem qEs{s:qLv}{n:Int}(hl:s.length<=18)(h:Lib.atoi s=some n):(yl [.s s]).run=some (0,[.i n]):=by show (qFd [.s s]).run=_;unfold qFd;simp only;rw[if_pos hl,h];rfl
theorem qAX:∀s:List UInt8,Lib.indexByte s 47=if sP s<s.length then (sP s:Int) else -1
 | []=>by simp[Lib.indexByte,sP]
 | c::s=>by
  have ih:=qAX s;have hle:=qI9 s;unfold Lib.indexByte;by_cases h:c=47
  ·subst h;have:sP (47::s)=0:=qI3 (by simp) (by simp) (fun j hj=>by omega);rw[this];simp
  ·have hc:(c==47)=false:=by simpa using h
   have e:sP (c::s)=sP s+1:=by unfold sP;rw[List.findIdx_cons,hc];rfl
   rw[e];generalize sP s=k at *;have el:(c::s).length=s.length+1:=rfl;simp only[hc,el,ih,qMb,if_false];grind
theorem qI0(s:qLv):(j4 [.s s,.s [47]]).run=some (0,[.i (if sP s<s.length then (sP s:Int) else -1)]):=by show (qyd [.s s,.s [47]]).run=_;unfold qyd;simp only;rw[<-qAX];rfl
theorem qAz:∀{s t:qLv},q6p s->q6p t->s.length=t.length->Lib.compareBytes s t=sgn ((val s:Int)-(val t:Int))
 | [],[],_,_,_=>by simp[Lib.compareBytes,val,sgn]
 | [],_::_,_,_,h=>by simp at h
 | _::_,[],_,_,h=>by simp at h
 | a::s,b::t,hs,ht,h=>by
  obtain⟨h1,h2⟩:=q1d.1 hs;obtain⟨h3,h4⟩:=q1d.1 ht;have hl:s.length=t.length:=by simpa using h
  have ih:=qAz h2 h4 hl;have v1:=q7R h2;have v2:=q7R h4;unfold Lib.compareBytes;rw[q78,q78,hl];rw[hl] at v1;have hp:0<10^t.length:=Nat.pow_pos (by omega);generalize 10^t.length=P at *;unfold dv;by_cases c1:a.toNat<b.toNat
  ·rw[if_pos (show a<b from c1)];have:(a.toNat-48+1)*P<=(b.toNat-48)*P:=qLX _ (by omega);rw[qLO,qNc] at this;unfold sgn;rw[if_pos (by omega)]
  ·rw[if_neg (show ¬a<b from c1)];by_cases c2:b.toNat<a.toNat
   ·rw[if_pos (show b<a from c2)];have:(b.toNat-48+1)*P<=(a.toNat-48)*P:=qLX _ (by omega);rw[qLO,qNc] at this;unfold sgn;rw[if_neg (by omega),if_neg (by omega)]
   ·rw[if_neg (show ¬b<a from c2),ih];have:a.toNat=b.toNat:=by omega
    rw[this];congr 1;omega
theorem qBP{s t:qLv}(hs:q6p s)(ht:q6p t)(h:s.length=t.length):(q3I [.s s,.s t]).run=some (0,[.i (sgn ((val s:Int)-(val t:Int)))]):=by show (qqj [.s s,.s t]).run=_;unfold qqj;simp only;rw[qAz hs ht h];rfl
def qCJ:List UInt8:=[48,49,50,51,52,53,54,55,56,57]
theorem qB0(c:UInt8):(qCJ.contains c=true)↔(48<=c.toNat/\c.toNat<=57):=by
 constructor
 ·intro h;simp only[qCJ,List.contains_eq_mem,qLQ,qNT,or_false,decide_eq_true_eq] at h;rcases h with rfl|rfl|rfl|rfl|rfl|rfl|rfl|rfl|rfl|rfl<;>decide
 ·rintro ⟨h1,h2⟩;have hk:∃k,c=UInt8.ofNat k/\48<=k/\k<=57:=⟨c.toNat,by simp,h1,h2⟩;obtain⟨k,rfl,k1,k2⟩:=hk;have:k=48\/k=49\/k=50\/k=51\/k=52\/k=53\/k=54\/k=55\/k=56\/k=57:=by omega
  rcases this with rfl|rfl|rfl|rfl|rfl|rfl|rfl|rfl|rfl|rfl<;>decide
theorem qbh{p:UInt8->Bool}:∀{l:qLv},l.dropWhile p=[]↔∀x,x∈l->p x=true
 | []=>by simp
 | a::l=>by
  rw[List.dropWhile_cons];by_cases h:p a=true
  ·rw[if_pos h,qbh];simp[h]
  ·rw[if_neg h];simp[h]
theorem qjn(s:qLv):(Lib.trimS s qCJ=[])=q6p s:=by
 apply propext;unfold Lib.trimS Lib.trimLeftS Lib.trimRightS;constructor
 ·intro h;have h1:∀c,c∈(s.reverse.dropWhile (qCJ.contains ·)).reverse->qCJ.contains c=true:=by intro c hc;have:=qbh.1 h c hc;simpa using this
  have h2:s.reverse.dropWhile (qCJ.contains ·)=[]:=by
   cases hd:s.reverse.dropWhile (qCJ.contains ·) with
   | nil=>rfl
   | cons c t=>
    exfalso;have h3:=List.head_dropWhile_not (p:=(qCJ.contains ·)) (l:=s.reverse) (by rw[hd];simp);simp only[hd,List.head_cons] at h3;have:=h1 c (by rw[hd];simp);rw[this] at h3;cases h3
  intro c hc;have:=qbh.1 h2 c (by simpa using hc);exact(qB0 c).1 (by simpa using this)
 ·intro h;have h2:s.reverse.dropWhile (qCJ.contains ·)=[]:=by rw[qbh];intro c hc;exact(qB0 c).2 (h c (by simpa using hc))
  rw[h2];rfl
theorem qJr(s:qLv)(hl:s.length<=9223372036854775807):(q8O [.s s,.s [48,49,50,51,52,53,54,55,56,57]]).run=some (0,[.s (Lib.trimS s qCJ)]):=by show (qDT [.s s,.s qCJ]).run=_;unfold qDT;simp only;rw[if_pos ⟨hl,by decide,by decide⟩];rfl
variable {n:Nat}
theorem qCI (n:Nat):pB n=((10^(9*n):Nat):Int):=by unfold pB;rw[Nat.pow_mul];simp
theorem qBq:∀k:Nat,k<=9->qcW [48,48,48,48,48,48,48,48,48] (k:Int) 9=List.replicate (9-k) 48
 | 0,_=>rfl
 | 1,_=>rfl
 | 2,_=>rfl
 | 3,_=>rfl
 | 4,_=>rfl
 | 5,_=>rfl
 | 6,_=>rfl
 | 7,_=>rfl
 | 8,_=>rfl
 | 9,_=>rfl
 | n+10,h=>by omega
theorem qHZ {v:Nat}(h:v<1000000000):q6p (qED (tN v))/\(qED (tN v)).length=9/\val (qED (tN v))=v:=by
 have hl:(tN v).length<=9:=q36 8 v (by omega);have e:qED (tN v)=List.replicate (9-(tN v).length) 48++tN v:=by unfold qED qfl;rw[show qD (tN v)=((tN v).length:Int) from rfl,qBq _ hl]
 rw[e];refine⟨q8J.2 ⟨qom _,wF v⟩,by simp;omega,by rw[qrq,q1k]⟩
theorem quI{l:List Int}(hl:l.length=232)(hd:dgs l):∀i:Nat,i<=232->q6p (qmf (rI l) i)/\(qmf (rI l) i).length=9*i/\((val (qmf (rI l) i):Nat):Int)=mv (l.take i)
 | 0,_=>⟨qmj,rfl,by simp[qmf,qgA,mv]⟩
 | i+1,h=>by
  obtain⟨h1,h2,h3⟩:=quI hl hd i (by omega);have hil:i<l.length:=by omega
  have hg:=hd _ (qM6 hil);have e:cI (rI l) (i:Int) 0=l[i]:=by rw[q6c,yh hil]
  have e2:Lib.itoa l[i]=tN l[i].toNat:=by rw[qzA,qlw (by omega)];congr 1;omega
  obtain⟨p1,p2,p3⟩:=qHZ (v:=l[i].toNat) (by omega);unfold qmf;rw[e,e2];refine⟨q8J.2 ⟨p1,h1⟩,by rw[qLR,p2,h2];omega,?_⟩;rw[qwf,p3,h2,qpu hil,qCI];simp only[qNu,qMk,h3];rw[qNs hg.1];omega
theorem qFF {l:List Int}(h:WOK n l)(hn:nrm n l)(b:Bool):qD7 b (n:Int) (rI l)=tI (sv b l):=by
 unfold qD7;by_cases h0:n=0
 ·have h1:mv l=0:=by rw[<-qnD h hn];exact h0
  rw[if_pos (by omega)];unfold sv;rw[h1];cases b<;>rfl
 ·rw[if_neg (by omega)];obtain⟨m,rfl⟩:∃m,n=m+1:=⟨n-1,by omega⟩;have hle:=h.le;have hml:m<l.length:=by rw[h.len];omega
  have e1:(((m+1:Nat):Int)-1)=(m:Int):=by omega
  rw[e1,qLG,q6c,yh hml];have hg:=h.dig _ (qM6 hml);have e2:Lib.itoa l[m]=tN l[m].toNat:=by rw[qzA,qlw (by omega)];congr 1;omega
  obtain⟨t1,t2,t3⟩:=quI h.len h.dig m (by omega);have hnz:l[m]≠0:=by
   rcases hn with hn|hn
   ·omega
   ·rw[qNR,yh hml] at hn;exact hn
  have hlo:=h.lo hn h0;have hp:=qcR m;simp only[qNR] at hlo;have hv:((val (tN l[m].toNat++qmf (rI l) m):Nat):Int)=mv l:=by rw[qwf,q1k,t2,qcQ l m (by omega),qeb hml,vW h.dig h.z (qLy _),qCI];simp only[qNu,qMk,t3];rw[qNs hg.1];grind
  have hT:tN l[m].toNat++qmf (rI l) m=tN (mv l).toNat:=by
   have hd:q6p (tN l[m].toNat++qmf (rI l) m):=q8J.2 ⟨wF _,t1⟩;have hne:tN l[m].toNat++qmf (rI l) m≠[]:=by simp[qsd]
   have hz:(tN l[m].toNat++qmf (rI l) m).getD 0 0≠48:=by
    have hv0:=q1k l[m].toNat;have hd0:=wF l[m].toNat;rcases qDB l[m].toNat with h1|h1
    ·obtain⟨c,e⟩:=List.length_eq_one_iff.1 h1;rw[e] at hv0 ⊢;simp only[qMX,qN0];intro hc;subst hc;rw[qyW] at hv0;simp[dv] at hv0;omega
    ·obtain⟨c,t,e,_⟩:=qj5 hd0 (qsd _);rw[e] at h1 ⊢;simpa using h1
   have:=qrh hd hne (.inr hz);rw[this];congr 1;omega
  rw[e2,qM2,hT];unfold sv;cases b
  ·rw[if_neg (by simp),if_neg (by simp),qlw (by omega)];simp;congr 1;omega
  ·rw[if_pos rfl,if_pos rfl,qdn (by omega)];simp;congr 1;omega
theorem qC9 {l:List Int}(h:WOK n l):qwg (n:Int) (rI l)=true:=by unfold qwg;have:=h.le;simp only[qLN,decide_eq_true_eq,qM5,qMi];refine⟨⟨by omega,by omega⟩,fun i _=>?_⟩;have:=h.get i;rw[q6c];exact this
theorem qAN {l:List Int}(h:WOK n l)(hn:nrm n l)(b:Bool):(zR [.b b,.i (n:Int),.r (rI l)]).run=some (0,[.s (tI (sv b l)),.b b,.i (n:Int),.r (rI l)]):=by show (qE3 [.b b,.i (n:Int),.r (rI l)]).run=_;unfold qE3;simp only;rw[if_pos (qC9 h),qFF h hn];rfl
end Go.Eng

namespace Go.Eng
theorem qFn{nr ny:Nat}{lr ly:List Int}(hr:WOK nr lr)(hnr:nrm nr lr)(hy:WOK ny ly)(hny:nrm ny ly)(h0:ny≠0)(hy231:ny<=231)(hlt:mv lr<mv ly*1000000000)(y0:Int)(xb:Bool)(xi:Int)(xr:R)(b2 qb:Bool)(qi:Int)(qr:R)(br:Bool) :∃(d:Int) (n:Nat) (l:List Int),(qf yG [.i y0,.i 0,.b xb,.i xi,.r xr,.b b2,.i (ny:Int),.r (rI ly),.b qb,.i qi,.r qr,.b br,.i (nr:Int),.r (rI lr)]).run = some (0,[.i y0,.i d,.b xb,.i xi,.r xr,.b b2,.i (ny:Int),.r (rI ly),.b qb,.i qi,.r qr,.b br,.i (n:Int),.r (rI l)])/\WOK n l/\nrm n l/\0<=d/\d<1000000000/\mv lr=d*mv ly+mv l/\mv l<mv ly:=by
 have hyp:0<mv ly:=by have:=hy.lo hny h0;have:=qcR (ny-1);omega
 have hyb:=hy.bd;obtain⟨j,qs,g1,rfl,d,n,l,rfl,g2⟩:=yd (S:=yG) (fun k ps=>∃(d:Int) (n:Nat) (l:List Int),ps=[.i y0,.i d,.b xb,.i xi,.r xr,.b b2,.i (ny:Int),.r (rI ly),.b qb,.i qi,.r qr,.b br,.i (n:Int),.r (rI l)] /\
   WOK n l/\nrm n l/\0<=d/\d+k=1000000000/\mv lr=d*mv ly+mv l)
  (fun j qs=>j=0/\∃(d:Int) (n:Nat) (l:List Int),qs=[.i y0,.i d,.b xb,.i xi,.r xr,.b b2,.i (ny:Int),.r (rI ly),.b qb,.i qi,.r qr,.b br,.i (n:Int),.r (rI l)]/\WOK n l/\nrm n l/\0<=d/\d<1000000000/\mv lr=d*mv ly+mv l/\mv l<mv ly) (n:=1000000000) (by omega)
  (fun k ps hk ⟨d,n,l,hps,hw,hn,hd0,hdk,hv⟩=>by
   subst hps;have hlb:=hw.bd;have hdlt:d<1000000000:=by
    rcases Int.lt_or_le d 1000000000 with h|h
    ·exact h
    ·have:=qNw h (show 0<=mv ly by omega);rw[qME (mv ly)] at hlt;omega
   rw[qlg];obtain⟨r,r1,r2⟩:=qAJ hw hn hy hny br b2;by_cases hle:mv ly<=mv l
   ·left;have hr0:0<=r:=by rw[r2];exact hle
    have hdm:=qNj hd0 (show 0<=mv ly by omega);have hl9:mv l<pB (ny+1):=by rw[qby];omega
    obtain⟨q,e1,e2,e3,e4⟩:=qBt hw hn hy hny h0 hle hl9 hy231 br b2;obtain⟨n',l',c1,c2,c3,c4⟩:=qqD (f:=-q) (up:=0) hw hy (by omega) (by omega) (T:=mv l-q*mv ly) (by rw[q7u,Int.mul_one,Int.neg_mul];omega) (by omega)
     (by have:=hlb.2;have:=qer hw.le;have:=qNj (show 0<=q by omega) (show 0<=mv ly by omega);omega) br b2
    have hq2:(d+q)*mv ly+(mv l-q*mv ly)=d*mv ly+mv l:=by rw[Int.add_mul];omega
    have hdq:d+q<1000000000:=by
     rcases Int.lt_or_le (d+q) 1000000000 with h|h
     ·exact h
     ·have:=qNw h (show 0<=mv ly by omega);rw[qME (mv ly)] at hlt;omega
    have w1:vN .i64 0 q=-q:=qyw (by omega);have w2:qE .i64 d q=d+q:=zp (by omega);simp only[show ((0:Nat):Int)=0 from rfl] at c1;refine⟨(1000000000-(d+q)).toNat,[.i y0,.i (d+q),.b xb,.i xi,.r xr,.b b2,.i (ny:Int),.r (rI ly),.b qb,.i qi,.r qr,.b br,.i (n':Int),.r (rI l')],by omega,?_,d+q,n',l',rfl,c2,c3,by omega,by omega,by rw[c4];omega⟩;simp only[STD,r1,hr0,e1,w1,w2,c1]
   ·right;have hr0:¬0<=r:=by rw[r2];exact hle
    refine⟨0,_,?_,rfl,d,n,l,rfl,hw,hn,hd0,hdlt,hv,by omega⟩;simp only[STD,r1,hr0]) (ps:=[.i y0,.i 0,.b xb,.i xi,.r xr,.b b2,.i (ny:Int),.r (rI ly),.b qb,.i qi,.r qr,.b br,.i (nr:Int),.r (rI lr)]) ⟨0,nr,lr,rfl,hr,hnr,by omega,by omega,by omega⟩
 exact⟨d,n,l,g1,g2⟩
theorem qFx{n:Nat}{l:List Int}{d:Int}(h:WOK n l)(hn:n<=231)(hd:0<=d/\d<1000000000) :qhx (qmP (rI l) 1 (rI l) 0 (qhy (qzH (n:Int) 0) (qzH 232 1))) 0 0 [.i d]=rI (d::(l.take n++l.drop (1+n)))/\WOK (n+1) (d::(l.take n++l.drop (1+n)))/\mv (d::(l.take n++l.drop (1+n)))=d+1000000000*mv l:=by
 have hlen:=h.len;have e1:qhy (qzH (n:Int) 0) (qzH 232 1)=(n:Int):=by unfold qhy qzH;split<;>omega
 obtain⟨x,t,rfl⟩:∃x t,l=x::t:=by
  cases l with
  | nil=>simp at hlen
  | cons x t=>exact⟨x,t,rfl⟩
 refine⟨?_,⟨by simp;simp at hlen;omega,by omega,?_,?_⟩,?_⟩
 ·rw[e1];unfold qmP;have:(rI (x::t)).take (1:Int).toNat++((rI (x::t)).drop (0:Int).toNat).take (n:Int).toNat++(rI (x::t)).drop ((1:Int).toNat+(n:Int).toNat)=rI (x::((x::t).take n++(x::t).drop (1+n))):=by rw[qLG];simp[rI,List.map_take,List.map_drop]
  rw[this,show (0:Int)=((0:Nat):Int) from rfl,qkH];rfl
 ·intro y hy;rcases qLQ.1 hy with rfl|hy
  ·exact hd
  ·rcases qLU.1 hy with hy|hy
   ·exact h.dig _ (qNJ hy)
   ·exact h.dig _ (qNK hy)
 ·intro i hi;obtain⟨j,rfl⟩:∃j,i=j+1:=⟨i-1,by omega⟩;have hz:=h.z (j+1) (by omega);rw[qLw] at hz ⊢;rw[qMy,qLL (by simp;omega)];rw[qMC,qMn,qMq (by omega)];rw[show 1+n+(j-n)=j+1 by omega];exact hz
 ·show d+1000000000*mv _=_;rw[qA6,qMn,qMq (by omega),vW h.dig h.z (show n<=1+n by omega)];have:=qcQ (x::t) n (by omega);rw[vW h.dig h.z (qLy n)] at this;omega
theorem qi5{nx ny:Nat}{lx ly:List Int}(hx:WOK nx lx)(hy:WOK ny ly)(hny:nrm ny ly)(h0:ny≠0)(hy231:ny<=231)(bx b2:Bool) :∃(nq:Nat) (lq:List Int) (nr:Nat) (lr:List Int),(ke [.b bx,.i (nx:Int),.r (rI lx),.b b2,.i (ny:Int),.r (rI ly)]).run = some (0,[.b bx,.i (nx:Int),.r (rI lx),.b b2,.i (ny:Int),.r (rI ly),.b false,.i (nq:Int),.r (rI lq),.b false,.i (nr:Int),.r (rI lr)])/\WOK nq lq/\nrm nq lq/\WOK nr lr/\nrm nr lr/\mv lx=mv lq*mv ly+mv lr/\mv lr<mv ly:=by
 rw[qpL];have hyp:0<mv ly:=by have:=hy.lo hny h0;have:=qcR (ny-1);omega
 have hx232:=hx.le;have e0:q4n 232 [.i 0]=rI (List.replicate 232 0):=qlv 232 0;have hxl:=hx.len;obtain⟨j,qs,g1,rfl,nq,lq,nr,lr,rfl,g2,g3,g4,g5,g6⟩:=yd (S:=q0Z) (fun k ps=>∃(Q:Int) (nq:Nat) (lq:List Int) (nr:Nat) (lr:List Int),
   ps=[.i ((k:Int)-1),.b bx,.i (nx:Int),.r (rI lx),.b b2,.i (ny:Int),.r (rI ly),.b false,.i (nq:Int),.r (rI lq),.b false,.i (nr:Int),.r (rI lr)]/\k<=nx/\WOK nq lq/\WOK nr lr/\nrm nr lr/\mv (lx.drop k)=Q*mv ly+mv lr/\mv lr<mv ly/\mv lq=pB k*Q/\∀i,i<k->lq.getD i 0=0)
  (fun j qs=>j=0/\∃(nq:Nat) (lq:List Int) (nr:Nat) (lr:List Int),qs=[.b bx,.i (nx:Int),.r (rI lx),.b b2,.i (ny:Int),.r (rI ly),.b false,.i (nq:Int),.r (rI lq),.b false,.i (nr:Int),.r (rI lr)]/\WOK nq lq/\WOK nr lr/\nrm nr lr/\mv lx=mv lq*mv ly+mv lr/\mv lr<mv ly) (n:=nx) (by omega)
  (fun k ps hk ⟨Q,nq,lq,nr,lr,hps,hkn,hwq,hwr,hnr,hv,hlt,hq,hz⟩=>by
   subst hps;rw[qn1];rcases qMD k with rfl|hk0
   ·right;have a1:¬(0:Int)<=((0:Nat):Int)-1:=by omega
    refine⟨0,[.b bx,.i (nx:Int),.r (rI lx),.b b2,.i (ny:Int),.r (rI ly),.b false,.i (nq:Int),.r (rI lq),.b false,.i (nr:Int),.r (rI lr)],?_,rfl,nq,lq,nr,lr,rfl,hwq,hwr,hnr,?_,hlt⟩
    ·simp only[STD,a1]
    ·rw[hq,q7u,qMR,<-hv,List.drop_zero]
   ·left;obtain⟨i,rfl⟩:∃i,k=i+1:=⟨k-1,by omega⟩;have e:(((i+1:Nat):Int)-1)=(i:Int):=by omega
    rw[e];have hnr231:nr<=231:=qLA (qL0 hwr hnr hy (by omega)) hy231;have hil:i<lx.length:=by omega
    have gx:=hx.get i;obtain⟨s1,s2,s3⟩:=qFx hwr hnr231 (d:=lx.getD i 0) gx;obtain⟨m,t1,t2,t3⟩:=qn5 s2 false;have hX:mv (lx.drop i)=lx.getD i 0+1000000000*(Q*mv ly+mv lr):=by rw[qeb hil,<-hv,yh hil]
    have hlt2:mv (lx.getD i 0::(lr.take nr++lr.drop (1+nr)))<mv ly*1000000000:=by rw[s3];omega
    obtain⟨d,n',l',d1,d2,d3,d4,d5,d6,d7⟩:=qFn t2 t3 hy hny h0 hy231 hlt2 (i:Int) bx (nx:Int) (rI lx) b2 false (nq:Int) (rI lq) false;rw[s3] at d6;have a1:(0:Int)<=(i:Int):=by omega
    have a2:(i:Int)<232:=by omega
    have a3:(0:Int)<=232/\(232:Int)<=232:=by omega
    have a4:(0:Int)<=1/\(1:Int)<=232:=by omega
    have a5:(0:Int)<=(nr:Int)/\(nr:Int)<=232:=by omega
    have a6:(0:Int)<=0/\(0:Int)<=(nr:Int):=by omega
    have w1:qE .i64 (nr:Int) 1=((nr+1:Nat):Int):=by rw[zp (by omega)];omega
    have w2:qE .i64 (i:Int) 1=((i+1:Nat):Int):=by rw[zp (by omega)];omega
    have w3:vN .i64 (i:Int) 1=(i:Int)-1:=wo (by omega);have w4:qos (nq:Int) ((i+1:Nat):Int)=((max nq (i+1):Nat):Int):=qvt _ _;have hiq:i<lq.length:=by rw[hwq.len];omega
    have hzi:lq[i]=0:=by rw[<-yh hiq];exact hz i (by omega)
    refine⟨i,[.i ((i:Int)-1),.b bx,.i (nx:Int),.r (rI lx),.b b2,.i (ny:Int),.r (rI ly),.b false,.i ((max nq (i+1):Nat):Int),.r (rI (lq.set i d)),.b false,.i (n':Int),.r (rI l')],by omega,?_,Q*1000000000+d,_,_,_,_,rfl,by omega,hwq.setW (by omega) ⟨d4,d5⟩,d2,d3,?_,d7,?_,?_⟩
    ·simp only[q6c,s1,w1];simp only[STD,a1,a2,a3,a4,a5,a6,and_self,t1,d1,w2,w3,w4,qkH]
    ·rw[hX,Int.add_mul,Int.mul_add];have:Q*1000000000*mv ly=1000000000*(Q*mv ly):=by grind
     omega
    ·rw[qAy lq i hiq,hzi,hq,qby];grind
    ·intro a ha;rw[qLw,qLz (by omega),<-qLw];exact hz a (by omega))
  (ps:=[.i ((nx:Int)-1),.b bx,.i (nx:Int),.r (rI lx),.b b2,.i (ny:Int),.r (rI ly),.b false,.i 0,.r (rI (List.replicate 232 0)),.b false,.i 0,.r (rI (List.replicate 232 0))])
  ⟨0,0,_,0,_,rfl,qLy _,WOK.zero,WOK.zero,.inl rfl,by rw[vW hx.dig hx.z (qLy _),qgw];omega,by rw[qgw];exact hyp,by rw[qgw,Int.mul_zero],fun i _=>qxq 232 i⟩
 obtain⟨m,t1,t2,t3⟩:=qn5 g2 false;refine⟨m,lq,nr,lr,?_,t2,t3,g3,g4,g5,g6⟩;have hs:vN .i64 (nx:Int) 1=(nx:Int)-1:=wo (by omega);simp only[e0,hs];simp only[STD,g1,t1]
variable {m:Int}
theorem qKf {c:UInt8}{t:qLv}:qcW (c::t) 0 1=[c]:=by simp[qcW]
theorem qCP (s:qLv):(qZ [.s s,.s [45]]).run=some (0,[.b (decide (s.getD 0 0=45))]):=by
 rw[q7b];have h1:qD [45]=1:=rfl;cases s with
 | nil=>
  have a:¬(1:Int)<=qD []:=by decide
  simp only[STD,h1,a];rfl
 | cons c t=>
  have a:(1:Int)<=qD (c::t):=by unfold qD;simp only[qM0];omega
  simp only[STD,h1,a,show (0:Int)<=1 by omega,show (0:Int)<=0 by omega,and_self,qKf];have e:seq [c] [45]=decide ((c::t).getD 0 0=45):=by rw[Bool.eq_iff_iff,zr];simp
  rw[e]
theorem qvH (s:qLv):(zE [.s s,.s [45]]).run=some (0,[.s (mag s)]):=by
 rw[qiZ];have h:(zH [.s s,.s [45]]).run=some (0,[.s (mag s)]):=by
  rw[q6q];have h1:qD [45]=1:=rfl;unfold mag;by_cases h:s.getD 0 0=45
  ·rw[if_pos h];have a:(1:Int)<=qD s:=by
    cases s with
    | nil=>simp at h
    | cons c t=>unfold qD;simp only[qM0];omega
   have e:qcW s 1 (qD s)=s.drop 1:=by unfold qcW qD;simp
   simp only[STD,qCP,h,h1,a,and_self,qM3,show (0:Int)<=qD s by omega,show (0:Int)<=1 by omega,e]
  ·rw[if_neg h];simp only[STD,qCP,h]
 simp only[STD,h]
theorem qgt (s:qLv)(hl:s.length<=1000000000):(zy [.s s]).run=some (0,[.i (qyk s)]):=by
 rw[qtN];have hT:=qvH s;have hml:(mag s).length<=s.length:=by unfold mag;split<;>simp
 have hR:=qJr (mag s) (by omega);have hcan:=qwW s;unfold qyk;have hl3:(1024<qD (mag s))=¬((mag s).length<=1024):=by unfold qD;simp only[eq_iff_iff];omega
 by_cases hne:mag s=[]
 ·rw[if_neg (fun h=>(hcan.1 h).1 hne)];simp only[STD,hT,zr,hne]
 ·have hp:0<(mag s).length:=qN5.2 hne;have a1:(0:Int)<qD (mag s):=by unfold qD;omega
  have hs:sat (mag s) 0=((mag s)[0].toNat:Int):=qlp (i:=0) hp;have h48:((mag s)[0].toNat:Int)=48↔(mag s).getD 0 0=48:=by
   have:(mag s).getD 0 0=(mag s)[0]:=by simp[hp]
   rw[this];exact⟨fun h=>qNk.1 (by show (mag s)[0].toNat=48;omega),fun h=>by rw[h];rfl⟩
  by_cases hd:q6p (mag s)
  ·have hs1:((mag s).getD 0 0=48->s.length=1)↔(((mag s)[0].toNat:Int)=48->s=[48]):=by
    rw[h48];constructor
    ·intro h h2;obtain⟨c,e⟩:=List.length_eq_one_iff.1 (h h2);subst e;by_cases hc:c=45
     ·subst hc;exact absurd rfl hne
     ·have:mag [c]=[c]:=by unfold mag;rw[if_neg (by simpa using hc)]
      rw[this] at h2;simp at h2;rw[h2]
    ·intro h h2;rw[h h2];rfl
   by_cases hz:((mag s)[0].toNat:Int)=48
   ·by_cases h0:s=[48]
    ·rw[if_pos (hcan.2 ⟨hne,hd,hs1.2 fun _=>h0⟩)];by_cases hL:(mag s).length<=1024
     ·simp only[STD,hT,hR,zr,hne,qjn,hd,a1,hs,hz,hl3,hL,qM3,and_self];simp only[STD,h0]
     ·simp only[STD,hT,hR,zr,hne,qjn,hd,a1,hs,hz,hl3,hL,qM3,and_self];simp only[STD,h0]
    ·rw[if_neg (fun h=>h0 (hs1.1 (hcan.1 h).2.2 hz))];simp only[STD,hT,hR,zr,hne,qjn,hd,a1,hs,hz,h0,qM3,and_self]
   ·rw[if_pos (hcan.2 ⟨hne,hd,fun h=>absurd (h48.2 h) hz⟩)];by_cases hL:(mag s).length<=1024
    ·simp only[STD,hT,hR,zr,hne,qjn,hd,a1,hs,hz,hl3,hL,qM3,and_self]
    ·simp only[STD,hT,hR,zr,hne,qjn,hd,a1,hs,hz,hl3,hL,qM3,and_self]
  ·rw[if_neg (fun h=>hd (hcan.1 h).2.1)];simp only[STD,hT,hR,zr,hne,qjn,hd]
def okL(m:Int):Prop:=nl m<=1024
theorem qzI (h:okL m):qyk (tI m)=0:=by unfold qyk;rw[if_pos ⟨m,rfl⟩,qxl,if_pos (show (tN m.natAbs).length<=1024 from h)]
theorem qyM (h:okL m):(tI m).length<=1025:=by have:=qwK m;unfold okL nl at h;omega
theorem qmL (h:okL m):(zy [.s (tI m)]).run=some (0,[.i 0]):=by have:=qyM h;rw[qgt _ (by omega),qzI h]
def rS(l:List (List UInt8)):R:=l.map fun s=>[.s s]
theorem qup (l:List (List UInt8)):qh (rS l)=l.length:=by simp[rS,qh]
theorem qE8 {l:List (List UInt8)}{i:Nat}(h:i<l.length):cS (rS l) (i:Int) 0=l[i]:=by simp[cS,we,rS,h,U.toS]
theorem qJO {l:List (List UInt8)}(hn:l.length<1000000)(h:∀s,s∈l->(zy [.s s]).run=some (0,[.i 0])):(wX [.r (rS l)]).run=some (0,[.i 0]):=by
 rw[qxa,qup];have key:=qW (S:=q7F) (fun i=>[.r (rS l),.i (l.length:Int),.i (i:Int)]) (0,[]) l.length (by omega) (fun i hi=>by
  rw[qjX,qE8 hi];have a1:(i:Int)<(l.length:Int):=by omega
  have a2:(i:Int)<qh (rS l):=by rw[qup];exact a1
  simp only[STD,a1,a2,qcT,and_self,h _ (qM6 hi),kq hi (show l.length<9223372036854775808 by omega)]) (by
  rw[qjX];have a1:¬(l.length:Int)<(l.length:Int):=by omega
  simp only[STD,a1])
 simp only[show (((0:Nat)):Int)=0 from rfl] at key;simp only[STD,key,zU key]
theorem qgJ {m n:Int}(hm:okL m)(hn:okL n):(wX [.r [[.s (tI m)],[.s (tI n)]]]).run=some (0,[.i 0]):=by
 have:=qJO (l:=[tI m,tI n]) (by simp) (fun s hs=>by
  simp only[qLQ,qNT,or_false] at hs;rcases hs with rfl|rfl
  ·exact qmL hm
  ·exact qmL hn)
 exact this
theorem qeF (n:Int)(h:-9223372036854775808<=n/\n<=9223372036854775807):(vj [.i n]).run=some (0,[.s (tI n)]):=by rw[qyr];simp only[STD,qJc n h]
theorem qcj (m:Int):(tI m=[48])=(m=0):=propext ⟨fun h=>qxm (n:=0) h,fun h=>by rw[h];rfl⟩
theorem q34 (m:Int):(uw [.s (tI m)]).run=some (0,[.i (sgn m)]):=by
 rw[qv5];have a1:(0:Int)<qD (tI m):=by have:=qxp m;unfold qD;omega
 have hs:(sat (tI m) 0=45)=(m<0):=qA1 m;unfold sgn;by_cases h0:m=0
 ·simp only[STD,zr,qcj,h0];rfl
 ·by_cases h1:m<0
  ·simp only[STD,zr,qcj,h0,a1,hs,h1,qM3,and_self]
  ·simp only[STD,zr,qcj,h0,a1,hs,h1,qM3,and_self]
theorem qxc (h:okL m):(q9e [.s (tI m)]).run=some (0,[.i (sgn m),.i 0]):=by rw[qw1];simp only[STD,qmL h,q34]
theorem qHS (m n:Nat):(q7H [.s (tN m),.s (tN n)]).run=some (0,[.i (sgn ((m:Int)-(n:Int)))]):=by
 rw[qtA];have hl:(qD (tN m)=qD (tN n))=((tN m).length=(tN n).length):=by unfold qD;simp only[eq_iff_iff];omega
 have hl2:(qD (tN m)<qD (tN n))=((tN m).length<(tN n).length):=by unfold qD;simp only[eq_iff_iff];omega
 by_cases he:(tN m).length=(tN n).length
 ·have h:=qBP (wF m) (wF n) he;rw[q1k,q1k] at h;simp only[STD,hl,he,h]
 ·by_cases hlt:(tN m).length<(tN n).length
  ·have h:=(qzy m n).1 (.inl hlt);simp only[STD,hl,hl2,he,hlt];unfold sgn;rw[if_pos (by omega)]
  ·have h:=(qzy n m).1 (.inl (by omega));simp only[STD,hl,hl2,he,hlt];unfold sgn;rw[if_neg (by omega),if_neg (by omega)]
theorem qfd (m:Int):(m<0/\sgn m=-1)\/(m=0/\sgn m=0)\/(0<m/\sgn m=1):=by
 unfold sgn;rcases qN6 m 0 with h|h|h
 ·rw[if_pos h];omega
 ·subst h;simp
 ·rw[if_neg (by omega),if_neg (by omega)];omega
theorem qDw (m:Int):-1<=sgn m/\sgn m<=1:=by rcases qfd m with⟨_,e⟩|⟨_,e⟩|⟨_,e⟩<;>omega
theorem qIZ (m n:Int):(if sgn m<sgn n then -1 else if sgn n<sgn m then 1 else sgn m*sgn ((m.natAbs:Int)-(n.natAbs:Int)))=sgn (m-n):=by
 rcases qfd m with⟨a,ea⟩|⟨a,ea⟩|⟨a,ea⟩<;>rcases qfd n with⟨b,eb⟩|⟨b,eb⟩|⟨b,eb⟩<;>rw[ea,eb]<;>simp only[Int.reduceLT,Int.reduceNeg,if_true,if_false] <;>
  rcases qfd (m-n) with⟨c,ec⟩|⟨c,ec⟩|⟨c,ec⟩<;>rcases qfd ((m.natAbs:Int)-(n.natAbs:Int)) with⟨d,ed⟩|⟨d,ed⟩|⟨d,ed⟩<;>omega
theorem qi0 {m n:Int}(hm:okL m)(hn:okL n):(uS [.s (tI m),.s (tI n)]).run=some (0,[.i (sgn (m-n)),.i 0]):=by
 rw[qpR];have h1:=qvH (tI m);have h2:=qvH (tI n);rw[qxl] at h1 h2;have h3:=qHS m.natAbs n.natAbs;have hw:∀a b:Int,-1<=a/\a<=1->-1<=b/\b<=1->jw .i64 a b=a*b:=fun a b ha hb=>q7n (by have:=qKE (A:=1) (B:=1) ha.1 ha.2 hb.1 hb.2;omega);have ba:=qDw m;have bb:=qDw n;have bc:=qDw ((m.natAbs:Int)-(n.natAbs:Int));have e:=qIZ m n;by_cases c1:sgn m<sgn n
 ·rw[if_pos c1] at e;simp only[STD,qgJ hm hn,q34,h1,h2,h3,c1,<-e]
 ·rw[if_neg c1] at e;by_cases c2:sgn n<sgn m
  ·rw[if_pos c2] at e;simp only[STD,qgJ hm hn,q34,h1,h2,h3,c1,c2,<-e]
  ·rw[if_neg c2] at e;simp only[STD,qgJ hm hn,q34,h1,h2,h3,c1,c2,hw _ _ ba bc,<-e]
theorem qpn (m:Int)(hm:nl m<=2000):∃(n:Nat) (l:List Int),(vb [.s (tI m)]).run=some (0,[.b (decide (m<0)),.i (n:Int),.r (rI l)])/\WOK n l/\nrm n l/\mv l=m.natAbs/\9*n<=nl m+8:=by
 rw[qw9];have h1:=qvH (tI m);rw[qxl] at h1;have a1:(0:Int)<qD (tI m):=by have:=qxp m;unfold qD;omega
 have hb:ieq (sat (tI m) 0) 45=decide (m<0):=by rw[Bool.eq_iff_iff,qCM,qA1];simp
 have e0:q4n 232 [.i 0]=rI (List.replicate 232 0):=qlv 232 0;have hL:(tN m.natAbs).length<=2000:=hm;obtain⟨j,qs,g1,rfl,n,l,rfl,g2,g3,g4⟩:=yd (S:=q54) (fun k ps=>∃(n:Nat) (l:List Int),ps=[.s ((tN m.natAbs).take k),.b (decide (m<0)),.i (n:Int),.r (rI l)]/\k<=(tN m.natAbs).length/\WOK n l /\
   (k=0/\9*n<=(tN m.natAbs).length+8\/k+9*n=(tN m.natAbs).length)/\((val (tN m.natAbs):Nat):Int)=((val ((tN m.natAbs).take k):Nat):Int)*pB n+mv l)
  (fun j qs=>j=0/\∃(n:Nat) (l:List Int),qs=[.b (decide (m<0)),.i (n:Int),.r (rI l)]/\WOK n l/\mv l=m.natAbs/\9*n<=(tN m.natAbs).length+8) (n:=(tN m.natAbs).length) (by omega)
  (fun k ps hk ⟨n,l,hps,hkl,hw,hkn,hv⟩=>by
   subst hps;rw[qsF];have hlk:qD ((tN m.natAbs).take k)=(k:Int):=by unfold qD;rw[qMn,qMq hkl]
   rcases qMD k with rfl|hk0
   ·right;refine⟨0,[.b (decide (m<0)),.i (n:Int),.r (rI l)],?_,rfl,n,l,rfl,hw,?_,by omega⟩
    ·have a:¬(0:Int)<qD ((tN m.natAbs).take 0):=by rw[hlk];omega
     simp only[STD,a]
    ·rw[q1k,List.take_zero,qgA] at hv;simp at hv;omega
   ·left;have hn231:n<=231:=by omega
    obtain⟨q,hq,hq9⟩:∃q:Nat,qos 0 (vN .i64 (k:Int) 9)=(q:Int)/\q=k-9:=by refine⟨k-9,?_,rfl⟩;rw[wo (by omega)];unfold qos;split<;>omega
    have hqk:q<=k:=by omega
    have hsub:qcW ((tN m.natAbs).take k) (q:Int) (k:Int)=((tN m.natAbs).take k).drop q:=by unfold qcW;simp[List.take_take]
    have hsub2:qcW ((tN m.natAbs).take k) 0 (q:Int)=(tN m.natAbs).take q:=by unfold qcW;simp[List.take_take,qMq hqk]
    have hdg:q6p (((tN m.natAbs).take k).drop q):=qDK (qwC (wF _) k) q;have hdl:(((tN m.natAbs).take k).drop q).length=k-q:=by rw[qNz,qMn,qMq hkl]
    have hdn:((tN m.natAbs).take k).drop q≠[]:=by intro h;rw[h] at hdl;simp at hdl;omega
    have hA:=qEs (s:=((tN m.natAbs).take k).drop q) (by omega) (qxt hdg hdn);have hvl:=q7R hdg;rw[hdl] at hvl;have hv9:val (((tN m.natAbs).take k).drop q)<1000000000:=qMf hvl (by have:(10:Nat)^(k-q)<=10^9:=qN1 (by omega) (by omega);simpa using this);have b1:(0:Int)<(k:Int):=by omega
    have b2:(0:Int)<=(q:Int)/\(q:Int)<=(k:Int):=by omega
    have b3:(0:Int)<=(k:Int)/\(k:Int)<=(k:Int):=by omega
    have b4:(0:Int)<=(n:Int)/\(n:Int)<232:=by omega
    have b5:(0:Int)<=0/\(0:Int)<=(q:Int):=by omega
    have w1:qE .i64 (n:Int) 1=((n+1:Nat):Int):=by rw[zp (by omega)];omega
    have hnl:n<l.length:=by rw[hw.len];omega
    have hz:l[n]=0:=by rw[<-yh hnl];exact hw.z n (qLy _)
    have hW:=hw.setW (j:=n) (y:=((val (((tN m.natAbs).take k).drop q):Nat):Int)) (by omega) (by omega);rw[Nat.max_eq_right (by omega)] at hW;refine⟨q,[.s ((tN m.natAbs).take q),.b (decide (m<0)),.i ((n+1:Nat):Int),.r (rI (l.set n ((val (((tN m.natAbs).take k).drop q):Nat):Int)))],by omega,?_,n+1,_,rfl,by omega,hW,by omega,?_⟩
    ·simp only[STD,hlk,b1,hq,b2,b3,b4,b5,and_self,hsub,hsub2,hA,w1,qkH]
    ·rw[qAy l n hnl,hz,hv];have hsp:val ((tN m.natAbs).take k)=val ((tN m.natAbs).take q)*10^(k-q)+val (((tN m.natAbs).take k).drop q):=by
      have h1:(tN m.natAbs).take k=((tN m.natAbs).take k).take q++((tN m.natAbs).take k).drop q:=(qNO q _).symm;have h2:((tN m.natAbs).take k).take q=(tN m.natAbs).take q:=by rw[List.take_take,qMq hqk]
      rw[h2] at h1;generalize ((tN m.natAbs).take k).drop q=D at *;rw[h1,qwf,hdl]
     rw[hsp,qby];rcases qLF k 9 with h9|h9
     ·have:q=0:=by omega
      subst this;rw[List.take_zero,qgA];simp;omega
     ·have:k-q=9:=by omega
      rw[this];simp only[qNu,qMk];have e9:(((10:Nat)^9:Nat):Int)=1000000000:=by simp
      rw[e9];grind) (ps:=[.s ((tN m.natAbs).take (tN m.natAbs).length),.b (decide (m<0)),.i 0,.r (rI (List.replicate 232 0))])
  ⟨0,_,rfl,qLy _,WOK.zero,.inr (by omega),by rw[q7u,qMz,qgw];simp⟩
 rw[qMz] at g1;obtain⟨n2,t1,t2,t3⟩:=qn5 g2 (decide (m<0));refine⟨n2,l,?_,t2,t3,g3,?_⟩
 ·simp only[STD,e0,hb,h1,a1,qM3,and_self,g1,t1]
 ·have:=qL0 t2 t3 g2 (qM3 _);unfold nl;omega
end Go.Eng

namespace Go.Eng
variable {m:Int}{n:Nat}
theorem qIG {k n:Nat}(h:nl m<=k)(hk:k<=9*n):(m.natAbs:Int)<pB n:=by rw[qCI];have h1:=qL3 h;have h2:(10:Nat)^k<=10^(9*n):=qN1 (by omega) hk;omega
theorem quK (h:okL m):(m.natAbs:Int)<pB 114:=qIG (k:=1024) h (by omega)
theorem qvG (h:okL m):okL (-m):=by unfold okL;rw[qqN];exact h
theorem qEq:pB n+pB n<=pB (n+1):=by rw[qby];have:=qcR n;omega
theorem qJA {b:Bool}{l:List Int}(h:0<=mv l):((sv b l).natAbs:Int)=mv l:=by unfold sv;cases b<;>simp<;>omega
theorem qxk {l:List Int}(h:WOK n l)(hn:nrm n l)(b:Bool)(hk:okL (sv b l)):(wY [.b b,.i (n:Int),.r (rI l)]).run=some (0,[.s (tI (sv b l)),.i 0,.b b,.i (n:Int),.r (rI l)]):=by rw[qiA];simp only[STD,qAN h hn,qmL hk]
theorem qyJ (m n:Int):(uv [.s (tI m),.s (tI n)]).run=some (0,if (tI m).length<=9/\(tI n).length<=9 then [.i m,.i n,.b true] else [.i 0,.i 0,.b false]):=by
 rw[qt1];have h1:(9<qD (tI m))=¬(tI m).length<=9:=by unfold qD;simp only[eq_iff_iff];omega
 have h2:(9<qD (tI n))=¬(tI n).length<=9:=by unfold qD;simp only[eq_iff_iff];omega
 by_cases a:(tI m).length<=9
 ·by_cases b:(tI n).length<=9
  ·simp only[STD,h1,h2,a,b,and_self,qEs (s:=tI m) (by omega) (qEp m),qEs (s:=tI n) (by omega) (qEp n)]
  ·simp only[STD,h1,h2,a,b,and_false]
 ·simp only[STD,h1,a,false_and]
theorem qj8 (h:(tI m).length<=9):m.natAbs<1000000000:=by
 have:(tN m.natAbs).length<=9:=by
  unfold tI at h;split at h
  ·simp at h;omega
  ·exact h
 exact qMf (q7f this) (by simp)
theorem qB5 (n:Int)(h:-9223372036854775808<=n/\n<=9223372036854775807):(q0o [.i n]).run=some (0,[.s (tI n),.i 0]):=by rw[qsc];simp only[STD,qeF n h]
theorem qEM {l:List Int}(h:mv l=m.natAbs):sv (decide (m<0)) l=m:=by
 unfold sv;by_cases hm:m<0
 ·rw[decide_eq_true hm,if_pos rfl];omega
 ·rw[decide_eq_false hm,if_neg (by simp)];omega
theorem qKx {m n:Int}(hm:okL m)(hn:okL n)(hs:okL (m+n)):(qbY [.r [[.s (tI m)],[.s (tI n)]]]).run=some (0,[.s (tI (m+n)),.i 0]):=by
 rw[qww];have e0:q4n 232 [.i 0]=rI (List.replicate 232 0):=qlv 232 0;have lm:=quK hm;have ln:=quK hn;obtain⟨q1,l1,r1,w1,n1,v1,_⟩:=qpn m (by unfold okL at hm;omega);obtain⟨q2,l2,r2,w2,n2,v2,_⟩:=qpn n (by unfold okL at hn;omega);have hb2:=qer (show 115<=232 by omega);have hb1:pB 114+pB 114<=pB 115:=qEq;have hb0:=qcR 114;obtain⟨b1,k1,m1,a1,a2,a3,a4⟩:=qH6 (lx:=List.replicate 232 0) (nx:=0) WOK.zero (.inl rfl) w1 n1 (by rw[qgw,v1];omega) false (decide (m<0));rw[qEM v1] at a4;have a5:sv b1 m1=m:=by
  have:sv false (List.replicate 232 0)=0:=by unfold sv;rw[if_neg (by simp),qgw]
  rw[a4,this];omega
 obtain⟨b2,k2,m2,c1,c2,c3,c4⟩:=qH6 a2 a3 w2 n2 (by rw[<-qJA (b:=b1) a2.bd.1,a5,v2];omega) b1 (decide (n<0));rw[qEM v2,a5] at c4;have key:=qW (S:=q7t) (fun i=>match i with
  | 0=>[.r [[.s (tI m)],[.s (tI n)]],.i 2,.i 0,.b false,.i 0,.r (rI (List.replicate 232 0))]
  | 1=>[.r [[.s (tI m)],[.s (tI n)]],.i 2,.i 1,.b b1,.i (k1:Int),.r (rI m1)]
  | _=>[.r [[.s (tI m)],[.s (tI n)]],.i 2,.i 2,.b b2,.i (k2:Int),.r (rI m2)]) (0,[.b b2,.i (k2:Int),.r (rI m2)]) 2 (by omega) (fun i hi=>by
   have:i=0\/i=1:=by omega
   have d0:cS [[.s (tI m)],[.s (tI n)]] 0 0=tI m:=rfl;have d1:cS [[.s (tI m)],[.s (tI n)]] 1 0=tI n:=rfl;have d2:qh [[U.s (tI m)],[U.s (tI n)]]=2:=rfl;rcases this with rfl|rfl
   ·simp only;rw[qeh,d0,d2];simp only[show ((0:Nat):Int)=0 from rfl] at a1;have w:qE .i64 0 1=1:=by decide
    simp only[STD,r1,a1,w,show (0:Int)<2 by omega,show (0:Int)<=0 by omega,and_self]
   ·simp only;rw[qeh,d1,d2];have w:qE .i64 1 1=2:=by decide
    simp only[STD,r2,c1,w,show (1:Int)<2 by omega,show (0:Int)<=1 by omega,and_self]) (by
   simp only;rw[qeh];simp only[STD,show ¬(2:Int)<2 by omega])
 simp only at key;have hL:=qxk c2 c3 b2 (by rw[c4];exact hs);rw[c4] at hL;have d2:qh [[U.s (tI m)],[U.s (tI n)]]=2:=rfl;simp only[e0,d2];simp only[STD,key,hL]
theorem qJN {m n:Int}(hm:okL m)(hn:okL n)(hs:okL (m+n)):(q32 [.s (tI m),.s (tI n)]).run=some (0,[.s (tI (m+n)),.i 0]):=by
 rw[qxg];have h:=qyJ m n;by_cases hc:(tI m).length<=9/\(tI n).length<=9
 ·rw[if_pos hc] at h;have b1:=qj8 hc.1;have b2:=qj8 hc.2;have w:qE .i64 m n=m+n:=zp (by omega);simp only[STD,qgJ hm hn,h,w,qB5 (m+n) (by omega)]
 ·rw[if_neg hc] at h;simp only[STD,qgJ hm hn,h,qKx hm hn hs]
theorem qBr (hm:okL m):(q2d [.s (tI m)]).run=some (0,[.s (tI (-m))]):=by
 rw[qo5];have hl:=qyM hm;have hp:=qxp m;rcases qfd m with⟨h,e⟩|⟨h,e⟩|⟨h,e⟩
 ·have a1:(0:Int)<=qD (tI m)/\qD (tI m)<=qD (tI m):=by unfold qD;omega
  have a2:(0:Int)<=1/\1<=qD (tI m):=by unfold qD;omega
  have a3:qcW (tI m) 1 (qD (tI m))=tI (-m):=by unfold qcW qD;rw[qdn h,qlw (m:=-m) (by omega),Int.natAbs_neg];simp
  simp only[STD,q34,e,a1,a2,a3,and_self,show ¬((-1:Int)=0) by omega,show ¬((-1:Int)=1) by omega]
 ·simp only[STD,q34,e];rw[h];rfl
 ·have a1:qD [45]+qD (tI m)<=140737488355328:=by unfold qD;simp;omega
  have a3:qfl [45] (tI m)=tI (-m):=by unfold qfl;rw[qdn (m:=-m) (by omega),qlw (m:=m) (by omega),Int.natAbs_neg];rfl
  simp only[STD,q34,e,a1,a3,show ¬((1:Int)=0) by omega]
theorem qKP {m n:Int}(hm:okL m)(hn:okL n)(hs:okL (m-n)):(q8o [.s (tI m),.s (tI n)]).run=some (0,[.s (tI (m-n)),.i 0]):=by rw[qxJ];have h:=qJN hm (qvG hn) (by rwa [<-Int.sub_eq_add_neg]);rw[<-Int.sub_eq_add_neg] at h;simp only[STD,qgJ hm hn,qBr hn,h]
theorem qLg {m n:Int}(hm:okL m)(hn:okL n)(hs:okL (m*n)):(q5R [.s (tI m),.s (tI n)]).run=some (0,[.s (tI (m*n)),.i 0]):=by
 rw[qxI];have h:=qyJ m n;by_cases hc:(tI m).length<=9/\(tI n).length<=9
 ·rw[if_pos hc] at h;have b1:=qj8 hc.1;have b2:=qj8 hc.2;have b3:=qKE (A:=999999999) (B:=999999999) (a:=m) (b:=n) (by omega) (by omega) (by omega) (by omega);have w:jw .i64 m n=m*n:=q7n (by omega);simp only[STD,qgJ hm hn,h,w,qB5 (m*n) (by omega)]
 ·rw[if_neg hc] at h;unfold okL at hm hn;obtain⟨q1,l1,r1,w1,n1,v1,z1⟩:=qpn m (by omega);obtain⟨q2,l2,r2,w2,n2,v2,z2⟩:=qpn n (by omega);obtain⟨k,l,t1,t2,t3,t4⟩:=qId w1 w2 (by omega) (decide (m<0)) (decide (n<0));have hv:sv (!(Go.Eng.beq (decide (m<0)) (decide (n<0)))) l=m*n:=by
   unfold sv;rw[t4,v1,v2];have e:((m.natAbs:Int)*(n.natAbs:Int))=(((m*n).natAbs:Nat):Int):=by rw[qMK];simp
   rw[e];unfold Go.Eng.beq;rcases qN6 m 0 with a|a|a
   ·rcases qN6 n 0 with b|b|b
    ·have:=Int.mul_pos_of_neg_of_neg a b;simp[a,b];omega
    ·subst b;simp
    ·have:=Int.mul_neg_of_neg_of_pos a b;have b':¬n<0:=by omega
     simp[a,b'];omega
   ·subst a;simp
   ·have a':¬m<0:=by omega
    rcases qN6 n 0 with b|b|b
    ·have:=Int.mul_neg_of_pos_of_neg a b;simp[a',b];omega
    ·subst b;simp
    ·have:=Int.mul_pos a b;have b':¬n<0:=by omega
     simp[a',b'];omega
  have hL:=qxk t2 t3 (!(Go.Eng.beq (decide (m<0)) (decide (n<0)))) (by rw[hv];exact hs);rw[hv] at hL;simp only[STD,qgJ hm hn,h,r1,r2,t1,hL]
theorem qCU {l:List Int}(h:WOK n l)(hn:nrm n l){k:Nat}(hl:mv l<pB k):n<=k:=by
 rcases qLF k n with h1|h1
 ·have:=h.lo hn (by omega);have:=qer (show k<=n-1 by omega);omega
 ·exact h1
theorem qGd {k n:Int}(h0:n≠0)(hm:okL (k*n))(hn:okL n):(q4E [.s (tI (k*n)),.s (tI n)]).run=some (0,[.s (tI k),.s (tI 0),.i 0]):=by
 rw[qqy];have h:=qyJ (k*n) n;have hz:¬tI n=[48]:=by rw[qcj];exact h0
 by_cases hc:(tI (k*n)).length<=9/\(tI n).length<=9
 ·rw[if_pos hc] at h;have b1:=qj8 hc.1;have b2:=qj8 hc.2;have hk:k.natAbs<=(k*n).natAbs:=by rw[qMK];have:k.natAbs*1<=k.natAbs*n.natAbs:=Nat.mul_le_mul_left _ (by omega);omega
  have w1:qcL (k*n) n=0:=by unfold qcL;exact Int.mul_tmod_left k n
  have w2:qdm .i64 (k*n) n=k:=by rw[qME];exact qjp h0 (by omega)
  simp only[STD,qgJ hm hn,zr,hz,h,h0,w1,w2,qeF k (by omega),qeF 0 (by omega)]
 ·rw[if_neg hc] at h;have lm:=quK hm;have ln:=quK hn;obtain⟨q1,l1,r1,w1,n1,v1,z1⟩:=qpn (k*n) (by unfold okL at hm;omega);obtain⟨q2,l2,r2,w2,n2,v2,z2⟩:=qpn n (by unfold okL at hn;omega);have hq2:q2<=114:=qCU w2 n2 (by omega);have hq0:q2≠0:=fun h=>by rw[qnD w2 n2] at h;omega
  obtain⟨nq,lq,nr,lr,d1,d2,d3,d4,d5,d6,d7⟩:=qi5 w1 w2 n2 hq0 (by omega) (decide (k*n<0)) (decide (n<0));have e1:((k*n).natAbs:Int)=(k.natAbs:Int)*(n.natAbs:Int):=by rw[qMK];simp
  rw[v1,v2,e1] at d6;rw[v2] at d7;have b4:=d4.bd.1;have hr0:mv lr=0/\mv lq=k.natAbs:=by
   have hn0:(0:Int)<(n.natAbs:Int):=by omega
   have e2:((k.natAbs:Int)-mv lq)*(n.natAbs:Int)=mv lr:=by rw[Int.sub_mul];omega
   rcases qN6 ((k.natAbs:Int)-mv lq) 0 with a|a|a
   ·have:=Int.mul_neg_of_neg_of_pos a hn0;omega
   ·rw[a,Int.zero_mul] at e2;omega
   ·have:=qNw (show 1<=(k.natAbs:Int)-mv lq by omega) (show 0<=(n.natAbs:Int) by omega);omega
  have hnr:nr=0:=by rw[qnD d4 d5];exact hr0.1
  have hv:sv (!(Go.Eng.beq (decide (k*n<0)) (decide (n<0)))) lq=k:=by
   unfold sv;rw[hr0.2];unfold Go.Eng.beq;rcases qN6 k 0 with a|a|a
   ·rcases qN6 n 0 with b|b|b
    ·have:=Int.mul_pos_of_neg_of_neg a b;have c:¬k*n<0:=by omega
     simp[b,c];omega
    ·exact absurd b h0
    ·have c:=Int.mul_neg_of_neg_of_pos a b;have b':¬n<0:=by omega
     simp[b',c];omega
   ·subst a;simp
   ·rcases qN6 n 0 with b|b|b
    ·have c:=Int.mul_neg_of_pos_of_neg a b;simp[b,c];omega
    ·exact absurd b h0
    ·have:=Int.mul_pos a b;have c:¬k*n<0:=by omega
     have b':¬n<0:=by omega
     simp[b',c];omega
  have hT:=qAN d2 d3 (!(Go.Eng.beq (decide (k*n<0)) (decide (n<0))));rw[hv] at hT;have hT2:=qAN d4 d5 (decide (k*n<0));have hv0:sv (decide (k*n<0)) lr=0:=by unfold sv;rw[hr0.1];split<;>rfl
  rw[hv0] at hT2;have hnr':¬(0:Int)<(nr:Int):=by omega
  simp only[STD,qgJ hm hn,zr,hz,h,r1,r2,d1,hnr',hT,hT2]
theorem qGY {m n:Int}(h:m.natAbs<=n.natAbs)(hn:okL n):okL m:=qLA (q05 h) hn
theorem qKT {k n:Int}(h0:n≠0)(hm:okL (k*n))(hn:okL n):(q89 [.s (tI (k*n)),.s (tI n)]).run=some (0,[.s (tI k),.i 0]):=by rw[qwQ];have hk:okL k:=qGY (by rw[qMK];have:k.natAbs*1<=k.natAbs*n.natAbs:=Nat.mul_le_mul_left _ (by omega);omega) hm;simp only[STD,qGd h0 hm hn,qmL hk]
theorem qCK (a b:Nat)(hb:b<9223372036854775808):(qf q2p [.i (a:Int),.i (b:Int)]).run=some (0,[.i ((Nat.gcd a b:Nat):Int)]):=by
 obtain⟨j,qs,h1,rfl,rfl⟩:=yd (S:=q2p) (fun k ps=>∃x y:Nat,ps=[.i (x:Int),.i (y:Int)]/\y=k/\Nat.gcd x y=Nat.gcd a b)
  (fun j qs=>j=0/\qs=[.i ((Nat.gcd a b:Nat):Int)]) (n:=b) hb (fun k ps hk ⟨x,y,hps,hy,hg⟩=>by
  subst hps;rw[qrt];by_cases h0:y=0
  ·right;refine⟨0,[.i (x:Int)],?_,rfl,?_⟩
   ·simp only[STD,h0];simp[]
   ·rw[<-hg,h0,Nat.gcd_zero_right]
  ·left;refine⟨x%y,[.i (y:Int),.i ((x%y:Nat):Int)],by rw[<-hy];exact qML _ (by omega),?_,y,x%y,rfl,rfl,?_⟩
   ·simp only[STD,show ¬((y:Int)=0) by omega,qqa]
   ·rw[<-hg,qN2 y,<-Nat.gcd_rec,qN2]) (ps:=[.i (a:Int),.i (b:Int)]) ⟨a,b,rfl,rfl,rfl⟩
 exact h1
theorem qGZ {l:List Int}(h:WOK n l)(hn:n<=1):mv l=l.getD 0 0:=by
 have:=qcQ l 1 (by rw[h.len];omega);rw[vW h.dig h.z hn,Int.mul_zero,Int.add_zero] at this;have hl:=h.len;obtain⟨x,t,rfl⟩:∃x t,l=x::t:=by
  cases l with
  | nil=>simp at hl
  | cons x t=>exact⟨x,t,rfl⟩
 rw[this];simp[mv]
theorem qJv {m n:Int}(hm:okL m)(hn:okL n):(q30 [.s (tI m),.s (tI n)]).run=some (0,[.s (tN (Nat.gcd m.natAbs n.natAbs)),.i 0]):=by
 rw[qy8];have lm:=quK hm;have ln:=quK hn;obtain⟨q1,l1,r1,w1,n1,v1,_⟩:=qpn m (by unfold okL at hm;omega);obtain⟨q2,l2,r2,w2,n2,v2,_⟩:=qpn n (by unfold okL at hn;omega);have hm':(tN m.natAbs).length<=1024:=hm;have hn':(tN n.natAbs).length<=1024:=hn;obtain⟨j,qs,g1,g2⟩:=yd (S:=q7l) (fun k ps=>∃(x y:Nat) (b1 b2:Bool) (nx ny:Nat) (lx ly:List Int),ps=[.b b1,.i (nx:Int),.r (rI lx),.b b2,.i (ny:Int),.r (rI ly)] /\
   WOK nx lx/\nrm nx lx/\WOK ny ly/\nrm ny ly/\mv lx=x/\mv ly=y/\eM x y=k/\Nat.gcd x y=Nat.gcd m.natAbs n.natAbs/\(x:Int)<pB 114/\(y:Int)<pB 114)
  (fun j qs=>(j=0/\∃(b:Bool) (n':Nat) (l:List Int),qs=[.b b,.i (n':Int),.r (rI l)]/\WOK n' l/\nrm n' l/\mv l=((Nat.gcd m.natAbs n.natAbs:Nat):Int))\/(j=1/\qs=[.s (tN (Nat.gcd m.natAbs n.natAbs)),.i 0])) (n:=eM m.natAbs n.natAbs) (qAp (by omega) (by omega))
  (fun k ps hk ⟨x,y,b1,b2,nx,ny,lx,ly,hps,hw,hnw,hw2,hn2,hx,hy,he,hg,lx1,ly1⟩=>by
  subst hps;rw[qtf];have hxl:=hw.len;have hyl:=hw2.len;by_cases h0:ny=0
  ·right;have hy0:mv ly=0:=by rw[<-qnD hw2 hn2];exact h0
   have hy0':y=0:=by omega
   refine⟨0,[.b b1,.i (nx:Int),.r (rI lx)],?_,.inl ⟨rfl,b1,nx,lx,rfl,hw,hnw,?_⟩⟩
   ·simp only[STD,h0,show ¬(0:Int)<((0:Nat):Int) by omega]
   ·rw[hx,<-hg,hy0',Nat.gcd_zero_right]
  ·have a0:(0:Int)<(ny:Int):=by omega
   have hy0:y≠0:=fun h=>h0 (by rw[qnD hw2 hn2];omega);by_cases hc:nx<=1/\ny<=1
   ·right;have e1:=qGZ hw hc.1;have e2:=qGZ hw2 hc.2;have d1:cI (rI lx) 0 0=(x:Int):=by rw[show (0:Int)=((0:Nat):Int) from rfl,q6c,<-e1,hx]
    have d2:cI (rI ly) 0 0=(y:Int):=by rw[show (0:Int)=((0:Nat):Int) from rfl,q6c,<-e2,hy]
    have hy9:=hw2.get 0;rw[<-e2,hy] at hy9;have hE:=qCK x y (by omega);have hgl:Nat.gcd x y<=y:=Nat.gcd_le_right _ (by omega);have hO:=qeF ((Nat.gcd x y:Nat):Int) (by omega);rw[q28] at hO;have c1:(nx:Int)<=1:=by omega
    have c2:(ny:Int)<=1:=by omega
    refine⟨1,[.s (tN (Nat.gcd x y)),.i 0],?_,.inr ⟨rfl,by rw[hg]⟩⟩;simp only[STD,a0,c1,c2,d1,d2,hE,hO]
   ·left;have hny:ny<=114:=qCU hw2 hn2 (by omega);obtain⟨nq,lq,nr,lr,d1,d2,d3,d4,d5,d6,d7⟩:=qi5 hw hw2 hn2 h0 (by omega) b1 b2;have hr:mv lr=((x%y:Nat):Int):=by
     have b4:=d4.bd.1;rw[hx,hy] at d6;rw[hy] at d7;have hy1:(0:Int)<(y:Int):=by omega
     have:=(Int.ediv_emod_unique hy1 (a:=(x:Int)) (r:=mv lr) (q:=mv lq)).2 ⟨by rw[qME];omega,b4,d7⟩;rw[<-this.2];simp
    refine⟨eM y (x%y),[.b b2,.i (ny:Int),.r (rI ly),.b false,.i (nr:Int),.r (rI lr)],by rw[<-he];exact qD4 hy0,?_,y,x%y,b2,false,ny,nr,ly,lr,rfl,hw2,hn2,d4,d5,hy,hr,rfl,?_,ly1,?_⟩
    ·by_cases c1:nx<=1
     ·have c2:¬(ny:Int)<=1:=by omega
      have c1':(nx:Int)<=1:=by omega
      simp only[STD,a0,c1',c2,d1]
     ·have c1':¬(nx:Int)<=1:=by omega
      simp only[STD,a0,c1',d1]
    ·rw[<-hg,qN2 y,<-Nat.gcd_rec,qN2]
    ·have:=qML x (show 0<y by omega);omega) (ps:=[.b (decide (m<0)),.i (q1:Int),.r (rI l1),.b (decide (n<0)),.i (q2:Int),.r (rI l2)])
  ⟨m.natAbs,n.natAbs,_,_,q1,q2,l1,l2,rfl,w1,n1,w2,n2,v1,v2,rfl,rfl,lm,ln⟩
 rcases g2 with⟨rfl,b,n',l,rfl,a1,a2,a3⟩|⟨rfl,rfl⟩
 ·have hT:=qAN a1 a2 false;have hv:sv false l=((Nat.gcd m.natAbs n.natAbs:Nat):Int):=by unfold sv;rw[a3];rfl
  rw[hv,q28] at hT;simp only[STD,qgJ hm hn,r1,r2,g1,zU g1,hT]
 ·simp only[STD,qgJ hm hn,r1,r2,g1,zU g1,show ¬(1=0) by omega]
end Go.Eng

namespace Go.Eng
variable {q:Rat}
theorem qF3:okL 1:=by show nl 1<=1024;decide
theorem qFV:okL 0:=by show nl 0<=1024;decide
theorem qKr (s:qLv)(hl:s.length<=1000000000):(q6K [.s s,.s [47]]).run=some (0,if sP s<s.length then [.s (s.take (sP s)),.s (s.drop (sP s+1)),.b true] else [.s s,.s [],.b false]):=by
 rw[qsR];have h:(wW [.s s,.s [47]]).run=some (0,if sP s<s.length then [.s (s.take (sP s)),.s (s.drop (sP s+1)),.b true] else [.s s,.s [],.b false]):=by
  rw[qbZ];have hI:=qI0 s;by_cases hc:sP s<s.length
  ·rw[if_pos hc] at hI ⊢;have w:qE .i64 (sP s:Int) (qD [47])=((sP s+1:Nat):Int):=by show qE .i64 (sP s:Int) 1=_;rw[zp (by omega)];omega
   have a1:(0:Int)<=(sP s:Int)/\(sP s:Int)<=qD s:=by unfold qD;omega
   have a2:(0:Int)<=0/\(0:Int)<=(sP s:Int):=by omega
   have a3:(0:Int)<=qD s/\qD s<=qD s:=by unfold qD;omega
   have a4:(0:Int)<=((sP s+1:Nat):Int)/\((sP s+1:Nat):Int)<=qD s:=by unfold qD;omega
   have e1:qcW s 0 (sP s:Int)=s.take (sP s):=by unfold qcW;simp
   have e2:qcW s ((sP s+1:Nat):Int) (qD s)=s.drop (sP s+1):=by unfold qcW qD;simp only[qLG];rw[qMz]
   simp only[STD,hI,a1.1,a1.2,a2,a3,a4,and_self,w,e1,e2]
  ·rw[if_neg hc] at hI ⊢;have a:¬(0:Int)<=-1:=by omega
   simp only[STD,hI,a]
 by_cases hc:sP s<s.length
 ·rw[if_pos hc] at h ⊢;simp only[STD,h]
 ·rw[if_neg hc] at h ⊢;simp only[STD,h]
theorem qJT (s:qLv)(hl:s.length<=1000000000):(zv [.s s]).run=some (0,[.s (spn s),.s (spd s),.b (decide (sP s<s.length))]):=by
 rw[qxd];have h:=qKr s hl;unfold spn spd;by_cases hc:sP s<s.length
 ·rw[if_pos hc] at h ⊢;rw[decide_eq_true hc];simp only[STD,h]
 ·rw[if_neg hc] at h ⊢;have:sP s=s.length:=by have:=qI9 s;omega
  rw[decide_eq_false hc,this,qMz];simp only[STD,h]
theorem qJM (q:Rat):(sP (tQ q)<(tQ q).length)=(q.den≠1):=by
 by_cases h:q.den=1
 ·rw[qir h,qwk (qt4 _)];simp[h]
 ·rw[qei h,qDq (qt4 _)];simp[h]
def okQ(q:Rat):Prop:=qn q<=1024/\qd q<=1024
theorem q8C (h:okQ q):okL q.num:=h.1
theorem q5M (h:okQ q):okL (q.den:Int):=h.2
theorem qdD (h:okQ q):(tQ q).length<=3000:=by have:=qHk q;have:=h.1;have:=h.2;omega
theorem qil (h:okQ q):(zv [.s (tQ q)]).run=some (0,[.s (tI q.num),.s (tI (q.den:Int)),.b (decide (q.den≠1))]):=by have:=qdD h;rw[qJT _ (by omega),qDm,qDj,q28];simp only[qJM]
open Classical in
noncomputable def vI(s:qLv):Int:=if h:∃m:Int,s=tI m then h.choose else 0
theorem qDX (m:Int):vI (tI m)=m:=by unfold vI;have h:∃k:Int,tI m=tI k:=⟨m,rfl⟩;rw[dif_pos h];exact(qxm h.choose_spec).symm
theorem qvI {s:qLv}(h:qyk s=0):∃m:Int,s=tI m/\okL m:=by
 unfold qyk at h;split at h
 ·rename_i hm;obtain⟨m,rfl⟩:=hm;rw[qxl] at h;split at h
  ·rename_i hl;exact⟨m,rfl,hl⟩
  ·omega
 ·omega
theorem qlO (s:qLv):qyk s=0\/qyk s=3\/qyk s=11:=by
 unfold qyk;split
 ·split<;>simp
 ·simp
noncomputable def qGR(s:qLv):Int:=
 if qyk (spn s)=3 then 3 else if qyk (spd s)=3 then 3 else if qyk (spn s)≠0 then 11 else if qyk (spd s)≠0 then 11
 else if sP s<s.length then (if sgn (vI (spd s)-1)<=0 then 3 else if Nat.gcd (vI (spn s)).natAbs (vI (spd s)).natAbs=1 then 0 else 3) else 0
theorem qH1 (s:qLv):(spn s).length<=s.length:=by unfold spn;rw[qMn];omega
theorem qHo (s:qLv):(spd s).length<=s.length+1:=by unfold spd;split<;>simp<;>omega
theorem qmm (s:qLv)(hl:s.length<=100000000):(zI [.s s]).run=some (0,[.i (qGR s)]):=by
 rw[qtr];have hn:=qH1 s;have hd:=qHo s;have h1:=qgt (spn s) (by omega);have h2:=qgt (spd s) (by omega);have hc:=qJT s (by omega);have mx:qos 11 0=11/\qos 11 11=11/\qos 0 11=11:=by decide
 unfold qGR;rcases qlO (spn s) with a|a|a<;>rcases qlO (spd s) with b|b|b<;>rw[a] at h1 ⊢<;>rw[b] at h2 ⊢
 ·obtain⟨m,em,om⟩:=qvI a;obtain⟨n,en,on⟩:=qvI b;rw[em] at h1 hc ⊢;rw[en] at h2 hc ⊢;have hC:=qi0 on (n:=1) qF3;rw[qDs] at hC;have hG:=qJv om on;rw[qDX,qDX];by_cases hs:sP s<s.length
  ·by_cases ho:sgn (n-1)<=0
   ·simp only[STD,hc,h1,h2,hs,hC,hG,ho,show ¬((0:Int)=3) by omega,show ¬((0:Int)≠0) by omega]
   ·by_cases hg:Nat.gcd m.natAbs n.natAbs=1
    ·simp only[STD,hc,h1,h2,hs,hC,hG,ho,hg,zr,q6n,show ¬((0:Int)=3) by omega,show ¬((0:Int)≠0) by omega]
    ·simp only[STD,hc,h1,h2,hs,hC,hG,ho,hg,zr,q6n,show ¬((0:Int)=3) by omega,show ¬((0:Int)≠0) by omega]
  ·simp only[STD,hc,h1,h2,hs,show ¬((0:Int)=3) by omega,show ¬((0:Int)≠0) by omega]
 all_goals simp only[STD,hc,h1,h2,mx,show ¬((0:Int)=3) by omega,show ¬((11:Int)=3) by omega,show ¬((11:Int)=0) by omega,show ¬((3:Int)=0) by omega]
theorem q6B (s:qLv)(hl:s.length<=100000000):(zg [.s s]).run=some (0,[.i (qGR s)]):=by
 rw[qtE];have hn:=qH1 s;have hd:=qHo s;have h1:=qmA (spn s) (by omega);have h2:=qmA (spd s) (by omega);have hc:=qDt s (by omega);have hsl:=qDO s (by omega);unfold qGR;rcases qlO (spn s) with a|a|a<;>rcases qlO (spd s) with b|b|b<;>rw[a] at h1 ⊢<;>rw[b] at h2 ⊢
 ·obtain⟨m,em,om⟩:=qvI a;obtain⟨n,en,on⟩:=qvI b;rw[em] at h1 hc ⊢;rw[en] at h2 hc ⊢;unfold okL at om on;have hC:=qn8 n 1 (by omega) (by decide);rw[qDs] at hC;have hG:=qjP m n (by omega) (by omega);rw[qDX,qDX];by_cases hs:sP s<s.length
  ·rw[if_pos hs] at hsl;have a0:(0:Int)<=(sP s:Int):=by omega
   by_cases ho:sgn (n-1)<=0
   ·simp only[STD,hc,h1,h2,hsl,hs,a0,hC,hG,ho,show ¬((0:Int)=3) by omega]
   ·by_cases hg:Nat.gcd m.natAbs n.natAbs=1
    ·simp only[STD,hc,h1,h2,hsl,hs,a0,hC,hG,ho,hg,zr,q6n,show ¬((0:Int)=3) by omega]
    ·simp only[STD,hc,h1,h2,hsl,hs,a0,hC,hG,ho,hg,zr,q6n,show ¬((0:Int)=3) by omega]
  ·rw[if_neg hs] at hsl;simp only[STD,hc,h1,h2,hsl,hs,show ¬((0:Int)=3) by omega,show ¬((0:Int)<=-1) by omega]
 all_goals simp only[STD,hc,h1,h2,show ¬((0:Int)=3) by omega,show ¬((11:Int)=3) by omega,show ¬((11:Int)=0) by omega,show ¬((3:Int)=0) by omega]
theorem q9t (h:okQ q):qGR (tQ q)=0:=by
 unfold qGR;have e1:spd (tQ q)=tI (q.den:Int):=by rw[qDj,q28]
 rw[qDm,e1,qzI (q8C h),qzI (q5M h)];simp only[qDX,qJM];by_cases hd:q.den=1
 ·simp[hd]
 ·have:=q.den_nz;have hs:¬sgn ((q.den:Int)-1)<=0:=by unfold sgn;rw[if_neg (by omega),if_neg (by omega)];omega
  have hr:Nat.gcd q.num.natAbs q.den=1:=q.reduced;simp[hd,hs,hr]
theorem qrG {l:List (List UInt8)}(hn:l.length<1000000)(h:∀s,s∈l->(zI [.s s]).run=some (0,[.i 0])):(qX [.r (rS l)]).run=some (0,[.i 0]):=by
 rw[qqO,qup];have key:=qW (S:=q29) (fun i=>[.r (rS l),.i (l.length:Int),.i (i:Int)]) (0,[]) l.length (by omega) (fun i hi=>by
  rw[qeN,qE8 hi];have a1:(i:Int)<(l.length:Int):=by omega
  have a2:(i:Int)<qh (rS l):=by rw[qup];exact a1
  simp only[STD,a1,a2,qcT,and_self,h _ (qM6 hi),kq hi (show l.length<9223372036854775808 by omega)]) (by
  rw[qeN];have a1:¬(l.length:Int)<(l.length:Int):=by omega
  simp only[STD,a1])
 simp only[show (((0:Nat)):Int)=0 from rfl] at key;simp only[STD,key,zU key]
theorem qay (h:okQ q):(zI [.s (tQ q)]).run=some (0,[.i 0]):=by have:=qdD h;rw[qmm _ (by omega),q9t h]
theorem qiG {a b:Rat}(ha:okQ a)(hb:okQ b):(qX [.r [[.s (tQ a)],[.s (tQ b)]]]).run=some (0,[.i 0]):=by
 exact qrG (l:=[tQ a,tQ b]) (by simp) (fun s hs=>by
  simp only[qLQ,qNT,or_false] at hs;rcases hs with rfl|rfl
  ·exact qay ha
  ·exact qay hb)
theorem qI8 {m n:Int}(hm:okL m)(hn:okL n)(h:okL (m+n)):(q2g [.s (tI m),.s (tI n),.i 0]).run=some (0,[.s (tI (m+n)),.i 0]):=by
 rw[qnN];have:(vw [.s (tI m),.s (tI n),.i 0]).run=some (0,[.s (tI (m+n)),.i 0]):=by rw[qcG];simp only[STD,qJN hm hn h]
 simp only[STD,this]
theorem qD2 {m n:Int}(hm:okL m)(hn:okL n)(h:okL (m-n)):(jz [.s (tI m),.s (tI n),.i 0]).run=some (0,[.s (tI (m-n)),.i 0]):=by
 rw[qnO];have:(vD [.s (tI m),.s (tI n),.i 0]).run=some (0,[.s (tI (m-n)),.i 0]):=by rw[qcE];simp only[STD,qKP hm hn h]
 simp only[STD,this]
theorem qIS {m n:Int}(hm:okL m)(hn:okL n)(h:okL (m*n)):(wd [.s (tI m),.s (tI n),.i 0]).run=some (0,[.s (tI (m*n)),.i 0]):=by rw[qcO];simp only[STD,qLg hm hn h]
theorem qIt {m n:Int}(hm:okL m)(hn:okL n):(vn [.s (tI m),.s (tI n),.i 0]).run=some (0,[.s (tN (Nat.gcd m.natAbs n.natAbs)),.i 0]):=by rw[qcF];simp only[STD,qJv hm hn]
theorem qv7 {k n:Int}(h0:n≠0)(hm:okL (k*n))(hn:okL n):(zn [.s (tI (k*n)),.s (tI n),.i 0]).run=some (0,[.s (tI k),.i 0]):=by rw[qcP];simp only[STD,qKT h0 hm hn]
def prd:Int->List Int->Int
 | a,[]=>a
 | a,m::l=>prd (a*m) l
def qI2:Int->List Int->Prop
 | a,[]=>okL a
 | a,m::l=>okL a/\okL m/\qI2 (a*m) l
theorem qD3:∀(l:List Int) (pre:List Int) (a:Int),qI2 a l->pre.length+l.length<1000->∀f,l.length<f ->
  (qmc yF f [.s (tI a),.r (rS ((pre++l).map tI)),.i ((pre++l).length:Int),.i (pre.length:Int),.i 0]).run=some (0,[.s (tI (prd a l)),.i 0])
 | [],pre,a,h,hl,f,hf=>by
  obtain⟨f,rfl⟩:∃g,f=g+1:=⟨f-1,by simp at hf;omega⟩;refine qns ?_;rw[qbB,qMr];have a1:¬(pre.length:Int)<(pre.length:Int):=by omega
  simp only[STD,a1];rfl
 | m::l,pre,a,h,hl,f,hf=>by
  obtain⟨f,rfl⟩:∃g,f=g+1:=⟨f-1,by simp at hf;omega⟩;obtain⟨h1,h2,h3⟩:=h;have hlt:pre.length<(pre++m::l).length:=by simp
  have ih:=qD3 l (pre++[m]) (a*m) h3 (by simp at hl ⊢;omega) f (by simp at hf;omega);rw[qM2,List.singleton_append] at ih;have hok:okL (a*m):=by
   cases l with
   | nil=>exact h3
   | cons x l=>exact h3.1
  rw[qvS (qs:=[.s (tI (a*m)),.r (rS ((pre++m::l).map tI)),.i ((pre++m::l).length:Int),.i ((pre++[m]).length:Int),.i 0])]
  ·exact ih
  ·rw[qbB];have hlt2:pre.length<((pre++m::l).map tI).length:=by simp
   rw[qE8 hlt2];have e:((pre++m::l).map tI)[pre.length]=tI m:=by simp
   rw[e];have a1:(pre.length:Int)<((pre++m::l).length:Int):=by omega
   have a2:(pre.length:Int)<qh (rS ((pre++m::l).map tI)):=by rw[qup];omega
   have w:qE .i64 (pre.length:Int) 1=((pre++[m]).length:Int):=by rw[zp (by omega)];simp
   simp only[STD,a1,a2,qcT,and_self,qIS h1 h2 hok,w]
theorem qJH (l:List Int)(h:qI2 1 l)(hl:l.length<1000):(qB [.r (rS (l.map tI)),.i 0]).run=some (0,[.s (tI (prd 1 l)),.i 0]):=by
 rw[qoL,qup];have h1:=qD3 l [] 1 h (by simp;omega) qp1 (by unfold qp1;omega);simp only[qMO,qMh] at h1;have e:(qf yF [.s [49],.r (rS (l.map tI)),.i ((l.map tI).length:Int),.i 0,.i 0]).run=some (0,[.s (tI (prd 1 l)),.i 0]):=by rw[qLE];exact h1
 simp only[STD,e]
theorem qgS {m n:Int}(hm:okL m)(hn:okL n)(h:okL (m*n)):(qB [.r [[.s (tI m)],[.s (tI n)]],.i 0]).run=some (0,[.s (tI (m*n)),.i 0]):=by have:=qJH [m,n] ⟨qF3,hm,by rw[qMR];exact hm,hn,by rw[qMR];exact h⟩ (by simp);simp only[prd,qMR] at this;exact this
theorem qx7 (h:okQ q):(q2t [.s (tI q.num),.s (tI (q.den:Int))]).run=some (0,[.s (tQ q)]):=by
 rw[qsp,q28];have l1:=qyM (q8C h);have l2:(tN q.den).length<=1024:=h.2;have a1:qD (tI q.num)+qD [47]<=140737488355328:=by unfold qD;simp;omega
 have a2:qD (qfl (tI q.num) [47])+qD (tN q.den)<=140737488355328:=by unfold qD qfl;simp;omega
 by_cases h1:q.den=1
 ·simp only[STD,zr,q6n,h1,qir h1]
 ·simp only[STD,zr,q6n,h1,qei h1,a1,a2];simp[qfl]
theorem qGX (s:qLv):(ka [.s s,.s [45]]).run=some (0,[.b (decide (s.getD 0 0=45))]):=by rw[qjD];simp only[STD,qCP]
theorem qKa (n:Int):((tI n).getD 0 0=45)=(n<0):=by
 by_cases h:n<0
 ·rw[qdn h];simp[h]
 ·rw[qlw h];obtain⟨c,t,e,h1,h2⟩:=qj5 (wF n.natAbs) (qsd _);rw[e];simp only[qN0,h,eq_iff_iff,iff_false];intro hc;subst hc;revert h1;decide
theorem qqq {m n:Int}(hn0:n≠0)(hm:okL m)(hn:okL n):(zt [.s (tI m),.s (tI n),.i 0]).run=some (0,[.s (tQ (Rat.divInt m n)),.i 0])/\okQ (Rat.divInt m n):=by
 have hG:=qIt hm hn;have hg0:0<Nat.gcd m.natAbs n.natAbs:=Nat.gcd_pos_of_pos_right _ (by omega);have hgn:Nat.gcd m.natAbs n.natAbs<=n.natAbs:=Nat.gcd_le_right _ (by omega);have hnum:=Rat.num_divInt m n;have hden:=Rat.den_divInt m n;rw[if_neg hn0] at hden;have hgc:Int.gcd n m=Nat.gcd m.natAbs n.natAbs:=by unfold Int.gcd;exact qN2 _ _
 rw[hgc] at hnum hden;obtain⟨k,hk⟩:((Nat.gcd m.natAbs n.natAbs:Nat):Int) ∣ m:=Int.ofNat_dvd_left.2 (Nat.gcd_dvd_left _ _);obtain⟨l,hl⟩:((Nat.gcd m.natAbs n.natAbs:Nat):Int) ∣ n:=Int.ofNat_dvd_left.2 (Nat.gcd_dvd_right _ _);generalize Nat.gcd m.natAbs n.natAbs=g at *;generalize Rat.divInt m n=q at *;have hgok:okL (g:Int):=qGY (by simpa using hgn) hn;have hm2:k*(g:Int)=m:=by rw[qME];exact hk.symm
 have hn2:l*(g:Int)=n:=by rw[qME];exact hl.symm
 have hgz:(g:Int)≠0:=by omega
 have hok:okQ q:=by
  constructor
  ·refine qLA (qoI ?_) hm;rw[hnum];refine qLA (qND _ _) ?_;rw[qMK,qNV hn0];omega
  ·refine qLA (q05 ?_) hn;rw[hden];exact qNv _ _
 refine⟨?_,hok⟩;rw[qjy];have hP:=qGX (tI n);simp only[qKa] at hP;by_cases hneg:n<0
 ·have e1:-k=q.num:=by rw[hnum,Int.sign_eq_neg_one_of_neg hneg,<-hm2];rw[show (-1:Int)*(k*(g:Int))=(-k)*(g:Int) by rw[Int.neg_mul,qMR,Int.neg_mul]];exact(qNl _ hgz).symm
  have e2:-l=(q.den:Int):=by
   rw[hden];have h3:(n.natAbs:Int)=(-l)*(g:Int):=by rw[Int.neg_mul];omega
   rw[Int.natCast_ediv,h3,qNl _ hgz]
  have hS:=qD2 (m:=0) (n:=(g:Int)) qFV hgok (by rw[Int.zero_sub];exact qvG hgok);rw[Int.zero_sub,q28] at hS;have Q1:=qv7 (k:=-k) (n:=-(g:Int)) (by omega) (by rw[qNE,hm2];exact hm) (qvG hgok);have Q2:=qv7 (k:=-l) (n:=-(g:Int)) (by omega) (by rw[qNE,hn2];exact hn) (qvG hgok);rw[qNE,hm2,e1] at Q1;rw[qNE,hn2,e2] at Q2;have hS':(jz [.s [48],.s (tN g),.i 0]).run=some (0,[.s (tI (-(g:Int))),.i 0]):=hS;simp only[STD,hG,hP,hneg,hS',Q1,Q2,qx7 hok]
 ·have e1:k=q.num:=by rw[hnum,Int.sign_eq_one_of_pos (by omega),qMR,<-hm2];exact(qNl _ hgz).symm
  have e2:l=(q.den:Int):=by
   rw[hden];have h3:(n.natAbs:Int)=l*(g:Int):=by omega
   rw[Int.natCast_ediv,h3,qNl _ hgz]
  have Q1:=qv7 (k:=k) (n:=(g:Int)) hgz (by rw[hm2];exact hm) hgok;have Q2:=qv7 (k:=l) (n:=(g:Int)) hgz (by rw[hn2];exact hn) hgok;rw[hm2,e1,q28] at Q1;rw[hn2,e2,q28] at Q2;simp only[STD,hG,hP,hneg,Q1,Q2,qx7 hok]
end Go.Eng

namespace Go.Eng
variable {q:Rat}
theorem qBu (a b:Rat):Rat.divInt (a.num*b.den+b.num*a.den) ((a.den:Int)*(b.den:Int))=a+b:=by rw[Rat.add_def',<-Rat.divInt_ofNat];simp
theorem qBR (a b:Rat):Rat.divInt (a.num*b.den-b.num*a.den) ((a.den:Int)*(b.den:Int))=a-b:=by rw[Rat.sub_def',<-Rat.divInt_ofNat];simp
theorem qCc (a b:Rat):Rat.divInt (a.num*b.num) ((a.den:Int)*(b.den:Int))=a*b:=by rw[Rat.mul_def',<-Rat.divInt_ofNat];simp
theorem qBH (a b:Rat):Rat.divInt (a.num*b.den) ((a.den:Int)*b.num)=a/b:=by rw[Rat.div_def,Rat.inv_def,<-Rat.divInt_mul_divInt,Rat.num_divInt_den]
theorem qoR (a b:Rat):(a.den:Int)*(b.den:Int)≠0:=by have:=Int.mul_pos (qGH a) (qGH b);omega
theorem qKG {m:Int}(h:m≠0):¬tI m=[48]:=by rw[qcj];exact h
def bnd(N D:Nat)(q:Rat):Prop:=qn q<=N/\qd q<=D
theorem bnd.ok {N D:Nat}(h:bnd N D q)(hN:N<=1024)(hD:D<=1024):okQ q:=⟨qLA h.1 hN,qLA h.2 hD⟩
theorem bnd.sm {N D K:Nat}(h:bnd N D q)(hN:N<=K)(hD:D<=K):sm K q:=⟨qLA h.1 hN,qLA h.2 hD⟩
theorem bnd.mono {N D N' D':Nat}(h:bnd N D q)(hN:N<=N')(hD:D<=D'):bnd N' D' q:=⟨qLA h.1 hN,qLA h.2 hD⟩
theorem bnd.mul {N D N' D':Nat}{a b:Rat}(ha:bnd N D a)(hb:bnd N' D' b):bnd (N+N') (D+D') (a*b):=⟨qLA (qHq a b) (Nat.add_le_add ha.1 hb.1),qLA (qH2 a b) (Nat.add_le_add ha.2 hb.2)⟩
theorem bnd.add {N D N' D' K:Nat}{a b:Rat}(ha:bnd N D a)(hb:bnd N' D' b)(h1:N+D'+1<=K)(h2:N'+D+1<=K):bnd K (D+D') (a+b):=⟨by have:=qJU a b;have:=ha.1;have:=ha.2;have:=hb.1;have:=hb.2;omega,by have:=qKg a b;have:=ha.2;have:=hb.2;omega⟩
theorem bnd.sub {N D N' D' K:Nat}{a b:Rat}(ha:bnd N D a)(hb:bnd N' D' b)(h1:N+D'+1<=K)(h2:N'+D+1<=K):bnd K (D+D') (a-b):=⟨by have:=qJX a b;have:=ha.1;have:=ha.2;have:=hb.1;have:=hb.2;omega,by have:=qKi a b;have:=ha.2;have:=hb.2;omega⟩
theorem bnd.div {N D N' D':Nat}{a b:Rat}(h0:b≠0)(ha:bnd N D a)(hb:bnd N' D' b):bnd (N+D') (D+N') (a/b):=⟨by have:=qJl a h0;have:=ha.1;have:=hb.2;omega,by have:=qJD a h0;have:=ha.2;have:=hb.1;omega⟩
theorem bnd.neg {N D:Nat}{a:Rat}(h:bnd N D a):bnd N D (-a):=⟨by rw[qJR];exact h.1,h.2⟩
theorem qaY:bnd 1 1 0:=⟨by decide,by decide⟩
theorem qyB:bnd 1 1 1:=⟨by decide,by decide⟩
theorem q9M {m n:Int}{N M:Nat}(hm:nl m<=N)(hn:nl n<=M)(h:N+M<=1024):okL (m*n):=by have:=q0G m n;unfold okL;omega
theorem qlH {N D N' D':Nat}{a b:Rat}(ha:bnd N D a)(hb:bnd N' D' b)(h1:N+N'<=1024)(h2:D+D'<=1024):(yU [.s (tQ a),.s (tQ b)]).run=some (0,[.s (tQ (a*b)),.i 0]):=by
 have oa:=ha.ok (by omega) (by omega);have ob:=hb.ok (by omega) (by omega);have k1:okL (a.num*b.num):=q9M ha.1 hb.1 h1;have k2:okL ((a.den:Int)*(b.den:Int)):=q9M ha.2 hb.2 h2;have m1:=qgS (q8C oa) (q8C ob) k1;have m2:=qgS (q5M oa) (q5M ob) k2;have hL:=(qqq (qoR a b) k1 k2).1;rw[qCc] at hL;rw[qy7];have key:(vV [.s (tQ a),.s (tQ b)]).run=some (0,[.s (tQ (a*b)),.i 0]):=by
  rw[qdU];have h1:(q3B [.s (tI a.num),.s (tI (a.den:Int)),.s (tI b.num),.s (tI (b.den:Int)),.i 0]).run=some (0,[.s (tI (a.num*b.num)),.s (tI ((a.den:Int)*(b.den:Int))),.i 0]):=by rw[qtk];simp only[STD,m1,m2]
  simp only[STD,qiG oa ob,qil oa,qil ob,h1,zr,qKG (qoR a b),hL]
 simp only[STD,key]
theorem qkP {N D N' D':Nat}{a b:Rat}(ha:bnd N D a)(hb:bnd N' D' b)(h1:N+D'<=1023)(h2:N'+D<=1023)(h3:D+D'<=1024):(uW [.s (tQ a),.s (tQ b)]).run=some (0,[.s (tQ (a+b)),.i 0]):=by
 have p1:=qu9 a;have p2:=qu9 b;have p3:=qug a;have p4:=qug b;have oa:okQ a:=⟨by have:=ha.1;have:=hb.2;omega,by have:=ha.2;have:=hb.2;omega⟩;have ob:okQ b:=⟨by have:=hb.1;have:=ha.2;omega,by have:=ha.2;have:=hb.2;omega⟩;have k1:okL (a.num*(b.den:Int)):=q9M ha.1 hb.2 (by omega);have k2:okL (b.num*(a.den:Int)):=q9M hb.1 ha.2 (by omega);have k3:okL ((a.den:Int)*(b.den:Int)):=q9M ha.2 hb.2 h3;have k4:okL (a.num*(b.den:Int)+b.num*(a.den:Int)):=by have q1:=qy4 (a.num*(b.den:Int)) (b.num*(a.den:Int));have q2:=q0G a.num (b.den:Int);have q3:=q0G b.num (a.den:Int);have q4:nl a.num<=N:=ha.1;have q5:nl (b.den:Int)<=D':=hb.2;have q6:nl b.num<=N':=hb.1;have q7:nl (a.den:Int)<=D:=ha.2;unfold okL;omega
 have m1:=qgS (q8C oa) (q5M ob) k1;have m2:=qgS (q8C ob) (q5M oa) k2;have m3:=qgS (q5M oa) (q5M ob) k3;have hL:=(qqq (qoR a b) k4 k3).1;rw[qBu] at hL;rw[qy9];have key:(vX [.s (tQ a),.s (tQ b)]).run=some (0,[.s (tQ (a+b)),.i 0]):=by
  rw[qew];have h1:(q41 [.s (tI a.num),.s (tI (a.den:Int)),.s (tI b.num),.s (tI (b.den:Int)),.i 0]).run=some (0,[.s (tI (a.num*b.den+b.num*a.den)),.s (tI ((a.den:Int)*(b.den:Int))),.i 0]):=by rw[qte];simp only[STD,m1,m2,m3,qI8 k1 k2 k4]
  simp only[STD,qiG oa ob,qil oa,qil ob,h1,zr,qKG (qoR a b),hL]
 simp only[STD,key]
theorem qbV {N D N' D':Nat}{a b:Rat}(ha:bnd N D a)(hb:bnd N' D' b)(h1:N+D'<=1023)(h2:N'+D<=1023)(h3:D+D'<=1024):(v6 [.s (tQ a),.s (tQ b)]).run=some (0,[.s (tQ (a-b)),.i 0]):=by
 have p1:=qu9 a;have p2:=qu9 b;have p3:=qug a;have p4:=qug b;have oa:okQ a:=⟨by have:=ha.1;have:=hb.2;omega,by have:=ha.2;have:=hb.2;omega⟩;have ob:okQ b:=⟨by have:=hb.1;have:=ha.2;omega,by have:=ha.2;have:=hb.2;omega⟩;have k1:okL (a.num*(b.den:Int)):=q9M ha.1 hb.2 (by omega);have k2:okL (b.num*(a.den:Int)):=q9M hb.1 ha.2 (by omega);have k3:okL ((a.den:Int)*(b.den:Int)):=q9M ha.2 hb.2 h3;have k4:okL (a.num*(b.den:Int)-b.num*(a.den:Int)):=by have q1:=qAg (a.num*(b.den:Int)) (b.num*(a.den:Int));have q2:=q0G a.num (b.den:Int);have q3:=q0G b.num (a.den:Int);have q4:nl a.num<=N:=ha.1;have q5:nl (b.den:Int)<=D':=hb.2;have q6:nl b.num<=N':=hb.1;have q7:nl (a.den:Int)<=D:=ha.2;unfold okL;omega
 have m1:=qgS (q8C oa) (q5M ob) k1;have m2:=qgS (q8C ob) (q5M oa) k2;have m3:=qgS (q5M oa) (q5M ob) k3;have hL:=(qqq (qoR a b) k4 k3).1;rw[qBR] at hL;rw[qxV];have key:(vT [.s (tQ a),.s (tQ b)]).run=some (0,[.s (tQ (a-b)),.i 0]):=by
  rw[qdy];have h1:(q3E [.s (tI a.num),.s (tI (a.den:Int)),.s (tI b.num),.s (tI (b.den:Int)),.i 0]).run=some (0,[.s (tI (a.num*b.den-b.num*a.den)),.s (tI ((a.den:Int)*(b.den:Int))),.i 0]):=by rw[qsZ];simp only[STD,m1,m2,m3,qD2 k1 k2 k4]
  simp only[STD,qiG oa ob,qil oa,qil ob,h1,zr,qKG (qoR a b),hL]
 simp only[STD,key]
theorem qfw (q:Rat):(tQ q=[48])=(q=0):=by have:([48]:qLv)=tQ 0:=rfl;rw[this,qCg]
theorem qzP {N D N' D':Nat}{a b:Rat}(hb0:b≠0)(ha:bnd N D a)(hb:bnd N' D' b)(h1:N+D'<=1024)(h2:D+N'<=1024):(q63 [.s (tQ a),.s (tQ b)]).run=some (0,[.s (tQ (a/b)),.i 0]):=by
 have oa:okQ a:=⟨by have:=ha.1;omega,by have:=ha.2;omega⟩;have ob:okQ b:=⟨by have:=hb.1;omega,by have:=hb.2;omega⟩;have k1:okL (a.num*(b.den:Int)):=q9M ha.1 hb.2 h1;have k2:okL ((a.den:Int)*b.num):=q9M ha.2 hb.1 h2;have hbn:b.num≠0:=fun h=>hb0 (Rat.num_eq_zero.1 h);have hz:(a.den:Int)*b.num≠0:=by have:=qGH a;exact Int.mul_ne_zero (by omega) hbn
 have m1:=qgS (q8C oa) (q5M ob) k1;have m2:=qgS (q5M oa) (q8C ob) k2;have hL:=(qqq hz k1 k2).1;rw[qBH] at hL;rw[qwM];have key:(j3 [.s (tQ a),.s (tQ b)]).run=some (0,[.s (tQ (a/b)),.i 0]):=by
  rw[qe6];have h1:(q3Q [.s (tI a.num),.s (tI (a.den:Int)),.s (tI b.num),.s (tI (b.den:Int)),.i 0]).run=some (0,[.s (tI (a.num*b.den)),.s (tI ((a.den:Int)*b.num)),.i 0]):=by rw[qtL];simp only[STD,m1,m2]
  simp only[STD,qiG oa ob,qil oa,qil ob,h1,zr,qKG hz,hL]
 simp only[STD,qiG oa ob,zr,qfw,hb0,key]
def rX(a b c:Rat):Int:=a.num*b.den*c.den
def rY(a b:Rat):Int:=b.num*a.den
def rR(c:Rat):Int:=c.num*c.den
structure RootOk (a b c:Rat):Prop where
 oa:okQ a
 ob:okQ b
 oc:okQ c
 x1:okL (a.num*b.den)
 x:okL (rX a b c)
 y:okL (rY a b)
 r:okL (rR c)
 xx:okL (rX a b c*rX a b c)
 yy:okL (rY a b*rY a b)
 yr:okL (rY a b*rY a b*rR c)
 d:okL (rX a b c*rX a b c-rY a b*rY a b*rR c)
theorem RootOk.of {N D N' D' R E:Nat}{a b c:Rat}(ha:bnd N D a)(hb:bnd N' D' b)(hc:bnd R E c)(h1:2*(N+D'+E)<=1023)(h2:2*(N'+D)+R+E<=1023):RootOk a b c:=by have q1:nl a.num<=N:=ha.1;have q2:nl (a.den:Int)<=D:=ha.2;have q3:nl b.num<=N':=hb.1;have q4:nl (b.den:Int)<=D':=hb.2;have q5:nl c.num<=R:=hc.1;have q6:nl (c.den:Int)<=E:=hc.2;have x1:=q0G a.num b.den;have x2:=q0G (a.num*b.den) c.den;have y1:=q0G b.num a.den;have r1:=q0G c.num c.den;have xx:=q0G (rX a b c) (rX a b c);have yy:=q0G (rY a b) (rY a b);have yr:=q0G (rY a b*rY a b) (rR c);have dd:=qAg (rX a b c*rX a b c) (rY a b*rY a b*rR c);have e1:nl (rX a b c)=nl (a.num*b.den*c.den):=rfl;have e2:nl (rY a b)=nl (b.num*a.den):=rfl;have e3:nl (rR c)=nl (c.num*c.den):=rfl;have p1:=qrM a.num;have p2:=qrM b.num;have p3:=qrM c.num;have p4:=qrM (a.den:Int);have p5:=qrM (b.den:Int);have p6:=qrM (c.den:Int);exact { oa:=⟨by show nl a.num<=1024;omega,by show nl (a.den:Int)<=1024;omega⟩,ob:=⟨by show nl b.num<=1024;omega,by show nl (b.den:Int)<=1024;omega⟩,oc:=⟨by show nl c.num<=1024;omega,by show nl (c.den:Int)<=1024;omega⟩,x1:=by unfold okL;omega,x:=by unfold okL;omega,y:=by unfold okL;omega,r:=by unfold okL;omega,xx:=by unfold okL;omega,yy:=by unfold okL;omega,yr:=by unfold okL;omega,d:=by unfold okL;omega }
end Go.Eng

namespace Go.Eng
variable {m:Int}
theorem q3W (hm:-999999999999999<=m/\m<=999999999999999):(ya [.i m]).run=some (0,[.s (tQ (m:Rat))]):=by rw[qtH,qF4];simp only[STD,qeF m (by omega)]
theorem q45 (hm:-999999999999999<=m/\m<=999999999999999):(ye [.i m]).run=some (0,[.s (tQ (m:Rat))]):=by rw[qsW,qF4];simp only[STD,q2m m (by omega) (by omega)]
def co(x:Int):Prop:=-100000<=x/\x<=100000
theorem qgf {x:Int}(h:co x):-999999999999999<=x/\x<=999999999999999:=by unfold co at h;omega
def qBZ(l:R)(i:Nat):Prop:=co (cI l i 0)/\co (cI l i 1)/\co (cI l i 2)
def q1C(l:R):Prop:=l.length<=64/\∀i,i<l.length->qBZ l i
theorem quX {k:Nat}(h:nl m<=k)(_:0<k):bnd k 1 (m:Rat):=by
 refine⟨?_,?_⟩
 ·unfold qn;rw[Rat.num_intCast];exact h
 ·unfold qd;rw[Rat.den_intCast];decide
theorem qKS {k:Nat}(h:m.natAbs<10^k)(hk:0<k):nl m<=k:=by obtain⟨j,rfl⟩:∃j,k=j+1:=⟨k-1,by omega⟩;exact q36 j _ h
theorem qoU {x:Int}(h:co x):bnd 6 1 (x:Rat):=quX (qKS (by unfold co at h;omega) (by omega)) (by omega)
end Go.Eng

namespace Go.Eng
structure RelM (Z:Mx) (N C:Nat) (M:Nat->Nat->Rat):Prop where
 dim:Dim Z N C
 ok:∀i j,i<N->j<C->q93 Z i j=tQ (M i j)
theorem RelM.congr{Z:Mx}{N C:Nat}{M M':Nat->Nat->Rat}(h:RelM Z N C M)(e:∀i j,i<N->j<C->M i j=M' i j):RelM Z N C M':=⟨h.dim,fun i j hi hj=>by rw[h.ok i j hi hj,e i j hi hj]⟩
theorem qF8{Z:Mx}{N C i c:Nat}(h:Dim Z N C)(hi:i<N)(hc:c<C)(v:Bs)(a b:Nat):q93 (qBA Z i c v) a b=if a=i/\b=c then v else q93 Z a b:=by
 unfold q93 qBA;by_cases ha:a=i
 ·subst ha;have hl:(Z.getD a []).length=C:=h.row hi;have h1:((Z.set a ((Z.getD a []).set c v)).getD a [])=(Z.getD a []).set c v:=by rw[qLw,qLM (by rw[h.n];exact hi)];rfl
  rw[h1];by_cases hb:b=c
  ·subst hb;rw[if_pos ⟨rfl,rfl⟩,qLw,qLM (by omega)];rfl
  ·rw[if_neg (fun x=>hb x.2),qLw,qLz (fun e=>hb e.symm),<-qLw]
 ·rw[if_neg (fun x=>ha x.1)];have h1:((Z.set i ((Z.getD i []).set c v)).getD a [])=Z.getD a []:=by rw[qLw,qLz (fun e=>ha e.symm),qLw]
  rw[h1]
theorem qC7{Z:Mx}{N C i j:Nat}(h:Dim Z N C)(hi:i<N)(hj:j<N)(a b:Nat):q93 (qcJ Z i j) a b=q93 Z (swI j i a) b:=by
 unfold q93 qcJ swI;have hn:=h.n;have g:∀(L:Mx) (x y:Nat) (r:List Bs),L.length=N->x<N->(L.set x r).getD y []=if y=x then r else L.getD y []:=fun L x y r hL hx=>by
  by_cases e:y=x
  ·subst e;rw[if_pos rfl,qLw,qLM (by omega)];rfl
  ·rw[if_neg e,qLw,qLz (fun z=>e z.symm),qLw]
 rw[g _ j a _ (by rw[qMP,hn]) hj];by_cases e1:a=j
 ·rw[if_pos e1,if_pos e1]
 ·rw[if_neg e1,if_neg e1,g _ i a _ hn hi];by_cases e2:a=i
  ·rw[if_pos e2,if_pos e2]
  ·rw[if_neg e2,if_neg e2]
theorem RelM.set{Z:Mx}{N C:Nat}{M:Nat->Nat->Rat}(h:RelM Z N C M){i c:Nat}(hi:i<N)(hc:c<C)(q:Rat):RelM (qBA Z i c (tQ q)) N C (fun a b=>if a=i/\b=c then q else M a b):=
 ⟨h.dim.set hi _,fun a b ha hb=>by
  rw[qF8 h.dim hi hc];split
  ·rfl
  ·exact h.ok a b ha hb⟩
theorem RelM.swap{Z:Mx}{N C:Nat}{M:Nat->Nat->Rat}(h:RelM Z N C M){i j:Nat}(hi:i<N)(hj:j<N):RelM (qcJ Z i j) N C (fun a b=>M (swI j i a) b):=⟨h.dim.swap hi hj,fun a b ha hb=>by rw[qC7 h.dim hi hj];exact h.ok _ b (qxe hj hi ha) hb⟩
theorem qCV{dv:Op2}{N C p:Nat}{M:Nat->Nat->Rat}{f:Rat}(hp:p<N)(hd:∀j,j<C->dv (tQ (M p j)) (tQ f)=some (tQ (M p j/f))) :
  ∀(g m:Nat),m+g=C->∀Z,RelM Z N C (fun i j=>if i=p/\j<m then M p j/f else M i j)->∃Z',qto dv p (tQ f) C g Z=some Z'/\RelM Z' N C (fun i j=>if i=p then M p j/f else M i j)
 | 0,m,hm,Z,hZ=>⟨Z,rfl,hZ.congr fun i j hi hj=>by
   by_cases e:i=p
   ·rw[if_pos ⟨e,by omega⟩,if_pos e]
   ·rw[if_neg (fun x=>e x.1),if_neg e]⟩
 | g+1,m,hm,Z,hZ=>by
  have h1:C-(g+1)=m:=by omega
  have h2:q93 Z p m=tQ (M p m):=by rw[hZ.ok p m hp (by omega),if_neg (by omega)]
  unfold qto;rw[h1,h2,hd m (by omega),qLY];exact qCV hp hd g (m+1) (by omega) _ ((hZ.set hp (show m<C by omega) (M p m/f)).congr fun i j hi hj=>by
   by_cases e:i=p
   ·subst e;by_cases e2:j=m
    ·subst e2;rw[if_pos ⟨rfl,rfl⟩,if_pos ⟨rfl,by omega⟩]
    ·rw[if_neg (fun x=>e2 x.2)];by_cases e3:j<m
     ·rw[if_pos ⟨rfl,e3⟩,if_pos ⟨rfl,by omega⟩]
     ·rw[if_neg (fun x=>e3 x.2),if_neg (fun x=>e3 (by omega))]
   ·rw[if_neg (fun x=>e x.1),if_neg (fun x=>e x.1),if_neg (fun x=>e x.1)])
theorem qtQ{ml sb:Op2}{N C p i:Nat}{M:Nat->Nat->Rat}{t:Rat}(hp:p<N)(hi:i<N)(hip:i≠p)(h1:∀j,j<C->ml (tQ t) (tQ (M p j))=some (tQ (t*M p j)))(h2:∀j,j<C->sb (tQ (M i j)) (tQ (t*M p j))=some (tQ (M i j-t*M p j))) :
  ∀(g m:Nat),m+g=C->∀Z,RelM Z N C (fun a j=>if a=i/\j<m then M i j-t*M p j else M a j)->∃Z',qg4 ml sb i p (tQ t) C g Z=some Z'/\RelM Z' N C (fun a j=>if a=i then M i j-t*M p j else M a j)
 | 0,m,hm,Z,hZ=>⟨Z,rfl,hZ.congr fun a j ha hj=>by
   by_cases e:a=i
   ·rw[if_pos ⟨e,by omega⟩,if_pos e]
   ·rw[if_neg (fun x=>e x.1),if_neg e]⟩
 | g+1,m,hm,Z,hZ=>by
  have e1:C-(g+1)=m:=by omega
  have q1:q93 Z p m=tQ (M p m):=by rw[hZ.ok p m hp (by omega),if_neg (fun x=>hip x.1.symm)]
  have q2:q93 Z i m=tQ (M i m):=by rw[hZ.ok i m hi (by omega),if_neg (by omega)]
  unfold qg4;rw[e1,q1,h1 m (by omega),qLY,q2,h2 m (by omega),qLY];exact qtQ hp hi hip h1 h2 g (m+1) (by omega) _ ((hZ.set hi (show m<C by omega) (M i m-t*M p m)).congr fun a j ha hj=>by
   by_cases e:a=i
   ·subst e;by_cases e2:j=m
    ·subst e2;rw[if_pos ⟨rfl,rfl⟩,if_pos ⟨rfl,by omega⟩]
    ·rw[if_neg (fun x=>e2 x.2)];by_cases e3:j<m
     ·rw[if_pos ⟨rfl,e3⟩,if_pos ⟨rfl,by omega⟩]
     ·rw[if_neg (fun x=>e3 x.2),if_neg (fun x=>e3 (by omega))]
   ·rw[if_neg (fun x=>e x.1),if_neg (fun x=>e x.1),if_neg (fun x=>e x.1)])
theorem qvA{ml sb:Op2}{N C p k:Nat}{M:Nat->Nat->Rat}(hp:p<N)(hk:k<C)(h1:∀i j,i<N->i≠p->j<C->ml (tQ (M i k)) (tQ (M p j))=some (tQ (M i k*M p j)))
  (h2:∀i j,i<N->i≠p->j<C->sb (tQ (M i j)) (tQ (M i k*M p j))=some (tQ (M i j-M i k*M p j))) :
  ∀(g m:Nat),m+g=N->∀Z,RelM Z N C (fun i j=>if i<m/\i≠p then M i j-M i k*M p j else M i j)->∃Z',qq3 ml sb p k N C g Z=some Z'/\RelM Z' N C (fun i j=>if i≠p then M i j-M i k*M p j else M i j)
 | 0,m,hm,Z,hZ=>⟨Z,rfl,hZ.congr fun i j hi hj=>by
   by_cases e:i≠p
   ·rw[if_pos ⟨by omega,e⟩,if_pos e]
   ·rw[if_neg (fun x=>e x.2),if_neg e]⟩
 | g+1,m,hm,Z,hZ=>by
  have e1:N-(g+1)=m:=by omega
  have q1:q93 Z m k=tQ (M m k):=by rw[hZ.ok m k (by omega) hk,if_neg (by omega)]
  unfold qq3;rw[e1,q1];have zi:=qfw (M m k);have skip:(m=p\/M m k=0)->RelM Z N C (fun i j=>if i<m+1/\i≠p then M i j-M i k*M p j else M i j):=fun h=>hZ.congr fun i j hi hj=>by
   by_cases e:i=m
   ·subst e;rw[if_neg (by omega)];rcases h with h|h
    ·rw[if_neg (fun x=>x.2 h)]
    ·by_cases e2:i=p
     ·rw[if_neg (fun x=>x.2 e2)]
     ·rw[if_pos ⟨by omega,e2⟩,h];grind
   ·by_cases e2:i<m/\i≠p
    ·rw[if_pos e2,if_pos ⟨by omega,e2.2⟩]
    ·rw[if_neg e2,if_neg (fun x=>e2 ⟨by omega,x.2⟩)]
  by_cases hc:m=p\/M m k=0
  ·rw[if_pos (by rw[zi];exact hc)];exact qvA hp hk h1 h2 g (m+1) (by omega) Z (skip hc)
  ·rw[if_neg (by rw[zi];exact hc)];rw[not_or] at hc;obtain⟨Z1,r1,r2⟩:=qtQ (ml:=ml) (sb:=sb) (M:=fun i j=>if i<m/\i≠p then M i j-M i k*M p j else M i j) (t:=M m k) hp (show m<N by omega) hc.1
    (fun j hj=>by rw[if_neg (by omega)];exact h1 m j (by omega) hc.1 hj) (fun j hj=>by rw[if_neg (by omega),if_neg (by omega)];exact h2 m j (by omega) hc.1 hj) C 0 (by omega) Z (hZ.congr fun i j hi hj=>by rw[if_neg (show ¬(i=m/\j<0) by omega)])
   rw[r1,qLY];exact qvA hp hk h1 h2 g (m+1) (by omega) Z1 (r2.congr fun i j hi hj=>by
    by_cases e:i=m
    ·subst e;rw[if_pos rfl,if_neg (by omega),if_neg (by omega),if_pos ⟨by omega,hc.1⟩]
    ·rw[if_neg e];by_cases e2:i<m/\i≠p
     ·rw[if_pos e2,if_pos ⟨by omega,e2.2⟩]
     ·rw[if_neg e2,if_neg (fun x=>e2 ⟨by omega,x.2⟩)])
def pvI(M:Nat->Nat->Rat)(k N:Nat):Nat->Nat
 | 0=>N
 | g+1=>if M (N-(g+1)) k=0 then pvI M k N g else N-(g+1)
theorem qmC(M:Nat->Nat->Rat)(k N:Nat):∀g,g<=N->(pvI M k N g=N/\∀i,N-g<=i->i<N->M i k=0)\/(N-g<=pvI M k N g/\pvI M k N g<N/\M (pvI M k N g) k≠0)
 | 0,_=>.inl ⟨rfl,fun i h1 h2=>by omega⟩
 | g+1,h=>by
  unfold pvI;by_cases e:M (N-(g+1)) k=0
  ·rw[if_pos e];rcases qmC M k N g (by omega) with⟨h1,h2⟩|⟨h1,h2,h3⟩
   ·refine .inl ⟨h1,fun i a b=>?_⟩;by_cases q:i=N-(g+1)
    ·rw[q];exact e
    ·exact h2 i (by omega) b
   ·exact .inr ⟨by omega,h2,h3⟩
  ·rw[if_neg e];exact .inr ⟨qLy _,by omega,e⟩
theorem qAt{Z:Mx}{N C k:Nat}{M:Nat->Nat->Rat}(h:RelM Z N C M)(hk:k<C):∀g,g<=N->qgo Z k N g=pvI M k N g
 | 0,_=>rfl
 | g+1,hg=>by
  unfold qgo pvI;rw[h.ok (N-(g+1)) k (by omega) hk,qAt h hk g (by omega)];have zi:=qfw (M (N-(g+1)) k);by_cases e:M (N-(g+1)) k=0
  ·rw[if_pos e,if_pos (by rw[zi];exact e)]
  ·rw[if_neg e,if_neg (by rw[zi];exact e)]
def pvQ(N c:Nat)(M:Nat->Nat->Rat):Option Nat:=if pvI M c N (N-c)=N then none else some (pvI M c N (N-c))
theorem qDp(N:Nat):Pivots N (pvQ N) where
 some:=fun c M i hc h=>by
  unfold pvQ at h;rcases qmC M c N (N-c) (by omega) with⟨h1,_⟩|⟨h1,h2,h3⟩
  ·rw[if_pos h1] at h;cases h
  ·rw[if_neg (by omega)] at h;cases h;exact⟨by omega,h2,h3⟩
 none:=fun c M i h hci hi=>by
  unfold pvQ at h;rcases qmC M c N (N-c) (by omega) with⟨_,h2⟩|⟨h1,h2,h3⟩
  ·exact h2 i (by omega) hi
  ·rw[if_neg (by omega)] at h;cases h
def gsP(k p i0:Nat)(M:Nat->Nat->Rat):Nat->Nat->Rat:=fun i j=>if i=p then M i0 j/M i0 k else M (swI p i0 i) j-M (swI p i0 i) k*(M i0 j/M i0 k)
theorem qK2(c i0:Nat)(M:Nat->Nat->Rat):gsP c c i0 M=gs c i0 M:=by funext i j;unfold gsP gs;simp only[Rat.div_def]
def BM(N C a b:Nat)(M:Nat->Nat->Rat):Prop:=∀i j,i<N->j<C->bnd a b (M i j)
structure OpsQ (ml dv sb:Op2):Prop where
 ml:∀{a b:Rat} {N D N' D':Nat},bnd N D a->bnd N' D' b->N+N'<=1024->D+D'<=1024->ml (tQ a) (tQ b)=some (tQ (a*b))
 dv:∀{a b:Rat} {N D N' D':Nat},b≠0->bnd N D a->bnd N' D' b->N+D'<=1024->D+N'<=1024->dv (tQ a) (tQ b)=some (tQ (a/b))
 sb:∀{a b:Rat} {N D N' D':Nat},bnd N D a->bnd N' D' b->N+D'<=1023->N'+D<=1023->D+D'<=1024->sb (tQ a) (tQ b)=some (tQ (a-b))
theorem qLr:OpsQ (opF yU) (opF q63) (opF v6) where
 ml:=fun ha hb h1 h2=>by unfold opF;rw[qlH ha hb h1 h2];rfl
 dv:=fun h0 ha hb h1 h2=>by unfold opF;rw[qzP h0 ha hb h1 h2];rfl
 sb:=fun ha hb h1 h2 h3=>by unfold opF;rw[qbV ha hb h1 h2 h3];rfl
theorem qIu{ml dv sb:Op2}(ops:OpsQ ml dv sb){N C k p i0 a b u v:Nat}{s:RS}{M:Nat->Nat->Rat}{d:Rat}(hs:RelM s.Z N C M)(hb:BM N C a b M)(hd:s.det=tQ d)(hdb:bnd u v d)(hp:s.p=p)(hpN:p<N)(hk:k<C)(hi:i0<N) (hpi:p<=i0) (h0:M i0 k≠0) (hf:qgo s.Z k N (N-s.p)=i0) (c1:2*a+2*b<=1023) (c2:a+3*b<=1024) (c3:u+v+2+a<=1023) (c4:v+1+b<=1023) :∃s',qly ml dv sb k N C s=some s'/\RelM s'.Z N C (gsP k p i0 M)/\BM N C (2*a+2*b+1) (a+3*b) (gsP k p i0 M)/\(∃d',s'.det=tQ d'/\bnd (u+v+2+a) (v+1+b) d')/\s'.p=p+1/\s'.lead=s.lead++[k]:=by
 subst hp;unfold qly;rw[hf,if_neg (by omega)];have bi:∀j,j<C->bnd a b (M i0 j):=fun j hj=>hb i0 j hi hj;obtain⟨dd,e1,e2⟩:∃dd,(if i0=s.p then some s.det else sb [48] s.det)=some (tQ dd)/\bnd (u+v+2) (v+1) dd:=by
  by_cases e:i0=s.p
  ·exact⟨d,by rw[if_pos e,hd],hdb.mono (by omega) (by omega)⟩
  ·refine⟨0-d,?_,?_⟩
   ·rw[if_neg e,hd];have:([48]:Bs)=tQ 0:=by decide
    rw[this];exact ops.sb qaY hdb (by omega) (by omega) (by omega)
   ·have:=qaY.sub hdb (K:=u+v+2) (by omega) (by omega);exact this.mono (qLy _) (by omega)
 rw[e1,qLY];have h1:=hs.swap hi hpN;have hpv:q93 (qcJ s.Z i0 s.p) s.p k=tQ (M i0 k):=by
  rw[h1.ok s.p k hpN hk];have:swI s.p i0 s.p=i0:=by unfold swI;rw[if_pos rfl]
  rw[this]
 rw[hpv,ops.ml e2 (bi k hk) (by omega) (by omega),qLY];have eq_p:∀j,M (swI s.p i0 s.p) j=M i0 j:=fun j=>by
  have:swI s.p i0 s.p=i0:=by unfold swI;rw[if_pos rfl]
  rw[this]
 obtain⟨Z1,q1,q2⟩:=qCV (dv:=dv) (M:=fun i j=>M (swI s.p i0 i) j) (f:=M i0 k) hpN (fun j hj=>by rw[eq_p];exact ops.dv h0 (bi j hj) (bi k hk) (by omega) (by omega)) C 0 (by omega) _ (h1.congr fun i j _ _=>by rw[if_neg (by omega)]);rw[q1,qLY];have yb:∀j,j<C->bnd (a+b) (b+a) (M i0 j/M i0 k):=fun j hj=>(bi j hj).div h0 (bi k hk);have sb':∀i j,i<N->j<C->bnd a b (M (swI s.p i0 i) j):=fun i j hi' hj=>hb _ j (qxe hpN hi hi') hj;obtain⟨Z2,q3,q4⟩:=qvA (ml:=ml) (sb:=sb) (p:=s.p) (k:=k) (M:=fun i j=>if i=s.p then M i0 j/M i0 k else M (swI s.p i0 i) j) hpN hk
  (fun i j hi' e hj=>by rw[if_pos rfl,if_neg e];exact ops.ml (sb' i k hi' hk) (yb j hj) (by omega) (by omega))
  (fun i j hi' e hj=>by rw[if_pos rfl,if_neg e,if_neg e];exact ops.sb (sb' i j hi' hj) ((sb' i k hi' hk).mul (yb j hj)) (by omega) (by omega) (by omega)) N 0 (by omega) Z1
  (q2.congr fun i j _ _=>by
   rw[if_neg (show ¬(i<0/\i≠s.p) by omega)];by_cases e:i=s.p
   ·rw[if_pos e,if_pos e,eq_p]
   ·rw[if_neg e,if_neg e])
 rw[q3,qLY];refine⟨_,rfl,q4.congr fun i j _ _=>?_,fun i j hi' hj=>?_,⟨_,rfl,e2.mul (bi k hk)⟩,rfl,rfl⟩
 ·unfold gsP;by_cases e:i=s.p
  ·rw[if_pos e,if_neg (fun z=>z e),if_pos e]
  ·rw[if_neg e,if_pos e,if_neg e,if_neg e,if_pos rfl]
 ·unfold gsP;by_cases e:i=s.p
  ·rw[if_pos e];exact(yb j hj).mono (by omega) (by omega)
  ·rw[if_neg e];have:=(sb' i j hi' hj).sub ((sb' i k hi' hk).mul (yb j hj)) (K:=2*a+2*b+1) (by omega) (by omega);exact this.mono (qLy _) (by omega)
def bs:Nat->Nat×Nat
 | 0=>(13,1)
 | k+1=>(2*(bs k).1+2*(bs k).2+1,(bs k).1+3*(bs k).2)
def ds:Nat->Nat×Nat
 | 0=>(1,1)
 | k+1=>((ds k).1+(ds k).2+2+(bs k).1,(ds k).2+1+(bs k).2)
theorem qKX(k:Nat)(h:k<3):2*(bs k).1+2*(bs k).2<=1023/\(bs k).1+3*(bs k).2<=1024/\(ds k).1+(ds k).2+2+(bs k).1<=1023/\(ds k).2+1+(bs k).2<=1023:=by
 match k,h with
 | 0,_=>decide
 | 1,_=>decide
 | 2,_=>decide
theorem BM.mono{N C a b a' b':Nat}{M:Nat->Nat->Rat}(h:BM N C a b M)(h1:a<=a')(h2:b<=b'):BM N C a' b' M:=fun i j hi hj=>(h i j hi hj).mono h1 h2
theorem qIP(k:Nat):(bs k).1<=(bs (k+1)).1/\(bs k).2<=(bs (k+1)).2/\(ds k).1<=(ds (k+1)).1/\(ds k).2<=(ds (k+1)).2:=by simp only[bs,ds];omega
theorem qEP{ml dv sb:Op2}(ops:OpsQ ml dv sb){N C:Nat}(hN:N<=3)(hC:N<=C):∀(g k:Nat),k+g=N->∀(s:RS) (M:Nat->Nat->Rat) (d:Rat),RelM s.Z N C M->BM N C (bs k).1 (bs k).2 M->s.det=tQ d->bnd (ds k).1 (ds k).2 d->s.p<=k->s.lead.length=s.p ->
  ∃fin M',qwt ml dv sb N N C g s=some fin/\RelM fin.Z N C M'/\BM N C (bs N).1 (bs N).2 M'/\fin.lead.length<=s.p+g/\(s.p=k->(qeB N (pvQ N) g k M=some M'/\fin.lead.length=N)\/(qeB N (pvQ N) g k M=none/\fin.lead.length<N))
 | 0,k,hk,s,M,d,hs,hb,hd,hdb,hp,hl=>by
  have:k=N:=by omega
  subst this;exact⟨s,M,rfl,hs,hb,by omega,fun h=>.inl ⟨rfl,by omega⟩⟩
 | g+1,k,hk,s,M,d,hs,hb,hd,hdb,hp,hl=>by
  have hkN:N-(g+1)=k:=by omega
  obtain⟨m1,m2,m3,m4⟩:=qIP k;obtain⟨o1,o2,o3,o4⟩:=qKX k (by omega);unfold qwt;rw[hkN];have hf:=qAt hs (show k<C by omega) (N-s.p) (by omega);rcases qmC M k N (N-s.p) (by omega) with⟨h1,h2⟩|⟨h1,h2,h3⟩
  ·have e:qly ml dv sb k N C s=some s:=by unfold qly;rw[if_pos (by rw[hf];exact h1)]
   rw[e,qLY];obtain⟨fin,M',r1,r2,r3,r4,r5⟩:=qEP ops hN hC g (k+1) (by omega) s M d hs (hb.mono m1 m2) hd (hdb.mono m3 m4) (by omega) hl;refine⟨fin,M',r1,r2,r3,by omega,fun hpk=>.inr ⟨?_,by omega⟩⟩;subst hpk;unfold qeB pvQ;rw[if_pos h1]
  ·obtain⟨s',q1,q2,q3,⟨d',q4,q5⟩,q6,q7⟩:=qIu ops hs hb hd hdb rfl (show s.p<N by omega) (show k<C by omega) h2 (by omega) h3 hf o1 o2 o3 o4;rw[q1,qLY];obtain⟨fin,M',r1,r2,r3,r4,r5⟩:=qEP ops hN hC g (k+1) (by omega) s' _ d' q2 q3 q4 q5 (by omega) (by rw[q7,q6,qLR,hl];rfl);refine⟨fin,M',r1,r2,r3,by omega,fun hpk=>?_⟩;have hg:qeB N (pvQ N) (g+1) k M=qeB N (pvQ N) g (k+1) (gsP k s.p (pvI M k N (N-s.p)) M):=by subst hpk;rw[qK2];show (match pvQ N s.p M with|none=>none|some i0=>qeB N (pvQ N) g (s.p+1) (gs s.p i0 M))=_;unfold pvQ;rw[if_neg (by omega)]
   rw[hg];exact r5 (by omega)
variable {n:Nat}
def kv(F:Nat->Nat->Bs)(n:Nat):R:=(mkL F n n).map fun x=>[.s x]
theorem qj9 (F:Nat->Nat->Bs)(n:Nat):(kv F n).length=n*n:=by unfold kv;rw[qLE,qim]
theorem qow (F:Nat->Nat->Bs){n i k:Nat}(hi:i<n)(hk:k<n):cS (kv F n) ((i*n+k:Nat):Int) 0=F i k:=by
 have e:((mkL F n n).map fun x=>[U.s x]).getD (i*n+k) []=[U.s (F i k)]:=by rw[qLw,qLH,qzJ F n n i k hi hk];rfl
 unfold cS we kv;rw[qLG,e];rfl
theorem qy3 {F G:Nat->Nat->Bs}(h:∀i k,i<n->k<n->F i k=G i k):kv F n=kv G n:=by
 unfold kv;congr 1;have:∀m,m<=n->mkL F n m=mkL G n m:=by
  intro m;induction m with
  | zero=>intro _;rfl
  | succ m ih=>
   intro hm;rw[mkL,mkL,ih (by omega)];congr 1;exact qMW fun k hk=>h m k (by omega) (qMi.1 hk)
 exact this n (qLy _)
theorem qye {l:R}(hl:l.length=n)(hn:n<1000000)(h:∀i,i<n->(zI [.s (cS l (i:Int) 0)]).run=some (0,[.i 0])):(jA [.r l]).run=some (0,[.i 0]):=by
 rw[qo4];have key:=qW (S:=yJ) (fun i=>[.r l,.i (n:Int),.i (i:Int)]) (0,[]) n (by omega) (fun i hi=>by
  rw[qbX];have e:qh l=(n:Int):=by unfold qh;rw[hl]
  simp only[STD,e,h i hi,kq hi (show n<9223372036854775808 by omega),show (i:Int)<n by omega,show (0:Int)<=i by omega,and_self]) (by
  rw[qbX];simp only[STD,show ¬(n:Int)<n by omega])
 have e:qh l=(n:Int):=by unfold qh;rw[hl]
 have key':(qf yJ [.r l,.i (qh l),.i 0]).run=some (0,[]):=by rw[e];exact key
 simp only[STD,key',zU key']
theorem qHl (h:n<=16):(je [.i (n:Int)]).run=some (0,[.b true]):=by
 rw[qt5];have h1:(0:Int)<=n:=by omega
 have h2:(n:Int)<=16:=by omega
 have h3:ile (n:Int) 16=true:=by rw[qCw];exact h2
 simp only[STD,h1,h3]
theorem qk1 {F:Nat->Nat->Bs}(hn:n<=16)(h:∀i k,i<n->k<n->(zI [.s (F i k)]).run=some (0,[.i 0])):(yf [.i n,.i n,.r (kv F n)]).run=some (0,[.i 0]):=by
 rw[qs5];have hnn:n*n<=16*16:=qMl hn hn;have e1:qh (kv F n)=((n*n:Nat):Int):=by unfold qh;rw[qj9]
 have e2:jw .i64 (n:Int) (n:Int)=((n*n:Nat):Int):=by rw[q7n (by rw[<-qMk];omega)];simp
 have key:=qye (l:=kv F n) (qj9 F n) (by omega) (fun j hj=>by
  have hn0:0<n:=by
   rcases qMD n with h0|h0
   ·subst h0;simp at hj
   ·exact h0
  have h1:j/n<n:=Nat.div_lt_of_lt_mul hj;have h2:j%n<n:=qML _ hn0;have h3:j=j/n*n+j%n:=by rw[Nat.mul_comm];exact(qNB j n).symm
  rw[h3,qow F h1 h2];exact h _ _ h1 h2)
 simp only[STD,qHl hn,e1,e2,key]
def aug(n:Nat)(G:Nat->Nat->Rat):Nat->Nat->Rat:=fun i j=>if j<n then G i j else if j=n+i then 1 else 0
theorem qFK (i k:Nat):ql5 i k=tQ (if i=k then 1 else 0):=by
 unfold ql5;by_cases h:i=k
 ·rw[if_pos h,if_pos h];decide
 ·rw[if_neg h,if_neg h];decide
theorem qG2 {F:Nat->Nat->Bs}{G:Nat->Nat->Rat}(h:∀i k,i<n->k<n->F i k=tQ (G i k)):RelM ((List.range n).map (row0 F ql5 n)) n (2*n) (aug n G):=by
 refine⟨⟨by simp,fun r hr=>?_⟩,fun i j hi hj=>?_⟩
 ·obtain⟨i,_,rfl⟩:=qMm.1 hr;unfold row0;rw[qLR,qLE,qLE,qMa];omega
 ·have e:((List.range n).map (row0 F ql5 n)).getD i []=row0 F ql5 n i:=by rw[qLw,qLH,qMu hi];rfl
  unfold q93 aug;rw[e];unfold row0;by_cases hjn:j<n
  ·rw[if_pos hjn,qLw,qLJ (by simpa using hjn),qLH,qMu hjn];exact h i j hi hjn
  ·rw[if_neg hjn,qLw,qLL (by simp;omega),qLE,qMa,qLH,qMu (by omega)];simp only[qM8,qMH,qFK];congr 1;by_cases e2:j=n+i
   ·rw[if_pos e2,if_pos (by omega)]
   ·rw[if_neg e2,if_neg (by omega)]
theorem qIo {G:Nat->Nat->Rat}(h:∀i k,i<n->k<n->bnd 13 1 (G i k)):BM n (2*n) 13 1 (aug n G):=fun i j hi _=>by
 unfold aug;by_cases h1:j<n
 ·rw[if_pos h1];exact h i j hi h1
 ·rw[if_neg h1];split
  ·exact qyB.mono (by omega) (by omega)
  ·exact qaY.mono (by omega) (by omega)
theorem qIL (ck ml dv sb:List PV->TR){l:R}{fin:RS}(hn:n<=16)(hl:l.length=n*n)(hok:qJ1 (ck [.i n,.i n,.r l])=true)(hf:qwt (opF ml) (opF dv) (opF sb) n n (2*n) n ⟨(List.range n).map (row0 (fun i k=>cS l ((i*n+k:Nat):Int) 0) ql5 n),[49],[],0⟩=some fin) :qJ0 ck ml dv sb [.i n,.i n,.r l]=if fin.lead.length<n then .leaf (0,[.i 0,.i 0,.r [],.i 14]) else .leaf (0,[.i n,.i n,.r ((mkL (fun i k=>q93 fin.Z i (n+k)) n n).map fun x=>[.s x]),.i 0]):=by simp only[qJ0,qLG];rw[if_pos ⟨trivial,by omega,by omega,hl,hok⟩,hf]
theorem qKO (n:Nat)(hn:n<=3):(bs n).1<=337/\(bs n).2<=322:=by
 match n,hn with
 | 0,_=>decide
 | 1,_=>decide
 | 2,_=>decide
 | 3,_=>decide
theorem qKV:u4=qJ0 yf yU q63 v6:=rfl
theorem qF1 (hn:n<=3){G:Nat->Nat->Rat}(hG:∀i k,i<n->k<n->bnd 13 1 (G i k)) :(∃N,qeB n (pvQ n) n 0 (aug n G)=some N/\BM n (2*n) 337 322 N/\(u4 [.i n,.i n,.r (kv (fun i k=>tQ (G i k)) n)]).run=some (0,[.i n,.i n,.r (kv (fun i k=>tQ (N i (n+k))) n),.i 0])) \/(qeB n (pvQ n) n 0 (aug n G)=none/\(u4 [.i n,.i n,.r (kv (fun i k=>tQ (G i k)) n)]).run=some (0,[.i 0,.i 0,.r [],.i 14])):=by
 obtain⟨fin,M',r1,r2,r3,r4,r5⟩:=qEP qLr (N:=n) (C:=2*n) hn (by omega) n 0 (by omega) ⟨(List.range n).map (row0 (fun i k=>tQ (G i k)) ql5 n),[49],[],0⟩ (aug n G) 1
  (qG2 fun _ _ _ _=>rfl) (qIo hG) (show ([49]:Bs)=tQ 1 by decide) qyB (qLy _) rfl
 have hck:qJ1 (yf [.i n,.i n,.r (kv (fun i k=>tQ (G i k)) n)])=true:=by unfold qJ1;rw[qk1 (by omega) fun i k hi hk=>qay ((hG i k hi hk).ok (by omega) (by omega))];rfl
 have hZ:(List.range n).map (row0 (fun i k=>cS (kv (fun i k=>tQ (G i k)) n) ((i*n+k:Nat):Int) 0) ql5 n)=(List.range n).map (row0 (fun i k=>tQ (G i k)) ql5 n):=by
  refine qMW fun i hi=>?_;have e:(List.range n).map (fun k=>cS (kv (fun i k=>tQ (G i k)) n) ((i*n+k:Nat):Int) 0)=(List.range n).map (fun k=>tQ (G i k)):=
   qMW fun k hk=>qow (fun i k=>tQ (G i k)) (qMi.1 hi) (qMi.1 hk)
  show (List.range n).map (fun k=>cS (kv (fun i k=>tQ (G i k)) n) ((i*n+k:Nat):Int) 0)++_=(List.range n).map (fun k=>tQ (G i k))++_;rw[e]
 have hrun:(u4 [.i n,.i n,.r (kv (fun i k=>tQ (G i k)) n)])=if fin.lead.length<n then .leaf (0,[.i 0,.i 0,.r [],.i 14]) else .leaf (0,[.i n,.i n,.r ((mkL (fun i k=>q93 fin.Z i (n+k)) n n).map fun x=>[.s x]),.i 0]):=by have hx:=qIL yf yU q63 v6 (show n<=16 by omega) (qj9 _ _) hck (by rw[hZ];exact r1);rw[<-qKV] at hx;exact hx
 have hbs:=qKO n hn;rcases r5 rfl with⟨q1,q2⟩|⟨q1,q2⟩
 ·refine .inl ⟨M',q1,r3.mono hbs.1 hbs.2,?_⟩;rw[hrun,if_neg (by omega)];have e:(mkL (fun i k=>q93 fin.Z i (n+k)) n n).map (fun x=>[U.s x])=kv (fun i k=>tQ (M' i (n+k))) n:=qy3 fun i k hi hk=>r2.ok i (n+k) hi (by omega);rw[e];rfl
 ·refine .inr ⟨q1,?_⟩;rw[hrun,if_pos q2];rfl
end Go.Eng

namespace Go.Eng
def txR(l:List Bs):R:=l.map fun x=>[.s x]
theorem qgv(l:List Bs):qh (txR l)=(l.length:Int):=by unfold txR qh;rw[qLE]
theorem qqF(l m:List Bs):wL (txR l) (txR m)=txR (l++m):=by unfold txR wL;rw[qM1]
theorem qrs(x:Bs):[[U.s x]]=txR [x]:=rfl
theorem qEk{l:List Bs}{i:Nat}{x:Bs}(h:l[i]?=some x):cS (txR l) (i:Int) 0=x:=by
 have e:(l.map fun x=>[U.s x]).getD i []=[U.s x]:=by rw[qLw,qLH,h];rfl
 unfold cS we txR;rw[qLG,e];rfl
theorem qvK{a b:Nat}(h:a*b<9223372036854775808):jw .i64 (a:Int) (b:Int)=((a*b:Nat):Int):=by rw[q7n (by rw[<-qMk];omega)];simp
theorem qB6{a b:Nat}(h:a+b<9223372036854775808):qE .i64 (a:Int) (b:Int)=((a+b:Nat):Int):=by rw[zp (by omega)];simp
theorem qKj{n i k:Nat}(hi:i<n)(hk:k<n):i*n+k<n*n:=by have:=qLX n (show i+1<=n by omega);rw[qLO] at this;omega
theorem qKZ{n i k:Nat}{L:R}{g:Int}(hn:n<=16)(hi:i<n)(hk:k<n)(hL:L.length=n*n)(hg:cI L ((i*n+k:Nat):Int) 0=g)(hb:-999999999999999<=g/\g<=999999999999999) :(q0f [.i i,.i k,.r L,.i n]).run=some (0,[.s (tQ (g:Rat)),.r L,.i n]):=by
 have h1:=qKj hi hk;have h2:n*n<=16*16:=qMl hn hn;rw[qta,qvK (by omega),qB6 (by omega),hg];have e:qh L=((n*n:Nat):Int):=by unfold qh;rw[hL]
 simp only[STD,q3W hb,e,show (0:Int)<=((i*n+k:Nat):Int) by omega,show ((i*n+k:Nat):Int)<((n*n:Nat):Int) by omega,and_self]
theorem qJw{n:Nat}{L:R}{g:Nat->Nat->Int}(hn:n<=16)(hL:L.length=n*n)(hg:∀i k,i<n->k<n->cI L ((i*n+k:Nat):Int) 0=g i k)(hb:∀i k,i<n->k<n->-999999999999999<=g i k/\g i k<=999999999999999) :(q6r [.i n,.i n,.r L,.i n]).run=some (0,[.i n,.i n,.r (kv (fun i k=>tQ (g i k:Rat)) n),.r L,.i n]):=by
 obtain⟨F,hF⟩:∃F:Nat->Nat->Bs,F=fun i k=>tQ (g i k:Rat):=⟨_,rfl⟩;have hnn:n*n<=16*16:=qMl hn hn;have ml:∀i,i<=n->(mkL F n i).length<=16*16:=fun i hi=>by rw[qim];exact qLA (qLX n hi) hnn
 have inner:∀i,i<n->(qf kO [.i n,.i i,.i n,.i i,.i n,.i 0,.r L,.i n,.i 0,.i 0,.i n,.i n,.r (txR (mkL F n i))]).run=some (0,[.i n,.i n,.i i,.r L,.i n,.i 0,.i 0,.i n,.i n,.r (txR (mkL F n (i+1)))]):=fun i hi=>by
  have key:=qW (S:=kO) (fun k=>[.i n,.i i,.i n,.i i,.i n,.i (k:Int),.r L,.i n,.i 0,.i 0,.i n,.i n,.r (txR (mkL F n i++(List.range k).map (F i)))]) (0,[.i n,.i n,.i i,.r L,.i n,.i 0,.i 0,.i n,.i n,.r (txR (mkL F n (i+1)))]) n (by omega) (fun k hk=>by
   rw[qf3];have hlen:(mkL F n i++(List.range k).map (F i)).length<=1000:=by have:=ml i (by omega);rw[qLR,qLE,qMa];omega
   have e1:txR (mkL F n i++(List.range (k+1)).map (F i))=wL (txR (mkL F n i++(List.range k).map (F i))) [[.s (F i k)]]:=by rw[qrs,qqF,qMQ,qM1,<-qM2];rfl
   have e2:F i k=tQ (g i k:Rat):=by rw[hF]
   have e3:qh [[U.s (tQ (g i k:Rat))]]=1:=rfl;simp only[STD,qKZ hn hi hk hL (hg i k hi hk) (hb i k hi hk),kq hk (show n<9223372036854775808 by omega),e1,e2,e3,qgv,show (k:Int)<n by omega,show (((mkL F n i++(List.range k).map (F i)).length:Int)+1<=8796093022208) by omega]) (by
   rw[qf3];simp only[STD,show ¬(n:Int)<n by omega,mkL])
  simpa using key
 have outer:=qW (S:=q0X) (fun i=>[.i n,.i n,.i (i:Int),.r L,.i n,.i 0,.i 0,.i n,.i n,.r (txR (mkL F n i))]) (0,[.r L,.i n,.i 0,.i 0,.i n,.i n,.r (txR (mkL F n n))]) n (by omega) (fun i hi=>by
  rw[qhb];simp only[STD,inner i hi,kq hi (show n<9223372036854775808 by omega),show (i:Int)<n by omega]) (by
  rw[qhb];simp only[STD,show ¬(n:Int)<n by omega])
 have key:(qf q0X [.i n,.i n,.i 0,.r L,.i n,.i 0,.i 0,.i n,.i n,.r []]).run=some (0,[.r L,.i n,.i 0,.i 0,.i n,.i n,.r (txR (mkL F n n))]):=outer;rw[qsS];simp only[STD,key];rw[hF];rfl
theorem qzM{n:Nat}{L:R}{g:Nat->Nat->Int}(hn:n<=16)(hL:L.length=n*n)(hg:∀i k,i<n->k<n->cI L ((i*n+k:Nat):Int) 0=g i k)(hb:∀i k,i<n->k<n->-999999999999999<=g i k/\g i k<=999999999999999) :(qcw [.i n,.i n,.r L]).run=some (0,[.i n,.i n,.r (kv (fun i k=>tQ (g i k:Rat)) n),.i 0]):=by
 have hnn:n*n<=16*16:=qMl hn hn;rw[qxD,qvK (by omega)];have e:qh L=((n*n:Nat):Int):=by unfold qh;rw[hL]
 simp only[STD,qHl hn,qJw hn hL hg hb,e]
theorem qHt(x:Bs):(vK [.s x,.i 0,.i 0]).run=some (0,[.s x,.i 0]):=by rw[qjw];simp only[STD]
theorem qJJ{a b:Rat}{N D N' D':Nat}(ha:bnd N D a)(hb:bnd N' D' b)(h1:N+N'<=1024)(h2:D+D'<=1024):(q0a [.s (tQ a),.s (tQ b),.i 0]).run=some (0,[.s (tQ (a*b)),.i 0]):=by rw[qlE];simp only[STD,qlH ha hb h1 h2,qHt]
theorem qK5{a b:Rat}{N D N' D':Nat}(ha:bnd N D a)(hb:bnd N' D' b)(h1:N+D'<=1023)(h2:N'+D<=1023)(h3:D+D'<=1024):(kU [.s (tQ a),.s (tQ b),.i 0]).run=some (0,[.s (tQ (a+b)),.i 0]):=by rw[qlA];simp only[STD,qkP ha hb h1 h2 h3,qHt]
theorem qIJ{F:Nat->Nat->Bs}{n i k:Nat}(hn:n<=16)(hi:i<n)(hk:k<n):(q51 [.i n,.i n,.r (kv F n),.i i,.i k]).run=some (0,[.s (F i k)]):=by
 have h1:=qKj hi hk;have h2:n*n<=16*16:=qMl hn hn;rw[qsy,qvK (by omega),qB6 (by omega),qow F hi hk];have e:qh (kv F n)=((n*n:Nat):Int):=by unfold qh;rw[qj9]
 simp only[STD,e,show (0:Int)<=((i*n+k:Nat):Int) by omega,show ((i*n+k:Nat):Int)<((n*n:Nat):Int) by omega,and_self]
def sbd:Nat->Nat×Nat
 | 0=>(1,1)
 | 1=>(352,324)
 | 2=>(676,647)
 | _=>(1000,970)
theorem qH9(m:Nat)(h:m<3):(sbd m).1+323<=1023/\350+(sbd m).2<=1023/\(sbd m).2+323<=1024/\(sbd m).1+323+1<=(sbd (m+1)).1/\350+(sbd m).2+1<=(sbd (m+1)).1/\(sbd m).2+323<=(sbd (m+1)).2:=by
 match m,h with
 | 0,_=>decide
 | 1,_=>decide
 | 2,_=>decide
theorem qHc{V B:Nat->Rat}{n:Nat}(hV:∀k,k<n->bnd 337 322 (V k))(hB:∀k,k<n->bnd 13 1 (B k)):∀m,m<=n->m<=3->bnd (sbd m).1 (sbd m).2 (su m fun k=>V k*B k)
 | 0,_,_=>qaY
 | m+1,h1,h2=>by
  obtain⟨o1,o2,o3,o4,o5,o6⟩:=qH9 m (by omega);exact((qHc hV hB m (by omega) (by omega)).add ((hV m (by omega)).mul (hB m (by omega))) o4 o5).mono (qLy _) o6
theorem qIk{n:Nat}(hn:n<=3){V:Nat->Nat->Rat}{B:Nat->Rat}(hV:∀i k,i<n->k<n->bnd 337 322 (V i k))(hB:∀k,k<n->bnd 13 1 (B k)) :(q53 [.i n,.i n,.r (kv (fun i k=>tQ (V i k)) n),.r (txR ((List.range n).map fun k=>tQ (B k)))]).run=some (0,[.r (txR ((List.range n).map fun i=>tQ (su n fun k=>V i k*B k))),.i 0]):=by
 obtain⟨bl,hbl⟩:∃bl,bl=txR ((List.range n).map fun k=>tQ (B k)):=⟨_,rfl⟩;have lb:qh bl=(n:Int):=by rw[hbl,qgv,qLE,qMa]
 have gb:∀k,k<n->cS bl (k:Int) 0=tQ (B k):=fun k hk=>by rw[hbl];exact qEk (by rw[qLH,qMu hk];rfl)
 have inner:∀i,i<n->∀acc:List Bs,(qf uL [.r bl,.i i,.s [48],.i n,.i i,.r bl,.i n,.i 0,.i n,.i n,.r (kv (fun i k=>tQ (V i k)) n),.i 0,.r (txR acc)]).run =
   some (0,[.r bl,.s (tQ (su n fun k=>V i k*B k)),.i n,.i i,.i n,.i n,.r (kv (fun i k=>tQ (V i k)) n),.i 0,.r (txR acc)]):=fun i hi acc=>by
  have key:=qW (S:=uL) (fun k=>[.r bl,.i i,.s (tQ (su k fun k=>V i k*B k)),.i n,.i i,.r bl,.i n,.i (k:Int),.i n,.i n,.r (kv (fun i k=>tQ (V i k)) n),.i 0,.r (txR acc)])
   (0,[.r bl,.s (tQ (su n fun k=>V i k*B k)),.i n,.i i,.i n,.i n,.r (kv (fun i k=>tQ (V i k)) n),.i 0,.r (txR acc)]) n (by omega) (fun k hk=>by
    rw[qd3];obtain⟨o1,o2,o3,_,_,_⟩:=qH9 k (by omega);have s1:=qHc (fun k hk=>hV i k hi hk) hB k (by omega) (by omega);simp only[STD,qIJ (F:=fun i k=>tQ (V i k)) (show n<=16 by omega) hi hk,gb k hk,lb,qJJ (hV i k hi hk) (hB k hk) (by omega) (by omega),qK5 s1 ((hV i k hi hk).mul (hB k hk)) o1 o2 o3,
     kq hk (show n<9223372036854775808 by omega),show (k:Int)<n by omega,show (0:Int)<=k by omega,and_self]
    rfl) (by
    rw[qd3];simp only[STD,show ¬(n:Int)<n by omega])
  exact key
 have outer:=qW (S:=uQ) (fun i=>[.r bl,.i n,.i (i:Int),.i n,.i n,.r (kv (fun i k=>tQ (V i k)) n),.i 0,.r (txR ((List.range i).map fun i=>tQ (su n fun k=>V i k*B k)))])
  (0,[.i 0,.r (txR ((List.range n).map fun i=>tQ (su n fun k=>V i k*B k)))]) n (by omega) (fun i hi=>by
   rw[qd5];have e1:txR ((List.range (i+1)).map fun i=>tQ (su n fun k=>V i k*B k))=wL (txR ((List.range i).map fun i=>tQ (su n fun k=>V i k*B k))) [[.s (tQ (su n fun k=>V i k*B k))]]:=by rw[qrs,qqF,qMQ,qM1];rfl
   have e3:qh [[U.s (tQ (su n fun k=>V i k*B k))]]=1:=rfl;simp only[STD,lb,inner i hi,kq hi (show n<9223372036854775808 by omega),show (i:Int)<n by omega,e1,e3,qgv,qLE,qMa,show (i:Int)+1<=8796093022208 by omega]) (by
   rw[qd5];simp only[STD,show ¬(n:Int)<n by omega])
 have key:(qf uQ [.r bl,.i n,.i 0,.i n,.i n,.r (kv (fun i k=>tQ (V i k)) n),.i 0,.r []]).run=some (0,[.i 0,.r (txR ((List.range n).map fun i=>tQ (su n fun k=>V i k*B k)))]):=outer;have hck:=qk1 (F:=fun i k=>tQ (V i k)) (show n<=16 by omega) fun i k hi hk=>qay ((hV i k hi hk).ok (by omega) (by omega));have hnum:=qye (l:=bl) (n:=n) (by have:=lb;unfold qh at this;omega) (by omega) (fun i hi=>by rw[gb i hi];exact qay ((hB i hi).ok (by omega) (by omega)));rw[<-hbl,qrz];simp only[STD,hck,lb,hnum,key]
def qCu(ox oy oz ax ay az bx by' bz:Int):Int:=(ax-ox)*(bx-ox)+(ay-oy)*(by'-oy)+(az-oz)*(bz-oz)
theorem qCs{a b:Int}(ha:co a)(hb:co b):-200000<=a-b/\a-b<=200000:=by unfold co at ha hb;omega
theorem ql1{a b c d:Int}(ha:co a)(hb:co b)(hc:co c)(hd:co d):-40000000000<=(a-b)*(c-d)/\(a-b)*(c-d)<=40000000000:=by have h1:=qCs ha hb;have h2:=qCs hc hd;have:=qKE h1.1 h1.2 h2.1 h2.2;omega
theorem qHJ{ox oy oz ax ay az bx by' bz:Int}(h1:co ox)(h2:co oy)(h3:co oz)(h4:co ax)(h5:co ay)(h6:co az)(h7:co bx)(h8:co by')(h9:co bz):-120000000000<=qCu ox oy oz ax ay az bx by' bz/\qCu ox oy oz ax ay az bx by' bz<=120000000000:=by have p1:=ql1 h4 h1 h7 h1;have p2:=ql1 h5 h2 h8 h2;have p3:=ql1 h6 h3 h9 h3;unfold qCu;omega
theorem qoA{a b:Int}(ha:co a)(hb:co b):vN .i64 a b=a-b:=wo (by have:=qCs ha hb;omega)
theorem qzl{a b c d:Int}(ha:co a)(hb:co b)(hc:co c)(hd:co d):jw .i64 (a-b) (c-d)=(a-b)*(c-d):=q7n (by have:=ql1 ha hb hc hd;omega)
theorem qfT(x y z:Int):(qY [.i x,.i y,.i z]).run=some (0,[.i x,.i y,.i z]):=by rw[qho];rfl
theorem qLe{ox oy oz ax ay az bx by' bz:Int}(h1:co ox)(h2:co oy)(h3:co oz)(h4:co ax)(h5:co ay)(h6:co az)(h7:co bx)(h8:co by')(h9:co bz) :(q1B [.i ox,.i oy,.i oz,.i ax,.i ay,.i az,.i bx,.i by',.i bz]).run=some (0,[.i (qCu ox oy oz ax ay az bx by' bz)]):=by
 have p1:=ql1 h4 h1 h7 h1;have p2:=ql1 h5 h2 h8 h2;have p3:=ql1 h6 h3 h9 h3;have key:=qW (S:=q1g) (fun i=>[.i (if i=0 then 0 else if i=1 then (ax-ox)*(bx-ox) else if i=2 then (ax-ox)*(bx-ox)+(ay-oy)*(by'-oy) else qCu ox oy oz ax ay az bx by' bz),.i (i:Int),.i ox,.i oy,.i oz,.i ax,.i ay,.i az,.i bx,.i by',.i bz])
  (0,[.i (qCu ox oy oz ax ay az bx by' bz)]) 3 (by omega) (fun i hi=>by
   rw[qh0];rcases (show i=0\/i=1\/i=2 by omega) with rfl|rfl|rfl
   ·have e1:qE .i64 ((0:Nat):Int) 1=((1:Nat):Int):=by decide
    have e2:qE .i64 0 ((ax-ox)*(bx-ox))=(ax-ox)*(bx-ox):=by rw[zp (by omega)];omega
    simp only[STD,e1,qoA h4 h1,qoA h7 h1,qzl h4 h1 h7 h1,e2,show (((0:Nat):Int)<3)=True from eq_true (by decide),show (((0:Nat):Int)=2)=False from eq_false (by decide),show (((0:Nat):Int)=1)=False from eq_false (by decide),show (((0:Nat):Int)=0)=True from eq_true (by decide),qMp,show ((1:Nat)=0)=False from eq_false (by decide)]
   ·have e1:qE .i64 ((1:Nat):Int) 1=((2:Nat):Int):=by decide
    have e2:qE .i64 ((ax-ox)*(bx-ox)) ((ay-oy)*(by'-oy))=(ax-ox)*(bx-ox)+(ay-oy)*(by'-oy):=zp (by omega);simp only[STD,e1,qoA h5 h2,qoA h8 h2,qzl h5 h2 h8 h2,e2,show (((1:Nat):Int)<3)=True from eq_true (by decide),show (((1:Nat):Int)=2)=False from eq_false (by decide),show (((1:Nat):Int)=1)=True from eq_true (by decide),show ((1:Nat)=0)=False from eq_false (by decide),show ((1+1:Nat)=0)=False from eq_false (by decide),show ((1+1:Nat)=1)=False from eq_false (by decide)]
   ·have e1:qE .i64 ((2:Nat):Int) 1=((3:Nat):Int):=by decide
    have e2:qE .i64 ((ax-ox)*(bx-ox)+(ay-oy)*(by'-oy)) ((az-oz)*(bz-oz))=qCu ox oy oz ax ay az bx by' bz:=by rw[zp (by omega)];rfl
    simp only[STD,e1,qoA h6 h3,qoA h9 h3,qzl h6 h3 h9 h3,e2,show (((2:Nat):Int)<3)=True from eq_true (by decide),show (((2:Nat):Int)=2)=True from eq_true (by decide),show ((2:Nat)=0)=False from eq_false (by decide),show ((2:Nat)=1)=False from eq_false (by decide),show ((2+1:Nat)=0)=False from eq_false (by decide),show ((2+1:Nat)=1)=False from eq_false (by decide),show ((2+1:Nat)=2)=False from eq_false (by decide)]) (by
   rw[qh0];simp only[STD,show (((3:Nat):Int)<3)=False from eq_false (by decide),show ((3:Nat)=0)=False from eq_false (by decide),show ((3:Nat)=1)=False from eq_false (by decide),show ((3:Nat)=2)=False from eq_false (by decide)])
 have key':(qf q1g [.i 0,.i 0,.i ox,.i oy,.i oz,.i ax,.i ay,.i az,.i bx,.i by',.i bz]).run=some (0,[.i (qCu ox oy oz ax ay az bx by' bz)]):=key;rw[qtK];simp only[STD,qfT,key']
variable {l:R}
def mkI(F:Nat->Nat->Int)(c:Nat):Nat->List Int
 | 0=>[]
 | i+1=>mkI F c i++(List.range c).map (F i)
theorem qnY(F:Nat->Nat->Int)(c:Nat):∀i,(mkI F c i).length=i*c
 | 0=>by simp[mkI]
 | i+1=>by rw[mkI,qLR,qnY F c i];simp[qLO]
theorem qEv(F:Nat->Nat->Int)(c:Nat):∀(n i k:Nat),i<n->k<c->(mkI F c n)[i*c+k]?=some (F i k)
 | 0,i,k,h,_=>by omega
 | n+1,i,k,h,hk=>by
  rw[mkI];by_cases hi:i<n
  ·have:i*c+k<n*c:=by have:=qLX c (show i+1<=n by omega);rw[qLO] at this;omega
   rw[qLJ (by rw[qnY];exact this)];exact qEv F c n i k hi hk
  ·have:i=n:=by omega
   subst this;rw[qLL (by rw[qnY];omega),qnY,show i*c+k-i*c=k by omega];simp[hk]
theorem qKB (F:Nat->Nat->Int){n i k:Nat}(hi:i<n)(hk:k<n):cI (rI (mkI F n n)) ((i*n+k:Nat):Int) 0=F i k:=by rw[qzF,qLG,qLw,qEv F n n i k hi hk];rfl
theorem qJZ (l m:List Int):wL (rI l) (rI m)=rI (l++m):=by unfold rI wL;rw[qM1]
def dI(l:R)(i k:Nat):Int:=qCu (cI l 0 0) (cI l 0 1) (cI l 0 2) (cI l (i:Int) 0) (cI l (i:Int) 1) (cI l (i:Int) 2) (cI l (k:Int) 0) (cI l (k:Int) 1) (cI l (k:Int) 2)
def gI2(l:R)(i k:Nat):Int:=2*dI l (i+1) (k+1)
theorem q1C.row (h:q1C l){i:Nat}(hi:i<l.length):co (cI l (i:Int) 0)/\co (cI l (i:Int) 1)/\co (cI l (i:Int) 2):=h.2 i hi
theorem q1C.row0 (h:q1C l)(hi:0<l.length):co (cI l 0 0)/\co (cI l 0 1)/\co (cI l 0 2):=h.2 0 hi
theorem qIb (h:q1C l){i k:Nat}(hi:i<l.length)(hk:k<l.length):-120000000000<=dI l i k/\dI l i k<=120000000000:=by obtain⟨a1,a2,a3⟩:=h.row0 (show 0<l.length by omega);obtain⟨b1,b2,b3⟩:=h.row hi;obtain⟨c1,c2,c3⟩:=h.row hk;exact qHJ a1 a2 a3 b1 b2 b3 c1 c2 c3
theorem qLk (h:q1C l){i k:Nat}(hi:i<l.length)(hk:k<l.length) :(q1B [.i (cI l 0 0),.i (cI l 0 1),.i (cI l 0 2),.i (cI l (i:Int) 0),.i (cI l (i:Int) 1),.i (cI l (i:Int) 2),.i (cI l (k:Int) 0),.i (cI l (k:Int) 1),.i (cI l (k:Int) 2)]).run=some (0,[.i (dI l i k)]):=by obtain⟨a1,a2,a3⟩:=h.row0 (show 0<l.length by omega);obtain⟨b1,b2,b3⟩:=h.row hi;obtain⟨c1,c2,c3⟩:=h.row hk;exact qLe a1 a2 a3 b1 b2 b3 c1 c2 c3
theorem qBN {n i:Nat}(h:q1C l)(hl:l.length=n+1)(hi:i<n)(s1 s2 s3 s4:Bs)(rt:R) :(qf jX [.r l,.i n,.i i,.i n,.i i,.i n,.i 0,.s s1,.s s2,.s s3,.s s4,.r (rI (mkI (gI2 l) n i)),.r rt]).run = some (0,[.r l,.i n,.i i,.i n,.i i,.s s1,.s s2,.s s3,.s s4,.r (rI (mkI (gI2 l) n (i+1))),.r rt]):=by
 have hn:n<=64:=by have:=h.1;omega
 have hlen:(mkI (gI2 l) n i).length<=64*64:=by rw[qnY];exact qMl (by omega) hn
 have key:=qW (S:=jX) (fun k=>[.r l,.i n,.i i,.i n,.i i,.i n,.i (k:Int),.s s1,.s s2,.s s3,.s s4,.r (rI (mkI (gI2 l) n i++(List.range k).map (gI2 l i))),.r rt])
  (0,[.r l,.i n,.i i,.i n,.i i,.s s1,.s s2,.s s3,.s s4,.r (rI (mkI (gI2 l) n (i+1))),.r rt]) n (by omega) (fun k hk=>by
   rw[qao];have hL:qh l=((n+1:Nat):Int):=by unfold qh;rw[hl]
   have w1:qE .i64 (i:Int) 1=((i+1:Nat):Int):=kq hi (by omega);have w2:qE .i64 (k:Int) 1=((k+1:Nat):Int):=kq hk (by omega);have bd:=qIb h (i:=i+1) (k:=k+1) (by omega) (by omega);have w3:jw .i64 2 (dI l (i+1) (k+1))=gI2 l i k:=q7n (by omega);have e1:rI (mkI (gI2 l) n i++(List.range (k+1)).map (gI2 l i))=wL (rI (mkI (gI2 l) n i++(List.range k).map (gI2 l i))) [[.i (gI2 l i k)]]:=by rw[show [[U.i (gI2 l i k)]]=rI [gI2 l i k] from rfl,qJZ,qMQ,qM1,<-qM2];rfl
   have e3:qh [[U.i (gI2 l i k)]]=1:=rfl;have e4:((mkI (gI2 l) n i++(List.range k).map (gI2 l i)).length:Int)+1<=17592186044416:=by rw[qLR,qLE,qMa];omega
   simp only[STD,hL,w1,w2,qLk h (i:=i+1) (k:=k+1) (by omega) (by omega),w3,e1,e3,qcc,e4,show (k:Int)<n by omega,show (0:Int)<=0 by omega,show (0:Int)<((n+1:Nat):Int) by omega,
    show (0:Int)<=((i+1:Nat):Int) by omega,show ((i+1:Nat):Int)<((n+1:Nat):Int) by omega,show (0:Int)<=((k+1:Nat):Int) by omega,show ((k+1:Nat):Int)<((n+1:Nat):Int) by omega,and_self]) (by
   rw[qao];simp only[STD,show ¬(n:Int)<n by omega,mkI])
 simpa using key
theorem qEz {n:Nat}(h:q1C l)(hl:l.length=n+1)(s1 s2 s3 s4:Bs) :(qf yM [.r l,.i n,.i n,.i 0,.s s1,.s s2,.s s3,.s s4,.r [],.r []]).run = some (0,[.r l,.i n,.s s1,.s s2,.s s3,.s s4,.r (rI (mkI (gI2 l) n n)),.r (txR ((List.range n).map fun i=>tQ (dI l (i+1) (i+1):Rat)))]):=by
 have hn:n<=64:=by have:=h.1;omega
 have key:=qW (S:=yM) (fun i=>[.r l,.i n,.i n,.i (i:Int),.s s1,.s s2,.s s3,.s s4,.r (rI (mkI (gI2 l) n i)),.r (txR ((List.range i).map fun i=>tQ (dI l (i+1) (i+1):Rat)))])
  (0,[.r l,.i n,.s s1,.s s2,.s s3,.s s4,.r (rI (mkI (gI2 l) n n)),.r (txR ((List.range n).map fun i=>tQ (dI l (i+1) (i+1):Rat)))]) n (by omega) (fun i hi=>by
   rw[qbG];have hL:qh l=((n+1:Nat):Int):=by unfold qh;rw[hl]
   have w1:qE .i64 (i:Int) 1=((i+1:Nat):Int):=kq hi (by omega);have bd:=qIb h (i:=i+1) (k:=i+1) (by omega) (by omega);have e1:txR ((List.range (i+1)).map fun i=>tQ (dI l (i+1) (i+1):Rat))=wL (txR ((List.range i).map fun i=>tQ (dI l (i+1) (i+1):Rat))) [[.s (tQ (dI l (i+1) (i+1):Rat))]]:=by rw[qrs,qqF,qMQ,qM1];rfl
   have e3:qh [[U.s (tQ (dI l (i+1) (i+1):Rat))]]=1:=rfl;simp only[STD,qBN h hl hi,hL,w1,qLk h (i:=i+1) (k:=i+1) (by omega) (by omega),q3W (m:=dI l (i+1) (i+1)) (by omega),e1,e3,qgv,qLE,qMa,show (i:Int)<n by omega,
    show (i:Int)+1<=8796093022208 by omega,show (0:Int)<=0 by omega,show (0:Int)<((n+1:Nat):Int) by omega,show (0:Int)<=((i+1:Nat):Int) by omega,show ((i+1:Nat):Int)<((n+1:Nat):Int) by omega,and_self]) (by
   rw[qbG];simp only[STD,show ¬(n:Int)<n by omega])
 exact key
def pV(l:R):Nat->V3:=fun i=>⟨(cI l (i:Int) 0:Rat),(cI l (i:Int) 1:Rat),(cI l (i:Int) 2:Rat)⟩
theorem qAa (l:R)(i k:Nat):((gI2 l i k:Int):Rat)=qqT (pV l) i k:=by unfold gI2 dI qCu qqT qcr pV;simp only[qN8,qNF,qNm];rfl
theorem qKn (l:R)(i:Nat):((dI l (i+1) (i+1):Int):Rat)=d2 (pV l 0) (pV l (i+1)):=by unfold dI qCu d2 pV;simp only[qN8,qNF,qNm];show _=_;have:((cI l 0 0:Int):Rat)=(cI l ((0:Nat):Int) 0:Rat):=rfl;grind
end Go.Eng

namespace Go.Eng
variable {n:Nat}
theorem qyV (n:Nat)(G:Nat->Nat->Rat)(i:Nat)(x:Nat->Rat):su n (fun j=>aug n G i j*x j)=su n (fun j=>G i j*x j):=qo fun j hj=>by unfold aug;rw[if_pos hj]
theorem qDH {G N:Nat->Nat->Rat}(h:qeB n (pvQ n) n 0 (aug n G)=some N){i j:Nat}(hi:i<n)(_:j<n):su n (fun k=>G i k*N k (n+j))=if j=i then 1 else 0:=by
 obtain⟨h1,h2⟩:=qoN (qDp n) n 0 _ N (by omega) (fun i j _ hj=>by omega) h;have:=(h2 (n+j) _).1 ((ql2 h1 _ _).2 fun i _=>rfl) i hi;rw[qyV] at this;rw[this];unfold aug;show (if n+j<n then G i (n+j) else if n+j=n+i then (1:Rat) else 0)=_;rw[if_neg (by omega)];by_cases e:j=i
 ·rw[if_pos e,if_pos (by omega)]
 ·rw[if_neg e,if_neg (by omega)]
theorem qIB {G N:Nat->Nat->Rat}(h:qeB n (pvQ n) n 0 (aug n G)=some N)(t:Nat->Rat)(ht:∀i,i<n->su n (fun j=>G i j*t j)=0):∀j,j<n->t j=0:=by
 obtain⟨h1,h2⟩:=qoN (qDp n) n 0 _ N (by omega) (fun i j _ hj=>by omega) h;have sol:=(h2 n _).1 ((ql2 h1 _ (fun i=>N i n)).2 fun i _=>rfl);have s2:qp3 n n (aug n G) (fun i=>aug n G i n) (fun i=>N i n+t i):=fun i hi=>by have a:=sol i hi;have b:=ht i hi;rw[<-qyV] at b;rw[qo (g:=fun j=>aug n G i j*N j n+aug n G i j*t j) (fun j _=>by grind),q3g,b,a];grind
 intro j hj;have:=(ql2 h1 _ _).1 ((h2 n _).2 s2) j hj;grind
def qKl(n:Nat)(N:Nat->Nat->Rat)(B:Nat->Rat):Nat->Rat:=fun i=>su n fun k=>N i (n+k)*B k
theorem qEu {G N:Nat->Nat->Rat}(h:qeB n (pvQ n) n 0 (aug n G)=some N)(B:Nat->Rat){i:Nat}(hi:i<n):su n (fun k=>G i k*qKl n N B k)=B i:=by
 have e:su n (fun k=>G i k*qKl n N B k)=su n (fun j=>B j*su n (fun k=>G i k*N k (n+j))):=by rw[qo (g:=fun k=>su n (fun j=>B j*(G i k*N k (n+j)))) (fun k _=>by unfold qKl;rw[<-wz];exact qo fun j _=>by grind),qyp];exact qo fun j _=>by rw[wz]
 rw[e,q9k (k:=i) _ hi (fun j hj hne=>by rw[qDH h hi hj,if_neg hne];grind),qDH h hi hi,if_pos rfl];grind
theorem qKs {l:R}{N:Nat->Nat->Rat}(h:qeB n (pvQ n) n 0 (aug n (qqT (pV l)))=some N):Bl n (pV l) (qKl n N fun k=>d2 (pV l 0) (pV l (k+1))):=⟨qf8.2 fun t ht=>qIB h t ht,fun _ hi=>qEu h _ hi⟩
theorem qGC {c:Nat->V3}(h:qeB n (pvQ n) n 0 (aug n (qqT c))=none):¬Ind (n+1) c:=by obtain⟨x,⟨j,hj,hne⟩,hs⟩:=qux (qDp n) n 0 _ (by omega) (fun i j _ hj=>by omega) h;intro hi;exact hne (qf8.1 hi x (fun i hi=>by rw[<-qyV];exact hs i hi) j hj)
theorem qJu {q:Rat}{P M:Int}(hM:M≠0)(h:q*(M:Rat)=(P:Rat)):q.num.natAbs<=P.natAbs/\q.den<=M.natAbs:=by
 have hM':(M:Rat)≠0:=by intro e;exact hM (Rat.intCast_inj.1 (e.trans (by simp)))
 have e:q=Rat.divInt P M:=by rw[Rat.divInt_eq_div,<-h];exact(Rat.mul_div_cancel hM').symm
 rw[e];constructor
 ·rw[Rat.num_divInt];refine qLA (qND _ _) ?_;rw[qMK,qNV hM];omega
 ·rw[Rat.den_divInt,if_neg hM];exact qNv _ _
def qEr(a b c d e f g h i:Rat):Rat:=a*(e*i-f*h)-b*(d*i-f*g)+c*(d*h-e*g)
theorem qHY (a b c d e f g h i p q r s t u v w x:Rat):qEr a b c d e f g h i*qEr p q r s t u v w x = qEr (a*p+b*s+c*v) (a*q+b*t+c*w) (a*r+b*u+c*x) (d*p+e*s+f*v) (d*q+e*t+f*w) (d*r+e*u+f*x) (g*p+h*s+i*v) (g*q+h*t+i*w) (g*r+h*u+i*x):=by unfold qEr;grind
end Go.Eng

namespace Go.Eng
theorem q4y{x y:Int}{a b:Nat}(hx:x.natAbs<=a)(hy:y.natAbs<=b):(x*y).natAbs<=a*b:=by rw[qMK];exact qMl hx hy
theorem qIN{x y:Int}{a b:Nat}(hx:x.natAbs<=a)(hy:y.natAbs<=b):(x+y).natAbs<=a+b:=by omega
theorem qlC{x y:Int}{a b:Nat}(hx:x.natAbs<=a)(hy:y.natAbs<=b):(x-y).natAbs<=a+b:=by omega
def qIV(a b c d e f g h i:Int):Int:=a*(e*i-f*h)-b*(d*i-f*g)+c*(d*h-e*g)
theorem qiR(a b c d e f g h i:Int):((qIV a b c d e f g h i:Int):Rat)=qEr a b c d e f g h i:=by unfold qIV qEr;simp only[qN8,qNF,qNm]
theorem qvF{A:Nat}{a b c d e f g h i:Int}(ha:a.natAbs<=A)(hb:b.natAbs<=A)(hc:c.natAbs<=A)(hd:d.natAbs<=A)(he:e.natAbs<=A)(hf:f.natAbs<=A)(hg:g.natAbs<=A)(hh:h.natAbs<=A)(hi:i.natAbs<=A) :(qIV a b c d e f g h i).natAbs<=A*(A*A+A*A)+A*(A*A+A*A)+A*(A*A+A*A):=qIN (qlC (q4y ha (qlC (q4y he hi) (q4y hf hh))) (q4y hb (qlC (q4y hd hi) (q4y hf hg)))) (q4y hc (qlC (q4y hd hh) (q4y he hg)))
def AA:Nat:=240000000000
theorem qKq{n:Nat}(hn:n<=3){g:Nat->Nat->Int}{b:Nat->Int}{N:Nat->Nat->Rat}{t:Nat->Rat}(hg:∀i k,i<n->k<n->(g i k).natAbs<=AA)(hb:∀i,i<n->(b i).natAbs<=AA)(hinv:∀i j,i<n->j<n->su n (fun k=>(g i k:Rat)*N k j)=if j=i then 1 else 0) (ht:∀i,i<n->su n (fun k=>(g i k:Rat)*t k)=(b i:Rat)) :∃D:Int,D≠0/\D.natAbs<=10^35/\∀i,i<n->∃T:Int,t i*(D:Rat)=(T:Rat)/\T.natAbs<=10^35:=by
 match n,hn with
 | 0,_=>exact⟨1,by decide,by decide,fun i hi=>by omega⟩
 | 1,_=>
  have g0:=hg 0 0 (by omega) (by omega);have b0:=hb 0 (by omega);have i0:=hinv 0 0 (by omega) (by omega);have t0:=ht 0 (by omega);simp only[su,if_true] at i0 t0;unfold AA at g0 b0;refine⟨g 0 0,fun e=>?_,by omega,fun i hi=>⟨b 0,?_,by omega⟩⟩
  ·rw[e] at i0;have:((0:Int):Rat)=0:=rfl;rw[this] at i0;grind
  ·have:i=0:=by omega
   subst this;grind
 | 2,_=>
  have g00:=hg 0 0 (by omega) (by omega);have g01:=hg 0 1 (by omega) (by omega);have g10:=hg 1 0 (by omega) (by omega);have g11:=hg 1 1 (by omega) (by omega);have b0:=hb 0 (by omega);have b1:=hb 1 (by omega);have i00:=hinv 0 0 (by omega) (by omega);have i01:=hinv 0 1 (by omega) (by omega);have i10:=hinv 1 0 (by omega) (by omega);have i11:=hinv 1 1 (by omega) (by omega);have t0:=ht 0 (by omega);have t1:=ht 1 (by omega);simp only[su,if_true,show (1=0)=False from eq_false (by decide),show (0=1)=False from eq_false (by decide),if_false] at i00 i01 i10 i11 t0 t1;have A2:AA*AA+AA*AA<=10^35:=by decide
  refine⟨g 0 0*g 1 1-g 0 1*g 1 0,fun e=>?_,qLA (qlC (q4y g00 g11) (q4y g01 g10)) A2,fun i hi=>?_⟩
  ·have e':((g 0 0:Int):Rat)*(g 1 1:Rat)-(g 0 1:Rat)*(g 1 0:Rat)=0:=by rw[<-qN8,<-qN8,<-qNm,e];rfl
   grind
  ·rcases (show i=0\/i=1 by omega) with rfl|rfl
   ·refine⟨b 0*g 1 1-g 0 1*b 1,?_,qLA (qlC (q4y b0 g11) (q4y g01 b1)) A2⟩;simp only[qN8,qNm];rw[<-t0,<-t1];grind
   ·refine⟨g 0 0*b 1-b 0*g 1 0,?_,qLA (qlC (q4y g00 b1) (q4y b0 g10)) A2⟩;simp only[qN8,qNm];rw[<-t0,<-t1];grind
 | 3,_=>
  have A3:AA*(AA*AA+AA*AA)+AA*(AA*AA+AA*AA)+AA*(AA*AA+AA*AA)<=10^35:=by decide
  have G:=fun i k (hi:i<3) (hk:k<3)=>hg i k hi hk;have i00:=hinv 0 0 (by omega) (by omega);have i01:=hinv 0 1 (by omega) (by omega);have i02:=hinv 0 2 (by omega) (by omega);have i10:=hinv 1 0 (by omega) (by omega);have i11:=hinv 1 1 (by omega) (by omega);have i12:=hinv 1 2 (by omega) (by omega);have i20:=hinv 2 0 (by omega) (by omega);have i21:=hinv 2 1 (by omega) (by omega);have i22:=hinv 2 2 (by omega) (by omega);have t0:=ht 0 (by omega);have t1:=ht 1 (by omega);have t2:=ht 2 (by omega);have B0:=hb 0 (by omega);have B1:=hb 1 (by omega);have B2:=hb 2 (by omega);simp only[su,if_true,Rat.zero_add,show (1=0)=False from eq_false (by decide),show (0=1)=False from eq_false (by decide),show (2=0)=False from eq_false (by decide),show (0=2)=False from eq_false (by decide),show (1=2)=False from eq_false (by decide),show (2=1)=False from eq_false (by decide),if_false] at i00 i01 i02 i10 i11 i12 i20 i21 i22 t0 t1 t2;have G00:=G 0 0 (by omega) (by omega);have G01:=G 0 1 (by omega) (by omega);have G02:=G 0 2 (by omega) (by omega);have G10:=G 1 0 (by omega) (by omega);have G11:=G 1 1 (by omega) (by omega);have G12:=G 1 2 (by omega) (by omega);have G20:=G 2 0 (by omega) (by omega);have G21:=G 2 1 (by omega) (by omega);have G22:=G 2 2 (by omega) (by omega);refine⟨qIV (g 0 0) (g 0 1) (g 0 2) (g 1 0) (g 1 1) (g 1 2) (g 2 0) (g 2 1) (g 2 2),fun e=>?_,qLA (qvF G00 G01 G02 G10 G11 G12 G20 G21 G22) A3,fun i hi=>?_⟩
  ·have e':=qiR (g 0 0) (g 0 1) (g 0 2) (g 1 0) (g 1 1) (g 1 2) (g 2 0) (g 2 1) (g 2 2);rw[e] at e';have m:=qHY (g 0 0) (g 0 1) (g 0 2) (g 1 0) (g 1 1) (g 1 2) (g 2 0) (g 2 1) (g 2 2) (N 0 0) (N 0 1) (N 0 2) (N 1 0) (N 1 1) (N 1 2) (N 2 0) (N 2 1) (N 2 2);rw[i00,i01,i02,i10,i11,i12,i20,i21,i22,<-e'] at m;have z:((0:Int):Rat)=0:=rfl;have o:qEr 1 0 0 0 1 0 0 0 1=1:=by unfold qEr;grind
   rw[z,o] at m;grind
  ·rw[qiR];rcases (show i=0\/i=1\/i=2 by omega) with rfl|rfl|rfl
   ·refine⟨qIV (b 0) (g 0 1) (g 0 2) (b 1) (g 1 1) (g 1 2) (b 2) (g 2 1) (g 2 2),?_,qLA (qvF B0 G01 G02 B1 G11 G12 B2 G21 G22) A3⟩;rw[qiR,<-t0,<-t1,<-t2];unfold qEr;grind
   ·refine⟨qIV (g 0 0) (b 0) (g 0 2) (g 1 0) (b 1) (g 1 2) (g 2 0) (b 2) (g 2 2),?_,qLA (qvF G00 B0 G02 G10 B1 G12 G20 B2 G22) A3⟩;rw[qiR,<-t0,<-t1,<-t2];unfold qEr;grind
   ·refine⟨qIV (g 0 0) (g 0 1) (b 0) (g 1 0) (g 1 1) (b 1) (g 2 0) (g 2 1) (b 2),?_,qLA (qvF G00 G01 B0 G10 G11 B1 G20 G21 B2) A3⟩;rw[qiR,<-t0,<-t1,<-t2];unfold qEr;grind
theorem qvd{A B:Nat->Rat}{m NA DA NB DB:Nat}(hA:∀k,k<m->bnd NA DA (A k))(hB:∀k,k<m->bnd NB DB (B k)) :
  ∀k,k<=m->bnd (NA+NB+1+k*(DA+DB+2)) (1+k*(DA+DB)) (su k fun k=>A k*B k)
 | 0,_=>qaY.mono (by omega) (by omega)
 | k+1,hk=>by
  have h:=qvd hA hB k (by omega);have e1:=qLO k 1 (DA+DB+2);have e2:=qLO k 1 (DA+DB);have e3:=Nat.mul_add k (DA+DB) 2;have:=h.add ((hA k (by omega)).mul (hB k (by omega))) (K:=NA+NB+1+(k+1)*(DA+DB+2)) (by omega) (by omega);exact this.mono (qLy _) (by omega)
theorem qEy{A B:Nat->Rat}{m NA DA NB DB:Nat}(hm:m<=1000)(hA:∀k,k<m->bnd NA DA (A k))(hB:∀k,k<m->bnd NB DB (B k))(hc:NA+NB+1+m*(DA+DB+2)<=1023){a b:R}(la:qh a=m)(lb:qh b=m)(ga:∀k,k<m->cS a (k:Int) 0=tQ (A k)) (gb:∀k,k<m->cS b (k:Int) 0=tQ (B k)):(qT [.r a,.r b]).run=some (0,[.s (tQ (su m fun k=>A k*B k)),.i 0]):=by
 have key:=qW (S:=zj) (fun k=>[.r b,.s (tQ (su k fun k=>A k*B k)),.r a,.i m,.i (k:Int)]) (0,[.s (tQ (su m fun k=>A k*B k))]) m (by omega) (fun k hk=>by
  rw[kt];have h:=qvd hA hB k (by omega);have e0:=qLX (DA+DB+2) (show k+1<=m by omega);have e1:=qLO k 1 (DA+DB+2);have e2:=qLO k 1 (DA+DB);have e3:=Nat.mul_add k (DA+DB) 2;simp only[STD,la,lb,ga k hk,gb k hk,qlH (hA k hk) (hB k hk) (by omega) (by omega),qkP h ((hA k hk).mul (hB k hk)) (by omega) (by omega) (by omega),kq hk (show m<9223372036854775808 by omega),
   show (k:Int)<m by omega,show (0:Int)<=k by omega,and_self]
  rfl) (by
  rw[kt];simp only[STD,show ¬(m:Int)<m by omega])
 have key':(qf zj [.r b,.s [48],.r a,.i (qh a),.i 0]).run=some (0,[.s (tQ (su m fun k=>A k*B k))]):=by rw[la];exact key
 rw[q7O];simp only[STD,key',zU key']
theorem qLo(x y z:Bs):qh (txR [x,y,z])=((3:Nat):Int)/\cS (txR [x,y,z]) ((0:Nat):Int) 0=x/\cS (txR [x,y,z]) ((1:Nat):Int) 0=y/\cS (txR [x,y,z]) ((2:Nat):Int) 0=z:=⟨rfl,rfl,rfl,rfl⟩
theorem qJh(a b:V3):su 3 (fun k=>(if k=0 then a.x-b.x else if k=1 then a.y-b.y else a.z-b.z)*(if k=0 then a.x-b.x else if k=1 then a.y-b.y else a.z-b.z))=d2 a b:=by simp only[su,if_true,show (1=0)=False from eq_false (by decide),show (2=0)=False from eq_false (by decide),show (2=1)=False from eq_false (by decide),if_false];unfold d2;grind
structure CB (c:V3):Prop where
 x:bnd 42 36 c.x
 y:bnd 42 36 c.y
 z:bnd 42 36 c.z
def spV(x y z:Int):V3:=⟨(x:Rat),(y:Rat),(z:Rat)⟩
theorem qfr{c:Rat}{x:Int}(h:bnd 42 36 c)(hx:co x):bnd 44 37 (c-(x:Rat)):=h.sub (qoU hx) (by omega) (by omega)
theorem qzV{c:V3}{x y z:Int}(hc:CB c)(hx:co x)(hy:co y)(hz:co z):bnd 317 223 (d2 c (spV x y z)):=by
 have key:∀k,k<3->bnd 44 37 (if k=0 then c.x-(spV x y z).x else if k=1 then c.y-(spV x y z).y else c.z-(spV x y z).z):=fun k _=>by
  split
  ·exact qfr hc.x hx
  ·split
   ·exact qfr hc.y hy
   ·exact qfr hc.z hz
 rw[<-qJh];exact qvd key key 3 (by omega)
theorem qIf(X Y Z:Bs):wL (txR (([X,Y,Z]:List Bs).take 0)) [[.s X]]=txR (([X,Y,Z]:List Bs).take (0+1))/\wL (txR (([X,Y,Z]:List Bs).take 1)) [[.s Y]]=txR (([X,Y,Z]:List Bs).take (1+1)) /\wL (txR (([X,Y,Z]:List Bs).take 2)) [[.s Z]]=txR (([X,Y,Z]:List Bs).take (2+1))/\qh (txR (([X,Y,Z]:List Bs).take 0))=0/\qh (txR (([X,Y,Z]:List Bs).take 1))=1/\qh (txR (([X,Y,Z]:List Bs).take 2))=2 /\qh [[U.s X]]=1/\qh [[U.s Y]]=1/\qh [[U.s Z]]=1:=⟨rfl,rfl,rfl,rfl,rfl,rfl,rfl,rfl,rfl⟩
theorem qzf{x y z:Int}{cx cy cz X Y Z:Bs}(hx:co x)(hy:co y)(hz:co z)(sx:(v6 [.s cx,.s (tQ (x:Rat))]).run=some (0,[.s X,.i 0]))(sy:(v6 [.s cy,.s (tQ (y:Rat))]).run=some (0,[.s Y,.i 0]))(sz:(v6 [.s cz,.s (tQ (z:Rat))]).run=some (0,[.s Z,.i 0])):(qf kP [.i x,.i y,.i z,.i 0,.s cx,.s cy,.s cz,.r []]).run=some (0,[.r (txR [X,Y,Z])]):=by
 obtain⟨t0,t1,t2,r0,r1,r2,q0,q1,q2⟩:=qIf X Y Z;have key:=qW (S:=kP) (fun k=>[.i x,.i y,.i z,.i (k:Int),.s cx,.s cy,.s cz,.r (txR (([X,Y,Z]:List Bs).take k))]) (0,[.r (txR [X,Y,Z])]) 3 (by omega) (fun k hk=>by
   rw[qff];rcases (show k=0\/k=1\/k=2 by omega) with rfl|rfl|rfl
   ·have e1:qE .i64 ((0:Nat):Int) 1=((0+1:Nat):Int):=by decide
    have e2:qyj [x,y,z] ((0:Nat):Int)=x:=rfl;simp only[STD,e1,e2,q3W (qgf hx),sx,t0,r0,q0,show (((0:Nat):Int)<3)=True from eq_true (by decide),show ((0:Int)<=((0:Nat):Int))=True from eq_true (by decide),
     show (((0:Nat):Int)=2)=False from eq_false (by decide),show (((0:Nat):Int)=1)=False from eq_false (by decide),show (((0:Nat):Int)=0)=True from eq_true (by decide),and_self,show ((0:Int)+1<=8796093022208)=True from eq_true (by decide)]
   ·have e1:qE .i64 ((1:Nat):Int) 1=((1+1:Nat):Int):=by decide
    have e2:qyj [x,y,z] ((1:Nat):Int)=y:=rfl;simp only[STD,e1,e2,q3W (qgf hy),sy,t1,r1,q1,show (((1:Nat):Int)<3)=True from eq_true (by decide),show ((0:Int)<=((1:Nat):Int))=True from eq_true (by decide),
     show (((1:Nat):Int)=2)=False from eq_false (by decide),show (((1:Nat):Int)=1)=True from eq_true (by decide),and_self,show ((1:Int)+1<=8796093022208)=True from eq_true (by decide)]
   ·have e1:qE .i64 ((2:Nat):Int) 1=((2+1:Nat):Int):=by decide
    have e2:qyj [x,y,z] ((2:Nat):Int)=z:=rfl;simp only[STD,e1,e2,q3W (qgf hz),sz,t2,r2,q2,show (((2:Nat):Int)<3)=True from eq_true (by decide),show ((0:Int)<=((2:Nat):Int))=True from eq_true (by decide),
     show (((2:Nat):Int)=2)=True from eq_true (by decide),and_self,show ((2:Int)+1<=8796093022208)=True from eq_true (by decide)]) (by
   rw[qff];simp only[STD,show (((3:Nat):Int)<3)=False from eq_false (by decide)];rfl)
 exact key
theorem qHu{c:V3}{x y z:Int}(hc:CB c)(hx:co x)(hy:co y)(hz:co z):(j9 [.s (tQ c.x),.s (tQ c.y),.s (tQ c.z),.i x,.i y,.i z]).run=some (0,[.s (tQ (d2 c (spV x y z))),.i 0]):=by
 have key':=qzf hx hy hz (qbV hc.x (qoU hx) (by omega) (by omega) (by omega)) (qbV hc.y (qoU hy) (by omega) (by omega) (by omega)) (qbV hc.z (qoU hz) (by omega) (by omega) (by omega));have kb:∀k,k<3->bnd 44 37 (if k=0 then c.x-(spV x y z).x else if k=1 then c.y-(spV x y z).y else c.z-(spV x y z).z):=fun k _=>by
  split
  ·exact qfr hc.x hx
  ·split
   ·exact qfr hc.y hy
   ·exact qfr hc.z hz
 obtain⟨l0,l1,l2,l3⟩:=qLo (tQ (c.x-(x:Rat))) (tQ (c.y-(y:Rat))) (tQ (c.z-(z:Rat)));have gg:∀k:Nat,k<3->cS (txR [tQ (c.x-(x:Rat)),tQ (c.y-(y:Rat)),tQ (c.z-(z:Rat))]) (k:Int) 0=tQ (if k=0 then c.x-(spV x y z).x else if k=1 then c.y-(spV x y z).y else c.z-(spV x y z).z):=fun k hk=>by
  rcases (show k=0\/k=1\/k=2 by omega) with rfl|rfl|rfl
  ·exact l1
  ·exact l2
  ·exact l3
 have ht:=qEy (m:=3) (by omega) kb kb (by decide) l0 l0 gg gg;rw[qJh] at ht;rw[qro];simp only[STD,qfT,key',zU key',ht]
variable {n:Nat}
theorem qyv{t:Nat->Rat}{n:Nat}(h:∀k,k<n->bnd 36 36 (t k)):∀k,k<=n->bnd (38*k+1) (36*k+1) (su k t)
 | 0,_=>qaY
 | k+1,hk=>by
  have:=(qyv h k (by omega)).add (h k (by omega)) (K:=38*(k+1)+1) (by omega) (by omega);exact this.mono (qLy _) (by omega)
theorem quQ (F:Nat->Bs){k:Nat}(hk:k<n):cS (txR ((List.range n).map F)) (k:Int) 0=F k:=qEk (by rw[qLH,qMu hk];rfl)
theorem qrw (n:Nat)(F:Nat->Bs):qh (txR ((List.range n).map F))=(n:Int):=by rw[qgv,qLE,qMa]
theorem qL7 (hn:n<=3){t:Nat->Rat}(h:∀k,k<n->bnd 36 36 (t k)):(qbM [.r (txR ((List.range n).map fun k=>tQ (t k)))]).run=some (0,[.s (tQ (su n t)),.i 0]):=by
 obtain⟨bl,hbl⟩:∃bl,bl=txR ((List.range n).map fun k=>tQ (t k)):=⟨_,rfl⟩;have lb:qh bl=(n:Int):=by rw[hbl,qrw]
 have gb:∀k,k<n->cS bl (k:Int) 0=tQ (t k):=fun k hk=>by rw[hbl];exact quQ (fun k=>tQ (t k)) hk
 have ck:(qX [.r bl]).run=some (0,[.i 0]):=by rw[hbl];exact qrG (by simp;omega) (fun s hs=>by obtain⟨k,hk,rfl⟩:=qMm.1 hs;exact qay ((h k (qMi.1 hk)).ok (by omega) (by omega)))
 have key:=qW (S:=q2o) (fun k=>[.s (tQ (su k t)),.r bl,.i n,.i (k:Int)]) (0,[.s (tQ (su n t))]) n (by omega) (fun k hk=>by
  rw[qhC];have sb:=qyv h k (by omega);simp only[STD,lb,gb k hk,qkP sb (h k hk) (by omega) (by omega) (by omega),kq hk (show n<9223372036854775808 by omega),show (k:Int)<n by omega,show (0:Int)<=k by omega,and_self];rfl) (by
  rw[qhC];simp only[STD,show ¬(n:Int)<n by omega])
 have key':(qf q2o [.s [48],.r bl,.i (n:Int),.i 0]).run=some (0,[.s (tQ (su n t))]):=key;rw[<-hbl,qy0];simp only[STD,ck,key',zU key',lb,show ¬(4096:Int)<n by omega]
theorem qvJ {q:Rat}{P M:Int}{a b:Nat}(hM:M≠0)(h:q*(M:Rat)=(P:Rat))(hP:P.natAbs<10^(a+1))(hD:M.natAbs<10^(b+1)):bnd (a+1) (b+1) q:=by obtain⟨h1,h2⟩:=qJu hM h;exact⟨q36 a _ (by omega),q36 b _ (by omega)⟩
theorem qGa (hn:n<=3){t:Nat->Rat}{D:Int}(hD:D.natAbs<=10^35)(h:∀i,i<n->∃T:Int,t i*(D:Rat)=(T:Rat)/\T.natAbs<=10^35):∀j,j<n+1->∃W:Int,wts t n j*(D:Rat)=(W:Rat)/\W.natAbs<=4*10^35:=by
 have sums:∀k,k<=n->∃W:Int,su k t*(D:Rat)=(W:Rat)/\W.natAbs<=k*10^35:=by
  intro k;induction k with
  | zero=>exact fun _=>⟨0,by simp only[su];rw[Rat.zero_mul];rfl,by simp⟩
  | succ k ih=>
   intro hk;obtain⟨W,e1,e2⟩:=ih (by omega);obtain⟨T,e3,e4⟩:=h k (by omega);refine⟨W+T,?_,?_⟩
   ·simp only[su];rw[Rat.add_mul,e1,e3,qNF]
   ·rw[qLO];omega
 intro j hj;unfold wts;by_cases e:j=0
 ·obtain⟨W,e1,e2⟩:=sums n (qLy _);refine⟨D-W,?_,?_⟩
  ·rw[if_pos e,qNm,<-e1];grind
  ·have:=qLX (10^35) hn;omega
 ·obtain⟨T,e3,e4⟩:=h (j-1) (by omega);exact⟨T,by rw[if_neg e];exact e3,by omega⟩
theorem qGK (hn:n<=3){w:Nat->Rat}{x:Nat->Int}{D:Int}(hx:∀j,j<n+1->co (x j))(h:∀j,j<n+1->∃W:Int,w j*(D:Rat)=(W:Rat)/\W.natAbs<=4*10^35) :∃C:Int,su (n+1) (fun j=>w j*(x j:Rat))*(D:Rat)=(C:Rat)/\C.natAbs<=16*10^40:=by
 have sums:∀k,k<=n+1->∃C:Int,su k (fun j=>w j*(x j:Rat))*(D:Rat)=(C:Rat)/\C.natAbs<=k*(4*10^40):=by
  intro k;induction k with
  | zero=>exact fun _=>⟨0,by simp only[su];rw[Rat.zero_mul];rfl,by simp⟩
  | succ k ih=>
   intro hk;obtain⟨C,e1,e2⟩:=ih (by omega);obtain⟨W,e3,e4⟩:=h k (by omega);refine⟨C+W*x k,?_,?_⟩
   ·simp only[su];rw[Rat.add_mul,e1,qNF,qN8,<-e3];grind
   ·have hc:=hx k (by omega);have:=q4y e4 (show (x k).natAbs<=100000 by unfold co at hc;omega);rw[qLO];omega
 obtain⟨C,e1,e2⟩:=sums (n+1) (qLy _);refine⟨C,e1,?_⟩;exact qLA e2 (qLA (qLX (4*10^40) (show n+1<=4 by omega)) (by decide))
end Go.Eng

namespace Go.Eng
variable {l:R}
def axv(l:R)(a k:Nat):Int:=qyj [cI l (k:Int) 0,cI l (k:Int) 1,cI l (k:Int) 2] (a:Int)
theorem q1C.ax (h:q1C l){k:Nat}(hk:k<l.length){a:Nat}(ha:a<3):co (axv l a k):=by
 obtain⟨h1,h2,h3⟩:=h.row hk;rcases (show a=0\/a=1\/a=2 by omega) with rfl|rfl|rfl
 ·exact h1
 ·exact h2
 ·exact h3
theorem qnT {m a:Nat}(h:q1C l)(hl:l.length=m)(ha:a<3)(s1 s2 s3 s4 t1 t2 t3 t4:Bs)(wl:R) :(qf jQ [.r l,.i a,.i a,.r l,.i m,.i 0,.s s1,.s s2,.s s3,.s s4,.r wl,.s t1,.s t2,.s t3,.s t4,.r []]).run = some (0,[.r l,.i a,.i a,.s s1,.s s2,.s s3,.s s4,.r wl,.s t1,.s t2,.s t3,.s t4,.r (txR ((List.range m).map fun k=>tQ (axv l a k:Rat)))]):=by
 have hm:m<=64:=by have:=h.1;omega
 have hL:qh l=(m:Int):=by unfold qh;rw[hl]
 have key:=qW (S:=jQ) (fun k=>[.r l,.i a,.i a,.r l,.i m,.i (k:Int),.s s1,.s s2,.s s3,.s s4,.r wl,.s t1,.s t2,.s t3,.s t4,.r (txR ((List.range k).map fun k=>tQ (axv l a k:Rat)))])
  (0,[.r l,.i a,.i a,.s s1,.s s2,.s s3,.s s4,.r wl,.s t1,.s t2,.s t3,.s t4,.r (txR ((List.range m).map fun k=>tQ (axv l a k:Rat)))]) m (by omega) (fun k hk=>by
   rw[qaj];have e0:qyj [cI l (k:Int) 0,cI l (k:Int) 1,cI l (k:Int) 2] (a:Int)=axv l a k:=rfl;have e1:txR ((List.range (k+1)).map fun k=>tQ (axv l a k:Rat))=wL (txR ((List.range k).map fun k=>tQ (axv l a k:Rat))) [[.s (tQ (axv l a k:Rat))]]:=by rw[qrs,qqF,qMQ,qM1];rfl
   have e3:qh [[U.s (tQ (axv l a k:Rat))]]=1:=rfl;simp only[STD,qfT,hL,e0,q3W (qgf (h.ax (show k<l.length by omega) ha)),kq hk (show m<9223372036854775808 by omega),e1,e3,qgv,qLE,qMa,show (k:Int)<m by omega,
    show (a:Int)<3 by omega,show (0:Int)<=a by omega,show (k:Int)+1<=8796093022208 by omega,show (0:Int)<=k by omega,and_self]) (by
   rw[qaj];simp only[STD,show ¬(m:Int)<m by omega])
 exact key
theorem qC0 {m:Nat}(h:q1C l)(hl:l.length=m)(hm:m<=4){w:Nat->Rat}(hw:∀k,k<m->bnd 36 36 (w k))(s1 s2 s3 s4:Bs) :(qf jV [.r l,.i 0,.s s1,.s s2,.s s3,.s s4,.r (txR ((List.range m).map fun k=>tQ (w k))),.s [],.s [],.s [],.s []]).run = some (0,[.r l,.s s1,.s s2,.s s3,.s s4,.r (txR ((List.range m).map fun k=>tQ (w k))),.s (tQ (cen m w (pV l)).x),.s (tQ (cen m w (pV l)).y),.s (tQ (cen m w (pV l)).z),.s []]):=by
 obtain⟨wl,hwl⟩:∃wl,wl=txR ((List.range m).map fun k=>tQ (w k)):=⟨_,rfl⟩;have hL:qh l=(m:Int):=by unfold qh;rw[hl]
 have lw:qh wl=(m:Int):=by rw[hwl,qrw]
 have gw:∀k,k<m->cS wl (k:Int) 0=tQ (w k):=fun k hk=>by rw[hwl];exact quQ (fun k=>tQ (w k)) hk
 rw[<-hwl];have tot:∀a,a<3->(qT [.r wl,.r (txR ((List.range m).map fun k=>tQ (axv l a k:Rat)))]).run=some (0,[.s (tQ (su m fun k=>w k*(axv l a k:Rat))),.i 0]):=fun a ha=>
  qEy (by omega) hw (fun k hk=>qoU (h.ax (show k<l.length by omega) ha)) (by omega) lw (qrw _ _) gw (fun k hk=>quQ (fun k=>tQ (axv l a k:Rat)) hk)
 have q0:=tot 0 (by omega);have q1:=tot 1 (by omega);have q2:=tot 2 (by omega);have key:=qW (S:=jV) (fun a=>[.r l,.i (a:Int),.s s1,.s s2,.s s3,.s s4,.r wl,.s (if 0<a then tQ (su m fun k=>w k*(axv l 0 k:Rat)) else []),.s (if 1<a then tQ (su m fun k=>w k*(axv l 1 k:Rat)) else []),.s (if 2<a then tQ (su m fun k=>w k*(axv l 2 k:Rat)) else []),.s []])
  (0,[.r l,.s s1,.s s2,.s s3,.s s4,.r wl,.s (tQ (su m fun k=>w k*(axv l 0 k:Rat))),.s (tQ (su m fun k=>w k*(axv l 1 k:Rat))),.s (tQ (su m fun k=>w k*(axv l 2 k:Rat))),.s []]) 3 (by omega) (fun a ha=>by
   rw[qap];rcases (show a=0\/a=1\/a=2 by omega) with rfl|rfl|rfl
   ·simp only[STD,hL,qnT h hl ha,q0];rfl
   ·simp only[STD,hL,qnT h hl ha,q1];rfl
   ·simp only[STD,hL,qnT h hl ha,q2];rfl) (by
   rw[qap];simp only[STD];rfl)
 exact key
end Go.Eng

namespace Go.Eng
theorem qFC(n:Nat)(t:Nat->Rat):wL [[.s (tQ (1-su n t))]] (txR ((List.range n).map fun k=>tQ (t k)))=txR ((List.range (n+1)).map fun j=>tQ (wts t n j)):=by rw[qrs,qqF,List.range_succ_eq_map,qMv,List.map_map];rfl
theorem qB1{l:R}{n:Nat}(h:q1C l)(hl:l.length=n+1)(hn:n<=3) :(∃t,Bl n (pV l) t/\(∀j,j<n+1->bnd 36 36 (wts t n j))/\CB (cen (n+1) (wts t n) (pV l)) /\(jB [.r l]).run=some (0,[.s (tQ (cen (n+1) (wts t n) (pV l)).x),.s (tQ (cen (n+1) (wts t n) (pV l)).y),.s (tQ (cen (n+1) (wts t n) (pV l)).z),.s (tQ (d2 (cen (n+1) (wts t n) (pV l)) (pV l 0))),.r (txR ((List.range (n+1)).map fun j=>tQ (wts t n j))),.b true,.i 0])) \/(¬Ind (n+1) (pV l)/\(jB [.r l]).run=some (0,[.s [],.s [],.s [],.s [],.r [],.b false,.i 0])):=by
 have hL:qh l=((n+1:Nat):Int):=by unfold qh;rw[hl]
 have w0:vN .i64 ((n+1:Nat):Int) 1=(n:Int):=by rw[wo (by omega)];omega
 have bd:∀i k,i<n->k<n->-120000000000<=dI l (i+1) (k+1)/\dI l (i+1) (k+1)<=120000000000:=fun i k hi hk=>qIb h (by omega) (by omega);have bg:∀i k,i<n->k<n->(gI2 l i k).natAbs<=240000000000:=fun i k hi hk=>by have:=bd i k hi hk;unfold gI2;omega
 have r0:=qEz h hl [] [] [] [];have r1:=qzM (n:=n) (L:=rI (mkI (gI2 l) n n)) (g:=gI2 l) (by omega) (by unfold rI;rw[qLE,qnY]) (fun i k hi hk=>qKB _ hi hk) (fun i k hi hk=>by have:=bg i k hi hk;omega);rcases qF1 hn (G:=fun i k=>(gI2 l i k:Rat)) (fun i k hi hk=>quX (qKS (by have:=bg i k hi hk;omega) (by omega)) (by omega)) with⟨N,g1,g2,g3⟩|⟨g1,g3⟩
 ·left;have eg:(fun i k=>(gI2 l i k:Rat))=qqT (pV l):=by funext i k;exact qAa l i k
  have eb:(fun k=>d2 (pV l 0) (pV l (k+1)))=fun k=>(dI l (k+1) (k+1):Rat):=by funext k;exact(qKn l k).symm
  obtain⟨t,et⟩:∃t,t=qKl n N fun k=>(dI l (k+1) (k+1):Rat):=⟨_,rfl⟩;have bl:Bl n (pV l) t:=by rw[eg] at g1;have:=qKs g1;rw[eb] at this;rw[et];exact this
  obtain⟨D,d0,d1,d2'⟩:=qKq hn (g:=gI2 l) (b:=fun i=>dI l (i+1) (i+1)) (N:=fun k j=>N k (n+j)) (t:=t) (fun i k hi hk=>bg i k hi hk)
   (fun i hi=>by have:=bd i i hi hi;show _<=240000000000;omega) (fun i j hi hj=>qDH g1 hi hj) (fun i hi=>by rw[et];exact qEu g1 _ hi)
  have tb:∀k,k<n->bnd 36 36 (t k):=fun k hk=>by obtain⟨T,e1,e2⟩:=d2' k hk;exact qvJ (a:=35) (b:=35) d0 e1 (qNt e2 (by decide)) (qNt d1 (by decide))
  have wf:=qGa hn d1 d2';have wb:∀j,j<n+1->bnd 36 36 (wts t n j):=fun j hj=>by obtain⟨W,e1,e2⟩:=wf j hj;exact qvJ (a:=35) (b:=35) d0 e1 (qNt e2 (by decide)) (qNt d1 (by decide))
  have cb:∀x:Nat->Int,(∀j,j<n+1->co (x j))->bnd 42 36 (su (n+1) fun j=>wts t n j*(x j:Rat)):=fun x hx=>by obtain⟨C,e1,e2⟩:=qGK hn hx wf;exact qvJ (a:=41) (b:=35) d0 e1 (qNt e2 (by decide)) (qNt d1 (by decide))
  have hCB:CB (cen (n+1) (wts t n) (pV l)):=⟨cb _ fun j hj=>(h.row (show j<l.length by omega)).1,cb _ fun j hj=>(h.row (show j<l.length by omega)).2.1,cb _ fun j hj=>(h.row (show j<l.length by omega)).2.2⟩;refine⟨t,bl,wb,hCB,?_⟩;have r3:=qIk hn (V:=fun i k=>N i (n+k)) (B:=fun k=>(dI l (k+1) (k+1):Rat)) (fun i k hi hk=>g2 i (n+k) hi (by omega)) (fun k hk=>quX (qKS (by have:=bd k k hk hk;omega) (by omega)) (by omega));have e3:(fun i=>tQ (su n fun k=>N i (n+k)*(dI l (k+1) (k+1):Rat)))=fun i=>tQ (t i):=by rw[et];rfl
  rw[e3] at r3;have r4:=qL7 hn tb;have sb:=qyv tb n (qLy _);have r5:=qbV qyB sb (by omega) (by omega) (by omega);rw[show tQ 1=([49]:Bs) by decide] at r5;have r6:=qC0 h hl (by omega) wb [] [] [] [];obtain⟨c,hc⟩:∃c,c=cen (n+1) (wts t n) (pV l):=⟨_,rfl⟩;rw[<-hc] at r6 hCB ⊢;obtain⟨z1,z2,z3⟩:=h.row0 (show 0<l.length by omega);have r7:(j9 [.s (tQ c.x),.s (tQ c.y),.s (tQ c.z),.i (cI l 0 0),.i (cI l 0 1),.i (cI l 0 2)]).run=some (0,[.s (tQ (d2 c (pV l 0))),.i 0]):=qHu hCB z1 z2 z3;have e5:qh [[U.s (tQ (1-su n t))]]=1:=rfl;have e6:=qFC n t;rw[qeP];simp only[STD,w0,r0,r1,g3,r3,r4,r5,e5,e6,qrw,r6,zU r6,r7,hL,show (1:Int)+n<=8796093022208 by omega,show (0:Int)<((n+1:Nat):Int) by omega];rw[if_neg (by decide),if_pos ⟨by decide,trivial⟩]
 ·right;have eg:(fun i k=>(gI2 l i k:Rat))=qqT (pV l):=by funext i k;exact qAa l i k
  refine⟨by rw[eg] at g1;exact qGC g1,?_⟩;rw[qeP];simp only[STD,hL,w0,r0,r1,g3]
theorem qwE{a:Rat}(h:okQ a):(q6f [.s (tQ a)]).run=some (0,[.i (sgn a.num),.i 0]):=by
 have e1:(q6Q [.s (tQ a)]).run=some (0,[.s (tI a.num),.s (tI (a.den:Int)),.i 0]):=by rw[qtB];simp only[STD,qay h,qil h]
 rw[qvu];simp only[STD,e1,qxc (q8C h)]
theorem q3l{N D N' D':Nat}{a b:Rat}(ha:bnd N D a)(hb:bnd N' D' b)(h1:N+D'<=1023)(h2:N'+D<=1023) :(zd [.s (tQ a),.s (tQ b)]).run=some (0,[.i (sgn (a.num*(b.den:Int)-b.num*(a.den:Int))),.i 0]):=by
 have p1:=qu9 a;have p2:=qu9 b;have p3:=qug a;have p4:=qug b;have oa:okQ a:=⟨by have:=ha.1;have:=hb.2;omega,by have:=ha.2;have:=hb.1;omega⟩;have ob:okQ b:=⟨by have:=hb.1;have:=ha.2;omega,by have:=ha.1;have:=hb.2;omega⟩;have k1:okL (a.num*(b.den:Int)):=q9M ha.1 hb.2 (by omega);have k2:okL (b.num*(a.den:Int)):=q9M hb.1 ha.2 (by omega);have m1:=qgS (q8C oa) (q5M ob) k1;have m2:=qgS (q8C ob) (q5M oa) k2;have m1':(qB [.r [[.s (tI a.num)],[.s (tI (b.den:Int))]],.i 0]).run=some (0,[.s (tI (a.num*(b.den:Int))),.i 0]):=m1;have m2':(qB [.r [[.s (tI b.num)],[.s (tI (a.den:Int))]],.i 0]).run=some (0,[.s (tI (b.num*(a.den:Int))),.i 0]):=m2;have hch:=qrG (l:=[tQ a,tQ b]) (by simp) (fun s hs=>by
  simp only[qLQ,qNT,or_false] at hs;rcases hs with rfl|rfl
  ·exact qay oa
  ·exact qay ob)
 have hch':(qX [.r [[.s (tQ a)],[.s (tQ b)]]]).run=some (0,[.i 0]):=hch;rw[qpT];simp only[STD,hch',qil oa,qil ob,m1',m2',qi0 k1 k2]
theorem qHA{m:Int}:sgn m<0↔m<0:=by unfold sgn;split<;>(try split)<;>omega
theorem qEe{m:Int}:0<sgn m↔0<m:=by unfold sgn;split<;>(try split)<;>omega
theorem qJf{a:Rat}:a.num<0↔a<0:=by rw[<-Rat.not_le,<-Rat.num_nonneg];omega
theorem qEf{a b:Rat}:0<a.num*(b.den:Int)-b.num*(a.den:Int)↔b<a:=by rw[Rat.lt_iff];omega
theorem qii{α:Type}{f:Nat->Option α}:∀{k i:Nat} {r:α},qfo f i k=some r->∃j,i<=j/\j<i+k/\f j=some r
 | 0,i,r,h=>by simp[qfo] at h
 | k+1,i,r,h=>by
  simp only[qfo] at h;cases hf:f i with
  | some a=>
   rw[hf] at h;exact⟨i,by omega,by omega,by rw[hf];exact h⟩
  | none=>
   rw[hf] at h;obtain⟨j,h1,h2,h3⟩:=qii h;exact⟨j,by omega,by omega,h3⟩
theorem qGx{n:Nat}(hn:n<=1000){w:Nat->Rat}(hw:∀k,k<n->okQ (w k)) :∃b,(qu [.r (txR ((List.range n).map fun k=>tQ (w k)))]).run=some (0,[.b b])/\(b=true↔∃k,k<n/\w k<0):=by
 obtain⟨x,hx⟩:∃x,x=txR ((List.range n).map fun k=>tQ (w k)):=⟨_,rfl⟩;have lx:qh x=(n:Int):=by rw[hx,qrw]
 have gx:∀k,k<n->cS x (k:Int) 0=tQ (w k):=fun k hk=>by rw[hx];exact quQ (fun k=>tQ (w k)) hk
 have one:∀k,k<n->(zL [.s (tQ (w k))]).run=some (0,[.b (decide (w k<0))]):=fun k hk=>by rw[qcK];simp only[STD,qwE (hw k hk)];rw[show ilt (sgn (w k).num) 0=decide (w k<0) from decide_eq_decide.2 (qHA.trans qJf)]
 have key:=q3o (S:=qj) (fun k=>[.r x,.i n,.i (k:Int),.r x,.r x]) (fun k=>if w k<0 then some (1,[.i (k:Int),.r x,.r x]) else none) (0,[.r x,.r x]) n (by omega)
  (fun k hk hf=>by
   have h0:¬w k<0:=fun h=>by rw[if_pos h] at hf;cases hf
   rw[qM];simp only[STD,lx,gx k hk,one k hk,h0,kq hk (show n<9223372036854775808 by omega),show (k:Int)<n by omega,show (0:Int)<=k by omega,and_self])
  (fun k r hk hf=>by
   have h0:w k<0:=qM9 fun h=>by rw[if_neg h] at hf;cases hf
   rw[if_pos h0] at hf;cases hf;rw[qM];simp only[STD,lx,gx k hk,one k hk,h0,show (k:Int)<n by omega,show (0:Int)<=k by omega,and_self])
  (by rw[qM];simp only[STD,show ¬(n:Int)<n by omega])
 rw[<-hx,jx];cases hs:qfo (fun k=>if w k<0 then some (1,[.i (k:Int),.r x,.r x]) else (none:Option (Nat×List PV))) 0 n with
 | none=>
  rw[hs] at key;have key':(qf qj [.r x,.i n,.i 0,.r x,.r x]).run=some (0,[.r x,.r x]):=key;refine⟨false,by simp only[STD,lx,key',zU key'],⟨fun h=>(by cases h),fun⟨k,hk,h⟩=>?_⟩⟩;have:=qfh hs k (by omega) (by omega);simp only[if_pos h] at this;cases this
 | some r=>
  rw[hs] at key;obtain⟨k,h1,h2,h3⟩:=qii hs;have h0:w k<0:=qM9 fun h=>by simp only[if_neg h] at h3;cases h3
  simp only[if_pos h0] at h3;cases h3;have key':(qf qj [.r x,.i n,.i 0,.r x,.r x]).run=some (1,[.i (k:Int),.r x,.r x]):=key;refine⟨true,by simp only[STD,lx,key',zU key'];rfl,⟨fun _=>⟨k,by omega,h0⟩,fun _=>rfl⟩⟩
theorem qFG{n:Nat}(hn:n<=1000){w:Nat->Rat}(hw:∀k,k<n->okQ (w k))(s1 s2 s3 s4:Bs) :∃b,(jh [.s s1,.s s2,.s s3,.s s4,.r (txR ((List.range n).map fun k=>tQ (w k)))]).run=some (0,[.b b])/\(b=true↔∀k,k<n->0<=w k):=by
 obtain⟨b,h1,h2⟩:=qGx hn hw;refine⟨!b,by rw[qf7];simp only[STD,h1],?_⟩;constructor
 ·intro h k hk;apply Rat.not_lt.1;intro hl;have:=h2.2 ⟨k,hk,hl⟩;rw[this] at h;cases h
 ·intro h;cases b with
  | false=>rfl
  | true=>
   obtain⟨k,hk,hl⟩:=h2.1 rfl;exact absurd (h k hk) (Rat.not_le.2 hl)
theorem qCe{l:R}(h:q1C l){c:V3}(hc:CB c){s:Rat}(hs:bnd 317 223 s)(wl:R) :∃b,(vC [.s (tQ c.x),.s (tQ c.y),.s (tQ c.z),.s (tQ s),.r wl,.r l]).run=some (0,[.b b,.i 0])/\(b=true↔∀k,k<l.length->d2 c (pV l k)<=s):=by
 have hl:=h.1;have lx:qh l=(l.length:Int):=rfl;have aw:∀k,k<l.length->(j9 [.s (tQ c.x),.s (tQ c.y),.s (tQ c.z),.i (cI l (k:Int) 0),.i (cI l (k:Int) 1),.i (cI l (k:Int) 2)]).run=some (0,[.s (tQ (d2 c (pV l k))),.i 0]):=fun k hk=>by obtain⟨h1,h2,h3⟩:=h.row hk;exact qHu hc h1 h2 h3
 have cp:∀k,k<l.length->(zd [.s (tQ (d2 c (pV l k))),.s (tQ s)]).run=some (0,[.i (sgn ((d2 c (pV l k)).num*(s.den:Int)-s.num*((d2 c (pV l k)).den:Int))),.i 0]):=fun k hk=>by obtain⟨h1,h2,h3⟩:=h.row hk;exact q3l (qzV hc h1 h2 h3) hs (by omega) (by omega)
 have key:=q3o (S:=zw) (fun k=>[.r l,.i l.length,.i (k:Int),.s (tQ c.x),.s (tQ c.y),.s (tQ c.z),.s (tQ s),.r wl]) (fun k=>if s<d2 c (pV l k) then some (1,[.b false,.i 0]) else none) (0,[]) l.length (by omega)
  (fun k hk hf=>by
   have h0:¬s<d2 c (pV l k):=fun h=>by rw[if_pos h] at hf;cases hf
   rw[um];simp only[STD,lx,aw k hk,cp k hk,qEe,qEf,h0,kq hk (show l.length<9223372036854775808 by omega),show (k:Int)<l.length by omega,show (0:Int)<=k by omega,and_self])
  (fun k r hk hf=>by
   have h0:s<d2 c (pV l k):=qM9 fun h=>by rw[if_neg h] at hf;cases hf
   rw[if_pos h0] at hf;cases hf;rw[um];simp only[STD,lx,aw k hk,cp k hk,qEe,qEf,h0,show (k:Int)<l.length by omega,show (0:Int)<=k by omega,and_self])
  (by rw[um];simp only[STD,show ¬(l.length:Int)<l.length by omega])
 rw[qcM];cases hs:qfo (fun k=>if s<d2 c (pV l k) then some (1,[PV.b false,.i 0]) else (none:Option (Nat×List PV))) 0 l.length with
 | none=>
  rw[hs] at key;have key':(qf zw [.r l,.i l.length,.i 0,.s (tQ c.x),.s (tQ c.y),.s (tQ c.z),.s (tQ s),.r wl]).run=some (0,[]):=key;refine⟨true,by simp only[STD,lx,key',zU key'],⟨fun _ k hk=>?_,fun _=>rfl⟩⟩;apply Rat.not_lt.1;intro h0;have:=qfh hs k (by omega) (by omega);simp only[if_pos h0] at this;cases this
 | some r=>
  rw[hs] at key;obtain⟨k,h1,h2,h3⟩:=qii hs;have h0:s<d2 c (pV l k):=qM9 fun h=>by simp only[if_neg h] at h3;cases h3
  simp only[if_pos h0] at h3;cases h3;have key':(qf zw [.r l,.i l.length,.i 0,.s (tQ c.x),.s (tQ c.y),.s (tQ c.z),.s (tQ s),.r wl]).run=some (1,[.b false,.i 0]):=key;refine⟨false,by simp only[STD,lx,key',zU key'];rfl,⟨fun h=>(by cases h),fun h=>?_⟩⟩;exact absurd (h k (by omega)) (Rat.not_le.2 h0)
variable {L:List Nat}{l:R}
def rN(L:List Nat):R:=rI (L.map fun k:Nat=>(k:Int))
def chR(l:R)(L:List Nat):R:=L.map fun k:Nat=>[.i (cI l (k:Int) 0),.i (cI l (k:Int) 1),.i (cI l (k:Int) 2)]
theorem q1n (L:List Nat):qh (rN L)=(L.length:Int):=by unfold rN;rw[qcc,qLE]
theorem qpe {j k:Nat}(h:L[j]?=some k):cI (rN L) (j:Int) 0=(k:Int):=by unfold rN;rw[qzF,qLG,qLw,qLH,h];rfl
theorem qdN (l:R)(L:List Nat):(chR l L).length=L.length:=by unfold chR;rw[qLE]
theorem qGm (hL:L.length<=1000)(h:∀k,k∈L->k<l.length):(q25 [.r l,.r (rN L)]).run=some (0,[.r (chR l L)]):=by
 have key:=qW (S:=yH) (fun j=>[.r l,.r (rN L),.i L.length,.i (j:Int),.r (chR l (L.take j))]) (0,[.r (chR l L)]) L.length (by omega) (fun j hj=>by
  obtain⟨k,hk⟩:∃k,L[j]?=some k:=⟨L[j],qLB hj⟩;have hkl:=h k (qMc hk);have e1:chR l (L.take (j+1))=wL (chR l (L.take j)) [[.i (cI l (k:Int) 0),.i (cI l (k:Int) 1),.i (cI l (k:Int) 2)]]:=by unfold chR wL;rw[List.take_add_one,hk,qM1];rfl
  have e2:qh (chR l (L.take j))=(j:Int):=by unfold qh;rw[qdN,qMn,qMq (by omega)]
  have e3:qh [[U.i (cI l (k:Int) 0),.i (cI l (k:Int) 1),.i (cI l (k:Int) 2)]]=1:=rfl;have e4:qh l=(l.length:Int):=rfl;rw[qcz];simp only[STD,q1n,qpe hk,e1,e2,e3,e4,kq hj (show L.length<9223372036854775808 by omega),show (j:Int)<L.length by omega,show (0:Int)<=j by omega,show (0:Int)<=k by omega,show (k:Int)<l.length by omega,
   show (j:Int)+1<=5864062014805 by omega,and_self]) (by
  rw[qcz];simp only[STD,show ¬(L.length:Int)<L.length by omega,qMz])
 have key':(qf yH [.r l,.r (rN L),.i (L.length:Int),.i 0,.r []]).run=some (0,[.r (chR l L)]):=key;rw[qot];simp only[STD,q1n,key']
theorem qEw {j k:Nat}(h:L[j]?=some k):cI (chR l L) (j:Int) 0=cI l (k:Int) 0/\cI (chR l L) (j:Int) 1=cI l (k:Int) 1/\cI (chR l L) (j:Int) 2=cI l (k:Int) 2:=by
 have e:(chR l L).getD ((j:Int).toNat) []=[.i (cI l (k:Int) 0),.i (cI l (k:Int) 1),.i (cI l (k:Int) 2)]:=by unfold chR;rw[qLG,qLw,qLH,h];rfl
 refine⟨?_,?_,?_⟩<;>(conv=>lhs;unfold cI we)<;>rw[e]<;>rfl
theorem qxz (hs:q1C l)(hL:L.length<=64)(h:∀k,k∈L->k<l.length):q1C (chR l L):=by refine⟨by rw[qdN];exact hL,fun j hj=>?_⟩;rw[qdN] at hj;obtain⟨k,hk⟩:∃k,L[j]?=some k:=⟨L[j],qLB hj⟩;obtain⟨e1,e2,e3⟩:=qEw (l:=l) hk;have:=hs.2 k (h k (qMc hk));unfold qBZ at this ⊢;rw[e1,e2,e3];exact this
def Lf(l:R)(L:List Nat)(j:Nat):Nat:=L.getD j l.length
theorem qAR (l:R)(L:List Nat):pV (chR l L)=fun j=>pV l (Lf l L j):=by
 funext j;unfold pV Lf;cases h:L[j]? with
 | some k=>
  obtain⟨e1,e2,e3⟩:=qEw (l:=l) h;rw[e1,e2,e3,qLw,h];rfl
 | none=>
  have h1:=List.getElem?_eq_none_iff.1 h;have e:(chR l L).getD ((j:Int).toNat) []=[]:=by rw[qLG,qLw,qLV (by rw[qdN];exact h1)];rfl
  have e':l.getD (((l.length:Nat):Int).toNat) []=[]:=by rw[qLG,qLw,qLV (qLy _)];rfl
  rw[qLw,h];show V3.mk _ _ _=V3.mk _ _ _;unfold cI we;simp only[Option.getD_none];rw[e,e']
def qvx(p:Nat->V3)(m n:Nat)(L:Nat->Nat)(t:Nat->Rat):Prop:=Bl n (fun j=>p (L j)) t/\(∀j,j<n+1->0<=wts t n j)/\∀i,i<m->d2 (cen (n+1) (wts t n) fun j=>p (L j)) (p i)<=d2 (cen (n+1) (wts t n) fun j=>p (L j)) (p (L 0))
theorem qq9 {n:Nat}{c:Nat->V3}{t t':Nat->Rat}(h:Bl n c t)(h':Bl n c t'):∀j,j<n+1->wts t n j=wts t' n j:=fun j hj=>by
 unfold wts;have:=qIq h h';rw[qo this];by_cases e:j=0
 ·rw[if_pos e,if_pos e]
 ·rw[if_neg e,if_neg e];exact this (j-1) (by omega)
theorem qik {n:Nat}{w w':Nat->Rat}{c:Nat->V3}(h:∀j,j<n->w j=w' j):cen n w c=cen n w' c:=by
 have e:∀f:Nat->Rat,su n (fun j=>w j*f j)=su n fun j=>w' j*f j:=fun f=>qo fun j hj=>by rw[h j hj]
 unfold cen;rw[e,e,e]
end Go.Eng

namespace Go.Eng
theorem qvo{l:R}(h:q1C l){c:V3}(hc:CB c){k:Nat}(hk:k<l.length):bnd 317 223 (d2 c (pV l k)):=by obtain⟨h1,h2,h3⟩:=h.row hk;exact qzV hc h1 h2 h3
theorem qEc{p:Nat->V3}{m n:Nat}{L:Nat->Nat}{t t':Nat->Rat}(h:qvx p m n L t)(h':Bl n (fun j=>p (L j)) t'):qvx p m n L t':=by
 have e:=qq9 h.1 h';have ec:=qik (c:=fun j=>p (L j)) e;refine⟨h',fun j hj=>?_,fun i hi=>?_⟩
 ·rw[<-e j hj];exact h.2.1 j hj
 ·rw[<-ec];exact h.2.2 i hi
theorem qs9{l:R}(hs:q1C l){L:List Nat}{n:Nat}(hL:L.length=n+1)(hn:n<=3)(hlt:∀k,k∈L->k<l.length) :(∃t,qvx (pV l) l.length n (Lf l L) t/\(∀j,j<n+1->bnd 36 36 (wts t n j))/\CB (cen (n+1) (wts t n) fun j=>pV l (Lf l L j)) /\(zK [.r l,.r (rN L)]).run=some (0,[.s (tQ (cen (n+1) (wts t n) fun j=>pV l (Lf l L j)).x),.s (tQ (cen (n+1) (wts t n) fun j=>pV l (Lf l L j)).y),.s (tQ (cen (n+1) (wts t n) fun j=>pV l (Lf l L j)).z),.s (tQ (d2 (cen (n+1) (wts t n) fun j=>pV l (Lf l L j)) (pV l (Lf l L 0)))),.r (txR ((List.range (n+1)).map fun j=>tQ (wts t n j))),.b true,.i 0])) \/((∀t,¬qvx (pV l) l.length n (Lf l L) t)/\∃s1 s2 s3 s4 wl,(zK [.r l,.r (rN L)]).run=some (0,[.s s1,.s s2,.s s3,.s s4,.r wl,.b false,.i 0])):=by
 have ch:=qGm (l:=l) (L:=L) (by omega) hlt;have sp:=qxz hs (show L.length<=64 by omega) hlt;have key:=qB1 sp (n:=n) (by rw[qdN];exact hL) hn;rw[qAR] at key;rcases key with⟨t,h1,h2,h3,h4⟩|⟨h1,h4⟩
 ·obtain⟨c,hc⟩:∃c,c=cen (n+1) (wts t n) fun j=>pV l (Lf l L j):=⟨_,rfl⟩;have l0:Lf l L 0<l.length:=by unfold Lf;rw[qLw,qLB (show 0<L.length by omega)];exact hlt _ (qM6 _)
  rw[<-hc] at h3 h4;have fb:=qvo hs h3 l0;obtain⟨b1,i1,i2⟩:=qFG (show n+1<=1000 by omega) (w:=wts t n) (fun k hk=>(h2 k hk).ok (by omega) (by omega)) (tQ c.x) (tQ c.y) (tQ c.z) (tQ (d2 c (pV l (Lf l L 0))));obtain⟨b2,j1,j2⟩:=qCe hs h3 fb (txR ((List.range (n+1)).map fun j=>tQ (wts t n j)));have nope:(b1=false\/b2=false)->∀t',¬qvx (pV l) l.length n (Lf l L) t':=fun hb t' ht'=>by
   have hh:=qEc ht' h1;unfold qvx at hh;rw[<-hc] at hh;rcases hb with e|e
   ·rw[i2.2 hh.2.1] at e;cases e
   ·rw[j2.2 hh.2.2] at e;cases e
  rw[qar];cases b1 with
  | false=>
   right;refine⟨nope (Or.inl rfl),[],[],[],[],[],?_⟩;simp only[STD,ch,h4,i1]
  | true=>
   cases b2 with
   | false=>
    right;refine⟨nope (Or.inr rfl),tQ c.x,tQ c.y,tQ c.z,tQ (d2 c (pV l (Lf l L 0))),txR ((List.range (n+1)).map fun j=>tQ (wts t n j)),?_⟩;simp only[STD,ch,h4,i1,j1]
   | true=>
    left;refine⟨t,⟨h1,i2.1 rfl,?_⟩,h2,by rw[<-hc];exact h3,?_⟩
    ·rw[<-hc];exact j2.1 rfl
    ·rw[<-hc];simp only[STD,ch,h4,i1,j1]
 ·right;refine⟨fun t ht=>h1 ht.1.ind,[],[],[],[],[],?_⟩;rw[qar];simp only[STD,ch,h4]
theorem qsN{l:R}{L:List Nat}(hL:L.length<=1000)(h:∀k,k∈L->k<l.length):(q5d [.r l,.r (rN L)]).run=some (0,[.r (chR l L)]):=by
 have key:=qW (S:=kH) (fun j=>[.r l,.r (rN L),.i (j:Int),.r (chR l (L.take j))]) (0,[.r (chR l L)]) L.length (by omega) (fun j hj=>by
  obtain⟨k,hk⟩:∃k,L[j]?=some k:=⟨L[j],qLB hj⟩;have hkl:=h k (qMc hk);have e1:chR l (L.take (j+1))=wL (chR l (L.take j)) [[.i (cI l (k:Int) 0),.i (cI l (k:Int) 1),.i (cI l (k:Int) 2)]]:=by unfold chR wL;rw[List.take_add_one,hk,qM1];rfl
  have e2:qh (chR l (L.take j))=(j:Int):=by unfold qh;rw[qdN,qMn,qMq (by omega)]
  have e3:qh [[U.i (cI l (k:Int) 0),.i (cI l (k:Int) 1),.i (cI l (k:Int) 2)]]=1:=rfl;have e4:qh l=(l.length:Int):=rfl;rw[qeE];simp only[STD,q1n,qpe hk,e1,e2,e3,e4,kq hj (show L.length<9223372036854775808 by omega),show (j:Int)<L.length by omega,show (0:Int)<=j by omega,show (0:Int)<=k by omega,show (k:Int)<l.length by omega,
   show (j:Int)+1<=5864062014805 by omega,and_self]) (by
  rw[qeE];simp only[STD,q1n,show ¬(L.length:Int)<L.length by omega,qMz])
 have key':(qf kH [.r l,.r (rN L),.i 0,.r []]).run=some (0,[.r (chR l L)]):=key;rw[qqv];simp only[STD,key']
theorem qpq{c:V3}{x y z:Int}(hc:CB c)(hx:co x)(hy:co y)(hz:co z):(q1q [.s (tQ c.x),.s (tQ c.y),.s (tQ c.z),.i x,.i y,.i z]).run=some (0,[.s (tQ (d2 c (spV x y z)))]):=by
 have bx:=qfr hc.x hx;have bY:=qfr hc.y hy;have bz:=qfr hc.z hz;have mx:=bx.mul bx;have my:=bY.mul bY;have mz:=bz.mul bz;have a1:=qaY.add mx (K:=200) (by omega) (by omega);have a2:=a1.add my (K:=400) (by omega) (by omega);obtain⟨A,hA⟩:∃A,A=(c.x-(x:Rat))*(c.x-(x:Rat)):=⟨_,rfl⟩;obtain⟨B,hB⟩:∃B,B=(c.y-(y:Rat))*(c.y-(y:Rat)):=⟨_,rfl⟩;obtain⟨C,hC⟩:∃C,C=(c.z-(z:Rat))*(c.z-(z:Rat)):=⟨_,rfl⟩;have hd:d2 c (spV x y z)=0+A+B+C:=by rw[hA,hB,hC];unfold d2 spV;grind
 have s1:=qfG (hc.x.sm (K:=100000) (by omega) (by omega)) ((qoU hx).sm (K:=100000) (by omega) (by omega));have s2:=qfG (hc.y.sm (K:=100000) (by omega) (by omega)) ((qoU hy).sm (K:=100000) (by omega) (by omega));have s3:=qfG (hc.z.sm (K:=100000) (by omega) (by omega)) ((qoU hz).sm (K:=100000) (by omega) (by omega));have t1:=qgp (bx.sm (K:=100000) (by omega) (by omega)) (bx.sm (K:=100000) (by omega) (by omega));have t2:=qgp (bY.sm (K:=100000) (by omega) (by omega)) (bY.sm (K:=100000) (by omega) (by omega));have t3:=qgp (bz.sm (K:=100000) (by omega) (by omega)) (bz.sm (K:=100000) (by omega) (by omega));have u1:=qie (qaY.sm (K:=100000) (by omega) (by omega)) (mx.sm (K:=100000) (by omega) (by omega));have u2:=qie (a1.sm (K:=100000) (by omega) (by omega)) (my.sm (K:=100000) (by omega) (by omega));have u3:=qie (a2.sm (K:=100000) (by omega) (by omega)) (mz.sm (K:=100000) (by omega) (by omega));rw[<-hA] at t1 u1 u2 u3;rw[<-hB] at t2 u2 u3;rw[<-hC] at t3 u3;obtain⟨acc,hacc⟩:∃acc:Nat->Bs,acc=fun k=>if k=0 then tQ 0 else if k=1 then tQ (0+A) else if k=2 then tQ (0+A+B) else tQ (0+A+B+C):=⟨_,rfl⟩
 have c0:acc 0=tQ 0:=by rw[hacc];rfl
 have c1:acc 1=tQ (0+A):=by rw[hacc];rfl
 have c2:acc 2=tQ (0+A+B):=by rw[hacc];rfl
 have c3:acc 3=tQ (0+A+B+C):=by rw[hacc];rfl
 have key:=qW (S:=q2r) (fun k=>[.s (acc k),.i x,.i y,.i z,.i (k:Int),.s (tQ c.x),.s (tQ c.y),.s (tQ c.z)]) (0,[.s (acc 3)]) 3 (by omega) (fun k hk=>by
  rw[qhF];rcases (show k=0\/k=1\/k=2 by omega) with rfl|rfl|rfl
  ·have e1:qE .i64 ((0:Nat):Int) 1=((0+1:Nat):Int):=by decide
   have e2:qyj [x,y,z] ((0:Nat):Int)=x:=rfl;simp only[STD,e1,e2,q45 (qgf hx),s1,t1,c0,u1,c1,show (((0:Nat):Int)<3)=True from eq_true (by decide),show ((0:Int)<=((0:Nat):Int))=True from eq_true (by decide),
    show (((0:Nat):Int)=2)=False from eq_false (by decide),show (((0:Nat):Int)=1)=False from eq_false (by decide),show (((0:Nat):Int)=0)=True from eq_true (by decide),and_self]
  ·have e1:qE .i64 ((1:Nat):Int) 1=((1+1:Nat):Int):=by decide
   have e2:qyj [x,y,z] ((1:Nat):Int)=y:=rfl;simp only[STD,e1,e2,q45 (qgf hy),s2,t2,c1,u2,c2,show (((1:Nat):Int)<3)=True from eq_true (by decide),show ((0:Int)<=((1:Nat):Int))=True from eq_true (by decide),
    show (((1:Nat):Int)=2)=False from eq_false (by decide),show (((1:Nat):Int)=1)=True from eq_true (by decide),and_self]
  ·have e1:qE .i64 ((2:Nat):Int) 1=((2+1:Nat):Int):=by decide
   have e2:qyj [x,y,z] ((2:Nat):Int)=z:=rfl;simp only[STD,e1,e2,q45 (qgf hz),s3,t3,c2,u3,c3,show (((2:Nat):Int)<3)=True from eq_true (by decide),show ((0:Int)<=((2:Nat):Int))=True from eq_true (by decide),
    show (((2:Nat):Int)=2)=True from eq_true (by decide),and_self]) (by
  rw[qhF];simp only[STD,show (((3:Nat):Int)<3)=False from eq_false (by decide)])
 have key':(qf q2r [.s [48],.i x,.i y,.i z,.i 0,.s (tQ c.x),.s (tQ c.y),.s (tQ c.z)]).run=some (0,[.s (tQ (d2 c (spV x y z)))]):=by rw[hd,<-c3];have:=key;simp only[c0] at this;exact this
 rw[qv3];simp only[STD,key']
theorem qJC{q:Rat}:(0<sgq q)=(0<q):=by
 apply propext;rcases qy6 q with⟨h,e⟩|⟨h,e⟩|⟨h,e⟩<;>rw[e]
 ·exact⟨fun h'=>by omega,fun h'=>absurd h' (Rat.not_lt.2 (Rat.le_of_lt h))⟩
 ·exact⟨fun h'=>by omega,fun h'=>by rw[h] at h';exact absurd h' Rat.lt_irrefl⟩
 ·exact⟨fun _=>h,fun _=>by omega⟩
structure NxOk (P:Nat->Nat->Rat) (n C c:Nat):Prop where
 cell:∀i j,i<n->j<C->sm 100000 (P i j)
 quo:∀j,j<C->sm 100000 (P c j/P c c)
 prod:∀i j,i<n->j<C->sm 100000 (P i c*(P c j/P c c))
variable {l:R}
theorem qqk {m:Nat}{p:Nat->V3}{n:Nat}{L:Nat->Nat}{t:Nat->Rat}(h:qvx p m n L t)(lt:∀j,j<n+1->L j<m)(asc:Asc (n+1) L) :Sup m p (n+1) L (wts t n) (d2 (cen (n+1) (wts t n) fun j=>p (L j)) (p (L 0))):=qGy h.1 lt asc h.2.1 h.2.2
theorem qFI {m:Nat}{p:Nat->V3}{n:Nat}{L:Nat->Nat}{u:Nat->Rat}{s:Rat}(h:Sup m p (n+1) L u s):qvx p m n L (fun j=>u (j+1)):=by
 obtain⟨b,e⟩:=qGO h;have ec:=qik (c:=fun j=>p (L j)) e;refine⟨b,fun j hj=>?_,fun i hi=>?_⟩
 ·rw[<-e j hj];exact h.nn j hj
 ·rw[<-ec,h.eq 0 (by omega)];exact h.all i hi
noncomputable def q4l(l:R)(L:List Nat):Bool:=@decide (∃t,qvx (pV l) l.length (L.length-1) (Lf l L) t) (Classical.propDecidable _)
theorem qj7 {L:List Nat}:q4l l L=true↔∃t,qvx (pV l) l.length (L.length-1) (Lf l L) t:=by unfold q4l;exact @decide_eq_true_iff _ (Classical.propDecidable _)
theorem qrf {L:List Nat}:q4l l L=false↔∀t,¬qvx (pV l) l.length (L.length-1) (Lf l L) t:=by unfold q4l;rw[@decide_eq_false_iff_not _ (Classical.propDecidable _)];exact⟨fun h t ht=>h ⟨t,ht⟩,fun h ⟨t,ht⟩=>h t ht⟩
def Mst(l:R)(m:Nat):Prop:=m=4\/m=3/\∀k,k<l.length->(pV l k).z=0
theorem qBk (hl:0<l.length){m:Nat}(hm:Mst l m):∃L n,qgO (q4l l) l.length 1 m=some L/\L.length=n+1/\n<m/\n<=3/\(∀a,a∈L->a<l.length)/\L.Pairwise (·<·)/\∃t,qvx (pV l) l.length n (Lf l L) t:=by
 cases e:qgO (q4l l) l.length 1 m with
 | some L=>
  obtain⟨h1,j,h2,h3,h4⟩:=qqW e;obtain⟨q1,q2,q3⟩:=q7L.1 h4;have hm4:m<=4:=by rcases hm with e|e<;>omega
  obtain⟨t,ht⟩:=qj7.1 h1;rw[q1] at ht;exact⟨L,j-1,rfl,by omega,by omega,by omega,q2,q3,t,ht⟩
 | none=>
  exfalso;obtain⟨L,u,s,h1,h2,h3,h4,h5,h6⟩:=qGF (pV l) hl l.length;have hm4:L.length<1+m:=by
   rcases hm with e|⟨e,hz⟩
   ·omega
   ·have:=h3 hz;omega
  have:=qsg e L.length (by omega) hm4 L (q7L.2 ⟨rfl,h4,h5⟩);obtain⟨n,hn⟩:∃n,L.length=n+1:=⟨L.length-1,by omega⟩;rw[hn] at h6;refine qrf.1 this (fun j=>u (j+1)) ?_;rw[show L.length-1=n from by omega];exact qFI h6
end Go.Eng

namespace Go.Eng
variable {j:Nat}
def lsR(ls:List (List Nat)):R:=ls.map fun L=>[U.l (rN L)]
theorem un (ls:List (List Nat)):qh (lsR ls)=(ls.length:Int):=by unfold lsR qh;rw[qLE]
theorem qem {ls:List (List Nat)}{L:List Nat}(h:ls[j]?=some L):cR (lsR ls) (j:Int) 0=rN L:=by
 have e:(lsR ls).getD ((j:Int).toNat) []=[U.l (rN L)]:=by unfold lsR;rw[qLG,qLw,qLH,h];rfl
 unfold cR we;rw[e];rfl
theorem qyz (ls:List (List Nat))(L:List Nat):wL (lsR ls) [[.l (rN L)]]=lsR (ls++[L]):=by unfold lsR wL;rw[qM1];rfl
theorem qDl (l:List Nat)(i:Nat):wL (rN l) [[.i (i:Int)]]=rN (l++[i]):=by unfold rN rI wL;rw[qM1,qM1];rfl
theorem qDh (l:List Nat):wL [] (rN l)=rN l:=by unfold wL;rw[qMO]
theorem qIY {l:List Nat}(h:0<l.length):cI (rN l) ((l.length:Int)-1) 0+1=(nxL l:Int):=by
 rcases List.eq_nil_or_concat l with e|⟨l',b,e⟩
 ·subst e;cases h
 ·rw[List.concat_eq_append] at e;subst e;rw[qDd];have:(((l'++[b]).length:Nat):Int)-1=((l'.length:Nat):Int):=by rw[qLR];show ((l'.length+1:Nat):Int)-1=_;omega
  rw[this,qpe (k:=b) (by rw[qLL (qLy _),qMd];rfl)];omega
def exT(l:List Nat)(j:Nat):List (List Nat):=(List.range' (nxL l) j).map fun i=>l++[i]
theorem qAS (l:List Nat):exT l 0=[]:=rfl
theorem qAh (l:List Nat)(j:Nat):exT l (j+1)=exT l j++[l++[nxL l+j]]:=by unfold exT;rw[show List.range' (nxL l) (j+1)=List.range' (nxL l) j++[nxL l+j] from by rw[List.range'_concat,qNc],qM1];rfl
theorem qDb (n:Nat)(l:List Nat):exT l (n-nxL l)=exL n l:=rfl
theorem qyA (l:List Nat)(j:Nat):(exT l j).length=j:=by unfold exT;rw[qLE,List.length_range']
theorem qrn {α β:Type}(f:α->List β){ls:List α}{a:α}(h:ls[j]?=some a):(ls.take (j+1)).flatMap f=(ls.take j).flatMap f++f a:=by rw[List.take_add_one,h,List.flatMap_append];show _++[a].flatMap f=_;rw[List.flatMap_cons,List.flatMap_nil,qMr]
theorem qx4{α:Type}{P:List Nat->Bool}(g:List Nat->α)(f:List Nat->List (List Nat)):∀(ls pre:List (List Nat)),qfo (fun j=>((f ((pre++ls).getD j [])).find? P).map g) pre.length ls.length=((ls.flatMap f).find? P).map g
 | [],pre=>rfl
 | L::ls,pre=>by
  have e:(pre++L::ls).getD pre.length []=L:=by rw[qLw,qLL (qLy _),qMd];rfl
  have ih:=qx4 (P:=P) g f ls (pre++[L]);rw[qM2,qLR] at ih;rw[qM0];simp only[qfo];rw[e,List.flatMap_cons,List.find?_append];cases h:(f L).find? P with
  | some a=>rfl
  | none=>exact ih
theorem quu{α:Type}{P:List Nat->Bool}(g:List Nat->α)(n:Nat):∀(m k:Nat),qfo (fun j=>((lsN n (j+1)).find? P).map g) k m=(qgO P n (k+1) m).map g
 | 0,k=>rfl
 | m+1,k=>by
  simp only[qfo];rw[qgO];cases h:(lsN n (k+1)).find? P with
  | some a=>rfl
  | none=>exact quu g n m (k+1)
theorem qDM{α:Type}{P:List Nat->Bool}(g:List Nat->α)(L:List Nat):∀(m k:Nat),qfo (fun j=>if P (L++[nxL L+j])=true then some (g (L++[nxL L+j])) else none) k m=(((List.range' (nxL L+k) m).map fun i=>L++[i]).find? P).map g
 | 0,k=>rfl
 | m+1,k=>by
  have ih:=qDM (P:=P) g L m (k+1);rw[List.range'_succ,qMv,List.find?_cons];simp only[qfo];cases h:P (L++[nxL L+k]) with
  | true=>rw[if_pos rfl];rfl
  | false=>rw[if_neg (by decide)];exact ih
theorem qmS {ls:List (List Nat)}(hj:j<ls.length):ls[j]?=some (ls.getD j []):=by rw[qLw,qLB hj];rfl
end Go.Eng

namespace Go.Eng
variable {k:Nat}{n:Nat}
theorem qLb {S:List PV->TR}(hS:∀(y0:Int) (y1:R) (y2:Int) (y3:R) (y4:Int) (y5:Int) (y6:R),S [.i y0,.r y1,.i y2,.r y3,.i y4,.i y5,.r y6]=(.br (ilt y2 y0) (.br (ile ((qh [])+(qh y1)) 17592186044416) (.br (ile ((qh (wL [] y1))+(qh [[(.i y2)]])) 17592186044416) (.br (ile ((qh y6)+(qh [[(.l (wL (wL [] y1) [[(.i y2)]]))]])) 5864062014805) (.leaf (0,[(.i y0),(.r y1),(.i (qE .i64 y2 1)),(.r y3),(.i y4),(.i y5),(.r (wL y6 [[(.l (wL (wL [] y1) [[(.i y2)]]))]]))])) .fail) .fail) .fail) (.leaf (1,[(.i y0),(.r y3),(.i y4),(.i y5),(.r y6)])))){n:Nat} {l:List Nat} (hn:n<=64) (hl:l.length<=64) (y3:R) (y4 y5:Int) (acc:List (List Nat)) (ha:acc.length<=1000000000) :(qf S [.i (n:Int),.r (rN l),.i (nxL l:Int),.r y3,.i y4,.i y5,.r (lsR acc)]).run=some (0,[.i (n:Int),.r y3,.i y4,.i y5,.r (lsR (acc++exL n l))]):=by
 have key:=qW (S:=S) (fun j=>[.i (n:Int),.r (rN l),.i ((nxL l+j:Nat):Int),.r y3,.i y4,.i y5,.r (lsR (acc++exT l j))]) (0,[.i (n:Int),.r y3,.i y4,.i y5,.r (lsR (acc++exL n l))]) (n-nxL l) (by omega) (fun j hj=>by
  have w:qE .i64 ((nxL l+j:Nat):Int) 1=((nxL l+j+1:Nat):Int):=kq (show nxL l+j<64 by omega) (by omega);have e1:qh ([]:R)=0:=rfl;have e2:∀x:U,qh [[x]]=1:=fun _=>rfl;have e3:(acc++exT l j).length=acc.length+j:=by rw[qLR,qyA]
  rw[hS];simp only[STD,e1,e2,qDh,qDl,q1n,un,qyz,e3,w,show ((nxL l+j:Nat):Int)<n by omega,show (0:Int)+l.length<=17592186044416 by omega,show (l.length:Int)+1<=17592186044416 by omega,
   show ((acc.length+j:Nat):Int)+1<=5864062014805 by omega,qAh,qM2,qN4]) (by
  rw[hS];simp only[STD,show ¬((nxL l+(n-nxL l):Nat):Int)<n by omega,qDb])
 have key':(qf S [.i (n:Int),.r (rN l),.i ((nxL l+0:Nat):Int),.r y3,.i y4,.i y5,.r (lsR (acc++exT l 0))]).run=_:=key;rw[qAS,qMr,qMo] at key';exact key'
theorem qz8 {l:List Nat}(h:0<l.length)(hl:l.length<=64)(hx:nxL l<=64):qE .i64 (cI (rN l) (vN .i64 (l.length:Int) 1) 0) 1=(nxL l:Int):=by have e:=qIY h;have e1:vN .i64 (l.length:Int) 1=(l.length:Int)-1:=wo ⟨by omega,by omega⟩;rw[e1,zp ⟨by omega,by omega⟩];exact e
theorem qKD {S S16:List PV->TR}(hS16:∀(y0:Int) (y1:R) (y2:Int) (y3:R) (y4:Int) (y5:Int) (y6:R),S16 [.i y0,.r y1,.i y2,.r y3,.i y4,.i y5,.r y6]=(.br (ilt y2 y0) (.br (ile ((qh [])+(qh y1)) 17592186044416) (.br (ile ((qh (wL [] y1))+(qh [[(.i y2)]])) 17592186044416) (.br (ile ((qh y6)+(qh [[(.l (wL (wL [] y1) [[(.i y2)]]))]])) 5864062014805) (.leaf (0,[(.i y0),(.r y1),(.i (qE .i64 y2 1)),(.r y3),(.i y4),(.i y5),(.r (wL y6 [[(.l (wL (wL [] y1) [[(.i y2)]]))]]))])) .fail) .fail) .fail) (.leaf (1,[(.i y0),(.r y3),(.i y4),(.i y5),(.r y6)]))))(hS:∀(y0:Int) (y1:R) (y2:Int) (y3:Int) (y4:R),S [.i y0,.r y1,.i y2,.i y3,.r y4]=(.br (ilt y3 y2) (.br (inb y3 (qh y1)) (.br (ilt 0 (qh (cR y1 y3 0))) (.br (inb (vN .i64 (qh (cR y1 y3 0)) 1) (qh (cR y1 y3 0))) (let r0:TR:=(qf S16 [(.i y0),(.r (cR y1 y3 0)),(.i (qE .i64 (cI (cR y1 y3 0) (vN .i64 (qh (cR y1 y3 0)) 1) 0) 1)),(.r y1),(.i y2),(.i y3),(.r y4)]);.br (okR r0) (.leaf (0,[(.i (gI r0 0)),(.r (gR r0 1)),(.i (gI r0 2)),(.i (qE .i64 (gI r0 3) 1)),(.r (gR r0 4))])) .fail) .fail) (let r0:TR:=(qf S16 [(.i y0),(.r (cR y1 y3 0)),(.i 0),(.r y1),(.i y2),(.i y3),(.r y4)]);.br (okR r0) (.leaf (0,[(.i (gI r0 0)),(.r (gR r0 1)),(.i (gI r0 2)),(.i (qE .i64 (gI r0 3) 1)),(.r (gR r0 4))])) .fail)) .fail) (.leaf (1,[(.r y4)])))){n:Nat} {ls:List (List Nat)} (hn:n<=64) (hm:∀l,l∈ls->l.length<=64/\nxL l<=64) (hls:ls.length<=10000000) :(qf S [.i (n:Int),.r (lsR ls),.i (ls.length:Int),.i 0,.r []]).run=some (0,[.r (lsR (ls.flatMap (exL n)))]):=by
 have key:=qW (S:=S) (fun j=>[.i (n:Int),.r (lsR ls),.i (ls.length:Int),.i (j:Int),.r (lsR ((ls.take j).flatMap (exL n)))]) (0,[.r (lsR (ls.flatMap (exL n)))]) ls.length (by omega) (fun j hj=>by
  obtain⟨l,hl⟩:∃l,ls[j]?=some l:=⟨ls[j],qLB hj⟩;obtain⟨m1,m2⟩:=hm l (qMc hl);have fl:((ls.take j).flatMap (exL n)).length<=1000000000:=by have:=qqr (exL n) n (qyS n) (ls.take j);rw[qMn,qMq (by omega)] at this;have:j*n<=10000000*64:=qMl (by omega) hn;omega
  have r0:=qLb hS16 hn m1 (lsR ls) (ls.length:Int) (j:Int) _ fl;have w:qE .i64 (j:Int) 1=((j+1:Nat):Int):=kq hj (by omega);rw[hS];by_cases h0:0<l.length
  ·have w1:vN .i64 (l.length:Int) 1=(l.length:Int)-1:=wo ⟨by omega,by omega⟩;have e:=qz8 h0 m1 m2;rw[w1] at e;simp only[STD,un,qem hl,q1n,w1,e,r0,w,qrn (exL n) hl,show (j:Int)<ls.length by omega,show (0:Int)<=j by omega,show (0:Int)<l.length by omega,show (0:Int)<=(l.length:Int)-1 by omega,show (l.length:Int)-1<l.length by omega,and_self]
  ·have e:l=[]:=qN3 (by omega);subst e;have r1:(qf S16 [.i (n:Int),.r (rN []),.i 0,.r (lsR ls),.i (ls.length:Int),.i (j:Int),.r (lsR ((ls.take j).flatMap (exL n)))]).run=_:=r0;simp only[STD,un,qem hl,q1n,r1,w,qrn (exL n) hl,show (j:Int)<ls.length by omega,show (0:Int)<=j by omega,show ¬(0:Int)<(([]:List Nat).length:Int) from by decide,and_self]) (by
  rw[hS];simp only[STD,show ¬(ls.length:Int)<ls.length by omega,qMz])
 exact key
theorem qFr (n:Nat):(uE [.i (n:Int),.i ((0:Nat):Int)]).run=some (0,[.r (lsR (lsN n 0))]):=by rw[qry];simp only[STD,show (((0:Nat):Int)=0)=True from eq_true rfl];rfl
theorem qAT {n k:Nat}(hn:n<=64)(hk:k<=64):∀l,l∈lsN n k->l.length<=64/\nxL l<=64:=fun l hl=>by obtain⟨h1,h2,_⟩:=q7L.1 hl;exact⟨by omega,qLA (qDk h2) hn⟩
theorem qlk {n k:Nat}(hn:n<=64)(hk:k<=3):(lsN n k).length<=10000000:=by refine qLA (qyP n k) (qLA (Nat.pow_le_pow_left hn k) (qLA (qN1 (by decide) hk) (by decide)))
theorem qGT (hn:n<=64)(hk:k<=1):(q0B [.i (n:Int),.i (k:Int)]).run=some (0,[.r (lsR (lsN n k))]):=by
 rw[qrE]
 match k with
 | 0=>
  simp only[STD,show (((0:Nat):Int)=0)=True from eq_true rfl];rfl
 | k+1=>
  have w:vN .i64 ((k+1:Nat):Int) 1=(k:Int):=by rw[wo ⟨by omega,by omega⟩];omega
  have r0:(uE [.i (n:Int),.i (k:Int)]).run=some (0,[.r (lsR (lsN n k))]):=by
   have e:k=0:=by omega
   subst e;exact qFr n
  have r1:=qKD (S:=q27) (S16:=uO) qmn qnX hn (qAT (k:=k) hn (by omega)) (qlk hn (by omega));simp only[STD,show ¬((k+1:Nat):Int)=0 by omega,w,r0,un,r1];rfl
theorem qGc (hn:n<=64)(hk:k<=2):(q0w [.i (n:Int),.i (k:Int)]).run=some (0,[.r (lsR (lsN n k))]):=by
 rw[qsj]
 match k with
 | 0=>
  simp only[STD,show (((0:Nat):Int)=0)=True from eq_true rfl];rfl
 | k+1=>
  have w:vN .i64 ((k+1:Nat):Int) 1=(k:Int):=by rw[wo ⟨by omega,by omega⟩];omega
  have r0:=qGT hn (k:=k) (by omega);have r1:=qKD (S:=q2h) (S16:=uI) qmN qop hn (qAT (k:=k) hn (by omega)) (qlk hn (by omega));simp only[STD,show ¬((k+1:Nat):Int)=0 by omega,w,r0,un,r1];rfl
theorem qGl (hn:n<=64)(hk:k<=3):(q0v [.i (n:Int),.i (k:Int)]).run=some (0,[.r (lsR (lsN n k))]):=by
 rw[qqM]
 match k with
 | 0=>
  simp only[STD,show (((0:Nat):Int)=0)=True from eq_true rfl];rfl
 | k+1=>
  have w:vN .i64 ((k+1:Nat):Int) 1=(k:Int):=by rw[wo ⟨by omega,by omega⟩];omega
  have r0:=qGc hn (k:=k) (by omega);have r1:=qKD (S:=q2a) (S16:=uN) qmz qo3 hn (qAT (k:=k) hn (by omega)) (qlk hn (by omega));simp only[STD,show ¬((k+1:Nat):Int)=0 by omega,w,r0,un,r1];rfl
theorem qDQ (hn:n<=64)(hk:k<=4):(q46 [.i (n:Int),.i (k:Int)]).run=some (0,[.r (lsR (lsN n k))]):=by
 rw[qtc]
 match k with
 | 0=>
  simp only[STD,show (((0:Nat):Int)=0)=True from eq_true rfl];rfl
 | k+1=>
  have w:vN .i64 ((k+1:Nat):Int) 1=(k:Int):=by rw[wo ⟨by omega,by omega⟩];omega
  have r0:=qGl hn (k:=k) (by omega);have r1:=qKD (S:=q3s) (S16:=kK) qnI qpA hn (qAT (k:=k) hn (by omega)) (qlk hn (by omega));simp only[STD,show ¬((k+1:Nat):Int)=0 by omega,w,r0,un,r1];rfl
theorem qFW {n k:Nat}(hn:n<=64)(hk:k<=4):(lsN n k).length<=1000000000:=by refine qLA (qyP n k) (qLA (Nat.pow_le_pow_left hn k) (qLA (qN1 (by decide) hk) (by decide)))
end Go.Eng

namespace Go.Eng
variable {L:List Nat}{l:R}
noncomputable def tO(l:R)(L:List Nat):Nat->Rat:=Classical.epsilon fun t=>qvx (pV l) l.length (L.length-1) (Lf l L) t
noncomputable def cO(l:R)(L:List Nat):V3:=cen (L.length-1+1) (wts (tO l L) (L.length-1)) fun j=>pV l (Lf l L j)
noncomputable def sO(l:R)(L:List Nat):Rat:=d2 (cO l L) (pV l (Lf l L 0))
noncomputable def wO(l:R)(L:List Nat):R:=txR ((List.range (L.length-1+1)).map fun j=>tQ (wts (tO l L) (L.length-1) j))
theorem qyu (h:q4l l L=true):qvx (pV l) l.length (L.length-1) (Lf l L) (tO l L):=Classical.epsilon_spec (qj7.1 h)
theorem qrB (hs:q1C l){n:Nat}(hL:L.length=n+1)(hn:n<=3)(hlt:∀k,k∈L->k<l.length)(h:q4l l L=true) :CB (cO l L)/\(zK [.r l,.r (rN L)]).run=some (0,[.s (tQ (cO l L).x),.s (tQ (cO l L).y),.s (tQ (cO l L).z),.s (tQ (sO l L)),.r (wO l L),.b true,.i 0]):=by
 have eL:L.length-1=n:=by omega
 have sp:=qyu h;unfold sO wO;unfold cO;rw[eL] at sp ⊢;rcases qs9 hs hL hn hlt with⟨t,h1,h2,h3,h4⟩|⟨h1,_⟩
 ·have e:=qq9 h1.1 sp.1;have ec:=qik (c:=fun j=>pV l (Lf l L j)) e;have el:((List.range (n+1)).map fun j=>tQ (wts t n j))=(List.range (n+1)).map fun j=>tQ (wts (tO l L) n j):=qMW fun j hj=>by rw[e j (qMi.1 hj)]
  rw[ec,el] at h4;rw[ec] at h3;exact⟨h3,h4⟩
 ·exact absurd sp (h1 _)
theorem qAk (hs:q1C l){n:Nat}(hL:L.length=n+1)(hn:n<=3)(hlt:∀k,k∈L->k<l.length)(h:q4l l L=false) :∃s1 s2 s3 s4 wl,(zK [.r l,.r (rN L)]).run=some (0,[.s s1,.s s2,.s s3,.s s4,.r wl,.b false,.i 0]):=by
 have eL:L.length-1=n:=by omega
 have hh:=qrf.1 h;rw[eL] at hh;rcases qs9 hs hL hn hlt with⟨t,h1,_⟩|⟨_,h4⟩
 ·exact absurd h1 (hh t)
 ·exact h4
noncomputable def lO(l:R)(n m:Int)(L:List Nat):Nat×List PV:=(1,[.r l,.s (tQ (cO l L).x),.s (tQ (cO l L).y),.s (tQ (cO l L).z),.s (tQ (sO l L)),.r (wO l L),.i 0,.i n,.i m,.r (rN L)])
theorem qL8 (hs:q1C l)(hL:L.length<=3)(hlt:∀k,k∈L->k<l.length)(y2 y3 y4 y5 y13:Int)(y14:R)(acc:List (List Nat))(ha:acc.length<=1000000000) :(qf zc [.r (rN L),.i (nxL L:Int),.i y2,.i y3,.i y4,.i y5,.r l,.s [],.s [],.s [],.s [],.i 0,.i (l.length:Int),.i y13,.r y14,.r (lsR acc)]).run = some ((((exL l.length L).find? (q4l l)).map (lO l l.length y13)).getD (0,[.i y2,.i y3,.i y4,.i y5,.r l,.s [],.s [],.s [],.s [],.i 0,.i (l.length:Int),.i y13,.r y14,.r (lsR (acc++exL l.length L))])):=by
 have hn:=hs.1;have key:=q3o (S:=zc) (fun j=>[.r (rN L),.i ((nxL L+j:Nat):Int),.i y2,.i y3,.i y4,.i y5,.r l,.s [],.s [],.s [],.s [],.i 0,.i (l.length:Int),.i y13,.r y14,.r (lsR (acc++exT L j))])
  (fun j=>if q4l l (L++[nxL L+j])=true then some (lO l l.length y13 (L++[nxL L+j])) else none)
  (0,[.i y2,.i y3,.i y4,.i y5,.r l,.s [],.s [],.s [],.s [],.i 0,.i (l.length:Int),.i y13,.r y14,.r (lsR (acc++exL l.length L))]) (l.length-nxL L) (by omega) (fun j hj hf=>by
  have e:q4l l (L++[nxL L+j])=false:=by
   cases h:q4l l (L++[nxL L+j]) with
   | true=>rw[if_pos h] at hf;cases hf
   | false=>rfl
  have lj:(L++[nxL L+j]).length=L.length+1:=by rw[qLR];rfl
  have ltj:∀k,k∈L++[nxL L+j]->k<l.length:=fun k hk=>by
   rcases qLU.1 hk with q|q
   ·exact hlt k q
   ·rw[qLT.1 q];omega
  obtain⟨s1,s2,s3,s4,wl,r1⟩:=qAk hs lj hL ltj e;have w:qE .i64 ((nxL L+j:Nat):Int) 1=((nxL L+j+1:Nat):Int):=kq (show nxL L+j<64 by omega) (by omega);have e2:∀x:U,qh [[x]]=1:=fun _=>rfl;have e3:(acc++exT L j).length=acc.length+j:=by rw[qLR,qyA]
  have cl:(vg [.r (rN L)]).run=some (0,[.r (rN L)]):=by rw[q7x];simp only[STD,q1n,show (L.length:Int)<=17592186044416 by omega]
  rw[q1K];simp only[STD,cl,e2,qDl,q1n,un,qyz,e3,w,r1,show ((nxL L+j:Nat):Int)<l.length by omega,show (L.length:Int)+1<=17592186044416 by omega,
   show ((acc.length+j:Nat):Int)+1<=5864062014805 by omega,qAh,qM2,qN4]) (fun j r hj hf=>by
  have e:q4l l (L++[nxL L+j])=true:=by
   cases h:q4l l (L++[nxL L+j]) with
   | false=>rw[if_neg (by rw[h];decide)] at hf;cases hf
   | true=>rfl
  rw[if_pos e] at hf;cases hf;have lj:(L++[nxL L+j]).length=L.length+1:=by rw[qLR];rfl
  have ltj:∀k,k∈L++[nxL L+j]->k<l.length:=fun k hk=>by
   rcases qLU.1 hk with q|q
   ·exact hlt k q
   ·rw[qLT.1 q];omega
  obtain⟨_,r1⟩:=qrB hs lj hL ltj e;have e2:∀x:U,qh [[x]]=1:=fun _=>rfl;have e3:(acc++exT L j).length=acc.length+j:=by rw[qLR,qyA]
  have cl:(vg [.r (rN L)]).run=some (0,[.r (rN L)]):=by rw[q7x];simp only[STD,q1n,show (L.length:Int)<=17592186044416 by omega]
  rw[q1K];unfold lO;simp only[STD,cl,e2,qDl,q1n,un,qyz,e3,r1,show ((nxL L+j:Nat):Int)<l.length by omega,show (L.length:Int)+1<=17592186044416 by omega,
   show ((acc.length+j:Nat):Int)+1<=5864062014805 by omega]) (by
  rw[q1K];simp only[STD,show ¬((nxL L+(l.length-nxL L):Nat):Int)<l.length by omega,qDb])
 have e:=qDM (P:=q4l l) (lO l l.length y13) L (l.length-nxL L) 0;rw[e] at key;have key':(qf zc [.r (rN L),.i ((nxL L+0:Nat):Int),.i y2,.i y3,.i y4,.i y5,.r l,.s [],.s [],.s [],.s [],.i 0,.i (l.length:Int),.i y13,.r y14,.r (lsR (acc++exT L 0))]).run=_:=key;rw[qAS,qMr,qMo] at key';exact key'
theorem qLl (hs:q1C l){ls:List (List Nat)}{q:Nat}(hq:q<=3)(hls:ls.length<=10000000)(hm:∀L,L∈ls->L.length=q/\∀a,a∈L->a<l.length)(y0 y1 y11:Int) :(qf vY [.i y0,.i y1,.i (ls.length:Int),.i 0,.r l,.s [],.s [],.s [],.s [],.i 0,.i (l.length:Int),.i y11,.r (lsR ls),.r []]).run = some ((((ls.flatMap (exL l.length)).find? (q4l l)).map (lO l l.length y11)).getD (0,[.i y0,.i y1,.r l,.s [],.s [],.s [],.s [],.i 0,.i (l.length:Int),.i y11,.r (lsR (ls.flatMap (exL l.length)))])):=by
 have hn:=hs.1;have step:∀j,j<ls.length->∃L,ls[j]?=some L/\ls.getD j []=L/\(qf zc [.r (rN L),.i (nxL L:Int),.i y0,.i y1,.i (ls.length:Int),.i (j:Int),.r l,.s [],.s [],.s [],.s [],.i 0,.i (l.length:Int),.i y11,.r (lsR ls),.r (lsR ((ls.take j).flatMap (exL l.length)))]).run =
   some ((((exL l.length L).find? (q4l l)).map (lO l l.length y11)).getD (0,[.i y0,.i y1,.i (ls.length:Int),.i (j:Int),.r l,.s [],.s [],.s [],.s [],.i 0,.i (l.length:Int),.i y11,.r (lsR ls),.r (lsR ((ls.take (j+1)).flatMap (exL l.length)))])) /\
   L.length<=3/\nxL L<=64:=fun j hj=>by
  have hl:=qmS hj;obtain⟨h1,h2⟩:=hm _ (qMc hl);have fl:((ls.take j).flatMap (exL l.length)).length<=1000000000:=by have:=qqr (exL l.length) l.length (qyS l.length) (ls.take j);rw[qMn,qMq (by omega)] at this;have:j*l.length<=10000000*64:=qMl (by omega) hn;omega
  have r0:=qL8 hs (L:=ls.getD j []) (by omega) h2 y0 y1 (ls.length:Int) (j:Int) y11 (lsR ls) _ fl;rw[<-qrn (exL l.length) hl] at r0;exact⟨_,hl,rfl,r0,by omega,qLA (qDk h2) hn⟩
 have key:=q3o (S:=vY) (fun j=>[.i y0,.i y1,.i (ls.length:Int),.i (j:Int),.r l,.s [],.s [],.s [],.s [],.i 0,.i (l.length:Int),.i y11,.r (lsR ls),.r (lsR ((ls.take j).flatMap (exL l.length)))])
  (fun j=>((exL l.length (ls.getD j [])).find? (q4l l)).map (lO l l.length y11))
  (0,[.i y0,.i y1,.r l,.s [],.s [],.s [],.s [],.i 0,.i (l.length:Int),.i y11,.r (lsR (ls.flatMap (exL l.length)))]) ls.length (by omega) (fun j hj hf=>by
  obtain⟨L,hl,hg,r0,h3,h4⟩:=step j hj;rw[hg] at hf;rw[hf] at r0;simp only[Option.getD_none] at r0;have w:qE .i64 (j:Int) 1=((j+1:Nat):Int):=kq hj (by omega);rw[q2G];by_cases h0:0<L.length
  ·have w1:vN .i64 (L.length:Int) 1=(L.length:Int)-1:=wo ⟨by omega,by omega⟩;have e:=qz8 h0 (by omega) h4;rw[w1] at e;simp only[STD,un,qem hl,q1n,w1,e,r0,zU r0,w,show (j:Int)<ls.length by omega,show (0:Int)<=j by omega,show (0:Int)<L.length by omega,show (0:Int)<=(L.length:Int)-1 by omega,show (L.length:Int)-1<L.length by omega,and_self]
  ·have e:L=[]:=qN3 (by omega);subst e;have r1:(qf zc [.r (rN []),.i 0,.i y0,.i y1,.i (ls.length:Int),.i (j:Int),.r l,.s [],.s [],.s [],.s [],.i 0,.i (l.length:Int),.i y11,.r (lsR ls),.r (lsR ((ls.take j).flatMap (exL l.length)))]).run=_:=r0;simp only[STD,un,qem hl,q1n,r1,zU r1,w,show (j:Int)<ls.length by omega,show (0:Int)<=j by omega,show ¬(0:Int)<(([]:List Nat).length:Int) from by decide,and_self]) (fun j r hj hf=>by
  obtain⟨L,hl,hg,r0,h3,h4⟩:=step j hj;rw[hg] at hf;rw[hf] at r0;simp only[qMH] at r0;obtain⟨L2,hL2,e2⟩:=qNi.1 hf;subst e2;unfold lO at r0 ⊢;rw[q2G];by_cases h0:0<L.length
  ·have w1:vN .i64 (L.length:Int) 1=(L.length:Int)-1:=wo ⟨by omega,by omega⟩;have e:=qz8 h0 (by omega) h4;rw[w1] at e;simp only[STD,un,qem hl,q1n,w1,e,r0,zU r0,show (j:Int)<ls.length by omega,show (0:Int)<=j by omega,show (0:Int)<L.length by omega,show (0:Int)<=(L.length:Int)-1 by omega,show (L.length:Int)-1<L.length by omega,and_self];rw[if_neg (by decide)]
  ·have e:L=[]:=qN3 (by omega);subst e;have r1:(qf zc [.r (rN []),.i 0,.i y0,.i y1,.i (ls.length:Int),.i (j:Int),.r l,.s [],.s [],.s [],.s [],.i 0,.i (l.length:Int),.i y11,.r (lsR ls),.r (lsR ((ls.take j).flatMap (exL l.length)))]).run=_:=r0;simp only[STD,un,qem hl,q1n,r1,zU r1,show (j:Int)<ls.length by omega,show (0:Int)<=j by omega,show ¬(0:Int)<(([]:List Nat).length:Int) from by decide,and_self];rw[if_neg (by decide)]) (by
  rw[q2G];simp only[STD,show ¬(ls.length:Int)<ls.length by omega,qMz])
 have e:=qx4 (P:=q4l l) (lO l l.length y11) (exL l.length) ls [];simp only[qMO,qMh] at e;rw[e] at key;exact key
theorem qCB (hs:q1C l){m:Nat}(hm:m<=4)(h:qgO (q4l l) l.length 1 m=some L) :(jd [.r l,.i (m:Int)]).run=some (0,[.s (tQ (cO l L).x),.s (tQ (cO l L).y),.s (tQ (cO l L).z),.s (tQ (sO l L)),.r (wO l L),.r (rN L),.i 0]):=by
 have hn:=hs.1;have hms:∀q,∀L,L∈lsN l.length q->L.length=q/\∀a,a∈L->a<l.length:=fun q L hL=>by obtain⟨h1,h2,_⟩:=q7L.1 hL;exact⟨h1,h2⟩
 have key:=q3o (S:=vQ) (fun q=>[.i (m:Int),.i (q:Int),.r l,.s [],.s [],.s [],.s [],.i 0,.i (l.length:Int),.i (m:Int),.r (lsR (lsN l.length q))])
  (fun q=>((lsN l.length (q+1)).find? (q4l l)).map (lO l l.length m))
  (0,[.r l,.s [],.s [],.s [],.s [],.i 0,.i (l.length:Int),.i (m:Int)]) m (by omega) (fun q hq hf=>by
  have r0:=qLl hs (q:=q) (by omega) (qlk (k:=q) hn (by omega)) (hms q) (m:Int) (q:Int) (m:Int);have hf':((((lsN l.length q).flatMap (exL l.length)).find? (q4l l)).map (lO l l.length m))=none:=hf;rw[hf'] at r0;simp only[Option.getD_none] at r0;have w:qE .i64 (q:Int) 1=((q+1:Nat):Int):=kq hq (by omega);rw[q2x];simp only[STD,un,r0,zU r0,w,show (q:Int)<m by omega];rfl) (fun q r hq hf=>by
  have r0:=qLl hs (q:=q) (by omega) (qlk (k:=q) hn (by omega)) (hms q) (m:Int) (q:Int) (m:Int);have hf':((((lsN l.length q).flatMap (exL l.length)).find? (q4l l)).map (lO l l.length m))=some r:=hf;rw[hf'] at r0;simp only[qMH] at r0;obtain⟨L2,hL2,e2⟩:=qNi.1 hf';subst e2;unfold lO at r0 ⊢;rw[q2x];simp only[STD,un,r0,zU r0,show (q:Int)<m by omega];rw[if_neg (by decide)]) (by
  rw[q2x];simp only[STD,show ¬(m:Int)<m by omega])
 rw[quu (P:=q4l l) (lO l l.length m) l.length m 0,h] at key;have key':(qf vQ [.i (m:Int),.i 0,.r l,.s [],.s [],.s [],.s [],.i 0,.i (l.length:Int),.i (m:Int),.r [[.l []]]]).run=some (lO l l.length m L):=key;unfold lO at key';have lx:qh l=(l.length:Int):=rfl;rw[qpP];simp only[STD,lx,key',zU key'];rw[if_neg (by decide)]
end Go.Eng

