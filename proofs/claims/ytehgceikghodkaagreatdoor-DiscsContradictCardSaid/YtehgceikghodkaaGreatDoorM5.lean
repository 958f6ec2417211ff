/- Texts of the proof, merged: what the code computes, and plain laws. No statement stands here. -/
import Derived.Test.YtehgceikghodkaaGreatDoorM4
namespace Go.Eng
theorem qxG(u:Nat):Lib.decDigits u=tN u:=by
 induction u using Nat.strongRecOn with
 | _ u ih=>
  rw[Lib.decDigits]
  split
  ·rename_i h
   rw[qqf h];rfl
  ·rename_i h
   rw[ih (u/10) (by omega)]
   exact(qrg (n:=u) (by omega)).symm
theorem qr8(n:Int):Lib.itoa n=tI n:=by
 unfold Lib.itoa
 by_cases h:n<0
 ·rw[if_pos h,qxG,q9k h]
 ·rw[if_neg h,qxG,qgg h];congr 1;omega
theorem qzk(n:Int)(h:-9223372036854775808≤n∧n≤9223372036854775807):(q2H [.i n]).run=some (0,[.s (tI n)]):=by
 show (qvx [.i n]).run=_
 unfold qvx
 simp only
 rw[if_pos h,qr8];rfl
theorem qqx{c:UInt8}(h:48≤c.toNat∧c.toNat≤57):Lib.digitVal c=some (dv c):=by
 unfold Lib.digitVal dv
 simp_all
theorem ql4:∀{s:List UInt8} (a:Nat),q3L s→Lib.decFrom a s=some (a*10^s.length+val s)
 | [],a,_=>by simp[Lib.decFrom,val]
 | c::s,a,h=>by
  obtain⟨h1,h2⟩:=kn.1 h
  rw[Lib.decFrom,qqx h1]
  simp only
  rw[ql4 _ h2,q4o,List.length_cons,Nat.pow_succ]
  congr 1
  grind
theorem qnL{s:List UInt8}(h:q3L s)(hn:s≠[]):Lib.decNat s=some (val s):=by
 unfold Lib.decNat
 rw[if_neg (by simpa using hn),ql4 0 h];simp
theorem qpp{s:List UInt8}(h:q3L s)(hn:s≠[]):Lib.atoi s=some (val s:Int):=by
 obtain⟨c,t,e,h1,h2⟩:=qet h hn
 rw[e] at h ⊢
 have n1:(c==45)=false:=by
  rw[beq_eq_false_iff_ne];intro hc;subst hc;revert h1;decide
 have n2:(c==43)=false:=by
  rw[beq_eq_false_iff_ne];intro hc;subst hc;revert h1;decide
 unfold Lib.atoi
 simp only[n1,n2,Bool.false_eq_true,if_false]
 rw[qnL h (by simp)];rfl
theorem quY(m:Int):Lib.atoi (tI m)=some m:=by
 by_cases h:m<0
 ·rw[q9k h]
  unfold Lib.atoi
  simp only[beq_self_eq_true,if_true]
  rw[qnL (zE _) (ql9 _),kP]
  simp;omega
 ·rw[qgg h,qpp (zE _) (ql9 _),kP]
  congr 1;omega
theorem qvF{s:List UInt8}{n:Int}(hl:s.length≤18)(h:Lib.atoi s=some n):(v6 [.s s]).run=some (0,[.i n]):=by
 show (qvJ [.s s]).run=_
 unfold qvJ
 simp only
 rw[if_pos hl,h];rfl
theorem qsi:∀s:List UInt8,Lib.indexByte s 47=if sP s<s.length then (sP s:Int) else -1
 | []=>by simp[Lib.indexByte,sP]
 | c::s=>by
  have ih:=qsi s
  have hle:=qxb s
  unfold Lib.indexByte
  by_cases h:c=47
  ·subst h
   have:sP (47::s)=0:=qxZ (by simp) (by simp) (fun j hj=>by omega)
   rw[this];simp
  ·have hc:(c==47)=false:=by simpa using h
   have e:sP (c::s)=sP s+1:=by
    unfold sP
    rw[List.findIdx_cons,hc];rfl
   rw[e]
   generalize sP s=k at *
   have el:(c::s).length=s.length+1:=rfl
   simp only[hc,el,ih,Bool.false_eq_true,if_false]
   grind
theorem qxU(s:List UInt8):(wW [.s s,.s [47]]).run=some (0,[.i (if sP s<s.length then (sP s:Int) else -1)]):=by
 show (qpm [.s s,.s [47]]).run=_
 unfold qpm
 simp only
 rw[←qsi];rfl
theorem qst:∀{s t:List UInt8},q3L s→q3L t→s.length=t.length→Lib.compareBytes s t=sgn ((val s:Int)-(val t:Int))
 | [],[],_,_,_=>by simp[Lib.compareBytes,val,sgn]
 | [],_::_,_,_,h=>by simp at h
 | _::_,[],_,_,h=>by simp at h
 | a::s,b::t,hs,ht,h=>by
  obtain⟨h1,h2⟩:=kn.1 hs
  obtain⟨h3,h4⟩:=kn.1 ht
  have hl:s.length=t.length:=by simpa using h
  have ih:=qst h2 h4 hl
  have v1:=q4T h2
  have v2:=q4T h4
  unfold Lib.compareBytes
  rw[q4o,q4o,hl]
  rw[hl] at v1
  have hp:0<10^t.length:=Nat.pow_pos (by omega)
  generalize 10^t.length=P at *
  unfold dv
  by_cases c1:a.toNat<b.toNat
  ·rw[if_pos (show a<b from c1)]
   have:(a.toNat-48+1)*P≤(b.toNat-48)*P:=Nat.mul_le_mul_right _ (by omega)
   rw[Nat.add_mul,Nat.one_mul] at this
   unfold sgn
   rw[if_pos (by omega)]
  ·rw[if_neg (show ¬a<b from c1)]
   by_cases c2:b.toNat<a.toNat
   ·rw[if_pos (show b<a from c2)]
    have:(b.toNat-48+1)*P≤(a.toNat-48)*P:=Nat.mul_le_mul_right _ (by omega)
    rw[Nat.add_mul,Nat.one_mul] at this
    unfold sgn
    rw[if_neg (by omega),if_neg (by omega)]
   ·rw[if_neg (show ¬b<a from c2),ih]
    have:a.toNat=b.toNat:=by omega
    rw[this]
    congr 1;omega
theorem qtC{s t:List UInt8}(hs:q3L s)(ht:q3L t)(h:s.length=t.length):(q1W [.s s,.s t]).run=some (0,[.i (sgn ((val s:Int)-(val t:Int)))]):=by
 show (qke [.s s,.s t]).run=_
 unfold qke
 simp only
 rw[qst hs ht h];rfl
def qvd:List UInt8:=[48,49,50,51,52,53,54,55,56,57]
theorem qsn(c:UInt8):(qvd.contains c=true)↔(48≤c.toNat∧c.toNat≤57):=by
 constructor
 ·intro h
  simp only[qvd,List.contains_eq_mem,List.mem_cons,List.not_mem_nil,or_false,decide_eq_true_eq] at h
  rcases h with rfl|rfl|rfl|rfl|rfl|rfl|rfl|rfl|rfl|rfl<;>decide
 ·rintro ⟨h1,h2⟩
  have hk:∃k,c=UInt8.ofNat k∧48≤k∧k≤57:=⟨c.toNat,by simp,h1,h2⟩
  obtain⟨k,rfl,k1,k2⟩:=hk
  have:k=48∨k=49∨k=50∨k=51∨k=52∨k=53∨k=54∨k=55∨k=56∨k=57:=by omega
  rcases this with rfl|rfl|rfl|rfl|rfl|rfl|rfl|rfl|rfl|rfl<;>decide
theorem q7u{p:UInt8→Bool}:∀{l:List UInt8},l.dropWhile p=[]↔∀x,x∈l→p x=true
 | []=>by simp
 | a::l=>by
  rw[List.dropWhile_cons]
  by_cases h:p a=true
  ·rw[if_pos h,q7u];simp[h]
  ·rw[if_neg h];simp[h]
theorem qev(s:List UInt8):(Lib.trimS s qvd=[])=q3L s:=by
 apply propext
 unfold Lib.trimS Lib.trimLeftS Lib.trimRightS
 constructor
 ·intro h
  have h1:∀c,c∈(s.reverse.dropWhile (qvd.contains ·)).reverse→qvd.contains c=true:=by
   intro c hc
   have:=q7u.1 h c hc
   simpa using this
  have h2:s.reverse.dropWhile (qvd.contains ·)=[]:=by
   cases hd:s.reverse.dropWhile (qvd.contains ·) with
   | nil=>rfl
   | cons c t=>
    exfalso
    have h3:=List.head_dropWhile_not (p:=(qvd.contains ·)) (l:=s.reverse) (by rw[hd];simp)
    simp only[hd,List.head_cons] at h3
    have:=h1 c (by rw[hd];simp)
    rw[this] at h3;cases h3
  intro c hc
  have:=q7u.1 h2 c (by simpa using hc)
  exact(qsn c).1 (by simpa using this)
 ·intro h
  have h2:s.reverse.dropWhile (qvd.contains ·)=[]:=by
   rw[q7u]
   intro c hc
   exact(qsn c).2 (h c (by simpa using hc))
  rw[h2];rfl
theorem qzt(s:List UInt8)(hl:s.length≤9223372036854775807):(q5z [.s s,.s [48,49,50,51,52,53,54,55,56,57]]).run=some (0,[.s (Lib.trimS s qvd)]):=by
 show (quK [.s s,.s qvd]).run=_
 unfold quK
 simp only
 rw[if_pos ⟨hl,by decide,by decide⟩];rfl
end Go.Eng

namespace Go.Eng
theorem qvX(n:Nat):pB n=((10^(9*n):Nat):Int):=by
 unfold pB
 rw[Nat.pow_mul]
 simp
theorem qtj:∀k:Nat,k≤9→q9J [48,48,48,48,48,48,48,48,48] (k:Int) 9=List.replicate (9-k) 48
 | 0,_=>rfl
 | 1,_=>rfl
 | 2,_=>rfl
 | 3,_=>rfl
 | 4,_=>rfl
 | 5,_=>rfl
 | 6,_=>rfl
 | 7,_=>rfl
 | 8,_=>rfl
 | 9,_=>rfl
 | n+10,h=>by omega
theorem qyB{v:Nat}(h:v<1000000000):q3L (qvn (tN v))∧(qvn (tN v)).length=9∧val (qvn (tN v))=v:=by
 have hl:(tN v).length≤9:=q3O 8 v (by omega)
 have e:qvn (tN v)=List.replicate (9-(tN v).length) 48++tN v:=by
  unfold qvn qaw
  rw[show ql (tN v)=((tN v).length:Int) from rfl,qtj _ hl]
 rw[e]
 refine⟨q5L.2 ⟨qiF _,zE v⟩,by simp;omega,by rw[qlW,kP]⟩
theorem qnB{l:List Int}(hl:l.length=232)(hd:dgs l):∀i:Nat,i≤232→q3L (qhg (rI l) i)∧(qhg (rI l) i).length=9*i∧((val (qhg (rI l) i):Nat):Int)=mv (l.take i)
 | 0,_=>⟨qhh,rfl,by simp[qhg,qc3,mv]⟩
 | i+1,h=>by
  obtain⟨h1,h2,h3⟩:=qnB hl hd i (by omega)
  have hil:i<l.length:=by omega
  have hg:=hd _ (List.getElem_mem hil)
  have e:cI (rI l) (i:Int) 0=l[i]:=by rw[q3C,j2 hil]
  have e2:Lib.itoa l[i]=tN l[i].toNat:=by rw[qr8,qgg (by omega)];congr 1;omega
  obtain⟨p1,p2,p3⟩:=qyB (v:=l[i].toNat) (by omega)
  unfold qhg
  rw[e,e2]
  refine⟨q5L.2 ⟨p1,h1⟩,by rw[List.length_append,p2,h2];omega,?_⟩
  rw[qoA,p3,h2,qjD hil,qvX]
  simp only[Int.natCast_add,Int.natCast_mul,h3]
  rw[Int.toNat_of_nonneg hg.1];omega
theorem qwF{n:Nat}{l:List Int}(h:WOK n l)(hn:nrm n l)(b:Bool):quQ b (n:Int) (rI l)=tI (sv b l):=by
 unfold quQ
 by_cases h0:n=0
 ·have h1:mv l=0:=by rw[←qhd h hn];exact h0
  rw[if_pos (by omega)]
  unfold sv;rw[h1];cases b<;>rfl
 ·rw[if_neg (by omega)]
  obtain⟨m,rfl⟩:∃m,n=m+1:=⟨n-1,by omega⟩
  have hle:=h.le
  have hml:m<l.length:=by rw[h.len];omega
  have e1:(((m+1:Nat):Int)-1)=(m:Int):=by omega
  rw[e1,Int.toNat_natCast,q3C,j2 hml]
  have hg:=h.dig _ (List.getElem_mem hml)
  have e2:Lib.itoa l[m]=tN l[m].toNat:=by rw[qr8,qgg (by omega)];congr 1;omega
  obtain⟨t1,t2,t3⟩:=qnB h.len h.dig m (by omega)
  have hnz:l[m]≠0:=by
   rcases hn with hn|hn
   ·omega
   ·rw[Nat.add_sub_cancel,j2 hml] at hn;exact hn
  have hlo:=h.lo hn h0
  have hp:=q9h m
  simp only[Nat.add_sub_cancel] at hlo
  have hv:((val (tN l[m].toNat++qhg (rI l) m):Nat):Int)=mv l:=by
   rw[qoA,kP,t2,q9u l m (by omega),qad hml,wQ h.dig h.z (Nat.le_refl _),qvX]
   simp only[Int.natCast_add,Int.natCast_mul,t3]
   rw[Int.toNat_of_nonneg hg.1]
   grind
  have hT:tN l[m].toNat++qhg (rI l) m=tN (mv l).toNat:=by
   have hd:q3L (tN l[m].toNat++qhg (rI l) m):=q5L.2 ⟨zE _,t1⟩
   have hne:tN l[m].toNat++qhg (rI l) m≠[]:=by simp[ql9]
   have hz:(tN l[m].toNat++qhg (rI l) m).getD 0 0≠48:=by
    have hv0:=kP l[m].toNat
    have hd0:=zE l[m].toNat
    rcases quI l[m].toNat with h1|h1
    ·obtain⟨c,e⟩:=List.length_eq_one_iff.1 h1
     rw[e] at hv0 ⊢
     simp only[List.cons_append,List.getD_cons_zero]
     intro hc;subst hc
     rw[qrK] at hv0
     simp[dv] at hv0;omega
    ·obtain⟨c,t,e,_⟩:=qet hd0 (ql9 _)
     rw[e] at h1 ⊢
     simpa using h1
   have:=qlb hd hne (.inr hz)
   rw[this];congr 1;omega
  rw[e2,List.append_assoc,hT]
  unfold sv
  cases b
  ·rw[if_neg (by simp),if_neg (by simp),qgg (by omega)];simp;congr 1;omega
  ·rw[if_pos rfl,if_pos rfl,q9k (by omega)];simp;congr 1;omega
theorem qtB{n:Nat}{l:List Int}(h:WOK n l):qp2 (n:Int) (rI l)=true:=by
 unfold qp2
 have:=h.le
 simp only[Bool.and_eq_true,decide_eq_true_eq,List.all_eq_true,List.mem_range]
 refine⟨⟨by omega,by omega⟩,fun i _=>?_⟩
 have:=h.get i
 rw[q3C];exact this
theorem qsx{n:Nat}{l:List Int}(h:WOK n l)(hn:nrm n l)(b:Bool):(qH [.b b,.i (n:Int),.r (rI l)]).run=some (0,[.s (tI (sv b l)),.b b,.i (n:Int),.r (rI l)]):=by
 show (qvr [.b b,.i (n:Int),.r (rI l)]).run=_
 unfold qvr
 simp only
 rw[if_pos (qtB h),qwF h hn];rfl
end Go.Eng

namespace Go.Eng
theorem qws{nr ny:Nat}{lr ly:List Int}(hr:WOK nr lr)(hnr:nrm nr lr)(hy:WOK ny ly)(hny:nrm ny ly)(h0:ny≠0)(hy231:ny≤231)(hlt:mv lr<mv ly*1000000000)(y0:Int)(xb:Bool)(xi:Int)(xr:R)(b2:Bool)(qb:Bool)(qi:Int)(qr:R)(br:Bool) :
  ∃(d:Int) (n:Nat) (l:List Int),(qg ja [.i y0,.i 0,.b xb,.i xi,.r xr,.b b2,.i (ny:Int),.r (rI ly),.b qb,.i qi,.r qr,.b br,.i (nr:Int),.r (rI lr)]).run =
   some (0,[.i y0,.i d,.b xb,.i xi,.r xr,.b b2,.i (ny:Int),.r (rI ly),.b qb,.i qi,.r qr,.b br,.i (n:Int),.r (rI l)])∧WOK n l∧nrm n l∧0≤d∧d<1000000000∧mv lr=d*mv ly+mv l∧mv l<mv ly:=by
 have hyp:0<mv ly:=by
  have:=hy.lo hny h0
  have:=q9h (ny-1)
  omega
 have hyb:=hy.bd
 obtain⟨j,qs,g1,rfl,d,n,l,rfl,g2⟩:=vU (S:=ja) (fun k ps=>∃(d:Int) (n:Nat) (l:List Int),ps=[.i y0,.i d,.b xb,.i xi,.r xr,.b b2,.i (ny:Int),.r (rI ly),.b qb,.i qi,.r qr,.b br,.i (n:Int),.r (rI l)] ∧
   WOK n l∧nrm n l∧0≤d∧d+k=1000000000∧mv lr=d*mv ly+mv l)
  (fun j qs=>j=0∧∃(d:Int) (n:Nat) (l:List Int),qs=[.i y0,.i d,.b xb,.i xi,.r xr,.b b2,.i (ny:Int),.r (rI ly),.b qb,.i qi,.r qr,.b br,.i (n:Int),.r (rI l)]∧WOK n l∧nrm n l∧0≤d∧d<1000000000∧mv lr=d*mv ly+mv l∧mv l<mv ly) (n:=1000000000) (by omega)
  (fun k ps hk ⟨d,n,l,hps,hw,hn,hd0,hdk,hv⟩=>by
   subst hps
   have hlb:=hw.bd
   have hdlt:d<1000000000:=by
    rcases Int.lt_or_le d 1000000000 with h|h
    ·exact h
    ·have:=Int.mul_le_mul_of_nonneg_right h (show 0≤mv ly by omega)
     rw[Int.mul_comm (mv ly)] at hlt
     omega
   rw[qfP]
   obtain⟨r,r1,r2⟩:=qsq hw hn hy hny br b2
   by_cases hle:mv ly≤mv l
   ·left
    have hr0:0≤r:=by rw[r2];exact hle
    have hdm:=Int.mul_nonneg hd0 (show 0≤mv ly by omega)
    have hl9:mv l<pB (ny+1):=by rw[q8V];omega
    obtain⟨q,e1,e2,e3,e4⟩:=qtW hw hn hy hny h0 hle hl9 hy231 br b2
    obtain⟨n',l',c1,c2,c3,c4⟩:=qlc (f:=-q) (up:=0) hw hy (by omega) (by omega) (T:=mv l-q*mv ly) (by rw[q3R,Int.mul_one,Int.neg_mul];omega) (by omega)
     (by have:=hlb.2;have:=qah hw.le;have:=Int.mul_nonneg (show 0≤q by omega) (show 0≤mv ly by omega);omega) br b2
    have hq2:(d+q)*mv ly+(mv l-q*mv ly)=d*mv ly+mv l:=by rw[Int.add_mul];omega
    have hdq:d+q<1000000000:=by
     rcases Int.lt_or_le (d+q) 1000000000 with h|h
     ·exact h
     ·have:=Int.mul_le_mul_of_nonneg_right h (show 0≤mv ly by omega)
      rw[Int.mul_comm (mv ly)] at hlt
      omega
    have w1:qA .i64 0 q=-q:=qo4 (by omega)
    have w2:qh .i64 d q=d+q:=zc (by omega)
    simp only[show ((0:Nat):Int)=0 from rfl] at c1
    refine⟨(1000000000-(d+q)).toNat,[.i y0,.i (d+q),.b xb,.i xi,.r xr,.b b2,.i (ny:Int),.r (rI ly),.b qb,.i qi,.r qr,.b br,.i (n':Int),.r (rI l')],by omega,?_,d+q,n',l',rfl,c2,c3,by omega,by omega,by rw[c4];omega⟩
    simp only[STD,r1,hr0,e1,w1,w2,c1]
   ·right
    have hr0:¬0≤r:=by rw[r2];exact hle
    refine⟨0,_,?_,rfl,d,n,l,rfl,hw,hn,hd0,hdlt,hv,by omega⟩
    simp only[STD,r1,hr0]) (ps:=[.i y0,.i 0,.b xb,.i xi,.r xr,.b b2,.i (ny:Int),.r (rI ly),.b qb,.i qi,.r qr,.b br,.i (nr:Int),.r (rI lr)]) ⟨0,nr,lr,rfl,hr,hnr,by omega,by omega,by omega⟩
 exact⟨d,n,l,g1,g2⟩
theorem qwU{n:Nat}{l:List Int}{d:Int}(h:WOK n l)(hn:n≤231)(hd:0≤d∧d<1000000000) :
  qbm (qgT (rI l) 1 (rI l) 0 (q8w (qs4 (n:Int) 0) (qs4 232 1))) 0 0 [.i d]=rI (d::(l.take n++l.drop (1+n)))∧WOK (n+1) (d::(l.take n++l.drop (1+n)))∧mv (d::(l.take n++l.drop (1+n)))=d+1000000000*mv l:=by
 have hlen:=h.len
 have e1:q8w (qs4 (n:Int) 0) (qs4 232 1)=(n:Int):=by unfold q8w qs4;split<;>omega
 obtain⟨x,t,rfl⟩:∃x t,l=x::t:=by
  cases l with
  | nil=>simp at hlen
  | cons x t=>exact⟨x,t,rfl⟩
 refine⟨?_,⟨by simp;simp at hlen;omega,by omega,?_,?_⟩,?_⟩
 ·rw[e1]
  unfold qgT
  have:(rI (x::t)).take (1:Int).toNat++((rI (x::t)).drop (0:Int).toNat).take (n:Int).toNat++(rI (x::t)).drop ((1:Int).toNat+(n:Int).toNat)=rI (x::((x::t).take n++(x::t).drop (1+n))):=by
   rw[Int.toNat_natCast]
   simp[rI,List.map_take,List.map_drop]
  rw[this,show (0:Int)=((0:Nat):Int) from rfl,qfS]
  rfl
 ·intro y hy
  rcases List.mem_cons.1 hy with rfl|hy
  ·exact hd
  ·rcases List.mem_append.1 hy with hy|hy
   ·exact h.dig _ (List.mem_of_mem_take hy)
   ·exact h.dig _ (List.mem_of_mem_drop hy)
 ·intro i hi
  obtain⟨j,rfl⟩:∃j,i=j+1:=⟨i-1,by omega⟩
  have hz:=h.z (j+1) (by omega)
  rw[List.getD_eq_getElem?_getD] at hz ⊢
  rw[List.getElem?_cons_succ,List.getElem?_append_right (by simp;omega)]
  rw[List.getElem?_drop,List.length_take,Nat.min_eq_left (by omega)]
  rw[show 1+n+(j-n)=j+1 by omega]
  exact hz
 ·show d+1000000000*mv _=_
  rw[qsf,List.length_take,Nat.min_eq_left (by omega),wQ h.dig h.z (show n≤1+n by omega)]
  have:=q9u (x::t) n (by omega)
  rw[wQ h.dig h.z (Nat.le_refl n)] at this
  omega
theorem qdc{nx ny:Nat}{lx ly:List Int}(hx:WOK nx lx)(hy:WOK ny ly)(hny:nrm ny ly)(h0:ny≠0)(hy231:ny≤231)(bx b2:Bool) :
  ∃(nq:Nat) (lq:List Int) (nr:Nat) (lr:List Int),(we [.b bx,.i (nx:Int),.r (rI lx),.b b2,.i (ny:Int),.r (rI ly)]).run =
   some (0,[.b bx,.i (nx:Int),.r (rI lx),.b b2,.i (ny:Int),.r (rI ly),.b false,.i (nq:Int),.r (rI lq),.b false,.i (nr:Int),.r (rI lr)])∧WOK nq lq∧nrm nq lq∧WOK nr lr∧nrm nr lr∧mv lx=mv lq*mv ly+mv lr∧mv lr<mv ly:=by
 rw[qjH]
 have hyp:0<mv ly:=by
  have:=hy.lo hny h0
  have:=q9h (ny-1)
  omega
 have hx232:=hx.le
 have e0:q2n 232 [.i 0]=rI (List.replicate 232 0):=qfZ 232 0
 have hxl:=hx.len
 obtain⟨j,qs,g1,rfl,nq,lq,nr,lr,rfl,g2,g3,g4,g5,g6⟩:=vU (S:=kL) (fun k ps=>∃(Q:Int) (nq:Nat) (lq:List Int) (nr:Nat) (lr:List Int),
   ps=[.i ((k:Int)-1),.b bx,.i (nx:Int),.r (rI lx),.b b2,.i (ny:Int),.r (rI ly),.b false,.i (nq:Int),.r (rI lq),.b false,.i (nr:Int),.r (rI lr)]∧k≤nx∧WOK nq lq∧WOK nr lr∧nrm nr lr∧mv (lx.drop k)=Q*mv ly+mv lr∧mv lr<mv ly∧mv lq=pB k*Q∧∀i,i<k→lq.getD i 0=0)
  (fun j qs=>j=0∧∃(nq:Nat) (lq:List Int) (nr:Nat) (lr:List Int),qs=[.b bx,.i (nx:Int),.r (rI lx),.b b2,.i (ny:Int),.r (rI ly),.b false,.i (nq:Int),.r (rI lq),.b false,.i (nr:Int),.r (rI lr)]∧WOK nq lq∧WOK nr lr∧nrm nr lr∧mv lx=mv lq*mv ly+mv lr∧mv lr<mv ly) (n:=nx) (by omega)
  (fun k ps hk ⟨Q,nq,lq,nr,lr,hps,hkn,hwq,hwr,hnr,hv,hlt,hq,hz⟩=>by
   subst hps
   rw[qhp]
   rcases Nat.eq_zero_or_pos k with rfl|hk0
   ·right
    have a1:¬(0:Int)≤((0:Nat):Int)-1:=by omega
    refine⟨0,[.b bx,.i (nx:Int),.r (rI lx),.b b2,.i (ny:Int),.r (rI ly),.b false,.i (nq:Int),.r (rI lq),.b false,.i (nr:Int),.r (rI lr)],?_,rfl,nq,lq,nr,lr,rfl,hwq,hwr,hnr,?_,hlt⟩
    ·simp only[STD,a1]
    ·rw[hq,q3R,Int.one_mul,←hv,List.drop_zero]
   ·left
    obtain⟨i,rfl⟩:∃i,k=i+1:=⟨k-1,by omega⟩
    have e:(((i+1:Nat):Int)-1)=(i:Int):=by omega
    rw[e]
    have hnr231:nr≤231:=Nat.le_trans (qzV hwr hnr hy (by omega)) hy231
    have hil:i<lx.length:=by omega
    have gx:=hx.get i
    obtain⟨s1,s2,s3⟩:=qwU hwr hnr231 (d:=lx.getD i 0) gx
    obtain⟨m,t1,t2,t3⟩:=qi4 s2 false
    have hX:mv (lx.drop i)=lx.getD i 0+1000000000*(Q*mv ly+mv lr):=by rw[qad hil,←hv,j2 hil]
    have hlt2:mv (lx.getD i 0::(lr.take nr++lr.drop (1+nr)))<mv ly*1000000000:=by rw[s3];omega
    obtain⟨d,n',l',d1,d2,d3,d4,d5,d6,d7⟩:=qws t2 t3 hy hny h0 hy231 hlt2 (i:Int) bx (nx:Int) (rI lx) b2 false (nq:Int) (rI lq) false
    rw[s3] at d6
    have a1:(0:Int)≤(i:Int):=by omega
    have a2:(i:Int)<232:=by omega
    have a3:(0:Int)≤232∧(232:Int)≤232:=by omega
    have a4:(0:Int)≤1∧(1:Int)≤232:=by omega
    have a5:(0:Int)≤(nr:Int)∧(nr:Int)≤232:=by omega
    have a6:(0:Int)≤0∧(0:Int)≤(nr:Int):=by omega
    have w1:qh .i64 (nr:Int) 1=((nr+1:Nat):Int):=by rw[zc (by omega)];omega
    have w2:qh .i64 (i:Int) 1=((i+1:Nat):Int):=by rw[zc (by omega)];omega
    have w3:qA .i64 (i:Int) 1=(i:Int)-1:=yn (by omega)
    have w4:qd5 (nq:Int) ((i+1:Nat):Int)=((max nq (i+1):Nat):Int):=qoK _ _
    have hiq:i<lq.length:=by rw[hwq.len];omega
    have hzi:lq[i]=0:=by rw[←j2 hiq];exact hz i (by omega)
    refine⟨i,[.i ((i:Int)-1),.b bx,.i (nx:Int),.r (rI lx),.b b2,.i (ny:Int),.r (rI ly),.b false,.i ((max nq (i+1):Nat):Int),.r (rI (lq.set i d)),.b false,.i (n':Int),.r (rI l')],by omega,?_,Q*1000000000+d,_,_,_,_,rfl,by omega,hwq.setW (by omega) ⟨d4,d5⟩,d2,d3,?_,d7,?_,?_⟩
    ·simp only[q3C,s1,w1]
     simp only[STD,a1,a2,a3,a4,a5,a6,and_self,t1,d1,w2,w3,w4,qfS]
    ·rw[hX,Int.add_mul,Int.mul_add]
     have:Q*1000000000*mv ly=1000000000*(Q*mv ly):=by grind
     omega
    ·rw[qsJ lq i hiq,hzi,hq,q8V];grind
    ·intro a ha
     rw[List.getD_eq_getElem?_getD,List.getElem?_set_ne (by omega),←List.getD_eq_getElem?_getD]
     exact hz a (by omega))
  (ps:=[.i ((nx:Int)-1),.b bx,.i (nx:Int),.r (rI lx),.b b2,.i (ny:Int),.r (rI ly),.b false,.i 0,.r (rI (List.replicate 232 0)),.b false,.i 0,.r (rI (List.replicate 232 0))])
  ⟨0,0,_,0,_,rfl,Nat.le_refl _,WOK.zero,WOK.zero,.inl rfl,by rw[wQ hx.dig hx.z (Nat.le_refl _),qcl];omega,by rw[qcl];exact hyp,by rw[qcl,Int.mul_zero],fun i _=>qpE 232 i⟩
 obtain⟨m,t1,t2,t3⟩:=qi4 g2 false
 refine⟨m,lq,nr,lr,?_,t2,t3,g3,g4,g5,g6⟩
 have hs:qA .i64 (nx:Int) 1=(nx:Int)-1:=yn (by omega)
 simp only[e0,hs]
 simp only[STD,g1,t1]
end Go.Eng

namespace Go.Eng
theorem qzF{c:UInt8}{t:List UInt8}:q9J (c::t) 0 1=[c]:=by simp[q9J]
theorem qva(s:List UInt8):(qF [.s s,.s [45]]).run=some (0,[.b (decide (s.getD 0 0=45))]):=by
 rw[q4c]
 have h1:ql [45]=1:=rfl
 cases s with
 | nil=>
  have a:¬(1:Int)≤ql []:=by decide
  simp only[STD,h1,a];rfl
 | cons c t=>
  have a:(1:Int)≤ql (c::t):=by unfold ql;simp only[List.length_cons];omega
  simp only[STD,h1,a,show (0:Int)≤1 by omega,show (0:Int)≤0 by omega,and_self,qzF]
  have e:seq [c] [45]=decide ((c::t).getD 0 0=45):=by rw[Bool.eq_iff_iff,qS];simp
  rw[e]
theorem qp0(s:List UInt8):(qN [.s s,.s [45]]).run=some (0,[.s (mag s)]):=by
 rw[qdr]
 have h:(qX [.s s,.s [45]]).run=some (0,[.s (mag s)]):=by
  rw[q3M]
  have h1:ql [45]=1:=rfl
  unfold mag
  by_cases h:s.getD 0 0=45
  ·rw[if_pos h]
   have a:(1:Int)≤ql s:=by
    cases s with
    | nil=>simp at h
    | cons c t=>unfold ql;simp only[List.length_cons];omega
   have e:q9J s 1 (ql s)=s.drop 1:=by unfold q9J ql;simp
   simp only[STD,qva,h,h1,a,and_self,Int.le_refl,show (0:Int)≤ql s by omega,show (0:Int)≤1 by omega,e]
  ·rw[if_neg h]
   simp only[STD,qva,h]
 simp only[STD,h]
theorem qbV(s:List UInt8)(hl:s.length≤1000000000):(qY [.s s]).run=some (0,[.i (qqL s)]):=by
 rw[qmH]
 have hT:=qp0 s
 have hml:(mag s).length≤s.length:=by unfold mag;split<;>simp
 have hR:=qzt (mag s) (by omega)
 have hcan:=qqe s
 unfold qqL
 have hl3:(1024<ql (mag s))=¬((mag s).length≤1024):=by unfold ql;simp only[eq_iff_iff];omega
 by_cases hne:mag s=[]
 ·rw[if_neg (fun h=>(hcan.1 h).1 hne)]
  simp only[STD,hT,qS,hne]
 ·have hp:0<(mag s).length:=List.length_pos_iff.2 hne
  have a1:(0:Int)<ql (mag s):=by unfold ql;omega
  have hs:sat (mag s) 0=((mag s)[0].toNat:Int):=qgb (i:=0) hp
  have h48:((mag s)[0].toNat:Int)=48↔(mag s).getD 0 0=48:=by
   have:(mag s).getD 0 0=(mag s)[0]:=by simp[List.getD_eq_getElem?_getD,hp]
   rw[this]
   exact⟨fun h=>UInt8.toNat_inj.1 (by show (mag s)[0].toNat=48;omega),fun h=>by rw[h];rfl⟩
  by_cases hd:q3L (mag s)
  ·have hs1:((mag s).getD 0 0=48→s.length=1)↔(((mag s)[0].toNat:Int)=48→s=[48]):=by
    rw[h48]
    constructor
    ·intro h h2
     obtain⟨c,e⟩:=List.length_eq_one_iff.1 (h h2)
     subst e
     by_cases hc:c=45
     ·subst hc;exact absurd rfl hne
     ·have:mag [c]=[c]:=by unfold mag;rw[if_neg (by simpa using hc)]
      rw[this] at h2
      simp at h2
      rw[h2]
    ·intro h h2
     rw[h h2];rfl
   by_cases hz:((mag s)[0].toNat:Int)=48
   ·by_cases h0:s=[48]
    ·rw[if_pos (hcan.2 ⟨hne,hd,hs1.2 fun _=>h0⟩)]
     by_cases hL:(mag s).length≤1024
     ·simp only[STD,hT,hR,qS,hne,qev,hd,a1,hs,hz,hl3,hL,Int.le_refl,and_self]
      simp only[STD,h0]
     ·simp only[STD,hT,hR,qS,hne,qev,hd,a1,hs,hz,hl3,hL,Int.le_refl,and_self]
      simp only[STD,h0]
    ·rw[if_neg (fun h=>h0 (hs1.1 (hcan.1 h).2.2 hz))]
     simp only[STD,hT,hR,qS,hne,qev,hd,a1,hs,hz,h0,Int.le_refl,and_self]
   ·rw[if_pos (hcan.2 ⟨hne,hd,fun h=>absurd (h48.2 h) hz⟩)]
    by_cases hL:(mag s).length≤1024
    ·simp only[STD,hT,hR,qS,hne,qev,hd,a1,hs,hz,hl3,hL,Int.le_refl,and_self]
    ·simp only[STD,hT,hR,qS,hne,qev,hd,a1,hs,hz,hl3,hL,Int.le_refl,and_self]
  ·rw[if_neg (fun h=>hd (hcan.1 h).2.1)]
   simp only[STD,hT,hR,qS,hne,qev,hd]
def okL(m:Int):Prop:=nl m≤1024
theorem qrz{m:Int}(h:okL m):qqL (tI m)=0:=by
 unfold qqL
 rw[if_pos ⟨m,rfl⟩,qqb,if_pos (show (tN m.natAbs).length≤1024 from h)]
theorem qrs{m:Int}(h:okL m):(tI m).length≤1025:=by
 have:=qpX m
 unfold okL nl at h
 omega
theorem qgX{m:Int}(h:okL m):(qY [.s (tI m)]).run=some (0,[.i 0]):=by
 have:=qrs h
 rw[qbV _ (by omega),qrz h]
def rS(l:List (List UInt8)):R:=l.map fun s=>[.s s]
theorem qnm(l:List (List UInt8)):qt (rS l)=l.length:=by simp[rS,qt]
theorem qvN{l:List (List UInt8)}{i:Nat}(h:i<l.length):cS (rS l) (i:Int) 0=l[i]:=by simp[cS,wY,rS,List.getD_eq_getElem?_getD,h,U.toS]
theorem qyO{l:List (List UInt8)}(hn:l.length<1000000)(h:∀s,s∈l→(qY [.s s]).run=some (0,[.i 0])):(zA [.r (rS l)]).run=some (0,[.i 0]):=by
 rw[qpt,qnm]
 have key:=yK (S:=q4w) (fun i=>[.r (rS l),.i (l.length:Int),.i (i:Int)]) (0,[]) l.length (by omega) (fun i hi=>by
  rw[qeY,qvN hi]
  have a1:(i:Int)<(l.length:Int):=by omega
  have a2:(i:Int)<qt (rS l):=by rw[qnm];exact a1
  simp only[STD,a1,a2,js,and_self,h _ (List.getElem_mem hi),kZ hi (show l.length<9223372036854775808 by omega)]) (by
  rw[qeY]
  have a1:¬(l.length:Int)<(l.length:Int):=by omega
  simp only[STD,a1])
 simp only[show (((0:Nat)):Int)=0 from rfl] at key
 simp only[STD,key,qv key]
theorem qcA{m n:Int}(hm:okL m)(hn:okL n):(zA [.r [[.s (tI m)],[.s (tI n)]]]).run=some (0,[.i 0]):=by
 have:=qyO (l:=[tI m,tI n]) (by simp) (fun s hs=>by
  simp only[List.mem_cons,List.not_mem_nil,or_false] at hs
  rcases hs with rfl|rfl
  ·exact qgX hm
  ·exact qgX hn)
 exact this
theorem qeq(n:Int)(h:-9223372036854775808≤n∧n≤9223372036854775807):(wJ [.i n]).run=some (0,[.s (tI n)]):=by
 rw[qrp]
 simp only[STD,qzk n h]
theorem q7P(m:Int):(tI m=[48])=(m=0):=propext ⟨fun h=>qpu (n:=0) h,fun h=>by rw[h];rfl⟩
theorem q1A(m:Int):(jK [.s (tI m)]).run=some (0,[.i (sgn m)]):=by
 rw[qoX]
 have a1:(0:Int)<ql (tI m):=by have:=qlG m;unfold ql;omega
 have hs:(sat (tI m) 0=45)=(m<0):=qsw m
 unfold sgn
 by_cases h0:m=0
 ·simp only[STD,qS,q7P,h0];rfl
 ·by_cases h1:m<0
  ·simp only[STD,qS,q7P,h0,a1,hs,h1,Int.le_refl,and_self]
  ·simp only[STD,qS,q7P,h0,a1,hs,h1,Int.le_refl,and_self]
theorem qqz{m:Int}(h:okL m):(q5R [.s (tI m)]).run=some (0,[.i (sgn m),.i 0]):=by
 rw[qos]
 simp only[STD,qgX h,q1A]
theorem qxR(m n:Nat):(q4f [.s (tN m),.s (tN n)]).run=some (0,[.i (sgn ((m:Int)-(n:Int)))]):=by
 rw[qmU]
 have hl:(ql (tN m)=ql (tN n))=((tN m).length=(tN n).length):=by unfold ql;simp only[eq_iff_iff];omega
 have hl2:(ql (tN m)<ql (tN n))=((tN m).length<(tN n).length):=by unfold ql;simp only[eq_iff_iff];omega
 by_cases he:(tN m).length=(tN n).length
 ·have h:=qtC (zE m) (zE n) he
  rw[kP,kP] at h
  simp only[STD,hl,he,h]
 ·by_cases hlt:(tN m).length<(tN n).length
  ·have h:=(qrk m n).1 (.inl hlt)
   simp only[STD,hl,hl2,he,hlt]
   unfold sgn
   rw[if_pos (by omega)]
  ·have h:=(qrk n m).1 (.inl (by omega))
   simp only[STD,hl,hl2,he,hlt]
   unfold sgn
   rw[if_neg (by omega),if_neg (by omega)]
theorem qax(m:Int):(m<0∧sgn m=-1)∨(m=0∧sgn m=0)∨(0<m∧sgn m=1):=by
 unfold sgn
 rcases Int.lt_trichotomy m 0 with h|h|h
 ·rw[if_pos h];omega
 ·subst h;simp
 ·rw[if_neg (by omega),if_neg (by omega)];omega
theorem qkt(m:Int):-1≤sgn m∧sgn m≤1:=by rcases qax m with⟨_,e⟩|⟨_,e⟩|⟨_,e⟩<;>omega
theorem qyf(m n:Int):(if sgn m<sgn n then -1 else if sgn n<sgn m then 1 else sgn m*sgn ((m.natAbs:Int)-(n.natAbs:Int)))=sgn (m-n):=by
 rcases qax m with⟨a,ea⟩|⟨a,ea⟩|⟨a,ea⟩<;>rcases qax n with⟨b,eb⟩|⟨b,eb⟩|⟨b,eb⟩<;>rw[ea,eb]<;>simp only[Int.reduceLT,Int.reduceNeg,if_true,if_false] <;>
  rcases qax (m-n) with⟨c,ec⟩|⟨c,ec⟩|⟨c,ec⟩<;>rcases qax ((m.natAbs:Int)-(n.natAbs:Int)) with⟨d,ed⟩|⟨d,ed⟩|⟨d,ed⟩<;>omega
theorem qkw{m n:Int}(hm:okL m)(hn:okL n):(q1s [.s (tI m),.s (tI n)]).run=some (0,[.i (sgn (m-n)),.i 0]):=by
 rw[qjG]
 have h1:=qp0 (tI m)
 have h2:=qp0 (tI n)
 rw[qqb] at h1 h2
 have h3:=qxR m.natAbs n.natAbs
 have hw:∀a b:Int,-1≤a∧a≤1→-1≤b∧b≤1→uM .i64 a b=a*b:=fun a b ha hb=>q7T (by have:=qzN (A:=1) (B:=1) ha.1 ha.2 hb.1 hb.2;omega)
 have ba:=qkt m
 have bb:=qkt n
 have bc:=qkt ((m.natAbs:Int)-(n.natAbs:Int))
 have e:=qyf m n
 by_cases c1:sgn m<sgn n
 ·rw[if_pos c1] at e
  simp only[STD,qcA hm hn,q1A,h1,h2,h3,c1,←e]
 ·rw[if_neg c1] at e
  by_cases c2:sgn n<sgn m
  ·rw[if_pos c2] at e
   simp only[STD,qcA hm hn,q1A,h1,h2,h3,c1,c2,←e]
  ·rw[if_neg c2] at e
   simp only[STD,qcA hm hn,q1A,h1,h2,h3,c1,c2,hw _ _ ba bc,←e]
theorem qjb(m:Int)(hm:nl m≤2000):∃(n:Nat) (l:List Int),(zl [.s (tI m)]).run=some (0,[.b (decide (m<0)),.i (n:Int),.r (rI l)])∧WOK n l∧nrm n l∧mv l=m.natAbs∧9*n≤nl m+8:=by
 rw[qo2]
 have h1:=qp0 (tI m)
 rw[qqb] at h1
 have a1:(0:Int)<ql (tI m):=by have:=qlG m;unfold ql;omega
 have hb:ieq (sat (tI m) 0) 45=decide (m<0):=by
  rw[Bool.eq_iff_iff,qvb,qsw];simp
 have e0:q2n 232 [.i 0]=rI (List.replicate 232 0):=qfZ 232 0
 have hL:(tN m.natAbs).length≤2000:=hm
 obtain⟨j,qs,g1,rfl,n,l,rfl,g2,g3,g4⟩:=vU (S:=q2G) (fun k ps=>∃(n:Nat) (l:List Int),ps=[.s ((tN m.natAbs).take k),.b (decide (m<0)),.i (n:Int),.r (rI l)]∧k≤(tN m.natAbs).length∧WOK n l ∧
   (k=0∧9*n≤(tN m.natAbs).length+8∨k+9*n=(tN m.natAbs).length)∧((val (tN m.natAbs):Nat):Int)=((val ((tN m.natAbs).take k):Nat):Int)*pB n+mv l)
  (fun j qs=>j=0∧∃(n:Nat) (l:List Int),qs=[.b (decide (m<0)),.i (n:Int),.r (rI l)]∧WOK n l∧mv l=m.natAbs∧9*n≤(tN m.natAbs).length+8) (n:=(tN m.natAbs).length) (by omega)
  (fun k ps hk ⟨n,l,hps,hkl,hw,hkn,hv⟩=>by
   subst hps
   rw[qks]
   have hlk:ql ((tN m.natAbs).take k)=(k:Int):=by unfold ql;rw[List.length_take,Nat.min_eq_left hkl]
   rcases Nat.eq_zero_or_pos k with rfl|hk0
   ·right
    refine⟨0,[.b (decide (m<0)),.i (n:Int),.r (rI l)],?_,rfl,n,l,rfl,hw,?_,by omega⟩
    ·have a:¬(0:Int)<ql ((tN m.natAbs).take 0):=by rw[hlk];omega
     simp only[STD,a]
    ·rw[kP,List.take_zero,qc3] at hv
     simp at hv;omega
   ·left
    have hn231:n≤231:=by omega
    obtain⟨q,hq,hq9⟩:∃q:Nat,qd5 0 (qA .i64 (k:Int) 9)=(q:Int)∧q=k-9:=by
     refine⟨k-9,?_,rfl⟩
     rw[yn (by omega)];unfold qd5;split<;>omega
    have hqk:q≤k:=by omega
    have hsub:q9J ((tN m.natAbs).take k) (q:Int) (k:Int)=((tN m.natAbs).take k).drop q:=by unfold q9J;simp[List.take_take]
    have hsub2:q9J ((tN m.natAbs).take k) 0 (q:Int)=(tN m.natAbs).take q:=by unfold q9J;simp[List.take_take,Nat.min_eq_left hqk]
    have hdg:q3L (((tN m.natAbs).take k).drop q):=quS (qqv (zE _) k) q
    have hdl:(((tN m.natAbs).take k).drop q).length=k-q:=by rw[List.length_drop,List.length_take,Nat.min_eq_left hkl]
    have hdn:((tN m.natAbs).take k).drop q≠[]:=by intro h;rw[h] at hdl;simp at hdl;omega
    have hA:=qvF (s:=((tN m.natAbs).take k).drop q) (by omega) (qpp hdg hdn)
    have hvl:=q4T hdg
    rw[hdl] at hvl
    have hv9:val (((tN m.natAbs).take k).drop q)<1000000000:=Nat.lt_of_lt_of_le hvl (by
     have:(10:Nat)^(k-q)≤10^9:=Nat.pow_le_pow_right (by omega) (by omega)
     simpa using this)
    have b1:(0:Int)<(k:Int):=by omega
    have b2:(0:Int)≤(q:Int)∧(q:Int)≤(k:Int):=by omega
    have b3:(0:Int)≤(k:Int)∧(k:Int)≤(k:Int):=by omega
    have b4:(0:Int)≤(n:Int)∧(n:Int)<232:=by omega
    have b5:(0:Int)≤0∧(0:Int)≤(q:Int):=by omega
    have w1:qh .i64 (n:Int) 1=((n+1:Nat):Int):=by rw[zc (by omega)];omega
    have hnl:n<l.length:=by rw[hw.len];omega
    have hz:l[n]=0:=by rw[←j2 hnl];exact hw.z n (Nat.le_refl _)
    have hW:=hw.setW (j:=n) (y:=((val (((tN m.natAbs).take k).drop q):Nat):Int)) (by omega) (by omega)
    rw[Nat.max_eq_right (by omega)] at hW
    refine⟨q,[.s ((tN m.natAbs).take q),.b (decide (m<0)),.i ((n+1:Nat):Int),.r (rI (l.set n ((val (((tN m.natAbs).take k).drop q):Nat):Int)))],by omega,?_,n+1,_,rfl,by omega,hW,by omega,?_⟩
    ·simp only[STD,hlk,b1,hq,b2,b3,b4,b5,and_self,hsub,hsub2,hA,w1,qfS]
    ·rw[qsJ l n hnl,hz,hv]
     have hsp:val ((tN m.natAbs).take k)=val ((tN m.natAbs).take q)*10^(k-q)+val (((tN m.natAbs).take k).drop q):=by
      have h1:(tN m.natAbs).take k=((tN m.natAbs).take k).take q++((tN m.natAbs).take k).drop q:=(List.take_append_drop q _).symm
      have h2:((tN m.natAbs).take k).take q=(tN m.natAbs).take q:=by rw[List.take_take,Nat.min_eq_left hqk]
      rw[h2] at h1
      generalize ((tN m.natAbs).take k).drop q=D at *
      rw[h1,qoA,hdl]
     rw[hsp,q8V]
     rcases Nat.lt_or_ge k 9 with h9|h9
     ·have:q=0:=by omega
      subst this
      rw[List.take_zero,qc3]
      simp;omega
     ·have:k-q=9:=by omega
      rw[this]
      simp only[Int.natCast_add,Int.natCast_mul]
      have e9:(((10:Nat)^9:Nat):Int)=1000000000:=by simp
      rw[e9]
      grind) (ps:=[.s ((tN m.natAbs).take (tN m.natAbs).length),.b (decide (m<0)),.i 0,.r (rI (List.replicate 232 0))])
  ⟨0,_,rfl,Nat.le_refl _,WOK.zero,.inr (by omega),by rw[q3R,List.take_length,qcl];simp⟩
 rw[List.take_length] at g1
 obtain⟨n2,t1,t2,t3⟩:=qi4 g2 (decide (m<0))
 refine⟨n2,l,?_,t2,t3,g3,?_⟩
 ·simp only[STD,e0,hb,h1,a1,Int.le_refl,and_self,g1,t1]
 ·have:=qzV t2 t3 g2 (Int.le_refl _)
  unfold nl;omega
end Go.Eng

namespace Go.Eng
theorem qy7{m:Int}{k n:Nat}(h:nl m≤k)(hk:k≤9*n):(m.natAbs:Int)<pB n:=by
 rw[qvX]
 have h1:=qz0 h
 have h2:(10:Nat)^k≤10^(9*n):=Nat.pow_le_pow_right (by omega) hk
 omega
theorem qnt{m:Int}(h:okL m):(m.natAbs:Int)<pB 114:=qy7 (k:=1024) h (by omega)
theorem qoR{m:Int}(h:okL m):okL (-m):=by unfold okL;rw[qkX];exact h
theorem qv6{n:Nat}:pB n+pB n≤pB (n+1):=by rw[q8V];have:=q9h n;omega
theorem qzC{b:Bool}{l:List Int}(h:0≤mv l):((sv b l).natAbs:Int)=mv l:=by unfold sv;cases b<;>simp<;>omega
theorem qqF{n:Nat}{l:List Int}(h:WOK n l)(hn:nrm n l)(b:Bool)(hk:okL (sv b l)):(zz [.b b,.i (n:Int),.r (rI l)]).run=some (0,[.s (tI (sv b l)),.i 0,.b b,.i (n:Int),.r (rI l)]):=by
 rw[qdo]
 simp only[STD,qsx h hn,qgX hk]
theorem qr7(m n:Int):(jH [.s (tI m),.s (tI n)]).run=some (0,if (tI m).length≤9∧(tI n).length≤9 then [.i m,.i n,.b true] else [.i 0,.i 0,.b false]):=by
 rw[qmV]
 have h1:(9<ql (tI m))=¬(tI m).length≤9:=by unfold ql;simp only[eq_iff_iff];omega
 have h2:(9<ql (tI n))=¬(tI n).length≤9:=by unfold ql;simp only[eq_iff_iff];omega
 by_cases a:(tI m).length≤9
 ·by_cases b:(tI n).length≤9
  ·simp only[STD,h1,h2,a,b,and_self,qvF (s:=tI m) (by omega) (quY m),qvF (s:=tI n) (by omega) (quY n)]
  ·simp only[STD,h1,h2,a,b,and_false]
 ·simp only[STD,h1,a,false_and]
theorem qed{m:Int}(h:(tI m).length≤9):m.natAbs<1000000000:=by
 have:(tN m.natAbs).length≤9:=by
  unfold tI at h
  split at h
  ·simp at h;omega
  ·exact h
 exact Nat.lt_of_lt_of_le (q3U this) (by simp)
theorem qs8(n:Int)(h:-9223372036854775808≤n∧n≤9223372036854775807):(ut [.i n]).run=some (0,[.s (tI n),.i 0]):=by
 rw[qkI]
 simp only[STD,qeq n h]
theorem qup{m:Int}{l:List Int}(h:mv l=m.natAbs):sv (decide (m<0)) l=m:=by
 unfold sv
 by_cases hm:m<0
 ·rw[decide_eq_true hm,if_pos rfl];omega
 ·rw[decide_eq_false hm,if_neg (by simp)];omega
theorem qzd{m n:Int}(hm:okL m)(hn:okL n)(hs:okL (m+n)):(q8X [.r [[.s (tI m)],[.s (tI n)]]]).run=some (0,[.s (tI (m+n)),.i 0]):=by
 rw[qqm]
 have e0:q2n 232 [.i 0]=rI (List.replicate 232 0):=qfZ 232 0
 have lm:=qnt hm
 have ln:=qnt hn
 obtain⟨q1,l1,r1,w1,n1,v1,_⟩:=qjb m (by unfold okL at hm;omega)
 obtain⟨q2,l2,r2,w2,n2,v2,_⟩:=qjb n (by unfold okL at hn;omega)
 have hb2:=qah (show 115≤232 by omega)
 have hb1:pB 114+pB 114≤pB 115:=qv6
 have hb0:=q9h 114
 obtain⟨b1,k1,m1,a1,a2,a3,a4⟩:=qxE (lx:=List.replicate 232 0) (nx:=0) WOK.zero (.inl rfl) w1 n1 (by rw[qcl,v1];omega) false (decide (m<0))
 rw[qup v1] at a4
 have a5:sv b1 m1=m:=by
  have:sv false (List.replicate 232 0)=0:=by unfold sv;rw[if_neg (by simp),qcl]
  rw[a4,this];omega
 obtain⟨b2,k2,m2,c1,c2,c3,c4⟩:=qxE a2 a3 w2 n2 (by rw[←qzC (b:=b1) a2.bd.1,a5,v2];omega) b1 (decide (n<0))
 rw[qup v2,a5] at c4
 have key:=yK (S:=q4p) (fun i=>match i with
  | 0=>[.r [[.s (tI m)],[.s (tI n)]],.i 2,.i 0,.b false,.i 0,.r (rI (List.replicate 232 0))]
  | 1=>[.r [[.s (tI m)],[.s (tI n)]],.i 2,.i 1,.b b1,.i (k1:Int),.r (rI m1)]
  | _=>[.r [[.s (tI m)],[.s (tI n)]],.i 2,.i 2,.b b2,.i (k2:Int),.r (rI m2)]) (0,[.b b2,.i (k2:Int),.r (rI m2)]) 2 (by omega) (fun i hi=>by
   have:i=0∨i=1:=by omega
   have d0:cS [[.s (tI m)],[.s (tI n)]] 0 0=tI m:=rfl
   have d1:cS [[.s (tI m)],[.s (tI n)]] 1 0=tI n:=rfl
   have d2:qt [[U.s (tI m)],[U.s (tI n)]]=2:=rfl
   rcases this with rfl|rfl
   ·simp only
    rw[qaj,d0,d2]
    simp only[show ((0:Nat):Int)=0 from rfl] at a1
    have w:qh .i64 0 1=1:=by decide
    simp only[STD,r1,a1,w,show (0:Int)<2 by omega,show (0:Int)≤0 by omega,and_self]
   ·simp only
    rw[qaj,d1,d2]
    have w:qh .i64 1 1=2:=by decide
    simp only[STD,r2,c1,w,show (1:Int)<2 by omega,show (0:Int)≤1 by omega,and_self]) (by
   simp only
   rw[qaj]
   simp only[STD,show ¬(2:Int)<2 by omega])
 simp only at key
 have hL:=qqF c2 c3 b2 (by rw[c4];exact hs)
 rw[c4] at hL
 have d2:qt [[U.s (tI m)],[U.s (tI n)]]=2:=rfl
 simp only[e0,d2]
 simp only[STD,key,hL]
theorem qzJ{m n:Int}(hm:okL m)(hn:okL n)(hs:okL (m+n)):(q1n [.s (tI m),.s (tI n)]).run=some (0,[.s (tI (m+n)),.i 0]):=by
 rw[qq0]
 have h:=qr7 m n
 by_cases hc:(tI m).length≤9∧(tI n).length≤9
 ·rw[if_pos hc] at h
  have b1:=qed hc.1
  have b2:=qed hc.2
  have w:qh .i64 m n=m+n:=zc (by omega)
  simp only[STD,qcA hm hn,h,w,qs8 (m+n) (by omega)]
 ·rw[if_neg hc] at h
  simp only[STD,qcA hm hn,h,qzd hm hn hs]
theorem qtx{m:Int}(hm:okL m):(q0s [.s (tI m)]).run=some (0,[.s (tI (-m))]):=by
 rw[qio]
 have hl:=qrs hm
 have hp:=qlG m
 rcases qax m with⟨h,e⟩|⟨h,e⟩|⟨h,e⟩
 ·have a1:(0:Int)≤ql (tI m)∧ql (tI m)≤ql (tI m):=by unfold ql;omega
  have a2:(0:Int)≤1∧1≤ql (tI m):=by unfold ql;omega
  have a3:q9J (tI m) 1 (ql (tI m))=tI (-m):=by
   unfold q9J ql
   rw[q9k h,qgg (m:=-m) (by omega),Int.natAbs_neg];simp
  simp only[STD,q1A,e,a1,a2,a3,and_self,show ¬((-1:Int)=0) by omega,show ¬((-1:Int)=1) by omega]
 ·simp only[STD,q1A,e]
  rw[h];rfl
 ·have a1:ql [45]+ql (tI m)≤140737488355328:=by unfold ql;simp;omega
  have a3:qaw [45] (tI m)=tI (-m):=by
   unfold qaw
   rw[q9k (m:=-m) (by omega),qgg (m:=m) (by omega),Int.natAbs_neg];rfl
  simp only[STD,q1A,e,a1,a3,show ¬((1:Int)=0) by omega]
theorem qA3{m n:Int}(hm:okL m)(hn:okL n)(hs:okL (m-n)):(q5o [.s (tI m),.s (tI n)]).run=some (0,[.s (tI (m-n)),.i 0]):=by
 rw[qqa]
 have h:=qzJ hm (qoR hn) (by rwa [←Int.sub_eq_add_neg])
 rw[←Int.sub_eq_add_neg] at h
 simp only[STD,qcA hm hn,qtx hn,h]
theorem qzW{m n:Int}(hm:okL m)(hn:okL n)(hs:okL (m*n)):(q3n [.s (tI m),.s (tI n)]).run=some (0,[.s (tI (m*n)),.i 0]):=by
 rw[qpD]
 have h:=qr7 m n
 by_cases hc:(tI m).length≤9∧(tI n).length≤9
 ·rw[if_pos hc] at h
  have b1:=qed hc.1
  have b2:=qed hc.2
  have b3:=qzN (A:=999999999) (B:=999999999) (a:=m) (b:=n) (by omega) (by omega) (by omega) (by omega)
  have w:uM .i64 m n=m*n:=q7T (by omega)
  simp only[STD,qcA hm hn,h,w,qs8 (m*n) (by omega)]
 ·rw[if_neg hc] at h
  unfold okL at hm hn
  obtain⟨q1,l1,r1,w1,n1,v1,z1⟩:=qjb m (by omega)
  obtain⟨q2,l2,r2,w2,n2,v2,z2⟩:=qjb n (by omega)
  obtain⟨k,l,t1,t2,t3,t4⟩:=qyH w1 w2 (by omega) (decide (m<0)) (decide (n<0))
  have hv:sv (!(Go.Eng.beq (decide (m<0)) (decide (n<0)))) l=m*n:=by
   unfold sv
   rw[t4,v1,v2]
   have e:((m.natAbs:Int)*(n.natAbs:Int))=(((m*n).natAbs:Nat):Int):=by rw[Int.natAbs_mul];simp
   rw[e]
   unfold Go.Eng.beq
   rcases Int.lt_trichotomy m 0 with a|a|a
   ·rcases Int.lt_trichotomy n 0 with b|b|b
    ·have:=Int.mul_pos_of_neg_of_neg a b
     simp[a,b];omega
    ·subst b;simp
    ·have:=Int.mul_neg_of_neg_of_pos a b
     have b':¬n<0:=by omega
     simp[a,b'];omega
   ·subst a;simp
   ·have a':¬m<0:=by omega
    rcases Int.lt_trichotomy n 0 with b|b|b
    ·have:=Int.mul_neg_of_pos_of_neg a b
     simp[a',b];omega
    ·subst b;simp
    ·have:=Int.mul_pos a b
     have b':¬n<0:=by omega
     simp[a',b'];omega
  have hL:=qqF t2 t3 (!(Go.Eng.beq (decide (m<0)) (decide (n<0)))) (by rw[hv];exact hs)
  rw[hv] at hL
  simp only[STD,qcA hm hn,h,r1,r2,t1,hL]
theorem qvz{n:Nat}{l:List Int}(h:WOK n l)(hn:nrm n l){k:Nat}(hl:mv l<pB k):n≤k:=by
 rcases Nat.lt_or_ge k n with h1|h1
 ·have:=h.lo hn (by omega)
  have:=qah (show k≤n-1 by omega)
  omega
 ·exact h1
theorem qwE{k n:Int}(h0:n≠0)(hm:okL (k*n))(hn:okL n):(q2y [.s (tI (k*n)),.s (tI n)]).run=some (0,[.s (tI k),.s (tI 0),.i 0]):=by
 rw[qlv]
 have h:=qr7 (k*n) n
 have hz:¬tI n=[48]:=by rw[q7P];exact h0
 by_cases hc:(tI (k*n)).length≤9∧(tI n).length≤9
 ·rw[if_pos hc] at h
  have b1:=qed hc.1
  have b2:=qed hc.2
  have hk:k.natAbs≤(k*n).natAbs:=by
   rw[Int.natAbs_mul]
   have:k.natAbs*1≤k.natAbs*n.natAbs:=Nat.mul_le_mul_left _ (by omega)
   omega
  have w1:q4Q (k*n) n=0:=by unfold q4Q;exact Int.mul_tmod_left k n
  have w2:jG .i64 (k*n) n=k:=by
   rw[Int.mul_comm];exact qeb h0 (by omega)
  simp only[STD,qcA hm hn,qS,hz,h,h0,w1,w2,qeq k (by omega),qeq 0 (by omega)]
 ·rw[if_neg hc] at h
  have lm:=qnt hm
  have ln:=qnt hn
  obtain⟨q1,l1,r1,w1,n1,v1,z1⟩:=qjb (k*n) (by unfold okL at hm;omega)
  obtain⟨q2,l2,r2,w2,n2,v2,z2⟩:=qjb n (by unfold okL at hn;omega)
  have hq2:q2≤114:=qvz w2 n2 (by omega)
  have hq0:q2≠0:=fun h=>by rw[qhd w2 n2] at h;omega
  obtain⟨nq,lq,nr,lr,d1,d2,d3,d4,d5,d6,d7⟩:=qdc w1 w2 n2 hq0 (by omega) (decide (k*n<0)) (decide (n<0))
  have e1:((k*n).natAbs:Int)=(k.natAbs:Int)*(n.natAbs:Int):=by rw[Int.natAbs_mul];simp
  rw[v1,v2,e1] at d6
  rw[v2] at d7
  have b4:=d4.bd.1
  have hr0:mv lr=0∧mv lq=k.natAbs:=by
   have hn0:(0:Int)<(n.natAbs:Int):=by omega
   have e2:((k.natAbs:Int)-mv lq)*(n.natAbs:Int)=mv lr:=by rw[Int.sub_mul];omega
   rcases Int.lt_trichotomy ((k.natAbs:Int)-mv lq) 0 with a|a|a
   ·have:=Int.mul_neg_of_neg_of_pos a hn0;omega
   ·rw[a,Int.zero_mul] at e2;omega
   ·have:=Int.mul_le_mul_of_nonneg_right (show 1≤(k.natAbs:Int)-mv lq by omega) (show 0≤(n.natAbs:Int) by omega)
    omega
  have hnr:nr=0:=by rw[qhd d4 d5];exact hr0.1
  have hv:sv (!(Go.Eng.beq (decide (k*n<0)) (decide (n<0)))) lq=k:=by
   unfold sv
   rw[hr0.2]
   unfold Go.Eng.beq
   rcases Int.lt_trichotomy k 0 with a|a|a
   ·rcases Int.lt_trichotomy n 0 with b|b|b
    ·have:=Int.mul_pos_of_neg_of_neg a b
     have c:¬k*n<0:=by omega
     simp[b,c];omega
    ·exact absurd b h0
    ·have c:=Int.mul_neg_of_neg_of_pos a b
     have b':¬n<0:=by omega
     simp[b',c];omega
   ·subst a;simp
   ·rcases Int.lt_trichotomy n 0 with b|b|b
    ·have c:=Int.mul_neg_of_pos_of_neg a b
     simp[b,c];omega
    ·exact absurd b h0
    ·have:=Int.mul_pos a b
     have c:¬k*n<0:=by omega
     have b':¬n<0:=by omega
     simp[b',c];omega
  have hT:=qsx d2 d3 (!(Go.Eng.beq (decide (k*n<0)) (decide (n<0))))
  rw[hv] at hT
  have hT2:=qsx d4 d5 (decide (k*n<0))
  have hv0:sv (decide (k*n<0)) lr=0:=by unfold sv;rw[hr0.1];split<;>rfl
  rw[hv0] at hT2
  have hnr':¬(0:Int)<(nr:Int):=by omega
  simp only[STD,qcA hm hn,qS,hz,h,r1,r2,d1,hnr',hT,hT2]
theorem qxI{m n:Int}(h:m.natAbs≤n.natAbs)(hn:okL n):okL m:=Nat.le_trans (uc h) hn
theorem qA8{k n:Int}(h0:n≠0)(hm:okL (k*n))(hn:okL n):(q57 [.s (tI (k*n)),.s (tI n)]).run=some (0,[.s (tI k),.i 0]):=by
 rw[qqn]
 have hk:okL k:=qxI (by
  rw[Int.natAbs_mul]
  have:k.natAbs*1≤k.natAbs*n.natAbs:=Nat.mul_le_mul_left _ (by omega)
  omega) hm
 simp only[STD,qwE h0 hm hn,qgX hk]
theorem qvh(a b:Nat)(hb:b<9223372036854775808):(qg q0L [.i (a:Int),.i (b:Int)]).run=some (0,[.i ((Nat.gcd a b:Nat):Int)]):=by
 obtain⟨j,qs,h1,rfl,rfl⟩:=vU (S:=q0L) (fun k ps=>∃x y:Nat,ps=[.i (x:Int),.i (y:Int)]∧y=k∧Nat.gcd x y=Nat.gcd a b)
  (fun j qs=>j=0∧qs=[.i ((Nat.gcd a b:Nat):Int)]) (n:=b) hb (fun k ps hk ⟨x,y,hps,hy,hg⟩=>by
  subst hps
  rw[qlK]
  by_cases h0:y=0
  ·right
   refine⟨0,[.i (x:Int)],?_,rfl,?_⟩
   ·simp only[STD,h0];simp[]
   ·rw[←hg,h0,Nat.gcd_zero_right]
  ·left
   refine⟨x%y,[.i (y:Int),.i ((x%y:Nat):Int)],by rw[←hy];exact Nat.mod_lt _ (by omega),?_,y,x%y,rfl,rfl,?_⟩
   ·simp only[STD,show ¬((y:Int)=0) by omega,qkf]
   ·rw[←hg,Nat.gcd_comm y,←Nat.gcd_rec,Nat.gcd_comm]) (ps:=[.i (a:Int),.i (b:Int)]) ⟨a,b,rfl,rfl,rfl⟩
 exact h1
theorem qxs{n:Nat}{l:List Int}(h:WOK n l)(hn:n≤1):mv l=l.getD 0 0:=by
 have:=q9u l 1 (by rw[h.len];omega)
 rw[wQ h.dig h.z hn,Int.mul_zero,Int.add_zero] at this
 have hl:=h.len
 obtain⟨x,t,rfl⟩:∃x t,l=x::t:=by
  cases l with
  | nil=>simp at hl
  | cons x t=>exact⟨x,t,rfl⟩
 rw[this];simp[mv]
theorem qzr{m n:Int}(hm:okL m)(hn:okL n):(q1x [.s (tI m),.s (tI n)]).run=some (0,[.s (tN (Nat.gcd m.natAbs n.natAbs)),.i 0]):=by
 rw[qpn]
 have lm:=qnt hm
 have ln:=qnt hn
 obtain⟨q1,l1,r1,w1,n1,v1,_⟩:=qjb m (by unfold okL at hm;omega)
 obtain⟨q2,l2,r2,w2,n2,v2,_⟩:=qjb n (by unfold okL at hn;omega)
 have hm':(tN m.natAbs).length≤1024:=hm
 have hn':(tN n.natAbs).length≤1024:=hn
 obtain⟨j,qs,g1,g2⟩:=vU (S:=q4h) (fun k ps=>∃(x y:Nat) (b1 b2:Bool) (nx ny:Nat) (lx ly:List Int),ps=[.b b1,.i (nx:Int),.r (rI lx),.b b2,.i (ny:Int),.r (rI ly)] ∧
   WOK nx lx∧nrm nx lx∧WOK ny ly∧nrm ny ly∧mv lx=x∧mv ly=y∧eM x y=k∧Nat.gcd x y=Nat.gcd m.natAbs n.natAbs∧(x:Int)<pB 114∧(y:Int)<pB 114)
  (fun j qs=>(j=0∧∃(b:Bool) (n':Nat) (l:List Int),qs=[.b b,.i (n':Int),.r (rI l)]∧WOK n' l∧nrm n' l∧mv l=((Nat.gcd m.natAbs n.natAbs:Nat):Int))∨(j=1∧qs=[.s (tN (Nat.gcd m.natAbs n.natAbs)),.i 0])) (n:=eM m.natAbs n.natAbs) (qsD (by omega) (by omega))
  (fun k ps hk ⟨x,y,b1,b2,nx,ny,lx,ly,hps,hw,hnw,hw2,hn2,hx,hy,he,hg,lx1,ly1⟩=>by
  subst hps
  rw[qmX]
  have hxl:=hw.len
  have hyl:=hw2.len
  by_cases h0:ny=0
  ·right
   have hy0:mv ly=0:=by rw[←qhd hw2 hn2];exact h0
   have hy0':y=0:=by omega
   refine⟨0,[.b b1,.i (nx:Int),.r (rI lx)],?_,.inl ⟨rfl,b1,nx,lx,rfl,hw,hnw,?_⟩⟩
   ·simp only[STD,h0,show ¬(0:Int)<((0:Nat):Int) by omega]
   ·rw[hx,←hg,hy0',Nat.gcd_zero_right]
  ·have a0:(0:Int)<(ny:Int):=by omega
   have hy0:y≠0:=fun h=>h0 (by rw[qhd hw2 hn2];omega)
   by_cases hc:nx≤1∧ny≤1
   ·right
    have e1:=qxs hw hc.1
    have e2:=qxs hw2 hc.2
    have d1:cI (rI lx) 0 0=(x:Int):=by rw[show (0:Int)=((0:Nat):Int) from rfl,q3C,←e1,hx]
    have d2:cI (rI ly) 0 0=(y:Int):=by rw[show (0:Int)=((0:Nat):Int) from rfl,q3C,←e2,hy]
    have hy9:=hw2.get 0
    rw[←e2,hy] at hy9
    have hE:=qvh x y (by omega)
    have hgl:Nat.gcd x y≤y:=Nat.gcd_le_right _ (by omega)
    have hO:=qeq ((Nat.gcd x y:Nat):Int) (by omega)
    rw[ku] at hO
    have c1:(nx:Int)≤1:=by omega
    have c2:(ny:Int)≤1:=by omega
    refine⟨1,[.s (tN (Nat.gcd x y)),.i 0],?_,.inr ⟨rfl,by rw[hg]⟩⟩
    simp only[STD,a0,c1,c2,d1,d2,hE,hO]
   ·left
    have hny:ny≤114:=qvz hw2 hn2 (by omega)
    obtain⟨nq,lq,nr,lr,d1,d2,d3,d4,d5,d6,d7⟩:=qdc hw hw2 hn2 h0 (by omega) b1 b2
    have hr:mv lr=((x%y:Nat):Int):=by
     have b4:=d4.bd.1
     rw[hx,hy] at d6
     rw[hy] at d7
     have hy1:(0:Int)<(y:Int):=by omega
     have:=(Int.ediv_emod_unique hy1 (a:=(x:Int)) (r:=mv lr) (q:=mv lq)).2 ⟨by rw[Int.mul_comm];omega,b4,d7⟩
     rw[←this.2];simp
    refine⟨eM y (x%y),[.b b2,.i (ny:Int),.r (rI ly),.b false,.i (nr:Int),.r (rI lr)],by rw[←he];exact quV hy0,?_,y,x%y,b2,false,ny,nr,ly,lr,rfl,hw2,hn2,d4,d5,hy,hr,rfl,?_,ly1,?_⟩
    ·by_cases c1:nx≤1
     ·have c2:¬(ny:Int)≤1:=by omega
      have c1':(nx:Int)≤1:=by omega
      simp only[STD,a0,c1',c2,d1]
     ·have c1':¬(nx:Int)≤1:=by omega
      simp only[STD,a0,c1',d1]
    ·rw[←hg,Nat.gcd_comm y,←Nat.gcd_rec,Nat.gcd_comm]
    ·have:=Nat.mod_lt x (show 0<y by omega)
     omega) (ps:=[.b (decide (m<0)),.i (q1:Int),.r (rI l1),.b (decide (n<0)),.i (q2:Int),.r (rI l2)])
  ⟨m.natAbs,n.natAbs,_,_,q1,q2,l1,l2,rfl,w1,n1,w2,n2,v1,v2,rfl,rfl,lm,ln⟩
 rcases g2 with⟨rfl,b,n',l,rfl,a1,a2,a3⟩|⟨rfl,rfl⟩
 ·have hT:=qsx a1 a2 false
  have hv:sv false l=((Nat.gcd m.natAbs n.natAbs:Nat):Int):=by unfold sv;rw[a3];rfl
  rw[hv,ku] at hT
  simp only[STD,qcA hm hn,r1,r2,g1,qv g1,hT]
 ·simp only[STD,qcA hm hn,r1,r2,g1,qv g1,show ¬(1=0) by omega]
end Go.Eng

namespace Go.Eng
theorem q7O:okL 1:=by show nl 1≤1024;decide
theorem q7j:okL 0:=by show nl 0≤1024;decide
theorem qzE(s:List UInt8)(hl:s.length≤1000000000):(q3Y [.s s,.s [47]]).run=some (0,if sP s<s.length then [.s (s.take (sP s)),.s (s.drop (sP s+1)),.b true] else [.s s,.s [],.b false]):=by
 rw[qmw]
 have h:(zQ [.s s,.s [47]]).run=some (0,if sP s<s.length then [.s (s.take (sP s)),.s (s.drop (sP s+1)),.b true] else [.s s,.s [],.b false]):=by
  rw[q7Y]
  have hI:=qxU s
  by_cases hc:sP s<s.length
  ·rw[if_pos hc] at hI ⊢
   have w:qh .i64 (sP s:Int) (ql [47])=((sP s+1:Nat):Int):=by
    show qh .i64 (sP s:Int) 1=_
    rw[zc (by omega)];omega
   have a1:(0:Int)≤(sP s:Int)∧(sP s:Int)≤ql s:=by unfold ql;omega
   have a2:(0:Int)≤0∧(0:Int)≤(sP s:Int):=by omega
   have a3:(0:Int)≤ql s∧ql s≤ql s:=by unfold ql;omega
   have a4:(0:Int)≤((sP s+1:Nat):Int)∧((sP s+1:Nat):Int)≤ql s:=by unfold ql;omega
   have e1:q9J s 0 (sP s:Int)=s.take (sP s):=by unfold q9J;simp
   have e2:q9J s ((sP s+1:Nat):Int) (ql s)=s.drop (sP s+1):=by unfold q9J ql;simp only[Int.toNat_natCast];rw[List.take_length]
   simp only[STD,hI,a1.1,a1.2,a2,a3,a4,and_self,w,e1,e2]
  ·rw[if_neg hc] at hI ⊢
   have a:¬(0:Int)≤-1:=by omega
   simp only[STD,hI,a]
 by_cases hc:sP s<s.length
 ·rw[if_pos hc] at h ⊢
  simp only[STD,h]
 ·rw[if_neg hc] at h ⊢
  simp only[STD,h]
theorem qzI(s:List UInt8)(hl:s.length≤1000000000):(qM [.s s]).run=some (0,[.s (spn s),.s (spd s),.b (decide (sP s<s.length))]):=by
 rw[qql]
 have h:=qzE s hl
 unfold spn spd
 by_cases hc:sP s<s.length
 ·rw[if_pos hc] at h ⊢
  rw[decide_eq_true hc]
  simp only[STD,h]
 ·rw[if_neg hc] at h ⊢
  have:sP s=s.length:=by have:=qxb s;omega
  rw[decide_eq_false hc,this,List.take_length]
  simp only[STD,h]
theorem qz5(q:Rat):(sP (tQ q)<(tQ q).length)=(q.den≠1):=by
 by_cases h:q.den=1
 ·rw[q8E h,qoy (qmR _)];simp[h]
 ·rw[q4v h,qvk (qmR _)];simp[h]
def okQ(q:Rat):Prop:=qn q≤1024∧qd q≤1024
theorem q3m{q:Rat}(h:okQ q):okL q.num:=h.1
theorem kr{q:Rat}(h:okQ q):okL (q.den:Int):=h.2
theorem q8o{q:Rat}(h:okQ q):(tQ q).length≤3000:=by have:=qxt q;have:=h.1;have:=h.2;omega
theorem q8n{q:Rat}(h:okQ q):(qM [.s (tQ q)]).run=some (0,[.s (tI q.num),.s (tI (q.den:Int)),.b (decide (q.den≠1))]):=by
 have:=q8o h
 rw[qzI _ (by omega),quZ,qvg,ku]
 simp only[qz5]
open Classical in
noncomputable def vI(s:List UInt8):Int:=if h:∃m:Int,s=tI m then h.choose else 0
theorem qra(m:Int):vI (tI m)=m:=by
 unfold vI
 have h:∃k:Int,tI m=tI k:=⟨m,rfl⟩
 rw[dif_pos h]
 exact(qpu h.choose_spec).symm
theorem qig{s:List UInt8}(h:qqL s=0):∃m:Int,s=tI m∧okL m:=by
 unfold qqL at h
 split at h
 ·rename_i hm
  obtain⟨m,rfl⟩:=hm
  rw[qqb] at h
  split at h
  ·rename_i hl;exact⟨m,rfl,hl⟩
  ·omega
 ·omega
theorem qhq(s:List UInt8):qqL s=0∨qqL s=3∨qqL s=11:=by
 unfold qqL
 split
 ·split<;>simp
 ·simp
noncomputable def qdO(s:List UInt8):Int:=
 if qqL (spn s)=3 then 3 else if qqL (spd s)=3 then 3 else if qqL (spn s)≠0 then 11 else if qqL (spd s)≠0 then 11
 else if sP s<s.length then (if sgn (vI (spd s)-1)≤0 then 3 else if Nat.gcd (vI (spn s)).natAbs (vI (spd s)).natAbs=1 then 0 else 3) else 0
theorem qxA(s:List UInt8):(spn s).length≤s.length:=by unfold spn;rw[List.length_take];omega
theorem qxH(s:List UInt8):(spd s).length≤s.length+1:=by unfold spd;split<;>simp<;>omega
theorem q7A(s:List UInt8)(hl:s.length≤100000000):(ve [.s s]).run=some (0,[.i (qdO s)]):=by
 rw[qmt]
 have hn:=qxA s
 have hd:=qxH s
 have h1:=qbV (spn s) (by omega)
 have h2:=qbV (spd s) (by omega)
 have hc:=qzI s (by omega)
 have mx:qd5 11 0=11∧qd5 11 11=11∧qd5 0 11=11:=by decide
 unfold qdO
 rcases qhq (spn s) with a|a|a<;>rcases qhq (spd s) with b|b|b<;>rw[a] at h1 ⊢<;>rw[b] at h2 ⊢
 ·obtain⟨m,em,om⟩:=qig a
  obtain⟨n,en,on⟩:=qig b
  rw[em] at h1 hc ⊢
  rw[en] at h2 hc ⊢
  have hC:=qkw on (n:=1) q7O
  rw[qur] at hC
  have hG:=qzr om on
  rw[qra,qra]
  by_cases hs:sP s<s.length
  ·by_cases ho:sgn (n-1)≤0
   ·simp only[STD,hc,h1,h2,hs,hC,hG,ho,show ¬((0:Int)=3) by omega,show ¬((0:Int)≠0) by omega]
   ·by_cases hg:Nat.gcd m.natAbs n.natAbs=1
    ·simp only[STD,hc,h1,h2,hs,hC,hG,ho,hg,qS,q3G,show ¬((0:Int)=3) by omega,show ¬((0:Int)≠0) by omega]
    ·simp only[STD,hc,h1,h2,hs,hC,hG,ho,hg,qS,q3G,show ¬((0:Int)=3) by omega,show ¬((0:Int)≠0) by omega]
  ·simp only[STD,hc,h1,h2,hs,show ¬((0:Int)=3) by omega,show ¬((0:Int)≠0) by omega]
 all_goals simp only[STD,hc,h1,h2,mx,show ¬((0:Int)=3) by omega,show ¬((11:Int)=3) by omega,show ¬((11:Int)=0) by omega,show ¬((3:Int)=0) by omega]
theorem qcp(s:List UInt8)(hl:s.length≤100000000):(q1O [.s s]).run=some (0,[.i (qdO s)]):=by
 rw[qmn]
 have hn:=qxA s
 have hd:=qxH s
 have h1:=qgG (spn s) (by omega)
 have h2:=qgG (spd s) (by omega)
 have hc:=qvS s (by omega)
 have hsl:=qwa s (by omega)
 unfold qdO
 rcases qhq (spn s) with a|a|a<;>rcases qhq (spd s) with b|b|b<;>rw[a] at h1 ⊢<;>rw[b] at h2 ⊢
 ·obtain⟨m,em,om⟩:=qig a
  obtain⟨n,en,on⟩:=qig b
  rw[em] at h1 hc ⊢
  rw[en] at h2 hc ⊢
  unfold okL at om on
  have hC:=qcd n 1 (by omega) (by decide)
  rw[qur] at hC
  have hG:=qff m n (by omega) (by omega)
  rw[qra,qra]
  by_cases hs:sP s<s.length
  ·rw[if_pos hs] at hsl
   have a0:(0:Int)≤(sP s:Int):=by omega
   by_cases ho:sgn (n-1)≤0
   ·simp only[STD,hc,h1,h2,hsl,hs,a0,hC,hG,ho,show ¬((0:Int)=3) by omega]
   ·by_cases hg:Nat.gcd m.natAbs n.natAbs=1
    ·simp only[STD,hc,h1,h2,hsl,hs,a0,hC,hG,ho,hg,qS,q3G,show ¬((0:Int)=3) by omega]
    ·simp only[STD,hc,h1,h2,hsl,hs,a0,hC,hG,ho,hg,qS,q3G,show ¬((0:Int)=3) by omega]
  ·rw[if_neg hs] at hsl
   simp only[STD,hc,h1,h2,hsl,hs,show ¬((0:Int)=3) by omega,show ¬((0:Int)≤-1) by omega]
 all_goals simp only[STD,hc,h1,h2,show ¬((0:Int)=3) by omega,show ¬((11:Int)=3) by omega,show ¬((11:Int)=0) by omega,show ¬((3:Int)=0) by omega]
theorem qon{q:Rat}(h:okQ q):qdO (tQ q)=0:=by
 unfold qdO
 have e1:spd (tQ q)=tI (q.den:Int):=by rw[qvg,ku]
 rw[quZ,e1,qrz (q3m h),qrz (kr h)]
 simp only[qra,qz5]
 by_cases hd:q.den=1
 ·simp[hd]
 ·have:=q.den_nz
  have hs:¬sgn ((q.den:Int)-1)≤0:=by
   unfold sgn;rw[if_neg (by omega),if_neg (by omega)];omega
  have hr:Nat.gcd q.num.natAbs q.den=1:=q.reduced
  simp[hd,hs,hr]
theorem qlg{s:List UInt8}(h:qdO s=0):∃q:Rat,s=tQ q∧okQ q:=by
 unfold qdO at h
 split at h
 ·omega
 split at h
 ·omega
 split at h
 ·omega
 split at h
 ·omega
 rename_i h1 h2 h3 h4
 obtain⟨m,em,om⟩:=qig (Decidable.byContradiction fun h=>h3 h)
 obtain⟨n,en,on⟩:=qig (Decidable.byContradiction fun h=>h4 h)
 rw[em,en,qra,qra] at h
 split at h
 ·rename_i hs
  split at h
  ·omega
  rename_i hsg
  split at h
  ·rename_i hg
   have hn1:1<n:=by
    unfold sgn at hsg
    by_cases c1:n-1<0
    ·rw[if_pos c1] at hsg;omega
    ·rw[if_neg c1] at hsg
     by_cases c2:n-1=0
     ·rw[if_pos c2] at hsg;omega
     ·omega
   obtain⟨k,rfl⟩:∃k:Nat,n=(k:Int):=⟨n.toNat,by omega⟩
   refine⟨⟨m,k,by omega,hg⟩,?_,om,on⟩
   rw[q4v (show k≠1 by omega)]
   have hslash:s=spn s++47::spd s:=by
    unfold spn spd
    rw[if_pos hs]
    have h47:s[sP s]=47:=by
     have:=List.findIdx_getElem (p:=(·==47)) (w:=hs)
     exact eq_of_beq this
    rw[←h47,List.getElem_cons_drop,List.take_append_drop]
   rw[hslash,em,en,ku]
  ·omega
 ·rename_i hs
  have e:sP s=s.length:=by have:=qxb s;omega
  have hsn:spn s=s:=by unfold spn;rw[e,List.take_length]
  refine⟨(m:Rat),?_,?_,?_⟩
  ·rw[qut,←em,hsn]
  ·have:nl m≤1024:=om
   unfold qn;simpa using this
  ·unfold qd;simp;decide
theorem qzT(m:Int):nl m≤(tI m).length:=by unfold nl tI;split<;>simp
theorem qhS(q:Rat):qn q≤(tQ q).length∧(q.den=1∨qn q+1+qd q≤(tQ q).length):=by
 have h1:=qzT q.num
 by_cases h:q.den=1
 ·rw[q8E h];exact⟨h1,.inl h⟩
 ·rw[q4v h]
  unfold qn qd dl
  simp
  omega
theorem qqi{l:List (List UInt8)}(hn:l.length<1000000)(h:∀s,s∈l→(ve [.s s]).run=some (0,[.i 0])):(qP [.r (rS l)]).run=some (0,[.i 0]):=by
 rw[qm4,qnm]
 have key:=yK (S:=q0r) (fun i=>[.r (rS l),.i (l.length:Int),.i (i:Int)]) (0,[]) l.length (by omega) (fun i hi=>by
  rw[qaN,qvN hi]
  have a1:(i:Int)<(l.length:Int):=by omega
  have a2:(i:Int)<qt (rS l):=by rw[qnm];exact a1
  simp only[STD,a1,a2,js,and_self,h _ (List.getElem_mem hi),kZ hi (show l.length<9223372036854775808 by omega)]) (by
  rw[qaN]
  have a1:¬(l.length:Int)<(l.length:Int):=by omega
  simp only[STD,a1])
 simp only[show (((0:Nat)):Int)=0 from rfl] at key
 simp only[STD,key,qv key]
theorem qef{q:Rat}(h:okQ q):(ve [.s (tQ q)]).run=some (0,[.i 0]):=by
 have:=q8o h
 rw[q7A _ (by omega),qon h]
theorem qdt{a b:Rat}(ha:okQ a)(hb:okQ b):(qP [.r [[.s (tQ a)],[.s (tQ b)]]]).run=some (0,[.i 0]):=by
 exact qqi (l:=[tQ a,tQ b]) (by simp) (fun s hs=>by
  simp only[List.mem_cons,List.not_mem_nil,or_false] at hs
  rcases hs with rfl|rfl
  ·exact qef ha
  ·exact qef hb)
theorem qyv{m n:Int}(hm:okL m)(hn:okL n)(h:okL (m+n)):(jk [.s (tI m),.s (tI n),.i 0]).run=some (0,[.s (tI (m+n)),.i 0]):=by
 rw[qie]
 have:(wh [.s (tI m),.s (tI n),.i 0]).run=some (0,[.s (tI (m+n)),.i 0]):=by
  rw[q92]
  simp only[STD,qzJ hm hn h]
 simp only[STD,this]
theorem qrG{m n:Int}(hm:okL m)(hn:okL n)(h:okL (m-n)):(zg [.s (tI m),.s (tI n),.i 0]).run=some (0,[.s (tI (m-n)),.i 0]):=by
 rw[qj6]
 have:(wg [.s (tI m),.s (tI n),.i 0]).run=some (0,[.s (tI (m-n)),.i 0]):=by
  rw[q97]
  simp only[STD,qA3 hm hn h]
 simp only[STD,this]
theorem qxT{m n:Int}(hm:okL m)(hn:okL n)(h:okL (m*n)):(zw [.s (tI m),.s (tI n),.i 0]).run=some (0,[.s (tI (m*n)),.i 0]):=by
 rw[q99]
 simp only[STD,qzW hm hn h]
theorem qyx{m n:Int}(hm:okL m)(hn:okL n):(wl [.s (tI m),.s (tI n),.i 0]).run=some (0,[.s (tN (Nat.gcd m.natAbs n.natAbs)),.i 0]):=by
 rw[q94]
 simp only[STD,qzr hm hn]
theorem qoq{k n:Int}(h0:n≠0)(hm:okL (k*n))(hn:okL n):(qO [.s (tI (k*n)),.s (tI n),.i 0]).run=some (0,[.s (tI k),.i 0]):=by
 rw[q95]
 simp only[STD,qA8 h0 hm hn]
def prd:Int→List Int→Int
 | a,[]=>a
 | a,m::l=>prd (a*m) l
def qy4:Int→List Int→Prop
 | a,[]=>okL a
 | a,m::l=>okL a∧okL m∧qy4 (a*m) l
theorem quw:∀(l:List Int) (pre:List Int) (a:Int),qy4 a l→pre.length+l.length<1000→∀f,l.length<f →
  (qhY j8 f [.s (tI a),.r (rS ((pre++l).map tI)),.i ((pre++l).length:Int),.i (pre.length:Int),.i 0]).run=some (0,[.s (tI (prd a l)),.i 0])
 | [],pre,a,h,hl,f,hf=>by
  obtain⟨f,rfl⟩:∃g,f=g+1:=⟨f-1,by simp at hf;omega⟩
  refine q5W ?_
  rw[q8p,List.append_nil]
  have a1:¬(pre.length:Int)<(pre.length:Int):=by omega
  simp only[STD,a1];rfl
 | m::l,pre,a,h,hl,f,hf=>by
  obtain⟨f,rfl⟩:∃g,f=g+1:=⟨f-1,by simp at hf;omega⟩
  obtain⟨h1,h2,h3⟩:=h
  have hlt:pre.length<(pre++m::l).length:=by simp
  have ih:=quw l (pre++[m]) (a*m) h3 (by simp at hl ⊢;omega) f (by simp at hf;omega)
  rw[List.append_assoc,List.singleton_append] at ih
  have hok:okL (a*m):=by
   cases l with
   | nil=>exact h3
   | cons x l=>exact h3.1
  rw[qex (qs:=[.s (tI (a*m)),.r (rS ((pre++m::l).map tI)),.i ((pre++m::l).length:Int),.i ((pre++[m]).length:Int),.i 0])]
  ·exact ih
  ·rw[q8p]
   have hlt2:pre.length<((pre++m::l).map tI).length:=by simp
   rw[qvN hlt2]
   have e:((pre++m::l).map tI)[pre.length]=tI m:=by simp
   rw[e]
   have a1:(pre.length:Int)<((pre++m::l).length:Int):=by omega
   have a2:(pre.length:Int)<qt (rS ((pre++m::l).map tI)):=by rw[qnm];omega
   have w:qh .i64 (pre.length:Int) 1=((pre++[m]).length:Int):=by
    rw[zc (by omega)];simp
   simp only[STD,a1,a2,js,and_self,qxT h1 h2 hok,w]
theorem qq2(l:List Int)(h:qy4 1 l)(hl:l.length<1000):(qf [.r (rS (l.map tI)),.i 0]).run=some (0,[.s (tI (prd 1 l)),.i 0]):=by
 rw[qih,qnm]
 have h1:=quw l [] 1 h (by simp;omega) qdk (by unfold qdk;omega)
 simp only[List.nil_append,List.length_nil] at h1
 have e:(qg j8 [.s [49],.r (rS (l.map tI)),.i ((l.map tI).length:Int),.i 0,.i 0]).run=some (0,[.s (tI (prd 1 l)),.i 0]):=by
  rw[List.length_map]
  exact h1
 simp only[STD,e]
theorem qb2{m n:Int}(hm:okL m)(hn:okL n)(h:okL (m*n)):(qf [.r [[.s (tI m)],[.s (tI n)]],.i 0]).run=some (0,[.s (tI (m*n)),.i 0]):=by
 have:=qq2 [m,n] ⟨q7O,hm,by rw[Int.one_mul];exact hm,hn,by rw[Int.one_mul];exact h⟩ (by simp)
 simp only[prd,Int.one_mul] at this
 exact this
theorem qpG{q:Rat}(h:okQ q):(q0M [.s (tI q.num),.s (tI (q.den:Int))]).run=some (0,[.s (tQ q)]):=by
 rw[qkW,ku]
 have l1:=qrs (q3m h)
 have l2:(tN q.den).length≤1024:=h.2
 have a1:ql (tI q.num)+ql [47]≤140737488355328:=by unfold ql;simp;omega
 have a2:ql (qaw (tI q.num) [47])+ql (tN q.den)≤140737488355328:=by unfold ql qaw;simp;omega
 by_cases h1:q.den=1
 ·simp only[STD,qS,q3G,h1,q8E h1]
 ·simp only[STD,qS,q3G,h1,q4v h1,a1,a2]
  simp[qaw]
theorem qwy(s:List UInt8):(ym [.s s,.s [45]]).run=some (0,[.b (decide (s.getD 0 0=45))]):=by
 rw[qeD]
 simp only[STD,qva]
theorem quj(n:Int):((tI n).getD 0 0=45)=(n<0):=by
 by_cases h:n<0
 ·rw[q9k h];simp[h]
 ·rw[qgg h]
  obtain⟨c,t,e,h1,h2⟩:=qet (zE n.natAbs) (ql9 _)
  rw[e]
  simp only[List.getD_cons_zero,h,eq_iff_iff,iff_false]
  intro hc;subst hc;revert h1;decide
theorem qk8{m n:Int}(hn0:n≠0)(hm:okL m)(hn:okL n):(qQ [.s (tI m),.s (tI n),.i 0]).run=some (0,[.s (tQ (Rat.divInt m n)),.i 0])∧okQ (Rat.divInt m n):=by
 have hG:=qyx hm hn
 have hg0:0<Nat.gcd m.natAbs n.natAbs:=Nat.gcd_pos_of_pos_right _ (by omega)
 have hgn:Nat.gcd m.natAbs n.natAbs≤n.natAbs:=Nat.gcd_le_right _ (by omega)
 have hnum:=Rat.num_divInt m n
 have hden:=Rat.den_divInt m n
 rw[if_neg hn0] at hden
 have hgc:Int.gcd n m=Nat.gcd m.natAbs n.natAbs:=by unfold Int.gcd;exact Nat.gcd_comm _ _
 rw[hgc] at hnum hden
 obtain⟨k,hk⟩:((Nat.gcd m.natAbs n.natAbs:Nat):Int) ∣ m:=Int.ofNat_dvd_left.2 (Nat.gcd_dvd_left _ _)
 obtain⟨l,hl⟩:((Nat.gcd m.natAbs n.natAbs:Nat):Int) ∣ n:=Int.ofNat_dvd_left.2 (Nat.gcd_dvd_right _ _)
 generalize Nat.gcd m.natAbs n.natAbs=g at *
 generalize Rat.divInt m n=q at *
 have hgok:okL (g:Int):=qxI (by simpa using hgn) hn
 have hm2:k*(g:Int)=m:=by rw[Int.mul_comm];exact hk.symm
 have hn2:l*(g:Int)=n:=by rw[Int.mul_comm];exact hl.symm
 have hgz:(g:Int)≠0:=by omega
 have hok:okQ q:=by
  constructor
  ·refine Nat.le_trans (qiP ?_) hm
   rw[hnum]
   refine Nat.le_trans (Int.natAbs_ediv_le_natAbs _ _) ?_
   rw[Int.natAbs_mul,Int.natAbs_sign_of_ne_zero hn0];omega
  ·refine Nat.le_trans (uc ?_) hn
   rw[hden];exact Nat.div_le_self _ _
 refine⟨?_,hok⟩
 rw[qeI]
 have hP:=qwy (tI n)
 simp only[quj] at hP
 by_cases hneg:n<0
 ·have e1:-k=q.num:=by
   rw[hnum,Int.sign_eq_neg_one_of_neg hneg,←hm2]
   rw[show (-1:Int)*(k*(g:Int))=(-k)*(g:Int) by rw[Int.neg_mul,Int.one_mul,Int.neg_mul]]
   exact(Int.mul_ediv_cancel _ hgz).symm
  have e2:-l=(q.den:Int):=by
   rw[hden]
   have h3:(n.natAbs:Int)=(-l)*(g:Int):=by rw[Int.neg_mul];omega
   rw[Int.natCast_ediv,h3,Int.mul_ediv_cancel _ hgz]
  have hS:=qrG (m:=0) (n:=(g:Int)) q7j hgok (by rw[Int.zero_sub];exact qoR hgok)
  rw[Int.zero_sub,ku] at hS
  have Q1:=qoq (k:=-k) (n:=-(g:Int)) (by omega) (by rw[Int.neg_mul_neg,hm2];exact hm) (qoR hgok)
  have Q2:=qoq (k:=-l) (n:=-(g:Int)) (by omega) (by rw[Int.neg_mul_neg,hn2];exact hn) (qoR hgok)
  rw[Int.neg_mul_neg,hm2,e1] at Q1
  rw[Int.neg_mul_neg,hn2,e2] at Q2
  have hS':(zg [.s [48],.s (tN g),.i 0]).run=some (0,[.s (tI (-(g:Int))),.i 0]):=hS
  simp only[STD,hG,hP,hneg,hS',Q1,Q2,qpG hok]
 ·have e1:k=q.num:=by
   rw[hnum,Int.sign_eq_one_of_pos (by omega),Int.one_mul,←hm2]
   exact(Int.mul_ediv_cancel _ hgz).symm
  have e2:l=(q.den:Int):=by
   rw[hden]
   have h3:(n.natAbs:Int)=l*(g:Int):=by omega
   rw[Int.natCast_ediv,h3,Int.mul_ediv_cancel _ hgz]
  have Q1:=qoq (k:=k) (n:=(g:Int)) hgz (by rw[hm2];exact hm) hgok
  have Q2:=qoq (k:=l) (n:=(g:Int)) hgz (by rw[hn2];exact hn) hgok
  rw[hm2,e1,ku] at Q1
  rw[hn2,e2,ku] at Q2
  simp only[STD,hG,hP,hneg,Q1,Q2,qpG hok]
end Go.Eng

namespace Go.Eng
theorem qtn(a b:Rat):Rat.divInt (a.num*b.den+b.num*a.den) ((a.den:Int)*(b.den:Int))=a+b:=by
 rw[Rat.add_def',←Rat.divInt_ofNat];simp
theorem qu1(a b:Rat):Rat.divInt (a.num*b.den-b.num*a.den) ((a.den:Int)*(b.den:Int))=a-b:=by
 rw[Rat.sub_def',←Rat.divInt_ofNat];simp
theorem qtk(a b:Rat):Rat.divInt (a.num*b.num) ((a.den:Int)*(b.den:Int))=a*b:=by
 rw[Rat.mul_def',←Rat.divInt_ofNat];simp
theorem qtJ(a b:Rat):Rat.divInt (a.num*b.den) ((a.den:Int)*b.num)=a/b:=by
 rw[Rat.div_def,Rat.inv_def,←Rat.divInt_mul_divInt,Rat.num_divInt_den]
theorem qiS(a b:Rat):(a.den:Int)*(b.den:Int)≠0:=by have:=Int.mul_pos (qqK a) (qqK b);omega
theorem qzM{m:Int}(h:m≠0):¬tI m=[48]:=by rw[q7P];exact h
def bnd(N D:Nat)(q:Rat):Prop:=qn q≤N∧qd q≤D
theorem bnd.ok{N D:Nat}{q:Rat}(h:bnd N D q)(hN:N≤1024)(hD:D≤1024):okQ q:=⟨Nat.le_trans h.1 hN,Nat.le_trans h.2 hD⟩
theorem bnd.sm{N D K:Nat}{q:Rat}(h:bnd N D q)(hN:N≤K)(hD:D≤K):sm K q:=⟨Nat.le_trans h.1 hN,Nat.le_trans h.2 hD⟩
theorem bnd.mono{N D N' D':Nat}{q:Rat}(h:bnd N D q)(hN:N≤N')(hD:D≤D'):bnd N' D' q:=⟨Nat.le_trans h.1 hN,Nat.le_trans h.2 hD⟩
theorem bnd.mul{N D N' D':Nat}{a b:Rat}(ha:bnd N D a)(hb:bnd N' D' b):bnd (N+N') (D+D') (a*b):=
 ⟨Nat.le_trans (qwh a b) (Nat.add_le_add ha.1 hb.1),Nat.le_trans (qw4 a b) (Nat.add_le_add ha.2 hb.2)⟩
theorem bnd.add{N D N' D' K:Nat}{a b:Rat}(ha:bnd N D a)(hb:bnd N' D' b)(h1:N+D'+1≤K)(h2:N'+D+1≤K):bnd K (D+D') (a+b):=
 ⟨by have:=qza a b;have:=ha.1;have:=ha.2;have:=hb.1;have:=hb.2;omega,by have:=qze a b;have:=ha.2;have:=hb.2;omega⟩
theorem bnd.sub{N D N' D' K:Nat}{a b:Rat}(ha:bnd N D a)(hb:bnd N' D' b)(h1:N+D'+1≤K)(h2:N'+D+1≤K):bnd K (D+D') (a-b):=
 ⟨by have:=qz9 a b;have:=ha.1;have:=ha.2;have:=hb.1;have:=hb.2;omega,by have:=qzc a b;have:=ha.2;have:=hb.2;omega⟩
theorem bnd.div{N D N' D':Nat}{a b:Rat}(h0:b≠0)(ha:bnd N D a)(hb:bnd N' D' b):bnd (N+D') (D+N') (a/b):=
 ⟨by have:=qyR a h0;have:=ha.1;have:=hb.2;omega,by have:=qyS a h0;have:=ha.2;have:=hb.1;omega⟩
theorem bnd.neg{N D:Nat}{a:Rat}(h:bnd N D a):bnd N D (-a):=⟨by rw[qz8];exact h.1,h.2⟩
theorem q5E:bnd 1 1 0:=⟨by decide,by decide⟩
theorem qbs:bnd 1 1 2:=⟨by decide,by decide⟩
theorem qwN:bnd 1 1 (-2):=⟨by decide,by decide⟩
theorem qa2{m n:Int}{N M:Nat}(hm:nl m≤N)(hn:nl n≤M)(h:N+M≤1024):okL (m*n):=by
 have:=jv m n
 unfold okL;omega
theorem qrj{N D N' D':Nat}{a b:Rat}(ha:bnd N D a)(hb:bnd N' D' b)(h1:N+N'≤1024)(h2:D+D'≤1024):(q5p [.s (tQ a),.s (tQ b)]).run=some (0,[.s (tQ (a*b)),.i 0]):=by
 have oa:=ha.ok (by omega) (by omega)
 have ob:=hb.ok (by omega) (by omega)
 have k1:okL (a.num*b.num):=qa2 ha.1 hb.1 h1
 have k2:okL ((a.den:Int)*(b.den:Int)):=qa2 ha.2 hb.2 h2
 have m1:=qb2 (q3m oa) (q3m ob) k1
 have m2:=qb2 (kr oa) (kr ob) k2
 have hL:=(qk8 (qiS a b) k1 k2).1
 rw[qtk] at hL
 rw[qpM]
 have key:(wE [.s (tQ a),.s (tQ b)]).run=some (0,[.s (tQ (a*b)),.i 0]):=by
  rw[qat]
  have h1:(q1X [.s (tI a.num),.s (tI (a.den:Int)),.s (tI b.num),.s (tI (b.den:Int)),.i 0]).run=some (0,[.s (tI (a.num*b.num)),.s (tI ((a.den:Int)*(b.den:Int))),.i 0]):=by
   rw[qmD]
   simp only[STD,m1,m2]
  simp only[STD,qdt oa ob,q8n oa,q8n ob,h1,qS,qzM (qiS a b),hL]
 simp only[STD,key]
theorem qrt{N D N' D':Nat}{a b:Rat}(ha:bnd N D a)(hb:bnd N' D' b)(h1:N+D'≤1023)(h2:N'+D≤1023)(h3:D+D'≤1024):(q5k [.s (tQ a),.s (tQ b)]).run=some (0,[.s (tQ (a+b)),.i 0]):=by
 have p1:=qjz a
 have p2:=qjz b
 have p3:=qqr a
 have p4:=qqr b
 have oa:okQ a:=⟨by have:=ha.1;have:=hb.2;omega,by have:=ha.2;have:=hb.2;omega⟩
 have ob:okQ b:=⟨by have:=hb.1;have:=ha.2;omega,by have:=ha.2;have:=hb.2;omega⟩
 have k1:okL (a.num*(b.den:Int)):=qa2 ha.1 hb.2 (by omega)
 have k2:okL (b.num*(a.den:Int)):=qa2 hb.1 ha.2 (by omega)
 have k3:okL ((a.den:Int)*(b.den:Int)):=qa2 ha.2 hb.2 h3
 have k4:okL (a.num*(b.den:Int)+b.num*(a.den:Int)):=by
  have q1:=qnf (a.num*(b.den:Int)) (b.num*(a.den:Int))
  have q2:=jv a.num (b.den:Int)
  have q3:=jv b.num (a.den:Int)
  have q4:nl a.num≤N:=ha.1
  have q5:nl (b.den:Int)≤D':=hb.2
  have q6:nl b.num≤N':=hb.1
  have q7:nl (a.den:Int)≤D:=ha.2
  unfold okL;omega
 have m1:=qb2 (q3m oa) (kr ob) k1
 have m2:=qb2 (q3m ob) (kr oa) k2
 have m3:=qb2 (kr oa) (kr ob) k3
 have hL:=(qk8 (qiS a b) k4 k3).1
 rw[qtn] at hL
 rw[qqd]
 have key:(wO [.s (tQ a),.s (tQ b)]).run=some (0,[.s (tQ (a+b)),.i 0]):=by
  rw[qa8]
  have h1:(q21 [.s (tI a.num),.s (tI (a.den:Int)),.s (tI b.num),.s (tI (b.den:Int)),.i 0]).run=some (0,[.s (tI (a.num*b.den+b.num*a.den)),.s (tI ((a.den:Int)*(b.den:Int))),.i 0]):=by
   rw[qmZ]
   simp only[STD,m1,m2,m3,qyv k1 k2 k4]
  simp only[STD,qdt oa ob,q8n oa,q8n ob,h1,qS,qzM (qiS a b),hL]
 simp only[STD,key]
theorem qr3{N D N' D':Nat}{a b:Rat}(ha:bnd N D a)(hb:bnd N' D' b)(h1:N+D'≤1023)(h2:N'+D≤1023)(h3:D+D'≤1024):(q56 [.s (tQ a),.s (tQ b)]).run=some (0,[.s (tQ (a-b)),.i 0]):=by
 have p1:=qjz a
 have p2:=qjz b
 have p3:=qqr a
 have p4:=qqr b
 have oa:okQ a:=⟨by have:=ha.1;have:=hb.2;omega,by have:=ha.2;have:=hb.2;omega⟩
 have ob:okQ b:=⟨by have:=hb.1;have:=ha.2;omega,by have:=ha.2;have:=hb.2;omega⟩
 have k1:okL (a.num*(b.den:Int)):=qa2 ha.1 hb.2 (by omega)
 have k2:okL (b.num*(a.den:Int)):=qa2 hb.1 ha.2 (by omega)
 have k3:okL ((a.den:Int)*(b.den:Int)):=qa2 ha.2 hb.2 h3
 have k4:okL (a.num*(b.den:Int)-b.num*(a.den:Int)):=by
  have q1:=qsl (a.num*(b.den:Int)) (b.num*(a.den:Int))
  have q2:=jv a.num (b.den:Int)
  have q3:=jv b.num (a.den:Int)
  have q4:nl a.num≤N:=ha.1
  have q5:nl (b.den:Int)≤D':=hb.2
  have q6:nl b.num≤N':=hb.1
  have q7:nl (a.den:Int)≤D:=ha.2
  unfold okL;omega
 have m1:=qb2 (q3m oa) (kr ob) k1
 have m2:=qb2 (q3m ob) (kr oa) k2
 have m3:=qb2 (kr oa) (kr ob) k3
 have hL:=(qk8 (qiS a b) k4 k3).1
 rw[qu1] at hL
 rw[qqo]
 have key:(wM [.s (tQ a),.s (tQ b)]).run=some (0,[.s (tQ (a-b)),.i 0]):=by
  rw[qas]
  have h1:(q1S [.s (tI a.num),.s (tI (a.den:Int)),.s (tI b.num),.s (tI (b.den:Int)),.i 0]).run=some (0,[.s (tI (a.num*b.den-b.num*a.den)),.s (tI ((a.den:Int)*(b.den:Int))),.i 0]):=by
   rw[qmQ]
   simp only[STD,m1,m2,m3,qrG k1 k2 k4]
  simp only[STD,qdt oa ob,q8n oa,q8n ob,h1,qS,qzM (qiS a b),hL]
 simp only[STD,key]
theorem qlo(q:Rat):(tQ q=[48])=(q=0):=by
 have:([48]:List UInt8)=tQ 0:=rfl
 rw[this,qtb]
theorem qr5{N D N' D':Nat}{a b:Rat}(hb0:b≠0)(ha:bnd N D a)(hb:bnd N' D' b)(h1:N+D'≤1024)(h2:D+N'≤1024):(q55 [.s (tQ a),.s (tQ b)]).run=some (0,[.s (tQ (a/b)),.i 0]):=by
 have oa:okQ a:=⟨by have:=ha.1;omega,by have:=ha.2;omega⟩
 have ob:okQ b:=⟨by have:=hb.1;omega,by have:=hb.2;omega⟩
 have k1:okL (a.num*(b.den:Int)):=qa2 ha.1 hb.2 h1
 have k2:okL ((a.den:Int)*b.num):=qa2 ha.2 hb.1 h2
 have hbn:b.num≠0:=fun h=>hb0 (Rat.num_eq_zero.1 h)
 have hz:(a.den:Int)*b.num≠0:=by have:=qqK a;exact Int.mul_ne_zero (by omega) hbn
 have m1:=qb2 (q3m oa) (kr ob) k1
 have m2:=qb2 (kr oa) (q3m ob) k2
 have hL:=(qk8 hz k1 k2).1
 rw[qtJ] at hL
 rw[qpS]
 have key:(wU [.s (tQ a),.s (tQ b)]).run=some (0,[.s (tQ (a/b)),.i 0]):=by
  rw[q9U]
  have h1:(q2c [.s (tI a.num),.s (tI (a.den:Int)),.s (tI b.num),.s (tI (b.den:Int)),.i 0]).run=some (0,[.s (tI (a.num*b.den)),.s (tI ((a.den:Int)*b.num)),.i 0]):=by
   rw[qmY]
   simp only[STD,m1,m2]
  simp only[STD,qdt oa ob,q8n oa,q8n ob,h1,qS,qzM hz,hL]
 simp only[STD,qdt oa ob,qS,qlo,hb0,key]
theorem q6H{m:Int}(h:okL m):(zj [.s (tI m),.i 0]).run=some (0,[.i (sgn m),.i 0]):=by
 rw[qhZ]
 simp only[STD,qqz h]
theorem qy5(m:Int):sgn m=sgq (m:Rat):=by unfold sgq;simp
theorem qr4{q k:Rat}(hk:0<k):sgq (k*q)=sgq q:=by
 rcases qaR q with⟨h,e⟩|⟨h,e⟩|⟨h,e⟩
 ·rw[e,qw3]
  have:=(Rat.mul_neg_iff_of_pos_left hk).2 h
  exact this
 ·rw[e,h,Rat.mul_zero];rfl
 ·rw[e,qoZ]
  exact Rat.mul_pos hk h
theorem q1P(a:Rat):(0:Rat)<(a.den:Rat):=by
 have:=a.den_nz
 exact Rat.natCast_pos.2 (by omega)
theorem qcs(a:Rat):(a.num:Rat)=a*(a.den:Rat):=by
 have h:a=(a.num:Rat)/(a.den:Rat):=by rw[←Rat.mkRat_eq_div,Rat.mkRat_self]
 have h2:=Rat.div_mul_cancel (a:=(a.num:Rat)) (b:=(a.den:Rat)) (by have:=q1P a;grind)
 rw[←h] at h2
 exact h2.symm
def rX(a b c:Rat):Int:=a.num*b.den*c.den
def rY(a b:Rat):Int:=b.num*a.den
def rR(c:Rat):Int:=c.num*c.den
theorem qyT(a b c:Rat):sgn (rX a b c)=sgq a:=by
 unfold rX sgq
 rw[qbI (qqK c),qbI (qqK b)]
theorem qzi(a b:Rat):sgn (rY a b)=sgq b:=by unfold rY sgq;rw[qbI (qqK a)]
theorem qzm(c:Rat):sgn (rR c)=sgq c:=by unfold rR sgq;rw[qbI (qqK c)]
theorem qyZ(a b c:Rat):sgn (rX a b c*rX a b c-rY a b*rY a b*rR c)=sgq (a*a-b*b*c):=by
 rw[qy5]
 have h1:=q1P a
 have h2:=q1P b
 have h3:=q1P c
 have hk:(0:Rat)<((a.den:Rat)*b.den*c.den)*((a.den:Rat)*b.den*c.den):=by
  have:=Rat.mul_pos (Rat.mul_pos h1 h2) h3
  exact Rat.mul_pos this this
 rw[←qr4 (q:=a*a-b*b*c) hk]
 congr 1
 unfold rX rY rR
 simp only[Rat.intCast_sub,Rat.intCast_mul,qcs,Rat.intCast_natCast]
 grind
theorem quu(a b c:Rat):qd3 a b c=if 0≤sgn (rX a b c)*(sgn (rY a b)*sgn (rR c)) then (if sgn (rX a b c)=0 then sgn (rY a b)*sgn (rR c) else sgn (rX a b c)) else sgn (rX a b c)*sgn (rX a b c*rX a b c-rY a b*rY a b*rR c):=by
 unfold qd3
 rw[qyT,qzi,qzm,qyZ]
theorem qyw{x y r:Int}(hx:okL x)(hy:okL y)(hr:okL r)(hxx:okL (x*x))(hyy:okL (y*y))(hyr:okL (y*y*r))(hd:okL (x*x-y*y*r)) :
  (ya [.s (tI x),.s (tI y),.s (tI r),.i 0]).run=some (0,[.i (if 0≤sgn x*(sgn y*sgn r) then (if sgn x=0 then sgn y*sgn r else sgn x) else sgn x*sgn (x*x-y*y*r)),.i 0]):=by
 rw[qgW]
 have bx:=qkt x
 have bY:=qkt y
 have br:=qkt r
 have bd:=qkt (x*x-y*y*r)
 have m1:=qb2 hx hx hxx
 have m2:=qq2 [y,y,r] ⟨q7O,hy,by rw[Int.one_mul];exact hy,hy,by rw[Int.one_mul];exact hyy,hr,by rw[Int.one_mul];exact hyr⟩ (by simp)
 simp only[prd,Int.one_mul] at m2
 have m2':(qf [.r [[.s (tI y)],[.s (tI y)],[.s (tI r)]],.i 0]).run=some (0,[.s (tI (y*y*r)),.i 0]):=m2
 by_cases hc:0≤sgn x*(sgn y*sgn r)
 ·by_cases h0:sgn x=0
  ·have w0:uM .i64 0 (sgn y*sgn r)=0:=by rw[q7T (by rw[Int.zero_mul];omega),Int.zero_mul]
   simp only[STD,q6H hx,q6H hy,q6H hr,qcn bY br,h0,w0,Int.zero_mul,Int.le_refl,eq_self]
  ·simp only[STD,q6H hx,q6H hy,q6H hr,qcn bY br,qcn bx (qyN bY br),hc,h0]
 ·simp only[STD,q6H hx,q6H hy,q6H hr,qcn bY br,qcn bx (qyN bY br),hc,m1,m2',qrG hxx hyr hd,q6H hd,qcn bx bd]
theorem qsC(m:Int):okL (0*m):=by rw[Int.zero_mul];exact q7j
theorem qxh{c:Rat}(h:0≤c):¬(tQ c).getD 0 0=45:=by
 have hn:¬c.num<0:=by have:=Rat.num_nonneg.2 h;omega
 have e:(tQ c).getD 0 0=(tI c.num).getD 0 0:=by
  by_cases hd:c.den=1
  ·rw[q8E hd]
  ·rw[q4v hd]
   obtain⟨x,t,ex⟩:∃x t,tI c.num=x::t:=List.exists_cons_of_ne_nil (List.length_pos_iff.1 (qlG _))
   rw[ex];simp
 rw[e,quj];exact hn
theorem qvq{c:Rat}(h:c<0):(tQ c).getD 0 0=45:=by
 have h1:¬0≤c:=by grind
 have hn:c.num<0:=by
  have h2:¬0≤c.num:=fun h=>h1 (Rat.num_nonneg.1 h)
  omega
 have e:(tQ c).getD 0 0=(tI c.num).getD 0 0:=by
  by_cases hd:c.den=1
  ·rw[q8E hd]
  ·rw[q4v hd]
   obtain⟨x,t,ex⟩:∃x t,tI c.num=x::t:=List.exists_cons_of_ne_nil (List.length_pos_iff.1 (qlG _))
   rw[ex];simp
 rw[e,quj];exact hn
theorem qgH(s:List UInt8):(sat s 0=45)=(s.getD 0 0=45):=by
 unfold sat
 simp only[Int.toNat_zero,eq_iff_iff]
 exact⟨fun h=>UInt8.toNat_inj.1 (by show (s.getD 0 0).toNat=45;omega),fun h=>by rw[h];rfl⟩
structure RootOk (a b c:Rat):Prop where
 oa:okQ a
 ob:okQ b
 oc:okQ c
 x1:okL (a.num*b.den)
 x:okL (rX a b c)
 y:okL (rY a b)
 r:okL (rR c)
 xx:okL (rX a b c*rX a b c)
 yy:okL (rY a b*rY a b)
 yr:okL (rY a b*rY a b*rR c)
 d:okL (rX a b c*rX a b c-rY a b*rY a b*rR c)
theorem qt4{a b c:Rat}(h:RootOk a b c)(hc:0≤c):(q0l [.s (tQ a),.s (tQ b),.s (tQ c)]).run=some (0,[.i (qd3 a b c),.i 0]):=by
 rw[qiU]
 have key:(kG [.s (tQ a),.s (tQ b),.s (tQ c),.s [48],.s [48]]).run=some (0,[.i (qd3 a b c),.i 0]):=by
  rw[qhB]
  have o0:okQ 0:=q5E.ok (by omega) (by omega)
  have hz:=qef o0
  rw[show tQ 0=[48] from rfl] at hz
  have hch:=qqi (l:=[tQ a,tQ b,tQ c,[48],[48]]) (by simp) (fun s hs=>by
   simp only[List.mem_cons,List.not_mem_nil,or_false] at hs
   rcases hs with rfl|rfl|rfl|rfl|rfl
   ·exact qef h.oa
   ·exact qef h.ob
   ·exact qef h.oc
   ·exact hz
   ·exact hz)
  have hch':(qP [.r [[.s (tQ a)],[.s (tQ b)],[.s (tQ c)],[.s [48]],[.s [48]]]]).run=some (0,[.i 0]):=hch
  have c0:=q8n o0
  rw[show tQ 0=[48] from rfl] at c0
  replace c0:(qM [.s [48]]).run=some (0,[.s [48],.s [49],.b false]):=c0
  have l1:(0:Int)<ql (tQ c):=by
   have h1:=qhS c
   have h2:=qjz c
   unfold ql;omega
  have l2:(0:Int)<ql [48]:=by decide
  have n1:¬sat (tQ c) 0=45:=by rw[qgH];exact qxh hc
  have n2:¬sat [48] 0=45:=by decide
  have mx:=qq2 [a.num,b.den,c.den,1,1] ⟨q7O,q3m h.oa,by rw[Int.one_mul];exact q3m h.oa,kr h.ob,by rw[Int.one_mul];exact h.x1,kr h.oc,by rw[Int.one_mul];exact h.x,q7O,by rw[Int.one_mul,Int.mul_one];exact h.x,q7O,by rw[Int.one_mul,Int.mul_one,Int.mul_one];exact h.x⟩ (by simp)
  have my:=qq2 [b.num,a.den,1,1] ⟨q7O,q3m h.ob,by rw[Int.one_mul];exact q3m h.ob,kr h.oa,by rw[Int.one_mul];exact h.y,q7O,by rw[Int.one_mul,Int.mul_one];exact h.y,q7O,by rw[Int.one_mul,Int.mul_one,Int.mul_one];exact h.y⟩ (by simp)
  have mr:=qb2 (q3m h.oc) (kr h.oc) h.r
  have mz:=qq2 [0,a.den,b.den,c.den] ⟨q7O,q7j,by rw[Int.mul_zero];exact q7j,kr h.oa,by simp only[Int.mul_zero];exact qsC _,kr h.ob,by simp only[Int.mul_zero,Int.zero_mul];exact q7j,kr h.oc,by simp only[Int.mul_zero,Int.zero_mul];exact q7j⟩ (by simp)
  have mt:=qb2 (m:=0) (n:=1) q7j q7O (qsC _)
  simp only[prd,Int.one_mul,Int.mul_one,Int.zero_mul] at mx my mz mt
  have mx':(qf [.r [[.s (tI a.num)],[.s (tI (b.den:Int))],[.s (tI (c.den:Int))],[.s [49]],[.s [49]]],.i 0]).run=some (0,[.s (tI (rX a b c)),.i 0]):=mx
  have my':(qf [.r [[.s (tI b.num)],[.s (tI (a.den:Int))],[.s [49]],[.s [49]]],.i 0]).run=some (0,[.s (tI (rY a b)),.i 0]):=my
  have mr':(qf [.r [[.s (tI c.num)],[.s (tI (c.den:Int))]],.i 0]).run=some (0,[.s (tI (rR c)),.i 0]):=mr
  have mz':(qf [.r [[.s [48]],[.s (tI (a.den:Int))],[.s (tI (b.den:Int))],[.s (tI (c.den:Int))]],.i 0]).run=some (0,[.s (tI 0),.i 0]):=mz
  have mt':(qf [.r [[.s [48]],[.s [49]]],.i 0]).run=some (0,[.s (tI 0),.i 0]):=mt
  have hR:=qyw h.x h.y h.r h.xx h.yy h.yr h.d
  rw[←quu] at hR
  have w1:uM .i64 (sgn 0) (sgn 0)=0:=by decide
  have w2:uM .i64 (qd3 a b c) 0=0:=by rw[q7T (by rw[Int.mul_zero];omega),Int.mul_zero]
  by_cases h0:qd3 a b c=0
  ·simp only[STD,hch',l1,l2,n1,n2,Int.le_refl,and_self,q8n h.oa,q8n h.ob,q8n h.oc,c0,mx',my',mr',mz',mt',hR,q6H q7j,w1,h0,show uM .i64 0 0=0 from rfl]
  ·simp only[STD,hch',l1,l2,n1,n2,Int.le_refl,and_self,q8n h.oa,q8n h.ob,q8n h.oc,c0,mx',my',mr',mz',mt',hR,q6H q7j,w1,w2,h0]
 simp only[STD,key]
theorem RootOk.of{N D N' D' R E:Nat}{a b c:Rat}(ha:bnd N D a)(hb:bnd N' D' b)(hc:bnd R E c)(h1:2*(N+D'+E)≤1023)(h2:2*(N'+D)+R+E≤1023):RootOk a b c:=by
 have q1:nl a.num≤N:=ha.1
 have q2:nl (a.den:Int)≤D:=ha.2
 have q3:nl b.num≤N':=hb.1
 have q4:nl (b.den:Int)≤D':=hb.2
 have q5:nl c.num≤R:=hc.1
 have q6:nl (c.den:Int)≤E:=hc.2
 have x1:=jv a.num b.den
 have x2:=jv (a.num*b.den) c.den
 have y1:=jv b.num a.den
 have r1:=jv c.num c.den
 have xx:=jv (rX a b c) (rX a b c)
 have yy:=jv (rY a b) (rY a b)
 have yr:=jv (rY a b*rY a b) (rR c)
 have dd:=qsl (rX a b c*rX a b c) (rY a b*rY a b*rR c)
 have e1:nl (rX a b c)=nl (a.num*b.den*c.den):=rfl
 have e2:nl (rY a b)=nl (b.num*a.den):=rfl
 have e3:nl (rR c)=nl (c.num*c.den):=rfl
 have p1:=qlZ a.num
 have p2:=qlZ b.num
 have p3:=qlZ c.num
 have p4:=qlZ (a.den:Int)
 have p5:=qlZ (b.den:Int)
 have p6:=qlZ (c.den:Int)
 exact { oa:=⟨by show nl a.num≤1024;omega,by show nl (a.den:Int)≤1024;omega⟩,ob:=⟨by show nl b.num≤1024;omega,by show nl (b.den:Int)≤1024;omega⟩,oc:=⟨by show nl c.num≤1024;omega,by show nl (c.den:Int)≤1024;omega⟩,x1:=by unfold okL;omega,x:=by unfold okL;omega,y:=by unfold okL;omega,r:=by unfold okL;omega,xx:=by unfold okL;omega,yy:=by unfold okL;omega,yr:=by unfold okL;omega,d:=by unfold okL;omega }
end Go.Eng

namespace Go.Eng
theorem qu7{a b:Rat}{N D N' D':Nat}(ha:bnd N D a)(hb:bnd N' D' b)(h1:N+D'≤1023)(h2:N'+D≤1023)(h3:D+D'≤1024):(qV [.s (tQ a),.s (tQ b),.i 0]).run=some (0,[.s (tQ (a+b)),.i 0]):=by
 rw[qiY]
 have:(wk [.s (tQ a),.s (tQ b),.i 0]).run=some (0,[.s (tQ (a+b)),.i 0]):=by
  rw[q9c]
  simp only[STD,qrt ha hb h1 h2 h3]
 simp only[STD,this]
theorem qoC{a b:Rat}{N D N' D':Nat}(ha:bnd N D a)(hb:bnd N' D' b)(h1:N+D'≤1023)(h2:N'+D≤1023)(h3:D+D'≤1024):(qE [.s (tQ a),.s (tQ b),.i 0]).run=some (0,[.s (tQ (a-b)),.i 0]):=by
 rw[qif]
 have:(wj [.s (tQ a),.s (tQ b),.i 0]).run=some (0,[.s (tQ (a-b)),.i 0]):=by
  rw[q9a]
  simp only[STD,qr3 ha hb h1 h2 h3]
 simp only[STD,this]
theorem qoo{a b:Rat}{N D N' D':Nat}(ha:bnd N D a)(hb:bnd N' D' b)(h1:N+N'≤1024)(h2:D+D'≤1024):(qI [.s (tQ a),.s (tQ b),.i 0]).run=some (0,[.s (tQ (a*b)),.i 0]):=by
 rw[qiv]
 have:(wi [.s (tQ a),.s (tQ b),.i 0]).run=some (0,[.s (tQ (a*b)),.i 0]):=by
  rw[q93]
  simp only[STD,qrj ha hb h1 h2]
 simp only[STD,this]
theorem qyX{a b:Rat}{N D N' D':Nat}(h0:b≠0)(ha:bnd N D a)(hb:bnd N' D' b)(h1:N+D'≤1024)(h2:D+N'≤1024):(zv [.s (tQ a),.s (tQ b),.i 0]).run=some (0,[.s (tQ (a/b)),.i 0]):=by
 rw[q96]
 simp only[STD,qr5 h0 ha hb h1 h2]
theorem quL{ax ay bx by_:Rat}{N D N' D':Nat}(h1:bnd N D ax)(h2:bnd N D ay)(h3:bnd N' D' bx)(h4:bnd N' D' by_)(c1:N+D'≤1023)(c2:N'+D≤1023)(c3:D+D'≤1024) :
  (zK [.s (tQ ax),.s (tQ ay),.s (tQ bx),.s (tQ by_),.i 0]).run=some (0,[.s (tQ (ax-bx)),.s (tQ (ay-by_)),.i 0]):=by
 rw[qhj]
 simp only[STD,qoC h1 h3 c1 c2 c3,qoC h2 h4 c1 c2 c3]
theorem qvm{ax ay bx by_:Rat}{N D N' D':Nat}(h1:bnd N D ax)(h2:bnd N D ay)(h3:bnd N' D' bx)(h4:bnd N' D' by_)(c1:N+N'+(D+D')≤1023)(c2:D+D'+(D+D')≤1024) :
  (zr [.s (tQ ax),.s (tQ ay),.s (tQ bx),.s (tQ by_),.i 0]).run=some (0,[.s (tQ (ax*bx+ay*by_)),.i 0]):=by
 rw[qiX]
 simp only[STD,qoo h1 h3 (by omega) (by omega),qoo h2 h4 (by omega) (by omega),qu7 (h1.mul h3) (h2.mul h4) (by omega) (by omega) (by omega)]
theorem qnR{ax ay bx by_:Rat}{N D N' D':Nat}(h1:bnd N D ax)(h2:bnd N D ay)(h3:bnd N' D' bx)(h4:bnd N' D' by_):bnd (N+N'+(D+D')+1) (D+D'+(D+D')) (ax*bx+ay*by_):=
 (h1.mul h3).add (h2.mul h4) (by omega) (by omega)
def qaZ(ax ay bx by_:Rat):Rat:=(ax-bx)*(ax-bx)+(ay-by_)*(ay-by_)
theorem uR{a b:Rat}(ha:bnd 12 10 a)(hb:bnd 12 10 b):bnd 23 20 (a-b):=ha.sub hb (by omega) (by omega)
theorem qgl{ax ay bx by_:Rat}(h1:bnd 12 10 ax)(h2:bnd 12 10 ay)(h3:bnd 12 10 bx)(h4:bnd 12 10 by_):bnd 87 80 (qaZ ax ay bx by_):=
 qnR (uR h1 h3) (uR h2 h4) (uR h1 h3) (uR h2 h4)
theorem qzR{ax ay bx by_:Rat}(h1:bnd 12 10 ax)(h2:bnd 12 10 ay)(h3:bnd 12 10 bx)(h4:bnd 12 10 by_) :
  (q0u [.s (tQ ax),.s (tQ ay),.s (tQ bx),.s (tQ by_),.i 0]).run=some (0,[.s (tQ (qaZ ax ay bx by_)),.i 0]):=by
 rw[qiD]
 have k1:=uR h1 h3
 have k2:=uR h2 h4
 simp only[STD,quL h1 h2 h3 h4 (by omega) (by omega) (by omega),qvm k1 k2 k1 k2 (by omega) (by omega)]
 rfl
theorem qrn{ax ay bx by_:Rat}(h1:sm 40000 ax)(h2:sm 40000 ay)(h3:sm 40000 bx)(h4:sm 40000 by_) :
  (jC [.s (tQ ax),.s (tQ ay),.s (tQ bx),.s (tQ by_)]).run=some (0,[.s (tQ (ax-bx)),.s (tQ (ay-by_))]):=by
 rw[qmI]
 simp only[STD,q0b (q01 h1 (show 40000≤100000 by omega)) (q01 h3 (show 40000≤100000 by omega)),q0b (q01 h2 (show 40000≤100000 by omega)) (q01 h4 (show 40000≤100000 by omega))]
theorem qux{ax ay bx by_:Rat}{K:Nat}(hK:K≤40000)(h1:sm K ax)(h2:sm K ay)(h3:sm K bx)(h4:sm K by_) :
  (yh [.s (tQ ax),.s (tQ ay),.s (tQ bx),.s (tQ by_)]).run=some (0,[.s (tQ (ax*bx+ay*by_))]):=by
 rw[qpz]
 have e:=fun {q:Rat} (h:sm K q)=>q01 h (show K≤100000 by omega)
 have p1:=q3I (a:=ax*bx) (b:=ay*by_) (q01 (qqG h1 h3) (by omega)) (q01 (qqG h2 h4) (by omega))
 simp only[STD,wu (e h1) (e h3),wu (e h2) (e h4),p1]
theorem qA9{ax ay bx by_:Rat}(h1:bnd 12 10 ax)(h2:bnd 12 10 ay)(h3:bnd 12 10 bx)(h4:bnd 12 10 by_) :
  (q8C [.s (tQ ax),.s (tQ ay),.s (tQ bx),.s (tQ by_)]).run=some (0,[.s (tQ (qaZ ax ay bx by_))]):=by
 rw[qpV]
 have hM:=qrn (h1.sm (by omega) (by omega)) (h2.sm (by omega) (by omega)) (h3.sm (by omega) (by omega)) (h4.sm (by omega) (by omega))
 have k1:=(uR h1 h3).sm (K:=100) (by omega) (by omega)
 have k2:=(uR h2 h4).sm (K:=100) (by omega) (by omega)
 simp only[STD,hM,qux (K:=100) (by omega) k1 k2 k1 k2]
 rfl
structure DQ where
 x:Rat
 y:Rat
 s:Rat
def DQ.sh(d:DQ):Prop:=bnd 12 10 d.x∧bnd 12 10 d.y∧bnd 13 10 d.s
theorem qxp{a b:Rat}(ha:bnd 13 10 a)(hb:bnd 13 10 b):bnd 24 20 (a+b):=ha.add hb (by omega) (by omega)
def qmM(a b:DQ)(k:Rat):Int:=qd3 (qaZ a.x a.y b.x b.y-(a.s+b.s)) k (a.s*b.s)
theorem quJ{a b c:Rat}(h:RootOk a b c)(hc:0≤c):(zP [.s (tQ a),.s (tQ b),.s (tQ c),.i 0]).run=some (0,[.i (qd3 a b c),.i 0]):=by
 rw[qia]
 simp only[STD,qt4 h hc]
theorem qtc(a:Rat):qd3 a 0 0=sgq a:=by
 unfold qd3
 rw[show sgq 0=0 from rfl,Int.mul_zero,Int.mul_zero,if_pos (by omega)]
 split
 ·rename_i h;rw[h]
 ·rfl
theorem qxM{a b:Rat}{N D N' D':Nat}(ha:bnd N D a)(hb:bnd N' D' b)(c1:N+D'+1≤500)(c2:N'+D+1≤500)(c3:D+D'≤300):(u6 [.s (tQ a),.s (tQ b),.i 0]).run=some (0,[.i (sgq (a-b)),.i 0]):=by
 rw[qgd]
 have k:bnd 500 (D+D') (a-b):=ha.sub hb (by omega) (by omega)
 have hr:=quJ (a:=a-b) (b:=0) (c:=0) (RootOk.of k q5E q5E (by omega) (by omega)) (by decide)
 rw[qtc,show tQ 0=[48] from rfl] at hr
 simp only[STD,qoC ha hb (by omega) (by omega) (by omega),hr]
theorem qzn{a b:Rat}(ha:0≤a)(hb:0≤b):0≤a*b:=Rat.mul_nonneg ha hb
theorem qxy{a b:DQ}(ha:a.sh)(hb:b.sh)(na:0≤a.s)(nb:0≤b.s){k:Rat}(hk:bnd 1 1 k) :
  (wV [.s (tQ a.x),.s (tQ a.y),.s (tQ a.s),.s (tQ b.x),.s (tQ b.y),.s (tQ b.s),.s (tQ k),.i 0]).run=some (0,[.i (qmM a b k),.i 0]):=by
 rw[qhy]
 obtain⟨a1,a2,a3⟩:=ha
 obtain⟨b1,b2,b3⟩:=hb
 have f1:=qgl a1 a2 b1 b2
 have f2:=qxp a3 b3
 have f3:bnd 108 100 (qaZ a.x a.y b.x b.y-(a.s+b.s)):=f1.sub f2 (by omega) (by omega)
 have f4:bnd 26 20 (a.s*b.s):=a3.mul b3
 have hr:=quJ (RootOk.of f3 hk f4 (by omega) (by omega)) (qzn na nb)
 simp only[STD,qzR a1 a2 b1 b2,qu7 a3 b3 (by omega) (by omega) (by omega),qoC f1 f2 (by omega) (by omega) (by omega),qoo a3 b3 (by omega) (by omega),hr]
 rfl
theorem qnz:tQ 2=[50]:=qwZ 2
theorem qyG:tQ (-2)=[45,50]:=by
 have:(-2:Rat)=((-2:Int):Rat):=by simp
 rw[this,qut];rfl
def q3k(a b:DQ):Prop:=a.s≤b.s∧qmM a b 2≤0
instance (a b:DQ):Decidable (q3k a b):=by unfold q3k;infer_instance
theorem qiV(a b:Rat):(sgq (a-b)≤0)=(a≤b):=by rw[qt8];exact propext ⟨fun h=>by grind,fun h=>by grind⟩
theorem qey{a b:DQ}(ha:a.sh)(hb:b.sh)(na:0≤a.s)(nb:0≤b.s) :
  (qL [.s (tQ a.x),.s (tQ a.y),.s (tQ a.s),.s (tQ b.x),.s (tQ b.y),.s (tQ b.s),.i 0]).run=some (0,[.b (decide (q3k a b)),.i 0]):=by
 rw[qeR]
 have h1:=qxM ha.2.2 hb.2.2 (by omega) (by omega) (by omega)
 have h2:=qxy ha hb na nb qbs
 rw[qnz] at h2
 unfold q3k
 by_cases c:a.s≤b.s
 ·have e:(ile (qmM a b 2) 0)=decide (qmM a b 2≤0):=rfl
  simp only[STD,h1,qiV,c,h2,true_and,e]
 ·simp only[STD,h1,qiV,c,false_and];rfl
def qyd(a b:DQ):Int:=if q3k a b then 2 else if q3k b a then 3 else -qmM a b (-2)
theorem qxl(a b c:Rat):-1≤qd3 a b c∧qd3 a b c≤1:=by
 have h1:=q64 a
 have h2:=qyN (q64 b) (q64 c)
 have h3:=qyN h1 (q64 (a*a-b*b*c))
 unfold qd3
 split
 ·split
  ·exact h2
  ·exact h1
 ·exact h3
theorem qx2(a b:DQ)(k:Rat):-1≤qmM a b k∧qmM a b k≤1:=qxl _ _ _
theorem qyt{a b:DQ}(ha:a.sh)(hb:b.sh) :
  (q41 [.s (tQ a.x),.s (tQ a.y),.s (tQ a.s),.s (tQ b.x),.s (tQ b.y),.s (tQ b.s)]).run=some (0,[.i (qmM a b 2)]):=by
 obtain⟨a1,a2,a3⟩:=ha
 obtain⟨b1,b2,b3⟩:=hb
 have f1:=qgl a1 a2 b1 b2
 have f2:=qxp a3 b3
 have f3:bnd 108 100 (qaZ a.x a.y b.x b.y-(a.s+b.s)):=f1.sub f2 (by omega) (by omega)
 have f4:bnd 26 20 (a.s*b.s):=a3.mul b3
 have g1:=q3I (a3.sm (by omega) (by omega)) (b3.sm (by omega) (by omega))
 have g2:=q0b (f1.sm (by omega) (by omega)) (f2.sm (by omega) (by omega))
 have g3:=wu (a3.sm (by omega) (by omega)) (b3.sm (by omega) (by omega))
 have g4:=qjm (f3.sm (by omega) (by omega)) (qbs.sm (by omega) (by omega)) (f4.sm (by omega) (by omega))
 rw[qnz] at g4
 rw[qmC]
 simp only[STD,qA9 a1 a2 b1 b2,g1,g2,g3,g4]
 rfl
theorem qsS{a b:DQ}(ha:a.sh)(hb:b.sh) :
  (jL [.s (tQ a.x),.s (tQ a.y),.s (tQ a.s),.s (tQ b.x),.s (tQ b.y),.s (tQ b.s)]).run=some (0,[.b (decide (q3k a b))]):=by
 rw[qkH]
 have h1:=qyt ha hb
 have h2:=qgE (ha.2.2.sm (K:=100000) (by omega) (by omega)) (hb.2.2.sm (by omega) (by omega))
 have e:ile (sgq (a.s-b.s)) 0=decide (a.s≤b.s):=by unfold ile;simp only[qiV]
 unfold q3k
 by_cases c:qmM a b 2≤0
 ·simp only[STD,h1,c,h2,e,and_true]
 ·simp only[STD,h1,c,and_false];rfl
def shT(s:List UInt8):Prop:=s.length≤12
noncomputable def qu6(x y s:List UInt8):Int:=if qdO x≠0 then qdO x else if qdO y≠0 then qdO y else if qdO s≠0 then qdO s else if s.getD 0 0=45 then 2 else 0
theorem qzx{S:List PV→TR}{st:Nat→List PV}{e0 e1 e2:Int}{fin:List PV}
  (h0:(S (st 0)).run=if e0=0 then some (0,st 1) else some (2,[.i e0])) (h1:(S (st 1)).run=if e1=0 then some (0,st 2) else some (2,[.i e1])) (h2:(S (st 2)).run=if e2=0 then some (0,st 3) else some (2,[.i e2]))
  (h3:(S (st 3)).run=some (1,fin)):(qg S (st 0)).run=some (if e0≠0 then (1,[.i e0]) else if e1≠0 then (1,[.i e1]) else if e2≠0 then (1,[.i e2]) else (0,fin)):=by
 have hr:∃m,qdk=m+4:=⟨qdk-4,by unfold qdk;omega⟩
 obtain⟨m,hm⟩:=hr
 unfold qg
 rw[hm]
 by_cases c0:e0=0
 ·rw[if_pos c0] at h0
  rw[qex h0]
  by_cases c1:e1=0
  ·rw[if_pos c1] at h1
   rw[qex h1]
   by_cases c2:e2=0
   ·rw[if_pos c2] at h2
    rw[qex h2,q5W h3]
    simp[c0,c1,c2]
   ·rw[if_neg c2] at h2
    rw[q5W h2]
    simp[c0,c1,c2]
  ·rw[if_neg c1] at h1
   rw[q5W h1]
   simp[c0,c1]
 ·rw[if_neg c0] at h0
  rw[q5W h0]
  simp[c0]
theorem qbW(x y s:List UInt8)(h1:x.length≤1000000)(h2:y.length≤1000000)(h3:s.length≤1000000):(jB [.s x,.s y,.s s]).run=some (0,[.i (qu6 x y s)]):=by
  rw[qmJ]
  have c0:=q7A x (by omega)
  have c1:=q7A y (by omega)
  have c2:=q7A s (by omega)
  have d0:cS [[.s x],[.s y],[.s s]] 0 0=x:=rfl
  have d1:cS [[.s x],[.s y],[.s s]] 1 0=y:=rfl
  have d2:cS [[.s x],[.s y],[.s s]] 2 0=s:=rfl
  have d3:qt [[U.s x],[U.s y],[U.s s]]=3:=rfl
  have w0:qh .i64 0 1=1:=by decide
  have w1:qh .i64 1 1=2:=by decide
  have w2:qh .i64 2 1=3:=by decide
  have key:=qzx (S:=q1m) (st:=fun i=>[.i 3,.i (i:Int),.s x,.s y,.s s,.r [[.s x],[.s y],[.s s]]]) (e0:=qdO x) (e1:=qdO y) (e2:=qdO s) (fin:=[.s x,.s y,.s s])
    (by rw [q3b]; simp only [show (((0 : Nat)) : Int) = 0 from rfl, show (((1 : Nat)) : Int) = 1 from rfl, d0, d3]
        by_cases c:qdO x=0
        · simp only[STD,c0,c,w0,show (0:Int)<3 by omega,Int.le_refl,and_self]
        · simp only[STD,c0,c,show (0:Int)<3 by omega,Int.le_refl,and_self])
    (by rw [q3b]; simp only [show (((1 : Nat)) : Int) = 1 from rfl, show (((2 : Nat)) : Int) = 2 from rfl, d1, d3]
        by_cases c:qdO y=0
        · simp only[STD,c1,c,w1,show (1:Int)<3 by omega,show (0:Int)≤1 by omega,and_self]
        · simp only[STD,c1,c,show (1:Int)<3 by omega,show (0:Int)≤1 by omega,and_self])
    (by rw [q3b]; simp only [show (((2 : Nat)) : Int) = 2 from rfl, show (((3 : Nat)) : Int) = 3 from rfl, d2, d3]
        by_cases c:qdO s=0
        · simp only[STD,c2,c,w2,show (2:Int)<3 by omega,show (0:Int)≤2 by omega,and_self]
        · simp only[STD,c2,c,show (2:Int)<3 by omega,show (0:Int)≤2 by omega,and_self])
    (by rw[q3b];simp only[show (((3:Nat)):Int)=3 from rfl];simp only[STD,show ¬(3:Int)<3 by omega])
  simp only[show (((0:Nat)):Int)=0 from rfl] at key
  unfold qu6
  rw[d3]
  by_cases e0:qdO x=0
  · by_cases e1:qdO y=0
    · by_cases e2:qdO s=0
      · simp only[e0,e1,e2,ne_eq,not_true,if_false] at key ⊢
        obtain⟨q,hq,_⟩:=qlg e2
        have hl:(0:Int)<ql s:=by
          have h1:=qhS q
          have h2:=qjz q
          rw[hq];unfold ql;omega
        by_cases hm:s.getD 0 0=45
        · simp only[STD,key,qv key,Int.le_refl,hl,and_self,qgH,hm]
        · simp only[STD,key,qv key,Int.le_refl,hl,and_self,qgH,hm]
      · simp only[e0,e1,e2,ne_eq,not_true,not_false_eq_true,if_false,if_true] at key ⊢
        simp only[STD,key,qv key,show ¬(1=0) by omega]
    · simp only[e0,e1,ne_eq,not_true,not_false_eq_true,if_false,if_true] at key ⊢
      simp only[STD,key,qv key,show ¬(1=0) by omega]
  · simp only[e0,ne_eq,not_false_eq_true,if_true] at key ⊢
    simp only[STD,key,qv key,show ¬(1=0) by omega]
theorem qoW(x y s:List UInt8)(h1:x.length≤1000000)(h2:y.length≤1000000)(h3:s.length≤1000000):(q1H [.s x,.s y,.s s]).run=some (0,[.i (qu6 x y s)]):=by
  rw[qmN]
  have c0:=qcp x (by omega)
  have c1:=qcp y (by omega)
  have c2:=qcp s (by omega)
  have d0:cS [[.s x],[.s y],[.s s]] 0 0=x:=rfl
  have d1:cS [[.s x],[.s y],[.s s]] 1 0=y:=rfl
  have d2:cS [[.s x],[.s y],[.s s]] 2 0=s:=rfl
  have d3:qt [[U.s x],[U.s y],[U.s s]]=3:=rfl
  have w0:qh .i64 0 1=1:=by decide
  have w1:qh .i64 1 1=2:=by decide
  have w2:qh .i64 2 1=3:=by decide
  have key:=qzx (S:=q1E) (st:=fun i=>[.i 3,.i (i:Int),.s x,.s y,.s s,.r [[.s x],[.s y],[.s s]]]) (e0:=qdO x) (e1:=qdO y) (e2:=qdO s) (fin:=[.s x,.s y,.s s])
    (by rw [q37]; simp only [show (((0 : Nat)) : Int) = 0 from rfl, show (((1 : Nat)) : Int) = 1 from rfl, d0, d3]
        by_cases c:qdO x=0
        · simp only[STD,c0,c,w0,show (0:Int)<3 by omega,Int.le_refl,and_self]
        · simp only[STD,c0,c,show (0:Int)<3 by omega,Int.le_refl,and_self])
    (by rw [q37]; simp only [show (((1 : Nat)) : Int) = 1 from rfl, show (((2 : Nat)) : Int) = 2 from rfl, d1, d3]
        by_cases c:qdO y=0
        · simp only[STD,c1,c,w1,show (1:Int)<3 by omega,show (0:Int)≤1 by omega,and_self]
        · simp only[STD,c1,c,show (1:Int)<3 by omega,show (0:Int)≤1 by omega,and_self])
    (by rw [q37]; simp only [show (((2 : Nat)) : Int) = 2 from rfl, show (((3 : Nat)) : Int) = 3 from rfl, d2, d3]
        by_cases c:qdO s=0
        · simp only[STD,c2,c,w2,show (2:Int)<3 by omega,show (0:Int)≤2 by omega,and_self]
        · simp only[STD,c2,c,show (2:Int)<3 by omega,show (0:Int)≤2 by omega,and_self])
    (by rw[q37];simp only[show (((3:Nat)):Int)=3 from rfl];simp only[STD,show ¬(3:Int)<3 by omega])
  simp only[show (((0:Nat)):Int)=0 from rfl] at key
  unfold qu6
  rw[d3]
  by_cases e0:qdO x=0
  · by_cases e1:qdO y=0
    · by_cases e2:qdO s=0
      · simp only[e0,e1,e2,ne_eq,not_true,if_false] at key ⊢
        obtain⟨q,rfl,hok⟩:=qlg e2
        have hS:=q2C (a:=q) (q01 hok (by omega))
        by_cases hm:q<0
        · simp only[STD,key,qv key,hS,qnb,hm,qvq hm]
        · simp only[STD,key,qv key,hS,qnb,hm,qxh (show 0≤q by grind)]
      · simp only[e0,e1,e2,ne_eq,not_true,not_false_eq_true,if_false,if_true] at key ⊢
        simp only[STD,key,qv key,show ¬(1=0) by omega]
    · simp only[e0,e1,ne_eq,not_true,not_false_eq_true,if_false,if_true] at key ⊢
      simp only[STD,key,qv key,show ¬(1=0) by omega]
  · simp only[e0,ne_eq,not_false_eq_true,if_true] at key ⊢
    simp only[STD,key,qv key,show ¬(1=0) by omega]
theorem qyi{x y s:List UInt8}(h:qu6 x y s=0):∃d:DQ,x=tQ d.x∧y=tQ d.y∧s=tQ d.s∧okQ d.x∧okQ d.y∧okQ d.s∧0≤d.s:=by
 unfold qu6 at h
 by_cases e0:qdO x=0
 ·by_cases e1:qdO y=0
  ·by_cases e2:qdO s=0
   ·simp only[e0,e1,e2,ne_eq,not_true,if_false] at h
    obtain⟨qx,rfl,o1⟩:=qlg e0
    obtain⟨qy,rfl,o2⟩:=qlg e1
    obtain⟨qs,rfl,o3⟩:=qlg e2
    refine⟨⟨qx,qy,qs⟩,rfl,rfl,rfl,o1,o2,o3,?_⟩
    show 0≤qs
    by_cases hn:qs<0
    ·rw[qvq hn] at h;simp at h
    ·grind
   ·simp only[e0,e1,ne_eq,not_true,if_false,e2,not_false_eq_true,if_true] at h
  ·simp only[e0,ne_eq,not_true,if_false,e1,not_false_eq_true,if_true] at h
 ·simp only[ne_eq,e0,not_false_eq_true,if_true] at h
theorem qyE{d:DQ}(h1:okQ d.x)(h2:okQ d.y)(h3:okQ d.s)(h:0≤d.s):qu6 (tQ d.x) (tQ d.y) (tQ d.s)=0:=by
 unfold qu6
 rw[qon h1,qon h2,qon h3]
 have:=qxh h
 rw[if_neg (by simp),if_neg (by simp),if_neg (by simp),if_neg this]
end Go.Eng

namespace Go.Eng
def Bd(C e:Nat)(x:Int):Prop:=x.natAbs≤C*10^e
theorem Bd.mul{C e C' e':Nat}{x y:Int}(h:Bd C e x)(h':Bd C' e' y):Bd (C*C') (e+e') (x*y):=by
 unfold Bd at *
 rw[Int.natAbs_mul,Nat.pow_add]
 have:=Nat.mul_le_mul h h'
 have e1:C*10^e*(C'*10^e')=C*C'*(10^e*10^e'):=by
  rw[Nat.mul_mul_mul_comm]
 omega
theorem Bd.mono{C e C' e':Nat}{x:Int}(h:Bd C e x)(hC:C≤C')(he:e≤e'):Bd C' e' x:=by
 unfold Bd at *
 exact Nat.le_trans h (Nat.mul_le_mul hC (Nat.pow_le_pow_right (by omega) he))
theorem Bd.add{C C' e:Nat}{x y:Int}(h:Bd C e x)(h':Bd C' e y):Bd (C+C') e (x+y):=by
 unfold Bd at *
 rw[Nat.add_mul]
 have:=Int.natAbs_add_le x y
 omega
theorem Bd.neg{C e:Nat}{x:Int}(h:Bd C e x):Bd C e (-x):=by unfold Bd at *;rw[Int.natAbs_neg];exact h
theorem Bd.sub{C C' e:Nat}{x y:Int}(h:Bd C e x)(h':Bd C' e y):Bd (C+C') e (x-y):=by
 rw[Int.sub_eq_add_neg];exact h.add h'.neg
theorem Bd.okL{C e k:Nat}{x:Int}(h:Bd C e x)(hC:C≤10^k)(he:k+e≤1023)(hne:0<e+k):okL x:=by
 unfold Go.Eng.okL nl
 unfold Bd at h
 have h1:C*10^e≤10^k*10^e:=Nat.mul_le_mul_right _ hC
 rw[←Nat.pow_add] at h1
 have h2:(10:Nat)^(k+e)<10^(k+e+1):=Nat.pow_lt_pow_right (by omega) (by omega)
 have:=q3O (k+e) x.natAbs (by omega)
 omega
structure Wt (h v:Nat) (q:Rat):Prop where
 n:Bd 1 h q.num
 d:Bd 1 v (q.den:Int)
 dh:Bd 1 h (q.den:Int)
theorem qkc{q:Rat}{P M:Int}(hM:M≠0)(h:q*(M:Rat)=(P:Rat)):q.num.natAbs≤P.natAbs∧q.den≤M.natAbs:=by
 have hM':(M:Rat)≠0:=by
  intro e
  exact hM (Rat.intCast_inj.1 (e.trans (by simp)))
 have e:q=Rat.divInt P M:=by
  rw[Rat.divInt_eq_div,←h]
  exact(Rat.mul_div_cancel hM').symm
 rw[e]
 constructor
 ·rw[Rat.num_divInt]
  refine Nat.le_trans (Int.natAbs_ediv_le_natAbs _ _) ?_
  rw[Int.natAbs_mul,Int.natAbs_sign_of_ne_zero hM];omega
 ·rw[Rat.den_divInt,if_neg hM]
  exact Nat.div_le_self _ _
structure SQ where
 fx:Rat
 fy:Rat
 ax:Rat
 ay:Rat
 h:Rat
def j4(a b:DQ)(neg:Bool):SQ:=
 let dx:=b.x-a.x
 let dy:=b.y-a.y
 let far:=dx*dx+dy*dy
 let t:=(far+a.s-b.s)/(2*far)
 ⟨a.x+t*dx,a.y+t*dy,if neg then dy else 0-dy,if neg then 0-dx else dx,a.s/far-t*t⟩
def kA(d:DQ)(p:SQ):Rat:=(p.fx-d.x)*(p.fx-d.x)+(p.fy-d.y)*(p.fy-d.y)+p.h*(p.ax*p.ax+p.ay*p.ay)-d.s
def kB(d:DQ)(p:SQ):Rat:=2*((p.fx-d.x)*p.ax+(p.fy-d.y)*p.ay)
def q4A(d:DQ)(p:SQ):Prop:=qd3 (kA d p) (kB d p) p.h≤0
instance (d:DQ) (p:SQ):Decidable (q4A d p):=by unfold q4A;infer_instance
section
variable (a1 p1 b1 q1 c1 r1 a2 p2 b2 q2 c2 r2 a3 p3 b3 q3 c3 r3:Int)
def iU:Int:=a2*p1-a1*p2
def iN:Int:=iU a1 p1 a2 p2*iU a1 p1 a2 p2*((q1*q2)*(q1*q2))+iU b1 q1 b2 q2*iU b1 q1 b2 q2*((p1*p2)*(p1*p2))
def iD:Int:=(p1*p2*(q1*q2))*(p1*p2*(q1*q2))
def iT:Int:=iN a1 p1 b1 q1 a2 p2 b2 q2*(r1*r2)+(c1*r2-c2*r1)*iD p1 q1 p2 q2
def iE:Int:=a1*p3-a3*p1
def iG:Int:=iE a1 p1 a3 p3*iE a1 p1 a3 p3*((q1*q3)*(q1*q3))+iE b1 q1 b3 q3*iE b1 q1 b3 q3*((p1*p3)*(p1*p3))
def iH:Int:=iE a1 p1 a3 p3*iU a1 p1 a2 p2*((q1*q1)*(q2*q3))+iE b1 q1 b3 q3*iU b1 q1 b2 q2*((p1*p1)*(p2*p3))
def iSq:Int:=((p1*q1)*(p3*q3))*((p1*q1)*(p3*q3))
def iA:Int:=iG a1 p1 b1 q1 a3 p3 b3 q3*iN a1 p1 b1 q1 a2 p2 b2 q2*(r1*r2*r3)*(p2*q2)+iT a1 p1 b1 q1 c1 r1 a2 p2 b2 q2 c2 r2*iH a1 p1 b1 q1 a2 p2 b2 q2 a3 p3 b3 q3*r3*(p3*q3)
 + c1*iN a1 p1 b1 q1 a2 p2 b2 q2*(r2*r3)*iSq p1 q1 p3 q3*(p2*q2)-c3*iN a1 p1 b1 q1 a2 p2 b2 q2*(r1*r2)*iSq p1 q1 p3 q3*(p2*q2)
def iM:Int:=iN a1 p1 b1 q1 a2 p2 b2 q2*(r1*r2*r3)*iSq p1 q1 p3 q3*(p2*q2)
def iK:Int:=2*(iE b1 q1 b3 q3*iU a1 p1 a2 p2*(p3*q2)-iE a1 p1 a3 p3*iU b1 q1 b2 q2*(q3*p2))
def iQ:Int:=(p1*p2*p3)*(q1*q2*q3)
def iCn:Int:=4*(c1*iD p1 q1 p2 q2*iN a1 p1 b1 q1 a2 p2 b2 q2*r1*(r2*r2))-iT a1 p1 b1 q1 c1 r1 a2 p2 b2 q2 c2 r2*iT a1 p1 b1 q1 c1 r1 a2 p2 b2 q2 c2 r2
def iCd:Int:=4*(iN a1 p1 b1 q1 a2 p2 b2 q2*iN a1 p1 b1 q1 a2 p2 b2 q2)*((r1*r2)*(r1*r2))
end
section
variable {a1 p1 b1 q1 c1 r1 a2 p2 b2 q2 c2 r2 a3 p3 b3 q3 c3 r3:Int} {hx1 hy1 hs1 hx2 hy2 hs2 hx3 hy3 hs3 vx1 vy1 vs1 vx2 vy2 vs2 vx3 vy3 vs3:Nat}
theorem bU(h1:Bd 1 hx1 a1)(h2:Bd 1 hx1 p1)(h3:Bd 1 hx2 a2)(h4:Bd 1 hx2 p2):Bd 2 (hx1+hx2) (iU a1 p1 a2 p2):=
 ((h3.mul h2).mono (Nat.le_refl _) (by omega)).sub (h1.mul h4)
theorem bE(h1:Bd 1 hx1 a1)(h2:Bd 1 hx1 p1)(h3:Bd 1 hx3 a3)(h4:Bd 1 hx3 p3):Bd 2 (hx1+hx3) (iE a1 p1 a3 p3):=
 (h1.mul h4).sub ((h3.mul h2).mono (Nat.le_refl _) (by omega))
theorem bN(x1:Bd 1 hx1 a1)(x1':Bd 1 hx1 p1)(y1:Bd 1 hy1 b1)(y1':Bd 1 hy1 q1)(x2:Bd 1 hx2 a2)(x2':Bd 1 hx2 p2)(y2:Bd 1 hy2 b2)(y2':Bd 1 hy2 q2) :
  Bd 8 (2*(hx1+hx2+hy1+hy2)) (iN a1 p1 b1 q1 a2 p2 b2 q2):=by
 have u:=bU x1 x1' x2 x2'
 have v:=bU y1 y1' y2 y2'
 have qq:=y1'.mul y2'
 have pp:=x1'.mul x2'
 exact(((u.mul u).mul (qq.mul qq)).mono (C':=4) (by omega) (by omega)).add (((v.mul v).mul (pp.mul pp)).mono (C':=4) (by omega) (by omega))
theorem bD(x1':Bd 1 hx1 p1)(y1':Bd 1 hy1 q1)(x2':Bd 1 hx2 p2)(y2':Bd 1 hy2 q2):Bd 1 (2*(hx1+hx2+hy1+hy2)) (iD p1 q1 p2 q2):=by
 have z:=(x1'.mul x2').mul (y1'.mul y2')
 exact(z.mul z).mono (by omega) (by omega)
theorem bT(x1:Bd 1 hx1 a1)(x1':Bd 1 hx1 p1)(y1:Bd 1 hy1 b1)(y1':Bd 1 hy1 q1)(x2:Bd 1 hx2 a2)(x2':Bd 1 hx2 p2)(y2:Bd 1 hy2 b2)(y2':Bd 1 hy2 q2)
  (s1:Bd 1 hs1 c1) (s1':Bd 1 hs1 r1) (s2:Bd 1 hs2 c2) (s2':Bd 1 hs2 r2):Bd 10 (2*(hx1+hx2+hy1+hy2)+hs1+hs2) (iT a1 p1 b1 q1 c1 r1 a2 p2 b2 q2 c2 r2):=by
 have n:=bN x1 x1' y1 y1' x2 x2' y2 y2'
 have d:=bD x1' y1' x2' y2'
 have s:=(s1.mul s2').sub ((s2.mul s1').mono (Nat.le_refl _) (by omega))
 exact((n.mul (s1'.mul s2')).mono (C':=8) (by omega) (by omega)).add ((s.mul d).mono (C':=2) (by omega) (by omega))
theorem bG(x1:Bd 1 hx1 a1)(x1':Bd 1 hx1 p1)(y1:Bd 1 hy1 b1)(y1':Bd 1 hy1 q1)(x3:Bd 1 hx3 a3)(x3':Bd 1 hx3 p3)(y3:Bd 1 hy3 b3)(y3':Bd 1 hy3 q3) :
  Bd 8 (2*(hx1+hx3+hy1+hy3)) (iG a1 p1 b1 q1 a3 p3 b3 q3):=by
 have u:=bE x1 x1' x3 x3'
 have v:=bE y1 y1' y3 y3'
 have qq:=y1'.mul y3'
 have pp:=x1'.mul x3'
 exact(((u.mul u).mul (qq.mul qq)).mono (C':=4) (by omega) (by omega)).add (((v.mul v).mul (pp.mul pp)).mono (C':=4) (by omega) (by omega))
theorem bH(x1:Bd 1 hx1 a1)(x1':Bd 1 hx1 p1)(y1:Bd 1 hy1 b1)(y1':Bd 1 hy1 q1)(x2:Bd 1 hx2 a2)(x2':Bd 1 hx2 p2)(y2:Bd 1 hy2 b2)(y2':Bd 1 hy2 q2)
  (x3:Bd 1 hx3 a3) (x3':Bd 1 hx3 p3) (y3:Bd 1 hy3 b3) (y3':Bd 1 hy3 q3):Bd 8 (2*hx1+hx2+hx3+2*hy1+hy2+hy3) (iH a1 p1 b1 q1 a2 p2 b2 q2 a3 p3 b3 q3):=by
 have u:=bU x1 x1' x2 x2'
 have v:=bU y1 y1' y2 y2'
 have e:=bE x1 x1' x3 x3'
 have f:=bE y1 y1' y3 y3'
 exact(((e.mul u).mul ((y1'.mul y1').mul (y2'.mul y3'))).mono (C':=4) (by omega) (by omega)).add (((f.mul v).mul ((x1'.mul x1').mul (x2'.mul x3'))).mono (C':=4) (by omega) (by omega))
theorem bSq(x1':Bd 1 hx1 p1)(y1':Bd 1 hy1 q1)(x3':Bd 1 hx3 p3)(y3':Bd 1 hy3 q3):Bd 1 (2*(hx1+hx3+hy1+hy3)) (iSq p1 q1 p3 q3):=by
 have z:=(x1'.mul y1').mul (x3'.mul y3')
 exact(z.mul z).mono (by omega) (by omega)
theorem bA(x1:Bd 1 hx1 a1)(x1':Bd 1 hx1 p1)(y1:Bd 1 hy1 b1)(y1':Bd 1 hy1 q1)(x2:Bd 1 hx2 a2)(x2':Bd 1 hx2 p2)(y2:Bd 1 hy2 b2)(y2':Bd 1 hy2 q2)
  (x3:Bd 1 hx3 a3) (x3':Bd 1 hx3 p3) (y3:Bd 1 hy3 b3) (y3':Bd 1 hy3 q3) (s1:Bd 1 hs1 c1) (s1':Bd 1 hs1 r1) (s2:Bd 1 hs2 c2) (s2':Bd 1 hs2 r2) (s3:Bd 1 hs3 c3) (s3':Bd 1 hs3 r3) :
  Bd 160 (4*hx1+3*hx2+2*hx3+4*hy1+3*hy2+2*hy3+hs1+hs2+hs3) (iA a1 p1 b1 q1 c1 r1 a2 p2 b2 q2 c2 r2 a3 p3 b3 q3 c3 r3):=by
 have g:=bG x1 x1' y1 y1' x3 x3' y3 y3'
 have n:=bN x1 x1' y1 y1' x2 x2' y2 y2'
 have t:=bT x1 x1' y1 y1' x2 x2' y2 y2' s1 s1' s2 s2'
 have h:=bH x1 x1' y1 y1' x2 x2' y2 y2' x3 x3' y3 y3'
 have sq:=bSq x1' y1' x3' y3'
 have k1:=(((g.mul n).mul ((s1'.mul s2').mul s3')).mul (x2'.mul y2')).mono (C':=64) (e':=4*hx1+3*hx2+2*hx3+4*hy1+3*hy2+2*hy3+hs1+hs2+hs3) (by omega) (by omega)
 have k2:=(((t.mul h).mul s3').mul (x3'.mul y3')).mono (C':=80) (e':=4*hx1+3*hx2+2*hx3+4*hy1+3*hy2+2*hy3+hs1+hs2+hs3) (by omega) (by omega)
 have k3:=((((s1.mul n).mul (s2'.mul s3')).mul sq).mul (x2'.mul y2')).mono (C':=8) (e':=4*hx1+3*hx2+2*hx3+4*hy1+3*hy2+2*hy3+hs1+hs2+hs3) (by omega) (by omega)
 have k4:=((((s3.mul n).mul (s1'.mul s2')).mul sq).mul (x2'.mul y2')).mono (C':=8) (e':=4*hx1+3*hx2+2*hx3+4*hy1+3*hy2+2*hy3+hs1+hs2+hs3) (by omega) (by omega)
 exact((k1.add k2).add k3).sub k4
theorem bM(x1:Bd 1 hx1 a1)(x1':Bd 1 hx1 p1)(y1:Bd 1 hy1 b1)(y1':Bd 1 hy1 q1)(x2:Bd 1 hx2 a2)(x2':Bd 1 hx2 p2)(y2:Bd 1 hy2 b2)(y2':Bd 1 hy2 q2)
  (wx1:Bd 1 vx1 p1) (wy1:Bd 1 vy1 q1) (wx2:Bd 1 vx2 p2) (wy2:Bd 1 vy2 q2) (wx3:Bd 1 vx3 p3) (wy3:Bd 1 vy3 q3) (ws1:Bd 1 vs1 r1) (ws2:Bd 1 vs2 r2) (ws3:Bd 1 vs3 r3) :
  Bd 8 (2*(hx1+hx2+hy1+hy2)+(vs1+vs2+vs3)+2*(vx1+vx3+vy1+vy3)+(vx2+vy2)) (iM a1 p1 b1 q1 r1 a2 p2 b2 q2 r2 p3 q3 r3):=by
 have n:=bN x1 x1' y1 y1' x2 x2' y2 y2'
 have sq:=bSq wx1 wy1 wx3 wy3
 exact(((n.mul ((ws1.mul ws2).mul ws3)).mul sq).mul (wx2.mul wy2)).mono (by omega) (by omega)
theorem bK(x1:Bd 1 hx1 a1)(x1':Bd 1 hx1 p1)(y1:Bd 1 hy1 b1)(y1':Bd 1 hy1 q1)(x2:Bd 1 hx2 a2)(x2':Bd 1 hx2 p2)(y2:Bd 1 hy2 b2)(y2':Bd 1 hy2 q2)
  (x3:Bd 1 hx3 a3) (x3':Bd 1 hx3 p3) (y3:Bd 1 hy3 b3) (y3':Bd 1 hy3 q3):Bd 16 (hx1+hx2+hx3+hy1+hy2+hy3) (iK a1 p1 b1 q1 a2 p2 b2 q2 a3 p3 b3 q3):=by
 have u:=bU x1 x1' x2 x2'
 have v:=bU y1 y1' y2 y2'
 have e:=bE x1 x1' x3 x3'
 have f:=bE y1 y1' y3 y3'
 have two:Bd 2 0 2:=by unfold Bd;decide
 have k1:=((f.mul u).mul (x3'.mul y2')).mono (C':=4) (e':=hx1+hx2+hx3+hy1+hy2+hy3) (by omega) (by omega)
 have k2:=((e.mul v).mul (y3'.mul x2')).mono (C':=4) (e':=hx1+hx2+hx3+hy1+hy2+hy3) (by omega) (by omega)
 exact(two.mul (k1.sub k2)).mono (by omega) (by omega)
theorem bQ(wx1:Bd 1 vx1 p1)(wy1:Bd 1 vy1 q1)(wx2:Bd 1 vx2 p2)(wy2:Bd 1 vy2 q2)(wx3:Bd 1 vx3 p3)(wy3:Bd 1 vy3 q3):Bd 1 (vx1+vx2+vx3+(vy1+vy2+vy3)) (iQ p1 q1 p2 q2 p3 q3):=
 (((wx1.mul wx2).mul wx3).mul ((wy1.mul wy2).mul wy3)).mono (by omega) (by omega)
theorem bCn(x1:Bd 1 hx1 a1)(x1':Bd 1 hx1 p1)(y1:Bd 1 hy1 b1)(y1':Bd 1 hy1 q1)(x2:Bd 1 hx2 a2)(x2':Bd 1 hx2 p2)(y2:Bd 1 hy2 b2)(y2':Bd 1 hy2 q2)
  (s1:Bd 1 hs1 c1) (s1':Bd 1 hs1 r1) (s2:Bd 1 hs2 c2) (s2':Bd 1 hs2 r2):Bd 132 (4*(hx1+hx2+hy1+hy2)+2*hs1+2*hs2) (iCn a1 p1 b1 q1 c1 r1 a2 p2 b2 q2 c2 r2):=by
 have n:=bN x1 x1' y1 y1' x2 x2' y2 y2'
 have d:=bD x1' y1' x2' y2'
 have t:=bT x1 x1' y1 y1' x2 x2' y2 y2' s1 s1' s2 s2'
 have four:Bd 4 0 4:=by unfold Bd;decide
 have k1:=(four.mul ((((s1.mul d).mul n).mul s1').mul (s2'.mul s2'))).mono (C':=32) (e':=4*(hx1+hx2+hy1+hy2)+2*hs1+2*hs2) (by omega) (by omega)
 have k2:=(t.mul t).mono (C':=100) (e':=4*(hx1+hx2+hy1+hy2)+2*hs1+2*hs2) (by omega) (by omega)
 exact k1.sub k2
theorem bCd(x1:Bd 1 hx1 a1)(x1':Bd 1 hx1 p1)(y1:Bd 1 hy1 b1)(y1':Bd 1 hy1 q1)(x2:Bd 1 hx2 a2)(x2':Bd 1 hx2 p2)(y2:Bd 1 hy2 b2)(y2':Bd 1 hy2 q2)
  (ws1:Bd 1 vs1 r1) (ws2:Bd 1 vs2 r2):Bd 256 (4*(hx1+hx2+hy1+hy2)+2*vs1+2*vs2) (iCd a1 p1 b1 q1 r1 a2 p2 b2 q2 r2):=by
 have n:=bN x1 x1' y1 y1' x2 x2' y2 y2'
 have four:Bd 4 0 4:=by unfold Bd;decide
 exact((four.mul (n.mul n)).mul ((ws1.mul ws2).mul (ws1.mul ws2))).mono (by omega) (by omega)
end
section
variable (a b d:DQ)
theorem qsM(q:Rat):(q.den:Rat)≠0:=by have:=q1P q;grind
theorem qqS(neg:Bool)(hf:(b.x-a.x)*(b.x-a.x)+(b.y-a.y)*(b.y-a.y)≠0) :
  kA d (j4 a b neg)*((iM a.x.num a.x.den a.y.num a.y.den a.s.den b.x.num b.x.den b.y.num b.y.den b.s.den d.x.den d.y.den d.s.den:Int):Rat)=((iA a.x.num a.x.den a.y.num a.y.den a.s.num a.s.den b.x.num b.x.den b.y.num b.y.den b.s.num b.s.den d.x.num d.x.den d.y.num d.y.den d.s.num d.s.den:Int):Rat) ∧
  kB d (j4 a b neg)*((iQ a.x.den a.y.den b.x.den b.y.den d.x.den d.y.den:Int):Rat)=(((if neg then -1 else 1)*iK a.x.num a.x.den a.y.num a.y.den b.x.num b.x.den b.y.num b.y.den d.x.num d.x.den d.y.num d.y.den:Int):Rat) ∧
  (j4 a b neg).h*((iCd a.x.num a.x.den a.y.num a.y.den a.s.den b.x.num b.x.den b.y.num b.y.den b.s.den:Int):Rat)=((iCn a.x.num a.x.den a.y.num a.y.den a.s.num a.s.den b.x.num b.x.den b.y.num b.y.den b.s.num b.s.den:Int):Rat) ∧
  iN a.x.num a.x.den a.y.num a.y.den b.x.num b.x.den b.y.num b.y.den≠0:=by
 obtain⟨far,hfar⟩:∃far,far=(b.x-a.x)*(b.x-a.x)+(b.y-a.y)*(b.y-a.y):=⟨_,rfl⟩
 obtain⟨t,ht⟩:∃t,t=(far+a.s-b.s)/(2*far):=⟨_,rfl⟩
 obtain⟨h,hh⟩:∃h,h=a.s/far-t*t:=⟨_,rfl⟩
 rw[←hfar] at hf
 have h2f:2*far≠0:=by grind
 have ht':2*far*t=far+a.s-b.s:=by
  rw[ht,Rat.mul_comm];exact Rat.div_mul_cancel h2f
 have hh':far*h=a.s-far*(t*t):=by
  have:a.s/far*far=a.s:=Rat.div_mul_cancel hf
  rw[hh];grind
 have hc:j4 a b neg=⟨a.x+t*(b.x-a.x),a.y+t*(b.y-a.y),if neg then b.y-a.y else 0-(b.y-a.y),if neg then 0-(b.x-a.x) else b.x-a.x,h⟩:=by
  rw[hh,ht,hfar];rfl
 rw[hc]
 have nx1:=qcs a.x
 have ny1:=qcs a.y
 have ns1:=qcs a.s
 have nx2:=qcs b.x
 have ny2:=qcs b.y
 have ns2:=qcs b.s
 have nx3:=qcs d.x
 have ny3:=qcs d.y
 have ns3:=qcs d.s
 have px1:=qsM a.x
 have py1:=qsM a.y
 have px2:=qsM b.x
 have py2:=qsM b.y
 obtain⟨x1,y1,s1⟩:=a
 obtain⟨x2,y2,s2⟩:=b
 obtain⟨x3,y3,s3⟩:=d
 simp only at *
 have hU:((iU x1.num x1.den x2.num x2.den:Int):Rat)=(x2-x1)*((x1.den:Rat)*x2.den):=by
  unfold iU;simp only[Rat.intCast_sub,Rat.intCast_mul,Rat.intCast_natCast,nx1,nx2];grind
 have hV:((iU y1.num y1.den y2.num y2.den:Int):Rat)=(y2-y1)*((y1.den:Rat)*y2.den):=by
  unfold iU;simp only[Rat.intCast_sub,Rat.intCast_mul,Rat.intCast_natCast,ny1,ny2];grind
 have hE:((iE x1.num x1.den x3.num x3.den:Int):Rat)=(x1-x3)*((x1.den:Rat)*x3.den):=by
  unfold iE;simp only[Rat.intCast_sub,Rat.intCast_mul,Rat.intCast_natCast,nx1,nx3];grind
 have hF:((iE y1.num y1.den y3.num y3.den:Int):Rat)=(y1-y3)*((y1.den:Rat)*y3.den):=by
  unfold iE;simp only[Rat.intCast_sub,Rat.intCast_mul,Rat.intCast_natCast,ny1,ny3];grind
 have hD:((iD x1.den y1.den x2.den y2.den:Int):Rat)=((x1.den:Rat)*x2.den*(y1.den*y2.den))*((x1.den:Rat)*x2.den*(y1.den*y2.den)):=by
  unfold iD;simp only[Rat.intCast_mul,Rat.intCast_natCast]
 have hN:((iN x1.num x1.den y1.num y1.den x2.num x2.den y2.num y2.den:Int):Rat)=far*(((x1.den:Rat)*x2.den*(y1.den*y2.den))*((x1.den:Rat)*x2.den*(y1.den*y2.den))):=by
  unfold iN;simp only[Rat.intCast_add,Rat.intCast_mul,Rat.intCast_natCast,hU,hV,hfar];grind
 have hN0:iN x1.num x1.den y1.num y1.den x2.num x2.den y2.num y2.den≠0:=by
  intro e
  rw[e] at hN
  have h1:(x1.den:Rat)*x2.den*(y1.den*y2.den)≠0:=by
   have:=Rat.mul_pos (Rat.mul_pos (q1P x1) (q1P x2)) (Rat.mul_pos (q1P y1) (q1P y2))
   grind
  have h2:far*(((x1.den:Rat)*x2.den*(y1.den*y2.den))*((x1.den:Rat)*x2.den*(y1.den*y2.den)))=0:=by rw[←hN];simp
  rcases Rat.mul_eq_zero.1 h2 with h3|h3
  ·exact hf h3
  ·rcases Rat.mul_eq_zero.1 h3 with h4|h4<;>exact h1 h4
 have hT:((iT x1.num x1.den y1.num y1.den s1.num s1.den x2.num x2.den y2.num y2.den s2.num s2.den:Int):Rat)=2*t*far*(((x1.den:Rat)*x2.den*(y1.den*y2.den))*((x1.den:Rat)*x2.den*(y1.den*y2.den)))*((s1.den:Rat)*s2.den):=by
  unfold iT;simp only[Rat.intCast_add,Rat.intCast_sub,Rat.intCast_mul,Rat.intCast_natCast,hN,hD,ns1,ns2]
  generalize ((x1.den:Rat)*x2.den*(y1.den*y2.den))*((x1.den:Rat)*x2.den*(y1.den*y2.den))=D2
  have:2*t*far*D2*((s1.den:Rat)*s2.den)=(2*far*t)*(D2*((s1.den:Rat)*s2.den)):=by grind
  rw[this,ht'];grind
 have hG:((iG x1.num x1.den y1.num y1.den x3.num x3.den y3.num y3.den:Int):Rat)=((x1-x3)*(x1-x3)+(y1-y3)*(y1-y3))*(((x1.den:Rat)*y1.den*(x3.den*y3.den))*((x1.den:Rat)*y1.den*(x3.den*y3.den))):=by
  unfold iG;simp only[Rat.intCast_add,Rat.intCast_mul,Rat.intCast_natCast,hE,hF];grind
 have hH:((iH x1.num x1.den y1.num y1.den x2.num x2.den y2.num y2.den x3.num x3.den y3.num y3.den:Int):Rat)=((x1-x3)*(x2-x1)+(y1-y3)*(y2-y1))*(((x1.den:Rat)*x1.den*(x2.den*x3.den))*((y1.den:Rat)*y1.den*(y2.den*y3.den))):=by
  unfold iH;simp only[Rat.intCast_add,Rat.intCast_mul,Rat.intCast_natCast,hE,hF,hU,hV];grind
 have hSq:((iSq x1.den y1.den x3.den y3.den:Int):Rat)=((x1.den:Rat)*y1.den*(x3.den*y3.den))*((x1.den:Rat)*y1.den*(x3.den*y3.den)):=by
  unfold iSq;simp only[Rat.intCast_mul,Rat.intCast_natCast]
 refine⟨?_,?_,?_,hN0⟩
 ·unfold iM iA
  simp only[Rat.intCast_add,Rat.intCast_sub,Rat.intCast_mul,Rat.intCast_natCast,hN,hT,hG,hH,hSq,ns1,ns3]
  have hA:kA ⟨x3,y3,s3⟩ ⟨x1+t*(x2-x1),y1+t*(y2-y1),if neg then y2-y1 else 0-(y2-y1),if neg then 0-(x2-x1) else x2-x1,h⟩=(x1-x3)*(x1-x3)+(y1-y3)*(y1-y3)+2*t*((x1-x3)*(x2-x1)+(y1-y3)*(y2-y1))+s1-s3:=by
   have e1:kA ⟨x3,y3,s3⟩ ⟨x1+t*(x2-x1),y1+t*(y2-y1),if neg then y2-y1 else 0-(y2-y1),if neg then 0-(x2-x1) else x2-x1,h⟩=(x1-x3)*(x1-x3)+(y1-y3)*(y1-y3)+2*t*((x1-x3)*(x2-x1)+(y1-y3)*(y2-y1))+far*(t*t)+far*h-s3:=by
    unfold kA
    rw[hfar]
    cases neg
    ·simp only[Bool.false_eq_true,if_false];grind
    ·simp only[if_true];grind
   rw[e1,hh'];grind
  rw[hA]
  generalize (x1-x3)*(x1-x3)+(y1-y3)*(y1-y3)=e2
  generalize (x1-x3)*(x2-x1)+(y1-y3)*(y2-y1)=ed
  generalize (x1.den:Rat)=P1
  generalize (x2.den:Rat)=P2
  generalize (x3.den:Rat)=P3
  generalize (y1.den:Rat)=Q1
  generalize (y2.den:Rat)=Q2
  generalize (y3.den:Rat)=Q3
  generalize (s1.den:Rat)=R1
  generalize (s2.den:Rat)=R2
  generalize (s3.den:Rat)=R3
  clear hU hV hE hF hD hN hN0 hT hG hH hSq nx1 nx2 nx3 ny1 ny2 ny3 ns1 ns2 ns3 px1 px2 py1 py2 hf h2f ht' hh' hc hfar
  grind
 ·unfold iQ iK kB
  simp only[Rat.intCast_sub,Rat.intCast_mul,Rat.intCast_natCast,hE,hF,hU,hV]
  cases neg
  ·simp only[Bool.false_eq_true,if_false]
   simp
   grind
  ·simp only[if_true]
   simp
   grind
 ·unfold iCd iCn
  simp only[Rat.intCast_sub,Rat.intCast_mul,Rat.intCast_natCast,hN,hT,hD,ns1]
  generalize ((x1.den:Rat)*x2.den*(y1.den*y2.den))*((x1.den:Rat)*x2.den*(y1.den*y2.den))=D2
  generalize (s1.den:Rat)=R1
  generalize (s2.den:Rat)=R2
  have e:s1=far*h+far*(t*t):=by rw[hh'];grind
  have f4:((4:Int):Rat)=4:=by simp
  rw[f4,e]
  clear hU hV hE hF hD hN hN0 hT hG hH hSq nx1 nx2 nx3 ny1 ny2 ny3 ns1 ns2 ns3 px1 px2 py1 py2 hf h2f ht' hh' hc hfar
  grind
end
end Go.Eng

namespace Go.Eng
def pw(d:DQ)(x y:Rat):Rat:=(x-d.x)*(x-d.x)+(y-d.y)*(y-d.y)-d.s
def qzX(l:List DQ):Prop:=∃x y:Rat,∀d∈l,pw d x y≤0
theorem qzX.mono{l l':List DQ}(h:qzX l)(hs:∀d∈l',d∈l):qzX l':=by
 obtain⟨x,y,h⟩:=h
 exact⟨x,y,fun d hd=>h d (hs d hd)⟩
end Go.Eng

namespace Go.Eng
theorem hit{ι:Type}(al be:ι→Rat):∀(L:List ι),(∀k∈L,al k≤0)→(∃k∈L,0<be k)→∃t,0≤t∧(∀k∈L,al k+be k*t≤0)∧∃b∈L,0<be b∧al b+be b*t=0
 | [],_,h=>by obtain⟨k,hk,_⟩:=h;cases hk
 | a::L,h0,h1=>by
  have hLn:∀k∈L,al k≤0:=fun k hk=>h0 k (List.mem_cons_of_mem _ hk)
  have ha0:=h0 a List.mem_cons_self
  by_cases ha:0<be a
  ·obtain⟨ta,hta⟩:∃ta,ta=-al a/be a:=⟨_,rfl⟩
   have eta:ta*be a=-al a:=by rw[hta];exact Rat.div_mul_cancel (by grind)
   have ta0:0≤ta:=by
    apply Rat.not_lt.1;intro hn
    have:=Rat.mul_pos (show 0 < -ta by grind) ha
    grind
   have own:al a+be a*ta=0:=by grind
   by_cases hL:∃k∈L,0<be k
   ·obtain⟨t,k1,k2,b,hb,k3,k4⟩:=hit al be L hLn hL
    rcases Rat.le_total (a:=t) (b:=ta) with hle|hle
    ·refine⟨t,k1,fun k hk=>?_,b,List.mem_cons_of_mem _ hb,k3,k4⟩
     rcases List.mem_cons.1 hk with rfl|hk
     ·have:=Rat.mul_nonneg (show 0≤be k by grind) (show 0≤ta-t by grind);grind
     ·exact k2 k hk
    ·refine⟨ta,ta0,fun k hk=>?_,a,List.mem_cons_self,ha,own⟩
     rcases List.mem_cons.1 hk with rfl|hk
     ·grind
     ·rcases Rat.le_total (a:=0) (b:=be k) with hb|hb
      ·have:=Rat.mul_nonneg hb (show 0≤t-ta by grind);have:=k2 k hk;grind
      ·have:=Rat.mul_nonneg (show 0≤-be k by grind) ta0;have:=hLn k hk;grind
   ·refine⟨ta,ta0,fun k hk=>?_,a,List.mem_cons_self,ha,own⟩
    rcases List.mem_cons.1 hk with rfl|hk
    ·grind
    ·have hb:be k≤0:=Rat.not_lt.1 fun hn=>hL ⟨k,hk,hn⟩
     have:=Rat.mul_nonneg (show 0≤-be k by grind) ta0;have:=hLn k hk;grind
  ·have hL:∃k∈L,0<be k:=by
    obtain⟨k,hk,h⟩:=h1
    rcases List.mem_cons.1 hk with rfl|hk
    ·exact absurd h ha
    ·exact⟨k,hk,h⟩
   obtain⟨t,k1,k2,b,hb,k3,k4⟩:=hit al be L hLn hL
   refine⟨t,k1,fun k hk=>?_,b,List.mem_cons_of_mem _ hb,k3,k4⟩
   rcases List.mem_cons.1 hk with rfl|hk
   ·have:=Rat.mul_nonneg (show 0≤-be k by grind) k1;grind
   ·exact k2 k hk
theorem qtA(a b:DQ):(j4 a b true).ax=-(j4 a b false).ax∧(j4 a b true).ay=-(j4 a b false).ay:=by
 unfold j4
 simp only[Bool.false_eq_true,if_false,if_true]
 exact⟨by grind,by grind⟩
end Go.Eng

namespace Go.Eng
def cls(q:Rat):Prop:=(qn q≤12∧q.den=1)∨(qn q≤10∧qd q≤10)
def qzL(q:Rat):Prop:=qn q≤13∧qd q≤10
structure GD (d:DQ):Prop where
 x:cls d.x
 y:cls d.y
 s:qzL d.s
 nn:0≤d.s
theorem Bd.of_nl{m:Int}{k:Nat}(h:nl m≤k):Bd 1 k m:=by
 unfold Bd
 have:=qz0 h
 omega
theorem Bd.of_le{C e:Nat}{x y:Int}(h:Bd C e y)(hxy:x.natAbs≤y.natAbs):Bd C e x:=Nat.le_trans hxy h
theorem qne{q:Rat}(h:cls q):∃u v,Wt u v q∧((u=12∧v=0)∨(u=10∧v=10)):=by
 rcases h with⟨h1,h2⟩|⟨h1,h2⟩
 ·refine⟨12,0,⟨Bd.of_nl h1,?_,?_⟩,.inl ⟨rfl,rfl⟩⟩
  ·unfold Bd;rw[h2];decide
  ·unfold Bd;rw[h2];decide
 ·exact⟨10,10,⟨Bd.of_nl h1,Bd.of_nl (m:=(q.den:Int)) h2,Bd.of_nl (m:=(q.den:Int)) h2⟩,.inr ⟨rfl,rfl⟩⟩
theorem qzD{q:Rat}(h:cls q):qzL q:=by
 rcases h with⟨h1,h2⟩|⟨h1,h2⟩
 ·exact⟨by omega,by unfold qd;rw[h2];decide⟩
 ·exact⟨by omega,h2⟩
theorem qri{q:Rat}(h:qzL q):∃u v,Wt u v q∧u=13∧v=10:=
 ⟨13,10,⟨Bd.of_nl h.1,Bd.of_nl (m:=(q.den:Int)) h.2,(Bd.of_nl (m:=(q.den:Int)) h.2).mono (by omega) (by omega)⟩,rfl,rfl⟩
theorem zk{q:Rat}(h:cls q):bnd 12 10 q:=by
 rcases h with⟨h1,h2⟩|⟨h1,h2⟩
 ·exact⟨h1,by unfold qd;rw[h2];decide⟩
 ·exact⟨by omega,h2⟩
theorem q35{q:Rat}(h:qzL q):bnd 13 10 q:=h
theorem GD.sh{d:DQ}(h:GD d):d.sh:=⟨zk h.x,zk h.y,q35 h.s⟩
theorem qqR{q:Rat}(h:shT (tQ q)):cls q:=by
 unfold shT at h
 obtain⟨h1,h2⟩:=qhS q
 have h3:=qjz q
 have h4:=qqr q
 rcases h2 with h2|h2
 ·exact .inl ⟨by omega,h2⟩
 ·exact .inr ⟨by omega,by omega⟩
theorem qu3{a b d:DQ}(ga:GD a)(gb:GD b)(gd:GD d)(neg:Bool)(hf:(b.x-a.x)*(b.x-a.x)+(b.y-a.y)*(b.y-a.y)≠0)(oa:okQ (kA d (j4 a b neg)))(ob:okQ (kB d (j4 a b neg)))(oc:okQ (j4 a b neg).h) :
  RootOk (kA d (j4 a b neg)) (kB d (j4 a b neg)) (j4 a b neg).h:=by
 obtain⟨f1,f2,f3,f4⟩:=qqS a b d neg hf
 generalize kA d (j4 a b neg)=A at *
 generalize kB d (j4 a b neg)=B at *
 generalize (j4 a b neg).h=H at *
 obtain⟨hx1,vx1,wx1,ex1⟩:=qne ga.x
 obtain⟨hy1,vy1,wy1,ey1⟩:=qne ga.y
 obtain⟨hs1,vs1,ws1,es1⟩:=qri ga.s
 obtain⟨hx2,vx2,wx2,ex2⟩:=qne gb.x
 obtain⟨hy2,vy2,wy2,ey2⟩:=qne gb.y
 obtain⟨hs2,vs2,ws2,es2⟩:=qri gb.s
 obtain⟨hx3,vx3,wx3,ex3⟩:=qne gd.x
 obtain⟨hy3,vy3,wy3,ey3⟩:=qne gd.y
 obtain⟨hs3,vs3,ws3,es3⟩:=qri gd.s
 have k1:8*hx1+vx1≤96∧14*hx1+4*vx1≤180:=by omega
 have k2:8*hy1+vy1≤96∧14*hy1+4*vy1≤180:=by omega
 have k3:7*hx2+vx2≤84∧14*hx2+2*vx2≤168:=by omega
 have k4:7*hy2+vy2≤84∧14*hy2+2*vy2≤168:=by omega
 have k5:2*hx3+vx3≤30∧2*hx3+4*vx3≤60:=by omega
 have k6:2*hy3+vy3≤30∧2*hy3+4*vy3≤60:=by omega
 have k7:hs1+2*vs1≤33∧2*hs1+4*vs1≤66:=by omega
 have k8:hs2+2*vs2≤33∧2*hs2+4*vs2≤66:=by omega
 have k9:hs3≤13∧vs3≤10:=by omega
 clear ex1 ey1 es1 ex2 ey2 es2 ex3 ey3 es3
 have p0:∀q:Rat,(q.den:Int)≠0:=fun q=>by have:=qqK q;omega
 have hM:iM a.x.num a.x.den a.y.num a.y.den a.s.den b.x.num b.x.den b.y.num b.y.den b.s.den d.x.den d.y.den d.s.den≠0:=by
  unfold iM iSq
  have:=p0 a.x;have:=p0 a.y;have:=p0 a.s;have:=p0 b.x;have:=p0 b.y;have:=p0 b.s;have:=p0 d.x;have:=p0 d.y;have:=p0 d.s
  exact Int.mul_ne_zero (Int.mul_ne_zero (Int.mul_ne_zero f4 (Int.mul_ne_zero (Int.mul_ne_zero ‹_› ‹_›) ‹_›)) (Int.mul_ne_zero (Int.mul_ne_zero (Int.mul_ne_zero ‹_› ‹_›) (Int.mul_ne_zero ‹_› ‹_›)) (Int.mul_ne_zero (Int.mul_ne_zero ‹_› ‹_›) (Int.mul_ne_zero ‹_› ‹_›)))) (Int.mul_ne_zero ‹_› ‹_›)
 have hQ:iQ a.x.den a.y.den b.x.den b.y.den d.x.den d.y.den≠0:=by
  unfold iQ
  exact Int.mul_ne_zero (Int.mul_ne_zero (Int.mul_ne_zero (p0 _) (p0 _)) (p0 _)) (Int.mul_ne_zero (Int.mul_ne_zero (p0 _) (p0 _)) (p0 _))
 have hC:iCd a.x.num a.x.den a.y.num a.y.den a.s.den b.x.num b.x.den b.y.num b.y.den b.s.den≠0:=by
  unfold iCd
  exact Int.mul_ne_zero (Int.mul_ne_zero (by omega) (Int.mul_ne_zero f4 f4)) (Int.mul_ne_zero (Int.mul_ne_zero (p0 _) (p0 _)) (Int.mul_ne_zero (p0 _) (p0 _)))
 obtain⟨g1,g2⟩:=qkc hM f1
 obtain⟨g3,g4⟩:=qkc hQ f2
 obtain⟨g5,g6⟩:=qkc hC f3
 have b1:=(bA wx1.n wx1.dh wy1.n wy1.dh wx2.n wx2.dh wy2.n wy2.dh wx3.n wx3.dh wy3.n wy3.dh ws1.n ws1.dh ws2.n ws2.dh ws3.n ws3.dh).of_le (x:=A.num) g1
 have b2:=(bM wx1.n wx1.dh wy1.n wy1.dh wx2.n wx2.dh wy2.n wy2.dh wx1.d wy1.d wx2.d wy2.d wx3.d wy3.d ws1.d ws2.d ws3.d).of_le (x:=(A.den:Int)) g2
 have b3:Bd 16 (hx1+hx2+hx3+hy1+hy2+hy3) B.num:=by
  refine(bK wx1.n wx1.dh wy1.n wy1.dh wx2.n wx2.dh wy2.n wy2.dh wx3.n wx3.dh wy3.n wy3.dh).of_le (Nat.le_trans g3 ?_)
  rw[Int.natAbs_mul]
  cases neg<;>simp
 have b4:=(bQ wx1.d wy1.d wx2.d wy2.d wx3.d wy3.d).of_le (x:=(B.den:Int)) g4
 have b5:=(bCn wx1.n wx1.dh wy1.n wy1.dh wx2.n wx2.dh wy2.n wy2.dh ws1.n ws1.dh ws2.n ws2.dh).of_le (x:=H.num) g5
 have b6:=(bCd wx1.n wx1.dh wy1.n wy1.dh wx2.n wx2.dh wy2.n wy2.dh ws1.d ws2.d).of_le (x:=(H.den:Int)) g6
 have X1:=b1.mul b4
 have X:Bd 40960 500 (rX A B H):=(X1.mul b6).mono (by omega) (by omega)
 have Y:=b3.mul b2
 have R:=b5.mul b6
 have XX:=(X.mul X).mono (C':=1677721600) (e':=1000) (by omega) (by omega)
 have YY:=Y.mul Y
 have YR:=(YY.mul R).mono (C':=553648128) (e':=972) (by omega) (by omega)
 have c10:(1000000000:Nat)≤10^9:=by decide
 exact { oa:=oa,ob:=ob,oc:=oc,x1:=X1.okL (k:=9) (by omega) (by omega) (by omega),x:=X.okL (k:=9) (by omega) (by omega) (by omega),y:=Y.okL (k:=9) (by omega) (by omega) (by omega),r:=R.okL (k:=9) (by omega) (by omega) (by omega),xx:=XX.okL (k:=10) (by decide) (by omega) (by omega),yy:=YY.okL (k:=9) (by omega) (by omega) (by omega),yr:=YR.okL (k:=9) (by omega) (by omega) (by omega),d:=((XX.mono (C':=1677721600) (e':=1000) (by omega) (by omega)).sub (YR.mono (C':=553648128) (e':=1000) (by omega) (by omega))).okL (k:=10) (by decide) (by omega) (by omega) }
end Go.Eng

namespace Go.Eng
theorem qzZ{far c:Rat}(h0:far≠0)(hf:bnd 87 80 far)(hc:bnd 24 20 c):bnd 108 108 ((far+c)/(2*far)):=by
 have hn:far.num≠0:=fun h=>h0 (Rat.num_eq_zero.1 h)
 have hm:2*(far.num*(c.den:Int))≠0:=by
  have:=qqK c
  exact Int.mul_ne_zero (by omega) (Int.mul_ne_zero hn (by omega))
 have h2f:2*far≠0:=by grind
 have key:(far+c)/(2*far)*((2*(far.num*(c.den:Int)):Int):Rat)=((far.num*(c.den:Int)+c.num*(far.den:Int):Int):Rat):=by
  have e1:=qcs far
  have e2:=qcs c
  have e3:(far+c)/(2*far)*(2*far)=far+c:=Rat.div_mul_cancel h2f
  have f2:((2:Int):Rat)=2:=by simp
  simp only[Rat.intCast_add,Rat.intCast_mul,Rat.intCast_natCast,e1,e2,f2]
  generalize (far+c)/(2*far)=q at *
  generalize (far.den:Rat)=fd at *
  generalize (c.den:Rat)=cd at *
  have e4:q*(2*(far*fd*cd))=q*(2*far)*(fd*cd):=by grind
  rw[e4,e3];grind
 obtain⟨k1,k2⟩:=qkc hm key
 have g1:=qiP k1
 have g2:=qw0 k2
 have a1:=qnf (far.num*(c.den:Int)) (c.num*(far.den:Int))
 have a2:=jv far.num (c.den:Int)
 have a3:=jv c.num (far.den:Int)
 have a4:=jv 2 (far.num*(c.den:Int))
 have a5:nl 2=1:=by decide
 have a6:dl (2*(far.num*(c.den:Int))).natAbs=nl (2*(far.num*(c.den:Int))):=rfl
 have b1:nl far.num≤87:=hf.1
 have b2:nl (far.den:Int)≤80:=hf.2
 have b3:nl c.num≤24:=hc.1
 have b4:nl (c.den:Int)≤20:=hc.2
 refine⟨?_,?_⟩
 ·show nl _≤108
  omega
 ·show dl _≤108
  omega
structure PB (p:SQ):Prop where
 fx:bnd 142 138 p.fx
 fy:bnd 142 138 p.fy
 ax:bnd 23 20 p.ax
 ay:bnd 23 20 p.ay
 h:bnd 314 313 p.h
theorem qzO(a:Rat):0-a=-a:=by grind
theorem qrA{a b:DQ}(ga:GD a)(gb:GD b)(hf:qaZ b.x b.y a.x a.y≠0):bnd 108 108 ((qaZ b.x b.y a.x a.y+a.s-b.s)/(2*qaZ b.x b.y a.x a.y)):=by
 rw[show qaZ b.x b.y a.x a.y+a.s-b.s=qaZ b.x b.y a.x a.y+(a.s-b.s) by grind]
 exact qzZ hf (qgl (zk gb.x) (zk gb.y) (zk ga.x) (zk ga.y)) ((q35 ga.s).sub (q35 gb.s) (by omega) (by omega))
theorem qkm(a b:DQ)(neg:Bool):j4 a b neg=⟨a.x+(qaZ b.x b.y a.x a.y+a.s-b.s)/(2*qaZ b.x b.y a.x a.y)*(b.x-a.x),a.y+(qaZ b.x b.y a.x a.y+a.s-b.s)/(2*qaZ b.x b.y a.x a.y)*(b.y-a.y),if neg then b.y-a.y else 0-(b.y-a.y),if neg then 0-(b.x-a.x) else b.x-a.x,a.s/qaZ b.x b.y a.x a.y-(qaZ b.x b.y a.x a.y+a.s-b.s)/(2*qaZ b.x b.y a.x a.y)*((qaZ b.x b.y a.x a.y+a.s-b.s)/(2*qaZ b.x b.y a.x a.y))⟩:=rfl
theorem qhU{a b:DQ}(ga:GD a)(gb:GD b)(neg:Bool)(hf:qaZ b.x b.y a.x a.y≠0):PB (j4 a b neg):=by
 have dx:=uR (zk gb.x) (zk ga.x)
 have dy:=uR (zk gb.y) (zk ga.y)
 have far:=qgl (zk gb.x) (zk gb.y) (zk ga.x) (zk ga.y)
 have ht:=qrA ga gb hf
 rw[qkm]
 have nx:bnd 23 20 (0-(b.x-a.x)):=by rw[qzO];exact dx.neg
 have ny:bnd 23 20 (0-(b.y-a.y)):=by rw[qzO];exact dy.neg
 have hh:=((q35 ga.s).div hf far).sub (ht.mul ht) (K:=314) (by omega) (by omega)
 have hx:=(zk ga.x).add (ht.mul dx) (K:=142) (by omega) (by omega)
 have hy:=(zk ga.y).add (ht.mul dy) (K:=142) (by omega) (by omega)
 exact⟨hx,hy,by cases neg<;>assumption,by cases neg<;>assumption,hh⟩
theorem PB.m{p:SQ}{d:DQ}(hp:PB p)(gd:GD d):bnd 153 148 (p.fx-d.x)∧bnd 153 148 (p.fy-d.y):=
 ⟨hp.fx.sub (zk gd.x) (by omega) (by omega),hp.fy.sub (zk gd.y) (by omega) (by omega)⟩
theorem PB.mm{p:SQ}{d:DQ}(hp:PB p)(gd:GD d):bnd 603 592 ((p.fx-d.x)*(p.fx-d.x)+(p.fy-d.y)*(p.fy-d.y)):=
 qnR (hp.m gd).1 (hp.m gd).2 (hp.m gd).1 (hp.m gd).2
theorem PB.aa{p:SQ}(hp:PB p):bnd 87 80 (p.ax*p.ax+p.ay*p.ay):=qnR hp.ax hp.ay hp.ax hp.ay
theorem PB.ha{p:SQ}(hp:PB p):bnd 401 393 (p.h*(p.ax*p.ax+p.ay*p.ay)):=hp.h.mul hp.aa
theorem PB.x{p:SQ}{d:DQ}(hp:PB p)(gd:GD d):bnd 997 985 ((p.fx-d.x)*(p.fx-d.x)+(p.fy-d.y)*(p.fy-d.y)+p.h*(p.ax*p.ax+p.ay*p.ay)):=
 (hp.mm gd).add hp.ha (by omega) (by omega)
theorem PB.ma{p:SQ}{d:DQ}(hp:PB p)(gd:GD d):bnd 345 336 ((p.fx-d.x)*p.ax+(p.fy-d.y)*p.ay):=
 qnR (hp.m gd).1 (hp.m gd).2 hp.ax hp.ay
theorem PB.kA{p:SQ}{d:DQ}(hp:PB p)(gd:GD d):bnd 1008 995 (kA d p):=(hp.x gd).sub (q35 gd.s) (by omega) (by omega)
theorem PB.kB{p:SQ}{d:DQ}(hp:PB p)(gd:GD d):bnd 346 337 (kB d p):=qbs.mul (hp.ma gd)
structure PG (p:SQ):Prop where
 pb:PB p
 nn:0≤p.h
 root:∀d,GD d→RootOk (kA d p) (kB d p) p.h
theorem qwz{a b:DQ}(ga:GD a)(gb:GD b)(neg:Bool)(hf:qaZ b.x b.y a.x a.y≠0)(hn:0≤(j4 a b neg).h):PG (j4 a b neg):=
 ⟨qhU ga gb neg hf,hn,fun _ gd=>qu3 ga gb gd neg hf (((qhU ga gb neg hf).kA gd).ok (by omega) (by omega)) (((qhU ga gb neg hf).kB gd).ok (by omega) (by omega)) ((qhU ga gb neg hf).h.ok (by omega) (by omega))⟩
theorem qzs{a:DQ}(ga:GD a):PG ⟨a.x,a.y,0,0,0⟩:=by
 refine⟨⟨(zk ga.x).mono (by omega) (by omega),(zk ga.y).mono (by omega) (by omega),q5E.mono (by omega) (by omega),q5E.mono (by omega) (by omega),q5E.mono (by omega) (by omega)⟩,Rat.le_refl,fun d gd=>?_⟩
 have e1:Go.Eng.kA d ⟨a.x,a.y,0,0,0⟩=qaZ a.x a.y d.x d.y-d.s:=by unfold Go.Eng.kA qaZ;grind
 have e2:Go.Eng.kB d ⟨a.x,a.y,0,0,0⟩=0:=by unfold Go.Eng.kB;grind
 rw[e1,e2]
 have f1:bnd 98 90 (qaZ a.x a.y d.x d.y-d.s):=(qgl (zk ga.x) (zk ga.y) (zk gd.x) (zk gd.y)).sub (q35 gd.s) (by omega) (by omega)
 exact RootOk.of f1 q5E q5E (by omega) (by omega)
theorem quM{d:DQ}{p:SQ}(gd:GD d)(hp:PG p) :
  (jb [.s (tQ d.x),.s (tQ d.y),.s (tQ d.s),.s (tQ p.fx),.s (tQ p.fy),.s (tQ p.ax),.s (tQ p.ay),.s (tQ p.h),.i 0]).run=some (0,[.b (decide (q4A d p)),.i 0]):=by
 rw[qg0]
 have hr:=quJ (hp.root d gd) hp.nn
 obtain⟨hp,-,-⟩:=hp
 obtain⟨m1,m2⟩:=hp.m gd
 have h0:=quL hp.fx hp.fy (zk gd.x) (zk gd.y) (by omega) (by omega) (by omega)
 have h1:=qvm m1 m2 m1 m2 (by omega) (by omega)
 have h2:=qvm hp.ax hp.ay hp.ax hp.ay (by omega) (by omega)
 have h3:=qoo hp.h hp.aa (by omega) (by omega)
 have h4:=qu7 (hp.mm gd) hp.ha (by omega) (by omega) (by omega)
 have h5:=qoC (hp.x gd) (q35 gd.s) (by omega) (by omega) (by omega)
 have h6:=qvm m1 m2 hp.ax hp.ay (by omega) (by omega)
 have h7:=qoo qbs (hp.ma gd) (by omega) (by omega)
 rw[qnz] at h7
 have e:q4A d p=(qd3 (Go.Eng.kA d p) (Go.Eng.kB d p) p.h≤0):=rfl
 unfold Go.Eng.kA Go.Eng.kB at hr e
 simp only[STD,h0,h1,h2,h3,h4,h5,h6,h7,hr,e]
 rfl
theorem qvV{d:DQ}{p:SQ}(gd:GD d)(hp:PB p) :
  (q29 [.s (tQ d.x),.s (tQ d.y),.s (tQ d.s),.s (tQ p.fx),.s (tQ p.fy),.s (tQ p.ax),.s (tQ p.ay),.s (tQ p.h)]).run=some (0,[.b (decide (q4A d p))]):=by
 rw[qmm]
 obtain⟨m1,m2⟩:=hp.m gd
 have s1:=m1.sm (K:=200) (by omega) (by omega)
 have s2:=m2.sm (K:=200) (by omega) (by omega)
 have s3:=hp.ax.sm (K:=200) (by omega) (by omega)
 have s4:=hp.ay.sm (K:=200) (by omega) (by omega)
 have h0:=qrn (hp.fx.sm (by omega) (by omega)) (hp.fy.sm (by omega) (by omega)) ((zk gd.x).sm (by omega) (by omega)) ((zk gd.y).sm (by omega) (by omega))
 have h1:=qux (by omega) s1 s2 s1 s2
 have h2:=qux (by omega) s3 s4 s3 s4
 have h3:=wu (hp.h.sm (by omega) (by omega)) (hp.aa.sm (by omega) (by omega))
 have h4:=q3I ((hp.mm gd).sm (by omega) (by omega)) (hp.ha.sm (by omega) (by omega))
 have h5:=q0b ((hp.x gd).sm (by omega) (by omega)) ((q35 gd.s).sm (by omega) (by omega))
 have h6:=qux (by omega) s1 s2 s3 s4
 have h7:=wu (qbs.sm (by omega) (by omega)) ((hp.ma gd).sm (by omega) (by omega))
 have h8:=qjm ((hp.kA gd).sm (by omega) (by omega)) ((hp.kB gd).sm (by omega) (by omega)) (hp.h.sm (by omega) (by omega))
 rw[qnz] at h7
 have e:q4A d p=(qd3 (Go.Eng.kA d p) (Go.Eng.kB d p) p.h≤0):=rfl
 unfold Go.Eng.kA Go.Eng.kB at h8 e
 simp only[STD,h0,h1,h2,h3,h4,h5,h6,h7,h8,e]
 rfl
def qd4(d:DQ):List U:=[.s (tQ d.x),.s (tQ d.y),.s (tQ d.s)]
def rD(l:List DQ):R:=l.map qd4
def ix(l:List DQ)(i:Nat):DQ:=l.getD i ⟨0,0,0⟩
theorem qm(l:List DQ):qt (rD l)=(l.length:Int):=by simp[qt,rD]
theorem q98{l:List DQ}{i:Nat}(h:i<l.length):cS (rD l) (i:Int) 0=tQ (ix l i).x∧cS (rD l) (i:Int) 1=tQ (ix l i).y∧cS (rD l) (i:Int) 2=tQ (ix l i).s:=by
 unfold cS wY rD ix
 simp[List.getD_eq_getElem?_getD,h,qd4,U.toS]
theorem qxK{l:List DQ}{i:Nat}(h:i<l.length):ix l i∈l:=by
 unfold ix
 simp[List.getD_eq_getElem?_getD,h]
def qhK(a b:DQ)(same:Bool)(side:Int):Option SQ:=
 if same then (if side=0 then some ⟨a.x,a.y,0,0,0⟩ else none)
 else if qaZ b.x b.y a.x a.y=0 then none
 else if 0≤(j4 a b (decide (side<0))).h∧((j4 a b (decide (side<0))).h=0↔side=0) then some (j4 a b (decide (side<0))) else none
theorem qsA{a b:DQ}(ga:GD a)(gb:GD b){same:Bool}{side:Int}{p:SQ}(h:qhK a b same side=some p):PG p:=by
 unfold qhK at h
 split at h
 ·split at h
  ·cases h;exact qzs ga
  ·cases h
 ·split at h
  ·cases h
  ·rename_i hf
   split at h
   ·rename_i hc
    cases h;exact qwz ga gb _ hf hc.1
   ·cases h
def qbH(l:List DQ)(i j:Nat)(side:Int):Bool:=
 match qhK (ix l i) (ix l j) (decide (i=j)) side with
 | none=>false
 | some p=>l.all fun d=>decide (q4A d p)
def qpg(l:List DQ)(i j:Nat)(side:Int):Option (Nat×Nat×Int):=if qbH l i j side then some (i,j,side) else none
def qbc(l:List DQ)(i j:Nat):Option (Nat×Nat×Int):=
 match qpg l i j 0 with
 | some w=>some w
 | none=>match qpg l i j 1 with
  | some w=>some w
  | none=>qpg l i j (-1)
def q1v(l:List DQ):Option (Nat×Nat×Int):=
 match yx (fun i=>qpg l i i 0) 0 l.length with
 | some w=>some w
 | none=>yx (fun i=>yx (fun k=>qbc l i (i+1+k)) 0 (l.length-(i+1))) 0 l.length
end Go.Eng

namespace Go.Eng
theorem quO{l:List DQ}{d:DQ}(h:d∈l):∃i,i<l.length∧ix l i=d:=by
 obtain⟨i,hi,e⟩:=List.getElem_of_mem h
 exact⟨i,hi,by unfold ix;simp[List.getD_eq_getElem?_getD,hi,e]⟩
theorem q7S{α:Type}{f:Nat→Option α}{a:α}:∀{k i:Nat},yx f i k=some a→∃j,i≤j∧j<i+k∧f j=some a∧∀m,i≤m→m<j→f m=none
 | 0,i,h=>by cases h
 | k+1,i,h=>by
  simp only[yx] at h
  cases hf:f i with
  | some b=>rw[hf] at h;exact⟨i,Nat.le_refl _,by omega,by rw[hf];exact h,fun m h1 h2=>by omega⟩
  | none=>
   rw[hf] at h
   obtain⟨j,h1,h2,h3,h4⟩:=q7S h
   refine⟨j,by omega,by omega,h3,fun m m1 m2=>?_⟩
   rcases Nat.eq_or_lt_of_le m1 with rfl|m1
   ·exact hf
   ·exact h4 m m1 m2
end Go.Eng

namespace Go.Eng
def GDs(l:List DQ):Prop:=∀d∈l,GD d
theorem GDs.ix{l:List DQ}(h:GDs l){i:Nat}(hi:i<l.length):GD (ix l i):=h _ (qxK hi)
theorem qwb(q:Rat):(seq (tQ q) [48]=true)=(q=0):=by rw[qS,qlo]
theorem qiJ(q:Rat):(0:Int)<ql (tQ q):=by
 have h1:=qhS q
 have h2:=qjz q
 unfold ql;omega
theorem qyJ(i:Nat):((i:Int)=(i:Int))=True:=by simp
def plc(p:SQ):List PV:=[.s (tQ p.fx),.s (tQ p.fy),.s (tQ p.ax),.s (tQ p.ay),.s (tQ p.h)]
theorem qiz(q:Rat):(¬(tQ q).getD 0 0=45)=(0≤q):=by
 by_cases h:0≤q
 ·exact propext ⟨fun _=>h,fun _=>qxh h⟩
 ·have:=qvq (c:=q) (by grind)
  exact propext ⟨fun h'=>absurd this h',fun h'=>absurd h' h⟩
theorem qvR(b:Bool)(p q:Prop)[Decidable p][Decidable q](hb:(b=true)=p):(Go.Eng.beq b (decide q))=decide (p↔q):=by
 subst hb
 by_cases hq:q<;>cases b<;>simp[Go.Eng.beq,hq]<;>rfl
set_option maxHeartbeats 2000000 in
theorem qxX{l:List DQ}(hl:GDs l){i j:Nat}(hi:i<l.length)(hj:j<l.length)(side:Int) :
  (qhK (ix l i) (ix l j) (decide (i=j)) side=none∧∃a b c d e,(v7 [.r (rD l),.i (i:Int),.i (j:Int),.i side,.i 0]).run=some (0,[.s a,.s b,.s c,.s d,.s e,.b false,.i 0])) ∨
  ∃p,qhK (ix l i) (ix l j) (decide (i=j)) side=some p∧(v7 [.r (rD l),.i (i:Int),.i (j:Int),.i side,.i 0]).run=some (0,plc p++[.b true,.i 0]):=by
 rw[qg4]
 obtain⟨x1,x2,x3⟩:=q98 hi
 obtain⟨y1,y2,y3⟩:=q98 hj
 have ga:=hl.ix hi
 have gb:=hl.ix hj
 have bi:0≤(i:Int)∧(i:Int)<qt (rD l):=by rw[qm];omega
 have bj:0≤(j:Int)∧(j:Int)<qt (rD l):=by rw[qm];omega
 obtain⟨a,ha⟩:∃a,a=ix l i:=⟨_,rfl⟩
 obtain⟨b,hb⟩:∃b,b=ix l j:=⟨_,rfl⟩
 rw[←ha] at x1 x2 x3 ga ⊢
 rw[←hb] at y1 y2 y3 gb ⊢
 simp only[x1,x2,x3,y1,y2,y3]
 clear x1 x2 x3 y1 y2 y3 hb
 unfold qhK plc
 by_cases hij:i=j
 ·subst hij
  have z:tQ 0=[48]:=rfl
  by_cases hs:side=0
  ·subst hs
   right
   refine⟨⟨a.x,a.y,0,0,0⟩,by simp,?_⟩
   have e:ieq 0 0=true:=rfl
   simp only[STD,bi,and_self,z,e]
   rfl
  ·left
   refine⟨by simp[hs],tQ a.x,tQ a.y,[48],[48],[48],?_⟩
   have e:ieq side 0=false:=by simp[ieq,hs]
   simp only[STD,bi,and_self,e]
 ·have hij':¬(i:Int)=(j:Int):=by omega
  obtain⟨a1,a2,a3⟩:=ga.sh
  obtain⟨b1,b2,b3⟩:=gb.sh
  have dx:=uR b1 a1
  have dy:=uR b2 a2
  have far:=qgl b1 b2 a1 a2
  have h0:=quL b1 b2 a1 a2 (by omega) (by omega) (by omega)
  have h1:=qvm dx dy dx dy (by omega) (by omega)
  have hfd:(b.x-a.x)*(b.x-a.x)+(b.y-a.y)*(b.y-a.y)=qaZ b.x b.y a.x a.y:=rfl
  rw[hfd] at h1
  by_cases hf:qaZ b.x b.y a.x a.y=0
  ·left
   refine⟨by simp[hij,hf],[],[],[],[],[],?_⟩
   simp only[STD,bi,bj,and_self,hij',h0,h1,qwb,hf]
  ·have hpb:=fun neg=>qhU ga gb neg hf
   have ht:=qrA ga gb hf
   have n1:bnd 98 90 (qaZ b.x b.y a.x a.y+a.s):=far.add a3 (by omega) (by omega)
   have h2:=qu7 far a3 (by omega) (by omega) (by omega)
   have n2:bnd 112 100 (qaZ b.x b.y a.x a.y+a.s-b.s):=n1.sub b3 (by omega) (by omega)
   have h3:=qoC n1 b3 (by omega) (by omega) (by omega)
   have h4:=qoo qbs far (by omega) (by omega)
   rw[qnz] at h4
   have n4:=qbs.mul far
   have hf2:2*qaZ b.x b.y a.x a.y≠0:=by grind
   have h5:=qyX hf2 n2 n4 (by omega) (by omega)
   have h6:=qoo ht dx (by omega) (by omega)
   have h7:=qu7 a1 (ht.mul dx) (by omega) (by omega) (by omega)
   have h8:=qoo ht dy (by omega) (by omega)
   have h9:=qu7 a2 (ht.mul dy) (by omega) (by omega) (by omega)
   have h10:=qoC q5E dy (by omega) (by omega) (by omega)
   have h14:=qoC q5E dx (by omega) (by omega) (by omega)
   rw[show tQ 0=[48] from rfl] at h10 h14
   have h11:=qyX hf a3 far (by omega) (by omega)
   have h12:=qoo ht ht (by omega) (by omega)
   have h13:=qoC (a3.div hf far) (ht.mul ht) (by omega) (by omega) (by omega)
   have hbd:=fun (q:Rat)=>qvR (seq (tQ q) [48]) (q=0) (side=0) (qwb q)
   have hie:ieq side 0=decide (side=0):=rfl
   rw[if_neg (by simp[hij]),if_neg hf]
   obtain⟨p,hcr'⟩:∃p,p=j4 a b (decide (side<0)):=⟨_,rfl⟩
   rw[←hcr']
   have hcr:=hcr'.symm
   clear hcr'
   rw[qkm] at hcr
   obtain⟨t,htt⟩:∃t,t=(qaZ b.x b.y a.x a.y+a.s-b.s)/(2*qaZ b.x b.y a.x a.y):=⟨_,rfl⟩
   rw[←htt] at hcr h5 h6 h7 h8 h9 h12 h13
   obtain⟨h,hh⟩:∃h,h=a.s/qaZ b.x b.y a.x a.y-t*t:=⟨_,rfl⟩
   rw[←hh] at hcr h13
   have hp5:p.h=h:=by rw[←hcr]
   by_cases hs:side<0
   ·simp only[hs,decide_true,if_true] at hcr
    by_cases hn:0≤h
    ·by_cases hz:(h=0↔side=0)
     ·right
      refine⟨p,by rw[if_pos ⟨by rw[hp5];exact hn,by rw[hp5];exact hz⟩],?_⟩
      rw[←hcr]
      simp only[STD,bi,bj,and_self,hij',h0,h1,h2,h3,h4,h5,h6,h7,h8,h9,h10,h11,h12,h13,h14,qwb,hf,hs,Int.le_refl,qiJ,qgH,qiz,hn,hie,hbd,hz,decide_true]
      rfl
     ·left
      refine⟨by rw[if_neg (by rw[hp5];exact fun c=>hz c.2)],tQ p.fx,tQ p.fy,tQ p.ax,tQ p.ay,tQ p.h,?_⟩
      rw[←hcr]
      simp only[STD,bi,bj,and_self,hij',h0,h1,h2,h3,h4,h5,h6,h7,h8,h9,h10,h11,h12,h13,h14,qwb,hf,hs,Int.le_refl,qiJ,qgH,qiz,hn,hie,hbd,hz,decide_false]
    ·left
     refine⟨by rw[if_neg (by rw[hp5];exact fun c=>hn c.1)],tQ p.fx,tQ p.fy,tQ p.ax,tQ p.ay,tQ p.h,?_⟩
     rw[←hcr]
     simp only[STD,bi,bj,and_self,hij',h0,h1,h2,h3,h4,h5,h6,h7,h8,h9,h10,h11,h12,h13,h14,qwb,hf,hs,Int.le_refl,qiJ,qgH,qiz,hn]
   ·simp only[hs,decide_false,Bool.false_eq_true,if_false] at hcr
    by_cases hn:0≤h
    ·by_cases hz:(h=0↔side=0)
     ·right
      refine⟨p,by rw[if_pos ⟨by rw[hp5];exact hn,by rw[hp5];exact hz⟩],?_⟩
      rw[←hcr]
      simp only[STD,bi,bj,and_self,hij',h0,h1,h2,h3,h4,h5,h6,h7,h8,h9,h10,h11,h12,h13,h14,qwb,hf,hs,Int.le_refl,qiJ,qgH,qiz,hn,hie,hbd,hz,decide_true]
      rfl
     ·left
      refine⟨by rw[if_neg (by rw[hp5];exact fun c=>hz c.2)],tQ p.fx,tQ p.fy,tQ p.ax,tQ p.ay,tQ p.h,?_⟩
      rw[←hcr]
      simp only[STD,bi,bj,and_self,hij',h0,h1,h2,h3,h4,h5,h6,h7,h8,h9,h10,h11,h12,h13,h14,qwb,hf,hs,Int.le_refl,qiJ,qgH,qiz,hn,hie,hbd,hz,decide_false]
    ·left
     refine⟨by rw[if_neg (by rw[hp5];exact fun c=>hn c.1)],tQ p.fx,tQ p.fy,tQ p.ax,tQ p.ay,tQ p.h,?_⟩
     rw[←hcr]
     simp only[STD,bi,bj,and_self,hij',h0,h1,h2,h3,h4,h5,h6,h7,h8,h9,h10,h11,h12,h13,h14,qwb,hf,hs,Int.le_refl,qiJ,qgH,qiz,hn]
end Go.Eng

namespace Go.Eng
theorem qtX{a b:DQ}(ga:GD a)(gb:GD b) :
  (q0n [.s (tQ a.x),.s (tQ a.y),.s (tQ a.s),.s (tQ b.x),.s (tQ b.y),.s (tQ b.s)]).run=some (0,if qaZ b.x b.y a.x a.y=0 then [.s [],.s [],.s [],.s [],.s [],.b false] else plc (j4 a b false)++[.b (decide (0≤(j4 a b false).h))]):=by
 rw[qiN]
 obtain⟨a1,a2,a3⟩:=ga.sh
 obtain⟨b1,b2,b3⟩:=gb.sh
 have dx:=uR b1 a1
 have dy:=uR b2 a2
 have far:=qgl b1 b2 a1 a2
 have h0:=qrn (b1.sm (by omega) (by omega)) (b2.sm (by omega) (by omega)) (a1.sm (by omega) (by omega)) (a2.sm (by omega) (by omega))
 have s1:=dx.sm (K:=100) (by omega) (by omega)
 have s2:=dy.sm (K:=100) (by omega) (by omega)
 have h1:=qux (K:=100) (by omega) s1 s2 s1 s2
 have hfd:(b.x-a.x)*(b.x-a.x)+(b.y-a.y)*(b.y-a.y)=qaZ b.x b.y a.x a.y:=rfl
 rw[hfd] at h1
 by_cases hf:qaZ b.x b.y a.x a.y=0
 ·rw[if_pos hf]
  simp only[STD,h0,h1,qwb,hf]
 ·rw[if_neg hf]
  have ht:=qrA ga gb hf
  have n1:bnd 98 90 (qaZ b.x b.y a.x a.y+a.s):=far.add a3 (by omega) (by omega)
  have h2:=q3I (far.sm (by omega) (by omega)) (a3.sm (by omega) (by omega))
  have n2:bnd 112 100 (qaZ b.x b.y a.x a.y+a.s-b.s):=n1.sub b3 (by omega) (by omega)
  have h3:=q0b (n1.sm (by omega) (by omega)) (b3.sm (by omega) (by omega))
  have h4:=wu (qbs.sm (by omega) (by omega)) (far.sm (by omega) (by omega))
  rw[qnz] at h4
  have n4:=qbs.mul far
  have hf2:2*qaZ b.x b.y a.x a.y≠0:=by grind
  have h5:=qni hf2 (n2.sm (by omega) (by omega)) (n4.sm (by omega) (by omega))
  have h6:=qni hf (a3.sm (by omega) (by omega)) (far.sm (by omega) (by omega))
  have h7:=wu (ht.sm (by omega) (by omega)) (ht.sm (by omega) (by omega))
  have h8:=q0b ((a3.div hf far).sm (by omega) (by omega)) ((ht.mul ht).sm (by omega) (by omega))
  have n8:=(a3.div hf far).sub (ht.mul ht) (K:=314) (by omega) (by omega)
  have h9:=wu (ht.sm (by omega) (by omega)) (dx.sm (by omega) (by omega))
  have h10:=q3I (a1.sm (by omega) (by omega)) ((ht.mul dx).sm (by omega) (by omega))
  have h11:=wu (ht.sm (by omega) (by omega)) (dy.sm (by omega) (by omega))
  have h12:=q3I (a2.sm (by omega) (by omega)) ((ht.mul dy).sm (by omega) (by omega))
  have h13:=q9S (dy.sm (by omega) (by omega))
  have h14:=q2C (n8.sm (by omega) (by omega))
  have hle:∀q:Rat,ile 0 (sgq q)=decide (0≤q):=fun q=>by
   unfold ile
   rcases qaR q with⟨h,e⟩|⟨h,e⟩|⟨h,e⟩<;>rw[e]
   ·simp;grind
   ·simp[h]
   ·simp;grind
  rw[qkm]
  unfold plc
  simp only[STD,h0,h1,h2,h3,h4,h5,h6,h7,h8,h9,h10,h11,h12,h13,h14,qwb,hf,hle,qzO]
  rfl
theorem qox(a b:DQ)(neg:Bool):(j4 a b neg).h=(j4 a b false).h:=rfl
theorem qwe{l:List DQ}(hl:GDs l){i j:Nat}(hi:i<l.length)(hj:j<l.length)(side:Int) :
  (qhK (ix l i) (ix l j) (decide (i=j)) side=none∧∃a b c d e,(yj [.r (rD l),.i (i:Int),.i (j:Int),.i side]).run=some (0,[.s a,.s b,.s c,.s d,.s e,.b false])) ∨
  ∃p,qhK (ix l i) (ix l j) (decide (i=j)) side=some p∧(yj [.r (rD l),.i (i:Int),.i (j:Int),.i side]).run=some (0,plc p++[.b true]):=by
 rw[qk5]
 obtain⟨x1,x2,x3⟩:=q98 hi
 obtain⟨y1,y2,y3⟩:=q98 hj
 have ga:=hl.ix hi
 have gb:=hl.ix hj
 have bi:0≤(i:Int)∧(i:Int)<qt (rD l):=by rw[qm];omega
 have bj:0≤(j:Int)∧(j:Int)<qt (rD l):=by rw[qm];omega
 obtain⟨a,ha⟩:∃a,a=ix l i:=⟨_,rfl⟩
 obtain⟨b,hb⟩:∃b,b=ix l j:=⟨_,rfl⟩
 rw[←ha] at x1 x2 x3 ga ⊢
 rw[←hb] at y1 y2 y3 gb ⊢
 have hc:=qtX ga gb
 simp only[x1,x2,x3,y1,y2,y3]
 clear x1 x2 x3 y1 y2 y3 hb
 unfold qhK plc
 by_cases hij:i=j
 ·subst hij
  have z:tQ 0=[48]:=rfl
  by_cases hs:side=0
  ·subst hs
   right
   refine⟨⟨a.x,a.y,0,0,0⟩,by simp,?_⟩
   have e:ieq 0 0=true:=rfl
   simp only[STD,bi,and_self,z,e]
   rfl
  ·left
   refine⟨by simp[hs],tQ a.x,tQ a.y,[48],[48],[48],?_⟩
   have e:ieq side 0=false:=by simp[ieq,hs]
   simp only[STD,bi,and_self,e]
 ·have hij':¬(i:Int)=(j:Int):=by omega
  by_cases hf:qaZ b.x b.y a.x a.y=0
  ·left
   rw[if_pos hf] at hc
   refine⟨by simp[hij,hf],[],[],[],[],[],?_⟩
   simp only[STD,bi,bj,and_self,hij',hc]
  ·rw[if_neg hf] at hc
   have hpl:∀(p:SQ) (x:PV),plc p++[x]=[.s (tQ p.fx),.s (tQ p.fy),.s (tQ p.ax),.s (tQ p.ay),.s (tQ p.h),x]:=fun _ _=>rfl
   rw[hpl] at hc
   have hbd:=fun (q:Rat)=>qvR (seq (tQ q) [48]) (q=0) (side=0) (qwb q)
   have hie:ieq side 0=decide (side=0):=rfl
   rw[if_neg (by simp[hij]),if_neg hf,qox]
   by_cases hn:0≤(j4 a b false).h
   ·by_cases hz:((j4 a b false).h=0↔side=0)
    ·right
     refine⟨j4 a b (decide (side<0)),by rw[if_pos ⟨hn,hz⟩],?_⟩
     by_cases hs:side<0
     ·have dx:=uR (zk gb.x) (zk ga.x)
      have dy:=uR (zk gb.y) (zk ga.y)
      have t1:=q9S (a:=(j4 a b false).ax) (by show sm _ (0-(b.y-a.y));rw[qzO];exact dy.neg.sm (by omega) (by omega))
      have t2:=q9S (a:=(j4 a b false).ay) (by show sm _ (b.x-a.x);exact dx.sm (by omega) (by omega))
      obtain⟨f1,f2⟩:=qtA a b
      simp only[STD,bi,bj,and_self,hij',hc,hn,hie,hbd,hz,hs,decide_true,t1,t2,f1,f2]
      rfl
     ·simp only[STD,bi,bj,and_self,hij',hc,hn,hie,hbd,hz,hs,decide_true,decide_false]
      rfl
    ·left
     refine⟨by rw[if_neg (fun c=>hz c.2)],[],[],[],[],[],?_⟩
     simp only[STD,bi,bj,and_self,hij',hc,hn,hie,hbd,hz,decide_true,decide_false]
   ·left
    refine⟨by rw[if_neg (fun c=>hn c.1)],[],[],[],[],[],?_⟩
    simp only[STD,bi,bj,and_self,hij',hc,hn,decide_false]
theorem qo9{α:Type}(p:Nat→Bool)(g:Nat→α)(n:Nat):(yx (fun i=>if p i=true then none else some (g i)) 0 n=none∧∀i,i<n→p i=true)∨∃i,i<n∧p i=false∧yx (fun i=>if p i=true then none else some (g i)) 0 n=some (g i):=by
 cases h:yx (fun i=>if p i=true then none else some (g i)) 0 n with
 | none=>
  refine .inl ⟨rfl,fun i hi=>?_⟩
  have:=qkY h i (by omega) (by omega)
  cases hp:p i
  ·rw[hp] at this;simp at this
  ·rfl
 | some a=>
  obtain⟨j,-,hj,hf,-⟩:=q7S h
  cases hp:p j
  ·rw[hp] at hf;simp at hf
   exact .inr ⟨j,by omega,hp,by rw[hf]⟩
  ·rw[hp] at hf;simp at hf
theorem qvw(l:List DQ)(p:DQ→Bool):l.all p=true↔∀i,i<l.length→p (ix l i)=true:=by
 rw[List.all_eq_true]
 constructor
 ·intro h i hi;exact h _ (qxK hi)
 ·intro h d hd
  obtain⟨i,hi,rfl⟩:=quO hd
  exact h i hi
theorem quk{l:List DQ}{p:DQ→Bool}{i:Nat}(hi:i<l.length)(h:p (ix l i)=false):l.all p=false:=by
 cases ha:l.all p
 ·rfl
 ·have:=(qvw l p).1 ha i hi;simp_all
theorem qsT{l:List DQ}(hl:GDs l)(hn:l.length<1000000){i j:Nat}(hi:i<l.length)(hj:j<l.length)(side:Int) :
  (zb [.r (rD l),.i (i:Int),.i (j:Int),.i side,.i 0]).run=some (0,[.b (qbH l i j side),.i 0]):=by
 rw[qeE]
 unfold qbH
 rcases qxX hl hi hj side with⟨h1,a,b,c,d,e,h2⟩|⟨p,h1,h2⟩
 ·rw[h1]
  simp only[STD,h2]
 ·rw[h1]
  have hp:=qsA (hl.ix hi) (hl.ix hj) h1
  unfold plc at h2
  simp only[List.cons_append,List.nil_append] at h2
  have key:=qaM (S:=w9)
   (fun k=>[.r (rD l),.i (qt (rD l)),.i (k:Int),.r (rD l),.r (rD l),.r (rD l),.i (i:Int),.i (j:Int),.i side,.b true,.s (tQ p.fx),.s (tQ p.fy),.s (tQ p.ax),.s (tQ p.ay),.s (tQ p.h),.b true,.r (rD l),.i (i:Int),.i (j:Int),.i side,.s (tQ p.fx),.s (tQ p.fy),.s (tQ p.ax),.s (tQ p.ay),.s (tQ p.h),.b true,.s (tQ p.fx),.s (tQ p.fy),.s (tQ p.ax),.s (tQ p.ay),.s (tQ p.h),.b true,.b true,.r (rD l),.i 0,.i (i:Int),.i (j:Int),.i side,.s (tQ p.fx),.s (tQ p.fy),.s (tQ p.ax),.s (tQ p.ay),.s (tQ p.h)])
   (fun k=>if decide (q4A (ix l k) p)=true then none else some (1,[.i (k:Int),.r (rD l),.r (rD l),.r (rD l),.i (i:Int),.i (j:Int),.i side,.b true,.s (tQ p.fx),.s (tQ p.fy),.s (tQ p.ax),.s (tQ p.ay),.s (tQ p.h),.b true,.r (rD l),.i (i:Int),.i (j:Int),.i side,.s (tQ p.fx),.s (tQ p.fy),.s (tQ p.ax),.s (tQ p.ay),.s (tQ p.h),.b true,.s (tQ p.fx),.s (tQ p.fy),.s (tQ p.ax),.s (tQ p.ay),.s (tQ p.h),.b true,.b true,.r (rD l),.i 0,.i (i:Int),.i (j:Int),.i side,.s (tQ p.fx),.s (tQ p.fy),.s (tQ p.ax),.s (tQ p.ay),.s (tQ p.h)]))
   (0,[.r (rD l),.r (rD l),.r (rD l),.i (i:Int),.i (j:Int),.i side,.b true,.s (tQ p.fx),.s (tQ p.fy),.s (tQ p.ax),.s (tQ p.ay),.s (tQ p.h),.b true,.r (rD l),.i (i:Int),.i (j:Int),.i side,.s (tQ p.fx),.s (tQ p.fy),.s (tQ p.ax),.s (tQ p.ay),.s (tQ p.h),.b true,.s (tQ p.fx),.s (tQ p.fy),.s (tQ p.ax),.s (tQ p.ay),.s (tQ p.h),.b true,.b true,.r (rD l),.i 0,.i (i:Int),.i (j:Int),.i side,.s (tQ p.fx),.s (tQ p.fy),.s (tQ p.ax),.s (tQ p.ay),.s (tQ p.h)])
   l.length (by omega)
   (fun k hk hf=>by
    rw[yC]
    obtain⟨x1,x2,x3⟩:=q98 hk
    have hK:=quM (hl.ix hk) hp
    by_cases hd:q4A (ix l k) p
    ·simp only[x1,x2,x3,STD,hK,hd,qm,kZ hk (show l.length<9223372036854775808 by omega),show (k:Int)<(l.length:Int) by omega,show (0:Int)≤(k:Int) by omega,and_self,decide_true]
    ·simp[hd] at hf)
   (fun k r hk hf=>by
    rw[yC]
    obtain⟨x1,x2,x3⟩:=q98 hk
    have hK:=quM (hl.ix hk) hp
    by_cases hd:q4A (ix l k) p
    ·simp[hd] at hf
    ·simp only[hd,decide_false,Bool.false_eq_true,if_false,Option.some.injEq] at hf
     subst hf
     simp only[x1,x2,x3,STD,hK,hd,qm,show (k:Int)<(l.length:Int) by omega,show (0:Int)≤(k:Int) by omega,and_self,decide_false])
   (by rw[yC];simp only[STD,qm,show ¬(l.length:Int)<(l.length:Int) by omega])
  rcases qo9 (fun k=>decide (q4A (ix l k) p)) (fun k=>((1,[.i (k:Int),.r (rD l),.r (rD l),.r (rD l),.i (i:Int),.i (j:Int),.i side,.b true,.s (tQ p.fx),.s (tQ p.fy),.s (tQ p.ax),.s (tQ p.ay),.s (tQ p.h),.b true,.r (rD l),.i (i:Int),.i (j:Int),.i side,.s (tQ p.fx),.s (tQ p.fy),.s (tQ p.ax),.s (tQ p.ay),.s (tQ p.h),.b true,.s (tQ p.fx),.s (tQ p.fy),.s (tQ p.ax),.s (tQ p.ay),.s (tQ p.h),.b true,.b true,.r (rD l),.i 0,.i (i:Int),.i (j:Int),.i side,.s (tQ p.fx),.s (tQ p.fy),.s (tQ p.ax),.s (tQ p.ay),.s (tQ p.h)]):Nat×List PV)) l.length with⟨s1,s2⟩|⟨k,hk,s2,s1⟩
  ·rw[s1] at key
   have hall:(l.all fun d=>decide (q4A d p))=true:=(qvw l _).2 s2
   simp only[Option.getD_none] at key
   simp only[STD,h2,hall]
   have key':=key
   simp only[show ((0:Nat):Int)=0 from rfl] at key'
   simp only[STD,key',qv key',show ieq 0 0=true from rfl]
  ·rw[s1] at key
   have hall:=quk (p:=fun d=>decide (q4A d p)) hk s2
   simp only[Option.getD_some] at key
   simp only[STD,h2,hall]
   have key':=key
   simp only[show ((0:Nat):Int)=0 from rfl] at key'
   simp only[STD,key',qv key',show ¬(1=0) by omega,show (0:Int)≤(k:Int) by omega]
theorem qsX{l:List DQ}(hl:GDs l)(hn:l.length<1000000){i j:Nat}(hi:i<l.length)(hj:j<l.length)(side:Int) :
  (wZ [.r (rD l),.i (i:Int),.i (j:Int),.i side]).run=some (0,[.b (qbH l i j side)]):=by
 rw[qla]
 unfold qbH
 rcases qwe hl hi hj side with⟨h1,a,b,c,d,e,h2⟩|⟨p,h1,h2⟩
 ·rw[h1]
  simp only[STD,h2]
 ·rw[h1]
  have hp:=qsA (hl.ix hi) (hl.ix hj) h1
  unfold plc at h2
  simp only[List.cons_append,List.nil_append] at h2
  have key:=qaM (S:=q0B)
   (fun k=>[.r (rD l),.i (k:Int),.s (tQ p.fx),.s (tQ p.fy),.s (tQ p.ax),.s (tQ p.ay),.s (tQ p.h)])
   (fun k=>if decide (q4A (ix l k) p)=true then none else some (1,[.b false]))
   (0,[]) l.length (by omega)
   (fun k hk hf=>by
    rw[q5r]
    obtain⟨x1,x2,x3⟩:=q98 hk
    have hK:=qvV (hl.ix hk) hp.pb
    by_cases hd:q4A (ix l k) p
    ·simp only[x1,x2,x3,STD,hK,hd,qm,kZ hk (show l.length<9223372036854775808 by omega),show (k:Int)<(l.length:Int) by omega,show (0:Int)≤(k:Int) by omega,and_self,decide_true]
    ·simp[hd] at hf)
   (fun k r hk hf=>by
    rw[q5r]
    obtain⟨x1,x2,x3⟩:=q98 hk
    have hK:=qvV (hl.ix hk) hp.pb
    by_cases hd:q4A (ix l k) p
    ·simp[hd] at hf
    ·simp only[hd,decide_false,Bool.false_eq_true,if_false,Option.some.injEq] at hf
     subst hf
     simp only[x1,x2,x3,STD,hK,hd,qm,show (k:Int)<(l.length:Int) by omega,show (0:Int)≤(k:Int) by omega,and_self,decide_false])
   (by rw[q5r];simp only[STD,qm,show ¬(l.length:Int)<(l.length:Int) by omega])
  rcases qo9 (fun k=>decide (q4A (ix l k) p)) (fun k=>((1,[.b false]):Nat×List PV)) l.length with⟨s1,s2⟩|⟨k,hk,s2,s1⟩
  ·rw[s1] at key
   have hall:(l.all fun d=>decide (q4A d p))=true:=(qvw l _).2 s2
   simp only[Option.getD_none,show ((0:Nat):Int)=0 from rfl] at key
   simp only[STD,h2,hall,key,qv key]
  ·rw[s1] at key
   have hall:=quk (p:=fun d=>decide (q4A d p)) hk s2
   simp only[Option.getD_some,show ((0:Nat):Int)=0 from rfl] at key
   simp only[STD,h2,hall,key,qv key,show ¬(1=0) by omega]
end Go.Eng

namespace Go.Eng
theorem j0{S:List PV→TR}{α:Type}(st:Nat→List PV)(f:Nat→Option α)(g:α→List PV)(fin:List PV)(n:Nat)(hn:n<9223372036854775808)
  (h:∀i,i<n→(S (st i)).run=(f i).elim (some (0,st (i+1))) (fun a=>some (2,g a))) (h3:(S (st n)).run=some (1,fin)) :
  (qg S (st 0)).run=some ((yx f 0 n).elim (0,fin) (fun a=>(1,g a))):=by
 have key:=qaM st (fun i=>(f i).map fun a=>(1,g a)) (0,fin) n hn (fun i hi hf=>by
  rw[h i hi]
  cases hfi:f i with
  | none=>rfl
  | some a=>rw[hfi] at hf;cases hf) (fun i r hi hf=>by
  rw[h i hi]
  cases hfi:f i with
  | none=>rw[hfi] at hf;cases hf
  | some a=>rw[hfi] at hf;simp at hf;rw[←hf];rfl) h3
 rw[key,qot]
 cases yx f 0 n<;>rfl
def sd(s:Nat):Int:=cI [[.i 0],[.i 1],[.i (-1)]] (s:Int) 0
theorem qnK(l:List DQ)(i j:Nat):yx (fun s=>qpg l i j (sd s)) 0 3=qbc l i j:=by
 have e0:sd 0=0:=rfl
 have e1:sd 1=1:=rfl
 have e2:sd 2=-1:=rfl
 simp only[yx,e0,e1,e2]
 unfold qbc
 cases qpg l i j 0
 ·cases qpg l i j 1
  ·cases qpg l i j (-1)<;>rfl
  ·rfl
 ·rfl
def dex(l:List DQ)(w:Nat×Nat×Int):List PV:=[.i 0,.r (rD l),.i (w.1:Int),.i (w.2.1:Int),.i w.2.2,.b true,.i (l.length:Int)]
def rex(w:Nat×Nat×Int):List PV:=[.b true,.i (w.1:Int),.i (w.2.1:Int),.i w.2.2]
def fW(o:Option (Nat×Nat×Int)):List PV:=o.elim [.i 0,.i 0,.i 0,.b false] (fun w=>[.i (w.1:Int),.i (w.2.1:Int),.i w.2.2,.b true])
theorem n3:qt [[U.i 0],[U.i 1],[U.i (-1)]]=3:=rfl
set_option maxHeartbeats 600000 in
theorem qs7{l:List DQ}(hl:GDs l)(hn:l.length<1000000):(qD [.r (rD l),.i 0]).run=some (0,fW (q1v l)++[.i 0]):=by
 rw[qfQ]
 have big:l.length<9223372036854775808:=by omega
 have A:=j0 (S:=wF) (fun k=>[.i (l.length:Int),.i (k:Int),.i 0,.r (rD l),.i 0,.i 0,.i 0,.b false,.i (l.length:Int)]) (fun k=>qpg l k k 0) (dex l)
  [.i 0,.r (rD l),.i 0,.i 0,.i 0,.b false,.i (l.length:Int)] l.length big
  (fun k hk=>by
   rw[q2z]
   have hp:=qsT hl hn hk hk 0
   unfold qpg
   by_cases c:qbH l k k 0=true
   ·rw[if_pos c]
    simp only[STD,hp,c,show (k:Int)<(l.length:Int) by omega,dex]
   ·rw[if_neg c]
    simp only[STD,hp,c,show (k:Int)<(l.length:Int) by omega,kZ hk big]
    rfl)
  (by rw[q2z];simp only[STD,show ¬(l.length:Int)<(l.length:Int) by omega])
 have B:=fun i j (hi:i<l.length) (hj:j<l.length)=>j0 (S:=wc) (fun s=>[.i (i:Int),.i (j:Int),.i (l.length:Int),.i (i:Int),.i 3,.i (s:Int),.i 0,.r (rD l),.i 0,.i 0,.i 0,.b false,.i (l.length:Int),.r [[.i 0],[.i 1],[.i (-1)]]]) (fun s=>qpg l i j (sd s)) (dex l)
  [.i (i:Int),.i (j:Int),.i (l.length:Int),.i (i:Int),.i 0,.r (rD l),.i 0,.i 0,.i 0,.b false,.i (l.length:Int)] 3 (by omega)
  (fun s hs=>by
   rw[q2f]
   have hp:=qsT hl hn hi hj (sd s)
   have esd:cI [[.i 0],[.i 1],[.i (-1)]] (s:Int) 0=sd s:=rfl
   unfold qpg
   by_cases c:qbH l i j (sd s)=true
   ·rw[if_pos c]
    simp only[STD,hp,c,esd,n3,show (s:Int)<3 by omega,show (0:Int)≤(s:Int) by omega,and_self,dex]
   ·rw[if_neg c]
    simp only[STD,hp,c,esd,n3,show (s:Int)<3 by omega,show (0:Int)≤(s:Int) by omega,and_self,kZ hs (show 3<9223372036854775808 by omega)]
    rfl)
  (by rw[q2f];simp only[STD,show ((3:Nat):Int)=3 from rfl,show ¬(3:Int)<3 by omega])
 have C:=fun i (hi:i<l.length)=>j0 (S:=zZ) (fun k=>[.i (i:Int),.i ((i+1+k:Nat):Int),.i (l.length:Int),.i (i:Int),.i 0,.r (rD l),.i 0,.i 0,.i 0,.b false,.i (l.length:Int)]) (fun k=>qbc l i (i+1+k)) (dex l)
  [.i (l.length:Int),.i (i:Int),.i 0,.r (rD l),.i 0,.i 0,.i 0,.b false,.i (l.length:Int)] (l.length-(i+1)) (by omega)
  (fun k hk=>by
   rw[q2e]
   have hj:i+1+k<l.length:=by omega
   have b:=B i (i+1+k) hi hj
   rw[qnK] at b
   simp only[show ((0:Nat):Int)=0 from rfl] at b
   have w:=kZ hj big
   cases hs:qbc l i (i+1+k) with
   | none=>
    rw[hs] at b
    simp only[Option.elim] at b ⊢
    simp only[STD,b,qv b,n3,show ((i+1+k:Nat):Int)<(l.length:Int) by omega,w]
    rfl
   | some v=>
    rw[hs] at b
    simp only[Option.elim,dex] at b ⊢
    simp only[STD,b,qv b,n3,show ((i+1+k:Nat):Int)<(l.length:Int) by omega,show ¬(1=0) by omega])
  (by rw[q2e];simp only[STD,show ¬((i+1+(l.length-(i+1)):Nat):Int)<(l.length:Int) by omega])
 have D:=j0 (S:=wH) (fun i=>[.i (l.length:Int),.i (i:Int),.i 0,.r (rD l),.i 0,.i 0,.i 0,.b false,.i (l.length:Int)]) (fun i=>yx (fun k=>qbc l i (i+1+k)) 0 (l.length-(i+1))) (dex l)
  [.i 0,.r (rD l),.i 0,.i 0,.i 0,.b false,.i (l.length:Int)] l.length big
  (fun i hi=>by
   rw[q2Y]
   have c:=C i hi
   simp only[Nat.add_zero] at c
   have w:=kZ hi big
   cases hs:yx (fun k=>qbc l i (i+1+k)) 0 (l.length-(i+1)) with
   | none=>
    rw[hs] at c
    simp only[Option.elim] at c ⊢
    simp only[STD,w,c,qv c,show (i:Int)<(l.length:Int) by omega]
   | some v=>
    rw[hs] at c
    simp only[Option.elim,dex] at c ⊢
    simp only[STD,w,c,qv c,show (i:Int)<(l.length:Int) by omega,show ¬(1=0) by omega])
  (by rw[q2Y];simp only[STD,show ¬(l.length:Int)<(l.length:Int) by omega])
 simp only[show ((0:Nat):Int)=0 from rfl] at A D
 unfold q1v
 cases hs:yx (fun i=>qpg l i i 0) 0 l.length with
 | some v=>
  rw[hs] at A
  simp only[Option.elim,dex] at A
  simp only[STD,qm,A,qv A,show ¬(1=0) by omega,fW,Option.elim]
  rfl
 | none=>
  rw[hs] at A
  simp only[Option.elim] at A
  simp only[]
  cases hs':yx (fun i=>yx (fun k=>qbc l i (i+1+k)) 0 (l.length-(i+1))) 0 l.length with
  | none=>
   rw[hs'] at D
   simp only[Option.elim] at D
   simp only[STD,qm,A,qv A,D,qv D,fW,Option.elim]
   rfl
  | some v=>
   rw[hs'] at D
   simp only[Option.elim,dex] at D
   simp only[STD,qm,A,qv A,D,qv D,fW,Option.elim,show ¬(1=0) by omega]
   rfl
set_option maxHeartbeats 600000 in
theorem qv1{l:List DQ}(hl:GDs l)(hn:l.length<1000000):(vk [.r (rD l)]).run=some (0,fW (q1v l)):=by
 rw[qmr]
 have big:l.length<9223372036854775808:=by omega
 have A:=j0 (S:=q1q) (fun k=>[.r (rD l),.i (k:Int),.i 0,.i 0,.i 0]) (fun k=>qpg l k k 0) rex
  [.r (rD l),.i 0,.i 0,.i 0] l.length big
  (fun k hk=>by
   rw[qcB]
   have hp:=qsX hl hn hk hk 0
   unfold qpg
   by_cases c:qbH l k k 0=true
   ·rw[if_pos c]
    simp only[STD,hp,c,qm,show (k:Int)<(l.length:Int) by omega,rex]
   ·rw[if_neg c]
    simp only[STD,hp,c,qm,show (k:Int)<(l.length:Int) by omega,kZ hk big]
    rfl)
  (by rw[qcB];simp only[STD,qm,show ¬(l.length:Int)<(l.length:Int) by omega])
 have B:=fun i j (hi:i<l.length) (hj:j<l.length)=>j0 (S:=q0A) (fun s=>[.r (rD l),.i (i:Int),.i (j:Int),.i 3,.i (s:Int),.i 0,.i 0,.i 0,.r [[.i 0],[.i 1],[.i (-1)]]]) (fun s=>qpg l i j (sd s)) rex
  [.r (rD l),.i (i:Int),.i (j:Int),.i 0,.i 0,.i 0] 3 (by omega)
  (fun s hs=>by
   rw[qaG]
   have hp:=qsX hl hn hi hj (sd s)
   have esd:cI [[.i 0],[.i 1],[.i (-1)]] (s:Int) 0=sd s:=rfl
   unfold qpg
   by_cases c:qbH l i j (sd s)=true
   ·rw[if_pos c]
    simp only[STD,hp,c,esd,n3,show (s:Int)<3 by omega,show (0:Int)≤(s:Int) by omega,and_self,rex]
   ·rw[if_neg c]
    simp only[STD,hp,c,esd,n3,show (s:Int)<3 by omega,show (0:Int)≤(s:Int) by omega,and_self,kZ hs (show 3<9223372036854775808 by omega)]
    rfl)
  (by rw[qaG];simp only[STD,show ((3:Nat):Int)=3 from rfl,show ¬(3:Int)<3 by omega])
 have C:=fun i (hi:i<l.length)=>j0 (S:=q0C) (fun k=>[.r (rD l),.i (i:Int),.i ((i+1+k:Nat):Int),.i 0,.i 0,.i 0]) (fun k=>qbc l i (i+1+k)) rex
  [.r (rD l),.i (i:Int),.i 0,.i 0,.i 0] (l.length-(i+1)) (by omega)
  (fun k hk=>by
   rw[qbk]
   have hj:i+1+k<l.length:=by omega
   have b:=B i (i+1+k) hi hj
   rw[qnK] at b
   simp only[show ((0:Nat):Int)=0 from rfl] at b
   have w:=kZ hj big
   cases hs:qbc l i (i+1+k) with
   | none=>
    rw[hs] at b
    simp only[Option.elim] at b ⊢
    simp only[STD,b,qv b,n3,qm,show ((i+1+k:Nat):Int)<(l.length:Int) by omega,w]
    rfl
   | some v=>
    rw[hs] at b
    simp only[Option.elim,rex] at b ⊢
    simp only[STD,b,qv b,n3,qm,show ((i+1+k:Nat):Int)<(l.length:Int) by omega,show ¬(1=0) by omega])
  (by rw[qbk];simp only[STD,qm,show ¬((i+1+(l.length-(i+1)):Nat):Int)<(l.length:Int) by omega])
 have D:=j0 (S:=q0j) (fun i=>[.r (rD l),.i (i:Int),.i 0,.i 0,.i 0]) (fun i=>yx (fun k=>qbc l i (i+1+k)) 0 (l.length-(i+1))) rex
  [.i 0,.i 0,.i 0] l.length big
  (fun i hi=>by
   rw[qaC]
   have c:=C i hi
   simp only[Nat.add_zero] at c
   have w:=kZ hi big
   cases hs:yx (fun k=>qbc l i (i+1+k)) 0 (l.length-(i+1)) with
   | none=>
    rw[hs] at c
    simp only[Option.elim] at c ⊢
    simp only[STD,w,c,qv c,qm,show (i:Int)<(l.length:Int) by omega]
   | some v=>
    rw[hs] at c
    simp only[Option.elim,rex] at c ⊢
    simp only[STD,w,c,qv c,qm,show (i:Int)<(l.length:Int) by omega,show ¬(1=0) by omega])
  (by rw[qaC];simp only[STD,qm,show ¬(l.length:Int)<(l.length:Int) by omega])
 simp only[show ((0:Nat):Int)=0 from rfl] at A D
 unfold q1v
 cases hs:yx (fun i=>qpg l i i 0) 0 l.length with
 | some v=>
  rw[hs] at A
  simp only[Option.elim,rex] at A
  simp only[STD,A,qv A,show ¬(1=0) by omega,fW,Option.elim]
 | none=>
  rw[hs] at A
  simp only[Option.elim] at A
  simp only[]
  cases hs':yx (fun i=>yx (fun k=>qbc l i (i+1+k)) 0 (l.length-(i+1))) 0 l.length with
  | none=>
   rw[hs'] at D
   simp only[Option.elim] at D
   simp only[STD,A,qv A,D,qv D,fW,Option.elim]
  | some v=>
   rw[hs'] at D
   simp only[Option.elim,rex] at D
   simp only[STD,A,qv A,D,qv D,fW,Option.elim,show ¬(1=0) by omega]
end Go.Eng

namespace Go.Eng
theorem qA1{x y s:List UInt8}(h:qu6 x y s=0)(hx:shT x)(hy:shT y)(hs:shT s):∃d:DQ,GD d∧x=tQ d.x∧y=tQ d.y∧s=tQ d.s:=by
 obtain⟨d,rfl,rfl,rfl,-,-,-,hn⟩:=qyi h
 exact⟨d,⟨qqR hx,qqR hy,qzD (qqR hs),hn⟩,rfl,rfl,rfl⟩
theorem qvZ{d:DQ}(h:GD d):qu6 (tQ d.x) (tQ d.y) (tQ d.s)=0:=
 qyE ((zk h.x).ok (by omega) (by omega)) ((zk h.y).ok (by omega) (by omega)) ((q35 h.s).ok (by omega) (by omega)) h.nn
theorem quX{s:List UInt8}(h:shT s):s.length≤1000000:=by unfold shT at h;omega
theorem qqU{a b:DQ}(ga:GD a)(gb:GD b) :
  (q2T [.s (tQ a.x),.s (tQ a.y),.s (tQ a.s),.s (tQ b.x),.s (tQ b.y),.s (tQ b.s)]).run=some (0,[.i (qyd a b),.i 0]):=by
 rw[qlf]
 have ca:=qbW _ _ _ (show (tQ a.x).length≤1000000 from by have:=q8o ((zk ga.x).ok (by omega) (by omega));omega) (show (tQ a.y).length≤1000000 from by have:=q8o ((zk ga.y).ok (by omega) (by omega));omega) (show (tQ a.s).length≤1000000 from by have:=q8o ((q35 ga.s).ok (by omega) (by omega));omega)
 have cb:=qbW _ _ _ (show (tQ b.x).length≤1000000 from by have:=q8o ((zk gb.x).ok (by omega) (by omega));omega) (show (tQ b.y).length≤1000000 from by have:=q8o ((zk gb.y).ok (by omega) (by omega));omega) (show (tQ b.s).length≤1000000 from by have:=q8o ((q35 gb.s).ok (by omega) (by omega));omega)
 rw[qvZ ga] at ca
 rw[qvZ gb] at cb
 have nr:qt [[U.s (tQ a.x),U.s (tQ a.y),U.s (tQ a.s)],[U.s (tQ b.x),U.s (tQ b.y),U.s (tQ b.s)]]=2:=rfl
 have r0:∀j,cS [[U.s (tQ a.x),U.s (tQ a.y),U.s (tQ a.s)],[U.s (tQ b.x),U.s (tQ b.y),U.s (tQ b.s)]] 0 j=cS [[U.s (tQ a.x),U.s (tQ a.y),U.s (tQ a.s)]] 0 j:=fun j=>rfl
 have r1:∀j,cS [[U.s (tQ a.x),U.s (tQ a.y),U.s (tQ a.s)],[U.s (tQ b.x),U.s (tQ b.y),U.s (tQ b.s)]] 1 j=cS [[U.s (tQ b.x),U.s (tQ b.y),U.s (tQ b.s)]] 0 j:=fun j=>rfl
 have q0:∀d:DQ,cS [[U.s (tQ d.x),U.s (tQ d.y),U.s (tQ d.s)]] 0 0=tQ d.x∧cS [[U.s (tQ d.x),U.s (tQ d.y),U.s (tQ d.s)]] 0 1=tQ d.y∧cS [[U.s (tQ d.x),U.s (tQ d.y),U.s (tQ d.s)]] 0 2=tQ d.s:=fun d=>⟨rfl,rfl,rfl⟩
 have L:=j0 (S:=q0v) (fun k=>[.i 2,.i (k:Int),.s (tQ a.x),.s (tQ a.y),.s (tQ a.s),.s (tQ b.x),.s (tQ b.y),.s (tQ b.s),.r [[U.s (tQ a.x),U.s (tQ a.y),U.s (tQ a.s)],[U.s (tQ b.x),U.s (tQ b.y),U.s (tQ b.s)]]]) (fun _=>(none:Option Nat)) (fun _=>[])
  [.s (tQ a.x),.s (tQ a.y),.s (tQ a.s),.s (tQ b.x),.s (tQ b.y),.s (tQ b.s)] 2 (by omega)
  (fun k hk=>by
   rw[qaP]
   have w:=kZ hk (show 2<9223372036854775808 by omega)
   rcases (show k=0∨k=1 by omega) with rfl|rfl
   ·simp only[show ((0:Nat):Int)=0 from rfl,r0,q0,nr] at w ⊢
    simp only[STD,ca,w,Int.le_refl,show (0:Int)<2 by omega,and_self]
    rfl
   ·simp only[show ((1:Nat):Int)=1 from rfl,r1,q0,nr] at w ⊢
    simp only[STD,cb,w,show (0:Int)≤1 by omega,show (1:Int)<2 by omega,and_self]
    rfl)
  (by rw[qaP];simp only[STD,show ((2:Nat):Int)=2 from rfl,show ¬(2:Int)<2 by omega])
 simp only[show ((0:Nat):Int)=0 from rfl,yx,Option.elim] at L
 have w1:=qey ga.sh gb.sh ga.nn gb.nn
 have w2:=qey gb.sh ga.sh gb.nn ga.nn
 have w3:=qxy ga.sh gb.sh ga.nn gb.nn qwN
 rw[qyG] at w3
 have bd:=qx2 a b (-2)
 have wn:=qo4 (x:=qmM a b (-2)) (by omega)
 unfold qyd
 by_cases c1:q3k a b
 ·simp only[STD,nr,L,qv L,w1,c1]
 ·by_cases c2:q3k b a
  ·simp only[STD,nr,L,qv L,w1,w2,c1,c2]
  ·simp only[STD,nr,L,qv L,w1,w2,w3,c1,c2,wn]
end Go.Eng

namespace Go.Eng
noncomputable def cD(x:R)(i:Nat):Int:=qu6 (cS x (i:Int) 0) (cS x (i:Int) 1) (cS x (i:Int) 2)
noncomputable def lE(x:R):Int:=if 64<x.length then 5 else if qdG (cD x) x.length=0 then (if x.length=0 then 13 else 0) else qdG (cD x) x.length
theorem qdX(x:R)(h:64<x.length∨∀i,i<x.length→∀j,(cS x (i:Int) j).length≤1000000):(z7 [.r x]).run=some (0,[.i (lE x)]):=by
 rw[qp4]
 unfold lE
 by_cases hn:64<x.length
 ·have:(64:Int)<qt x:=by unfold qt;omega
  simp only[STD,this,hn]
 ·have h':∀i,i<x.length→∀j,(cS x (i:Int) j).length≤1000000:=by
   rcases h with h|h
   ·omega
   ·exact h
  have hn':¬(64:Int)<qt x:=by unfold qt;omega
  have L:=qsu (S:=q2w) (fun k=>[.r x,.r x,.i (qt x),.i (k:Int)]) (cD x) [] [.r x] x.length (by omega)
   (fun i hi=>by
    rw[qdQ]
    have c:=qbW _ _ _ (h' i hi 0) (h' i hi 1) (h' i hi 2)
    have w:=kZ hi (show x.length<9223372036854775808 by omega)
    by_cases e:qu6 (cS x (i:Int) 0) (cS x (i:Int) 1) (cS x (i:Int) 2)=0
    ·simp only[STD,c,e,w,qkA hi,js,and_self,cD]
    ·simp only[STD,c,e,qkA hi,js,and_self,cD])
   (by rw[qdQ];simp only[STD,qoc])
  simp only[show ((0:Nat):Int)=0 from rfl] at L
  by_cases e:qdG (cD x) x.length=0
  ·rw[if_pos e] at L
   by_cases z:x.length=0
   ·have:qt x=0:=by unfold qt;omega
    rw[if_neg hn,if_pos e,if_pos z]
    have L':=L
    rw[this] at L'
    simp only[STD,this,show ¬(64:Int)<0 by omega,L',qv L']
   ·have:¬qt x=0:=by unfold qt;omega
    simp only[STD,hn',L,qv L,hn,e,z,this]
  ·rw[if_neg e] at L
   simp only[STD,hn',L,qv L,hn,e,show ¬(1=0) by omega]
theorem qdq(x:R)(h:64<x.length∨∀i,i<x.length→∀j,(cS x (i:Int) j).length≤1000000):(kV [.r x]).run=some (0,[.i (lE x)]):=by
 rw[qo7]
 unfold lE
 by_cases hn:64<x.length
 ·have:(64:Int)<qt x:=by unfold qt;omega
  simp only[STD,this,hn]
 ·have h':∀i,i<x.length→∀j,(cS x (i:Int) j).length≤1000000:=by
   rcases h with h|h
   ·omega
   ·exact h
  have hn':¬(64:Int)<qt x:=by unfold qt;omega
  have L:=qsu (S:=q2U) (fun k=>[.r x,.i (k:Int)]) (cD x) [] [.r x] x.length (by omega)
   (fun i hi=>by
    rw[qdF]
    have c:=qoW _ _ _ (h' i hi 0) (h' i hi 1) (h' i hi 2)
    have w:=kZ hi (show x.length<9223372036854775808 by omega)
    by_cases e:qu6 (cS x (i:Int) 0) (cS x (i:Int) 1) (cS x (i:Int) 2)=0
    ·simp only[STD,c,e,w,qkA hi,js,and_self,cD]
    ·simp only[STD,c,e,qkA hi,js,and_self,cD])
   (by rw[qdF];simp only[STD,qoc])
  simp only[show ((0:Nat):Int)=0 from rfl] at L
  by_cases e:qdG (cD x) x.length=0
  ·rw[if_pos e] at L
   by_cases z:x.length=0
   ·have:qt x=0:=by unfold qt;omega
    rw[if_neg hn,if_pos e,if_pos z]
    simp only[STD,this,show ¬(64:Int)<0 by omega,L,qv L]
   ·have:¬qt x=0:=by unfold qt;omega
    simp only[STD,hn',L,qv L,hn,e,z,this]
  ·rw[if_neg e] at L
   simp only[STD,hn',L,qv L,hn,e,show ¬(1=0) by omega]
instance (s:List UInt8):Decidable (shT s):=by unfold shT;infer_instance
theorem qz3(s:List UInt8):((12:Int)<ql s)=¬shT s:=by unfold ql shT;exact propext ⟨fun h=>by omega,fun h=>by omega⟩
theorem qw9(x y s:List UInt8):(q1Z [.s x,.s y,.s s]).run=some (0,[.b (decide (shT x∧shT y∧shT s))]):=by
 rw[qmF]
 have nr:qt [[U.s x],[U.s y],[U.s s]]=3:=rfl
 have L:=j0 (S:=q1c) (fun k=>[.i 3,.i (k:Int),.r [[.s x],[.s y],[.s s]]]) (fun k=>if shT (cS [[.s x],[.s y],[.s s]] (k:Int) 0) then none else some ()) (fun _=>[.b false])
  [] 3 (by omega)
  (fun k hk=>by
   rw[qcK]
   have w:=kZ hk (show 3<9223372036854775808 by omega)
   by_cases c:shT (cS [[.s x],[.s y],[.s s]] (k:Int) 0)
   ·rw[if_pos c]
    simp only[STD,nr,show (k:Int)<3 by omega,js,and_self,qz3,c,w]
    rfl
   ·rw[if_neg c]
    simp only[STD,nr,show (k:Int)<3 by omega,js,and_self,qz3,c]
    try rfl)
  (by rw[qcK];simp only[STD,show ((3:Nat):Int)=3 from rfl,show ¬(3:Int)<3 by omega])
 have d0:cS [[.s x],[.s y],[.s s]] ((0:Nat):Int) 0=x:=rfl
 have d1:cS [[.s x],[.s y],[.s s]] ((0+1:Nat):Int) 0=y:=rfl
 have d2:cS [[.s x],[.s y],[.s s]] ((0+1+1:Nat):Int) 0=s:=rfl
 simp only[yx,d0,d1,d2] at L
 simp only[show ((0:Nat):Int)=0 from rfl] at L
 by_cases c0:shT x
 ·by_cases c1:shT y
  ·by_cases c2:shT s
   ·simp only[c0,c1,c2,if_true,Option.elim] at L
    simp only[STD,nr,L,qv L,c0,c1,c2,and_self,decide_true]
   ·simp only[c0,c1,c2,if_true,if_false,Option.elim] at L
    simp only[STD,nr,L,qv L,c0,c1,c2,and_false,decide_false,show ¬(1=0) by omega]
  ·simp only[c0,c1,if_true,if_false,Option.elim] at L
   simp only[STD,nr,L,qv L,c0,c1,and_false,false_and,decide_false,show ¬(1=0) by omega]
 ·simp only[c0,if_false,Option.elim] at L
  simp only[STD,nr,L,qv L,c0,false_and,decide_false,show ¬(1=0) by omega]
def qjK(x:R)(i:Nat):Prop:=shT (cS x (i:Int) 0)∧shT (cS x (i:Int) 1)∧shT (cS x (i:Int) 2)
theorem qyj(x:R):∃b,(q8i [.r x]).run=some (0,[.b b])∧(b=true→(x.length≤5∧∀i,i<x.length→qjK x i)∨64<x.length)∧(x.length≤5→(∀i,i<x.length→qjK x i)→b=true):=by
 rw[qq8]
 have L:=j0 (S:=q4d) (fun k=>[.r x,.i (k:Int)]) (fun k=>if decide (shT (cS x (k:Int) 0)∧shT (cS x (k:Int) 1)∧shT (cS x (k:Int) 2))=true then none else some ()) (fun _=>[.b false])
  [.r x] (min x.length 6) (by omega)
  (fun k hk=>by
   rw[qf8]
   have hk':k<x.length:=by omega
   have w:=kZ hk (show min x.length 6<9223372036854775808 by omega)
   have s:=qw9 (cS x (k:Int) 0) (cS x (k:Int) 1) (cS x (k:Int) 2)
   by_cases c:shT (cS x (k:Int) 0)∧shT (cS x (k:Int) 1)∧shT (cS x (k:Int) 2)
   ·have c':decide (shT (cS x (k:Int) 0)∧shT (cS x (k:Int) 1)∧shT (cS x (k:Int) 2))=true:=by simp[c]
    rw[if_pos c']
    rw[c'] at s
    simp only[STD,s,qkA hk',js,and_self,w,show (k:Int)<6 by omega]
    rfl
   ·have c':decide (shT (cS x (k:Int) 0)∧shT (cS x (k:Int) 1)∧shT (cS x (k:Int) 2))=false:=by simp only[c,decide_false]
    rw[c'] at s
    rw[c',if_neg (by simp)]
    simp only[STD,s,qkA hk',js,and_self,show (k:Int)<6 by omega]
    try rfl)
  (by
   rw[qf8]
   by_cases c:x.length≤6
   ·rw[Nat.min_eq_left c]
    simp only[STD,qoc]
   ·rw[Nat.min_eq_right (by omega)]
    have:((6:Nat):Int)<qt x:=by unfold qt;omega
    simp only[STD,this,show ¬((6:Nat):Int)<6 by omega])
 simp only[show ((0:Nat):Int)=0 from rfl] at L
 rcases qo9 (fun k=>decide (shT (cS x (k:Int) 0)∧shT (cS x (k:Int) 1)∧shT (cS x (k:Int) 2))) (fun _=>()) (min x.length 6) with⟨s1,s2⟩|⟨k,hk,s2,s1⟩
 ·rw[s1] at L
  simp only[Option.elim] at L
  by_cases c:x.length≤5
  ·have:qt x≤5:=by unfold qt;omega
   refine⟨true,by simp only[STD,L,qv L,this],fun _=>.inl ⟨c,fun i hi=>?_⟩,fun _ _=>rfl⟩
   have:=s2 i (by omega)
   simpa[qjK] using this
  ·have h5:¬qt x≤5:=by unfold qt;omega
   by_cases c':64<x.length
   ·have h6:(64:Int)<qt x:=by unfold qt;omega
    exact⟨ilt (qt x) 128,by simp only[STD,L,qv L,h5,h6],fun _=>.inr c',fun h=>absurd h c⟩
   ·have h6:¬(64:Int)<qt x:=by unfold qt;omega
    exact⟨false,by simp only[STD,L,qv L,h5,h6],fun h=>(by simp at h),fun h=>absurd h c⟩
 ·rw[s1] at L
  simp only[Option.elim] at L
  refine⟨false,by simp only[STD,L,qv L,show ¬(1=0) by omega],fun h=>(by simp at h),fun h1 h2=>?_⟩
  have:=h2 k (by omega)
  unfold qjK at this
  simp only[this,and_self,decide_true] at s2
  simp at s2
def isD(x:R):Prop:=∀r,r∈x→∃a b c,r=[U.s a,U.s b,U.s c]
theorem qvu{x:R}(h:UFit (.sl [.str,.str,.str]) (.l x)):isD x:=by
 cases h with
 | sl row l h hl hf=>
  intro r hr
  have hlen:=hl r hr
  match r,hlen with
  | [a,b,c],_=>
   have ha:=hf [a,b,c] 0 .str a hr rfl rfl
   have hb:=hf [a,b,c] 1 .str b hr rfl rfl
   have hc:=hf [a,b,c] 2 .str c hr rfl rfl
   cases ha;cases hb;cases hc
   exact⟨_,_,_,rfl⟩
theorem qoi(x:R)(i:Nat)(j:Nat):cS x (i:Int) j=((x.getD i []).getD j (.i 0)).toS:=rfl
theorem qwg:∀{x:R},isD x→(∀i,i<x.length→qjK x i)→(∀i,i<x.length→cD x i=0)→∃l,x=rD l∧GDs l∧l.length=x.length
 | [],_,_,_=>⟨[],rfl,(fun d h=>nomatch h),rfl⟩
 | r::x,h1,h2,h3=>by
  obtain⟨l,e1,e2,e3⟩:=qwg (x:=x) (fun r hr=>h1 r (List.mem_cons_of_mem _ hr))
   (fun i hi=>by have:=h2 (i+1) (by simp;omega);unfold qjK at this ⊢;simp only[qoi] at this ⊢;simpa using this)
   (fun i hi=>by have:=h3 (i+1) (by simp;omega);unfold cD at this ⊢;simp only[qoi] at this ⊢;simpa using this)
  obtain⟨a,b,c,rfl⟩:=h1 r List.mem_cons_self
  have s:=h2 0 (by simp)
  have k:=h3 0 (by simp)
  unfold qjK at s
  unfold cD at k
  have z0:cS ([U.s a,U.s b,U.s c]::x) ((0:Nat):Int) 0=a:=rfl
  have z1:cS ([U.s a,U.s b,U.s c]::x) ((0:Nat):Int) 1=b:=rfl
  have z2:cS ([U.s a,U.s b,U.s c]::x) ((0:Nat):Int) 2=c:=rfl
  rw[z0,z1,z2] at s k
  obtain⟨d,gd,rfl,rfl,rfl⟩:=qA1 k s.1 s.2.1 s.2.2
  refine⟨d::l,by rw[e1];rfl,fun e he=>?_,by simp[e3]⟩
  rcases List.mem_cons.1 he with rfl|he
  ·exact gd
  ·exact e2 e he
theorem qpC{x:R}(hD:isD x)(hF:(x.length≤5∧∀i,i<x.length→qjK x i)∨64<x.length)(h:lE x=0):∃l,x=rD l∧GDs l∧l≠[]∧l.length≤5:=by
 unfold lE at h
 split at h
 ·omega
 ·rename_i hn
  obtain⟨h5,hs⟩:x.length≤5∧∀i,i<x.length→qjK x i:=by
   rcases hF with h|h
   ·exact h
   ·omega
  split at h
  ·rename_i he
   split at h
   ·omega
   ·rename_i hz
    obtain⟨l,e1,e2,e3⟩:=qwg hD hs (fun i hi=>qrQ he i hi)
    exact⟨l,e1,e2,fun h=>hz (by rw[←e3,h];rfl),by omega⟩
  ·rename_i he;exact absurd h he
theorem qnY{x:R}(hF:(x.length≤5∧∀i,i<x.length→qjK x i)∨64<x.length)(hD:isD x):64<x.length∨∀i,i<x.length→∀j,(cS x (i:Int) j).length≤1000000:=by
 rcases hF with⟨h1,h2⟩|h
 ·right
  intro i hi j
  obtain⟨s0,s1,s2⟩:=h2 i hi
  match j with
  | 0=>exact quX s0
  | 1=>exact quX s1
  | 2=>exact quX s2
  | j+3=>
   rw[qoi]
   have hm:x.getD i []∈x:=by simp[List.getD_eq_getElem?_getD,hi]
   obtain⟨a,b,c,e⟩:=hD _ hm
   rw[e];simp[List.getD_eq_getElem?_getD,U.toS]
 ·exact .inl h
theorem qyU{l:List DQ}(hl:GDs l)(h0:l≠[])(hn:l.length≤64):lE (rD l)=0:=by
 have hlen:(rD l).length=l.length:=by simp[rD]
 have hz:l.length≠0:=fun h=>h0 (List.length_eq_zero_iff.1 h)
 unfold lE
 rw[hlen,if_neg (by omega),if_neg hz,if_pos]
 refine qwl fun i hi=>?_
 obtain⟨x1,x2,x3⟩:=q98 hi
 unfold cD
 rw[x1,x2,x3]
 exact qvZ (hl.ix hi)
theorem quf{l:List DQ}(hl:GDs l):∀i,i<(rD l).length→∀j,(cS (rD l) (i:Int) j).length≤1000000:=by
 intro i hi j
 have hi':i<l.length:=by simpa[rD] using hi
 obtain⟨x1,x2,x3⟩:=q98 hi'
 have g:=hl.ix hi'
 match j with
 | 0=>rw[x1];have:=q8o ((zk g.x).ok (by omega) (by omega));omega
 | 1=>rw[x2];have:=q8o ((zk g.y).ok (by omega) (by omega));omega
 | 2=>rw[x3];have:=q8o ((q35 g.s).ok (by omega) (by omega));omega
 | j+3=>
  rw[qoi]
  have e:(rD l).getD i []=qd4 (ix l i):=by
   unfold rD ix
   simp[List.getD_eq_getElem?_getD,hi']
  rw[e];simp[qd4,List.getD_eq_getElem?_getD,U.toS]
theorem qkL{l:List DQ}(hl:GDs l)(h0:l≠[])(hn:l.length≤64):(z7 [.r (rD l)]).run=some (0,[.i 0]):=by
 rw[qdX _ (.inr (quf hl)),qyU hl h0 hn]
theorem qpx{l:List DQ}(hl:GDs l)(h0:l≠[])(hn:l.length≤64):(kV [.r (rD l)]).run=some (0,[.i 0]):=by
 rw[qdq _ (.inr (quf hl)),qyU hl h0 hn]
def cW(o:Option (Nat×Nat×Int)):List PV:=o.elim [.b false,.i 0,.i 0,.i 0,.i 0] (fun w=>[.b true,.i (w.1:Int),.i (w.2.1:Int),.i w.2.2,.i 0])
theorem qlV{l:List DQ}(hl:GDs l)(h0:l≠[])(hn:l.length≤64):(q0O [.r (rD l)]).run=some (0,cW (q1v l)):=by
 rw[qkp]
 have a:=qkL hl h0 hn
 have b:=qs7 hl (by omega)
 cases hf:q1v l with
 | none=>
  rw[hf] at b
  simp only[fW,Option.elim,List.cons_append,List.nil_append] at b
  simp only[STD,a,b,cW,Option.elim]
 | some w=>
  rw[hf] at b
  simp only[fW,Option.elim,List.cons_append,List.nil_append] at b
  simp only[STD,a,b,cW,Option.elim]
end Go.Eng

namespace Go.Eng
theorem q8e(l:R)(h:l.length<9223372036854775808):(zY [.r l,.r l]).run=some (0,[.b true]):=by
 have e:(qg wI [.r l,.r l,.i (qt l),.i 0]).run=some (0,[]):=by
  refine yK (fun i=>[.r l,.r l,.i (qt l),.i (i:Int)]) (0,[]) l.length h (fun i hi=>?_) ?_
  ·have h1:(i:Int)<qt l:=by unfold qt;omega
   rw[q2D]
   simp only[STD,h1,kZ hi h,show (0:Int)≤(i:Int) by omega,and_self]
  ·rw[q2D]
   simp only[STD,show ¬((l.length:Int)<qt l) by unfold qt;omega]
 rw[qcj]
 simp only[STD,e,qv e]
end Go.Eng

namespace Go.Eng
def two(i j:Nat):R:=[[.i (i:Int)],[.i (j:Int)]]
def qk4(i j k:Nat):R:=[[.i (i:Int)],[.i (j:Int)],[.i (k:Int)]]
def q12(l:List DQ)(i j:Nat):Option R:=if (q1v [ix l i,ix l j]).isSome=true then none else some (two i j)
def q3F(l:List DQ)(i j k:Nat):Option R:=if (q1v [ix l i,ix l j,ix l k]).isSome=true then none else some (qk4 i j k)
def qtt(l:List DQ):Option R:=yx (fun i=>yx (fun k=>q12 l i (i+1+k)) 0 (l.length-(i+1))) 0 l.length
def qvY(l:List DQ):Option R:=yx (fun i=>yx (fun k=>yx (fun m=>q3F l i (i+1+k) (i+1+k+1+m)) 0 (l.length-(i+1+k+1))) 0 (l.length-(i+1))) 0 l.length
def q9O(l:List DQ):R:=(qtt l).elim ((qvY l).getD []) id
theorem qzG{a b:DQ}(ga:GD a)(gb:GD b):GDs [a,b]:=fun d hd=>by
 simp only[List.mem_cons,List.not_mem_nil,or_false] at hd
 rcases hd with rfl|rfl<;>assumption
theorem qA5{a b c:DQ}(ga:GD a)(gb:GD b)(gc:GD c):GDs [a,b,c]:=fun d hd=>by
 simp only[List.mem_cons,List.not_mem_nil,or_false] at hd
 rcases hd with rfl|rfl|rfl<;>assumption
theorem qo3(o:Option (Nat×Nat×Int)):∃a b c,fW o=[.i a,.i b,.i c,.b o.isSome]:=by
 cases o with
 | none=>exact⟨_,_,_,rfl⟩
 | some w=>exact⟨_,_,_,rfl⟩
theorem qA2(l:List DQ)(i j k:Nat)(hk:k<2):∃m,(m=i∨m=j)∧cI (two i j) (k:Int) 0=(m:Int)∧[qd4 (ix l i),qd4 (ix l j)].take (k+1)=[qd4 (ix l i),qd4 (ix l j)].take k++[qd4 (ix l m)]:=by
 rcases (show k=0∨k=1 by omega) with rfl|rfl
 ·exact⟨i,.inl rfl,rfl,rfl⟩
 ·exact⟨j,.inr rfl,rfl,rfl⟩
theorem qzU(l:List DQ)(i j o k:Nat)(hk:k<3):∃m,(m=i∨m=j∨m=o)∧cI (qk4 i j o) (k:Int) 0=(m:Int)∧[qd4 (ix l i),qd4 (ix l j),qd4 (ix l o)].take (k+1)=[qd4 (ix l i),qd4 (ix l j),qd4 (ix l o)].take k++[qd4 (ix l m)]:=by
 rcases (show k=0∨k=1∨k=2 by omega) with rfl|rfl|rfl
 ·exact⟨i,.inl rfl,rfl,rfl⟩
 ·exact⟨j,.inr (.inl rfl),rfl,rfl⟩
 ·exact⟨o,.inr (.inr rfl),rfl,rfl⟩
theorem qps{x:R}{k:Nat}:qt (x.take k)≤qt x:=by unfold qt;rw[List.length_take];omega
theorem qsc(i j:Nat):qt (two i j)=2:=rfl
theorem qnh(i j k:Nat):qt (qk4 i j k)=3:=rfl
theorem qv7{l:List DQ}(_:l.length<1000000){i j:Nat}(hi:i<l.length)(hj:j<l.length)(a b c d e f g h:Int) :
  (qg qU [.i (qt (two i j)),.i 0,.i a,.i b,.i c,.i d,.i e,.r (rD l),.i f,.i g,.i h,.r (rD l),.i 0,.r (two i j),.r []]).run=some (0,[.i a,.i b,.i c,.i d,.i e,.r (rD l),.i f,.i g,.i h,.r (rD l),.i 0,.r (two i j),.r (rD [ix l i,ix l j])]):=by
 have key:=yK (S:=qU) (fun k=>[.i (qt (two i j)),.i (k:Int),.i a,.i b,.i c,.i d,.i e,.r (rD l),.i f,.i g,.i h,.r (rD l),.i 0,.r (two i j),.r ([qd4 (ix l i),qd4 (ix l j)].take k)])
  (0,[.i a,.i b,.i c,.i d,.i e,.r (rD l),.i f,.i g,.i h,.r (rD l),.i 0,.r (two i j),.r (rD [ix l i,ix l j])]) 2 (by omega)
  (fun k hk=>by
   rw[kU]
   obtain⟨m,hm,e1,e2⟩:=qA2 l i j k hk
   have hml:m<l.length:=by rcases hm with rfl|rfl<;>assumption
   obtain⟨x1,x2,x3⟩:=q98 hml
   have w:=kZ hk (show 2<9223372036854775808 by omega)
   have t:=qps (x:=[qd4 (ix l i),qd4 (ix l j)]) (k:=k)
   have t2:qt [qd4 (ix l i),qd4 (ix l j)]=2:=rfl
   have t1:qt [[U.s (tQ (ix l m).x),U.s (tQ (ix l m).y),U.s (tQ (ix l m).s)]]=1:=rfl
   rw[e1,x1,x2,x3,e2]
   simp only[STD,qsc,show (k:Int)<2 by omega,js,qm,show (m:Int)<(l.length:Int) by omega,and_self,w,show qt ([qd4 (ix l i),qd4 (ix l j)].take k)+qt [[U.s (tQ (ix l m).x),U.s (tQ (ix l m).y),U.s (tQ (ix l m).s)]]≤2932031007402 by omega]
   rfl)
  (by rw[kU];simp only[STD,qsc,show ¬((2:Nat):Int)<2 by omega];rfl)
 exact key
theorem qv2{l:List DQ}(_:l.length<1000000){i j o:Nat}(hi:i<l.length)(hj:j<l.length)(ho:o<l.length)(a b c d e f g h p q:Int) :
  (qg qT [.i (qt (qk4 i j o)),.i 0,.i a,.i b,.i c,.i d,.i e,.i f,.r (rD l),.i g,.i h,.i p,.i q,.r (rD l),.i 0,.r (qk4 i j o),.r []]).run=some (0,[.i a,.i b,.i c,.i d,.i e,.i f,.r (rD l),.i g,.i h,.i p,.i q,.r (rD l),.i 0,.r (qk4 i j o),.r (rD [ix l i,ix l j,ix l o])]):=by
 have key:=yK (S:=qT) (fun k=>[.i (qt (qk4 i j o)),.i (k:Int),.i a,.i b,.i c,.i d,.i e,.i f,.r (rD l),.i g,.i h,.i p,.i q,.r (rD l),.i 0,.r (qk4 i j o),.r ([qd4 (ix l i),qd4 (ix l j),qd4 (ix l o)].take k)])
  (0,[.i a,.i b,.i c,.i d,.i e,.i f,.r (rD l),.i g,.i h,.i p,.i q,.r (rD l),.i 0,.r (qk4 i j o),.r (rD [ix l i,ix l j,ix l o])]) 3 (by omega)
  (fun k hk=>by
   rw[kT]
   obtain⟨m,hm,e1,e2⟩:=qzU l i j o k hk
   have hml:m<l.length:=by rcases hm with rfl|rfl|rfl<;>assumption
   obtain⟨x1,x2,x3⟩:=q98 hml
   have w:=kZ hk (show 3<9223372036854775808 by omega)
   have t:=qps (x:=[qd4 (ix l i),qd4 (ix l j),qd4 (ix l o)]) (k:=k)
   have t2:qt [qd4 (ix l i),qd4 (ix l j),qd4 (ix l o)]=3:=rfl
   have t1:qt [[U.s (tQ (ix l m).x),U.s (tQ (ix l m).y),U.s (tQ (ix l m).s)]]=1:=rfl
   rw[e1,x1,x2,x3,e2]
   simp only[STD,qnh,show (k:Int)<3 by omega,js,qm,show (m:Int)<(l.length:Int) by omega,and_self,w,show qt ([qd4 (ix l i),qd4 (ix l j),qd4 (ix l o)].take k)+qt [[U.s (tQ (ix l m).x),U.s (tQ (ix l m).y),U.s (tQ (ix l m).s)]]≤2932031007402 by omega]
   rfl)
  (by rw[kT];simp only[STD,qnh,show ¬((3:Nat):Int)<3 by omega];rfl)
 exact key
theorem qgh{l:List DQ}(hl:GDs l)(h0:l≠[])(hn:l.length≤64):(qZ [.r (rD l)]).run=some (0,[.r (q9O l),.i 0]):=by
 rw[q4S]
 have a:=qkL hl h0 hn
 have big:l.length<9223372036854775808:=by omega
 have A:=fun i (hi:i<l.length)=>j0 (S:=wS) (fun k=>[.i (i:Int),.i ((i+1+k:Nat):Int),.i (l.length:Int),.i (i:Int),.r (rD l),.i 0]) (fun k=>q12 l i (i+1+k)) (fun r=>[.i 0,.r r])
  [.i (l.length:Int),.i (i:Int),.r (rD l),.i 0] (l.length-(i+1)) (by omega)
  (fun k hk=>by
   rw[q2I]
   have hj:i+1+k<l.length:=by omega
   have g:=qv7 (l:=l) (by omega) hi hj (i:Int) ((i+1+k:Nat):Int) (l.length:Int) (i:Int) ((i+1+k:Nat):Int) (l.length:Int) (i:Int) ((i+1+k:Nat):Int)
   have f:=qs7 (qzG (hl.ix hi) (hl.ix hj)) (by simp)
   obtain⟨u,v,w,hfw⟩:=qo3 (q1v [ix l i,ix l (i+1+k)])
   rw[hfw] at f
   simp only[List.cons_append,List.nil_append] at f
   have ws:=kZ hj big
   have tw:[[U.i (i:Int)],[U.i ((i+1+k:Nat):Int)]]=two i (i+1+k):=rfl
   rw[tw]
   unfold q12
   cases hs:(q1v [ix l i,ix l (i+1+k)]).isSome
   ·rw[hs] at f
    simp only[STD,qm,g,f,show ((i+1+k:Nat):Int)<(l.length:Int) by omega,show ieq 0 0=true from rfl,Option.elim,tw]
   ·rw[hs] at f
    simp only[STD,qm,g,f,show ((i+1+k:Nat):Int)<(l.length:Int) by omega,Option.elim,ws]
    rfl)
  (by rw[q2I];simp only[STD,qm,show ¬((i+1+(l.length-(i+1)):Nat):Int)<(l.length:Int) by omega])
 have B:=j0 (S:=va) (fun i=>[.i (l.length:Int),.i (i:Int),.r (rD l),.i 0]) (fun i=>yx (fun k=>q12 l i (i+1+k)) 0 (l.length-(i+1))) (fun r=>[.i 0,.r r])
  [.r (rD l),.i 0] l.length big
  (fun i hi=>by
   rw[q3z]
   have c:=A i hi
   simp only[Nat.add_zero] at c
   have w:=kZ hi big
   cases hs:yx (fun k=>q12 l i (i+1+k)) 0 (l.length-(i+1)) with
   | none=>
    rw[hs] at c
    simp only[Option.elim] at c ⊢
    simp only[STD,w,c,qv c,show (i:Int)<(l.length:Int) by omega]
   | some v=>
    rw[hs] at c
    simp only[Option.elim] at c ⊢
    simp only[STD,w,c,qv c,show (i:Int)<(l.length:Int) by omega,show ¬(1=0) by omega])
  (by rw[q3z];simp only[STD,show ¬(l.length:Int)<(l.length:Int) by omega])
 have C:=fun i j (hi:i<l.length) (hj:j<l.length)=>j0 (S:=wK) (fun k=>[.i (i:Int),.i (j:Int),.i ((j+1+k:Nat):Int),.i (l.length:Int),.i (i:Int),.r (rD l),.i 0]) (fun k=>q3F l i j (j+1+k)) (fun r=>[.i 0,.r r])
  [.i (i:Int),.i (j:Int),.i (l.length:Int),.i (i:Int),.r (rD l),.i 0] (l.length-(j+1)) (by omega)
  (fun k hk=>by
   rw[q2J]
   have ho:j+1+k<l.length:=by omega
   have g:=qv2 (l:=l) (by omega) hi hj ho (i:Int) (j:Int) ((j+1+k:Nat):Int) (l.length:Int) (i:Int) ((j+1+k:Nat):Int) (l.length:Int) (i:Int) (j:Int) ((j+1+k:Nat):Int)
   have f:=qs7 (qA5 (hl.ix hi) (hl.ix hj) (hl.ix ho)) (by simp)
   obtain⟨u,v,w,hfw⟩:=qo3 (q1v [ix l i,ix l j,ix l (j+1+k)])
   rw[hfw] at f
   simp only[List.cons_append,List.nil_append] at f
   have ws:=kZ ho big
   have tw:[[U.i (i:Int)],[U.i (j:Int)],[U.i ((j+1+k:Nat):Int)]]=qk4 i j (j+1+k):=rfl
   rw[tw]
   unfold q3F
   cases hs:(q1v [ix l i,ix l j,ix l (j+1+k)]).isSome
   ·rw[hs] at f
    simp only[STD,qm,g,f,show ((j+1+k:Nat):Int)<(l.length:Int) by omega,show ieq 0 0=true from rfl,Option.elim,tw]
   ·rw[hs] at f
    simp only[STD,qm,g,f,show ((j+1+k:Nat):Int)<(l.length:Int) by omega,Option.elim,ws]
    rfl)
  (by rw[q2J];simp only[STD,qm,show ¬((j+1+(l.length-(j+1)):Nat):Int)<(l.length:Int) by omega])
 have D:=fun i (hi:i<l.length)=>j0 (S:=wR) (fun k=>[.i (i:Int),.i ((i+1+k:Nat):Int),.i (l.length:Int),.i (i:Int),.r (rD l),.i 0]) (fun k=>yx (fun m=>q3F l i (i+1+k) (i+1+k+1+m)) 0 (l.length-(i+1+k+1))) (fun r=>[.i 0,.r r])
  [.i (l.length:Int),.i (i:Int),.r (rD l),.i 0] (l.length-(i+1)) (by omega)
  (fun k hk=>by
   rw[q2W]
   have hj:i+1+k<l.length:=by omega
   have c:=C i (i+1+k) hi hj
   simp only[Nat.add_zero] at c
   have w:=kZ hj big
   cases hs:yx (fun m=>q3F l i (i+1+k) (i+1+k+1+m)) 0 (l.length-(i+1+k+1)) with
   | none=>
    rw[hs] at c
    simp only[Option.elim] at c ⊢
    simp only[STD,w,c,qv c,qm,show ((i+1+k:Nat):Int)<(l.length:Int) by omega]
    rfl
   | some v=>
    rw[hs] at c
    simp only[Option.elim] at c ⊢
    simp only[STD,w,c,qv c,qm,show ((i+1+k:Nat):Int)<(l.length:Int) by omega,show ¬(1=0) by omega])
  (by rw[q2W];simp only[STD,qm,show ¬((i+1+(l.length-(i+1)):Nat):Int)<(l.length:Int) by omega])
 have E:=j0 (S:=wT) (fun i=>[.i (l.length:Int),.i (i:Int),.r (rD l),.i 0]) (fun i=>yx (fun k=>yx (fun m=>q3F l i (i+1+k) (i+1+k+1+m)) 0 (l.length-(i+1+k+1))) 0 (l.length-(i+1))) (fun r=>[.i 0,.r r])
  [.i 0] l.length big
  (fun i hi=>by
   rw[q2Q]
   have c:=D i hi
   simp only[Nat.add_zero] at c
   have w:=kZ hi big
   cases hs:yx (fun k=>yx (fun m=>q3F l i (i+1+k) (i+1+k+1+m)) 0 (l.length-(i+1+k+1))) 0 (l.length-(i+1)) with
   | none=>
    rw[hs] at c
    simp only[Option.elim] at c ⊢
    simp only[STD,w,c,qv c,show (i:Int)<(l.length:Int) by omega]
   | some v=>
    rw[hs] at c
    simp only[Option.elim] at c ⊢
    simp only[STD,w,c,qv c,show (i:Int)<(l.length:Int) by omega,show ¬(1=0) by omega])
  (by rw[q2Q];simp only[STD,show ¬(l.length:Int)<(l.length:Int) by omega])
 simp only[show ((0:Nat):Int)=0 from rfl] at B E
 unfold q9O
 cases hp:qtt l with
 | some r=>
  rw[show yx (fun i=>yx (fun k=>q12 l i (i+1+k)) 0 (l.length-(i+1))) 0 l.length=some r from hp] at B
  simp only[Option.elim] at B
  simp only[STD,a,qm,B,qv B,Option.elim,id,show ¬(1=0) by omega]
 | none=>
  rw[show yx (fun i=>yx (fun k=>q12 l i (i+1+k)) 0 (l.length-(i+1))) 0 l.length=none from hp] at B
  simp only[Option.elim] at B
  cases ht:qvY l with
  | some r=>
   rw[show yx (fun i=>yx (fun k=>yx (fun m=>q3F l i (i+1+k) (i+1+k+1+m)) 0 (l.length-(i+1+k+1))) 0 (l.length-(i+1))) 0 l.length=some r from ht] at E
   simp only[Option.elim] at E
   simp only[STD,a,qm,B,qv B,E,qv E,Option.elim,Option.getD_some,show ¬(1=0) by omega]
  | none=>
   rw[show yx (fun i=>yx (fun k=>yx (fun m=>q3F l i (i+1+k) (i+1+k+1+m)) 0 (l.length-(i+1+k+1))) 0 (l.length-(i+1))) 0 l.length=none from ht] at E
   simp only[Option.elim] at E
   simp only[STD,a,qm,B,qv B,E,qv E,Option.elim,Option.getD_none]
theorem qyp{l:List DQ}(hl:GDs l)(hn:l.length<1000000):(q4z [.r (rD l)]).run=some (0,[.r (q9O l)]):=by
 rw[qn2]
 have big:l.length<9223372036854775808:=by omega
 have A:=fun i (hi:i<l.length)=>j0 (S:=q1f) (fun k=>[.r (rD l),.i (i:Int),.i ((i+1+k:Nat):Int)]) (fun k=>q12 l i (i+1+k)) (fun r=>[.r r])
  [.r (rD l),.i (i:Int)] (l.length-(i+1)) (by omega)
  (fun k hk=>by
   rw[qcq]
   have hj:i+1+k<l.length:=by omega
   obtain⟨x1,x2,x3⟩:=q98 hi
   obtain⟨y1,y2,y3⟩:=q98 hj
   have f:=qv1 (qzG (hl.ix hi) (hl.ix hj)) (by simp)
   rw[show rD [ix l i,ix l (i+1+k)]=[[.s (tQ (ix l i).x),.s (tQ (ix l i).y),.s (tQ (ix l i).s)],[.s (tQ (ix l (i+1+k)).x),.s (tQ (ix l (i+1+k)).y),.s (tQ (ix l (i+1+k)).s)]] from rfl] at f
   obtain⟨u,v,w,hfw⟩:=qo3 (q1v [ix l i,ix l (i+1+k)])
   rw[hfw] at f
   have ws:=kZ hj big
   rw[x1,x2,x3,y1,y2,y3]
   unfold q12
   cases hs:(q1v [ix l i,ix l (i+1+k)]).isSome
   ·rw[hs] at f
    simp only[STD,qm,f,show ((i+1+k:Nat):Int)<(l.length:Int) by omega,show (i:Int)<(l.length:Int) by omega,js,and_self,Option.elim]
    rfl
   ·rw[hs] at f
    simp only[STD,qm,f,show ((i+1+k:Nat):Int)<(l.length:Int) by omega,show (i:Int)<(l.length:Int) by omega,js,and_self,Option.elim,ws]
    rfl)
  (by rw[qcq];simp only[STD,qm,show ¬((i+1+(l.length-(i+1)):Nat):Int)<(l.length:Int) by omega])
 have B:=j0 (S:=q1y) (fun i=>[.r (rD l),.i (i:Int)]) (fun i=>yx (fun k=>q12 l i (i+1+k)) 0 (l.length-(i+1))) (fun r=>[.r r])
  [.r (rD l)] l.length big
  (fun i hi=>by
   rw[qcN]
   have c:=A i hi
   simp only[Nat.add_zero] at c
   have w:=kZ hi big
   cases hs:yx (fun k=>q12 l i (i+1+k)) 0 (l.length-(i+1)) with
   | none=>
    rw[hs] at c
    simp only[Option.elim] at c ⊢
    simp only[STD,w,c,qv c,qm,show (i:Int)<(l.length:Int) by omega]
   | some v=>
    rw[hs] at c
    simp only[Option.elim] at c ⊢
    simp only[STD,w,c,qv c,qm,show (i:Int)<(l.length:Int) by omega,show ¬(1=0) by omega])
  (by rw[qcN];simp only[STD,qm,show ¬(l.length:Int)<(l.length:Int) by omega])
 have C:=fun i j (hi:i<l.length) (hj:j<l.length)=>j0 (S:=q0k) (fun k=>[.r (rD l),.i (i:Int),.i (j:Int),.i ((j+1+k:Nat):Int)]) (fun k=>q3F l i j (j+1+k)) (fun r=>[.r r])
  [.r (rD l),.i (i:Int),.i (j:Int)] (l.length-(j+1)) (by omega)
  (fun k hk=>by
   rw[qb7]
   have ho:j+1+k<l.length:=by omega
   obtain⟨x1,x2,x3⟩:=q98 hi
   obtain⟨y1,y2,y3⟩:=q98 hj
   obtain⟨z1,z2,z3⟩:=q98 ho
   have f:=qv1 (qA5 (hl.ix hi) (hl.ix hj) (hl.ix ho)) (by simp)
   rw[show rD [ix l i,ix l j,ix l (j+1+k)]=[[.s (tQ (ix l i).x),.s (tQ (ix l i).y),.s (tQ (ix l i).s)],[.s (tQ (ix l j).x),.s (tQ (ix l j).y),.s (tQ (ix l j).s)],[.s (tQ (ix l (j+1+k)).x),.s (tQ (ix l (j+1+k)).y),.s (tQ (ix l (j+1+k)).s)]] from rfl] at f
   obtain⟨u,v,w,hfw⟩:=qo3 (q1v [ix l i,ix l j,ix l (j+1+k)])
   rw[hfw] at f
   have ws:=kZ ho big
   rw[x1,x2,x3,y1,y2,y3,z1,z2,z3]
   unfold q3F
   cases hs:(q1v [ix l i,ix l j,ix l (j+1+k)]).isSome
   ·rw[hs] at f
    simp only[STD,qm,f,show ((j+1+k:Nat):Int)<(l.length:Int) by omega,show (i:Int)<(l.length:Int) by omega,show (j:Int)<(l.length:Int) by omega,js,and_self,Option.elim]
    rfl
   ·rw[hs] at f
    simp only[STD,qm,f,show ((j+1+k:Nat):Int)<(l.length:Int) by omega,show (i:Int)<(l.length:Int) by omega,show (j:Int)<(l.length:Int) by omega,js,and_self,Option.elim,ws]
    rfl)
  (by rw[qb7];simp only[STD,qm,show ¬((j+1+(l.length-(j+1)):Nat):Int)<(l.length:Int) by omega])
 have D:=fun i (hi:i<l.length)=>j0 (S:=q0z) (fun k=>[.r (rD l),.i (i:Int),.i ((i+1+k:Nat):Int)]) (fun k=>yx (fun m=>q3F l i (i+1+k) (i+1+k+1+m)) 0 (l.length-(i+1+k+1))) (fun r=>[.r r])
  [.r (rD l),.i (i:Int)] (l.length-(i+1)) (by omega)
  (fun k hk=>by
   rw[qb9]
   have hj:i+1+k<l.length:=by omega
   have c:=C i (i+1+k) hi hj
   simp only[Nat.add_zero] at c
   have w:=kZ hj big
   cases hs:yx (fun m=>q3F l i (i+1+k) (i+1+k+1+m)) 0 (l.length-(i+1+k+1)) with
   | none=>
    rw[hs] at c
    simp only[Option.elim] at c ⊢
    simp only[STD,w,c,qv c,qm,show ((i+1+k:Nat):Int)<(l.length:Int) by omega]
    rfl
   | some v=>
    rw[hs] at c
    simp only[Option.elim] at c ⊢
    simp only[STD,w,c,qv c,qm,show ((i+1+k:Nat):Int)<(l.length:Int) by omega,show ¬(1=0) by omega])
  (by rw[qb9];simp only[STD,qm,show ¬((i+1+(l.length-(i+1)):Nat):Int)<(l.length:Int) by omega])
 have E:=j0 (S:=q0p) (fun i=>[.r (rD l),.i (i:Int)]) (fun i=>yx (fun k=>yx (fun m=>q3F l i (i+1+k) (i+1+k+1+m)) 0 (l.length-(i+1+k+1))) 0 (l.length-(i+1))) (fun r=>[.r r])
  [] l.length big
  (fun i hi=>by
   rw[qaV]
   have c:=D i hi
   simp only[Nat.add_zero] at c
   have w:=kZ hi big
   cases hs:yx (fun k=>yx (fun m=>q3F l i (i+1+k) (i+1+k+1+m)) 0 (l.length-(i+1+k+1))) 0 (l.length-(i+1)) with
   | none=>
    rw[hs] at c
    simp only[Option.elim] at c ⊢
    simp only[STD,w,c,qv c,qm,show (i:Int)<(l.length:Int) by omega]
   | some v=>
    rw[hs] at c
    simp only[Option.elim] at c ⊢
    simp only[STD,w,c,qv c,qm,show (i:Int)<(l.length:Int) by omega,show ¬(1=0) by omega])
  (by rw[qaV];simp only[STD,qm,show ¬(l.length:Int)<(l.length:Int) by omega])
 simp only[show ((0:Nat):Int)=0 from rfl] at B E
 unfold q9O
 cases hp:qtt l with
 | some r=>
  rw[show yx (fun i=>yx (fun k=>q12 l i (i+1+k)) 0 (l.length-(i+1))) 0 l.length=some r from hp] at B
  simp only[Option.elim] at B
  simp only[STD,B,qv B,Option.elim,id,show ¬(1=0) by omega]
 | none=>
  rw[show yx (fun i=>yx (fun k=>q12 l i (i+1+k)) 0 (l.length-(i+1))) 0 l.length=none from hp] at B
  simp only[Option.elim] at B
  cases ht:qvY l with
  | some r=>
   rw[show yx (fun i=>yx (fun k=>yx (fun m=>q3F l i (i+1+k) (i+1+k+1+m)) 0 (l.length-(i+1+k+1))) 0 (l.length-(i+1))) 0 l.length=some r from ht] at E
   simp only[Option.elim] at E
   simp only[STD,B,qv B,E,qv E,Option.elim,Option.getD_some,show ¬(1=0) by omega]
  | none=>
   rw[show yx (fun i=>yx (fun k=>yx (fun m=>q3F l i (i+1+k) (i+1+k+1+m)) 0 (l.length-(i+1+k+1))) 0 (l.length-(i+1))) 0 l.length=none from ht] at E
   simp only[Option.elim] at E
   simp only[STD,B,qv B,E,qv E,Option.elim,Option.getD_none]
theorem qrI{l:List DQ}(hl:GDs l)(h0:l≠[])(hn:l.length≤64):(wN [.r (rD l)]).run=some (0,[.r (q9O l),.i 0]):=by
 rw[q4P]
 simp only[STD,qpx hl h0 hn,qyp hl (show l.length<1000000 by omega)]
theorem qs0{x:R}(hD:isD x)(hF:(x.length≤5∧∀i,i<x.length→qjK x i)∨64<x.length) :
  ∃r e,r.length≤3∧(qZ [.r x]).run=some (0,[.r r,.i e])∧(wN [.r x]).run=some (0,[.r r,.i e]):=by
 by_cases h:lE x=0
 ·obtain⟨l,rfl,hl,h0,h5⟩:=qpC hD hF h
  refine⟨_,_,?_,qgh hl h0 (by omega),qrI hl h0 (by omega)⟩
  unfold q9O
  cases hp:qtt l with
  | some r=>
   obtain⟨i,-,-,hf,-⟩:=q7S hp
   obtain⟨k,-,-,hf,-⟩:=q7S hf
   unfold q12 at hf
   split at hf
   ·cases hf
   ·cases hf;simp[Option.elim,two]
  | none=>
   cases ht:qvY l with
   | none=>simp[Option.elim]
   | some r=>
    obtain⟨i,-,-,hf,-⟩:=q7S ht
    obtain⟨k,-,-,hf,-⟩:=q7S hf
    obtain⟨m,-,-,hf,-⟩:=q7S hf
    unfold q3F at hf
    split at hf
    ·cases hf
    ·cases hf;simp[Option.elim,qk4]
 ·have a:=qdX x (qnY hF hD)
  have b:=qdq x (qnY hF hD)
  refine⟨[],lE x,by simp,?_,?_⟩
  ·rw[q4S];simp only[STD,a,h]
  ·rw[q4P];simp only[STD,b,h]
end Go.Eng

namespace Go.Eng
def qid(l:List DQ)(i k:Nat):Bool:=decide (k≠i)&&decide (q3k (ix l k) (ix l i))&&(decide (k<i)||!decide (q3k (ix l i) (ix l k)))
def fnd(l:List DQ)(i k:Nat):Bool:=(List.range k).any (qid l i)
def qkj(l:List DQ):R:=pick (fun i=>fnd l i l.length) l.length
theorem qwM(l:List DQ)(i k:Nat):fnd l i (k+1)=(fnd l i k||qid l i k):=by unfold fnd;rw[List.range_succ];simp
theorem qwR{l:List DQ}{i k n:Nat}(hk:k<n)(h:qid l i k=true):fnd l i n=true:=by
 unfold fnd;rw[List.any_eq_true];exact⟨k,List.mem_range.2 hk,h⟩
theorem quW{l:List DQ}{i n:Nat}(h:∀k,k<n→qid l i k=false):fnd l i n=false:=by
 unfold fnd;rw[List.any_eq_false];intro k hk;have:=h k (List.mem_range.1 hk);simp[this]
theorem qn3{l:List DQ}(hl:GDs l)(h0:l≠[])(hn:l.length≤64):(jU [.r (rD l)]).run=some (0,[.r (qkj l),.i 0]):=by
 rw[q9q]
 have a:=qkL hl h0 hn
 have big:l.length<9223372036854775808:=by omega
 have A:∀i (hi:i<l.length) (acc:R),acc.length≤64→(qg vt [.r (rD l),.i (i:Int),.r (rD l),.i (l.length:Int),.i (i:Int),.r (rD l),.i (l.length:Int),.i 0,.i 0,.r acc,.s (tQ (ix l i).x),.s (tQ (ix l i).y),.s (tQ (ix l i).s)]).run
   = some (0,[.r (rD l),.r (rD l),.i (l.length:Int),.i (i:Int),.i 0,.r (if fnd l i l.length=true then qaY acc [[.i (i:Int)]] else acc)]):=by
  intro i hi acc hacc
  have g:=hl.ix hi
  have room:qt acc+qt [[U.i (i:Int)]]≤17592186044416:=by rw[qwr];unfold qt;omega
  have key:=qaM (S:=vt) (fun k=>[.r (rD l),.i (i:Int),.r (rD l),.i (l.length:Int),.i (i:Int),.r (rD l),.i (l.length:Int),.i (k:Int),.i 0,.r acc,.s (tQ (ix l i).x),.s (tQ (ix l i).y),.s (tQ (ix l i).s)])
   (fun k=>if (!qid l i k)=true then none else some (0,[.r (rD l),.r (rD l),.i (l.length:Int),.i (i:Int),.i 0,.r (qaY acc [[.i (i:Int)]])]))
   (0,[.r (rD l),.r (rD l),.i (l.length:Int),.i (i:Int),.i 0,.r acc]) l.length big
   (fun k hk hf=>by
    rw[q1F]
    obtain⟨x1,x2,x3⟩:=q98 hk
    have gk:=hl.ix hk
    have w:=kZ hk big
    have w1:=qey gk.sh g.sh gk.nn g.nn
    have w2:=qey g.sh gk.sh g.nn gk.nn
    have hc:qid l i k=false:=by cases h:qid l i k;rfl;rw[h] at hf;simp at hf
    unfold qid at hc
    rw[x1,x2,x3]
    by_cases c1:k=i
    ·subst c1
     simp only[STD,qm,show (k:Int)<(l.length:Int) by omega,js,and_self,w]
    ·have c1':¬(k:Int)=(i:Int):=by omega
     by_cases c2:q3k (ix l k) (ix l i)
     ·simp only[ne_eq,c1,not_false_eq_true,decide_true,c2,Bool.true_and,Bool.or_eq_false_iff,decide_eq_false_iff_not,Bool.not_eq_false',decide_eq_true_eq] at hc
      obtain⟨c3,c4⟩:=hc
      have c3':¬(k:Int)<(i:Int):=by omega
      simp only[STD,qm,c1',c2,c3',c4,w1,w2,w,show (k:Int)<(l.length:Int) by omega,js,and_self]
     ·simp only[STD,qm,c1',c2,w1,w,show (k:Int)<(l.length:Int) by omega,js,and_self])
   (fun k r hk hf=>by
    rw[q1F]
    obtain⟨x1,x2,x3⟩:=q98 hk
    have gk:=hl.ix hk
    have w1:=qey gk.sh g.sh gk.nn g.nn
    have w2:=qey g.sh gk.sh g.nn gk.nn
    have hc:qid l i k=true:=by cases h:qid l i k;rw[h] at hf;simp at hf;rfl
    rw[hc] at hf
    simp only[Bool.not_true,Bool.false_eq_true,if_false,Option.some.injEq] at hf
    subst hf
    unfold qid at hc
    simp only[Bool.and_eq_true,Bool.or_eq_true,decide_eq_true_eq,Bool.not_eq_true',decide_eq_false_iff_not] at hc
    obtain⟨⟨c1,c2⟩,c3⟩:=hc
    have c1':¬(k:Int)=(i:Int):=by omega
    rw[x1,x2,x3]
    by_cases c4:k<i
    ·simp only[STD,qm,c1',c2,w1,room,show (k:Int)<(i:Int) by omega,show (k:Int)<(l.length:Int) by omega,js,and_self]
    ·have c5:¬q3k (ix l i) (ix l k):=by
      rcases c3 with h|h
      ·exact absurd h c4
      ·exact h
     simp only[STD,qm,c1',c2,c5,w1,w2,room,show ¬(k:Int)<(i:Int) by omega,show (k:Int)<(l.length:Int) by omega,js,and_self])
   (by rw[q1F];simp only[STD,show ¬(l.length:Int)<(l.length:Int) by omega])
  have key':=key
  simp only[show ((0:Nat):Int)=0 from rfl] at key'
  rw[key']
  rcases qo9 (fun k=>!qid l i k) (fun _=>((0,[.r (rD l),.r (rD l),.i (l.length:Int),.i (i:Int),.i 0,.r (qaY acc [[.i (i:Int)]])]):Nat×List PV)) l.length with⟨s1,s2⟩|⟨k,hk,s2,s1⟩
  ·rw[s1,quW fun k hk=>by have:=s2 k hk;simpa using this]
   simp
  ·rw[s1,qwR hk (by simpa using s2)]
   simp
 have B:=yK (S:=vN) (fun i=>[.r (rD l),.r (rD l),.i (l.length:Int),.i (i:Int),.i 0,.r (pick (fun i=>fnd l i l.length) i)]) (0,[.i 0,.r (qkj l)]) l.length big
  (fun i hi=>by
   rw[q6V]
   obtain⟨x1,x2,x3⟩:=q98 hi
   have w:=kZ hi big
   have pl:=qkb (fun i=>fnd l i l.length) i
   have c:=A i hi (pick (fun i=>fnd l i l.length) i) (by omega)
   simp only[STD,qm,x1,x2,x3,c,w,show (i:Int)<(l.length:Int) by omega,js,and_self]
   rfl)
  (by rw[q6V];simp only[STD,show ¬(l.length:Int)<(l.length:Int) by omega];rfl)
 have B':(qg vN [.r (rD l),.r (rD l),.i (l.length:Int),.i 0,.i 0,.r []]).run=some (0,[.i 0,.r (qkj l)]):=B
 simp only[STD,a,qm,B']
theorem qyD{l:List DQ}(hl:GDs l)(hn:l.length≤64):(q4i [.r (rD l)]).run=some (0,[.r (qkj l)]):=by
  rw[qmO]
  have big:l.length<9223372036854775808:=by omega
  have A : ∀ i (hi : i < l.length) (acc : R), (qg yP [.r (rD l), .i (i : Int), .b false, .i 0, .r acc]).run = some (0, [.r (rD l), .i (i : Int), .b (fnd l i l.length), .r acc]) := by
    intro i hi acc
    have g:=hl.ix hi
    obtain⟨y1,y2,y3⟩:=q98 hi
    have key:=yK (S:=yP) (fun k=>[.r (rD l),.i (i:Int),.b (fnd l i k),.i (k:Int),.r acc]) (0,[.r (rD l),.i (i:Int),.b (fnd l i l.length),.r acc]) l.length big
      (fun k hk=>by
        rw[qbd]
        obtain⟨x1,x2,x3⟩:=q98 hk
        have gk:=hl.ix hk
        have w:=kZ hk big
        have w1:=qsS gk.sh g.sh
        have w2:=qsS g.sh gk.sh
        rw[x1,x2,x3,y1,y2,y3,qwM]
        by_cases c0:fnd l i k=true
        · simp only[STD,c0,qm,show (k:Int)<(l.length:Int) by omega,w,Bool.true_or]
        · have c0':fnd l i k=false:=by cases h:fnd l i k;rfl;exact absurd h c0
          unfold qid
          by_cases c1:k=i
          · subst c1
            simp only[STD,c0',qm,show (k:Int)<(l.length:Int) by omega,w,Bool.false_or,not_true,decide_false,Bool.false_and]
          · have c1':¬(k:Int)=(i:Int):=by omega
            by_cases c2:q3k (ix l k) (ix l i)
            · by_cases c3:k<i
              · simp only[STD,c0',qm,c1',c1,c2,c3,w1,w,show (k:Int)<(i:Int) by omega,show (k:Int)<(l.length:Int) by omega,show (i:Int)<(l.length:Int) by omega,js,and_self]
                rfl
              · simp only[STD,c0',qm,c1',c1,c2,c3,w1,w2,w,show ¬(k:Int)<(i:Int) by omega,show (k:Int)<(l.length:Int) by omega,show (i:Int)<(l.length:Int) by omega,js,and_self]
                rfl
            · simp only[STD,c0',qm,c1',c1,c2,w1,w,show (k:Int)<(l.length:Int) by omega,show (i:Int)<(l.length:Int) by omega,js,and_self]
              rfl)
      (by rw[qbd];simp only[STD,qm,show ¬(l.length:Int)<(l.length:Int) by omega])
    exact key
  have B:=yK (S:=kR) (fun i=>[.r (rD l),.i (i:Int),.r (pick (fun i=>fnd l i l.length) i)]) (0,[.r (qkj l)]) l.length big
    (fun i hi=>by
      rw[qcP]
      have w:=kZ hi big
      have c:=A i hi (pick (fun i=>fnd l i l.length) i)
      have room:qt (pick (fun i=>fnd l i l.length) i)+qt [[U.i (i:Int)]]≤17592186044416:=qvf hi (by omega) _
      cases hf:fnd l i l.length
      · rw[hf] at c
        simp only[STD,qm,c,w,show (i:Int)<(l.length:Int) by omega,pick,hf]
        try rfl
      · rw[hf] at c
        simp only[STD,qm,c,w,room,show (i:Int)<(l.length:Int) by omega,pick,hf]
        try rfl)
    (by rw[qcP];simp only[STD,qm,show ¬(l.length:Int)<(l.length:Int) by omega];rfl)
  have B':(qg kR [.r (rD l),.i 0,.r []]).run=some (0,[.r (qkj l)]):=B
  simp only[STD,B']
theorem qmK{l:List DQ}(hl:GDs l)(h0:l≠[])(hn:l.length≤64):(jW [.r (rD l)]).run=some (0,[.r (qkj l),.i 0]):=by
 rw[q9D]
 simp only[STD,qpx hl h0 hn,qyD hl hn]
theorem qn0{x:R}(hD:isD x)(hF:(x.length≤5∧∀i,i<x.length→qjK x i)∨64<x.length) :
  ∃r e,r.length≤5∧(jU [.r x]).run=some (0,[.r r,.i e])∧(jW [.r x]).run=some (0,[.r r,.i e]):=by
 by_cases h:lE x=0
 ·obtain⟨l,rfl,hl,h0,h5⟩:=qpC hD hF h
  exact⟨_,_,Nat.le_trans (qkb _ _) h5,qn3 hl h0 (by omega),qmK hl h0 (by omega)⟩
 ·have a:=qdX x (qnY hF hD)
  have b:=qdq x (qnY hF hD)
  refine⟨[],lE x,by simp,?_,?_⟩
  ·rw[q9q];simp only[STD,a,h]
  ·rw[q9D];simp only[STD,b,h]
theorem qdz(l:R)(h:l.length<9223372036854775808):(yF [.r l,.r l]).run=some (0,[.b true]):=by
 have e:(qg yU [.r l,.r l,.i 0]).run=some (0,[]):=by
  refine yK (fun i=>[.r l,.r l,.i (i:Int)]) (0,[]) l.length h (fun i hi=>?_) ?_
  ·rw[q8W]
   simp only[STD,qkA hi,kZ hi h,js,and_self]
  ·rw[q8W]
   simp only[STD,qoc]
 rw[qiC]
 simp only[STD,e,qv e]
def D4(x y s:Rat):DQ:=⟨x,y,s⟩
theorem qvM{q:Rat}(h:qn q≤10∧qd q≤10):cls q:=.inr h
theorem gdx{x y s:Rat}(hx:qn x≤10∧qd x≤10)(hy:qn y≤10∧qd y≤10)(hs:qn s≤10∧qd s≤10)(h:0≤s):GD (D4 x y s):=⟨qvM hx,qvM hy,qzD (qvM hs),h⟩
end Go.Eng

namespace Go.Eng
theorem t0:tQ 0=[48]:=rfl
theorem t1:tQ 1=[49]:=by decide +kernel
theorem t2':tQ 2=[50]:=by decide +kernel
theorem t4:tQ 4=[52]:=by decide +kernel
theorem t5:tQ 5=[53]:=by decide +kernel
theorem t53:tQ (5/3)=[53,47,51]:=by decide +kernel
theorem qAf:q1v [D4 0 0 4,D4 4 0 4]=some (0,1,0):=by decide +kernel
theorem qAe:q1v [D4 0 0 5,D4 4 0 5]=some (0,1,1):=by decide +kernel
theorem qAg:q9O [D4 0 0 1,D4 4 0 1]=[[.i 0],[.i 1]]:=by
 have h1:q1v [D4 0 0 1,D4 4 0 1]=none:=by decide +kernel
 have e:∀i j k,yx (fun k=>q12 [D4 0 0 1,D4 4 0 1] i (i+1+k)) j k=yx (fun k=>q12 [D4 0 0 1,D4 4 0 1] i (i+1+k)) j k:=fun _ _ _=>rfl
 have z:q12 [D4 0 0 1,D4 4 0 1] 0 1=some (two 0 1):=by
  unfold q12
  have:[ix [D4 0 0 1,D4 4 0 1] 0,ix [D4 0 0 1,D4 4 0 1] 1]=[D4 0 0 1,D4 4 0 1]:=rfl
  rw[this,h1];rfl
 unfold q9O qtt
 simp only[show ([D4 0 0 1,D4 4 0 1]).length=2 from rfl,yx,Nat.zero_add,Nat.add_zero,show 2-1=1 from rfl,z,Option.elim,id]
 rfl
theorem qAd:q9O [D4 0 0 1,D4 2 0 1,D4 1 (5/3) 1]=[[.i 0],[.i 1],[.i 2]]:=by
 have h1:(q1v [D4 0 0 1,D4 2 0 1]).isSome=true:=by decide +kernel
 have h2:(q1v [D4 0 0 1,D4 1 (5/3) 1]).isSome=true:=by decide +kernel
 have h3:(q1v [D4 2 0 1,D4 1 (5/3) 1]).isSome=true:=by decide +kernel
 have h4:q1v [D4 0 0 1,D4 2 0 1,D4 1 (5/3) 1]=none:=by decide +kernel
 have z1:q12 [D4 0 0 1,D4 2 0 1,D4 1 (5/3) 1] 0 1=none:=by unfold q12;rw[if_pos];exact h1
 have z2:q12 [D4 0 0 1,D4 2 0 1,D4 1 (5/3) 1] 0 2=none:=by unfold q12;rw[if_pos];exact h2
 have z3:q12 [D4 0 0 1,D4 2 0 1,D4 1 (5/3) 1] 1 2=none:=by unfold q12;rw[if_pos];exact h3
 have z4:q3F [D4 0 0 1,D4 2 0 1,D4 1 (5/3) 1] 0 1 2=some (qk4 0 1 2):=by
  unfold q3F
  have:[ix [D4 0 0 1,D4 2 0 1,D4 1 (5/3) 1] 0,ix [D4 0 0 1,D4 2 0 1,D4 1 (5/3) 1] 1,ix [D4 0 0 1,D4 2 0 1,D4 1 (5/3) 1] 2]=[D4 0 0 1,D4 2 0 1,D4 1 (5/3) 1]:=rfl
  rw[this,h4];rfl
 unfold q9O qtt qvY
 simp only[show ([D4 0 0 1,D4 2 0 1,D4 1 (5/3) 1]).length=3 from rfl,yx,Nat.sub_self,show 3-1=2 from rfl,show 3-2=1 from rfl,show 1+1=2 from rfl,show 0+1=1 from rfl,show 2+1=3 from rfl,z1,z2,z3,z4,Option.elim,Option.getD_some]
 rfl
theorem qAc:qyd (D4 0 0 1) (D4 1 0 4)=2:=by decide +kernel
theorem qpH:(q1K []).run=some (0,[.b true]):=by
 rw[qmx]
 have g1:GD (D4 0 0 4):=gdx (by decide +kernel) (by decide +kernel) (by decide +kernel) (by decide +kernel)
 have g2:GD (D4 4 0 4):=gdx (by decide +kernel) (by decide +kernel) (by decide +kernel) (by decide +kernel)
 have g3:GD (D4 0 0 5):=gdx (by decide +kernel) (by decide +kernel) (by decide +kernel) (by decide +kernel)
 have g4:GD (D4 4 0 5):=gdx (by decide +kernel) (by decide +kernel) (by decide +kernel) (by decide +kernel)
 have g5:GD (D4 0 0 1):=gdx (by decide +kernel) (by decide +kernel) (by decide +kernel) (by decide +kernel)
 have g6:GD (D4 4 0 1):=gdx (by decide +kernel) (by decide +kernel) (by decide +kernel) (by decide +kernel)
 have g7:GD (D4 2 0 1):=gdx (by decide +kernel) (by decide +kernel) (by decide +kernel) (by decide +kernel)
 have g8:GD (D4 1 (5/3) 1):=gdx (by decide +kernel) (by decide +kernel) (by decide +kernel) (by decide +kernel)
 have g9:GD (D4 1 0 4):=gdx (by decide +kernel) (by decide +kernel) (by decide +kernel) (by decide +kernel)
 have a:=qlV (qzG g1 g2) (by simp) (by simp)
 have b:=qlV (qzG g3 g4) (by simp) (by simp)
 have c:=qgh (qzG g5 g6) (by simp) (by simp)
 have d:=qgh (qA5 g5 g7 g8) (by simp) (by simp)
 have e:=qqU g5 g9
 rw[qAf] at a
 rw[qAe] at b
 rw[qAg] at c
 rw[qAd] at d
 rw[qAc] at e
 simp only[rD,qd4,List.map_cons,List.map_nil,D4,t0,t1,t2',t4,t5,t53,cW,Option.elim] at a b c d e
 have f1:=q8e [[.i 0],[.i 1]] (by simp)
 have f2:=q8e [[.i 0],[.i 1],[.i 2]] (by simp)
 have D:∀x y s,(wG [.s x,.s y,.s s]).run=some (0,[.s x,.s y,.s s]):=fun x y s=>by rw[qnW];rfl
 have w:qh .i64 0 0=0:=by decide
 simp only[STD,D,a,b,c,d,e,f1,f2,w,show ((0:Nat):Int)=0 from rfl,show ((1:Nat):Int)=1 from rfl,and_self]
 rfl
theorem qeG(x0:R)(lex0:UFit (.sl [.str,.str,.str]) (.l x0))(_:x0.length*48≤140737488351232):(v8 [.r x0]).run=some (0,[.b true]):=by
 rw[qaW]
 obtain⟨f,hf,h1,-⟩:=qyj x0
 cases f
 ·simp only[STD,hf,qpH]
 ·obtain⟨a,e,l1,k1,k2⟩:=qs0 (qvu lex0) (h1 rfl)
  obtain⟨b,g,l2,k3,k4⟩:=qn0 (qvu lex0) (h1 rfl)
  have q:ieq g g=true:=by simp[ieq]
  have s1:=qdz a (by omega)
  have s2:=qdz b (by omega)
  simp only[STD,hf,k1,k2,k3,k4,s1,s2,qpH,q]
end Go.Eng

