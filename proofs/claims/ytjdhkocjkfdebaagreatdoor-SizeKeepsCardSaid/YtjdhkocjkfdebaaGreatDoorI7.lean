/- Texts of the proof, merged: what the code computes, and plain laws. No statement stands here. -/
import Derived.Test.YtjdhkocjkfdebaaGreatDoorI6
namespace Go.Eng
variable {j:Nat}
def lsR(ls:List (List Nat)):R:=ls.map fun L=>[U.l (rN L)]
theorem q0F (ls:List (List Nat)):qg (lsR ls)=(ls.length:Int):=by unfold lsR qg;rw[qLZ]
theorem qg2 {ls:List (List Nat)}{L:List Nat}(h:ls[j]?=some L):cR (lsR ls) (j:Int) 0=rN L:=by
 have e:(lsR ls).getD ((j:Int).toNat) []=[U.l (rN L)]:=by unfold lsR;rw[qM3,qLT,qM2,h];rfl
 unfold cR zy;rw[e];rfl
theorem qA6 (ls:List (List Nat))(L:List Nat):zE (lsR ls) [[.l (rN L)]]=lsR (ls++[L]):=by unfold lsR zE;rw[qMe];rfl
theorem qCQ (l:List Nat)(i:Nat):zE (rN l) [[.i (i:Int)]]=rN (l++[i]):=by unfold rN rI zE;rw[qMe,qMe];rfl
theorem qDX (l:List Nat):zE [] (rN l)=rN l:=by unfold zE;rw[qNc]
theorem qIo {l:List Nat}(h:0<l.length):cI (rN l) ((l.length:Int)-1) 0+1=(nxL l:Int):=by
 rcases List.eq_nil_or_concat l with e|⟨l',b,e⟩
 ·subst e;cases h
 ·rw[List.concat_eq_append] at e;subst e;rw[qDB];have:(((l'++[b]).length:Nat):Int)-1=((l'.length:Nat):Int):=by rw[qMc];show ((l'.length+1:Nat):Int)-1=_;omega
  rw[this,qCT (k:=b) (by rw[qMd (qLU _),qME];rfl)];omega
def exT(l:List Nat)(j:Nat):List (List Nat):=(List.range' (nxL l) j).map fun i=>l++[i]
theorem qBq (l:List Nat):exT l 0=[]:=rfl
theorem qAy (l:List Nat)(j:Nat):exT l (j+1)=exT l j++[l++[nxL l+j]]:=by unfold exT;rw[show List.range' (nxL l) (j+1)=List.range' (nxL l) j++[nxL l+j] from by rw[List.range'_concat,qNw],qMe];rfl
theorem qFG (n:Nat)(l:List Nat):exT l (n-nxL l)=exL n l:=rfl
theorem qyz (l:List Nat)(j:Nat):(exT l j).length=j:=by unfold exT;rw[qLZ,List.length_range']
theorem qpN {α β:Type}(f:α->List β){ls:List α}{a:α}(h:ls[j]?=some a):(ls.take (j+1)).flatMap f=(ls.take j).flatMap f++f a:=by rw[List.take_add_one,h,List.flatMap_append];show _++[a].flatMap f=_;rw[List.flatMap_cons,List.flatMap_nil,qMT]
theorem qwv{α:Type}{P:List Nat->Bool}(g:List Nat->α):∀(ls pre:List (List Nat)),q5P (fun j=>if P ((pre++ls).getD j [])=true then some (g ((pre++ls).getD j [])) else none) pre.length ls.length=(ls.find? P).map g
 | [],pre=>rfl
 | L::ls,pre=>by
  have e:(pre++L::ls).getD pre.length []=L:=by rw[qLT,qMd (qLU _),qME];rfl
  have ih:=qwv (P:=P) g ls (pre++[L]);rw[qMo,qMc] at ih;rw[qMn];simp only[q5P];rw[e,List.find?_cons];cases h:P L with
  | true=>rw[if_pos rfl];rfl
  | false=>rw[if_neg (by decide)];exact ih
theorem qyd{α:Type}{P:List Nat->Bool}(g:List Nat->α)(f:List Nat->List (List Nat)):∀(ls pre:List (List Nat)),q5P (fun j=>((f ((pre++ls).getD j [])).find? P).map g) pre.length ls.length=((ls.flatMap f).find? P).map g
 | [],pre=>rfl
 | L::ls,pre=>by
  have e:(pre++L::ls).getD pre.length []=L:=by rw[qLT,qMd (qLU _),qME];rfl
  have ih:=qyd (P:=P) g f ls (pre++[L]);rw[qMo,qMc] at ih;rw[qMn];simp only[q5P];rw[e,List.flatMap_cons,List.find?_append];cases h:(f L).find? P with
  | some a=>rfl
  | none=>exact ih
theorem qmQ{α:Type}{P:List Nat->Bool}(g:List Nat->α)(n:Nat):∀(m k:Nat),q5P (fun j=>((lsN n (j+1)).find? P).map g) k m=(qf3 P n (k+1) m).map g
 | 0,k=>rfl
 | m+1,k=>by
  simp only[q5P];rw[qf3];cases h:(lsN n (k+1)).find? P with
  | some a=>rfl
  | none=>exact qmQ g n m (k+1)
theorem qFs{α:Type}{P:List Nat->Bool}(g:List Nat->α)(L:List Nat):∀(m k:Nat),q5P (fun j=>if P (L++[nxL L+j])=true then some (g (L++[nxL L+j])) else none) k m=(((List.range' (nxL L+k) m).map fun i=>L++[i]).find? P).map g
 | 0,k=>rfl
 | m+1,k=>by
  have ih:=qFs (P:=P) g L m (k+1);rw[List.range'_succ,qMZ,List.find?_cons];simp only[q5P];cases h:P (L++[nxL L+k]) with
  | true=>rw[if_pos rfl];rfl
  | false=>rw[if_neg (by decide)];exact ih
theorem qrl {ls:List (List Nat)}(hj:j<ls.length):ls[j]?=some (ls.getD j []):=by rw[qLT,qM0 hj];rfl
end Go.Eng

namespace Go.Eng
variable {k:Nat}{n:Nat}
theorem qLC {S:List PV->TR}(hS:∀(y0:Int) (y1:R) (y2:Int) (y3:R) (y4:Int) (y5:Int) (y6:R),S [.i y0,.r y1,.i y2,.r y3,.i y4,.i y5,.r y6]=(.br (ilt y2 y0) (.br (ile ((qg [])+(qg y1)) 17592186044416) (.br (ile ((qg (zE [] y1))+(qg [[(.i y2)]])) 17592186044416) (.br (ile ((qg y6)+(qg [[(.l (zE (zE [] y1) [[(.i y2)]]))]])) 5864062014805) (.leaf (0,[(.i y0),(.r y1),(.i (qm .i64 y2 1)),(.r y3),(.i y4),(.i y5),(.r (zE y6 [[(.l (zE (zE [] y1) [[(.i y2)]]))]]))])) .fail) .fail) .fail) (.leaf (1,[(.i y0),(.r y3),(.i y4),(.i y5),(.r y6)])))){n:Nat} {l:List Nat} (hn:n<=64) (hl:l.length<=64) (y3:R) (y4 y5:Int) (acc:List (List Nat)) (ha:acc.length<=1000000000) :(qf S [.i (n:Int),.r (rN l),.i (nxL l:Int),.r y3,.i y4,.i y5,.r (lsR acc)]).run=some (0,[.i (n:Int),.r y3,.i y4,.i y5,.r (lsR (acc++exL n l))]):=by
 have key:=qt (S:=S) (fun j=>[.i (n:Int),.r (rN l),.i ((nxL l+j:Nat):Int),.r y3,.i y4,.i y5,.r (lsR (acc++exT l j))]) (0,[.i (n:Int),.r y3,.i y4,.i y5,.r (lsR (acc++exL n l))]) (n-nxL l) (by omega) (fun j hj=>by
  have w:qm .i64 ((nxL l+j:Nat):Int) 1=((nxL l+j+1:Nat):Int):=jo (show nxL l+j<64 by omega) (by omega);have e1:qg ([]:R)=0:=rfl;have e2:∀x:U,qg [[x]]=1:=fun _=>rfl;have e3:(acc++exT l j).length=acc.length+j:=by rw[qMc,qyz]
  rw[hS];simp only[STD,e1,e2,qDX,qCQ,q9t,q0F,qA6,e3,w,show ((nxL l+j:Nat):Int)<n by omega,show (0:Int)+l.length<=17592186044416 by omega,show (l.length:Int)+1<=17592186044416 by omega,
   show ((acc.length+j:Nat):Int)+1<=5864062014805 by omega,qAy,qMo,qNq]) (by
  rw[hS];simp only[STD,show ¬((nxL l+(n-nxL l):Nat):Int)<n by omega,qFG])
 have key':(qf S [.i (n:Int),.r (rN l),.i ((nxL l+0:Nat):Int),.r y3,.i y4,.i y5,.r (lsR (acc++exT l 0))]).run=_:=key;rw[qBq,qMT,qMK] at key';exact key'
theorem qzu {l:List Nat}(h:0<l.length)(hl:l.length<=64)(hx:nxL l<=64):qm .i64 (cI (rN l) (wd .i64 (l.length:Int) 1) 0) 1=(nxL l:Int):=by have e:=qIo h;have e1:wd .i64 (l.length:Int) 1=(l.length:Int)-1:=zj ⟨by omega,by omega⟩;rw[e1,qJ ⟨by omega,by omega⟩];exact e
theorem qKY {S S16:List PV->TR}(hS16:∀(y0:Int) (y1:R) (y2:Int) (y3:R) (y4:Int) (y5:Int) (y6:R),S16 [.i y0,.r y1,.i y2,.r y3,.i y4,.i y5,.r y6]=(.br (ilt y2 y0) (.br (ile ((qg [])+(qg y1)) 17592186044416) (.br (ile ((qg (zE [] y1))+(qg [[(.i y2)]])) 17592186044416) (.br (ile ((qg y6)+(qg [[(.l (zE (zE [] y1) [[(.i y2)]]))]])) 5864062014805) (.leaf (0,[(.i y0),(.r y1),(.i (qm .i64 y2 1)),(.r y3),(.i y4),(.i y5),(.r (zE y6 [[(.l (zE (zE [] y1) [[(.i y2)]]))]]))])) .fail) .fail) .fail) (.leaf (1,[(.i y0),(.r y3),(.i y4),(.i y5),(.r y6)]))))
  (hS:∀(y0:Int) (y1:R) (y2:Int) (y3:Int) (y4:R),S [.i y0,.r y1,.i y2,.i y3,.r y4]=(.br (ilt y3 y2) (.br (inb y3 (qg y1)) (.br (ilt 0 (qg (cR y1 y3 0))) (.br (inb (wd .i64 (qg (cR y1 y3 0)) 1) (qg (cR y1 y3 0))) (let r0:TR:=(qf S16 [(.i y0),(.r (cR y1 y3 0)),(.i (qm .i64 (cI (cR y1 y3 0) (wd .i64 (qg (cR y1 y3 0)) 1) 0) 1)),(.r y1),(.i y2),(.i y3),(.r y4)])
 .br (okR r0) (.leaf (0,[(.i (gI r0 0)),(.r (gR r0 1)),(.i (gI r0 2)),(.i (qm .i64 (gI r0 3) 1)),(.r (gR r0 4))])) .fail) .fail) (let r0:TR:=(qf S16 [(.i y0),(.r (cR y1 y3 0)),(.i 0),(.r y1),(.i y2),(.i y3),(.r y4)])
 .br (okR r0) (.leaf (0,[(.i (gI r0 0)),(.r (gR r0 1)),(.i (gI r0 2)),(.i (qm .i64 (gI r0 3) 1)),(.r (gR r0 4))])) .fail)) .fail) (.leaf (1,[(.r y4)]))))
  {n:Nat} {ls:List (List Nat)} (hn:n<=64) (hm:∀l,l∈ls->l.length<=64/\nxL l<=64) (hls:ls.length<=10000000) :
  (qf S [.i (n:Int),.r (lsR ls),.i (ls.length:Int),.i 0,.r []]).run=some (0,[.r (lsR (ls.flatMap (exL n)))]):=by
 have key:=qt (S:=S) (fun j=>[.i (n:Int),.r (lsR ls),.i (ls.length:Int),.i (j:Int),.r (lsR ((ls.take j).flatMap (exL n)))]) (0,[.r (lsR (ls.flatMap (exL n)))]) ls.length (by omega) (fun j hj=>by
  obtain⟨l,hl⟩:∃l,ls[j]?=some l:=⟨ls[j],qM0 hj⟩;obtain⟨m1,m2⟩:=hm l (qMH hl);have fl:((ls.take j).flatMap (exL n)).length<=1000000000:=by have:=qoX (exL n) n (qze n) (ls.take j);rw[qMQ,qMS (by omega)] at this;have:j*n<=10000000*64:=qMB (by omega) hn;omega
  have r0:=qLC hS16 hn m1 (lsR ls) (ls.length:Int) (j:Int) _ fl;have w:qm .i64 (j:Int) 1=((j+1:Nat):Int):=jo hj (by omega);rw[hS];by_cases h0:0<l.length
  ·have w1:wd .i64 (l.length:Int) 1=(l.length:Int)-1:=zj ⟨by omega,by omega⟩;have e:=qzu h0 m1 m2;rw[w1] at e;simp only[STD,q0F,qg2 hl,q9t,w1,e,r0,w,qpN (exL n) hl,show (j:Int)<ls.length by omega,show (0:Int)<=j by omega,show (0:Int)<l.length by omega,show (0:Int)<=(l.length:Int)-1 by omega,show (l.length:Int)-1<l.length by omega,and_self]
  ·have e:l=[]:=qNp (by omega);subst e;have r1:(qf S16 [.i (n:Int),.r (rN []),.i 0,.r (lsR ls),.i (ls.length:Int),.i (j:Int),.r (lsR ((ls.take j).flatMap (exL n)))]).run=_:=r0;simp only[STD,q0F,qg2 hl,q9t,r1,w,qpN (exL n) hl,show (j:Int)<ls.length by omega,show (0:Int)<=j by omega,show ¬(0:Int)<(([]:List Nat).length:Int) from by decide,and_self]) (by
  rw[hS];simp only[STD,show ¬(ls.length:Int)<ls.length by omega,qN3])
 exact key
theorem qHg (n:Nat):(uZ [.i (n:Int),.i ((0:Nat):Int)]).run=some (0,[.r (lsR (lsN n 0))]):=by rw[qpB];simp only[STD,show (((0:Nat):Int)=0)=True from eq_true rfl];rfl
theorem qBk {n k:Nat}(hn:n<=64)(hk:k<=64):∀l,l∈lsN n k->l.length<=64/\nxL l<=64:=fun l hl=>by obtain⟨h1,h2,_⟩:=qjB.1 hl;exact⟨by omega,qLW (qDP h2) hn⟩
theorem qnd {n k:Nat}(hn:n<=64)(hk:k<=3):(lsN n k).length<=10000000:=by refine qLW (qzX n k) (qLW (Nat.pow_le_pow_left hn k) (qLW (qNn (by decide) hk) (by decide)))
theorem qGo (hn:n<=64)(hk:k<=1):(q1d [.i (n:Int),.i (k:Int)]).run=some (0,[.r (lsR (lsN n k))]):=by
 rw[qr7]
 match k with
 | 0=>
  simp only[STD,show (((0:Nat):Int)=0)=True from eq_true rfl];rfl
 | k+1=>
  have w:wd .i64 ((k+1:Nat):Int) 1=(k:Int):=by rw[zj ⟨by omega,by omega⟩];omega
  have r0:(uZ [.i (n:Int),.i (k:Int)]).run=some (0,[.r (lsR (lsN n k))]):=by
   have e:k=0:=by omega
   subst e;exact qHg n
  have r1:=qKY (S:=q3B) (S16:=kO) qkY qmw hn (qBk (k:=k) hn (by omega)) (qnd hn (by omega));simp only[STD,show ¬((k+1:Nat):Int)=0 by omega,w,r0,q0F,r1];rfl
theorem qFN (hn:n<=64)(hk:k<=2):(q17 [.i (n:Int),.i (k:Int)]).run=some (0,[.r (lsR (lsN n k))]):=by
 rw[qrs]
 match k with
 | 0=>
  simp only[STD,show (((0:Nat):Int)=0)=True from eq_true rfl];rfl
 | k+1=>
  have w:wd .i64 ((k+1:Nat):Int) 1=(k:Int):=by rw[zj ⟨by omega,by omega⟩];omega
  have r0:=qGo hn (k:=k) (by omega);have r1:=qKY (S:=q3D) (S16:=q05) qkq qmH hn (qBk (k:=k) hn (by omega)) (qnd hn (by omega));simp only[STD,show ¬((k+1:Nat):Int)=0 by omega,w,r0,q0F,r1];rfl
theorem qGN (hn:n<=64)(hk:k<=3):(q1f [.i (n:Int),.i (k:Int)]).run=some (0,[.r (lsR (lsN n k))]):=by
 rw[qqc]
 match k with
 | 0=>
  simp only[STD,show (((0:Nat):Int)=0)=True from eq_true rfl];rfl
 | k+1=>
  have w:wd .i64 ((k+1:Nat):Int) 1=(k:Int):=by rw[zj ⟨by omega,by omega⟩];omega
  have r0:=qFN hn (k:=k) (by omega);have r1:=qKY (S:=q3y) (S16:=q01) qkl qni hn (qBk (k:=k) hn (by omega)) (qnd hn (by omega));simp only[STD,show ¬((k+1:Nat):Int)=0 by omega,w,r0,q0F,r1];rfl
theorem qDr (hn:n<=64)(hk:k<=4):(q8U [.i (n:Int),.i (k:Int)]).run=some (0,[.r (lsR (lsN n k))]):=by
 rw[qsJ]
 match k with
 | 0=>
  simp only[STD,show (((0:Nat):Int)=0)=True from eq_true rfl];rfl
 | k+1=>
  have w:wd .i64 ((k+1:Nat):Int) 1=(k:Int):=by rw[zj ⟨by omega,by omega⟩];omega
  have r0:=qGN hn (k:=k) (by omega);have r1:=qKY (S:=q4R) (S16:=q0S) qmt qoQ hn (qBk (k:=k) hn (by omega)) (qnd hn (by omega));simp only[STD,show ¬((k+1:Nat):Int)=0 by omega,w,r0,q0F,r1];rfl
theorem qAr {l:R}(hs:yV l){m k:Int}{ls:List (List Nat)}(hls:ls.length<=1000000000)(hm:∀L,L∈ls->∃n,L.length=n+1/\n<=3/\∀a,a∈L->a<l.length) :(qf q22 [.r l,.i m,.i k,.r (lsR ls),.i (ls.length:Int),.i 0]).run=some (((ls.find? (k9 l)).map fun L=>(1,[.r (rN L)])).getD (0,[.r l,.i m,.i k])):=by
 have key:=kT (S:=q22) (fun j=>[.r l,.i m,.i k,.r (lsR ls),.i (ls.length:Int),.i (j:Int)]) (fun j=>if k9 l (ls.getD j [])=true then some (1,[.r (rN (ls.getD j []))]) else none) (0,[.r l,.i m,.i k]) ls.length (by omega) (fun j hj hf=>by
  have hl:=qrl hj;obtain⟨n,h1,h2,h3⟩:=hm _ (qMH hl);have r0:=qeI hs h1 h2 h3;have e:k9 l (ls.getD j [])=false:=by
   cases h:k9 l (ls.getD j []) with
   | true=>rw[if_pos h] at hf;cases hf
   | false=>rfl
  rw[e] at r0;rw[q7P];simp only[STD,q0F,qg2 hl,r0,jo hj (show ls.length<9223372036854775808 by omega),show (j:Int)<ls.length by omega,show (0:Int)<=j by omega,and_self]) (fun j r hj hf=>by
  have hl:=qrl hj;obtain⟨n,h1,h2,h3⟩:=hm _ (qMH hl);have r0:=qeI hs h1 h2 h3;have e:k9 l (ls.getD j [])=true:=by
   cases h:k9 l (ls.getD j []) with
   | false=>rw[if_neg (by rw[h];decide)] at hf;cases hf
   | true=>rfl
  rw[e] at r0;rw[if_pos e] at hf;cases hf;rw[q7P];simp only[STD,q0F,qg2 hl,r0,show (j:Int)<ls.length by omega,show (0:Int)<=j by omega,and_self]) (by
  rw[q7P];simp only[STD,show ¬(ls.length:Int)<ls.length by omega])
 have e:=qwv (P:=k9 l) (fun L=>((1:Nat),[PV.r (rN L)])) ls [];rw[qNc] at e;rw[show (q5P _ 0 ls.length)=_ from e] at key;exact key
theorem qHK {n k j:Nat}(hk:k+1<=4)(hj:n=j):∀L,L∈lsN n (k+1)->∃q,L.length=q+1/\q<=3/\∀a,a∈L->a<j:=fun L hL=>by obtain⟨h1,h2,_⟩:=qjB.1 hL;exact⟨k,h1,by omega,fun a ha=>hj▸h2 a ha⟩
theorem qBo {n k:Nat}(hn:n<=64)(hk:k<=4):(lsN n k).length<=1000000000:=by refine qLW (qzX n k) (qLW (Nat.pow_le_pow_left hn k) (qLW (qNn (by decide) hk) (by decide)))
theorem qIH {l:R}(hs:yV l){m:Nat}(hm:m<=4){L:List Nat}(h:qf3 (k9 l) l.length 1 m=some L):(q4K [.r l,.i (m:Int)]).run=some (0,[.r (rN L)]):=by
 have key:=kT (S:=q1L) (fun k=>[.r l,.i (m:Int),.i ((k+1:Nat):Int)]) (fun k=>((lsN l.length (k+1)).find? (k9 l)).map fun L=>(1,[.r (rN L)])) (0,[]) m (by omega) (fun k hk hf=>by
  have r0:=qDr hs.1 (k:=k+1) (by omega);have r1:=qAr hs (m:=(m:Int)) (k:=((k+1:Nat):Int)) (qBo (k:=k+1) hs.1 (by omega)) (qHK (k:=k) (by omega) rfl);rw[hf] at r1;simp only[Option.getD_none] at r1;have w:qm .i64 ((k+1:Nat):Int) 1=((k+1+1:Nat):Int):=jo (show k+1<64 by omega) (by omega);have lx:qg l=(l.length:Int):=rfl;rw[q7N];simp only[STD,lx,r0,q0F,r1,zf r1,w,show ((k+1:Nat):Int)<=m by omega]) (fun k r hk hf=>by
  have r0:=qDr hs.1 (k:=k+1) (by omega);have r1:=qAr hs (m:=(m:Int)) (k:=((k+1:Nat):Int)) (qBo (k:=k+1) hs.1 (by omega)) (qHK (k:=k) (by omega) rfl);rw[hf] at r1;cases hx:(lsN l.length (k+1)).find? (k9 l) with
  | none=>rw[hx] at hf;cases hf
  | some L'=>
   rw[hx] at hf;cases hf;simp only[qMX] at r1;have lx:qg l=(l.length:Int):=rfl;rw[q7N];simp only[STD,lx,r0,q0F,r1,zf r1,show ((k+1:Nat):Int)<=m by omega];rw[if_neg (by decide)]) (by
  rw[q7N];simp only[STD,show ¬((m+1:Nat):Int)<=m by omega])
 rw[qmQ (P:=k9 l) (fun L=>((1:Nat),[PV.r (rN L)])) l.length m 0,h] at key;have key':(qf q1L [.r l,.i (m:Int),.i 1]).run=some (1,[.r (rN L)]):=key;rw[qsi];simp only[STD,key',zf key'];rw[if_neg (by decide)]
end Go.Eng

namespace Go.Eng
variable {L:List Nat}{l:R}
noncomputable def tO(l:R)(L:List Nat):Nat->Rat:=Classical.epsilon fun t=>qzi (pV l) l.length (L.length-1) (Lf l L) t
noncomputable def cO(l:R)(L:List Nat):V3:=cen (L.length-1+1) (wts (tO l L) (L.length-1)) fun j=>pV l (Lf l L j)
noncomputable def sO(l:R)(L:List Nat):Rat:=d2 (cO l L) (pV l (Lf l L 0))
noncomputable def wO(l:R)(L:List Nat):R:=txR ((List.range (L.length-1+1)).map fun j=>tQ (wts (tO l L) (L.length-1) j))
theorem qz6 (h:k9 l L=true):qzi (pV l) l.length (L.length-1) (Lf l L) (tO l L):=Classical.epsilon_spec (qhQ.1 h)
theorem qwT (hs:yV l){n:Nat}(hL:L.length=n+1)(hn:n<=3)(hlt:∀k,k∈L->k<l.length)(h:k9 l L=true) :CB (cO l L)/\(zI [.r l,.r (rN L)]).run=some (0,[.s (tQ (cO l L).x),.s (tQ (cO l L).y),.s (tQ (cO l L).z),.s (tQ (sO l L)),.r (wO l L),.b true,.i 0]):=by
 have eL:L.length-1=n:=by omega
 have sp:=qz6 h;unfold sO wO;unfold cO;rw[eL] at sp ⊢;rcases qpV hs hL hn hlt with⟨t,h1,h2,h3,h4⟩|⟨h1,_⟩
 ·have e:=ql3 h1.1 sp.1;have ec:=qgm (c:=fun j=>pV l (Lf l L j)) e;have el:((List.range (n+1)).map fun j=>tQ (wts t n j))=(List.range (n+1)).map fun j=>tQ (wts (tO l L) n j):=qN4 fun j hj=>by rw[e j (qMP.1 hj)]
  rw[ec,el] at h4;rw[ec] at h3;exact⟨h3,h4⟩
 ·exact absurd sp (h1 _)
theorem qGj (hs:yV l){n:Nat}(hL:L.length=n+1)(hn:n<=3)(hlt:∀k,k∈L->k<l.length)(h:k9 l L=false) :∃s1 s2 s3 s4 wl,(zI [.r l,.r (rN L)]).run=some (0,[.s s1,.s s2,.s s3,.s s4,.r wl,.b false,.i 0]):=by
 have eL:L.length-1=n:=by omega
 have hh:=qjL.1 h;rw[eL] at hh;rcases qpV hs hL hn hlt with⟨t,h1,_⟩|⟨_,h4⟩
 ·exact absurd h1 (hh t)
 ·exact h4
noncomputable def lO(l:R)(n m:Int)(L:List Nat):Nat×List PV:=(1,[.r l,.s (tQ (cO l L).x),.s (tQ (cO l L).y),.s (tQ (cO l L).z),.s (tQ (sO l L)),.r (wO l L),.i 0,.i n,.i m,.r (rN L)])
theorem qLl (hs:yV l)(hL:L.length<=3)(hlt:∀k,k∈L->k<l.length)(y2 y3 y4 y5 y13:Int)(y14:R)(acc:List (List Nat))(ha:acc.length<=1000000000) :(qf qD [.r (rN L),.i (nxL L:Int),.i y2,.i y3,.i y4,.i y5,.r l,.s [],.s [],.s [],.s [],.i 0,.i (l.length:Int),.i y13,.r y14,.r (lsR acc)]).run = some ((((exL l.length L).find? (k9 l)).map (lO l l.length y13)).getD (0,[.i y2,.i y3,.i y4,.i y5,.r l,.s [],.s [],.s [],.s [],.i 0,.i (l.length:Int),.i y13,.r y14,.r (lsR (acc++exL l.length L))])):=by
 have hn:=hs.1;have key:=kT (S:=qD) (fun j=>[.r (rN L),.i ((nxL L+j:Nat):Int),.i y2,.i y3,.i y4,.i y5,.r l,.s [],.s [],.s [],.s [],.i 0,.i (l.length:Int),.i y13,.r y14,.r (lsR (acc++exT L j))])
  (fun j=>if k9 l (L++[nxL L+j])=true then some (lO l l.length y13 (L++[nxL L+j])) else none)
  (0,[.i y2,.i y3,.i y4,.i y5,.r l,.s [],.s [],.s [],.s [],.i 0,.i (l.length:Int),.i y13,.r y14,.r (lsR (acc++exL l.length L))]) (l.length-nxL L) (by omega) (fun j hj hf=>by
  have e:k9 l (L++[nxL L+j])=false:=by
   cases h:k9 l (L++[nxL L+j]) with
   | true=>rw[if_pos h] at hf;cases hf
   | false=>rfl
  have lj:(L++[nxL L+j]).length=L.length+1:=by rw[qMc];rfl
  have ltj:∀k,k∈L++[nxL L+j]->k<l.length:=fun k hk=>by
   rcases qMi.1 hk with q|q
   ·exact hlt k q
   ·rw[qMm.1 q];omega
  obtain⟨s1,s2,s3,s4,wl,r1⟩:=qGj hs lj hL ltj e;have w:qm .i64 ((nxL L+j:Nat):Int) 1=((nxL L+j+1:Nat):Int):=jo (show nxL L+j<64 by omega) (by omega);have e2:∀x:U,qg [[x]]=1:=fun _=>rfl;have e3:(acc++exT L j).length=acc.length+j:=by rw[qMc,qyz]
  have cl:(wu [.r (rN L)]).run=some (0,[.r (rN L)]):=by rw[q5c];simp only[STD,q9t,show (L.length:Int)<=17592186044416 by omega]
  rw[q0j];simp only[STD,cl,e2,qCQ,q9t,q0F,qA6,e3,w,r1,show ((nxL L+j:Nat):Int)<l.length by omega,show (L.length:Int)+1<=17592186044416 by omega,
   show ((acc.length+j:Nat):Int)+1<=5864062014805 by omega,qAy,qMo,qNq]) (fun j r hj hf=>by
  have e:k9 l (L++[nxL L+j])=true:=by
   cases h:k9 l (L++[nxL L+j]) with
   | false=>rw[if_neg (by rw[h];decide)] at hf;cases hf
   | true=>rfl
  rw[if_pos e] at hf;cases hf;have lj:(L++[nxL L+j]).length=L.length+1:=by rw[qMc];rfl
  have ltj:∀k,k∈L++[nxL L+j]->k<l.length:=fun k hk=>by
   rcases qMi.1 hk with q|q
   ·exact hlt k q
   ·rw[qMm.1 q];omega
  obtain⟨_,r1⟩:=qwT hs lj hL ltj e;have e2:∀x:U,qg [[x]]=1:=fun _=>rfl;have e3:(acc++exT L j).length=acc.length+j:=by rw[qMc,qyz]
  have cl:(wu [.r (rN L)]).run=some (0,[.r (rN L)]):=by rw[q5c];simp only[STD,q9t,show (L.length:Int)<=17592186044416 by omega]
  rw[q0j];unfold lO;simp only[STD,cl,e2,qCQ,q9t,q0F,qA6,e3,r1,show ((nxL L+j:Nat):Int)<l.length by omega,show (L.length:Int)+1<=17592186044416 by omega,
   show ((acc.length+j:Nat):Int)+1<=5864062014805 by omega]) (by
  rw[q0j];simp only[STD,show ¬((nxL L+(l.length-nxL L):Nat):Int)<l.length by omega,qFG])
 have e:=qFs (P:=k9 l) (lO l l.length y13) L (l.length-nxL L) 0;rw[e] at key;have key':(qf qD [.r (rN L),.i ((nxL L+0:Nat):Int),.i y2,.i y3,.i y4,.i y5,.r l,.s [],.s [],.s [],.s [],.i 0,.i (l.length:Int),.i y13,.r y14,.r (lsR (acc++exT L 0))]).run=_:=key;rw[qBq,qMT,qMK] at key';exact key'
theorem qLG (hs:yV l){ls:List (List Nat)}{q:Nat}(hq:q<=3)(hls:ls.length<=10000000)(hm:∀L,L∈ls->L.length=q/\∀a,a∈L->a<l.length)(y0 y1 y11:Int) :(qf wS [.i y0,.i y1,.i (ls.length:Int),.i 0,.r l,.s [],.s [],.s [],.s [],.i 0,.i (l.length:Int),.i y11,.r (lsR ls),.r []]).run = some ((((ls.flatMap (exL l.length)).find? (k9 l)).map (lO l l.length y11)).getD (0,[.i y0,.i y1,.r l,.s [],.s [],.s [],.s [],.i 0,.i (l.length:Int),.i y11,.r (lsR (ls.flatMap (exL l.length)))])):=by
 have hn:=hs.1;have step:∀j,j<ls.length->∃L,ls[j]?=some L/\ls.getD j []=L/\(qf qD [.r (rN L),.i (nxL L:Int),.i y0,.i y1,.i (ls.length:Int),.i (j:Int),.r l,.s [],.s [],.s [],.s [],.i 0,.i (l.length:Int),.i y11,.r (lsR ls),.r (lsR ((ls.take j).flatMap (exL l.length)))]).run =
   some ((((exL l.length L).find? (k9 l)).map (lO l l.length y11)).getD (0,[.i y0,.i y1,.i (ls.length:Int),.i (j:Int),.r l,.s [],.s [],.s [],.s [],.i 0,.i (l.length:Int),.i y11,.r (lsR ls),.r (lsR ((ls.take (j+1)).flatMap (exL l.length)))])) /\
   L.length<=3/\nxL L<=64:=fun j hj=>by
  have hl:=qrl hj;obtain⟨h1,h2⟩:=hm _ (qMH hl);have fl:((ls.take j).flatMap (exL l.length)).length<=1000000000:=by have:=qoX (exL l.length) l.length (qze l.length) (ls.take j);rw[qMQ,qMS (by omega)] at this;have:j*l.length<=10000000*64:=qMB (by omega) hn;omega
  have r0:=qLl hs (L:=ls.getD j []) (by omega) h2 y0 y1 (ls.length:Int) (j:Int) y11 (lsR ls) _ fl;rw[<-qpN (exL l.length) hl] at r0;exact⟨_,hl,rfl,r0,by omega,qLW (qDP h2) hn⟩
 have key:=kT (S:=wS) (fun j=>[.i y0,.i y1,.i (ls.length:Int),.i (j:Int),.r l,.s [],.s [],.s [],.s [],.i 0,.i (l.length:Int),.i y11,.r (lsR ls),.r (lsR ((ls.take j).flatMap (exL l.length)))])
  (fun j=>((exL l.length (ls.getD j [])).find? (k9 l)).map (lO l l.length y11))
  (0,[.i y0,.i y1,.r l,.s [],.s [],.s [],.s [],.i 0,.i (l.length:Int),.i y11,.r (lsR (ls.flatMap (exL l.length)))]) ls.length (by omega) (fun j hj hf=>by
  obtain⟨L,hl,hg,r0,h3,h4⟩:=step j hj;rw[hg] at hf;rw[hf] at r0;simp only[Option.getD_none] at r0;have w:qm .i64 (j:Int) 1=((j+1:Nat):Int):=jo hj (by omega);rw[q1o];by_cases h0:0<L.length
  ·have w1:wd .i64 (L.length:Int) 1=(L.length:Int)-1:=zj ⟨by omega,by omega⟩;have e:=qzu h0 (by omega) h4;rw[w1] at e;simp only[STD,q0F,qg2 hl,q9t,w1,e,r0,zf r0,w,show (j:Int)<ls.length by omega,show (0:Int)<=j by omega,show (0:Int)<L.length by omega,show (0:Int)<=(L.length:Int)-1 by omega,show (L.length:Int)-1<L.length by omega,and_self]
  ·have e:L=[]:=qNp (by omega);subst e;have r1:(qf qD [.r (rN []),.i 0,.i y0,.i y1,.i (ls.length:Int),.i (j:Int),.r l,.s [],.s [],.s [],.s [],.i 0,.i (l.length:Int),.i y11,.r (lsR ls),.r (lsR ((ls.take j).flatMap (exL l.length)))]).run=_:=r0;simp only[STD,q0F,qg2 hl,q9t,r1,zf r1,w,show (j:Int)<ls.length by omega,show (0:Int)<=j by omega,show ¬(0:Int)<(([]:List Nat).length:Int) from by decide,and_self]) (fun j r hj hf=>by
  obtain⟨L,hl,hg,r0,h3,h4⟩:=step j hj;rw[hg] at hf;rw[hf] at r0;simp only[qMX] at r0;obtain⟨L2,hL2,e2⟩:=qNC.1 hf;subst e2;unfold lO at r0 ⊢;rw[q1o];by_cases h0:0<L.length
  ·have w1:wd .i64 (L.length:Int) 1=(L.length:Int)-1:=zj ⟨by omega,by omega⟩;have e:=qzu h0 (by omega) h4;rw[w1] at e;simp only[STD,q0F,qg2 hl,q9t,w1,e,r0,zf r0,show (j:Int)<ls.length by omega,show (0:Int)<=j by omega,show (0:Int)<L.length by omega,show (0:Int)<=(L.length:Int)-1 by omega,show (L.length:Int)-1<L.length by omega,and_self];rw[if_neg (by decide)]
  ·have e:L=[]:=qNp (by omega);subst e;have r1:(qf qD [.r (rN []),.i 0,.i y0,.i y1,.i (ls.length:Int),.i (j:Int),.r l,.s [],.s [],.s [],.s [],.i 0,.i (l.length:Int),.i y11,.r (lsR ls),.r (lsR ((ls.take j).flatMap (exL l.length)))]).run=_:=r0;simp only[STD,q0F,qg2 hl,q9t,r1,zf r1,show (j:Int)<ls.length by omega,show (0:Int)<=j by omega,show ¬(0:Int)<(([]:List Nat).length:Int) from by decide,and_self];rw[if_neg (by decide)]) (by
  rw[q1o];simp only[STD,show ¬(ls.length:Int)<ls.length by omega,qN3])
 have e:=qyd (P:=k9 l) (lO l l.length y11) (exL l.length) ls [];simp only[qNc,qMD] at e;rw[e] at key;exact key
theorem qIB (hs:yV l){m:Nat}(hm:m<=4)(h:qf3 (k9 l) l.length 1 m=some L) :(kY [.r l,.i (m:Int)]).run=some (0,[.s (tQ (cO l L).x),.s (tQ (cO l L).y),.s (tQ (cO l L).z),.s (tQ (sO l L)),.r (wO l L),.r (rN L),.i 0]):=by
 have hn:=hs.1;have hms:∀q,∀L,L∈lsN l.length q->L.length=q/\∀a,a∈L->a<l.length:=fun q L hL=>by obtain⟨h1,h2,_⟩:=qjB.1 hL;exact⟨h1,h2⟩
 have key:=kT (S:=wX) (fun q=>[.i (m:Int),.i (q:Int),.r l,.s [],.s [],.s [],.s [],.i 0,.i (l.length:Int),.i (m:Int),.r (lsR (lsN l.length q))])
  (fun q=>((lsN l.length (q+1)).find? (k9 l)).map (lO l l.length m))
  (0,[.r l,.s [],.s [],.s [],.s [],.i 0,.i (l.length:Int),.i (m:Int)]) m (by omega) (fun q hq hf=>by
  have r0:=qLG hs (q:=q) (by omega) (qnd (k:=q) hn (by omega)) (hms q) (m:Int) (q:Int) (m:Int);have hf':((((lsN l.length q).flatMap (exL l.length)).find? (k9 l)).map (lO l l.length m))=none:=hf;rw[hf'] at r0;simp only[Option.getD_none] at r0;have w:qm .i64 (q:Int) 1=((q+1:Nat):Int):=jo hq (by omega);rw[q1k];simp only[STD,q0F,r0,zf r0,w,show (q:Int)<m by omega];rfl) (fun q r hq hf=>by
  have r0:=qLG hs (q:=q) (by omega) (qnd (k:=q) hn (by omega)) (hms q) (m:Int) (q:Int) (m:Int);have hf':((((lsN l.length q).flatMap (exL l.length)).find? (k9 l)).map (lO l l.length m))=some r:=hf;rw[hf'] at r0;simp only[qMX] at r0;obtain⟨L2,hL2,e2⟩:=qNC.1 hf';subst e2;unfold lO at r0 ⊢;rw[q1k];simp only[STD,q0F,r0,zf r0,show (q:Int)<m by omega];rw[if_neg (by decide)]) (by
  rw[q1k];simp only[STD,show ¬(m:Int)<m by omega])
 rw[qmQ (P:=k9 l) (lO l l.length m) l.length m 0,h] at key;have key':(qf wX [.i (m:Int),.i 0,.r l,.s [],.s [],.s [],.s [],.i 0,.i (l.length:Int),.i (m:Int),.r [[.l []]]]).run=some (lO l l.length m L):=key;unfold lO at key';have lx:qg l=(l.length:Int):=rfl;rw[qoV];simp only[STD,lx,key',zf key'];rw[if_neg (by decide)]
end Go.Eng

namespace Go.Eng
variable {l:R}
def ptE(x y:Int):Int:=if -100000<=x/\x<=100000/\-100000<=y/\y<=100000 then 0 else 2
def ptA(l:R)(i:Nat):Int:=ptE (cI l i 0) (cI l i 1)
def qyp(l:R):Int:=if 64<qg l then 5 else q28 (ptA l) l.length
theorem qyc (x y:Int):ptE x y=0\/ptE x y=2:=by unfold ptE;split<;>simp
theorem qvs {x y:Int}(h:ptE x y=0):-100000<=x/\x<=100000/\-100000<=y/\y<=100000:=by
 unfold ptE at h;split at h
 ·assumption
 ·omega
theorem qfX (x:Int):(qQ [.i x]).run=some (0,[.b (decide (-100000<=x/\x<=100000))]):=by rw[qoi];simp only[STD];by_cases h:-100000<=x<;>simp[h,ile]
theorem qBI (x:Int):(q4n [.i x]).run=some (0,[.b (decide (-100000<=x/\x<=100000))]):=by rw[qA7];simp only[STD];by_cases h:-100000<=x<;>simp[h,ile]
theorem qwh (x y:Int):(ya [.i x,.i y]).run=some (0,[.b (decide (ptE x y=0))]):=by rw[qtg];simp only[STD,qfX];unfold ptE;by_cases h:-100000<=x<;>by_cases h2:x<=100000<;>by_cases h3:-100000<=y<;>by_cases h4:y<=100000<;>simp[h,h2,h3,h4]
theorem quQ (x y:Int):(q2i [.i x,.i y]).run=some (0,[.b (decide (ptE x y=0))]):=by rw[qs4];simp only[STD,qBI];unfold ptE;by_cases h:-100000<=x<;>by_cases h2:x<=100000<;>by_cases h3:-100000<=y<;>by_cases h4:y<=100000<;>simp[h,h2,h3,h4]
theorem qnR (l:R)(hl:l.length<9223372036854775808):(z7 [.r l]).run=some (0,[.i (q28 (ptA l) l.length)]):=by
 rw[qdq];have k:=qoZ (S:=zb) (fun i=>[.r l,.i (qg l),.i (i:Int)]) (ptA l) [] [] l.length hl (fun i hi=>by
  rw[q38];simp only[STD,qwA hi,qaK,qwh,and_self,jo hi hl];show (if ¬ptA l i=0 then _ else _)=_;have:=qyc (cI l i 0) (cI l i 1);by_cases he:ptA l i=0
  ·simp[he]
  ·have:ptA l i=2:=by unfold ptA at *;omega
   simp[this]) (by
  rw[q38];simp only[STD,qvw])
 by_cases hf:q28 (ptA l) l.length=0
 ·rw[if_pos hf] at k;have k':(qf zb [.r l,.i (qg l),.i 0]).run=_:=k;simp only[STD,k',zf k',hf]
 ·rw[if_neg hf] at k;have k':(qf zb [.r l,.i (qg l),.i 0]).run=_:=k;simp only[STD,k',zf k',show ¬((1:Nat)=0) by decide]
theorem qiZ (l:R):(q39 [.r l]).run=some (0,[.i (qyp l)]):=by
 rw[qru];have e:(zW [.r l]).run=some (0,[.i (qyp l)]):=by
  rw[q9P];unfold qyp;by_cases h:64<qg l
  ·simp only[STD,h]
  ·simp only[STD,h,qnR l (by unfold qg at h;omega)]
 simp only[STD,e]
theorem jj (l:R):(jf [.r l]).run=some (0,[.i (qyp l)]):=by
 rw[qrZ];unfold qyp;by_cases h:64<qg l
 ·simp only[STD,h]
 ·have hl:l.length<9223372036854775808:=by unfold qg at h;omega
  have k:=qoZ (S:=yv) (fun i=>[.r l,.i (i:Int)]) (ptA l) [] [] l.length hl (fun i hi=>by
   rw[qeN];simp only[STD,qwA hi,qaK,quQ,and_self,jo hi hl];show (if ¬ptA l i=0 then _ else _)=_;have:=qyc (cI l i 0) (cI l i 1);by_cases he:ptA l i=0
   ·simp[he]
   ·have:ptA l i=2:=by unfold ptA at *;omega
    simp[this]) (by
   rw[qeN];simp only[STD,qvw])
  by_cases hf:q28 (ptA l) l.length=0
  ·rw[if_pos hf] at k;have k':(qf yv [.r l,.i 0]).run=_:=k;simp only[STD,k',zf k',hf,h]
  ·rw[if_neg hf] at k;have k':(qf yv [.r l,.i 0]).run=_:=k;simp only[STD,k',zf k',h,show ¬((1:Nat)=0) by decide]
def spE(x y z:Int):Int:=if -100000<=x/\x<=100000/\-100000<=y/\y<=100000/\-100000<=z/\z<=100000 then 0 else 2
def spA(l:R)(i:Nat):Int:=spE (cI l i 0) (cI l i 1) (cI l i 2)
def qHX(l:R):Int:=if 64<qg l then 5 else q28 (spA l) l.length
theorem qgN (x y z:Int):spE x y z=0\/spE x y z=2:=by unfold spE;split<;>simp
theorem qw7 {x y z:Int}(h:spE x y z=0):co x/\co y/\co z:=by
 unfold spE at h;split at h
 ·unfold co;omega
 ·omega
theorem qvP (x y z:Int):(jT [.i x,.i y,.i z]).run=some (0,[.b (decide (spE x y z=0))]):=by rw[qsD];simp only[STD,qfX];unfold spE;by_cases h:-100000<=x<;>by_cases h2:x<=100000<;>by_cases h3:-100000<=y<;>by_cases h4:y<=100000<;>by_cases h5:-100000<=z<;>by_cases h6:z<=100000<;>simp[h,h2,h3,h4,h5,h6]
theorem qli (l:R)(hl:l.length<9223372036854775808):(zl [.r l]).run=some (0,[.i (q28 (spA l) l.length)]):=by
 rw[qfH];have k:=qoZ (S:=zq) (fun i=>[.r l,.i (qg l),.i (i:Int)]) (spA l) [] [] l.length hl (fun i hi=>by
  rw[q4f];simp only[STD,qwA hi,qaK,qvP,and_self,jo hi hl];show (if ¬spA l i=0 then _ else _)=_;have:=qgN (cI l i 0) (cI l i 1) (cI l i 2);by_cases he:spA l i=0
  ·simp[he]
  ·have:spA l i=2:=by unfold spA at *;omega
   simp[this]) (by
  rw[q4f];simp only[STD,qvw])
 by_cases hf:q28 (spA l) l.length=0
 ·rw[if_pos hf] at k;have k':(qf zq [.r l,.i (qg l),.i 0]).run=_:=k;simp only[STD,k',zf k',hf]
 ·rw[if_neg hf] at k;have k':(qf zq [.r l,.i (qg l),.i 0]).run=_:=k;simp only[STD,k',zf k',show ¬((1:Nat)=0) by decide]
theorem q0m (l:R):(wK [.r l]).run=some (0,[.i (qHX l)]):=by
 rw[qij];have e:(wC [.r l]).run=some (0,[.i (qHX l)]):=by
  rw[qaj];unfold qHX;by_cases h:64<qg l
  ·simp only[STD,h]
  ·simp only[STD,h,qli l (by unfold qg at h;omega)]
 simp only[STD,e]
theorem qDn (h:qHX l=0):yV l:=by
 unfold qHX at h;split at h
 ·omega
 ·rename_i h64;unfold qg at h64;exact⟨by omega,fun i hi=>qw7 (qdz h i hi)⟩
def qlx(l:R):Int:=if qyp l=0 then (if qg l=0 then 13 else 0) else qyp l
theorem qsN (x:Int):(q3i [.i x]).run=some (0,[.i (if x=0 then 13 else 0)]):=by rw[qpC];by_cases h:x=0<;>simp[STD,h]
theorem qs9 (l:R):(q3l [.r l]).run=some (0,[.i (qlx l)]):=by
 rw[qri];unfold qlx;by_cases h:qyp l=0
 ·by_cases h2:qg l=0<;>simp only[STD,qiZ,qsN,h,h2]
 ·simp only[STD,qiZ,h]
theorem qwJ (l:R):(qb8 [.r l]).run=some (0,[.i (qlx l)]):=by
 rw[quN];unfold qlx;by_cases h:qyp l=0
 ·by_cases h2:qg l=0<;>simp only[STD,jj,h,h2]
 ·simp only[STD,jj,h]
def raR(l:R):R:=(List.range l.length).map fun i:Nat=>[.i (cI l (i:Int) 0),.i (cI l (i:Int) 1),.i 0]
def raN(l:R)(n:Nat):R:=(List.range n).map fun i:Nat=>[.i (cI l (i:Int) 0),.i (cI l (i:Int) 1),.i 0]
theorem qEt (l:R)(n:Nat):qg (raN l n)=(n:Int):=by unfold raN qg;rw[qLZ,qMr]
theorem qnj (l:R):(raR l).length=l.length:=by unfold raR;rw[qLZ,qMr]
theorem qAT (l:R)(n:Nat):raN l (n+1)=zE (raN l n) [[.i (cI l (n:Int) 0),.i (cI l (n:Int) 1),.i 0]]:=by unfold raN zE;rw[qMI,qMe];rfl
theorem qvL {i:Nat}(h:i<l.length):cI (raR l) (i:Int) 0=cI l (i:Int) 0/\cI (raR l) (i:Int) 1=cI l (i:Int) 1/\cI (raR l) (i:Int) 2=0:=by
 have e:(raR l).getD ((i:Int).toNat) []=[.i (cI l (i:Int) 0),.i (cI l (i:Int) 1),.i 0]:=by unfold raR;rw[qM3,qLT,qM2,qMw h];rfl
 refine⟨?_,?_,?_⟩<;>(conv=>lhs;unfold cI zy)<;>rw[e]<;>rfl
theorem qGA (hl:l.length<=64):(q0U [.r l]).run=some (0,[.r (raR l)]):=by
 have key:=qt (S:=jt) (fun i=>[.r l,.i (l.length:Int),.i (i:Int),.r (raN l i)]) (0,[.r (raR l)]) l.length (by omega) (fun i hi=>by
  have e3:qg [[U.i (cI l (i:Int) 0),.i (cI l (i:Int) 1),.i 0]]=1:=rfl;have e4:qg l=(l.length:Int):=rfl;rw[q9x];simp only[STD,qEt,qAT,e3,e4,jo hi (show l.length<9223372036854775808 by omega),show (i:Int)<l.length by omega,show (0:Int)<=i by omega,show (i:Int)+1<=5864062014805 by omega,and_self]) (by
  rw[q9x];simp only[STD,show ¬(l.length:Int)<l.length by omega];rfl)
 have key':(qf jt [.r l,.i (qg l),.i 0,.r []]).run=some (0,[.r (raR l)]):=key;rw[qms];simp only[STD,key']
theorem qsC (hl:l.length<=64):(q6E [.r l]).run=some (0,[.r (raR l)]):=by
 have key:=qt (S:=q11) (fun i=>[.r l,.i (i:Int),.r (raN l i)]) (0,[.r (raR l)]) l.length (by omega) (fun i hi=>by
  have e3:qg [[U.i (cI l (i:Int) 0),.i (cI l (i:Int) 1),.i 0]]=1:=rfl;have e4:qg l=(l.length:Int):=rfl;rw[qcO];simp only[STD,qEt,qAT,e3,e4,jo hi (show l.length<9223372036854775808 by omega),show (i:Int)<l.length by omega,show (0:Int)<=i by omega,show (i:Int)+1<=5864062014805 by omega,and_self]) (by
  have e4:qg l=(l.length:Int):=rfl;rw[qcO];simp only[STD,e4,show ¬(l.length:Int)<l.length by omega];rfl)
 have key':(qf q11 [.r l,.i 0,.r []]).run=some (0,[.r (raR l)]):=key;rw[qpU];simp only[STD,key']
theorem ql0 (h:qyp l=0):l.length<=64/\∀i,i<l.length->co (cI l (i:Int) 0)/\co (cI l (i:Int) 1):=by
 unfold qyp at h;split at h
 ·omega
 ·rename_i h64;unfold qg at h64;refine⟨by omega,fun i hi=>?_⟩;obtain⟨h1,h2,h3,h4⟩:=qvs (qdz h i hi);exact⟨⟨h1,h2⟩,⟨h3,h4⟩⟩
theorem qn0 (h:qlx l=0):qyp l=0/\l.length<=64/\0<l.length/\yV (raR l)/\Mst (raR l) 3:=by
 unfold qlx at h;split at h
 ·rename_i h1;split at h
  ·omega
  ·rename_i h2;unfold qg at h2;obtain⟨q1,q2⟩:=ql0 h1;refine⟨h1,q1,by omega,⟨by rw[qnj];exact q1,fun i hi=>?_⟩,.inr ⟨rfl,fun k hk=>?_⟩⟩
   ·rw[qnj] at hi;obtain⟨e1,e2,e3⟩:=qvL hi;obtain⟨k1,k2⟩:=q2 i hi;unfold qIG;rw[e1,e2,e3];exact⟨k1,k2,by unfold co;omega⟩
   ·rw[qnj] at hk;obtain⟨e1,e2,e3⟩:=qvL hk;show ((cI (raR l) (k:Int) 2:Int):Rat)=0;rw[e3];rfl
 ·rename_i h1;exact absurd h h1
end Go.Eng

namespace Go.Eng
variable {L:List Nat}{l:R}{n:Nat}
theorem qKn (hs:yV l)(hL:L.length=n+1)(hn:n<=3)(hlt:∀k,k∈L->k<l.length)(h:k9 l L=true) :(q0b [.r (chR l L)]).run=some (0,[.s (tQ (cO l L).x),.s (tQ (cO l L).y),.s (tQ (cO l L).z),.s (tQ (sO l L)),.b true]):=by
 have sp:=qpL hs (show L.length<=64 by omega) hlt;have hl:(chR l L).length=n+1:=by rw[qgo];exact hL
 have eL:L.length-1=n:=by omega
 have st:=qz6 h;rw[eL] at st;rcases qnU sp hl hn with⟨t,h1,h4⟩|⟨h1,h4⟩
 ·rw[qya] at h1 h4;have e:=qgm (c:=fun j=>pV l (Lf l L j)) (ql3 h1 st.1);rw[e] at h4;have ec:cO l L=cen (n+1) (wts (tO l L) n) fun j=>pV l (Lf l L j):=by unfold cO;rw[eL]
  unfold sO;rw[ec];exact h4
 ·rw[qya] at h1;exact absurd st.1.ind h1
structure LO (l:R) (m:Nat) (L:List Nat) (n:Nat):Prop where
 first:qf3 (k9 l) l.length 1 m=some L
 len:L.length=n+1
 most:n<m
 three:n<=3
 lt:∀a,a∈L->a<l.length
 asc:L.Pairwise (·<·)
 supp:k9 l L=true
 cb:CB (cO l L)
 sup:Sup l.length (pV l) (n+1) (Lf l L) (wts (tO l L) n) (sO l L)
 cen:cO l L=Go.Eng.cen (n+1) (wts (tO l L) n) fun j=>pV l (Lf l L j)
theorem qJB (hL:L.length=n+1)(hlt:∀a,a∈L->a<l.length){j:Nat}(hj:j<n+1):Lf l L j<l.length:=by unfold Lf;rw[qLT,qM0 (show j<L.length by omega)];exact hlt _ (qMy _)
theorem qH7 (hs:yV l)(hl:0<l.length){m:Nat}(hm:Mst l m):∃L n,LO l m L n:=by
 obtain⟨L,n,h1,h2,h3,h4,h5,h6,t,ht⟩:=qBU hl hm;have eL:L.length-1=n:=by omega
 have sb:k9 l L=true:=qhQ.2 ⟨t,by rw[eL];exact ht⟩;have st:=qz6 sb;rw[eL] at st;have ec:cO l L=cen (n+1) (wts (tO l L) n) fun j=>pV l (Lf l L j):=by unfold cO;rw[eL]
 have su:=qAV st (fun j hj=>qJB h2 h5 hj) (by have:=qFO h6 l.length;rw[h2] at this;exact this);rw[<-ec] at su;exact⟨L,n,h1,h2,h3,h4,h5,h6,sb,(qwT hs h2 h4 h5 sb).1,su,ec⟩
theorem qmz (h0:qlx l=0):∃L n,LO (raR l) 3 L n /\(u7 [.r l]).run=some (0,[.s (tQ (cO (raR l) L).x),.s (tQ (cO (raR l) L).y),.s (tQ (sO (raR l) L)),.r (rN L),.i 0]):=by obtain⟨h1,h2,h3,h4,h5⟩:=qn0 h0;obtain⟨L,n,lo⟩:=qH7 h4 (by rw[qnj];exact h3) h5;have r1:(kY [.r (raR l),.i 3]).run=_:=qIB h4 (m:=3) (by omega) lo.first;refine⟨L,n,lo,?_⟩;rw[qmE];simp only[STD,qs9,h0,qGA h2,r1,qee]
theorem qBP (h0:qlx l=0)(lo:LO (raR l) 3 L n) :(q70 [.r l]).run=some (0,[.s (tQ (cO (raR l) L).x),.s (tQ (cO (raR l) L).y),.s (tQ (sO (raR l) L)),.r (rN L),.i 0]):=by obtain⟨h1,h2,h3,h4,h5⟩:=qn0 h0;have r2:(q4K [.r (raR l),.i 3]).run=_:=qIH h4 (m:=3) (by omega) lo.first;have r3:=qiu (l:=raR l) (L:=L) (by have:=lo.len;have:=lo.three;omega) lo.lt;have r4:=qKn h4 lo.len lo.three lo.lt lo.supp;rw[qqe];simp only[STD,qwJ,h0,qsC h2,r2,r3,r4]
end Go.Eng

namespace Go.Eng
theorem qyT{y:R}(hy:y.length<9223372036854775808):(vV [.r y,.r y]).run=some (0,[.b true]):=by
 have key:=qt (S:=zD) (fun i=>[.r y,.r y,.i (qg y),.i (i:Int)]) (0,[]) y.length hy (fun i hi=>by
  rw[q34];simp only[STD,qwA hi,qaK,and_self,jo hi hy]) (by
  rw[q34];simp only[STD,qvw])
 have key':(qf zD [.r y,.r y,.i (qg y),.i 0]).run=_:=key;rw[qdO];simp only[STD,key',zf key']
def shN(s:qLR):Prop:=(spn s).length<=30/\(spd s).length<=30
instance (s:qLR):Decidable (shN s):=by unfold shN;infer_instance
def E4:R:=[[.i 0,.i 0],[.i 6,.i 0],[.i 3,.i 1]]
theorem qFy:qlx E4=0:=by decide
theorem qKf{c:Nat->V3}{t:Nat->Rat}{a:Rat}(h1:qt8 c 0 0=a)(ha:a≠0)(e1:a*t 0=d2 (c 0) (c 1)):Bl 1 c t:=by
 refine⟨q90.2 fun u hu=>?_,fun i hi=>?_⟩
 ·have q1:=hu 0 (by omega);simp only[su,h1] at q1;intro j hj;have:j=0:=by omega
  subst this;have z:a*u 0=0:=by grind
  rcases Rat.mul_eq_zero.1 z with h|h
  ·exact absurd h ha
  ·exact h
 ·have:i=0:=by omega
  subst this;simp only[su,h1];grind
def qLJ(a b:Rat):Nat->Rat:=fun j=>if j=0 then a else b
def T2:Nat->Rat:=qLJ (17/50) (8/25)
theorem qGy:qzi (pV (raR E4)) (raR E4).length 1 (Lf (raR E4) [0,1]) (fun _=>1/2):=by
 refine⟨qKf (a:=72) (by decide +kernel) (by decide +kernel) (by decide +kernel),?_,?_⟩
 ·decide +kernel
 ·decide +kernel
theorem qL6(l:R):∃b,(q66 [.r l]).run=some (0,[.b b]):=by
 rw[qxU];by_cases h1:qg l<=8
 ·exact⟨true,by simp only[STD,h1]⟩
 ·by_cases h2:64<qg l
  ·exact⟨ilt (qg l) 128,by simp only[STD,h1,h2]⟩
  ·exact⟨false,by simp only[STD,h1,h2]⟩
def qL1(a b:Rat):Int:=sgn (a.num*(b.den:Int)-b.num*(a.den:Int))
theorem qI9{a b:Rat}:0<qL1 a b↔b<a:=by unfold qL1;rw[qE5,qEL]
theorem qJE{l:R}(hs:yV l){m:Nat}{L:List Nat}{n:Nat}(h:LO l m L n):bnd 317 223 (sO l L):=quR hs h.cb (qJB h.len h.lt (by omega))
theorem qJY{x y:Int}(hx:-200000<=x/\x<=200000)(hy:-200000<=y/\y<=200000):-40000000000<=x*y/\x*y<=40000000000:=by
 have h1:(x*y).natAbs<=200000*200000:=by rw[qN6];exact qMB (by omega) (by omega)
 omega
theorem qAh(x:Int):0<=x*x:=by
 rcases Int.le_total 0 x with h|h
 ·exact qND h h
 ·exact Int.mul_nonneg_of_nonpos_of_nonpos h h
theorem qI5{x y z:Int}:qoO x y<=z↔x<=z/\y<=z:=by unfold qoO;split<;>omega
theorem qLi{l:R}{i:Nat}(hi:i<l.length)(x y:Int):d2 ⟨(x:Rat),(y:Rat),0⟩ (pV (raR l) i)=(((x-cI l i 0)*(x-cI l i 0)+(y-cI l i 1)*(y-cI l i 1):Int):Rat):=by obtain⟨e1,e2,e3⟩:=qvL hi;unfold d2 pV;rw[e1,e2,e3];simp only[qNs,qNY,qNF];have:((0:Int):Rat)=0:=rfl;rw[this];grind
theorem qCr{l:R}(h0:qlx l=0){L:List Nat}{n:Nat}(lo:LO (raR l) 3 L n):(u7 [.r l]).run=some (0,[.s (tQ (cO (raR l) L).x),.s (tQ (cO (raR l) L).y),.s (tQ (sO (raR l) L)),.r (rN L),.i 0]):=by
 obtain⟨L',n',lo',h⟩:=qmz h0;have e:L'=L:=by have:=lo'.first;rw[lo.first] at this;exact(qMx this).symm
 rw[e] at h;exact h
theorem qBj{d:Int}(h:¬d<0)(h2:¬100000<d):0<=d*d/\d*d<=10000000000:=by
 refine⟨qAh d,?_⟩;have h1:(d*d).natAbs<=100000*100000:=by rw[qN6];exact qMB (by omega) (by omega)
 omega
theorem qp6:bnd 1 1 (4:Rat):=⟨by decide,by decide⟩
theorem qIa:tQ 4=[52]:=by decide +kernel
noncomputable def pinB(l:R)(L:List Nat)(d:Int):Bool:=decide (4*sO (raR l) L<=((d*d:Int):Rat))
theorem qK5{l:R}(h0:qlx l=0){L:List Nat}{n:Nat}(lo:LO (raR l) 3 L n){d:Int}(h1:¬d<0)(h2:¬100000<d) :(kI [.r l,.i d]).run=some (0,[.b (pinB l L d),.i 0])/\(qrL [.r l,.i d]).run=some (0,[.b (pinB l L d),.i 0]):=by
 obtain⟨g1,g2,g3,g4,g5⟩:=qn0 h0;have r1:=qCr h0 lo;have q1:=qBP h0 lo;have sb:=qJE g4 lo;obtain⟨s1,s2⟩:=qBj h1 h2;have w:zV .i64 d d=d*d:=u4 ⟨by omega,by omega⟩;have r2:=qdr qp6 sb (by omega) (by omega);have q2:=q2w (qp6.sm (K:=100000) (by omega) (by omega)) (sb.sm (K:=100000) (by omega) (by omega));rw[qIa] at r2 q2;have r3:=q0E (m:=d*d) ⟨by omega,by omega⟩;have q3:=q0e (m:=d*d) ⟨by omega,by omega⟩;have db:bnd 11 1 ((d*d:Int):Rat):=qns (qJr (by omega) (by omega)) (by omega);have r4:=qhB (qp6.mul sb) db (by omega) (by omega);change (wD _).run=some (0,[.i (qL1 _ _),.i 0]) at r4;have q4:=qkG ((qp6.mul sb).sm (K:=100000) (by omega) (by omega)) (db.sm (K:=100000) (by omega) (by omega));have e1:ile (qL1 (4*sO (raR l) L) ((d*d:Int):Rat)) 0=pinB l L d:=by
  unfold ile pinB;rw[decide_eq_decide];have:=qI9 (a:=4*sO (raR l) L) (b:=((d*d:Int):Rat));constructor
  ·intro h;exact Rat.not_lt.1 fun hh=>by have:=this.2 hh;omega
  ·intro h;apply qMu;intro hh;exact absurd (this.1 (by omega)) (Rat.not_lt.2 h)
 have e2:ile (sgq (4*sO (raR l) L-((d*d:Int):Rat))) 0=pinB l L d:=by
  unfold ile pinB;rw[decide_eq_decide];have h3:=@qEi (4*sO (raR l) L-((d*d:Int):Rat));constructor
  ·intro h;apply Rat.not_lt.1;intro hh;have:0<sgq (4*sO (raR l) L-((d*d:Int):Rat)):=by rw[h3];grind
   omega
  ·intro h;apply qMu;intro hh;have:0<4*sO (raR l) L-((d*d:Int):Rat):=by rw[<-h3];omega
   grind
 have hr:¬qg l=0:=by unfold qg;omega
 constructor
 ·rw[qyW];simp only[STD,r1,h1,h2,w,r2,r3,r4,e1]
 ·rw[qy0];simp only[STD,jj,g1,hr,h1,h2,q1,w,q2,q3,q4,e2]
def dS(l:R)(i:Nat):Int:=(cI l i 3-cI l i 0)*(cI l i 3-cI l i 0)+(cI l i 4-cI l i 1)*(cI l i 4-cI l i 1)+(cI l i 5-cI l i 2)*(cI l i 5-cI l i 2)
def prE(l:R)(i:Nat):Int:=if spE (cI l i 0) (cI l i 1) (cI l i 2)=0 then spE (cI l i 3) (cI l i 4) (cI l i 5) else spE (cI l i 0) (cI l i 1) (cI l i 2)
theorem qvW(e:Nat->Int):q28 e 2=if e 0=0 then e 1 else e 0:=by
 unfold q28 q5P q5P q5P qal;by_cases h0:e 0=0
 ·by_cases h1:e 1=0<;>simp[h0,h1]
 ·simp[h0]
theorem qqY{x:Int}(h:-200000<=x/\x<=200000):0<=x*x/\x*x<=40000000000:=⟨qAh x,(qJY h h).2⟩
theorem qlS(a b c d e f:Int):(vF [.i a,.i b,.i c,.i d,.i e,.i f]).run = if (if spE a b c=0 then spE d e f else spE a b c)=0 then some (0,[.i ((d-a)*(d-a)+(e-b)*(e-b)+(f-c)*(f-c)),.i 0]) else some (0,[.i 0,.i 2]):=by
 have r:=qli [[.i a,.i b,.i c],[.i d,.i e,.i f]] (by simp);have e2:q28 (spA [[.i a,.i b,.i c],[.i d,.i e,.i f]]) 2=if spE a b c=0 then spE d e f else spE a b c:=qvW _
 have r':(zl [.r [[.i a,.i b,.i c],[.i d,.i e,.i f]]]).run=some (0,[.i (if spE a b c=0 then spE d e f else spE a b c)]):=by rw[<-e2];exact r
 rw[qgB];by_cases h1:spE a b c=0
 ·by_cases h2:spE d e f=0
  ·obtain⟨⟨a1,a2⟩,⟨b1,b2⟩,c1,c2⟩:=qw7 h1;obtain⟨⟨d1,d2⟩,⟨e1,e2⟩,f1,f2⟩:=qw7 h2;have w1:wd .i64 d a=d-a:=zj ⟨by omega,by omega⟩;have w2:wd .i64 e b=e-b:=zj ⟨by omega,by omega⟩;have w3:wd .i64 f c=f-c:=zj ⟨by omega,by omega⟩;have m1:=qqY (x:=d-a) ⟨by omega,by omega⟩;have m2:=qqY (x:=e-b) ⟨by omega,by omega⟩;have m3:=qqY (x:=f-c) ⟨by omega,by omega⟩;have p1:zV .i64 (d-a) (d-a)=(d-a)*(d-a):=u4 ⟨by omega,by omega⟩;have p2:zV .i64 (e-b) (e-b)=(e-b)*(e-b):=u4 ⟨by omega,by omega⟩;have p3:zV .i64 (f-c) (f-c)=(f-c)*(f-c):=u4 ⟨by omega,by omega⟩;have s1:qm .i64 ((d-a)*(d-a)) ((e-b)*(e-b))=(d-a)*(d-a)+(e-b)*(e-b):=qJ ⟨by omega,by omega⟩;have s2:qm .i64 ((d-a)*(d-a)+(e-b)*(e-b)) ((f-c)*(f-c))=(d-a)*(d-a)+(e-b)*(e-b)+(f-c)*(f-c):=qJ ⟨by omega,by omega⟩;simp only[STD,r',h1,h2,qqX,qlU,w1,w2,w3,p1,p2,p3,s1,s2]
  ·have h3:spE d e f=2:=(qgN d e f).resolve_left h2;simp only[STD,r',h1,h3,show ¬(2:Int)=0 by decide]
 ·have h3:spE a b c=2:=(qgN a b c).resolve_left h1;simp only[STD,r',h3,show ¬(2:Int)=0 by decide]
def paE(l:R):Int:=if 64<qg l then 5 else q28 (prE l) l.length
def sqR(l:R)(n:Nat):R:=(List.range n).map fun i:Nat=>[.i (dS l i)]
theorem qzH(l:R)(n:Nat):(sqR l n).length=n:=by unfold sqR;rw[qLZ,qMr]
theorem qH0(l:R)(n:Nat):zE (sqR l n) [[.i (dS l n)]]=sqR l (n+1):=by unfold sqR zE;rw[qMI,qMe];rfl
theorem qHE(l:R){n i:Nat}(h:i<n):cI (sqR l n) (i:Int) 0=dS l i:=by
 have e:(sqR l n).getD ((i:Int).toNat) []=[.i (dS l i)]:=by unfold sqR;rw[qM3,qLT,qM2,qMw h];rfl
 conv=>lhs;unfold cI zy
 rw[e];rfl
theorem qr3(l:R)(i:Nat):prE l i=0\/prE l i=2:=by
 unfold prE;split
 ·exact qgN _ _ _
 ·exact qgN _ _ _
theorem qvE(l:R):(q0t [.r l]).run=some (0,[.r (if paE l=0 then sqR l l.length else []),.i (paE l)]):=by
 rw[qsq];unfold paE;by_cases h:64<qg l
 ·simp only[STD,h,show ¬(5:Int)=0 by decide]
 ·have hl:l.length<=64:=by unfold qg at h;omega
  have key:=kT (S:=q02) (fun i=>[.r l,.i (l.length:Int),.i (i:Int),.r (sqR l i)]) (fun i=>(qal (prE l) i).map fun x=>(1,[PV.i x])) (0,[.r (sqR l l.length)]) l.length (by omega) (fun i hi hf=>by
   have h0:prE l i=0:=by
    unfold qal at hf;split at hf
    ·assumption
    ·cases hf
   have r:=qlS (cI l i 0) (cI l i 1) (cI l i 2) (cI l i 3) (cI l i 4) (cI l i 5);rw[if_pos (show (if spE (cI l i 0) (cI l i 1) (cI l i 2)=0 then spE (cI l i 3) (cI l i 4) (cI l i 5) else spE (cI l i 0) (cI l i 1) (cI l i 2))=0 from h0)] at r;have lr:qg (sqR l i)=(i:Int):=by unfold qg;rw[qzH]
   have e1:∀x:U,qg [[x]]=1:=fun _=>rfl;have es:=qH0 l i;unfold dS at es;rw[q7T];simp only[STD,r,lr,e1,es,jo hi (show l.length<9223372036854775808 by omega),show (i:Int)<l.length by omega,show (0:Int)<=i by omega,show qg l=(l.length:Int) from rfl,show (i:Int)+1<=17592186044416 by omega,and_self]) (fun i r hi hf=>by
   have h0:prE l i≠0/\r=(1,[PV.i (prE l i)]):=by
    unfold qal at hf;split at hf
    ·cases hf
    ·rename_i hh;cases hf;exact⟨hh,rfl⟩
   have h2:prE l i=2:=(qr3 l i).resolve_left h0.1;have rr:=qlS (cI l i 0) (cI l i 1) (cI l i 2) (cI l i 3) (cI l i 4) (cI l i 5);rw[if_neg (show ¬(if spE (cI l i 0) (cI l i 1) (cI l i 2)=0 then spE (cI l i 3) (cI l i 4) (cI l i 5) else spE (cI l i 0) (cI l i 1) (cI l i 2))=0 from h0.1)] at rr;rw[h0.2,h2,q7T];simp only[STD,rr,show (i:Int)<l.length by omega,show (0:Int)<=i by omega,show qg l=(l.length:Int) from rfl,show ¬(2:Int)=0 by decide,and_self]) (by
   rw[q7T];simp only[STD,show ¬(l.length:Int)<l.length by omega])
  have key':(qf q02 [.r l,.i (l.length:Int),.i 0,.r []]).run=_:=key;have lr:qg l=(l.length:Int):=rfl;by_cases hf:q28 (prE l) l.length=0
  ·have hs:q5P (fun i=>(qal (prE l) i).map fun x=>((1:Nat),[PV.i x])) 0 l.length=none:=by rw[qmc (g:=fun _=>none) (fun j _ hj=>by unfold qal;rw[if_pos (qdz hf j (by omega))];rfl),qx4]
   rw[hs] at key';rw[lr] at h;simp only[STD,lr,h,key',zf key',hf,Option.getD_none]
  ·cases hs:q5P (fun i=>(qal (prE l) i).map fun x=>((1:Nat),[PV.i x])) 0 l.length with
   | none=>
    exfalso;exact hf (qyk fun i hi=>by
     have:=q9i hs i (by omega) (by omega);unfold qal at this;split at this
     ·assumption
     ·cases this)
   | some v=>
    obtain⟨j,_,hj2,hj⟩:=qa1 hs;have hv:prE l j≠0/\v=(1,[PV.i (prE l j)]):=by
     unfold qal at hj;split at hj
     ·cases hj
     ·rename_i hh;cases hj;exact⟨hh,rfl⟩
    have h2:prE l j=2:=(qr3 l j).resolve_left hv.1;have hE:q28 (prE l) l.length=2:=by
     unfold q28 at hf ⊢;cases hs2:q5P (qal (prE l)) 0 l.length with
     | none=>rw[hs2] at hf;exact absurd rfl hf
     | some x=>
      obtain⟨k,_,_,hk⟩:=qa1 hs2;unfold qal at hk;split at hk
      ·cases hk
      ·rename_i hh;cases hk;exact(qr3 l k).resolve_left hh
    rw[hs,hv.2,h2] at key';rw[lr] at h;simp only[STD,lr,h,key',zf key',hE,qMX,show ¬((1:Nat)=0) by decide,show ¬(2:Int)=0 by decide]
def qFJ(lo hi:Int):Int:=if (-100000<=lo/\lo<=100000)/\(-100000<=hi/\hi<=100000) then (if hi<lo then 9 else 0) else 2
theorem qkT(x:Int):(wn [.i x]).run=some (0,[.b (decide (-100000<=x/\x<=100000))]):=by
 rw[qjT];by_cases h1:-100000<=x
 ·by_cases h2:x<=100000
  ·simp only[STD,h1,h2,and_self,decide_true];rw[show ile x 100000=true from by simp[ile,h2]]
  ·simp only[STD,h1,h2,and_false,decide_false];rw[show ile x 100000=false from by simp[ile];omega]
 ·simp only[STD,h1,false_and,decide_false]
theorem qb7(lo hi:Int):(kD [.i lo,.i hi]).run=some (0,[.i (qFJ lo hi)]):=by
 rw[qkS];unfold qFJ;by_cases h1:-100000<=lo/\lo<=100000
 ·by_cases h2:-100000<=hi/\hi<=100000
  ·by_cases h3:hi<lo
   ·simp only[STD,qkT,h1,h2,h3,and_self]
   ·simp only[STD,qkT,h1,h2,h3,and_self]
  ·simp only[STD,qkT,h1,h2,and_self,and_false]
 ·simp only[STD,qkT,h1,false_and]
theorem qe2(x:Int):(q65 [.i x]).run=some (0,[.b (decide (-100000<=x/\x<=100000))]):=by
 rw[qzG];by_cases h1:-100000<=x
 ·by_cases h2:x<=100000
  ·simp only[STD,h1,h2,and_self,decide_true];rw[show ile x 100000=true from by simp[ile,h2]]
  ·simp only[STD,h1,h2,and_false,decide_false];rw[show ile x 100000=false from by simp[ile];omega]
 ·simp only[STD,h1,false_and,decide_false]
theorem qiR(lo hi:Int):(q8D [.i lo,.i hi]).run=some (0,[.i (qFJ lo hi)]):=by
 rw[qsT];unfold qFJ;by_cases h1:-100000<=lo/\lo<=100000
 ·by_cases h2:-100000<=hi/\hi<=100000
  ·by_cases h3:hi<lo
   ·simp only[STD,qe2,h1,h2,h3,and_self]
   ·simp only[STD,qe2,h1,h2,h3,and_self]
  ·simp only[STD,qe2,h1,h2,and_self,and_false]
 ·simp only[STD,qe2,h1,false_and]
def lmE(lo hi:Int):Int:=if qFJ lo hi=0 then (if lo<0 then 2 else 0) else qFJ lo hi
theorem qvj(lo hi:Int):(q5I [.i lo,.i hi]).run=some (0,[.i (lmE lo hi)])/\(qnL [.i lo,.i hi]).run=some (0,[.i (lmE lo hi)]):=by
 unfold lmE;constructor
 ·rw[qsb];by_cases h:qFJ lo hi=0
  ·by_cases h2:lo<0<;>simp only[STD,qb7,h,h2]
  ·simp only[STD,qb7,h]
 ·rw[qvq];by_cases h:qFJ lo hi=0
  ·by_cases h2:lo<0<;>simp only[STD,qiR,h,h2]
  ·simp only[STD,qiR,h]
theorem qFS{lo hi:Int}(h:lmE lo hi=0):0<=lo/\lo<=hi/\hi<=100000:=by
 unfold lmE at h;split at h
 ·rename_i h1;unfold qFJ at h1;split at h1
  ·split at h1
   ·omega
   ·split at h<;>omega
  ·omega
 ·omega
theorem qHi{l:R}(h:paE l=0):l.length<=64/\∀i,i<l.length->spE (cI l i 0) (cI l i 1) (cI l i 2)=0/\spE (cI l i 3) (cI l i 4) (cI l i 5)=0:=by
 unfold paE at h;split at h
 ·omega
 ·rename_i h64;unfold qg at h64;refine⟨by omega,fun i hi=>?_⟩;have:=qdz h i hi;unfold prE at this;split at this
  ·rename_i h1;exact⟨h1,this⟩
  ·rename_i h1;exact absurd this h1
def qyy(f:Nat->Int):Nat->Nat
 | 0=>0
 | i+1=>if f i<f (qyy f i) then i else qyy f i
def qzz(f:Nat->Int):Nat->Nat
 | 0=>0
 | i+1=>if f (qzz f i)<f i then i else qzz f i
theorem qro(f:Nat->Int):∀{n:Nat},0<n->qyy f n<n
 | 0,h=>by omega
 | n+1,_=>by
  simp only[qyy];split
  ·omega
  ·cases n with
   | zero=>simp[qyy]
   | succ n=>have:=qro f (n:=n+1) (by omega);omega
theorem qpX(f:Nat->Int):∀{n:Nat},0<n->qzz f n<n
 | 0,h=>by omega
 | n+1,_=>by
  simp only[qzz];split
  ·omega
  ·cases n with
   | zero=>simp[qzz]
   | succ n=>have:=qpX f (n:=n+1) (by omega);omega
theorem qLj(f:Nat->Int){i n:Nat}(h:i<n):qyy f i<n/\qzz f i<n:=by
 cases i with
 | zero=>simp only[qyy,qzz];omega
 | succ i=>exact⟨by have:=qro f (n:=i+1) (by omega);omega,by have:=qpX f (n:=i+1) (by omega);omega⟩
def qFM(s:R)(lo hi:Int)(i:Nat):Option Nat:=if cI s i 0<lo*lo\/hi*hi<cI s i 0 then some i else none
def kpR(s:R)(lo hi:Int):List PV:=match q5P (qFM s lo hi) 0 s.length with
 | none=>[.b true,.i s.length,.i 0]
 | some j=>[.b false,.i j,.i 0]
theorem qL8{lo hi:Int}(h:lmE lo hi=0):zV .i64 lo lo=lo*lo/\zV .i64 hi hi=hi*hi:=by obtain⟨h1,h2,h3⟩:=qFS h;have a:=qBj (d:=lo) (by omega) (by omega);have b:=qBj (d:=hi) (by omega) (by omega);exact⟨u4 ⟨by omega,by omega⟩,u4 ⟨by omega,by omega⟩⟩
theorem qxT{f:Nat->Option Nat}{g:Nat->Nat×List PV}:∀k i,q5P (fun j=>(f j).map g) i k=(q5P f i k).map g
 | 0,_=>rfl
 | k+1,i=>by
  simp only[q5P];cases f i with
  | none=>simp only[Option.map_none];exact qxT k (i+1)
  | some x=>rfl
theorem qwp{s:R}(hs:s.length<=64){lo hi:Int}(h:lmE lo hi=0) :(zU [.r s,.i lo,.i hi]).run=some (0,[.i (match q5P (qFM s lo hi) 0 s.length with|none=>-1|some j=>(j:Int)),.i lo,.i hi]):=by
 obtain⟨w1,w2⟩:=qL8 h;have lr:qg s=(s.length:Int):=rfl;have key:=kT (S:=z6) (fun i=>[.r s,.i (s.length:Int),.i (i:Int),.i lo,.i hi]) (fun i=>(qFM s lo hi i).map fun j:Nat=>(1,[PV.i (j:Int),.i lo,.i hi])) (0,[.i lo,.i hi]) s.length (by omega) (fun i hi2 hf=>by
  have hb:¬(cI s i 0<lo*lo\/hi*hi<cI s i 0):=fun hb=>by unfold qFM at hf;rw[if_pos hb] at hf;cases hf
  have e:ilt (hi*hi) (cI s i 0)=false:=by unfold ilt;simp;omega
  rw[jD];simp only[STD,q9C,w1,w2,lr,e,jo hi2 (show s.length<9223372036854775808 by omega),show ¬cI s i 0<lo*lo by omega,show (i:Int)<s.length by omega,show (0:Int)<=i by omega,and_self]) (fun i r hi2 hf=>by
  have hb:(cI s i 0<lo*lo\/hi*hi<cI s i 0)/\r=(1,[PV.i (i:Int),.i lo,.i hi]):=by
   unfold qFM at hf;split at hf
   ·rename_i hb;cases hf;exact⟨hb,rfl⟩
   ·cases hf
  rw[hb.2,jD];by_cases c:cI s i 0<lo*lo
  ·simp only[STD,q9C,w1,w2,lr,c,show (i:Int)<s.length by omega,show (0:Int)<=i by omega,and_self]
  ·have e:ilt (hi*hi) (cI s i 0)=true:=by unfold ilt;simp;omega
   simp only[STD,q9C,w1,w2,lr,c,e,show (i:Int)<s.length by omega,show (0:Int)<=i by omega,and_self]) (by
  rw[jD];simp only[STD,show ¬(s.length:Int)<s.length by omega])
 rw[qxT] at key;have key':(qf z6 [.r s,.i (s.length:Int),.i 0,.i lo,.i hi]).run=_:=key;rw[qa2];cases hsc:q5P (qFM s lo hi) 0 s.length with
 | none=>
  rw[hsc] at key';simp only[Option.map_none,Option.getD_none] at key';simp only[STD,lr,key',zf key']
 | some j=>
  rw[hsc] at key';simp only[qMt,qMX] at key';simp only[STD,lr,key',zf key',show ¬((1:Nat)=0) by decide]
theorem qzI(l:R)(lo hi:Int):(q08 [.r l,.i lo,.i hi]).run=some (0,if paE l=0 then (if lmE lo hi=0 then kpR (sqR l l.length) lo hi else [.b false,.i 0,.i (lmE lo hi)]) else [.b false,.i 0,.i (paE l)]):=by
 rw[qvo];by_cases h:paE l=0
 ·obtain⟨hl,_⟩:=qHi h;have r1:=qvE l;rw[if_pos h] at r1;by_cases h2:lmE lo hi=0
  ·have r2:=qwp (s:=sqR l l.length) (by rw[qzH];exact hl) h2;unfold kpR;rw[if_pos h,if_pos h2];cases hsc:q5P (qFM (sqR l l.length) lo hi) 0 (sqR l l.length).length with
   | none=>
    rw[hsc] at r2;simp only[STD,r1,h,(qvj lo hi).1,h2,r2,show ¬(0:Int)<=-1 by decide];rfl
   | some j=>
    rw[hsc] at r2;simp only[STD,r1,h,(qvj lo hi).1,h2,r2,show (0:Int)<=(j:Int) by omega]
  ·rw[if_pos h,if_neg h2];simp only[STD,r1,h,(qvj lo hi).1,h2]
 ·rw[if_neg h];simp only[STD,qvE,h]
variable {l:R}
def cA(l:R)(a:Int)(i:Nat):Int:=qma [cI l i 0,cI l i 1,cI l i 2] a
theorem qlY (x y z:Int){a:Int}(h:0<=a/\a<3):(qE [.i x,.i y,.i z,.i a]).run=some (0,[.i (qma [x,y,z] a),.i a]):=by rw[qgy];simp only[STD,h.1,h.2,and_self]
theorem qyI (h0:0<l.length)(h:l.length<=64){a:Int}(ha:0<=a/\a<3):(wT [.r l,.i a]).run=some (0,[.i (qyy (cA l a) l.length:Int),.i (qzz (cA l a) l.length:Int),.i a]):=by
 have key:=qt (S:=zm) (fun i=>[.r l,.r l,.i (l.length:Int),.i (i:Int),.i a,.i 0,.i 0,.i (qyy (cA l a) i:Int),.i (qzz (cA l a) i:Int)])
  (0,[.i a,.i 0,.i 0,.i (qyy (cA l a) l.length:Int),.i (qzz (cA l a) l.length:Int)]) l.length (by omega) (fun i hi=>by
  obtain⟨b1,b2⟩:=qLj (cA l a) hi;have lr:qg l=(l.length:Int):=rfl;have w:=jo hi (show l.length<9223372036854775808 by omega);obtain⟨x,hx⟩:∃x,x=qyy (cA l a) i:=⟨_,rfl⟩;obtain⟨y,hy⟩:∃y,y=qzz (cA l a) i:=⟨_,rfl⟩;have e1:qyy (cA l a) (i+1)=if cA l a i<cA l a x then i else x:=by rw[hx];rfl
  have e2:qzz (cA l a) (i+1)=if cA l a y<cA l a i then i else y:=by rw[hy];rfl
  have ei:qma [cI l i 0,cI l i 1,cI l i 2] a=cA l a i:=rfl;have ex:qma [cI l x 0,cI l x 1,cI l x 2] a=cA l a x:=rfl;have ey:qma [cI l y 0,cI l y 1,cI l y 2] a=cA l a y:=rfl;rw[<-hx] at b1;rw[<-hy] at b2;rw[q1R,e1,e2,<-hx,<-hy];by_cases c1:cA l a i<cA l a x
  ·by_cases c2:cA l a y<cA l a i
   ·simp only[STD,qlY _ _ _ ha,lr,w,ei,ex,ey,c1,c2,show (i:Int)<l.length by omega,show (0:Int)<=i by omega,show (x:Int)<l.length by omega,show (0:Int)<=x by omega,show (y:Int)<l.length by omega,show (0:Int)<=y by omega,and_self]
   ·simp only[STD,qlY _ _ _ ha,lr,w,ei,ex,ey,c1,c2,show (i:Int)<l.length by omega,show (0:Int)<=i by omega,show (x:Int)<l.length by omega,show (0:Int)<=x by omega,show (y:Int)<l.length by omega,show (0:Int)<=y by omega,and_self]
  ·by_cases c2:cA l a y<cA l a i
   ·simp only[STD,qlY _ _ _ ha,lr,w,ei,ex,ey,c1,c2,show (i:Int)<l.length by omega,show (0:Int)<=i by omega,show (x:Int)<l.length by omega,show (0:Int)<=x by omega,show (y:Int)<l.length by omega,show (0:Int)<=y by omega,and_self]
   ·simp only[STD,qlY _ _ _ ha,lr,w,ei,ex,ey,c1,c2,show (i:Int)<l.length by omega,show (0:Int)<=i by omega,show (x:Int)<l.length by omega,show (0:Int)<=x by omega,show (y:Int)<l.length by omega,show (0:Int)<=y by omega,and_self]) (by
  rw[q1R];simp only[STD,show ¬(l.length:Int)<l.length by omega])
 have key':(qf zm [.r l,.r l,.i (l.length:Int),.i 0,.i a,.i 0,.i 0,.i 0,.i 0]).run=_:=key;rw[qbl];simp only[STD,show qg l=(l.length:Int) from rfl,key']
def mnA(l:R)(a:Int):Int:=cA l a (qyy (cA l a) l.length)
def mxA(l:R)(a:Int):Int:=cA l a (qzz (cA l a) l.length)
theorem q6Z (h0:0<l.length)(h:l.length<=64){a:Int}(ha:0<=a/\a<3):(zg [.r l,.i a]).run=some (0,[.i (mnA l a),.i (mxA l a)]):=by have r:=qyI h0 h ha;have b1:=qro (cA l a) h0;have b2:=qpX (cA l a) h0;have lr:qg l=(l.length:Int):=rfl;rw[qk1];simp only[STD,r,lr,qlY _ _ _ ha,show ((qyy (cA l a) l.length:Nat):Int)<l.length by omega,show (0:Int)<=((qyy (cA l a) l.length:Nat):Int) by omega,show ((qzz (cA l a) l.length:Nat):Int)<l.length by omega,show (0:Int)<=((qzz (cA l a) l.length:Nat):Int) by omega,and_self];rfl
def sdE(l:R):Int:=if qg l=0 then 13 else qHX l
def fcE(a:Int)(l m:R):Int:=if a<0 then 1 else if 3<=a then 1 else if sdE l=0 then (if sdE m=0 then (if mnA m a<=mxA l a then 9 else 0) else sdE m) else sdE l
theorem qp3 (h:sdE l=0):0<l.length/\l.length<=64/\yV l:=by
 unfold sdE at h;split at h
 ·omega
 ·rename_i h1;have sp:=qDn h;exact⟨by unfold qg at h1;omega,sp.1,sp⟩
theorem qJd (l m:R)(a:Int){i:Nat}(hi:i<2):(ji [.r l,.r m,.i (i:Int),.i a,.r l,.r m]).run=if sdE (if i=0 then l else m)=0 then some (0,[.r l,.r m,.i ((i+1:Nat):Int),.i a,.r l,.r m]) else some (2,.i (sdE (if i=0 then l else m))::[]):=by
 have w:=jo hi (show 2<9223372036854775808 by omega);rw[qh5];rcases (show i=0\/i=1 by omega) with rfl|rfl
 ·have w':qm .i64 0 1=((0+1:Nat):Int):=w;rw[if_pos rfl];unfold sdE;by_cases h:qg l=0
  ·simp only[STD,h,show ((0:Nat):Int)=0 from rfl,show (0:Int)<2 by decide,show ¬(13:Int)=0 by decide]
  ·by_cases h2:qHX l=0
   ·simp only[STD,h,h2,q0m,w',show ((0:Nat):Int)=0 from rfl,show (0:Int)<2 by decide]
   ·simp only[STD,h,h2,q0m,show ((0:Nat):Int)=0 from rfl,show (0:Int)<2 by decide]
 ·have w':qm .i64 1 1=((1+1:Nat):Int):=w;rw[show (if (1:Nat)=0 then l else m)=m from rfl];unfold sdE;by_cases h:qg m=0
  ·simp only[STD,h,show ((1:Nat):Int)=1 from rfl,show (1:Int)<2 by decide,show ¬(1:Int)=0 by decide,show ¬(13:Int)=0 by decide]
  ·by_cases h2:qHX m=0
   ·simp only[STD,h,h2,q0m,w',show ((1:Nat):Int)=1 from rfl,show (1:Int)<2 by decide,show ¬(1:Int)=0 by decide]
   ·simp only[STD,h,h2,q0m,show ((1:Nat):Int)=1 from rfl,show (1:Int)<2 by decide,show ¬(1:Int)=0 by decide]
theorem qkB (a:Int)(l m:R):(ut [.i a,.r l,.r m]).run=some (0,[.i (fcE a l m)]):=by
 rw[qvY];unfold fcE;by_cases h1:a<0
 ·simp only[STD,h1]
 by_cases h2:3<=a
 ·simp only[STD,h1,h2]
 have k:=qoZ (S:=ji) (fun i=>[.r l,.r m,.i (i:Int),.i a,.r l,.r m]) (fun i=>sdE (if i=0 then l else m)) [] [.i a,.r l,.r m] 2 (by omega) (fun i hi=>qJd l m a hi) (by rw[qh5];simp only[STD,show ¬((2:Nat):Int)<2 by decide]);have e:q28 (fun i=>sdE (if i=0 then l else m)) 2=if sdE l=0 then sdE m else sdE l:=qvW _
 rw[e] at k;by_cases h3:sdE l=0
 ·by_cases h4:sdE m=0
  ·rw[if_pos (by rw[if_pos h3];exact h4)] at k;have k':(qf ji [.r l,.r m,.i 0,.i a,.r l,.r m]).run=_:=k;obtain⟨l1,l2,_⟩:=qp3 h3;obtain⟨m1,m2,_⟩:=qp3 h4;have c1:=q6Z l1 l2 (a:=a) ⟨by omega,by omega⟩;have c2:=q6Z m1 m2 (a:=a) ⟨by omega,by omega⟩;by_cases h5:mnA m a<=mxA l a
   ·simp only[STD,h1,h2,h3,h4,k',zf k',c1,c2,h5]
   ·simp only[STD,h1,h2,h3,h4,k',zf k',c1,c2,h5]
  ·rw[if_neg (by rw[if_pos h3];exact h4),if_pos h3] at k;have k':(qf ji [.r l,.r m,.i 0,.i a,.r l,.r m]).run=_:=k;simp only[STD,h1,h2,h3,h4,k',zf k',show ¬((1:Nat)=0) by decide]
 ·rw[if_neg (by rw[if_neg h3];exact h3),if_neg h3] at k;have k':(qf ji [.r l,.r m,.i 0,.i a,.r l,.r m]).run=_:=k;simp only[STD,h1,h2,h3,k',zf k',show ¬((1:Nat)=0) by decide]
theorem qH4 {a:Int}{l m:R}(h:fcE a l m=0):(0<=a/\a<3)/\(0<l.length/\l.length<=64/\yV l)/\(0<m.length/\m.length<=64/\yV m)/\mxA l a<mnA m a:=by
 unfold fcE at h;split at h
 ·omega
 ·split at h
  ·omega
  ·split at h
   ·rename_i h3;split at h
    ·rename_i h4;split at h
     ·omega
     ·exact⟨⟨by omega,by omega⟩,qp3 h3,qp3 h4,by omega⟩
    ·omega
   ·omega
theorem qGp (hs:yV l){i:Nat}(hi:i<l.length){a:Int}(ha:0<=a/\a<3):co (cA l a i):=by
 obtain⟨h1,h2,h3⟩:=hs.2 i hi;unfold cA;rcases (show a=0\/a=1\/a=2 by omega) with rfl|rfl|rfl
 ·exact h1
 ·exact h2
 ·exact h3
theorem qrb {a:Int}{l m:R}(h:fcE a l m=0):(q0x [.i a,.r l,.r m]).run=some (0,[.i (mnA m a-mxA l a),.i (mxA m a-mnA l a)]):=by obtain⟨ha,⟨l1,l2,l3⟩,⟨m1,m2,m3⟩,_⟩:=qH4 h;have c1:=q6Z l1 l2 ha;have c2:=q6Z m1 m2 ha;have x1:=qGp l3 (qro (cA l a) l1) ha;have x2:=qGp l3 (qpX (cA l a) l1) ha;have y1:=qGp m3 (qro (cA m a) m1) ha;have y2:=qGp m3 (qpX (cA m a) m1) ha;unfold co at *;have w1:wd .i64 (mnA m a) (mxA l a)=mnA m a-mxA l a:=zj ⟨by unfold mnA mxA;omega,by unfold mnA mxA;omega⟩;have w2:wd .i64 (mxA m a) (mnA l a)=mxA m a-mnA l a:=zj ⟨by unfold mnA mxA;omega,by unfold mnA mxA;omega⟩;rw[qsj];simp only[STD,c1,c2,w1,w2]
theorem qx1 (a:Int)(l m:R)(b:Bool):(q2l [.i a,.r l,.r m,.b b]).run=some (0,if fcE a l m=0 then [.i (if b=true then mnA m a-mxA l a else mxA m a-mnA l a),.i 0] else [.i 0,.i (fcE a l m)]):=by
 rw[qtf];by_cases h:fcE a l m=0
 ·cases b
  ·simp only[STD,qkB,h,qrb h]
  ·simp only[STD,qkB,h,qrb h]
 ·simp only[STD,qkB,h]
theorem qFp (a:Int)(l m:R):(q4J [.i a,.r l,.r m]).run=some (0,if fcE a l m=0 then [.i (mnA m a-mxA l a),.i (mxA m a-mnA l a),.i 0] else [.i 0,.i 0,.i (fcE a l m)]):=by
 rw[qtj];by_cases h:fcE a l m=0
 ·simp only[STD,qkB,h,qrb h]
 ·simp only[STD,qkB,h]
theorem qDj {L:List Nat}{n:Nat}(lo:LO (raR E4) 3 L n):sO (raR E4) L=9:=by
 have su:=qAV qGy (by decide) (by
  intro j k h1 h2;have e:j=0/\k=1:=by omega
  obtain⟨rfl,rfl⟩:=e;decide)
 obtain⟨e,_⟩:=qGP lo.sup su;rw[e];decide +kernel
theorem qHT (d:Int)(h1:¬d<0)(h2:¬100000<d):(kI [.r E4,.i d]).run=some (0,[.b (decide ((36:Rat)<=((d*d:Int):Rat))),.i 0]):=by obtain⟨L,n,lo,_⟩:=qmz qFy;rw[(qK5 qFy lo h1 h2).1];unfold pinB;rw[qDj lo,show (4:Rat)*9=36 by decide +kernel]
theorem q7l:(q2t []).run=some (0,[.b true]):=by
 have a0:=qvE [[.i 0,.i 0,.i 0,.i 3,.i 4,.i 0]];have a1:=qzI [[.i 0,.i 0,.i 0,.i 3,.i 4,.i 0]] 4 5;have a2:=qzI [[.i 0,.i 0,.i 0,.i 3,.i 4,.i 0]] 6 7;have a4:=qx1 0 [[.i 0,.i 0,.i 0],[.i 1,.i 5,.i 0]] [[.i 10,.i 0,.i 0],[.i 12,.i 5,.i 0]] true;have a5:=qx1 0 [[.i 0,.i 0,.i 0],[.i 1,.i 5,.i 0]] [[.i 10,.i 0,.i 0],[.i 12,.i 5,.i 0]] false;have a6:=qFp 0 [[.i 0,.i 0,.i 0],[.i 1,.i 5,.i 0]] [[.i 10,.i 0,.i 0],[.i 12,.i 5,.i 0]];have a7:(kI [.r [[.i 0,.i 0],[.i 6,.i 0],[.i 3,.i 1]],.i 6]).run=_:=qHT 6 (by decide) (by decide);have a8:(kI [.r [[.i 0,.i 0],[.i 6,.i 0],[.i 3,.i 1]],.i 5]).run=_:=qHT 5 (by decide) (by decide);have v0:paE [[.i 0,.i 0,.i 0,.i 3,.i 4,.i 0]]=0:=by decide
 have v1:sqR [[.i 0,.i 0,.i 0,.i 3,.i 4,.i 0]] (List.length [[U.i 0,.i 0,.i 0,.i 3,.i 4,.i 0]])=[[.i 25]]:=rfl;have v2:fcE 0 [[.i 0,.i 0,.i 0],[.i 1,.i 5,.i 0]] [[.i 10,.i 0,.i 0],[.i 12,.i 5,.i 0]]=0:=by decide
 have v3:mnA [[.i 10,.i 0,.i 0],[.i 12,.i 5,.i 0]] 0=10:=by decide
 have v4:mxA [[.i 10,.i 0,.i 0],[.i 12,.i 5,.i 0]] 0=12:=by decide
 have v5:mnA [[.i 0,.i 0,.i 0],[.i 1,.i 5,.i 0]] 0=0:=by decide
 have v6:mxA [[.i 0,.i 0,.i 0],[.i 1,.i 5,.i 0]] 0=1:=by decide
 have k1:kpR [[.i 25]] 4 5=[.b true,.i 1,.i 0]:=rfl;have k2:kpR [[.i 25]] 6 7=[.b false,.i 0,.i 0]:=rfl;rw[if_pos v0,v0,v1] at a0;rw[if_pos v0,if_pos (by decide),v1,k1] at a1;rw[if_pos v0,if_pos (by decide),v1,k2] at a2;rw[if_pos v2,if_pos rfl,v3,v6] at a4;rw[if_pos v2,if_neg (by decide),v4,v5] at a5;rw[if_pos v2,v3,v6,v4,v5] at a6;rw[show decide ((36:Rat)<=((6*6:Int):Rat))=true by decide +kernel] at a7;rw[show decide ((36:Rat)<=((5*5:Int):Rat))=false by decide +kernel] at a8;have eq:=qyT (y:=[[.i 25]]) (by decide);rw[qsR];have w0:qm .i64 0 0=0:=by decide
 simp only[STD,a0,a1,a2,quJ,a4,a5,a6,a7,a8,eq,w0,show (10:Int)-1=9 by decide,show (12:Int)-0=12 by decide,and_self,Bool.not_false]
end Go.Eng

namespace Go.Eng
variable {i:Nat}{k:Nat}{l:R}
def dP(l:R)(p:Nat×Nat):Int:=(cI l p.2 0-cI l p.1 0)*(cI l p.2 0-cI l p.1 0)+(cI l p.2 1-cI l p.1 1)*(cI l p.2 1-cI l p.1 1)
def qp5(l:R)(p:Nat×Nat):List U:=[.i (cI l p.1 0),.i (cI l p.1 1),.i 0,.i (cI l p.2 0),.i (cI l p.2 1),.i 0]
def qym(l:R)(P:List (Nat×Nat)):Int:=P.foldl (fun m p=>qoO m (dP l p)) 0
def qiG(k i:Nat):List (Nat×Nat):=(List.range i).flatMap fun a=>(List.range k).map fun b=>(a,b)
theorem qwU (k i:Nat):qiG k (i+1)=qiG k i++(List.range k).map fun b=>(i,b):=by unfold qiG;rw[qMI,List.flatMap_append];simp
theorem qAA(k:Nat):∀i,(qiG k i).length=i*k
 | 0=>by simp[qiG]
 | i+1=>by rw[qwU,qMc,qAA k i,qLZ,qMr,Nat.succ_mul]
theorem qGY {k i:Nat}{p:Nat×Nat}:p∈qiG k i↔p.1<i/\p.2<k:=by
 unfold qiG;simp only[qNQ,qMP,qMJ];constructor
 ·rintro ⟨a,ha,b,hb,rfl⟩;exact⟨ha,hb⟩
 ·rintro ⟨h1,h2⟩;exact⟨p.1,h1,p.2,h2,rfl⟩
theorem qGh (l:R)(P:List (Nat×Nat))(p:Nat×Nat):qym l (P++[p])=qoO (qym l P) (dP l p):=by unfold qym;rw[List.foldl_append];rfl
theorem qEh{l:R}{v:Int}:∀(P:List (Nat×Nat)) (m:Int),P.foldl (fun m p=>qoO m (dP l p)) m<=v↔m<=v/\∀p,p∈P->dP l p<=v
 | [],m=>by simp
 | q::P,m=>by
  simp only[qNv];rw[qEh P,qI5];constructor
  ·rintro ⟨⟨h1,h2⟩,h3⟩;refine⟨h1,fun p hp=>?_⟩;rcases qMb.1 hp with rfl|hp
   ·exact h2
   ·exact h3 p hp
  ·rintro ⟨h1,h2⟩;exact⟨⟨h1,h2 q qMf⟩,fun p hp=>h2 p (qMh _ hp)⟩
theorem qEf {P:List (Nat×Nat)}{v:Int}(hv:0<=v):qym l P<=v↔∀p,p∈P->dP l p<=v:=by unfold qym;rw[qEh];exact⟨fun h=>h.2,fun h=>⟨hv,h⟩⟩
theorem qFa {a b c d:Int}(h1:ptE a b=0)(h2:ptE c d=0):(q1S [.i a,.i b,.i c,.i d]).run=some (0,[.i ((c-a)*(c-a)+(d-b)*(d-b)),.i 0]):=by
 have r:=qnR [[.i a,.i b],[.i c,.i d]] (by simp);have e2:q28 (ptA [[.i a,.i b],[.i c,.i d]]) 2=if ptE a b=0 then ptE c d else ptE a b:=qvW _
 have r':(z7 [.r [[.i a,.i b],[.i c,.i d]]]).run=some (0,[.i 0]):=by rw[if_pos h1,h2] at e2;rw[<-e2];exact r
 obtain⟨a1,a2,b1,b2⟩:=qvs h1;obtain⟨c1,c2,d1,d2⟩:=qvs h2;have w1:wd .i64 c a=c-a:=zj ⟨by omega,by omega⟩;have w2:wd .i64 d b=d-b:=zj ⟨by omega,by omega⟩;have m1:=qqY (x:=c-a) ⟨by omega,by omega⟩;have m2:=qqY (x:=d-b) ⟨by omega,by omega⟩;have p1:zV .i64 (c-a) (c-a)=(c-a)*(c-a):=u4 ⟨by omega,by omega⟩;have p2:zV .i64 (d-b) (d-b)=(d-b)*(d-b):=u4 ⟨by omega,by omega⟩;have s1:qm .i64 ((c-a)*(c-a)) ((d-b)*(d-b))=(c-a)*(c-a)+(d-b)*(d-b):=qJ ⟨by omega,by omega⟩;rw[qoa];simp only[STD,r',qyl,qjk,w1,w2,p1,p2,s1]
theorem qKr (l:R){k j:Nat}(_:k<=l.length)(hj:j<k)(c:Nat):cI (qpb l 0 (k:Int)) (j:Int) c=cI l (j:Int) c:=by
 unfold cI zy;have e:(qpb l 0 (k:Int)).getD ((j:Int).toNat) []=l.getD ((j:Int).toNat) []:=by unfold qpb;simp only[qM3,qLT];simp[hj]
 rw[e]
theorem qEr (l:R)(hk:k<=l.length):qg (qpb l 0 (k:Int))=(k:Int):=by unfold qg qpb;simp;omega
theorem qIA (h:qyp l=0)(hk:k<=l.length)(hk7:k<=7)(d:Int)(ok:Bool)(n:Int)(hi:i<l.length) :(qf vG [.r l,.i d,.b ok,.i (qym l (qiG k i)),.r l,.i n,.i (i:Int),.r (qpb l 0 (k:Int)),.i (k:Int),.i 0,.r ((qiG k i).map (qp5 l)),.i (cI l i 0),.i (cI l i 1)]).run = some (0,[.r l,.i d,.b ok,.i (qym l (qiG k (i+1))),.r l,.i n,.i (i:Int),.r ((qiG k (i+1)).map (qp5 l))]):=by
 obtain⟨l64,hco⟩:=ql0 h;have key:=qt (S:=vG) (fun j=>[.r l,.i d,.b ok,.i (qym l (qiG k i++(List.range j).map fun b=>(i,b))),.r l,.i n,.i (i:Int),.r (qpb l 0 (k:Int)),.i (k:Int),.i (j:Int),.r ((qiG k i++(List.range j).map fun b=>(i,b)).map (qp5 l)),.i (cI l i 0),.i (cI l i 1)])
  (0,[.r l,.i d,.b ok,.i (qym l (qiG k i++(List.range k).map fun b=>(i,b))),.r l,.i n,.i (i:Int),.r ((qiG k i++(List.range k).map fun b=>(i,b)).map (qp5 l))]) k (by omega) (fun j hj=>by
  have hjl:j<l.length:=by omega
  have sq:=qFa (a:=cI l i 0) (b:=cI l i 1) (c:=cI l j 0) (d:=cI l j 1) (by unfold ptE;have:=hco i hi;unfold co at this;rw[if_pos (by omega)]) (by unfold ptE;have:=hco j hjl;unfold co at this;rw[if_pos (by omega)]);have im:i*k<=64*7:=qMB (by omega) hk7;have rl:qg ((qiG k i++(List.range j).map fun b=>(i,b)).map (qp5 l))=((i*k+j:Nat):Int):=by unfold qg;rw[qLZ,qMc,qAA,qLZ,qMr]
  have e1:∀a b c d e f:U,qg [[a,b,c,d,e,f]]=1:=fun _ _ _ _ _ _=>rfl;have ap:zE ((qiG k i++(List.range j).map fun b=>(i,b)).map (qp5 l)) [[.i (cI l i 0),.i (cI l i 1),.i 0,.i (cI l j 0),.i (cI l j 1),.i 0]]=(qiG k i++(List.range (j+1)).map fun b=>(i,b)).map (qp5 l):=by
   have e:(qiG k i++(List.range (j+1)).map fun b=>(i,b))=(qiG k i++(List.range j).map fun b=>(i,b))++[(i,j)]:=by rw[qMI,qMe,qMo];rfl
   obtain⟨X,hX⟩:∃X,X=qiG k i++(List.range j).map fun b=>(i,b):=⟨_,rfl⟩;rw[e,<-hX,qMe];rfl
  have fa:qym l (qiG k i++(List.range (j+1)).map fun b=>(i,b))=qoO (qym l (qiG k i++(List.range j).map fun b=>(i,b))) ((cI l j 0-cI l i 0)*(cI l j 0-cI l i 0)+(cI l j 1-cI l i 1)*(cI l j 1-cI l i 1)):=by rw[qMI,qMe,<-qMo];exact qGh l _ (i,j)
  rw[q7h];simp only[STD,qEr l hk,qKr l hk hj,sq,rl,e1,ap,fa,jo hj (show k<9223372036854775808 by omega),show (j:Int)<k by omega,show (0:Int)<=j by omega,show ((i*k+j:Nat):Int)+1<=2932031007402 by omega,and_self]) (by
  rw[q7h];simp only[STD,show ¬(k:Int)<k by omega])
 rw[<-qwU] at key;have e0:qiG k i++(List.range 0).map (fun b=>(i,b))=qiG k i:=by simp
 rw[e0] at key;exact key
theorem qJg (h:qyp l=0)(hk:k=min l.length 7)(d:Int)(ok:Bool) :(qf vK [.r l,.i d,.b ok,.i 0,.r l,.i (l.length:Int),.i 0,.r []]).run=some (0,[.i d,.b ok,.i (qym l (qiG k l.length)),.r ((qiG k l.length).map (qp5 l))]):=by
 obtain⟨l64,_⟩:=ql0 h;have km:qfN (l.length:Int) 7=(k:Int):=by unfold qfN;split<;>omega
 have lr:qg l=(l.length:Int):=rfl;have key:=qt (S:=vK) (fun i=>[.r l,.i d,.b ok,.i (qym l (qiG k i)),.r l,.i (l.length:Int),.i (i:Int),.r ((qiG k i).map (qp5 l))])
  (0,[.i d,.b ok,.i (qym l (qiG k l.length)),.r ((qiG k l.length).map (qp5 l))]) l.length (by omega) (fun i hi=>by
  have inn:=qIA h (k:=k) (by omega) (by omega) d ok (l.length:Int) hi;rw[q7n];simp only[STD,lr,km,qEr l (show k<=l.length by omega),inn,zf inn,jo hi (show l.length<9223372036854775808 by omega),show (i:Int)<l.length by omega,show (0:Int)<=i by omega,show (0:Int)<=k by omega,show (k:Int)<=l.length by omega,show (0:Int)<=0 by omega,and_self]) (by
  rw[q7n];simp only[STD,show ¬(l.length:Int)<l.length by omega])
 exact key
theorem qGU (a b c:V3):d2 a b<=2*d2 c a+2*d2 c b:=by have h1:=qiX (a.x+b.x-2*c.x);have h2:=qiX (a.y+b.y-2*c.y);have h3:=qiX (a.z+b.z-2*c.z);unfold d2;grind
theorem qIb {p:Nat×Nat}(h1:p.1<l.length)(h2:p.2<l.length):((dP l p:Int):Rat)=d2 (pV (raR l) p.2) (pV (raR l) p.1):=by
 have e:=qLi h1 (cI l p.2 0) (cI l p.2 1);obtain⟨e1,e2,e3⟩:=qvL h2;have pv:pV (raR l) p.2=⟨(cI l p.2 0:Rat),(cI l p.2 1:Rat),0⟩:=by unfold pV;rw[e1,e2,e3];rfl
 rw[pv,e];rfl
theorem qGg (_:qlx l=0){L:List Nat}{n:Nat}(lo:LO (raR l) 3 L n){d:Int}(hp:pinB l L d=true){p:Nat×Nat}(h1:p.1<l.length)(h2:p.2<l.length):dP l p<=d*d:=by
 have a1:=lo.sup.all p.1 (by rw[qnj];exact h1);have a2:=lo.sup.all p.2 (by rw[qnj];exact h2);have tw:=qGU (pV (raR l) p.2) (pV (raR l) p.1) (Go.Eng.cen (n+1) (wts (tO (raR l) L) n) fun j=>pV (raR l) (Lf (raR l) L j));have hq:4*sO (raR l) L<=((d*d:Int):Rat):=of_decide_eq_true hp;have:((dP l p:Int):Rat)<=((d*d:Int):Rat):=by rw[qIb h1 h2];grind
 exact Rat.intCast_le_intCast.1 this
theorem qHV {P:List (Nat×Nat)}(h:i<P.length):cI (P.map (qp5 l)) (i:Int) 0=cI l P[i].1 0/\cI (P.map (qp5 l)) (i:Int) 1=cI l P[i].1 1/\cI (P.map (qp5 l)) (i:Int) 2=0/\cI (P.map (qp5 l)) (i:Int) 3=cI l P[i].2 0/\cI (P.map (qp5 l)) (i:Int) 4=cI l P[i].2 1/\cI (P.map (qp5 l)) (i:Int) 5=0:=by
 have e:(P.map (qp5 l)).getD ((i:Int).toNat) []=qp5 l P[i]:=by rw[qM3,qLT,qM2,qM0 h];rfl
 refine⟨?_,?_,?_,?_,?_,?_⟩<;>(conv=>lhs;unfold cI zy)<;>rw[e]<;>rfl
theorem qKC {P:List (Nat×Nat)}(h:i<P.length):dS (P.map (qp5 l)) i=dP l P[i]:=by obtain⟨e0,e1,e2,e3,e4,e5⟩:=qHV (l:=l) h;unfold dS dP;rw[e0,e1,e2,e3,e4,e5];omega
theorem qHb {s:R}{d:Int}:(∃(b:Bool) (n:Int),kpR s 0 d=[.b b,.i n,.i 0]/\(b=true↔∀i,i<s.length->¬(cI s i 0<0*0\/d*d<cI s i 0))):=by
 unfold kpR;cases hs:q5P (qFM s 0 d) 0 s.length with
 | none=>
  refine⟨true,_,rfl,fun _ i hi=>?_,fun _=>rfl⟩;have:=q9i hs i (by omega) (by omega);unfold qFM at this;intro hb;rw[if_pos hb] at this;cases this
 | some j=>
  obtain⟨k,_,hk,hb⟩:=qa1 hs;refine⟨false,_,rfl,fun h=>(by cases h),fun h=>?_⟩;unfold qFM at hb;split at hb
  ·rename_i hh;exact absurd hh (h k (by omega))
  ·cases hb
theorem qs7 (x0:R)(x1:Int)(_:UFit (.sl [(.int .i64),(.int .i64)]) (.l x0))(wex0:x0.length*16<=140737488351232)(_:IntKind.min .i64<=x1)(_:x1<=IntKind.max .i64):(q06 [.r x0,.i x1]).run=some (0,[.b true]):=by
 obtain⟨b,hb⟩:=qL6 x0;rw[qkX];cases b with
 | false=>simp only[STD,hb,q7l]
 | true=>
  by_cases h1:qyp x0=0
  case neg=>simp only[STD,hb,jj,h1,q7l]
  by_cases h2:qg x0=0
  ·simp only[STD,hb,jj,h1,h2,q7l]
  by_cases h3:x1<0
  ·simp only[STD,hb,jj,h1,h2,h3,q7l]
  by_cases h4:100000<x1
  ·simp only[STD,hb,jj,h1,h2,h3,h4,q7l]
  have h0:qlx x0=0:=by unfold qlx;rw[if_pos h1,if_neg h2]
  obtain⟨L,n,lo,_⟩:=qmz h0;have rp:=(qK5 h0 lo h3 h4).1;obtain⟨k,hk⟩:∃k,k=min x0.length 7:=⟨_,rfl⟩;have ro:=qJg h1 hk x1 (pinB x0 L x1);obtain⟨l64,hco⟩:=ql0 h1;obtain⟨P,hP⟩:∃P,P=qiG k x0.length:=⟨_,rfl⟩;have mem:∀p,p∈P->p.1<x0.length/\p.2<x0.length:=fun p hp=>by rw[hP] at hp;obtain⟨q1,q2⟩:=qGY.1 hp;exact⟨q1,by omega⟩
  rw[<-hP] at ro;have lr:qg x0=(x0.length:Int):=rfl;obtain⟨s1,s2⟩:=qBj h3 h4;have w:zV .i64 x1 x1=x1*x1:=u4 ⟨by omega,by omega⟩;by_cases h5:64<qg (P.map (qp5 x0))
  ·rw[lr] at h2;simp only[STD,hb,jj,h1,lr,h2,h3,h4,rp,ro,zf ro,h5,q7l]
  have hpa:paE (P.map (qp5 x0))=0:=by unfold paE;rw[if_neg h5];refine qyk fun i hi=>?_;rw[qLZ] at hi;obtain⟨e0,e1,e2,e3,e4,e5⟩:=qHV (l:=x0) hi;obtain⟨m1,m2⟩:=mem _ (qMy hi);have c1:=hco _ m1;have c2:=hco _ m2;unfold co at c1 c2;unfold prE;rw[e0,e1,e2,e3,e4,e5];rw[if_pos (by unfold spE;rw[if_pos (by omega)])];unfold spE;rw[if_pos (by omega)]
  have hlm:lmE 0 x1=0:=by unfold lmE qFJ;rw[if_pos (show (-100000<=(0:Int)/\(0:Int)<=100000)/\-100000<=x1/\x1<=100000 by omega),if_neg h3,if_pos rfl,if_neg (by decide)]
  have rk:=qzI (P.map (qp5 x0)) 0 x1;rw[if_pos hpa,if_pos hlm] at rk;obtain⟨kb,kn,e,hkb⟩:=qHb (s:=sqR (P.map (qp5 x0)) (P.map (qp5 x0)).length) (d:=x1);rw[e] at rk;have all:kb=true↔qym x0 P<=x1*x1:=by
   rw[hkb,qEf s1];rw[qzH,qLZ];constructor
   ·intro hh p hp;obtain⟨i,hi,rfl⟩:=List.mem_iff_getElem.1 hp;have:=hh i hi;rw[qHE _ hi,qKC hi] at this;omega
   ·intro hh i hi;have:=hh _ (qMy hi);rw[qHE _ hi,qKC hi];have nn:0<=dP x0 P[i]:=by unfold dP;have a1:=qAh (cI x0 P[i].2 0-cI x0 P[i].1 0);have a2:=qAh (cI x0 P[i].2 1-cI x0 P[i].1 1);omega
    omega
  have eb:kb=ile (qym x0 P) (x1*x1):=by
   unfold ile;cases kb with
   | true=>exact(decide_eq_true (all.1 rfl)).symm
   | false=>exact(decide_eq_false fun h=>by cases all.2 h).symm
  have kk:pinB x0 L x1=true->kb=true:=fun hp=>all.2 ((qEf s1).2 fun p hp'=>qGg h0 lo hp (mem p hp').1 (mem p hp').2);rw[lr] at h2;cases hp:pinB x0 L x1 with
  | false=>
   rw[hp] at rp ro;simp only[STD,hb,jj,h1,lr,h2,h3,h4,rp,ro,zf ro,h5,rk,w,<-eb,q7l]
  | true=>
   have k1:=kk hp;rw[hp] at rp ro;subst k1;simp only[STD,hb,jj,h1,lr,h2,h3,h4,rp,ro,zf ro,h5,rk,w,<-eb,q7l]
end Go.Eng

