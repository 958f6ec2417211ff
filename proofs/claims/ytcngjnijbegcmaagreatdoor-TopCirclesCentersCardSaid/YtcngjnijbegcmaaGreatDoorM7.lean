/- Texts of the proof, merged: what the code computes, and plain laws. No statement stands here. -/
import Derived.Test.YtcngjnijbegcmaaGreatDoorM6
namespace Go.Eng
theorem qBm{l:R}(h:q6x l){c:V3}(hc:CB c){k:Nat}(hk:k<l.length):bnd 317 223 (d2 c (pV l k)):=by obtain⟨h1,h2,h3⟩:=h.row hk;exact qst hc h1 h2 h3
theorem qwR{p:Nat->V3}{m n:Nat}{L:Nat->Nat}{t t':Nat->Rat}(h:qrq p m n L t)(h':Bl n (fun j=>p (L j)) t'):qrq p m n L t':=by
 have e:=qt5 h.1 h';have ec:=qly (c:=fun j=>p (L j)) e;refine⟨h',fun j hj=>?_,fun i hi=>?_⟩
 ·rw[<-e j hj];exact h.2.1 j hj
 ·rw[<-ec];exact h.2.2 i hi
theorem qlv{l:R}(hs:q6x l){L:List Nat}{n:Nat}(hL:L.length=n+1)(hn:n<=3)(hlt:∀k,k∈L->k<l.length) :(∃t,qrq (pV l) l.length n (Lf l L) t/\(∀j,j<n+1->bnd 36 36 (wts t n j))/\CB (cen (n+1) (wts t n) fun j=>pV l (Lf l L j)) /\(zM [.r l,.r (rN L)]).run=some (0,[.s (tQ (cen (n+1) (wts t n) fun j=>pV l (Lf l L j)).x),.s (tQ (cen (n+1) (wts t n) fun j=>pV l (Lf l L j)).y),.s (tQ (cen (n+1) (wts t n) fun j=>pV l (Lf l L j)).z),.s (tQ (d2 (cen (n+1) (wts t n) fun j=>pV l (Lf l L j)) (pV l (Lf l L 0)))),.r (txR ((List.range (n+1)).map fun j=>tQ (wts t n j))),.b true,.i 0])) \/((∀t,¬qrq (pV l) l.length n (Lf l L) t)/\∃s1 s2 s3 s4 wl,(zM [.r l,.r (rN L)]).run=some (0,[.s s1,.s s2,.s s3,.s s4,.r wl,.b false,.i 0])):=by
 have ch:=qzt (l:=l) (L:=L) (by omega) hlt;have sp:=qxB hs (show L.length<=64 by omega) hlt;have key:=qy0 sp (n:=n) (by rw[qjO];exact hL) hn;rw[qDl] at key;rcases key with⟨t,h1,h2,h3,h4⟩|⟨h1,h4⟩
 ·obtain⟨c,hc⟩:∃c,c=cen (n+1) (wts t n) fun j=>pV l (Lf l L j):=⟨_,rfl⟩;have l0:Lf l L 0<l.length:=by unfold Lf;rw[qEn,qEv (show 0<L.length by omega)];exact hlt _ (qFp _)
  rw[<-hc] at h3 h4;have fb:=qBm hs h3 l0;obtain⟨b1,i1,i2⟩:=qyK (show n+1<=1000 by omega) (w:=wts t n) (fun k hk=>(h2 k hk).ok (by omega) (by omega)) (tQ c.x) (tQ c.y) (tQ c.z) (tQ (d2 c (pV l (Lf l L 0))));obtain⟨b2,j1,j2⟩:=qu3 hs h3 fb (txR ((List.range (n+1)).map fun j=>tQ (wts t n j)));have nope:(b1=false\/b2=false)->∀t',¬qrq (pV l) l.length n (Lf l L) t':=fun hb t' ht'=>by
   have hh:=qwR ht' h1;unfold qrq at hh;rw[<-hc] at hh;rcases hb with e|e
   ·rw[i2.2 hh.2.1] at e;cases e
   ·rw[j2.2 hh.2.2] at e;cases e
  rw[q6z];cases b1 with
  | false=>
   right;refine⟨nope (Or.inl rfl),[],[],[],[],[],?_⟩;simp only[STD,ch,h4,i1]
  | true=>
   cases b2 with
   | false=>
    right;refine⟨nope (Or.inr rfl),tQ c.x,tQ c.y,tQ c.z,tQ (d2 c (pV l (Lf l L 0))),txR ((List.range (n+1)).map fun j=>tQ (wts t n j)),?_⟩;simp only[STD,ch,h4,i1,j1]
   | true=>
    left;refine⟨t,⟨h1,i2.1 rfl,?_⟩,h2,by rw[<-hc];exact h3,?_⟩
    ·rw[<-hc];exact j2.1 rfl
    ·rw[<-hc];simp only[STD,ch,h4,i1,j1]
 ·right;refine⟨fun t ht=>h1 ht.1.ind,[],[],[],[],[],?_⟩;rw[q6z];simp only[STD,ch,h4]
structure NxOk (P:Nat->Nat->Rat) (n C c:Nat):Prop where
 cell:∀i j,i<n->j<C->sm 100000 (P i j)
 quo:∀j,j<C->sm 100000 (P c j/P c c)
 prod:∀i j,i<n->j<C->sm 100000 (P i c*(P c j/P c c))
variable {l:R}
theorem qsg {m:Nat}{p:Nat->V3}{n:Nat}{L:Nat->Nat}{t:Nat->Rat}(h:qrq p m n L t)(lt:∀j,j<n+1->L j<m)(asc:Asc (n+1) L) :Sup m p (n+1) L (wts t n) (d2 (cen (n+1) (wts t n) fun j=>p (L j)) (p (L 0))):=qzi h.1 lt asc h.2.1 h.2.2
theorem qyO {m:Nat}{p:Nat->V3}{n:Nat}{L:Nat->Nat}{u:Nat->Rat}{s:Rat}(h:Sup m p (n+1) L u s):qrq p m n L (fun j=>u (j+1)):=by
 obtain⟨b,e⟩:=qyI h;have ec:=qly (c:=fun j=>p (L j)) e;refine⟨b,fun j hj=>?_,fun i hi=>?_⟩
 ·rw[<-e j hj];exact h.nn j hj
 ·rw[<-ec,h.eq 0 (by omega)];exact h.all i hi
noncomputable def q4N(l:R)(L:List Nat):Bool:=@decide (∃t,qrq (pV l) l.length (L.length-1) (Lf l L) t) (Classical.propDecidable _)
theorem qir {L:List Nat}:q4N l L=true↔∃t,qrq (pV l) l.length (L.length-1) (Lf l L) t:=by unfold q4N;exact @decide_eq_true_iff _ (Classical.propDecidable _)
theorem qld {L:List Nat}:q4N l L=false↔∀t,¬qrq (pV l) l.length (L.length-1) (Lf l L) t:=by unfold q4N;rw[@decide_eq_false_iff_not _ (Classical.propDecidable _)];exact⟨fun h t ht=>h ⟨t,ht⟩,fun h ⟨t,ht⟩=>h t ht⟩
def Mst(l:R)(m:Nat):Prop:=m=4\/m=3/\∀k,k<l.length->(pV l k).z=0
theorem quM (hl:0<l.length){m:Nat}(hm:Mst l m):∃L n,qdx (q4N l) l.length 1 m=some L/\L.length=n+1/\n<m/\n<=3/\(∀a,a∈L->a<l.length)/\L.Pairwise (·<·)/\∃t,qrq (pV l) l.length n (Lf l L) t:=by
 cases e:qdx (q4N l) l.length 1 m with
 | some L=>
  obtain⟨h1,j,h2,h3,h4⟩:=qlx e;obtain⟨q1,q2,q3⟩:=qkx.1 h4;have hm4:m<=4:=by rcases hm with e|e<;>omega
  obtain⟨t,ht⟩:=qir.1 h1;rw[q1] at ht;exact⟨L,j-1,rfl,by omega,by omega,by omega,q2,q3,t,ht⟩
 | none=>
  exfalso;obtain⟨L,u,s,h1,h2,h3,h4,h5,h6⟩:=qzu (pV l) hl l.length;have hm4:L.length<1+m:=by
   rcases hm with e|⟨e,hz⟩
   ·omega
   ·have:=h3 hz;omega
  have:=qkA e L.length (by omega) hm4 L (qkx.2 ⟨rfl,h4,h5⟩);obtain⟨n,hn⟩:∃n,L.length=n+1:=⟨L.length-1,by omega⟩;rw[hn] at h6;refine qld.1 this (fun j=>u (j+1)) ?_;rw[show L.length-1=n from by omega];exact qyO h6
end Go.Eng

namespace Go.Eng
variable {j:Nat}
def lsR(ls:List (List Nat)):R:=ls.map fun L=>[U.l (rN L)]
theorem qdf (ls:List (List Nat)):qm (lsR ls)=(ls.length:Int):=by unfold lsR qm;rw[qEA]
theorem qo6 {ls:List (List Nat)}{L:List Nat}(h:ls[j]?=some L):cR (lsR ls) (j:Int) 0=rN L:=by
 have e:(lsR ls).getD ((j:Int).toNat) []=[U.l (rN L)]:=by unfold lsR;rw[qEK,qEn,qEy,h];rfl
 unfold cR zY;rw[e];rfl
theorem qwT (ls:List (List Nat))(L:List Nat):yE (lsR ls) [[.l (rN L)]]=lsR (ls++[L]):=by unfold lsR yE;rw[qEX];rfl
theorem qzz (l:List Nat)(i:Nat):yE (rN l) [[.i (i:Int)]]=rN (l++[i]):=by unfold rN rI yE;rw[qEX,qEX];rfl
theorem qAI {l:List Nat}(h:0<l.length):cI (rN l) ((l.length:Int)-1) 0+1=(nxL l:Int):=by
 rcases List.eq_nil_or_concat l with e|⟨l',b,e⟩
 ·subst e;cases h
 ·rw[List.concat_eq_append] at e;subst e;rw[qxS];have:(((l'++[b]).length:Nat):Int)-1=((l'.length:Nat):Int):=by rw[qEL];show ((l'.length+1:Nat):Int)-1=_;omega
  rw[this,qzN (k:=b) (by rw[qEH (qEo _),qFD];rfl)];omega
def exT(l:List Nat)(j:Nat):List (List Nat):=(List.range' (nxL l) j).map fun i=>l++[i]
theorem qyo (l:List Nat):exT l 0=[]:=rfl
theorem qyT (l:List Nat)(j:Nat):exT l (j+1)=exT l j++[l++[nxL l+j]]:=by unfold exT;rw[show List.range' (nxL l) (j+1)=List.range' (nxL l) j++[nxL l+j] from by rw[List.range'_concat,qG6],qEX];rfl
theorem qBr (n:Nat)(l:List Nat):exT l (n-nxL l)=exL n l:=rfl
theorem qwj (l:List Nat)(j:Nat):(exT l j).length=j:=by unfold exT;rw[qEA,List.length_range']
theorem qw4 {α β:Type}(f:α->List β){ls:List α}{a:α}(h:ls[j]?=some a):(ls.take (j+1)).flatMap f=(ls.take j).flatMap f++f a:=by rw[List.take_add_one,h,List.flatMap_append];show _++[a].flatMap f=_;rw[List.flatMap_cons,List.flatMap_nil,qFC]
theorem qp3{α:Type}{P:List Nat->Bool}(g:List Nat->α)(f:List Nat->List (List Nat)):∀(ls pre:List (List Nat)),q5o (fun j=>((f ((pre++ls).getD j [])).find? P).map g) pre.length ls.length=((ls.flatMap f).find? P).map g
 | [],pre=>rfl
 | L::ls,pre=>by
  have e:(pre++L::ls).getD pre.length []=L:=by rw[qEn,qEH (qEo _),qFD];rfl
  have ih:=qp3 (P:=P) g f ls (pre++[L]);rw[qF0,qEL] at ih;rw[qF3];simp only[q5o];rw[e,List.flatMap_cons,List.find?_append];cases h:(f L).find? P with
  | some a=>rfl
  | none=>exact ih
theorem qmU{α:Type}{P:List Nat->Bool}(g:List Nat->α)(n:Nat):∀(m k:Nat),q5o (fun j=>((lsN n (j+1)).find? P).map g) k m=(qdx P n (k+1) m).map g
 | 0,k=>rfl
 | m+1,k=>by
  simp only[q5o];rw[qdx];cases h:(lsN n (k+1)).find? P with
  | some a=>rfl
  | none=>exact qmU g n m (k+1)
theorem qwU{α:Type}{P:List Nat->Bool}(g:List Nat->α)(L:List Nat):∀(m k:Nat),q5o (fun j=>if P (L++[nxL L+j])=true then some (g (L++[nxL L+j])) else none) k m=(((List.range' (nxL L+k) m).map fun i=>L++[i]).find? P).map g
 | 0,k=>rfl
 | m+1,k=>by
  have ih:=qwU (P:=P) g L m (k+1);rw[List.range'_succ,qFq,List.find?_cons];simp only[q5o];cases h:P (L++[nxL L+k]) with
  | true=>rw[if_pos rfl];rfl
  | false=>rw[if_neg (by decide)];exact ih
theorem qvn {ls:List (List Nat)}(hj:j<ls.length):ls[j]?=some (ls.getD j []):=by rw[qEn,qEv hj];rfl
end Go.Eng

namespace Go.Eng
theorem qv0{l:List Nat}(h:0<l.length)(hl:l.length<=64)(hx:nxL l<=64):qO .i64 (cI (rN l) (q2k .i64 (l.length:Int) 1) 0) 1=(nxL l:Int):=by have e:=qAI h;have e1:q2k .i64 (l.length:Int) 1=(l.length:Int)-1:=q1s ⟨by omega,by omega⟩;rw[e1,jG ⟨by omega,by omega⟩];exact e
theorem qwp{n k:Nat}(hn:n<=64)(hk:k<=3):(lsN n k).length<=10000000:=by refine qEr (qxc n k) (qEr (Nat.pow_le_pow_left hn k) (qEr (qGc (by decide) hk) (by decide)))
variable {L:List Nat}{l:R}
noncomputable def tO(l:R)(L:List Nat):Nat->Rat:=Classical.epsilon fun t=>qrq (pV l) l.length (L.length-1) (Lf l L) t
noncomputable def cO(l:R)(L:List Nat):V3:=cen (L.length-1+1) (wts (tO l L) (L.length-1)) fun j=>pV l (Lf l L j)
noncomputable def sO(l:R)(L:List Nat):Rat:=d2 (cO l L) (pV l (Lf l L 0))
noncomputable def wO(l:R)(L:List Nat):R:=txR ((List.range (L.length-1+1)).map fun j=>tQ (wts (tO l L) (L.length-1) j))
theorem qxe (h:q4N l L=true):qrq (pV l) l.length (L.length-1) (Lf l L) (tO l L):=Classical.epsilon_spec (qir.1 h)
theorem qp1 (hs:q6x l){n:Nat}(hL:L.length=n+1)(hn:n<=3)(hlt:∀k,k∈L->k<l.length)(h:q4N l L=true) :CB (cO l L)/\(zM [.r l,.r (rN L)]).run=some (0,[.s (tQ (cO l L).x),.s (tQ (cO l L).y),.s (tQ (cO l L).z),.s (tQ (sO l L)),.r (wO l L),.b true,.i 0]):=by
 have eL:L.length-1=n:=by omega
 have sp:=qxe h;unfold sO wO;unfold cO;rw[eL] at sp ⊢;rcases qlv hs hL hn hlt with⟨t,h1,h2,h3,h4⟩|⟨h1,_⟩
 ·have e:=qt5 h1.1 sp.1;have ec:=qly (c:=fun j=>pV l (Lf l L j)) e;have el:((List.range (n+1)).map fun j=>tQ (wts t n j))=(List.range (n+1)).map fun j=>tQ (wts (tO l L) n j):=qFJ fun j hj=>by rw[e j (qFv.1 hj)]
  rw[ec,el] at h4;rw[ec] at h3;exact⟨h3,h4⟩
 ·exact absurd sp (h1 _)
theorem qyW (hs:q6x l){n:Nat}(hL:L.length=n+1)(hn:n<=3)(hlt:∀k,k∈L->k<l.length)(h:q4N l L=false) :∃s1 s2 s3 s4 wl,(zM [.r l,.r (rN L)]).run=some (0,[.s s1,.s s2,.s s3,.s s4,.r wl,.b false,.i 0]):=by
 have eL:L.length-1=n:=by omega
 have hh:=qld.1 h;rw[eL] at hh;rcases qlv hs hL hn hlt with⟨t,h1,_⟩|⟨_,h4⟩
 ·exact absurd h1 (hh t)
 ·exact h4
noncomputable def lO(l:R)(n m:Int)(L:List Nat):Nat×List PV:=(1,[.r l,.s (tQ (cO l L).x),.s (tQ (cO l L).y),.s (tQ (cO l L).z),.s (tQ (sO l L)),.r (wO l L),.i 0,.i n,.i m,.r (rN L)])
theorem qDT (hs:q6x l)(hL:L.length<=3)(hlt:∀k,k∈L->k<l.length)(y2 y3 y4 y5 y13:Int)(y14:R)(acc:List (List Nat))(ha:acc.length<=1000000000) :(qh qN [.r (rN L),.i (nxL L:Int),.i y2,.i y3,.i y4,.i y5,.r l,.s [],.s [],.s [],.s [],.i 0,.i (l.length:Int),.i y13,.r y14,.r (lsR acc)]).run = some ((((exL l.length L).find? (q4N l)).map (lO l l.length y13)).getD (0,[.i y2,.i y3,.i y4,.i y5,.r l,.s [],.s [],.s [],.s [],.i 0,.i (l.length:Int),.i y13,.r y14,.r (lsR (acc++exL l.length L))])):=by
 have hn:=hs.1;have key:=q2n (S:=qN) (fun j=>[.r (rN L),.i ((nxL L+j:Nat):Int),.i y2,.i y3,.i y4,.i y5,.r l,.s [],.s [],.s [],.s [],.i 0,.i (l.length:Int),.i y13,.r y14,.r (lsR (acc++exT L j))])
  (fun j=>if q4N l (L++[nxL L+j])=true then some (lO l l.length y13 (L++[nxL L+j])) else none)
  (0,[.i y2,.i y3,.i y4,.i y5,.r l,.s [],.s [],.s [],.s [],.i 0,.i (l.length:Int),.i y13,.r y14,.r (lsR (acc++exL l.length L))]) (l.length-nxL L) (by omega) (fun j hj hf=>by
  have e:q4N l (L++[nxL L+j])=false:=by
   cases h:q4N l (L++[nxL L+j]) with
   | true=>rw[if_pos h] at hf;cases hf
   | false=>rfl
  have lj:(L++[nxL L+j]).length=L.length+1:=by rw[qEL];rfl
  have ltj:∀k,k∈L++[nxL L+j]->k<l.length:=fun k hk=>by
   rcases qEN.1 hk with q|q
   ·exact hlt k q
   ·rw[qET.1 q];omega
  obtain⟨s1,s2,s3,s4,wl,r1⟩:=qyW hs lj hL ltj e;have w:qO .i64 ((nxL L+j:Nat):Int) 1=((nxL L+j+1:Nat):Int):=q3f (show nxL L+j<64 by omega) (by omega);have e2:∀x:U,qm [[x]]=1:=fun _=>rfl;have e3:(acc++exT L j).length=acc.length+j:=by rw[qEL,qwj]
  have cl:(wo [.r (rN L)]).run=some (0,[.r (rN L)]):=by rw[q4k];simp only[STD,qeG,show (L.length:Int)<=17592186044416 by omega]
  rw[q0P];simp only[STD,cl,e2,qzz,qeG,qdf,qwT,e3,w,r1,show ((nxL L+j:Nat):Int)<l.length by omega,show (L.length:Int)+1<=17592186044416 by omega,
   show ((acc.length+j:Nat):Int)+1<=5864062014805 by omega,qyT,qF0,qFV]) (fun j r hj hf=>by
  have e:q4N l (L++[nxL L+j])=true:=by
   cases h:q4N l (L++[nxL L+j]) with
   | false=>rw[if_neg (by rw[h];decide)] at hf;cases hf
   | true=>rfl
  rw[if_pos e] at hf;cases hf;have lj:(L++[nxL L+j]).length=L.length+1:=by rw[qEL];rfl
  have ltj:∀k,k∈L++[nxL L+j]->k<l.length:=fun k hk=>by
   rcases qEN.1 hk with q|q
   ·exact hlt k q
   ·rw[qET.1 q];omega
  obtain⟨_,r1⟩:=qp1 hs lj hL ltj e;have e2:∀x:U,qm [[x]]=1:=fun _=>rfl;have e3:(acc++exT L j).length=acc.length+j:=by rw[qEL,qwj]
  have cl:(wo [.r (rN L)]).run=some (0,[.r (rN L)]):=by rw[q4k];simp only[STD,qeG,show (L.length:Int)<=17592186044416 by omega]
  rw[q0P];unfold lO;simp only[STD,cl,e2,qzz,qeG,qdf,qwT,e3,r1,show ((nxL L+j:Nat):Int)<l.length by omega,show (L.length:Int)+1<=17592186044416 by omega,
   show ((acc.length+j:Nat):Int)+1<=5864062014805 by omega]) (by
  rw[q0P];simp only[STD,show ¬((nxL L+(l.length-nxL L):Nat):Int)<l.length by omega,qBr])
 have e:=qwU (P:=q4N l) (lO l l.length y13) L (l.length-nxL L) 0;rw[e] at key;have key':(qh qN [.r (rN L),.i ((nxL L+0:Nat):Int),.i y2,.i y3,.i y4,.i y5,.r l,.s [],.s [],.s [],.s [],.i 0,.i (l.length:Int),.i y13,.r y14,.r (lsR (acc++exT L 0))]).run=_:=key;rw[qyo,qFC,qFb] at key';exact key'
theorem qE8 (hs:q6x l){ls:List (List Nat)}{q:Nat}(hq:q<=3)(hls:ls.length<=10000000)(hm:∀L,L∈ls->L.length=q/\∀a,a∈L->a<l.length)(y0 y1 y11:Int) :(qh vJ [.i y0,.i y1,.i (ls.length:Int),.i 0,.r l,.s [],.s [],.s [],.s [],.i 0,.i (l.length:Int),.i y11,.r (lsR ls),.r []]).run = some ((((ls.flatMap (exL l.length)).find? (q4N l)).map (lO l l.length y11)).getD (0,[.i y0,.i y1,.r l,.s [],.s [],.s [],.s [],.i 0,.i (l.length:Int),.i y11,.r (lsR (ls.flatMap (exL l.length)))])):=by
 have hn:=hs.1;have step:∀j,j<ls.length->∃L,ls[j]?=some L/\ls.getD j []=L/\(qh qN [.r (rN L),.i (nxL L:Int),.i y0,.i y1,.i (ls.length:Int),.i (j:Int),.r l,.s [],.s [],.s [],.s [],.i 0,.i (l.length:Int),.i y11,.r (lsR ls),.r (lsR ((ls.take j).flatMap (exL l.length)))]).run =
   some ((((exL l.length L).find? (q4N l)).map (lO l l.length y11)).getD (0,[.i y0,.i y1,.i (ls.length:Int),.i (j:Int),.r l,.s [],.s [],.s [],.s [],.i 0,.i (l.length:Int),.i y11,.r (lsR ls),.r (lsR ((ls.take (j+1)).flatMap (exL l.length)))])) /\
   L.length<=3/\nxL L<=64:=fun j hj=>by
  have hl:=qvn hj;obtain⟨h1,h2⟩:=hm _ (qFt hl);have fl:((ls.take j).flatMap (exL l.length)).length<=1000000000:=by have:=qon (exL l.length) l.length (qwd l.length) (ls.take j);rw[qFz,qFB (by omega)] at this;have:j*l.length<=10000000*64:=qFi (by omega) hn;omega
  have r0:=qDT hs (L:=ls.getD j []) (by omega) h2 y0 y1 (ls.length:Int) (j:Int) y11 (lsR ls) _ fl;rw[<-qw4 (exL l.length) hl] at r0;exact⟨_,hl,rfl,r0,by omega,qEr (qzJ h2) hn⟩
 have key:=q2n (S:=vJ) (fun j=>[.i y0,.i y1,.i (ls.length:Int),.i (j:Int),.r l,.s [],.s [],.s [],.s [],.i 0,.i (l.length:Int),.i y11,.r (lsR ls),.r (lsR ((ls.take j).flatMap (exL l.length)))])
  (fun j=>((exL l.length (ls.getD j [])).find? (q4N l)).map (lO l l.length y11))
  (0,[.i y0,.i y1,.r l,.s [],.s [],.s [],.s [],.i 0,.i (l.length:Int),.i y11,.r (lsR (ls.flatMap (exL l.length)))]) ls.length (by omega) (fun j hj hf=>by
  obtain⟨L,hl,hg,r0,h3,h4⟩:=step j hj;rw[hg] at hf;rw[hf] at r0;simp only[Option.getD_none] at r0;have w:qO .i64 (j:Int) 1=((j+1:Nat):Int):=q3f hj (by omega);rw[q1g];by_cases h0:0<L.length
  ·have w1:q2k .i64 (L.length:Int) 1=(L.length:Int)-1:=q1s ⟨by omega,by omega⟩;have e:=qv0 h0 (by omega) h4;rw[w1] at e;simp only[STD,qdf,qo6 hl,qeG,w1,e,r0,zJ r0,w,show (j:Int)<ls.length by omega,show (0:Int)<=j by omega,show (0:Int)<L.length by omega,show (0:Int)<=(L.length:Int)-1 by omega,show (L.length:Int)-1<L.length by omega,and_self]
  ·have e:L=[]:=qFZ (by omega);subst e;have r1:(qh qN [.r (rN []),.i 0,.i y0,.i y1,.i (ls.length:Int),.i (j:Int),.r l,.s [],.s [],.s [],.s [],.i 0,.i (l.length:Int),.i y11,.r (lsR ls),.r (lsR ((ls.take j).flatMap (exL l.length)))]).run=_:=r0;simp only[STD,qdf,qo6 hl,qeG,r1,zJ r1,w,show (j:Int)<ls.length by omega,show (0:Int)<=j by omega,show ¬(0:Int)<(([]:List Nat).length:Int) from by decide,and_self]) (fun j r hj hf=>by
  obtain⟨L,hl,hg,r0,h3,h4⟩:=step j hj;rw[hg] at hf;rw[hf] at r0;simp only[qFy] at r0;obtain⟨L2,hL2,e2⟩:=qG2.1 hf;subst e2;unfold lO at r0 ⊢;rw[q1g];by_cases h0:0<L.length
  ·have w1:q2k .i64 (L.length:Int) 1=(L.length:Int)-1:=q1s ⟨by omega,by omega⟩;have e:=qv0 h0 (by omega) h4;rw[w1] at e;simp only[STD,qdf,qo6 hl,qeG,w1,e,r0,zJ r0,show (j:Int)<ls.length by omega,show (0:Int)<=j by omega,show (0:Int)<L.length by omega,show (0:Int)<=(L.length:Int)-1 by omega,show (L.length:Int)-1<L.length by omega,and_self];rw[if_neg (by decide)]
  ·have e:L=[]:=qFZ (by omega);subst e;have r1:(qh qN [.r (rN []),.i 0,.i y0,.i y1,.i (ls.length:Int),.i (j:Int),.r l,.s [],.s [],.s [],.s [],.i 0,.i (l.length:Int),.i y11,.r (lsR ls),.r (lsR ((ls.take j).flatMap (exL l.length)))]).run=_:=r0;simp only[STD,qdf,qo6 hl,qeG,r1,zJ r1,show (j:Int)<ls.length by omega,show (0:Int)<=j by omega,show ¬(0:Int)<(([]:List Nat).length:Int) from by decide,and_self];rw[if_neg (by decide)]) (by
  rw[q1g];simp only[STD,show ¬(ls.length:Int)<ls.length by omega,qG3])
 have e:=qp3 (P:=q4N l) (lO l l.length y11) (exL l.length) ls [];simp only[qFM,qFr] at e;rw[e] at key;exact key
theorem qAS (hs:q6x l){m:Nat}(hm:m<=4)(h:qdx (q4N l) l.length 1 m=some L) :(ky [.r l,.i (m:Int)]).run=some (0,[.s (tQ (cO l L).x),.s (tQ (cO l L).y),.s (tQ (cO l L).z),.s (tQ (sO l L)),.r (wO l L),.r (rN L),.i 0]):=by
 have hn:=hs.1;have hms:∀q,∀L,L∈lsN l.length q->L.length=q/\∀a,a∈L->a<l.length:=fun q L hL=>by obtain⟨h1,h2,_⟩:=qkx.1 hL;exact⟨h1,h2⟩
 have key:=q2n (S:=vF) (fun q=>[.i (m:Int),.i (q:Int),.r l,.s [],.s [],.s [],.s [],.i 0,.i (l.length:Int),.i (m:Int),.r (lsR (lsN l.length q))])
  (fun q=>((lsN l.length (q+1)).find? (q4N l)).map (lO l l.length m))
  (0,[.r l,.s [],.s [],.s [],.s [],.i 0,.i (l.length:Int),.i (m:Int)]) m (by omega) (fun q hq hf=>by
  have r0:=qE8 hs (q:=q) (by omega) (qwp (k:=q) hn (by omega)) (hms q) (m:Int) (q:Int) (m:Int);have hf':((((lsN l.length q).flatMap (exL l.length)).find? (q4N l)).map (lO l l.length m))=none:=hf;rw[hf'] at r0;simp only[Option.getD_none] at r0;have w:qO .i64 (q:Int) 1=((q+1:Nat):Int):=q3f hq (by omega);rw[q1r];simp only[STD,qdf,r0,zJ r0,w,show (q:Int)<m by omega];rfl) (fun q r hq hf=>by
  have r0:=qE8 hs (q:=q) (by omega) (qwp (k:=q) hn (by omega)) (hms q) (m:Int) (q:Int) (m:Int);have hf':((((lsN l.length q).flatMap (exL l.length)).find? (q4N l)).map (lO l l.length m))=some r:=hf;rw[hf'] at r0;simp only[qFy] at r0;obtain⟨L2,hL2,e2⟩:=qG2.1 hf';subst e2;unfold lO at r0 ⊢;rw[q1r];simp only[STD,qdf,r0,zJ r0,show (q:Int)<m by omega];rw[if_neg (by decide)]) (by
  rw[q1r];simp only[STD,show ¬(m:Int)<m by omega])
 rw[qmU (P:=q4N l) (lO l l.length m) l.length m 0,h] at key;have key':(qh vF [.i (m:Int),.i 0,.r l,.s [],.s [],.s [],.s [],.i 0,.i (l.length:Int),.i (m:Int),.r [[.l []]]]).run=some (lO l l.length m L):=key;unfold lO at key';have lx:qm l=(l.length:Int):=rfl;rw[qja];simp only[STD,lx,key',zJ key'];rw[if_neg (by decide)]
end Go.Eng

namespace Go.Eng
variable {l:R}
def ptE(x y:Int):Int:=if -100000<=x/\x<=100000/\-100000<=y/\y<=100000 then 0 else 2
def ptA(l:R)(i:Nat):Int:=ptE (cI l i 0) (cI l i 1)
def qxo(l:R):Int:=if 64<qm l then 5 else qap (ptA l) l.length
theorem qxJ (x y:Int):ptE x y=0\/ptE x y=2:=by unfold ptE;split<;>simp
theorem qzl {x y:Int}(h:ptE x y=0):-100000<=x/\x<=100000/\-100000<=y/\y<=100000:=by
 unfold ptE at h;split at h
 ·assumption
 ·omega
theorem qjG (x:Int):(jm [.i x]).run=some (0,[.b (decide (-100000<=x/\x<=100000))]):=by rw[qjp];simp only[STD];by_cases h:-100000<=x<;>simp[h,ile]
theorem qoN (x y:Int):(un [.i x,.i y]).run=some (0,[.b (decide (ptE x y=0))]):=by rw[qlD];simp only[STD,qjG];unfold ptE;by_cases h:-100000<=x<;>by_cases h2:x<=100000<;>by_cases h3:-100000<=y<;>by_cases h4:y<=100000<;>simp[h,h2,h3,h4]
theorem qpo (l:R)(hl:l.length<9223372036854775808):(vT [.r l]).run=some (0,[.i (qap (ptA l) l.length)]):=by
 rw[qbz];have k:=qsz (S:=zh) (fun i=>[.r l,.i (qm l),.i (i:Int)]) (ptA l) [] [] l.length hl (fun i hi=>by
  rw[q2s];simp only[STD,qxM hi,qmx,qoN,and_self,q3f hi hl];show (if ¬ptA l i=0 then _ else _)=_;have:=qxJ (cI l i 0) (cI l i 1);by_cases he:ptA l i=0
  ·simp[he]
  ·have:ptA l i=2:=by unfold ptA at *;omega
   simp[this]) (by
  rw[q2s];simp only[STD,qww])
 by_cases hf:qap (ptA l) l.length=0
 ·rw[if_pos hf] at k;have k':(qh zh [.r l,.i (qm l),.i 0]).run=_:=k;simp only[STD,k',zJ k',hf]
 ·rw[if_neg hf] at k;have k':(qh zh [.r l,.i (qm l),.i 0]).run=_:=k;simp only[STD,k',zJ k',show ¬((1:Nat)=0) by decide]
theorem qf0 (l:R):(q2K [.r l]).run=some (0,[.i (qxo l)]):=by
 rw[qli];have e:(w9 [.r l]).run=some (0,[.i (qxo l)]):=by
  rw[q8a];unfold qxo;by_cases h:64<qm l
  ·simp only[STD,h]
  ·simp only[STD,h,qpo l (by unfold qm at h;omega)]
 simp only[STD,e]
def qpd(l:R):Int:=if qxo l=0 then (if qm l=0 then 13 else 0) else qxo l
theorem qmg (x:Int):(q2E [.i x]).run=some (0,[.i (if x=0 then 13 else 0)]):=by rw[qkZ];by_cases h:x=0<;>simp[STD,h]
theorem qlB (l:R):(q2w [.r l]).run=some (0,[.i (qpd l)]):=by
 rw[qkc];unfold qpd;by_cases h:qxo l=0
 ·by_cases h2:qm l=0<;>simp only[STD,qf0,qmg,h,h2]
 ·simp only[STD,qf0,h]
def raR(l:R):R:=(List.range l.length).map fun i:Nat=>[.i (cI l (i:Int) 0),.i (cI l (i:Int) 1),.i 0]
def raN(l:R)(n:Nat):R:=(List.range n).map fun i:Nat=>[.i (cI l (i:Int) 0),.i (cI l (i:Int) 1),.i 0]
theorem qBE (l:R)(n:Nat):qm (raN l n)=(n:Int):=by unfold raN qm;rw[qEA,qF4]
theorem qbb (l:R):(raR l).length=l.length:=by unfold raR;rw[qEA,qF4]
theorem qz5 (l:R)(n:Nat):raN l (n+1)=yE (raN l n) [[.i (cI l (n:Int) 0),.i (cI l (n:Int) 1),.i 0]]:=by unfold raN yE;rw[qFU,qEX];rfl
theorem qs3 {i:Nat}(h:i<l.length):cI (raR l) (i:Int) 0=cI l (i:Int) 0/\cI (raR l) (i:Int) 1=cI l (i:Int) 1/\cI (raR l) (i:Int) 2=0:=by
 have e:(raR l).getD ((i:Int).toNat) []=[.i (cI l (i:Int) 0),.i (cI l (i:Int) 1),.i 0]:=by unfold raR;rw[qEK,qEn,qEy,qFe h];rfl
 refine⟨?_,?_,?_⟩<;>(conv=>lhs;unfold cI zY)<;>rw[e]<;>rfl
theorem qyR (hl:l.length<=64):(q0r [.r l]).run=some (0,[.r (raR l)]):=by
 have key:=zI (S:=jx) (fun i=>[.r l,.i (l.length:Int),.i (i:Int),.r (raN l i)]) (0,[.r (raR l)]) l.length (by omega) (fun i hi=>by
  have e3:qm [[U.i (cI l (i:Int) 0),.i (cI l (i:Int) 1),.i 0]]=1:=rfl;have e4:qm l=(l.length:Int):=rfl;rw[q81];simp only[STD,qBE,qz5,e3,e4,q3f hi (show l.length<9223372036854775808 by omega),show (i:Int)<l.length by omega,show (0:Int)<=i by omega,show (i:Int)+1<=5864062014805 by omega,and_self]) (by
  rw[q81];simp only[STD,show ¬(l.length:Int)<l.length by omega];rfl)
 have key':(qh jx [.r l,.i (qm l),.i 0,.r []]).run=some (0,[.r (raR l)]):=key;rw[qhK];simp only[STD,key']
theorem qw2 (h:qxo l=0):l.length<=64/\∀i,i<l.length->co (cI l (i:Int) 0)/\co (cI l (i:Int) 1):=by
 unfold qxo at h;split at h
 ·omega
 ·rename_i h64;unfold qm at h64;refine⟨by omega,fun i hi=>?_⟩;obtain⟨h1,h2,h3,h4⟩:=qzl (qrC h i hi);exact⟨⟨h1,h2⟩,⟨h3,h4⟩⟩
theorem qtK (h:qpd l=0):qxo l=0/\l.length<=64/\0<l.length/\q6x (raR l)/\Mst (raR l) 3:=by
 unfold qpd at h;split at h
 ·rename_i h1;split at h
  ·omega
  ·rename_i h2;unfold qm at h2;obtain⟨q1,q2⟩:=qw2 h1;refine⟨h1,q1,by omega,⟨by rw[qbb];exact q1,fun i hi=>?_⟩,.inr ⟨rfl,fun k hk=>?_⟩⟩
   ·rw[qbb] at hi;obtain⟨e1,e2,e3⟩:=qs3 hi;obtain⟨k1,k2⟩:=q2 i hi;unfold qAU;rw[e1,e2,e3];exact⟨k1,k2,by unfold co;omega⟩
   ·rw[qbb] at hk;obtain⟨e1,e2,e3⟩:=qs3 hk;show ((cI (raR l) (k:Int) 2:Int):Rat)=0;rw[e3];rfl
 ·rename_i h1;exact absurd h h1
end Go.Eng

namespace Go.Eng
variable {l:R}
structure LO (l:R) (m:Nat) (L:List Nat) (n:Nat):Prop where
 first:qdx (q4N l) l.length 1 m=some L
 len:L.length=n+1
 most:n<m
 three:n<=3
 lt:∀a,a∈L->a<l.length
 asc:L.Pairwise (·<·)
 supp:q4N l L=true
 cb:CB (cO l L)
 sup:Sup l.length (pV l) (n+1) (Lf l L) (wts (tO l L) n) (sO l L)
 cen:cO l L=Go.Eng.cen (n+1) (wts (tO l L) n) fun j=>pV l (Lf l L j)
theorem qDV {L:List Nat}{n:Nat}(hL:L.length=n+1)(hlt:∀a,a∈L->a<l.length){j:Nat}(hj:j<n+1):Lf l L j<l.length:=by unfold Lf;rw[qEn,qEv (show j<L.length by omega)];exact hlt _ (qFp _)
theorem qyA (hs:q6x l)(hl:0<l.length){m:Nat}(hm:Mst l m):∃L n,LO l m L n:=by
 obtain⟨L,n,h1,h2,h3,h4,h5,h6,t,ht⟩:=quM hl hm;have eL:L.length-1=n:=by omega
 have sb:q4N l L=true:=qir.2 ⟨t,by rw[eL];exact ht⟩;have st:=qxe sb;rw[eL] at st;have ec:cO l L=cen (n+1) (wts (tO l L) n) fun j=>pV l (Lf l L j):=by unfold cO;rw[eL]
 have su:=qsg st (fun j hj=>qDV h2 h5 hj) (by have:=qyH h6 l.length;rw[h2] at this;exact this);rw[<-ec] at su;exact⟨L,n,h1,h2,h3,h4,h5,h6,sb,(qp1 hs h2 h4 h5 sb).1,su,ec⟩
theorem qmK (h0:qpd l=0):∃L n,LO (raR l) 3 L n /\(vO [.r l]).run=some (0,[.s (tQ (cO (raR l) L).x),.s (tQ (cO (raR l) L).y),.s (tQ (sO (raR l) L)),.r (rN L),.i 0]):=by obtain⟨h1,h2,h3,h4,h5⟩:=qtK h0;obtain⟨L,n,lo⟩:=qyA h4 (by rw[qbb];exact h3) h5;have r1:(ky [.r (raR l),.i 3]).run=_:=qAS h4 (m:=3) (by omega) lo.first;refine⟨L,n,lo,?_⟩;rw[qhO];simp only[STD,qlB,h0,qyR h2,r1,qby]
end Go.Eng

namespace Go.Eng
def shN(s:qEl):Prop:=(spn s).length<=30/\(spd s).length<=30
instance (s:qEl):Decidable (shN s):=by unfold shN;infer_instance
def E4:R:=[[.i 0,.i 0],[.i 6,.i 0],[.i 3,.i 1]]
theorem qD5{c:Nat->V3}{t:Nat->Rat}{a:Rat}(h1:qoF c 0 0=a)(ha:a≠0)(e1:a*t 0=d2 (c 0) (c 1)):Bl 1 c t:=by
 refine⟨qdW.2 fun u hu=>?_,fun i hi=>?_⟩
 ·have q1:=hu 0 (by omega);simp only[su,h1] at q1;intro j hj;have:j=0:=by omega
  subst this;have z:a*u 0=0:=by grind
  rcases qFn.1 z with h|h
  ·exact absurd h ha
  ·exact h
 ·have:i=0:=by omega
  subst this;simp only[su,h1];grind
def qEf(a b:Rat):Nat->Rat:=fun j=>if j=0 then a else b
def T2:Nat->Rat:=qEf (17/50) (8/25)
theorem qyd(s:Bs):seq s s=true:=by rw[jo]
theorem qAh{l:R}(h1:l.length<=64)(h2:∀i,i<l.length->co (cI l (i:Int) 0)/\co (cI l (i:Int) 1)):qxo l=0:=by unfold qxo;rw[if_neg (by unfold qm;omega)];refine qpz fun i hi=>?_;obtain⟨k1,k2⟩:=h2 i hi;unfold co at k1 k2;show (if _ then (0:Int) else 2)=0;rw[if_pos (by omega)]
theorem qyj{l:R}(h0:0<l.length)(h1:l.length<=64)(h2:∀i,i<l.length->co (cI l (i:Int) 0)/\co (cI l (i:Int) 1)):qpd l=0:=by unfold qpd;rw[if_pos (qAh h1 h2),if_neg (by unfold qm;omega)]
def E5:R:=[[.i 0,.i 0],[.i 6,.i 0]]
theorem qyE:qrq (pV (raR E5)) (raR E5).length 1 (Lf (raR E5) [0,1]) (fun _=>1/2):=by
 refine⟨qD5 (a:=72) (by decide +kernel) (by decide +kernel) (by decide +kernel),?_,?_⟩
 ·decide +kernel
 ·decide +kernel
theorem q91:(yU []).run=some (0,[.b true]):=by
  obtain⟨L,n,lo,r⟩:=qmK (l:=E5) (by decide)
  have sp:=qsg qyE (by decide) (by
    intro j k h1 h2
    have e:j=0/\k=1:=by omega
    obtain⟨rfl,rfl⟩:=e
    decide)
  obtain⟨us,_⟩:=qyZ lo.sup sp;have es:sO (raR E5) L=9:=by rw[us];decide +kernel
  have e9:tQ 9=[57]:=by decide +kernel
  rw[es,e9] at r;have r':(vO [.r [[.i 0,.i 0],[.i 6,.i 0]]]).run=_:=r;rw[qia];simp only[STD,r',qyd]
theorem qmD{l:R}{i:Nat}(hi:i<l.length):pV (raR l) i=⟨(cI l i 0:Rat),(cI l i 1:Rat),0⟩:=by obtain⟨e1,e2,e3⟩:=qs3 hi;unfold pV;rw[e1,e2,e3];rfl
theorem qAE{a0 a1 b0 b1 w0 w1 x y:Rat}(h1:w0+w1=1)(hx:w0*a0+w1*a1=x)(hy:w0*b0+w1*b1=y)(e:(x-a0)*(x-a0)+(y-b0)*(y-b0)=(x-a1)*(x-a1)+(y-b1)*(y-b1))(ne:¬(a0=a1/\b0=b1)):x*2=a0+a1/\y*2=b0+b1:=by
 have k:(w1-w0)*((a1-a0)*(a1-a0)+(b1-b0)*(b1-b0))=0:=by
  have e0:w0=1-w1:=by grind
  subst e0;subst hx;subst hy;grind
 have n0:(a1-a0)*(a1-a0)+(b1-b0)*(b1-b0)≠0:=fun h=>by
  have s1:=q6F (a1-a0);have s2:=q6F (b1-b0);have z1:(a1-a0)*(a1-a0)=0:=by grind
  have z2:(b1-b0)*(b1-b0)=0:=by grind
  have y1:a1-a0=0:=by rcases qFn.1 z1 with h|h<;>exact h
  have y2:b1-b0=0:=by rcases qFn.1 z2 with h|h<;>exact h
  exact ne ⟨by grind,by grind⟩
 have hw:w1-w0=0:=by
  rcases qFn.1 k with h|h
  ·exact h
  ·exact absurd h n0
 have e1:w1=1/2:=by grind
 have e0:w0=1/2:=by grind
 subst e1;subst e0;constructor<;>grind
theorem qxU{a0 a1 a2 b0 b1 b2 x y:Rat}(e1:(x-a0)*(x-a0)+(y-b0)*(y-b0)=(x-a1)*(x-a1)+(y-b1)*(y-b1))(e2:(x-a0)*(x-a0)+(y-b0)*(y-b0)=(x-a2)*(x-a2)+(y-b2)*(y-b2)) :x*(2*((a1-a0)*(b2-b0)-(b1-b0)*(a2-a0)))=((a1-a0)*(a1-a0)+(b1-b0)*(b1-b0))*(b2-b0)-((a2-a0)*(a2-a0)+(b2-b0)*(b2-b0))*(b1-b0)+2*((a1-a0)*(b2-b0)-(b1-b0)*(a2-a0))*a0 /\y*(2*((a1-a0)*(b2-b0)-(b1-b0)*(a2-a0)))=((a2-a0)*(a2-a0)+(b2-b0)*(b2-b0))*(a1-a0)-((a1-a0)*(a1-a0)+(b1-b0)*(b1-b0))*(a2-a0)+2*((a1-a0)*(b2-b0)-(b1-b0)*(a2-a0))*b0:=by
 have k1:2*((x-a0)*(a1-a0)+(y-b0)*(b1-b0))=(a1-a0)*(a1-a0)+(b1-b0)*(b1-b0):=by grind
 have k2:2*((x-a0)*(a2-a0)+(y-b0)*(b2-b0))=(a2-a0)*(a2-a0)+(b2-b0)*(b2-b0):=by grind
 obtain⟨p,hp⟩:∃p,p=x-a0:=⟨_,rfl⟩;obtain⟨q,hq⟩:∃q,q=y-b0:=⟨_,rfl⟩;obtain⟨u,hu⟩:∃u,u=a1-a0:=⟨_,rfl⟩;obtain⟨v,hv⟩:∃v,v=b1-b0:=⟨_,rfl⟩;obtain⟨r,hr⟩:∃r,r=a2-a0:=⟨_,rfl⟩;obtain⟨t,ht⟩:∃t,t=b2-b0:=⟨_,rfl⟩;rw[<-hp,<-hq,<-hu,<-hv] at k1;rw[<-hp,<-hq,<-hr,<-ht] at k2;rw[<-hu,<-hv,<-hr,<-ht,show x=p+a0 by grind,show y=q+b0 by grind,<-k1,<-k2];constructor<;>grind
theorem qyV{l:R}{L:List Nat}{n:Nat}(lo:LO (raR l) 3 L n){M:Int}(hM:1<=M)(hK:∀i j,i<l.length->j<l.length->(-M<=cI l (i:Nat) 0-cI l (j:Nat) 0/\cI l (i:Nat) 0-cI l (j:Nat) 0<=M)/\(-M<=cI l (i:Nat) 1-cI l (j:Nat) 1/\cI l (i:Nat) 1-cI l (j:Nat) 1<=M)) :∃D P Q:Int,D≠0/\(-(2*(M*M))<=D/\D<=2*(M*M))/\(cO (raR l) L).x*((2*D:Int):Rat)=(P:Rat)/\(cO (raR l) L).y*((2*D:Int):Rat)=(Q:Rat)/\(cO (raR l) L).z=0:=by
 have MM:1<=M*M:=by have:=Int.mul_le_mul hM hM (by omega) (by omega);omega
 have su:=lo.sup;have hc:=lo.cen;have lt:∀j,j<n+1->Lf (raR l) L j<l.length:=fun j hj=>by have:=su.lt j hj;rwa [qbb] at this
 have pt:∀j,j<n+1->pV (raR l) (Lf (raR l) L j)=⟨(cI l (Lf (raR l) L j:Nat) 0:Rat),(cI l (Lf (raR l) L j:Nat) 1:Rat),0⟩:=fun j hj=>qmD (lt j hj);obtain⟨w,hw⟩:∃w,w=wts (tO (raR l) L) n:=⟨_,rfl⟩;obtain⟨F,hF⟩:∃F:Nat->Nat,F=Lf (raR l) L:=⟨_,rfl⟩;rw[<-hw,<-hF] at su hc;rw[<-hF] at lt pt;obtain⟨c,hC⟩:∃c,c=cO (raR l) L:=⟨_,rfl⟩;rw[<-hC] at hc ⊢;have one:=su.one;have eq:=su.eq;have ind:=su.ind;rw[<-hc] at eq;have cx:c.x=Go.Eng.su (n+1) fun j=>w j*(pV (raR l) (F j)).x:=by rw[hc];rfl
 have cy:c.y=Go.Eng.su (n+1) fun j=>w j*(pV (raR l) (F j)).y:=by rw[hc];rfl
 have cz:c.z=0:=by
  have e:c.z=Go.Eng.su (n+1) fun j=>w j*(pV (raR l) (F j)).z:=by rw[hc];rfl
  rw[e,qj (g:=fun _=>0) (fun j hj=>by rw[pt j hj];grind)];exact q3P _
 rcases (show n=0\/n=1\/n=2 by have:=lo.most;omega) with rfl|rfl|rfl
 ·simp only[Go.Eng.su] at one cx cy;rw[pt 0 (by omega)] at cx cy;refine⟨1,2*cI l (F 0:Nat) 0,2*cI l (F 0:Nat) 1,by omega,by omega,?_,?_,cz⟩
  ·rw[qEB,qEB];simp only[] at cx;grind
  ·rw[qEB,qEB];simp only[] at cy;grind
 ·have q0:=eq 0 (by omega);have q1:=eq 1 (by omega);simp only[Go.Eng.su] at one cx cy;rw[pt 0 (by omega),pt 1 (by omega)] at cx cy;rw[pt 0 (by omega)] at q0;rw[pt 1 (by omega)] at q1;unfold d2 at q0 q1;simp only[] at cx cy q0 q1;have ne:¬((cI l (F 0:Nat) 0:Rat)=(cI l (F 1:Nat) 0:Rat)/\(cI l (F 0:Nat) 1:Rat)=(cI l (F 1:Nat) 1:Rat)):=fun⟨h1,h2⟩=>by have:=ind (fun j=>if j=0 then 1 else -1) (by simp only[Go.Eng.su];grind) (by unfold cen;simp only[Go.Eng.su];rw[pt 0 (by omega),pt 1 (by omega)];simp only[];rw[<-h1,<-h2];simp only[V3.mk.injEq];refine⟨?_,?_,?_⟩<;>grind) 0 (by omega);simp at this
  obtain⟨r1,r2⟩:=qAE (x:=c.x) (y:=c.y) (w0:=w 0) (w1:=w 1) (by grind) (by grind) (by grind) (by grind) ne;refine⟨1,cI l (F 0:Nat) 0+cI l (F 1:Nat) 0,cI l (F 0:Nat) 1+cI l (F 1:Nat) 1,by omega,by omega,?_,?_,cz⟩
  ·rw[qFa,<-r1];rfl
  ·rw[qFa,<-r2];rfl
 ·have q0:=eq 0 (by omega);have q1:=eq 1 (by omega);have q2:=eq 2 (by omega);rw[pt 0 (by omega)] at q0;rw[pt 1 (by omega)] at q1;rw[pt 2 (by omega)] at q2;unfold d2 at q0 q1 q2;simp only[] at q0 q1 q2;obtain⟨r1,r2⟩:=qxU (x:=c.x) (y:=c.y) (a0:=cI l (F 0:Nat) 0) (a1:=cI l (F 1:Nat) 0) (a2:=cI l (F 2:Nat) 0) (b0:=cI l (F 0:Nat) 1) (b1:=cI l (F 1:Nat) 1) (b2:=cI l (F 2:Nat) 1) (by grind) (by grind);obtain⟨D,hD⟩:∃D,D=(cI l (F 1:Nat) 0-cI l (F 0:Nat) 0)*(cI l (F 2:Nat) 1-cI l (F 0:Nat) 1)-(cI l (F 1:Nat) 1-cI l (F 0:Nat) 1)*(cI l (F 2:Nat) 0-cI l (F 0:Nat) 0):=⟨_,rfl⟩;have hb:-(2*(M*M))<=D/\D<=2*(M*M):=by obtain⟨⟨k1,k2⟩,⟨k3,k4⟩⟩:=hK (F 1) (F 0) (lt 1 (by omega)) (lt 0 (by omega));obtain⟨⟨k5,k6⟩,⟨k7,k8⟩⟩:=hK (F 2) (F 0) (lt 2 (by omega)) (lt 0 (by omega));have m1:=qwA k1 k2 k7 k8;have m2:=qwA k3 k4 k5 k6;omega
  have hD':(D:Rat)=((cI l (F 1:Nat) 0:Rat)-(cI l (F 0:Nat) 0:Rat))*((cI l (F 2:Nat) 1:Rat)-(cI l (F 0:Nat) 1:Rat))-((cI l (F 1:Nat) 1:Rat)-(cI l (F 0:Nat) 1:Rat))*((cI l (F 2:Nat) 0:Rat)-(cI l (F 0:Nat) 0:Rat)):=by rw[hD];simp only[qEB,qF2]
  have n0:D≠0:=fun h=>by
   have hz:(D:Rat)=0:=by rw[h];rfl
   have three:∀f0 f1 f2:Rat,f0+f1+f2=0->f0*(cI l (F 0:Nat) 0:Rat)+f1*(cI l (F 1:Nat) 0:Rat)+f2*(cI l (F 2:Nat) 0:Rat)=0->f0*(cI l (F 0:Nat) 1:Rat)+f1*(cI l (F 1:Nat) 1:Rat)+f2*(cI l (F 2:Nat) 1:Rat)=0->f0=0/\f1=0/\f2=0:=fun f0 f1 f2 g1 g2 g3=>by have key:=ind (fun j=>if j=0 then f0 else if j=1 then f1 else f2) (by simp only[Go.Eng.su];grind) (by unfold cen;simp only[Go.Eng.su];rw[pt 0 (by omega),pt 1 (by omega),pt 2 (by omega)];simp only[V3.mk.injEq];refine⟨?_,?_,?_⟩<;>grind);have j0:=key 0 (by omega);have j1:=key 1 (by omega);have j2:=key 2 (by omega);simp at j0 j1 j2;exact⟨j0,j1,j2⟩
   rw[hz] at hD';have z1:=three (-(((cI l (F 2:Nat) 0:Rat)-(cI l (F 0:Nat) 0:Rat))+-((cI l (F 1:Nat) 0:Rat)-(cI l (F 0:Nat) 0:Rat)))) ((cI l (F 2:Nat) 0:Rat)-(cI l (F 0:Nat) 0:Rat)) (-((cI l (F 1:Nat) 0:Rat)-(cI l (F 0:Nat) 0:Rat))) (by grind) (by grind) (by grind);have z2:=three (-(((cI l (F 2:Nat) 1:Rat)-(cI l (F 0:Nat) 1:Rat))+-((cI l (F 1:Nat) 1:Rat)-(cI l (F 0:Nat) 1:Rat)))) ((cI l (F 2:Nat) 1:Rat)-(cI l (F 0:Nat) 1:Rat)) (-((cI l (F 1:Nat) 1:Rat)-(cI l (F 0:Nat) 1:Rat))) (by grind) (by grind) (by grind);have z3:=three (-1) 1 0 (by grind) (by grind) (by grind);exact absurd z3.2.1 (by decide)
  refine⟨D,((cI l (F 1:Nat) 0-cI l (F 0:Nat) 0)*(cI l (F 1:Nat) 0-cI l (F 0:Nat) 0)+(cI l (F 1:Nat) 1-cI l (F 0:Nat) 1)*(cI l (F 1:Nat) 1-cI l (F 0:Nat) 1))*(cI l (F 2:Nat) 1-cI l (F 0:Nat) 1)-((cI l (F 2:Nat) 0-cI l (F 0:Nat) 0)*(cI l (F 2:Nat) 0-cI l (F 0:Nat) 0)+(cI l (F 2:Nat) 1-cI l (F 0:Nat) 1)*(cI l (F 2:Nat) 1-cI l (F 0:Nat) 1))*(cI l (F 1:Nat) 1-cI l (F 0:Nat) 1)+2*D*cI l (F 0:Nat) 0,
   ((cI l (F 2:Nat) 0-cI l (F 0:Nat) 0)*(cI l (F 2:Nat) 0-cI l (F 0:Nat) 0)+(cI l (F 2:Nat) 1-cI l (F 0:Nat) 1)*(cI l (F 2:Nat) 1-cI l (F 0:Nat) 1))*(cI l (F 1:Nat) 0-cI l (F 0:Nat) 0)-((cI l (F 1:Nat) 0-cI l (F 0:Nat) 0)*(cI l (F 1:Nat) 0-cI l (F 0:Nat) 0)+(cI l (F 1:Nat) 1-cI l (F 0:Nat) 1)*(cI l (F 1:Nat) 1-cI l (F 0:Nat) 1))*(cI l (F 2:Nat) 0-cI l (F 0:Nat) 0)+2*D*cI l (F 0:Nat) 1,n0,hb,?_,?_,cz⟩
  ·rw[<-hD'] at r1;have e2:((2:Int):Rat)=2:=rfl;simp only[qEB,qFa,qF2,e2];exact r1
  ·rw[<-hD'] at r2;have e2:((2:Int):Rat)=2:=rfl;simp only[qEB,qFa,qF2,e2];exact r2
theorem qx1{a b:Rat}{N D N' D':Nat}(ha:bnd N D a)(hb:bnd N' D' b)(h1:N+D'<=1023)(h2:N'+D<=1023)(h3:D+D'<=1024):(zw [.s (tQ a),.s (tQ b),.i 0]).run=some (0,[.s (tQ (a+b)),.i 0]):=by
 rw[qid];have:(wu [.s (tQ a),.s (tQ b),.i 0]).run=some (0,[.s (tQ (a+b)),.i 0]):=by rw[q8A];simp only[STD,qbt ha hb h1 h2 h3]
 simp only[STD,this]
theorem qpu{a b:Rat}{N D N' D':Nat}(ha:bnd N D a)(hb:bnd N' D' b)(h1:N+D'<=1023)(h2:N'+D<=1023)(h3:D+D'<=1024):(qS [.s (tQ a),.s (tQ b),.i 0]).run=some (0,[.s (tQ (a-b)),.i 0]):=by
 rw[qit];have:(wt [.s (tQ a),.s (tQ b),.i 0]).run=some (0,[.s (tQ (a-b)),.i 0]):=by rw[q8y];simp only[STD,q5a ha hb h1 h2 h3]
 simp only[STD,this]
theorem qqf{a b:Rat}{N D N' D':Nat}(ha:bnd N D a)(hb:bnd N' D' b)(h1:N+N'<=1024)(h2:D+D'<=1024):(qX [.s (tQ a),.s (tQ b),.i 0]).run=some (0,[.s (tQ (a*b)),.i 0]):=by
 rw[qig];have:(wD [.s (tQ a),.s (tQ b),.i 0]).run=some (0,[.s (tQ (a*b)),.i 0]):=by rw[q8v];simp only[STD,qb4 ha hb h1 h2]
 simp only[STD,this]
theorem qDm{a b:Rat}{N D N' D':Nat}(h0:b≠0)(ha:bnd N D a)(hb:bnd N' D' b)(h1:N+D'<=1024)(h2:D+N'<=1024):(zD [.s (tQ a),.s (tQ b),.i 0]).run=some (0,[.s (tQ (a/b)),.i 0]):=by rw[q8u];simp only[STD,qll h0 ha hb h1 h2]
theorem qxg{ax ay bx by_:Rat}{N D N' D':Nat}(h1:bnd N D ax)(h2:bnd N D ay)(h3:bnd N' D' bx)(h4:bnd N' D' by_)(c1:N+D'<=1023)(c2:N'+D<=1023)(c3:D+D'<=1024) :(zT [.s (tQ ax),.s (tQ ay),.s (tQ bx),.s (tQ by_),.i 0]).run=some (0,[.s (tQ (ax-bx)),.s (tQ (ay-by_)),.i 0]):=by rw[qgA];simp only[STD,qpu h1 h3 c1 c2 c3,qpu h2 h4 c1 c2 c3]
theorem qxk{ax ay bx by_:Rat}{N D N' D':Nat}(h1:bnd N D ax)(h2:bnd N D ay)(h3:bnd N' D' bx)(h4:bnd N' D' by_)(c1:N+N'+(D+D')<=1023)(c2:D+D'+(D+D')<=1024) :(zx [.s (tQ ax),.s (tQ ay),.s (tQ bx),.s (tQ by_),.i 0]).run=some (0,[.s (tQ (ax*bx+ay*by_)),.i 0]):=by rw[qin];simp only[STD,qqf h1 h3 (by omega) (by omega),qqf h2 h4 (by omega) (by omega),qx1 (h1.mul h3) (h2.mul h4) (by omega) (by omega) (by omega)]
theorem qjR{ax ay bx by_:Rat}{N D N' D':Nat}(h1:bnd N D ax)(h2:bnd N D ay)(h3:bnd N' D' bx)(h4:bnd N' D' by_):bnd (N+N'+(D+D')+1) (D+D'+(D+D')) (ax*bx+ay*by_):=(h1.mul h3).add (h2.mul h4) (by omega) (by omega)
def kX(ax ay bx by_:Rat):Rat:=(ax-bx)*(ax-bx)+(ay-by_)*(ay-by_)
theorem q5p{a b:Rat}(ha:bnd 12 10 a)(hb:bnd 12 10 b):bnd 23 20 (a-b):=ha.sub hb (by omega) (by omega)
theorem qrp{ax ay bx by_:Rat}(h1:bnd 12 10 ax)(h2:bnd 12 10 ay)(h3:bnd 12 10 bx)(h4:bnd 12 10 by_):bnd 87 80 (kX ax ay bx by_):=qjR (q5p h1 h3) (q5p h2 h4) (q5p h1 h3) (q5p h2 h4)
theorem qDH{ax ay bx by_:Rat}(h1:bnd 12 10 ax)(h2:bnd 12 10 ay)(h3:bnd 12 10 bx)(h4:bnd 12 10 by_) :(q0A [.s (tQ ax),.s (tQ ay),.s (tQ bx),.s (tQ by_),.i 0]).run=some (0,[.s (tQ (kX ax ay bx by_)),.i 0]):=by rw[qiu];have k1:=q5p h1 h3;have k2:=q5p h2 h4;simp only[STD,qxg h1 h2 h3 h4 (by omega) (by omega) (by omega),qxk k1 k2 k1 k2 (by omega) (by omega)];rfl
structure DQ where
 x:Rat
 y:Rat
 s:Rat
def DQ.sh(d:DQ):Prop:=bnd 12 10 d.x/\bnd 12 10 d.y/\bnd 17 13 d.s
def qDZ(a b:DQ)(k:Rat):Int:=qel (kX a.x a.y b.x b.y-(a.s+b.s)) k (a.s*b.s)
theorem qA1{a b c:Rat}(h:RootOk a b c)(hc:0<=c):(j5 [.s (tQ a),.s (tQ b),.s (tQ c),.i 0]).run=some (0,[.i (qel a b c),.i 0]):=by rw[qgb];simp only[STD,quH h hc]
theorem qmP(a:Rat):qel a 0 0=sgq a:=by
 unfold qel;rw[show sgq 0=0 from rfl,qFo,qFo,if_pos (by omega)];split
 ·rename_i h;rw[h]
 ·rfl
theorem qBD{a b:Rat}{N D N' D':Nat}(ha:bnd N D a)(hb:bnd N' D' b)(c1:N+D'+1<=500)(c2:N'+D+1<=500)(c3:D+D'<=300):(u9 [.s (tQ a),.s (tQ b),.i 0]).run=some (0,[.i (sgq (a-b)),.i 0]):=by rw[qfG];have k:bnd 500 (D+D') (a-b):=ha.sub hb (by omega) (by omega);have hr:=qA1 (a:=a-b) (b:=0) (c:=0) (RootOk.of k ko ko (by omega) (by omega)) (by decide);rw[qmP,show tQ 0=[48] from rfl] at hr;simp only[STD,qpu ha hb (by omega) (by omega) (by omega),hr]
theorem qA4:tQ 2=[50]:=qxZ 2
def qvv(a b:DQ):Prop:=a.s<=b.s/\qDZ a b 2<=0
instance (a b:DQ):Decidable (qvv a b):=by unfold qvv;infer_instance
theorem qn6(a b:Rat):(sgq (a-b)<=0)=(a<=b):=by rw[qe3];exact propext ⟨fun h=>by grind,fun h=>by grind⟩
def shT(s:qEl):Prop:=s.length<=12
noncomputable def qBG(x y s:qEl):Int:=if qlM x≠0 then qlM x else if qlM y≠0 then qlM y else if qlM s≠0 then qlM s else if s.getD 0 0=45 then 2 else 0
theorem qDM{S:List PV->TR}{st:Nat->List PV}{e0 e1 e2:Int}{fin:List PV}(h0:(S (st 0)).run=if e0=0 then some (0,st 1) else some (2,[.i e0])) (h1:(S (st 1)).run=if e1=0 then some (0,st 2) else some (2,[.i e1])) (h2:(S (st 2)).run=if e2=0 then some (0,st 3) else some (2,[.i e2]))(h3:(S (st 3)).run=some (1,fin)):(qh S (st 0)).run=some (if e0≠0 then (1,[.i e0]) else if e1≠0 then (1,[.i e1]) else if e2≠0 then (1,[.i e2]) else (0,fin)):=by
 have hr:∃m,qcT=m+4:=⟨qcT-4,by unfold qcT;omega⟩;obtain⟨m,hm⟩:=hr;unfold qh;rw[hm];by_cases c0:e0=0
 ·rw[if_pos c0] at h0;rw[qee h0];by_cases c1:e1=0
  ·rw[if_pos c1] at h1;rw[qee h1];by_cases c2:e2=0
   ·rw[if_pos c2] at h2;rw[qee h2,q5U h3];simp[c0,c1,c2]
   ·rw[if_neg c2] at h2;rw[q5U h2];simp[c0,c1,c2]
  ·rw[if_neg c1] at h1;rw[q5U h1];simp[c0,c1]
 ·rw[if_neg c0] at h0;rw[q5U h0];simp[c0]
theorem qgX(x y s:qEl)(h1:x.length<=1000000)(h2:y.length<=1000000)(h3:s.length<=1000000):(uo [.s x,.s y,.s s]).run=some (0,[.i (qBG x y s)]):=by
  rw[qlO];have c0:=q72 x (by omega);have c1:=q72 y (by omega);have c2:=q72 s (by omega);have d0:cS [[.s x],[.s y],[.s s]] 0 0=x:=rfl;have d1:cS [[.s x],[.s y],[.s s]] 1 0=y:=rfl;have d2:cS [[.s x],[.s y],[.s s]] 2 0=s:=rfl;have d3:qm [[U.s x],[U.s y],[U.s s]]=3:=rfl;have w0:qO .i64 0 1=1:=by decide
  have w1:qO .i64 1 1=2:=by decide
  have w2:qO .i64 2 1=3:=by decide
  have key:=qDM (S:=q1k) (st:=fun i=>[.i 3,.i (i:Int),.s x,.s y,.s s,.r [[.s x],[.s y],[.s s]]]) (e0:=qlM x) (e1:=qlM y) (e2:=qlM s) (fin:=[.s x,.s y,.s s])
    (by rw [q2T]; simp only [show (((0 : Nat)) : Int) = 0 from rfl, show (((1 : Nat)) : Int) = 1 from rfl, d0, d3]
        by_cases c:qlM x=0
        · simp only[STD,c0,c,w0,show (0:Int)<3 by omega,qES,and_self]
        · simp only[STD,c0,c,show (0:Int)<3 by omega,qES,and_self])
    (by rw [q2T]; simp only [show (((1 : Nat)) : Int) = 1 from rfl, show (((2 : Nat)) : Int) = 2 from rfl, d1, d3]
        by_cases c:qlM y=0
        · simp only[STD,c1,c,w1,show (1:Int)<3 by omega,show (0:Int)<=1 by omega,and_self]
        · simp only[STD,c1,c,show (1:Int)<3 by omega,show (0:Int)<=1 by omega,and_self])
    (by rw [q2T]; simp only [show (((2 : Nat)) : Int) = 2 from rfl, show (((3 : Nat)) : Int) = 3 from rfl, d2, d3]
        by_cases c:qlM s=0
        · simp only[STD,c2,c,w2,show (2:Int)<3 by omega,show (0:Int)<=2 by omega,and_self]
        · simp only[STD,c2,c,show (2:Int)<3 by omega,show (0:Int)<=2 by omega,and_self])
    (by rw[q2T];simp only[show (((3:Nat)):Int)=3 from rfl];simp only[STD,show ¬(3:Int)<3 by omega])
  simp only[show (((0:Nat)):Int)=0 from rfl] at key;unfold qBG;rw[d3];by_cases e0:qlM x=0
  · by_cases e1:qlM y=0
    · by_cases e2:qlM s=0
      · simp only[e0,e1,e2,ne_eq,not_true,if_false] at key ⊢
        obtain⟨q,hq,_⟩:=qAV e2;have hl:(0:Int)<zp s:=by have h1:=qlj q;have h2:=qgr q;rw[hq];unfold zp;omega
        by_cases hm:s.getD 0 0=45
        · simp only[STD,key,zJ key,qES,hl,and_self,qhb,hm]
        · simp only[STD,key,zJ key,qES,hl,and_self,qhb,hm]
      · simp only[e0,e1,e2,ne_eq,not_true,not_false_eq_true,if_false,if_true] at key ⊢
        simp only[STD,key,zJ key,show ¬(1=0) by omega]
    · simp only[e0,e1,ne_eq,not_true,not_false_eq_true,if_false,if_true] at key ⊢
      simp only[STD,key,zJ key,show ¬(1=0) by omega]
  · simp only[e0,ne_eq,not_false_eq_true,if_true] at key ⊢
    simp only[STD,key,zJ key,show ¬(1=0) by omega]
theorem qAC{d:DQ}(h1:okQ d.x)(h2:okQ d.y)(h3:okQ d.s)(h:0<=d.s):qBG (tQ d.x) (tQ d.y) (tQ d.s)=0:=by unfold qBG;rw[qox h1,qox h2,qox h3];have:=qB0 h;rw[if_neg (by simp),if_neg (by simp),if_neg (by simp),if_neg this]
def Bd(C e:Nat)(x:Int):Prop:=x.natAbs<=C*10^e
theorem Bd.mul{C e C' e':Nat}{x y:Int}(h:Bd C e x)(h':Bd C' e' y):Bd (C*C') (e+e') (x*y):=by
 unfold Bd at *;rw[qFF,Nat.pow_add];have:=qFi h h';have e1:C*10^e*(C'*10^e')=C*C'*(10^e*10^e'):=by rw[Nat.mul_mul_mul_comm]
 omega
theorem Bd.mono{C e C' e':Nat}{x:Int}(h:Bd C e x)(hC:C<=C')(he:e<=e'):Bd C' e' x:=by unfold Bd at *;exact qEr h (qFi hC (qGc (by omega) he))
theorem Bd.add{C C' e:Nat}{x y:Int}(h:Bd C e x)(h':Bd C' e y):Bd (C+C') e (x+y):=by unfold Bd at *;rw[qEJ];have:=Int.natAbs_add_le x y;omega
theorem Bd.neg{C e:Nat}{x:Int}(h:Bd C e x):Bd C e (-x):=by unfold Bd at *;rw[Int.natAbs_neg];exact h
theorem Bd.sub{C C' e:Nat}{x y:Int}(h:Bd C e x)(h':Bd C' e y):Bd (C+C') e (x-y):=by rw[Int.sub_eq_add_neg];exact h.add h'.neg
theorem Bd.okL{C e k:Nat}{x:Int}(h:Bd C e x)(hC:C<=10^k)(he:k+e<=1023)(hne:0<e+k):okL x:=by unfold Go.Eng.okL nl;unfold Bd at h;have h1:C*10^e<=10^k*10^e:=qER _ hC;rw[<-Nat.pow_add] at h1;have h2:(10:Nat)^(k+e)<10^(k+e+1):=Nat.pow_lt_pow_right (by omega) (by omega);have:=q0D (k+e) x.natAbs (by omega);omega
structure WtD (h v:Nat) (q:Rat):Prop where
 n:Bd 1 h q.num
 d:Bd 1 v (q.den:Int)
 dh:Bd 1 h (q.den:Int)
theorem qjy{q:Rat}{P M:Int}(hM:M≠0)(h:q*(M:Rat)=(P:Rat)):q.num.natAbs<=P.natAbs/\q.den<=M.natAbs:=by
 have hM':(M:Rat)≠0:=by intro e;exact hM (Rat.intCast_inj.1 (e.trans (by simp)))
 have e:q=Rat.divInt P M:=by rw[Rat.divInt_eq_div,<-h];exact(Rat.mul_div_cancel hM').symm
 rw[e];constructor
 ·rw[Rat.num_divInt];refine qEr (qGw _ _) ?_;rw[qFF,qGx hM];omega
 ·rw[Rat.den_divInt,if_neg hM];exact Nat.div_le_self _ _
structure SQ where
 fx:Rat
 fy:Rat
 ax:Rat
 ay:Rat
 h:Rat
def ql(a b:DQ)(neg:Bool):SQ:=
 let dx:=b.x-a.x
 let dy:=b.y-a.y
 let far:=dx*dx+dy*dy
 let t:=(far+a.s-b.s)/(2*far)
 ⟨a.x+t*dx,a.y+t*dy,if neg then dy else 0-dy,if neg then 0-dx else dx,a.s/far-t*t⟩
def kA(d:DQ)(p:SQ):Rat:=(p.fx-d.x)*(p.fx-d.x)+(p.fy-d.y)*(p.fy-d.y)+p.h*(p.ax*p.ax+p.ay*p.ay)-d.s
def kB(d:DQ)(p:SQ):Rat:=2*((p.fx-d.x)*p.ax+(p.fy-d.y)*p.ay)
def q0x(d:DQ)(p:SQ):Prop:=qel (kA d p) (kB d p) p.h<=0
instance (d:DQ) (p:SQ):Decidable (q0x d p):=by unfold q0x;infer_instance
section
variable (a1 p1 b1 q1 c1 r1 a2 p2 b2 q2 c2 r2 a3 p3 b3 q3 c3 r3:Int)
def iU:Int:=a2*p1-a1*p2
def iN:Int:=iU a1 p1 a2 p2*iU a1 p1 a2 p2*((q1*q2)*(q1*q2))+iU b1 q1 b2 q2*iU b1 q1 b2 q2*((p1*p2)*(p1*p2))
def iD:Int:=(p1*p2*(q1*q2))*(p1*p2*(q1*q2))
def iT:Int:=iN a1 p1 b1 q1 a2 p2 b2 q2*(r1*r2)+(c1*r2-c2*r1)*iD p1 q1 p2 q2
def iE:Int:=a1*p3-a3*p1
def iG:Int:=iE a1 p1 a3 p3*iE a1 p1 a3 p3*((q1*q3)*(q1*q3))+iE b1 q1 b3 q3*iE b1 q1 b3 q3*((p1*p3)*(p1*p3))
def iH:Int:=iE a1 p1 a3 p3*iU a1 p1 a2 p2*((q1*q1)*(q2*q3))+iE b1 q1 b3 q3*iU b1 q1 b2 q2*((p1*p1)*(p2*p3))
def iSq:Int:=((p1*q1)*(p3*q3))*((p1*q1)*(p3*q3))
def iA:Int:=iG a1 p1 b1 q1 a3 p3 b3 q3*iN a1 p1 b1 q1 a2 p2 b2 q2*(r1*r2*r3)*(p2*q2)+iT a1 p1 b1 q1 c1 r1 a2 p2 b2 q2 c2 r2*iH a1 p1 b1 q1 a2 p2 b2 q2 a3 p3 b3 q3*r3*(p3*q3)
 + c1*iN a1 p1 b1 q1 a2 p2 b2 q2*(r2*r3)*iSq p1 q1 p3 q3*(p2*q2)-c3*iN a1 p1 b1 q1 a2 p2 b2 q2*(r1*r2)*iSq p1 q1 p3 q3*(p2*q2)
def iM:Int:=iN a1 p1 b1 q1 a2 p2 b2 q2*(r1*r2*r3)*iSq p1 q1 p3 q3*(p2*q2)
def iK:Int:=2*(iE b1 q1 b3 q3*iU a1 p1 a2 p2*(p3*q2)-iE a1 p1 a3 p3*iU b1 q1 b2 q2*(q3*p2))
def iQ:Int:=(p1*p2*p3)*(q1*q2*q3)
def iCn:Int:=4*(c1*iD p1 q1 p2 q2*iN a1 p1 b1 q1 a2 p2 b2 q2*r1*(r2*r2))-iT a1 p1 b1 q1 c1 r1 a2 p2 b2 q2 c2 r2*iT a1 p1 b1 q1 c1 r1 a2 p2 b2 q2 c2 r2
def iCd:Int:=4*(iN a1 p1 b1 q1 a2 p2 b2 q2*iN a1 p1 b1 q1 a2 p2 b2 q2)*((r1*r2)*(r1*r2))
end
section
variable {a1 p1 b1 q1 c1 r1 a2 p2 b2 q2 c2 r2 a3 p3 b3 q3 c3 r3:Int} {hx1 hy1 hs1 hx2 hy2 hs2 hx3 hy3 hs3 vx1 vy1 vs1 vx2 vy2 vs2 vx3 vy3 vs3:Nat}
theorem bU(h1:Bd 1 hx1 a1)(h2:Bd 1 hx1 p1)(h3:Bd 1 hx2 a2)(h4:Bd 1 hx2 p2):Bd 2 (hx1+hx2) (iU a1 p1 a2 p2):=((h3.mul h2).mono (qEo _) (by omega)).sub (h1.mul h4)
theorem bE(h1:Bd 1 hx1 a1)(h2:Bd 1 hx1 p1)(h3:Bd 1 hx3 a3)(h4:Bd 1 hx3 p3):Bd 2 (hx1+hx3) (iE a1 p1 a3 p3):=(h1.mul h4).sub ((h3.mul h2).mono (qEo _) (by omega))
theorem bN(x1:Bd 1 hx1 a1)(x1':Bd 1 hx1 p1)(y1:Bd 1 hy1 b1)(y1':Bd 1 hy1 q1)(x2:Bd 1 hx2 a2)(x2':Bd 1 hx2 p2)(y2:Bd 1 hy2 b2)(y2':Bd 1 hy2 q2) :Bd 8 (2*(hx1+hx2+hy1+hy2)) (iN a1 p1 b1 q1 a2 p2 b2 q2):=by have u:=bU x1 x1' x2 x2';have v:=bU y1 y1' y2 y2';have qq:=y1'.mul y2';have pp:=x1'.mul x2';exact(((u.mul u).mul (qq.mul qq)).mono (C':=4) (by omega) (by omega)).add (((v.mul v).mul (pp.mul pp)).mono (C':=4) (by omega) (by omega))
theorem bD(x1':Bd 1 hx1 p1)(y1':Bd 1 hy1 q1)(x2':Bd 1 hx2 p2)(y2':Bd 1 hy2 q2):Bd 1 (2*(hx1+hx2+hy1+hy2)) (iD p1 q1 p2 q2):=by have z:=(x1'.mul x2').mul (y1'.mul y2');exact(z.mul z).mono (by omega) (by omega)
theorem bT(x1:Bd 1 hx1 a1)(x1':Bd 1 hx1 p1)(y1:Bd 1 hy1 b1)(y1':Bd 1 hy1 q1)(x2:Bd 1 hx2 a2)(x2':Bd 1 hx2 p2)(y2:Bd 1 hy2 b2)(y2':Bd 1 hy2 q2)(s1:Bd 1 hs1 c1) (s1':Bd 1 hs1 r1) (s2:Bd 1 hs2 c2) (s2':Bd 1 hs2 r2):Bd 10 (2*(hx1+hx2+hy1+hy2)+hs1+hs2) (iT a1 p1 b1 q1 c1 r1 a2 p2 b2 q2 c2 r2):=by have n:=bN x1 x1' y1 y1' x2 x2' y2 y2';have d:=bD x1' y1' x2' y2';have s:=(s1.mul s2').sub ((s2.mul s1').mono (qEo _) (by omega));exact((n.mul (s1'.mul s2')).mono (C':=8) (by omega) (by omega)).add ((s.mul d).mono (C':=2) (by omega) (by omega))
theorem bG(x1:Bd 1 hx1 a1)(x1':Bd 1 hx1 p1)(y1:Bd 1 hy1 b1)(y1':Bd 1 hy1 q1)(x3:Bd 1 hx3 a3)(x3':Bd 1 hx3 p3)(y3:Bd 1 hy3 b3)(y3':Bd 1 hy3 q3) :Bd 8 (2*(hx1+hx3+hy1+hy3)) (iG a1 p1 b1 q1 a3 p3 b3 q3):=by have u:=bE x1 x1' x3 x3';have v:=bE y1 y1' y3 y3';have qq:=y1'.mul y3';have pp:=x1'.mul x3';exact(((u.mul u).mul (qq.mul qq)).mono (C':=4) (by omega) (by omega)).add (((v.mul v).mul (pp.mul pp)).mono (C':=4) (by omega) (by omega))
theorem bH(x1:Bd 1 hx1 a1)(x1':Bd 1 hx1 p1)(y1:Bd 1 hy1 b1)(y1':Bd 1 hy1 q1)(x2:Bd 1 hx2 a2)(x2':Bd 1 hx2 p2)(y2:Bd 1 hy2 b2)(y2':Bd 1 hy2 q2)(x3:Bd 1 hx3 a3) (x3':Bd 1 hx3 p3) (y3:Bd 1 hy3 b3) (y3':Bd 1 hy3 q3):Bd 8 (2*hx1+hx2+hx3+2*hy1+hy2+hy3) (iH a1 p1 b1 q1 a2 p2 b2 q2 a3 p3 b3 q3):=by have u:=bU x1 x1' x2 x2';have v:=bU y1 y1' y2 y2';have e:=bE x1 x1' x3 x3';have f:=bE y1 y1' y3 y3';exact(((e.mul u).mul ((y1'.mul y1').mul (y2'.mul y3'))).mono (C':=4) (by omega) (by omega)).add (((f.mul v).mul ((x1'.mul x1').mul (x2'.mul x3'))).mono (C':=4) (by omega) (by omega))
theorem bSq(x1':Bd 1 hx1 p1)(y1':Bd 1 hy1 q1)(x3':Bd 1 hx3 p3)(y3':Bd 1 hy3 q3):Bd 1 (2*(hx1+hx3+hy1+hy3)) (iSq p1 q1 p3 q3):=by have z:=(x1'.mul y1').mul (x3'.mul y3');exact(z.mul z).mono (by omega) (by omega)
theorem bA(x1:Bd 1 hx1 a1)(x1':Bd 1 hx1 p1)(y1:Bd 1 hy1 b1)(y1':Bd 1 hy1 q1)(x2:Bd 1 hx2 a2)(x2':Bd 1 hx2 p2)(y2:Bd 1 hy2 b2)(y2':Bd 1 hy2 q2)(x3:Bd 1 hx3 a3) (x3':Bd 1 hx3 p3) (y3:Bd 1 hy3 b3) (y3':Bd 1 hy3 q3) (s1:Bd 1 hs1 c1) (s1':Bd 1 hs1 r1) (s2:Bd 1 hs2 c2) (s2':Bd 1 hs2 r2) (s3:Bd 1 hs3 c3) (s3':Bd 1 hs3 r3) :Bd 160 (4*hx1+3*hx2+2*hx3+4*hy1+3*hy2+2*hy3+hs1+hs2+hs3) (iA a1 p1 b1 q1 c1 r1 a2 p2 b2 q2 c2 r2 a3 p3 b3 q3 c3 r3):=by have g:=bG x1 x1' y1 y1' x3 x3' y3 y3';have n:=bN x1 x1' y1 y1' x2 x2' y2 y2';have t:=bT x1 x1' y1 y1' x2 x2' y2 y2' s1 s1' s2 s2';have h:=bH x1 x1' y1 y1' x2 x2' y2 y2' x3 x3' y3 y3';have sq:=bSq x1' y1' x3' y3';have k1:=(((g.mul n).mul ((s1'.mul s2').mul s3')).mul (x2'.mul y2')).mono (C':=64) (e':=4*hx1+3*hx2+2*hx3+4*hy1+3*hy2+2*hy3+hs1+hs2+hs3) (by omega) (by omega);have k2:=(((t.mul h).mul s3').mul (x3'.mul y3')).mono (C':=80) (e':=4*hx1+3*hx2+2*hx3+4*hy1+3*hy2+2*hy3+hs1+hs2+hs3) (by omega) (by omega);have k3:=((((s1.mul n).mul (s2'.mul s3')).mul sq).mul (x2'.mul y2')).mono (C':=8) (e':=4*hx1+3*hx2+2*hx3+4*hy1+3*hy2+2*hy3+hs1+hs2+hs3) (by omega) (by omega);have k4:=((((s3.mul n).mul (s1'.mul s2')).mul sq).mul (x2'.mul y2')).mono (C':=8) (e':=4*hx1+3*hx2+2*hx3+4*hy1+3*hy2+2*hy3+hs1+hs2+hs3) (by omega) (by omega);exact((k1.add k2).add k3).sub k4
theorem bM(x1:Bd 1 hx1 a1)(x1':Bd 1 hx1 p1)(y1:Bd 1 hy1 b1)(y1':Bd 1 hy1 q1)(x2:Bd 1 hx2 a2)(x2':Bd 1 hx2 p2)(y2:Bd 1 hy2 b2)(y2':Bd 1 hy2 q2)(wx1:Bd 1 vx1 p1) (wy1:Bd 1 vy1 q1) (wx2:Bd 1 vx2 p2) (wy2:Bd 1 vy2 q2) (wx3:Bd 1 vx3 p3) (wy3:Bd 1 vy3 q3) (ws1:Bd 1 vs1 r1) (ws2:Bd 1 vs2 r2) (ws3:Bd 1 vs3 r3) :Bd 8 (2*(hx1+hx2+hy1+hy2)+(vs1+vs2+vs3)+2*(vx1+vx3+vy1+vy3)+(vx2+vy2)) (iM a1 p1 b1 q1 r1 a2 p2 b2 q2 r2 p3 q3 r3):=by have n:=bN x1 x1' y1 y1' x2 x2' y2 y2';have sq:=bSq wx1 wy1 wx3 wy3;exact(((n.mul ((ws1.mul ws2).mul ws3)).mul sq).mul (wx2.mul wy2)).mono (by omega) (by omega)
theorem bK(x1:Bd 1 hx1 a1)(x1':Bd 1 hx1 p1)(y1:Bd 1 hy1 b1)(y1':Bd 1 hy1 q1)(x2:Bd 1 hx2 a2)(x2':Bd 1 hx2 p2)(y2:Bd 1 hy2 b2)(y2':Bd 1 hy2 q2)(x3:Bd 1 hx3 a3) (x3':Bd 1 hx3 p3) (y3:Bd 1 hy3 b3) (y3':Bd 1 hy3 q3):Bd 16 (hx1+hx2+hx3+hy1+hy2+hy3) (iK a1 p1 b1 q1 a2 p2 b2 q2 a3 p3 b3 q3):=by
 have u:=bU x1 x1' x2 x2';have v:=bU y1 y1' y2 y2';have e:=bE x1 x1' x3 x3';have f:=bE y1 y1' y3 y3';have two:Bd 2 0 2:=by unfold Bd;decide
 have k1:=((f.mul u).mul (x3'.mul y2')).mono (C':=4) (e':=hx1+hx2+hx3+hy1+hy2+hy3) (by omega) (by omega);have k2:=((e.mul v).mul (y3'.mul x2')).mono (C':=4) (e':=hx1+hx2+hx3+hy1+hy2+hy3) (by omega) (by omega);exact(two.mul (k1.sub k2)).mono (by omega) (by omega)
theorem bQ(wx1:Bd 1 vx1 p1)(wy1:Bd 1 vy1 q1)(wx2:Bd 1 vx2 p2)(wy2:Bd 1 vy2 q2)(wx3:Bd 1 vx3 p3)(wy3:Bd 1 vy3 q3):Bd 1 (vx1+vx2+vx3+(vy1+vy2+vy3)) (iQ p1 q1 p2 q2 p3 q3):=(((wx1.mul wx2).mul wx3).mul ((wy1.mul wy2).mul wy3)).mono (by omega) (by omega)
theorem bCn(x1:Bd 1 hx1 a1)(x1':Bd 1 hx1 p1)(y1:Bd 1 hy1 b1)(y1':Bd 1 hy1 q1)(x2:Bd 1 hx2 a2)(x2':Bd 1 hx2 p2)(y2:Bd 1 hy2 b2)(y2':Bd 1 hy2 q2)(s1:Bd 1 hs1 c1) (s1':Bd 1 hs1 r1) (s2:Bd 1 hs2 c2) (s2':Bd 1 hs2 r2):Bd 132 (4*(hx1+hx2+hy1+hy2)+2*hs1+2*hs2) (iCn a1 p1 b1 q1 c1 r1 a2 p2 b2 q2 c2 r2):=by
 have n:=bN x1 x1' y1 y1' x2 x2' y2 y2';have d:=bD x1' y1' x2' y2';have t:=bT x1 x1' y1 y1' x2 x2' y2 y2' s1 s1' s2 s2';have four:Bd 4 0 4:=by unfold Bd;decide
 have k1:=(four.mul ((((s1.mul d).mul n).mul s1').mul (s2'.mul s2'))).mono (C':=32) (e':=4*(hx1+hx2+hy1+hy2)+2*hs1+2*hs2) (by omega) (by omega);have k2:=(t.mul t).mono (C':=100) (e':=4*(hx1+hx2+hy1+hy2)+2*hs1+2*hs2) (by omega) (by omega);exact k1.sub k2
theorem bCd(x1:Bd 1 hx1 a1)(x1':Bd 1 hx1 p1)(y1:Bd 1 hy1 b1)(y1':Bd 1 hy1 q1)(x2:Bd 1 hx2 a2)(x2':Bd 1 hx2 p2)(y2:Bd 1 hy2 b2)(y2':Bd 1 hy2 q2)(ws1:Bd 1 vs1 r1) (ws2:Bd 1 vs2 r2):Bd 256 (4*(hx1+hx2+hy1+hy2)+2*vs1+2*vs2) (iCd a1 p1 b1 q1 r1 a2 p2 b2 q2 r2):=by
 have n:=bN x1 x1' y1 y1' x2 x2' y2 y2';have four:Bd 4 0 4:=by unfold Bd;decide
 exact((four.mul (n.mul n)).mul ((ws1.mul ws2).mul (ws1.mul ws2))).mono (by omega) (by omega)
end
section
variable (a b d:DQ)
theorem qtg(q:Rat):(q.den:Rat)≠0:=by have:=q1P q;grind
theorem qqJ(neg:Bool)(hf:(b.x-a.x)*(b.x-a.x)+(b.y-a.y)*(b.y-a.y)≠0) :kA d (ql a b neg)*((iM a.x.num a.x.den a.y.num a.y.den a.s.den b.x.num b.x.den b.y.num b.y.den b.s.den d.x.den d.y.den d.s.den:Int):Rat)=((iA a.x.num a.x.den a.y.num a.y.den a.s.num a.s.den b.x.num b.x.den b.y.num b.y.den b.s.num b.s.den d.x.num d.x.den d.y.num d.y.den d.s.num d.s.den:Int):Rat) /\kB d (ql a b neg)*((iQ a.x.den a.y.den b.x.den b.y.den d.x.den d.y.den:Int):Rat)=(((if neg then -1 else 1)*iK a.x.num a.x.den a.y.num a.y.den b.x.num b.x.den b.y.num b.y.den d.x.num d.x.den d.y.num d.y.den:Int):Rat) /\(ql a b neg).h*((iCd a.x.num a.x.den a.y.num a.y.den a.s.den b.x.num b.x.den b.y.num b.y.den b.s.den:Int):Rat)=((iCn a.x.num a.x.den a.y.num a.y.den a.s.num a.s.den b.x.num b.x.den b.y.num b.y.den b.s.num b.s.den:Int):Rat) /\iN a.x.num a.x.den a.y.num a.y.den b.x.num b.x.den b.y.num b.y.den≠0:=by
 obtain⟨far,hfar⟩:∃far,far=(b.x-a.x)*(b.x-a.x)+(b.y-a.y)*(b.y-a.y):=⟨_,rfl⟩;obtain⟨t,ht⟩:∃t,t=(far+a.s-b.s)/(2*far):=⟨_,rfl⟩;obtain⟨h,hh⟩:∃h,h=a.s/far-t*t:=⟨_,rfl⟩;rw[<-hfar] at hf;have h2f:2*far≠0:=by grind
 have ht':2*far*t=far+a.s-b.s:=by rw[ht,Rat.mul_comm];exact Rat.div_mul_cancel h2f
 have hh':far*h=a.s-far*(t*t):=by have:a.s/far*far=a.s:=Rat.div_mul_cancel hf;rw[hh];grind
 have hc:ql a b neg=⟨a.x+t*(b.x-a.x),a.y+t*(b.y-a.y),if neg then b.y-a.y else 0-(b.y-a.y),if neg then 0-(b.x-a.x) else b.x-a.x,h⟩:=by rw[hh,ht,hfar];rfl
 rw[hc];have nx1:=qcb a.x;have ny1:=qcb a.y;have ns1:=qcb a.s;have nx2:=qcb b.x;have ny2:=qcb b.y;have ns2:=qcb b.s;have nx3:=qcb d.x;have ny3:=qcb d.y;have ns3:=qcb d.s;have px1:=qtg a.x;have py1:=qtg a.y;have px2:=qtg b.x;have py2:=qtg b.y;obtain⟨x1,y1,s1⟩:=a;obtain⟨x2,y2,s2⟩:=b;obtain⟨x3,y3,s3⟩:=d;simp only at *;have hU:((iU x1.num x1.den x2.num x2.den:Int):Rat)=(x2-x1)*((x1.den:Rat)*x2.den):=by unfold iU;simp only[qF2,qEB,Rat.intCast_natCast,nx1,nx2];grind
 have hV:((iU y1.num y1.den y2.num y2.den:Int):Rat)=(y2-y1)*((y1.den:Rat)*y2.den):=by unfold iU;simp only[qF2,qEB,Rat.intCast_natCast,ny1,ny2];grind
 have hE:((iE x1.num x1.den x3.num x3.den:Int):Rat)=(x1-x3)*((x1.den:Rat)*x3.den):=by unfold iE;simp only[qF2,qEB,Rat.intCast_natCast,nx1,nx3];grind
 have hF:((iE y1.num y1.den y3.num y3.den:Int):Rat)=(y1-y3)*((y1.den:Rat)*y3.den):=by unfold iE;simp only[qF2,qEB,Rat.intCast_natCast,ny1,ny3];grind
 have hD:((iD x1.den y1.den x2.den y2.den:Int):Rat)=((x1.den:Rat)*x2.den*(y1.den*y2.den))*((x1.den:Rat)*x2.den*(y1.den*y2.den)):=by unfold iD;simp only[qEB,Rat.intCast_natCast]
 have hN:((iN x1.num x1.den y1.num y1.den x2.num x2.den y2.num y2.den:Int):Rat)=far*(((x1.den:Rat)*x2.den*(y1.den*y2.den))*((x1.den:Rat)*x2.den*(y1.den*y2.den))):=by unfold iN;simp only[qFa,qEB,Rat.intCast_natCast,hU,hV,hfar];grind
 have hN0:iN x1.num x1.den y1.num y1.den x2.num x2.den y2.num y2.den≠0:=by
  intro e;rw[e] at hN;have h1:(x1.den:Rat)*x2.den*(y1.den*y2.den)≠0:=by have:=qEP (qEP (q1P x1) (q1P x2)) (qEP (q1P y1) (q1P y2));grind
  have h2:far*(((x1.den:Rat)*x2.den*(y1.den*y2.den))*((x1.den:Rat)*x2.den*(y1.den*y2.den)))=0:=by rw[<-hN];simp
  rcases qFn.1 h2 with h3|h3
  ·exact hf h3
  ·rcases qFn.1 h3 with h4|h4<;>exact h1 h4
 have hT:((iT x1.num x1.den y1.num y1.den s1.num s1.den x2.num x2.den y2.num y2.den s2.num s2.den:Int):Rat)=2*t*far*(((x1.den:Rat)*x2.den*(y1.den*y2.den))*((x1.den:Rat)*x2.den*(y1.den*y2.den)))*((s1.den:Rat)*s2.den):=by
  unfold iT;simp only[qFa,qF2,qEB,Rat.intCast_natCast,hN,hD,ns1,ns2];generalize ((x1.den:Rat)*x2.den*(y1.den*y2.den))*((x1.den:Rat)*x2.den*(y1.den*y2.den))=D2;have:2*t*far*D2*((s1.den:Rat)*s2.den)=(2*far*t)*(D2*((s1.den:Rat)*s2.den)):=by grind
  rw[this,ht'];grind
 have hG:((iG x1.num x1.den y1.num y1.den x3.num x3.den y3.num y3.den:Int):Rat)=((x1-x3)*(x1-x3)+(y1-y3)*(y1-y3))*(((x1.den:Rat)*y1.den*(x3.den*y3.den))*((x1.den:Rat)*y1.den*(x3.den*y3.den))):=by unfold iG;simp only[qFa,qEB,Rat.intCast_natCast,hE,hF];grind
 have hH:((iH x1.num x1.den y1.num y1.den x2.num x2.den y2.num y2.den x3.num x3.den y3.num y3.den:Int):Rat)=((x1-x3)*(x2-x1)+(y1-y3)*(y2-y1))*(((x1.den:Rat)*x1.den*(x2.den*x3.den))*((y1.den:Rat)*y1.den*(y2.den*y3.den))):=by unfold iH;simp only[qFa,qEB,Rat.intCast_natCast,hE,hF,hU,hV];grind
 have hSq:((iSq x1.den y1.den x3.den y3.den:Int):Rat)=((x1.den:Rat)*y1.den*(x3.den*y3.den))*((x1.den:Rat)*y1.den*(x3.den*y3.den)):=by unfold iSq;simp only[qEB,Rat.intCast_natCast]
 refine⟨?_,?_,?_,hN0⟩
 ·unfold iM iA;simp only[qFa,qF2,qEB,Rat.intCast_natCast,hN,hT,hG,hH,hSq,ns1,ns3];have hA:kA ⟨x3,y3,s3⟩ ⟨x1+t*(x2-x1),y1+t*(y2-y1),if neg then y2-y1 else 0-(y2-y1),if neg then 0-(x2-x1) else x2-x1,h⟩=(x1-x3)*(x1-x3)+(y1-y3)*(y1-y3)+2*t*((x1-x3)*(x2-x1)+(y1-y3)*(y2-y1))+s1-s3:=by
   have e1:kA ⟨x3,y3,s3⟩ ⟨x1+t*(x2-x1),y1+t*(y2-y1),if neg then y2-y1 else 0-(y2-y1),if neg then 0-(x2-x1) else x2-x1,h⟩=(x1-x3)*(x1-x3)+(y1-y3)*(y1-y3)+2*t*((x1-x3)*(x2-x1)+(y1-y3)*(y2-y1))+far*(t*t)+far*h-s3:=by
    unfold kA;rw[hfar];cases neg
    ·simp only[qEY,if_false];grind
    ·simp only[if_true];grind
   rw[e1,hh'];grind
  rw[hA];generalize (x1-x3)*(x1-x3)+(y1-y3)*(y1-y3)=e2;generalize (x1-x3)*(x2-x1)+(y1-y3)*(y2-y1)=ed;generalize (x1.den:Rat)=P1;generalize (x2.den:Rat)=P2;generalize (x3.den:Rat)=P3;generalize (y1.den:Rat)=Q1;generalize (y2.den:Rat)=Q2;generalize (y3.den:Rat)=Q3;generalize (s1.den:Rat)=R1;generalize (s2.den:Rat)=R2;generalize (s3.den:Rat)=R3;clear hU hV hE hF hD hN hN0 hT hG hH hSq nx1 nx2 nx3 ny1 ny2 ny3 ns1 ns2 ns3 px1 px2 py1 py2 hf h2f ht' hh' hc hfar;grind
 ·unfold iQ iK kB;simp only[qF2,qEB,Rat.intCast_natCast,hE,hF,hU,hV];cases neg
  ·simp only[qEY,if_false];simp;grind
  ·simp only[if_true];simp;grind
 ·unfold iCd iCn;simp only[qF2,qEB,Rat.intCast_natCast,hN,hT,hD,ns1];generalize ((x1.den:Rat)*x2.den*(y1.den*y2.den))*((x1.den:Rat)*x2.den*(y1.den*y2.den))=D2;generalize (s1.den:Rat)=R1;generalize (s2.den:Rat)=R2;have e:s1=far*h+far*(t*t):=by rw[hh'];grind
  have f4:((4:Int):Rat)=4:=by simp
  rw[f4,e];clear hU hV hE hF hD hN hN0 hT hG hH hSq nx1 nx2 nx3 ny1 ny2 ny3 ns1 ns2 ns3 px1 px2 py1 py2 hf h2f ht' hh' hc hfar;grind
end
end Go.Eng

namespace Go.Eng
theorem qnW{a b c:Rat}(hc:0<=c):qel a b c<=0↔(a<=0/\(b<=0\/c=0\/b*b*c<=a*a))\/(0<a/\b<0/\a*a<=b*b*c):=by
 have hs:=qe3 (a*a-b*b*c);have hs':(0<=sgq (a*a-b*b*c))=(b*b*c<=a*a):=by
  have h1:=qv5 (a*a-b*b*c);have h2:=qe3 (-(a*a-b*b*c));refine propext ⟨fun h=>?_,fun h=>?_⟩
  ·have:=h2▸(show sgq (-(a*a-b*b*c))<=0 by omega);grind
  ·have:sgq (-(a*a-b*b*c))<=0:=h2▸(show -(a*a-b*b*c)<=0 by grind);omega
 have bd:=qxI (a*a-b*b*c);have pb:0<b->0<c->0<b*b*c:=fun h1 h2=>qEP (qEP h1 h1) h2;have pa:0<a->0<a*a:=fun h1=>qEP h1 h1;have za:a=0->a*a=0:=fun h=>by rw[h];grind
 have zc:c=0->b*b*c=0:=fun h=>by rw[h];grind
 unfold qel;generalize hz:sgq (a*a-b*b*c)=z at *;rcases qai a with⟨ha,ea⟩|⟨ha,ea⟩|⟨ha,ea⟩<;>rcases qai b with⟨hb,eb⟩|⟨hb,eb⟩|⟨hb,eb⟩<;>rcases qai c with⟨hc',ec⟩|⟨hc',ec⟩|⟨hc',ec⟩<;>rw[ea,eb,ec]
 all_goals try (exfalso;grind)
 all_goals simp only[
  
  
  show (-1:Int)*0=0 by decide,show (-1:Int)*1=-1 by decide,show (0:Int)*0=0 by decide,show (0:Int)*1=0 by decide,show (1:Int)*0=0 by decide,show (1:Int)*1=1 by decide,qF1]
 all_goals simp
 all_goals first|(exfalso;grind)|skip
 all_goals grind
theorem qnE{a b:Rat}(h0:0<=a)(h:a<=b):a*a<=b*b:=by have:=qEI (show 0<=b-a by grind) (show 0<=b+a by grind);grind
theorem qsZ{a b:Rat}(hb:0<=b)(h:a*a<=b*b):a<=b:=by apply Rat.not_lt.1;intro hn;have:=qEP (show 0<a-b by grind) (show 0<a+b by grind);grind
theorem qu0{a b c T0 T1:Rat}(h0:0<=T0)(h1:T0<=T1)(k0:T0*T0<=c)(k1:c<=T1*T1)(e0:a+b*T0<=0)(e1:a+b*T1<=0):qel a b c<=0:=by
 have hc:0<=c:=by have:=qEI h0 h0;grind
 rw[qnW hc];by_cases hb:b<=0
 ·by_cases ha:a<=0
  ·exact .inl ⟨ha,.inl hb⟩
  ·have hb':b<0:=by
    apply Rat.not_le.1;intro hn;have h:b=0:=by grind
    rw[h] at e0;grind
   refine .inr ⟨by grind,hb',?_⟩;have h1:=qnE (a:=a) (b:=(-b)*T0) (by grind) (by grind);have h2:=Rat.mul_le_mul_of_nonneg_left k0 (show 0<=b*b by have:=qEI (show 0<=-b by grind) (show 0<=-b by grind);grind);grind
 ·have hb':0<=b:=by grind
  have h3:=qEI hb' h0;refine .inl ⟨by grind,.inr (.inr ?_)⟩;have h3:=qEI hb' (show 0<=T1 by grind);have h1:=qnE (a:=b*T1) (b:=-a) h3 (by grind);have h2:=Rat.mul_le_mul_of_nonneg_left k1 (qEI hb' hb');grind
theorem qw9{a b c:Rat}(hc:0<=c)(h:qel a b c<=0):∃T,0<=T/\T*T<=c/\∀S,T<=S->S*S<=c->a+b*S<=0:=by
 rw[qnW hc] at h;by_cases hb:b<0
 ·by_cases ha:a<=0
  ·refine⟨0,by grind,by grind,fun S h1 h2=>?_⟩;have:=qEI (show 0<=-b by grind) h1;grind
  ·rcases h with h|⟨h1,h2,h3⟩
   ·exact absurd h.1 ha
   ·have hq:a/(-b)*(-b)=a:=Rat.div_mul_cancel (by grind);have hq0:0<=a/(-b):=by apply Rat.not_lt.1;intro hn;have:=qEP (show 0 < -(a/(-b)) by grind) (show 0 < -b by grind);grind
    generalize a/(-b)=T at *;refine⟨T,hq0,?_,fun S hS _=>?_⟩
    ·apply Rat.not_lt.1;intro hn;have:=qEP (show 0<T*T-c by grind) (qEP (show 0 < -b by grind) (show 0 < -b by grind));have e:a*a=T*T*(b*b):=by rw[<-hq];grind
     rw[e] at h3;clear e hq;grind
    ·have:=qEI (show 0<=-b by grind) (show 0<=S-T by grind);grind
 ·refine⟨0,by grind,by grind,fun S h1 h2=>?_⟩;rcases h with⟨h3,h4⟩|⟨_,h5,_⟩
  ·rcases h4 with h4|h4|h4
   ·have:b=0:=by grind
    rw[this];grind
   ·have:S*S<=0:=by grind
    have h6:=qsZ (a:=S) (b:=0) (by grind) (by grind);have:S=0:=by grind
    rw[this];grind
   ·have k1:=Rat.mul_le_mul_of_nonneg_left h2 (qEI (show 0<=b by grind) (show 0<=b by grind));have:=qsZ (a:=b*S) (b:=-a) (by grind) (by grind);grind
  ·exact absurd h5 hb
def pw(d:DQ)(x y:Rat):Rat:=(x-d.x)*(x-d.x)+(y-d.y)*(y-d.y)-d.s
def qxW(l:List DQ):Prop:=∃x y:Rat,∀d∈l,pw d x y<=0
theorem qxW.mono{l l':List DQ}(h:qxW l)(hs:∀d∈l',d∈l):qxW l':=by obtain⟨x,y,h⟩:=h;exact⟨x,y,fun d hd=>h d (hs d hd)⟩
theorem qw5(d:DQ)(p:SQ)(T:Rat):pw d (p.fx+T*p.ax) (p.fy+T*p.ay)=kA d p+kB d p*T+(p.ax*p.ax+p.ay*p.ay)*(T*T-p.h):=by unfold pw kA kB;grind
theorem qjj(a:Rat):0<=a*a:=by
 rcases Rat.le_total (a:=0) (b:=a) with h|h
 ·exact qEI h h
 ·have:=qEI (show 0<=-a by grind) (show 0<=-a by grind);grind
theorem qmv(p:SQ)(hn:0<=p.h):∀l:List DQ,(∀d∈l,q0x d p)->∃T,0<=T/\T*T<=p.h/\∀d∈l,∀S,T<=S->S*S<=p.h->kA d p+kB d p*S<=0
 | [],_=>⟨0,by grind,by grind,fun d hd=>by cases hd⟩
 | a::l,h=>by
  obtain⟨T,h1,h2,h3⟩:=qmv p hn l fun d hd=>h d (qEE _ hd);obtain⟨T',k1,k2,k3⟩:=qw9 hn (h a qEz);rcases Rat.le_total (a:=T) (b:=T') with hT|hT
  ·refine⟨T',k1,k2,fun d hd S hS hS2=>?_⟩;rcases qEt.1 hd with rfl|hd
   ·exact k3 S hS hS2
   ·exact h3 d hd S (Rat.le_trans hT hS) hS2
  ·refine⟨T,h1,h2,fun d hd S hS hS2=>?_⟩;rcases qEt.1 hd with rfl|hd
   ·exact k3 S (Rat.le_trans hT hS) hS2
   ·exact h3 d hd S hS hS2
theorem qod{l:List DQ}{p:SQ}(hn:0<=p.h)(h:∀d∈l,q0x d p):qxW l:=by obtain⟨T,h1,h2,h3⟩:=qmv p hn l h;refine⟨p.fx+T*p.ax,p.fy+T*p.ay,fun d hd=>?_⟩;rw[qw5];have k1:=h3 d hd T (qFw) h2;have k2:=qEI (show 0<=p.ax*p.ax+p.ay*p.ay by have:=qjj p.ax;have:=qjj p.ay;grind) (show 0<=p.h-T*T by grind);grind
def qDv(x1 y1 x2 y2 x3 y3:Rat):Rat:=(x2-x1)*(y3-y1)-(x3-x1)*(y2-y1)
theorem qq0{ι:Type}(f:ι->Rat):∀(L:List ι),L≠[]->∃a∈L,∀k∈L,f k<=f a
 | [],h=>absurd rfl h
 | [a],_=>⟨a,by simp,fun k hk=>by simp at hk;rw[hk];exact qFw⟩
 | a::b::r,_=>by
  obtain⟨m,hm,h⟩:=qq0 f (b::r) (by simp);rcases Rat.le_total (a:=f a) (b:=f m) with hle|hle
  ·refine⟨m,qEE _ hm,fun k hk=>?_⟩;rcases qEt.1 hk with rfl|hk
   ·exact hle
   ·exact h k hk
  ·refine⟨a,qEz,fun k hk=>?_⟩;rcases qEt.1 hk with rfl|hk
   ·exact qFw
   ·exact Rat.le_trans (h k hk) hle
theorem hit{ι:Type}(al be:ι->Rat):∀(L:List ι),(∀k∈L,al k<=0)->(∃k∈L,0<be k)->∃t,0<=t/\(∀k∈L,al k+be k*t<=0)/\∃b∈L,0<be b/\al b+be b*t=0
 | [],_,h=>by obtain⟨k,hk,_⟩:=h;cases hk
 | a::L,h0,h1=>by
  have hLn:∀k∈L,al k<=0:=fun k hk=>h0 k (qEE _ hk);have ha0:=h0 a qEz;by_cases ha:0<be a
  ·obtain⟨ta,hta⟩:∃ta,ta=-al a/be a:=⟨_,rfl⟩;have eta:ta*be a=-al a:=by rw[hta];exact Rat.div_mul_cancel (by grind)
   have ta0:0<=ta:=by apply Rat.not_lt.1;intro hn;have:=qEP (show 0 < -ta by grind) ha;grind
   have own:al a+be a*ta=0:=by grind
   by_cases hL:∃k∈L,0<be k
   ·obtain⟨t,k1,k2,b,hb,k3,k4⟩:=hit al be L hLn hL;rcases Rat.le_total (a:=t) (b:=ta) with hle|hle
    ·refine⟨t,k1,fun k hk=>?_,b,qEE _ hb,k3,k4⟩;rcases qEt.1 hk with rfl|hk
     ·have:=qEI (show 0<=be k by grind) (show 0<=ta-t by grind);grind
     ·exact k2 k hk
    ·refine⟨ta,ta0,fun k hk=>?_,a,qEz,ha,own⟩;rcases qEt.1 hk with rfl|hk
     ·grind
     ·rcases Rat.le_total (a:=0) (b:=be k) with hb|hb
      ·have:=qEI hb (show 0<=t-ta by grind);have:=k2 k hk;grind
      ·have:=qEI (show 0<=-be k by grind) ta0;have:=hLn k hk;grind
   ·refine⟨ta,ta0,fun k hk=>?_,a,qEz,ha,own⟩;rcases qEt.1 hk with rfl|hk
    ·grind
    ·have hb:be k<=0:=Rat.not_lt.1 fun hn=>hL ⟨k,hk,hn⟩;have:=qEI (show 0<=-be k by grind) ta0;have:=hLn k hk;grind
  ·have hL:∃k∈L,0<be k:=by
    obtain⟨k,hk,h⟩:=h1;rcases qEt.1 hk with rfl|hk
    ·exact absurd h ha
    ·exact⟨k,hk,h⟩
   obtain⟨t,k1,k2,b,hb,k3,k4⟩:=hit al be L hLn hL;refine⟨t,k1,fun k hk=>?_,b,qEE _ hb,k3,k4⟩;rcases qEt.1 hk with rfl|hk
   ·have:=qEI (show 0<=-be k by grind) k1;grind
   ·exact k2 k hk
theorem qo9{a:Rat}(h:a*a<=0):a=0:=by have:=qjj a;rcases qFn.1 (show a*a=0 by grind) with h|h<;>exact h
theorem qjE{a b c d:Rat}(h:kX a b c d=0):a=c/\b=d:=by unfold kX at h;have s1:=qjj (a-c);have s2:=qjj (b-d);have:=qo9 (a:=a-c) (by grind);have:=qo9 (a:=b-d) (by grind);exact⟨by grind,by grind⟩
theorem qwV(a b c d:Rat):0<=kX a b c d:=by unfold kX;have s1:=qjj (a-c);have s2:=qjj (b-d);grind
theorem qBt{l:List DQ}{x y:Rat}(hl:l≠[])(hs:∀d∈l,0<=d.s)(h:∀d∈l,pw d x y<=0) :(∃a∈l,∀d∈l,pw d a.x a.y<=0)\/∃a∈l,∃b∈l,∃X Y,kX b.x b.y a.x a.y≠0/\pw b X Y=pw a X Y/\(∀d∈l,pw d X Y<=pw a X Y)/\pw a X Y<=0:=by
 obtain⟨a,ha,hmax⟩:=qq0 (fun d=>pw d x y) l hl;by_cases hc:∀d∈l,pw d a.x a.y<=0
 ·exact .inl ⟨a,ha,hc⟩
 ·have hex:∃k∈l,0<pw k a.x a.y:=by
   by_cases hn:∃k∈l,0<pw k a.x a.y
   ·exact hn
   ·exact absurd (fun d hd=>Rat.not_lt.1 fun h0=>hn ⟨d,hd,h0⟩) hc
  obtain⟨k0,hk0,hp⟩:=hex;have hsa:=hs a ha;have paa:pw a a.x a.y=-a.s:=by unfold pw;grind
  obtain⟨al,hal⟩:∃al:DQ->Rat,al=fun k=>pw k x y-pw a x y:=⟨_,rfl⟩;obtain⟨be,hbe⟩:∃be:DQ->Rat,be=fun k=>pw k a.x a.y-pw a a.x a.y-(pw k x y-pw a x y):=⟨_,rfl⟩;have al0:∀k∈l,al k<=0:=fun k hk=>by rw[hal];have:=hmax k hk;simp only at this ⊢;grind
  have be0:al k0+be k0>0:=by rw[hal,hbe];simp only;grind
  obtain⟨t,t0,ht,b,hb,hb1,hb2⟩:=hit al be l al0 ⟨k0,hk0,by have:=al0 k0 hk0;grind⟩;have line:∀k,pw k (x+t*(a.x-x)) (y+t*(a.y-y))-pw a (x+t*(a.x-x)) (y+t*(a.y-y))=al k+be k*t:=fun k=>by rw[hal,hbe];simp only;unfold pw;grind
  have t1:t<=1:=by apply Rat.not_lt.1;intro hn;have h1:=ht k0 hk0;have h2:=al0 k0 hk0;have:=qEP (show 0<be k0 by grind) (show 0<t-1 by grind);grind
  refine .inr ⟨a,ha,b,hb,x+t*(a.x-x),y+t*(a.y-y),fun hf=>?_,?_,fun d hd=>?_,?_⟩
  ·obtain⟨e1,e2⟩:=qjE hf;have:be b=0:=by rw[hbe];simp only;unfold pw;rw[e1,e2];grind
   grind
  ·have:=line b;grind
  ·have:=line d;have:=ht d hd;grind
  ·have h1:=h a ha;have e:pw a (x+t*(a.x-x)) (y+t*(a.y-y))=(1-t)*(1-t)*((x-a.x)*(x-a.x)+(y-a.y)*(y-a.y))-a.s:=by unfold pw;grind
   have q:0<=(x-a.x)*(x-a.x)+(y-a.y)*(y-a.y):=by have:=qjj (x-a.x);have:=qjj (y-a.y);grind
   have m:=qnE (a:=1-t) (b:=1) (by grind) (by grind);have:=qEI (show 0<=1-(1-t)*(1-t) by grind) q;rw[e];have:pw a x y=(x-a.x)*(x-a.x)+(y-a.y)*(y-a.y)-a.s:=rfl;grind
theorem qkT{a b:DQ}(neg:Bool)(hf:kX b.x b.y a.x a.y≠0) :(ql a b neg).ax*(ql a b neg).ax+(ql a b neg).ay*(ql a b neg).ay=kX b.x b.y a.x a.y /\(ql a b neg).ax*(b.x-a.x)+(ql a b neg).ay*(b.y-a.y)=0 /\(ql a b neg).ax*((ql a b neg).fx-a.x)+(ql a b neg).ay*((ql a b neg).fy-a.y)=0 /\2*(((ql a b neg).fx-a.x)*(b.x-a.x)+((ql a b neg).fy-a.y)*(b.y-a.y))=kX b.x b.y a.x a.y+a.s-b.s /\kA a (ql a b neg)=0/\kB a (ql a b neg)=0/\kA b (ql a b neg)=0/\kB b (ql a b neg)=0:=by
 obtain⟨far,hfar⟩:∃far,far=kX b.x b.y a.x a.y:=⟨_,rfl⟩;obtain⟨t,ht⟩:∃t,t=(far+a.s-b.s)/(2*far):=⟨_,rfl⟩;obtain⟨h,hh⟩:∃h,h=a.s/far-t*t:=⟨_,rfl⟩;rw[<-hfar] at hf;have h2f:2*far≠0:=by grind
 have ht':2*far*t=far+a.s-b.s:=by rw[ht,Rat.mul_comm];exact Rat.div_mul_cancel h2f
 have hh':far*h=a.s-far*(t*t):=by have:a.s/far*far=a.s:=Rat.div_mul_cancel hf;rw[hh];grind
 have hc:ql a b neg=⟨a.x+t*(b.x-a.x),a.y+t*(b.y-a.y),if neg then b.y-a.y else 0-(b.y-a.y),if neg then 0-(b.x-a.x) else b.x-a.x,h⟩:=by rw[hh,ht,hfar];rfl
 have hfar':far=(b.x-a.x)*(b.x-a.x)+(b.y-a.y)*(b.y-a.y):=hfar;rw[hc,<-hfar];unfold kA kB;clear hc hfar ht hh;cases neg
 ·simp only[qEY,if_false];refine⟨by grind,by grind,by grind,by grind,by grind,by grind,by grind,by grind⟩
 ·simp only[if_true];refine⟨by grind,by grind,by grind,by grind,by grind,by grind,by grind,by grind⟩
theorem qug(a b:DQ):(ql a b true).ax=-(ql a b false).ax/\(ql a b true).ay=-(ql a b false).ay:=by unfold ql;simp only[qEY,if_false,if_true];exact⟨by grind,by grind⟩
theorem qpO{l:List DQ}{a b:DQ}{x y:Rat}(neg:Bool)(hf:kX b.x b.y a.x a.y≠0)(hab:pw b x y=pw a x y)(hm:∀d∈l,pw d x y<=pw a x y)(h0:pw a x y<=0)(hv:0<=(ql a b neg).ax*(x-a.x)+(ql a b neg).ay*(y-a.y)) :(0<=(ql a b neg).h/\∀d∈l,q0x d (ql a b neg)) \/∃t k,0<=t/\k∈l/\(ql a b neg).ax*(k.x-a.x)+(ql a b neg).ay*(k.y-a.y)<0/\pw k (x+t*(ql a b neg).ax) (y+t*(ql a b neg).ay)=pw a (x+t*(ql a b neg).ax) (y+t*(ql a b neg).ay) /\pw b (x+t*(ql a b neg).ax) (y+t*(ql a b neg).ay)=pw a (x+t*(ql a b neg).ax) (y+t*(ql a b neg).ay)/\(∀d∈l,pw d (x+t*(ql a b neg).ax) (y+t*(ql a b neg).ay)<=pw a (x+t*(ql a b neg).ax) (y+t*(ql a b neg).ay)) /\pw a (x+t*(ql a b neg).ax) (y+t*(ql a b neg).ay)<=0:=by
 obtain⟨f1,f2,f3,f4,f5,f6,f7,f8⟩:=qkT neg hf;have hpos:0<kX b.x b.y a.x a.y:=by have:=qwV b.x b.y a.x a.y;grind
 have hfd:kX b.x b.y a.x a.y=(b.x-a.x)*(b.x-a.x)+(b.y-a.y)*(b.y-a.y):=rfl;have hax:(ql a b neg).ax=if neg then b.y-a.y else 0-(b.y-a.y):=rfl
 have hay:(ql a b neg).ay=if neg then 0-(b.x-a.x) else b.x-a.x:=rfl
 generalize ql a b neg=p at *;generalize kX b.x b.y a.x a.y=far at *;obtain⟨T0,hT0⟩:∃T0,T0=(p.ax*(x-p.fx)+p.ay*(y-p.fy))/far:=⟨_,rfl⟩;have eT0:T0*far=p.ax*(x-p.fx)+p.ay*(y-p.fy):=by rw[hT0];exact Rat.div_mul_cancel hf
 have hp:(x-p.fx)*(b.x-a.x)+(y-p.fy)*(b.y-a.y)=0:=by unfold pw at hab;grind
 have cancel:∀z:Rat,z*far=0->z=0:=fun z hz=>by
  rcases qFn.1 hz with h|h
  ·exact h
  ·exact absurd h hf
 have ex:x=p.fx+T0*p.ax:=by
  have:x-p.fx-T0*p.ax=0:=cancel _ (by
   have e:(x-p.fx-T0*p.ax)*far=(x-p.fx)*far-p.ax*(T0*far):=by grind
   rw[e,eT0,hfd];cases neg
   ·simp only[qEY,if_false] at hax hay;rw[hax,hay];clear hax hay eT0 hT0 f1 f2 f3 f4 f5 f6 f7 f8 hv hab;grind
   ·simp only[if_true] at hax hay;rw[hax,hay];clear hax hay eT0 hT0 f1 f2 f3 f4 f5 f6 f7 f8 hv hab;grind)
  grind
 have ey:y=p.fy+T0*p.ay:=by
  have:y-p.fy-T0*p.ay=0:=cancel _ (by
   have e:(y-p.fy-T0*p.ay)*far=(y-p.fy)*far-p.ay*(T0*far):=by grind
   rw[e,eT0,hfd];cases neg
   ·simp only[qEY,if_false] at hax hay;rw[hax,hay];clear hax hay eT0 hT0 f1 f2 f3 f4 f5 f6 f7 f8 hv hab ex;grind
   ·simp only[if_true] at hax hay;rw[hax,hay];clear hax hay eT0 hT0 f1 f2 f3 f4 f5 f6 f7 f8 hv hab ex;grind)
  grind
 have T0n:0<=T0:=by apply Rat.not_lt.1;intro hn;have:=qEP (show 0 < -T0 by grind) hpos;grind
 have line:∀d T,pw d (p.fx+T*p.ax) (p.fy+T*p.ay)=kA d p+kB d p*T+far*(T*T-p.h):=fun d T=>by rw[qw5,f1]
 have lineA:∀T,pw a (p.fx+T*p.ax) (p.fy+T*p.ay)=far*(T*T-p.h):=fun T=>by rw[line,f5,f6];grind
 have lineB:∀T,pw b (p.fx+T*p.ax) (p.fy+T*p.ay)=far*(T*T-p.h):=fun T=>by rw[line,f7,f8];grind
 have at0:∀d∈l,kA d p+kB d p*T0<=0:=fun d hd=>by have:=hm d hd;rw[ex,ey,line,lineA] at this;grind
 have hT:T0*T0<=p.h:=by rw[ex,ey,lineA] at h0;apply Rat.not_lt.1;intro hn;have:=qEP hpos (show 0<T0*T0-p.h by grind);grind
 have hn:0<=p.h:=by have:=qjj T0;grind
 have kb:∀d:DQ,kB d p=-(2*(p.ax*(d.x-a.x)+p.ay*(d.y-a.y))):=fun d=>by unfold kB;grind
 have all:∀T1,T0<=T1->p.h<=T1*T1->(∀d∈l,kA d p+kB d p*T1<=0)->0<=p.h/\∀d∈l,q0x d p:=fun T1 h1 h2 h3=>
  ⟨hn,fun d hd=>qu0 T0n h1 hT h2 (at0 d hd) (h3 d hd)⟩
 by_cases hk:∃k∈l,0<kB k p
 ·obtain⟨t,t0,ht,k,hk,hk1,hk2⟩:=hit (fun d=>kA d p+kB d p*T0) (fun d=>kB d p) l at0 hk;by_cases hle:(T0+t)*(T0+t)<=p.h
  ·have eX:x+t*p.ax=p.fx+(T0+t)*p.ax:=by grind
   have eY:y+t*p.ay=p.fy+(T0+t)*p.ay:=by grind
   refine .inr ⟨t,k,t0,hk,?_,?_,?_,fun d hd=>?_,?_⟩
   ·rw[kb] at hk1;grind
   ·rw[eX,eY,line,lineA];grind
   ·rw[eX,eY,lineA,lineB]
   ·rw[eX,eY,line,lineA];have:=ht d hd;grind
   ·rw[eX,eY,lineA];have:=qEI (show 0<=far by grind) (show 0<=p.h-(T0+t)*(T0+t) by grind);grind
  ·exact .inl (all (T0+t) (by grind) (by grind) fun d hd=>by have:=ht d hd;grind)
 ·refine .inl (all (T0+p.h+1) (by grind) ?_ fun d hd=>?_)
  ·have:=qnE (a:=p.h+1) (b:=T0+p.h+1) (by grind) (by grind);have:=qEI hn hn;grind
  ·have h1:kB d p<=0:=Rat.not_lt.1 fun h=>hk ⟨d,hd,h⟩;have:=qEI (show 0<=-kB d p by grind) (show 0<=p.h+1 by grind);have:=at0 d hd;grind
def Vx(l:List DQ)(x y:Rat)(t:DQ×DQ×DQ):Prop:=qDv t.1.x t.1.y t.2.1.x t.2.1.y t.2.2.x t.2.2.y≠0/\pw t.2.1 x y=pw t.1 x y/\pw t.2.2 x y=pw t.1 x y/\(∀d∈l,pw d x y<=pw t.1 x y)/\pw t.1 x y<=0
theorem qAF{l:List DQ}{x y x' y':Rat}{t:DQ×DQ×DQ}(h:Vx l x y t)(h':Vx l x' y' t):x=x'/\y=y':=by
 obtain⟨a,b,c⟩:=t;obtain⟨hA,h1,h2,-,-⟩:=h;obtain⟨-,h1',h2',-,-⟩:=h';unfold pw qDv at *;simp only at *;have e1:(x-x')*(b.x-a.x)+(y-y')*(b.y-a.y)=0:=by grind
 have e2:(x-x')*(c.x-a.x)+(y-y')*(c.y-a.y)=0:=by grind
 generalize b.x-a.x=p at *;generalize b.y-a.y=q at *;generalize c.x-a.x=r at *;generalize c.y-a.y=s at *;have k1:(x-x')*(p*s-r*q)=0:=by clear h1 h2 h1' h2' hA;grind
 have k2:(y-y')*(p*s-r*q)=0:=by clear h1 h2 h1' h2' hA;grind
 constructor
 ·rcases qFn.1 k1 with h|h
  ·grind
  ·exact absurd h hA
 ·rcases qFn.1 k2 with h|h
  ·grind
  ·exact absurd h hA
theorem qxE(l:List DQ):∀L:List (DQ×DQ×DQ),(∃t∈L,∃x y,Vx l x y t)->∃t∈L,∃x y,Vx l x y t/\∀t'∈L,∀x' y',Vx l x' y' t'->pw t'.1 x' y'<=pw t.1 x y
 | [],h=>by obtain⟨t,ht,_⟩:=h;cases ht
 | s::L,h=>by
  by_cases hs:∃x y,Vx l x y s
  ·obtain⟨x,y,hs⟩:=hs;have own:∀x' y',Vx l x' y' s->pw s.1 x' y'<=pw s.1 x y:=fun x' y' h'=>by obtain⟨rfl,rfl⟩:=qAF h' hs;exact qFw
   by_cases hL:∃t∈L,∃x y,Vx l x y t
   ·obtain⟨t,ht,u,v,hv,hmax⟩:=qxE l L hL;rcases Rat.le_total (a:=pw s.1 x y) (b:=pw t.1 u v) with hle|hle
    ·refine⟨t,qEE _ ht,u,v,hv,fun t' ht' x' y' h'=>?_⟩;rcases qEt.1 ht' with rfl|ht'
     ·exact Rat.le_trans (own x' y' h') hle
     ·exact hmax t' ht' x' y' h'
    ·refine⟨s,qEz,x,y,hs,fun t' ht' x' y' h'=>?_⟩;rcases qEt.1 ht' with rfl|ht'
     ·exact own x' y' h'
     ·exact Rat.le_trans (hmax t' ht' x' y' h') hle
   ·refine⟨s,qEz,x,y,hs,fun t' ht' x' y' h'=>?_⟩;rcases qEt.1 ht' with rfl|ht'
    ·exact own x' y' h'
    ·exact absurd ⟨t',ht',x',y',h'⟩ hL
  ·have hL:∃t∈L,∃x y,Vx l x y t:=by
    obtain⟨t,ht,h⟩:=h;rcases qEt.1 ht with rfl|ht
    ·exact absurd h hs
    ·exact⟨t,ht,h⟩
   obtain⟨t,ht,u,v,hv,hmax⟩:=qxE l L hL;refine⟨t,qEE _ ht,u,v,hv,fun t' ht' x' y' h'=>?_⟩;rcases qEt.1 ht' with rfl|ht'
   ·exact absurd ⟨x',y',h'⟩ hs
   ·exact hmax t' ht' x' y' h'
theorem qw7{l:List DQ}{x y:Rat}{t:DQ×DQ×DQ}(ht:t.1∈l/\t.2.1∈l/\t.2.2∈l)(hv:Vx l x y t) :∃a∈l,∃b∈l,∃neg,kX b.x b.y a.x a.y≠0/\pw a x y=pw t.1 x y/\pw b x y=pw a x y/\0<=(ql a b neg).ax*(x-a.x)+(ql a b neg).ay*(y-a.y) /\∀k∈l,pw k x y=pw a x y->0<=(ql a b neg).ax*(k.x-a.x)+(ql a b neg).ay*(k.y-a.y):=by
 obtain⟨a0,b0,c0⟩:=t;obtain⟨hA,h1,h2,h3,h4⟩:=hv;simp only at *;obtain⟨I,hI⟩:∃I,I=l.filter fun k=>decide (pw k x y=pw a0 x y):=⟨_,rfl⟩;have memI:∀k,k∈I↔k∈l/\pw k x y=pw a0 x y:=fun k=>by rw[hI];simp
 have ia:a0∈I:=(memI _).2 ⟨ht.1,rfl⟩;have ib:b0∈I:=(memI _).2 ⟨ht.2.1,h1⟩;have ic:c0∈I:=(memI _).2 ⟨ht.2.2,h2⟩;obtain⟨a,haI,hmax⟩:=qq0 (fun k:DQ=>kX k.x k.y x y) I (by intro h;rw[h] at ia;cases ia);obtain⟨hal,hap⟩:=(memI a).1 haI;obtain⟨D,hD⟩:∃D:DQ->Rat,D=fun k=>(x-a.x)*(k.x-a.x)+(y-a.y)*(k.y-a.y):=⟨_,rfl⟩;obtain⟨X,hX⟩:∃X:DQ->Rat,X=fun k=>(x-a.x)*(k.y-a.y)-(y-a.y)*(k.x-a.x):=⟨_,rfl⟩;obtain⟨J,hJ⟩:∃J,J=I.filter fun k=>decide (kX k.x k.y a.x a.y≠0):=⟨_,rfl⟩;have memJ:∀k,k∈J↔k∈I/\kX k.x k.y a.x a.y≠0:=fun k=>by rw[hJ];simp
 have hDp:∀k∈J,0<D k:=fun k hk=>by obtain⟨hk1,hk2⟩:=(memJ k).1 hk;have e1:=hmax k hk1;have e2:=qwV k.x k.y a.x a.y;rw[hD];simp only at e1 ⊢;unfold kX at e1 e2 hk2;grind
 have hJn:J≠[]:=by
  intro hJ0;have all:∀k∈I,k.x=a.x/\k.y=a.y:=fun k hk=>by
   by_cases hz:kX k.x k.y a.x a.y=0
   ·exact qjE hz
   ·have:=(memJ k).2 ⟨hk,hz⟩;rw[hJ0] at this;cases this
  obtain⟨p1,q1⟩:=all a0 ia;obtain⟨p2,q2⟩:=all b0 ib;obtain⟨p3,q3⟩:=all c0 ic;apply hA;unfold qDv;rw[p1,p2,p3,q1,q2,q3];grind
 have slope:∀k b:DQ,0<D k->0<D b->X k/D k<=X b/D b->X k*D b<=X b*D k:=fun k b k0 b0 h=>by have e1:X k/D k*D k=X k:=Rat.div_mul_cancel (by grind);have e2:X b/D b*D b=X b:=Rat.div_mul_cancel (by grind);generalize X k/D k=u at *;generalize X b/D b=v at *;have:=qEI (show 0<=v-u by grind) (qEI (show 0<=D k by grind) (show 0<=D b by grind));rw[<-e1,<-e2];grind
 have lag:∀k b:DQ,((x-a.x)*(x-a.x)+(y-a.y)*(y-a.y))*((k.x-a.x)*(b.y-a.y)-(k.y-a.y)*(b.x-a.x))=D k*X b-X k*D b:=fun k b=>by rw[hD,hX];simp only;grind
 have upos:∀b,0<D b->0<(x-a.x)*(x-a.x)+(y-a.y)*(y-a.y):=fun b hb=>by apply Rat.not_le.1;intro hn;have s1:=qjj (x-a.x);have s2:=qjj (y-a.y);have z1:=qo9 (a:=x-a.x) (by grind);have z2:=qo9 (a:=y-a.y) (by grind);rw[hD] at hb;simp only at hb;rw[z1,z2] at hb;grind
 obtain⟨b,hb,hbm⟩:=qq0 (fun k=>X k/D k) J hJn;have hbD:=hDp b hb;obtain⟨hbI,hbf⟩:=(memJ b).1 hb;obtain⟨hbl,hbp⟩:=(memI b).1 hbI;have onI:∀k∈l,pw k x y=pw a x y->k∈I:=fun k hk e=>(memI k).2 ⟨hk,by rw[e,hap]⟩;by_cases hXb:0<=X b
 ·refine⟨a,hal,b,hbl,true,hbf,hap,by rw[hbp,hap],?_,fun k hk hkp=>?_⟩
  ·have e:(ql a b true).ax*(x-a.x)+(ql a b true).ay*(y-a.y)=X b:=by rw[hX];unfold ql;simp only[if_true];grind
   rw[e];exact hXb
  ·have e:(ql a b true).ax*(k.x-a.x)+(ql a b true).ay*(k.y-a.y)=(k.x-a.x)*(b.y-a.y)-(k.y-a.y)*(b.x-a.x):=by unfold ql;simp only[if_true];grind
   rw[e];by_cases hz:kX k.x k.y a.x a.y=0
   ·obtain⟨z1,z2⟩:=qjE hz;rw[z1,z2];grind
   ·have hkJ:=(memJ k).2 ⟨onI k hk hkp,hz⟩;have s:=slope k b (hDp k hkJ) hbD (hbm k hkJ);have g:=lag k b;apply Rat.not_lt.1;intro hn;have:=qEP (upos b hbD) (show 0 < -((k.x-a.x)*(b.y-a.y)-(k.y-a.y)*(b.x-a.x)) by grind);grind
 ·obtain⟨c,hc,hcm⟩:=qq0 (fun k=>-(X k/D k)) J hJn;have hcD:=hDp c hc;obtain⟨hcI,hcf⟩:=(memJ c).1 hc;obtain⟨hcl,hcp⟩:=(memI c).1 hcI;have hXc:X c<0:=by have s:=slope c b hcD hbD (hbm c hc);apply Rat.not_le.1;intro hn;have m1:=qEI hn (show 0<=D b by grind);have m2:=qEP (show 0 < -X b by grind) hcD;grind
  refine⟨a,hal,c,hcl,false,hcf,hap,by rw[hcp,hap],?_,fun k hk hkp=>?_⟩
  ·have e:(ql a c false).ax*(x-a.x)+(ql a c false).ay*(y-a.y)=-X c:=by rw[hX];unfold ql;simp only[qEY,if_false];grind
   rw[e];grind
  ·have e:(ql a c false).ax*(k.x-a.x)+(ql a c false).ay*(k.y-a.y)=-((k.x-a.x)*(c.y-a.y)-(k.y-a.y)*(c.x-a.x)):=by unfold ql;simp only[qEY,if_false];grind
   rw[e];by_cases hz:kX k.x k.y a.x a.y=0
   ·obtain⟨z1,z2⟩:=qjE hz;rw[z1,z2];grind
   ·have hkJ:=(memJ k).2 ⟨onI k hk hkp,hz⟩;have hle:=hcm k hkJ;have s:=slope c k hcD (hDp k hkJ) (by grind);have g:=lag k c;apply Rat.not_lt.1;intro hn;have:=qEP (upos c hcD) (show 0<(k.x-a.x)*(c.y-a.y)-(k.y-a.y)*(c.x-a.x) by grind);grind
theorem qyD{l:List DQ}(hl:l≠[])(hs:∀d∈l,0<=d.s)(hm:qxW l) :(∃a∈l,∀d∈l,pw d a.x a.y<=0)\/∃a∈l,∃b∈l,∃neg,kX b.x b.y a.x a.y≠0/\0<=(ql a b neg).h/\∀d∈l,q0x d (ql a b neg):=by
 obtain⟨x,y,hxy⟩:=hm;rcases qBt hl hs hxy with h|⟨a,ha,b,hb,X,Y,hf,hab,hmx,h0⟩
 ·exact .inl h
 ·right;have vtx:∀{a b k:DQ} {neg:Bool} {X Y:Rat},(ql a b neg).ax*(k.x-a.x)+(ql a b neg).ay*(k.y-a.y)<0->pw k X Y=pw a X Y->pw b X Y=pw a X Y->(∀d∈l,pw d X Y<=pw a X Y)->pw a X Y<=0->Vx l X Y (a,b,k):=by
   intro a b k neg X Y h1 h2 h3 h4 h5;refine⟨fun hA=>?_,h3,h2,h4,h5⟩;unfold qDv at hA;simp only at hA;unfold ql at h1;cases neg
   ·simp only[qEY,if_false] at h1;grind
   ·simp only[if_true] at h1;grind
  have hneg:∃neg,0<=(ql a b neg).ax*(X-a.x)+(ql a b neg).ay*(Y-a.y):=by
   obtain⟨e1,e2⟩:=qug a b;rcases Rat.le_total (a:=0) (b:=(ql a b false).ax*(X-a.x)+(ql a b false).ay*(Y-a.y)) with h|h
   ·exact⟨false,h⟩
   ·exact⟨true,by rw[e1,e2];grind⟩
  obtain⟨neg,hv⟩:=hneg;rcases qpO neg hf hab hmx h0 hv with⟨h1,h2⟩|⟨t,k,t0,hk,k1,k2,k3,k4,k5⟩
  ·exact⟨a,ha,b,hb,neg,hf,h1,h2⟩
  ·obtain⟨L,hL⟩:∃L,L=l.flatMap fun a=>l.flatMap fun b=>l.map fun c=>(a,b,c):=⟨_,rfl⟩;have memL:∀t:DQ×DQ×DQ,t∈L↔t.1∈l/\t.2.1∈l/\t.2.2∈l:=fun t=>by obtain⟨a,b,c⟩:=t;rw[hL];simp only[qGj,qF9,qEW];exact⟨fun⟨a',h1,b',h2,c',h3,e1,e2,e3⟩=>⟨e1▸h1,e2▸h2,e3▸h3⟩,fun⟨h1,h2,h3⟩=>⟨a,h1,b,h2,c,h3,rfl,rfl,rfl⟩⟩
   obtain⟨s,hs,u,v,hV,hmax⟩:=qxE l L ⟨(a,b,k),(memL _).2 ⟨ha,hb,hk⟩,_,_,vtx k1 k2 k3 k4 k5⟩;obtain⟨a',ha',b',hb',neg',hf',hp',hab',hv',hact⟩:=qw7 ((memL s).1 hs) hV;rcases qpO neg' hf' hab' (fun d hd=>by rw[hp'];exact hV.2.2.2.1 d hd) (by rw[hp'];exact hV.2.2.2.2) hv' with⟨h1,h2⟩|⟨t,k,t0,hk,k1,k2,k3,k4,k5⟩
   ·exact⟨a',ha',b',hb',neg',hf',h1,h2⟩
   ·exfalso;have hm':=hmax (a',b',k) ((memL _).2 ⟨ha',hb',hk⟩) _ _ (vtx k1 k2 k3 k4 k5);simp only at hm';rw[<-hp'] at hm';obtain⟨f1,-⟩:=qkT neg' hf';have hpos:0<kX b'.x b'.y a'.x a'.y:=by have:=qwV b'.x b'.y a'.x a'.y;grind
    generalize ql a' b' neg'=p at *;have t1:0<t:=by
     apply Rat.not_le.1;intro hn;have:t=0:=by grind
     rw[this] at k2;have e1:u+0*p.ax=u:=by grind
     have e2:v+0*p.ay=v:=by grind
     rw[e1,e2] at k2;have:=hact k hk k2;grind
    have e:pw a' (u+t*p.ax) (v+t*p.ay)=pw a' u v+2*(t*(p.ax*(u-a'.x)+p.ay*(v-a'.y)))+t*t*(p.ax*p.ax+p.ay*p.ay):=by unfold pw;grind
    rw[e,f1] at hm';have m1:=qEI t0 hv';have m2:=qEP (qEP t1 t1) hpos;grind
variable {q:Rat}
def cls(q:Rat):Prop:=qn q<=5/\qd q<=1
def qDs(q:Rat):Prop:=qn q<=17/\qd q<=13
structure GD (d:DQ):Prop where
 x:cls d.x
 y:cls d.y
 s:qDs d.s
 nn:0<=d.s
theorem Bd.of_nl {m:Int}{k:Nat}(h:nl m<=k):Bd 1 k m:=by unfold Bd;have:=qCn h;omega
theorem Bd.of_le {C e:Nat}{x y:Int}(h:Bd C e y)(hxy:x.natAbs<=y.natAbs):Bd C e x:=qEr hxy h
theorem qn7 (h:cls q):∃u v,WtD u v q/\u=5/\v=1:=⟨5,1,⟨Bd.of_nl h.1,Bd.of_nl (m:=(q.den:Int)) h.2,(Bd.of_nl (m:=(q.den:Int)) h.2).mono (by omega) (by omega)⟩,rfl,rfl⟩
theorem qqH (h:qDs q):∃u v,WtD u v q/\u=17/\v=13:=⟨17,13,⟨Bd.of_nl h.1,Bd.of_nl (m:=(q.den:Int)) h.2,(Bd.of_nl (m:=(q.den:Int)) h.2).mono (by omega) (by omega)⟩,rfl,rfl⟩
theorem qhl (h:cls q):bnd 5 1 q:=h
theorem jT (h:cls q):bnd 12 10 q:=(qhl h).mono (by omega) (by omega)
theorem q5u (h:qDs q):bnd 17 13 q:=h
theorem GD.sh {d:DQ}(h:GD d):d.sh:=⟨jT h.x,jT h.y,q5u h.s⟩
theorem quy {a b d:DQ}(ga:GD a)(gb:GD b)(gd:GD d)(neg:Bool)(hf:(b.x-a.x)*(b.x-a.x)+(b.y-a.y)*(b.y-a.y)≠0)(oa:okQ (kA d (ql a b neg)))(ob:okQ (kB d (ql a b neg)))(oc:okQ (ql a b neg).h) :RootOk (kA d (ql a b neg)) (kB d (ql a b neg)) (ql a b neg).h:=by
 obtain⟨f1,f2,f3,f4⟩:=qqJ a b d neg hf;generalize kA d (ql a b neg)=A at *;generalize kB d (ql a b neg)=B at *;generalize (ql a b neg).h=H at *;obtain⟨hx1,vx1,wx1,ex1⟩:=qn7 ga.x;obtain⟨hy1,vy1,wy1,ey1⟩:=qn7 ga.y;obtain⟨hs1,vs1,ws1,es1⟩:=qqH ga.s;obtain⟨hx2,vx2,wx2,ex2⟩:=qn7 gb.x;obtain⟨hy2,vy2,wy2,ey2⟩:=qn7 gb.y;obtain⟨hs2,vs2,ws2,es2⟩:=qqH gb.s;obtain⟨hx3,vx3,wx3,ex3⟩:=qn7 gd.x;obtain⟨hy3,vy3,wy3,ey3⟩:=qn7 gd.y;obtain⟨hs3,vs3,ws3,es3⟩:=qqH gd.s;have k1:8*hx1+vx1<=41/\14*hx1+4*vx1<=74:=by omega
 have k2:8*hy1+vy1<=41/\14*hy1+4*vy1<=74:=by omega
 have k3:7*hx2+vx2<=36/\14*hx2+2*vx2<=72:=by omega
 have k4:7*hy2+vy2<=36/\14*hy2+2*vy2<=72:=by omega
 have k5:2*hx3+vx3<=11/\2*hx3+4*vx3<=14:=by omega
 have k6:2*hy3+vy3<=11/\2*hy3+4*vy3<=14:=by omega
 have k7:hs1+2*vs1<=43/\2*hs1+4*vs1<=86:=by omega
 have k8:hs2+2*vs2<=43/\2*hs2+4*vs2<=86:=by omega
 have k9:hs3<=17/\vs3<=13:=by omega
 clear ex1 ey1 es1 ex2 ey2 es2 ex3 ey3 es3;have p0:∀q:Rat,(q.den:Int)≠0:=fun q=>by have:=qzj q;omega
 have hM:iM a.x.num a.x.den a.y.num a.y.den a.s.den b.x.num b.x.den b.y.num b.y.den b.s.den d.x.den d.y.den d.s.den≠0:=by unfold iM iSq;have:=p0 a.x;have:=p0 a.y;have:=p0 a.s;have:=p0 b.x;have:=p0 b.y;have:=p0 b.s;have:=p0 d.x;have:=p0 d.y;have:=p0 d.s;exact Int.mul_ne_zero (Int.mul_ne_zero (Int.mul_ne_zero f4 (Int.mul_ne_zero (Int.mul_ne_zero ‹_› ‹_›) ‹_›)) (Int.mul_ne_zero (Int.mul_ne_zero (Int.mul_ne_zero ‹_› ‹_›) (Int.mul_ne_zero ‹_› ‹_›)) (Int.mul_ne_zero (Int.mul_ne_zero ‹_› ‹_›) (Int.mul_ne_zero ‹_› ‹_›)))) (Int.mul_ne_zero ‹_› ‹_›)
 have hQ:iQ a.x.den a.y.den b.x.den b.y.den d.x.den d.y.den≠0:=by unfold iQ;exact Int.mul_ne_zero (Int.mul_ne_zero (Int.mul_ne_zero (p0 _) (p0 _)) (p0 _)) (Int.mul_ne_zero (Int.mul_ne_zero (p0 _) (p0 _)) (p0 _))
 have hC:iCd a.x.num a.x.den a.y.num a.y.den a.s.den b.x.num b.x.den b.y.num b.y.den b.s.den≠0:=by unfold iCd;exact Int.mul_ne_zero (Int.mul_ne_zero (by omega) (Int.mul_ne_zero f4 f4)) (Int.mul_ne_zero (Int.mul_ne_zero (p0 _) (p0 _)) (Int.mul_ne_zero (p0 _) (p0 _)))
 obtain⟨g1,g2⟩:=qjy hM f1;obtain⟨g3,g4⟩:=qjy hQ f2;obtain⟨g5,g6⟩:=qjy hC f3;have b1:=(bA wx1.n wx1.dh wy1.n wy1.dh wx2.n wx2.dh wy2.n wy2.dh wx3.n wx3.dh wy3.n wy3.dh ws1.n ws1.dh ws2.n ws2.dh ws3.n ws3.dh).of_le (x:=A.num) g1;have b2:=(bM wx1.n wx1.dh wy1.n wy1.dh wx2.n wx2.dh wy2.n wy2.dh wx1.d wy1.d wx2.d wy2.d wx3.d wy3.d ws1.d ws2.d ws3.d).of_le (x:=(A.den:Int)) g2;have b3:Bd 16 (hx1+hx2+hx3+hy1+hy2+hy3) B.num:=by refine(bK wx1.n wx1.dh wy1.n wy1.dh wx2.n wx2.dh wy2.n wy2.dh wx3.n wx3.dh wy3.n wy3.dh).of_le (qEr g3 ?_);rw[qFF];cases neg<;>simp
 have b4:=(bQ wx1.d wy1.d wx2.d wy2.d wx3.d wy3.d).of_le (x:=(B.den:Int)) g4;have b5:=(bCn wx1.n wx1.dh wy1.n wy1.dh wx2.n wx2.dh wy2.n wy2.dh ws1.n ws1.dh ws2.n ws2.dh).of_le (x:=H.num) g5;have b6:=(bCd wx1.n wx1.dh wy1.n wy1.dh wx2.n wx2.dh wy2.n wy2.dh ws1.d ws2.d).of_le (x:=(H.den:Int)) g6;have X1:=b1.mul b4;have X:Bd 40960 500 (rX A B H):=(X1.mul b6).mono (by omega) (by omega);have Y:=b3.mul b2;have R:=b5.mul b6;have XX:=(X.mul X).mono (C':=1677721600) (e':=1000) (by omega) (by omega);have YY:=Y.mul Y;have YR:=(YY.mul R).mono (C':=553648128) (e':=972) (by omega) (by omega);have c10:(1000000000:Nat)<=10^9:=by decide
 exact { oa:=oa,ob:=ob,oc:=oc,x1:=X1.okL (k:=9) (by omega) (by omega) (by omega),x:=X.okL (k:=9) (by omega) (by omega) (by omega),y:=Y.okL (k:=9) (by omega) (by omega) (by omega),r:=R.okL (k:=9) (by omega) (by omega) (by omega),xx:=XX.okL (k:=10) (by decide) (by omega) (by omega),yy:=YY.okL (k:=9) (by omega) (by omega) (by omega),yr:=YR.okL (k:=9) (by omega) (by omega) (by omega),d:=((XX.mono (C':=1677721600) (e':=1000) (by omega) (by omega)).sub (YR.mono (C':=553648128) (e':=1000) (by omega) (by omega))).okL (k:=10) (by decide) (by omega) (by omega) }
end Go.Eng

namespace Go.Eng
theorem qE0{far c:Rat}(h0:far≠0)(hf:bnd 19 8 far)(hc:bnd 31 26 c):bnd 108 108 ((far+c)/(2*far)):=by
 have hn:far.num≠0:=fun h=>h0 (Rat.num_eq_zero.1 h);have hm:2*(far.num*(c.den:Int))≠0:=by have:=qzj c;exact Int.mul_ne_zero (by omega) (Int.mul_ne_zero hn (by omega))
 have h2f:2*far≠0:=by grind
 have key:(far+c)/(2*far)*((2*(far.num*(c.den:Int)):Int):Rat)=((far.num*(c.den:Int)+c.num*(far.den:Int):Int):Rat):=by
  have e1:=qcb far;have e2:=qcb c;have e3:(far+c)/(2*far)*(2*far)=far+c:=Rat.div_mul_cancel h2f;have f2:((2:Int):Rat)=2:=by simp
  simp only[qFa,qEB,Rat.intCast_natCast,e1,e2,f2];generalize (far+c)/(2*far)=q at *;generalize (far.den:Rat)=fd at *;generalize (c.den:Rat)=cd at *;have e4:q*(2*(far*fd*cd))=q*(2*far)*(fd*cd):=by grind
  rw[e4,e3];grind
 obtain⟨k1,k2⟩:=qjy hm key;have g1:=qlq k1;have g2:=quR k2;have a1:=qt3 (far.num*(c.den:Int)) (c.num*(far.den:Int));have a2:=q3A far.num (c.den:Int);have a3:=q3A c.num (far.den:Int);have a4:=q3A 2 (far.num*(c.den:Int));have a5:nl 2=1:=by decide
 have a6:dl (2*(far.num*(c.den:Int))).natAbs=nl (2*(far.num*(c.den:Int))):=rfl;have b1:nl far.num<=19:=hf.1;have b2:nl (far.den:Int)<=8:=hf.2;have b3:nl c.num<=31:=hc.1;have b4:nl (c.den:Int)<=26:=hc.2;refine⟨?_,?_⟩
 ·show nl _<=108;omega
 ·show dl _<=108;omega
structure PB (p:SQ):Prop where
 fx:bnd 142 138 p.fx
 fy:bnd 142 138 p.fy
 ax:bnd 23 20 p.ax
 ay:bnd 23 20 p.ay
 h:bnd 314 313 p.h
theorem qEb(a:Rat):0-a=-a:=by grind
theorem qt7{a b:DQ}(ga:GD a)(gb:GD b):bnd 7 2 (b.x-a.x)/\bnd 7 2 (b.y-a.y)/\bnd 19 8 (kX b.x b.y a.x a.y):=by
 have k1:=(qhl gb.x).sub (qhl ga.x) (K:=7) (by omega) (by omega);have k2:=(qhl gb.y).sub (qhl ga.y) (K:=7) (by omega) (by omega);refine⟨k1,k2,?_⟩;have k3:=qjR k1 k2 k1 k2;have e:kX b.x b.y a.x a.y=(b.x-a.x)*(b.x-a.x)+(b.y-a.y)*(b.y-a.y):=by unfold kX;grind
 rw[e];exact k3
theorem qv4{a b:DQ}(ga:GD a)(gb:GD b)(hf:kX b.x b.y a.x a.y≠0):bnd 108 108 ((kX b.x b.y a.x a.y+a.s-b.s)/(2*kX b.x b.y a.x a.y)):=by rw[show kX b.x b.y a.x a.y+a.s-b.s=kX b.x b.y a.x a.y+(a.s-b.s) by grind];exact qE0 hf (qt7 ga gb).2.2 ((q5u ga.s).sub (q5u gb.s) (by omega) (by omega))
theorem qg8(a b:DQ)(neg:Bool):ql a b neg=⟨a.x+(kX b.x b.y a.x a.y+a.s-b.s)/(2*kX b.x b.y a.x a.y)*(b.x-a.x),a.y+(kX b.x b.y a.x a.y+a.s-b.s)/(2*kX b.x b.y a.x a.y)*(b.y-a.y),if neg then b.y-a.y else 0-(b.y-a.y),if neg then 0-(b.x-a.x) else b.x-a.x,a.s/kX b.x b.y a.x a.y-(kX b.x b.y a.x a.y+a.s-b.s)/(2*kX b.x b.y a.x a.y)*((kX b.x b.y a.x a.y+a.s-b.s)/(2*kX b.x b.y a.x a.y))⟩:=rfl
theorem qh3{a b:DQ}(ga:GD a)(gb:GD b)(neg:Bool)(hf:kX b.x b.y a.x a.y≠0):PB (ql a b neg):=by
 have dx:=q5p (jT gb.x) (jT ga.x);have dy:=q5p (jT gb.y) (jT ga.y);have far:=(qt7 ga gb).2.2;have ht:=qv4 ga gb hf;rw[qg8];have nx:bnd 23 20 (0-(b.x-a.x)):=by rw[qEb];exact dx.neg
 have ny:bnd 23 20 (0-(b.y-a.y)):=by rw[qEb];exact dy.neg
 have hh:=(((q5u ga.s).div hf far).sub (ht.mul ht) (K:=314) (by omega) (by omega)).mono (N':=314) (D':=313) (by omega) (by omega);have hx:=(jT ga.x).add (ht.mul dx) (K:=142) (by omega) (by omega);have hy:=(jT ga.y).add (ht.mul dy) (K:=142) (by omega) (by omega);exact⟨hx,hy,by cases neg<;>assumption,by cases neg<;>assumption,hh⟩
theorem PB.m{p:SQ}{d:DQ}(hp:PB p)(gd:GD d):bnd 153 148 (p.fx-d.x)/\bnd 153 148 (p.fy-d.y):=⟨hp.fx.sub (jT gd.x) (by omega) (by omega),hp.fy.sub (jT gd.y) (by omega) (by omega)⟩
theorem PB.mm{p:SQ}{d:DQ}(hp:PB p)(gd:GD d):bnd 603 592 ((p.fx-d.x)*(p.fx-d.x)+(p.fy-d.y)*(p.fy-d.y)):=qjR (hp.m gd).1 (hp.m gd).2 (hp.m gd).1 (hp.m gd).2
theorem PB.aa{p:SQ}(hp:PB p):bnd 87 80 (p.ax*p.ax+p.ay*p.ay):=qjR hp.ax hp.ay hp.ax hp.ay
theorem PB.ha{p:SQ}(hp:PB p):bnd 401 393 (p.h*(p.ax*p.ax+p.ay*p.ay)):=hp.h.mul hp.aa
theorem PB.x{p:SQ}{d:DQ}(hp:PB p)(gd:GD d):bnd 997 985 ((p.fx-d.x)*(p.fx-d.x)+(p.fy-d.y)*(p.fy-d.y)+p.h*(p.ax*p.ax+p.ay*p.ay)):=(hp.mm gd).add hp.ha (by omega) (by omega)
theorem PB.ma{p:SQ}{d:DQ}(hp:PB p)(gd:GD d):bnd 345 336 ((p.fx-d.x)*p.ax+(p.fy-d.y)*p.ay):=qjR (hp.m gd).1 (hp.m gd).2 hp.ax hp.ay
theorem PB.kA{p:SQ}{d:DQ}(hp:PB p)(gd:GD d):bnd 1011 998 (kA d p):=(hp.x gd).sub (q5u gd.s) (by omega) (by omega)
theorem PB.kB{p:SQ}{d:DQ}(hp:PB p)(gd:GD d):bnd 346 337 (kB d p):=qnA.mul (hp.ma gd)
structure PG (p:SQ):Prop where
 pb:PB p
 nn:0<=p.h
 root:∀d,GD d->RootOk (kA d p) (kB d p) p.h
theorem qys{a b:DQ}(ga:GD a)(gb:GD b)(neg:Bool)(hf:kX b.x b.y a.x a.y≠0)(hn:0<=(ql a b neg).h):PG (ql a b neg):=⟨qh3 ga gb neg hf,hn,fun _ gd=>quy ga gb gd neg hf (((qh3 ga gb neg hf).kA gd).ok (by omega) (by omega)) (((qh3 ga gb neg hf).kB gd).ok (by omega) (by omega)) ((qh3 ga gb neg hf).h.ok (by omega) (by omega))⟩
theorem qCM{a:DQ}(ga:GD a):PG ⟨a.x,a.y,0,0,0⟩:=by
 refine⟨⟨(jT ga.x).mono (by omega) (by omega),(jT ga.y).mono (by omega) (by omega),ko.mono (by omega) (by omega),ko.mono (by omega) (by omega),ko.mono (by omega) (by omega)⟩,qFw,fun d gd=>?_⟩;have e1:Go.Eng.kA d ⟨a.x,a.y,0,0,0⟩=kX a.x a.y d.x d.y-d.s:=by unfold Go.Eng.kA kX;grind
 have e2:Go.Eng.kB d ⟨a.x,a.y,0,0,0⟩=0:=by unfold Go.Eng.kB;grind
 rw[e1,e2];have f1:bnd 101 93 (kX a.x a.y d.x d.y-d.s):=(qrp (jT ga.x) (jT ga.y) (jT gd.x) (jT gd.y)).sub (q5u gd.s) (by omega) (by omega);exact RootOk.of f1 ko ko (by omega) (by omega)
theorem qvd{d:DQ}{p:SQ}(gd:GD d)(hp:PG p) :(ju [.s (tQ d.x),.s (tQ d.y),.s (tQ d.s),.s (tQ p.fx),.s (tQ p.fy),.s (tQ p.ax),.s (tQ p.ay),.s (tQ p.h),.i 0]).run=some (0,[.b (decide (q0x d p)),.i 0]):=by rw[qg0];have hr:=qA1 (hp.root d gd) hp.nn;obtain⟨hp,-,-⟩:=hp;obtain⟨m1,m2⟩:=hp.m gd;have h0:=qxg hp.fx hp.fy (jT gd.x) (jT gd.y) (by omega) (by omega) (by omega);have h1:=qxk m1 m2 m1 m2 (by omega) (by omega);have h2:=qxk hp.ax hp.ay hp.ax hp.ay (by omega) (by omega);have h3:=qqf hp.h hp.aa (by omega) (by omega);have h4:=qx1 (hp.mm gd) hp.ha (by omega) (by omega) (by omega);have h5:=qpu (hp.x gd) (q5u gd.s) (by omega) (by omega) (by omega);have h6:=qxk m1 m2 hp.ax hp.ay (by omega) (by omega);have h7:=qqf qnA (hp.ma gd) (by omega) (by omega);rw[qA4] at h7;have e:q0x d p=(qel (Go.Eng.kA d p) (Go.Eng.kB d p) p.h<=0):=rfl;unfold Go.Eng.kA Go.Eng.kB at hr e;simp only[STD,h0,h1,h2,h3,h4,h5,h6,h7,hr,e];rfl
def qDr(d:DQ):List U:=[.s (tQ d.x),.s (tQ d.y),.s (tQ d.s)]
def rD(l:List DQ):R:=l.map qDr
def ix(l:List DQ)(i:Nat):DQ:=l.getD i ⟨0,0,0⟩
theorem uV(l:List DQ):qm (rD l)=(l.length:Int):=by simp[qm,rD]
theorem qpE{l:List DQ}{i:Nat}(h:i<l.length):cS (rD l) (i:Int) 0=tQ (ix l i).x/\cS (rD l) (i:Int) 1=tQ (ix l i).y/\cS (rD l) (i:Int) 2=tQ (ix l i).s:=by unfold cS zY rD ix;simp[h,qDr,U.toS]
theorem qzU{l:List DQ}{i:Nat}(h:i<l.length):ix l i∈l:=by unfold ix;simp[h]
def q8M(a b:DQ)(same:Bool)(side:Int):Option SQ:=
 if same then (if side=0 then some ⟨a.x,a.y,0,0,0⟩ else none)
 else if kX b.x b.y a.x a.y=0 then none
 else if 0<=(ql a b (decide (side<0))).h/\((ql a b (decide (side<0))).h=0↔side=0) then some (ql a b (decide (side<0))) else none
theorem qyB{a b:DQ}(ga:GD a)(gb:GD b){same:Bool}{side:Int}{p:SQ}(h:q8M a b same side=some p):PG p:=by
 unfold q8M at h;split at h
 ·split at h
  ·cases h;exact qCM ga
  ·cases h
 ·split at h
  ·cases h
  ·rename_i hf;split at h
   ·rename_i hc;cases h;exact qys ga gb _ hf hc.1
   ·cases h
def q35(l:List DQ)(i j:Nat)(side:Int):Bool:=
 match q8M (ix l i) (ix l j) (decide (i=j)) side with
 | none=>false
 | some p=>l.all fun d=>decide (q0x d p)
def qk2(l:List DQ)(i j:Nat)(side:Int):Option (Nat×Nat×Int):=if q35 l i j side then some (i,j,side) else none
def qcs(l:List DQ)(i j:Nat):Option (Nat×Nat×Int):=
 match qk2 l i j 0 with
 | some w=>some w
 | none=>match qk2 l i j 1 with
  | some w=>some w
  | none=>qk2 l i j (-1)
def q8i(l:List DQ):Option (Nat×Nat×Int):=
 match q5o (fun i=>qk2 l i i 0) 0 l.length with
 | some w=>some w
 | none=>q5o (fun i=>q5o (fun k=>qcs l i (i+1+k)) 0 (l.length-(i+1))) 0 l.length
theorem quI(d a:DQ):q0x d ⟨a.x,a.y,0,0,0⟩↔pw d a.x a.y<=0:=by
 have e1:kA d ⟨a.x,a.y,0,0,0⟩=pw d a.x a.y:=by unfold kA pw;grind
 have e2:kB d ⟨a.x,a.y,0,0,0⟩=0:=by unfold kB;grind
 unfold q0x;rw[e1,e2];simp only[qmP,qe3]
theorem qoY{d:DQ}{p q:SQ}(hA:kA d p=kA d q)(hB:kB d p=kB d q)(hh:p.h=q.h):q0x d p↔q0x d q:=by unfold q0x;rw[hA,hB,hh]
theorem qkL{d:DQ}{p:SQ}(hh:p.h=0):q0x d p↔kA d p<=0:=by
 unfold q0x;rw[hh,qnW (by grind)];constructor
 ·rintro (⟨h,-⟩|⟨h1,h2,h3⟩)
  ·exact h
  ·have:=qEP h1 h1;grind
 ·intro h;exact .inl ⟨h,.inr (.inl rfl)⟩
theorem qtB{a b:DQ}(neg:Bool)(hf:kX b.x b.y a.x a.y≠0) :(ql b a (!neg)).fx=(ql a b neg).fx/\(ql b a (!neg)).fy=(ql a b neg).fy/\(ql b a (!neg)).ax=(ql a b neg).ax/\(ql b a (!neg)).ay=(ql a b neg).ay/\(ql b a (!neg)).h=(ql a b neg).h:=by
 have hsw:kX a.x a.y b.x b.y=kX b.x b.y a.x a.y:=by unfold kX;grind
 rw[qg8,qg8,hsw];generalize kX b.x b.y a.x a.y=far at *;have h2f:2*far≠0:=by grind
 have h1:(far+b.s-a.s)/(2*far)*(2*far)=far+b.s-a.s:=Rat.div_mul_cancel h2f;have h2:(far+a.s-b.s)/(2*far)*(2*far)=far+a.s-b.s:=Rat.div_mul_cancel h2f;have h3:a.s/far*far=a.s:=Rat.div_mul_cancel hf;have h4:b.s/far*far=b.s:=Rat.div_mul_cancel hf;generalize (far+b.s-a.s)/(2*far)=u at *;generalize (far+a.s-b.s)/(2*far)=t at *;generalize a.s/far=p at *;generalize b.s/far=q at *;have cancel:∀z:Rat,z*far=0->z=0:=fun z hz=>by
  rcases qFn.1 hz with h|h
  ·exact h
  ·exact absurd h hf
 have hu:u=1-t:=by have:=cancel (u-(1-t)) (by grind);grind
 have hpq:q=p-t*t+(1-t)*(1-t):=by have:=cancel (q-(p-t*t+(1-t)*(1-t))) (by grind);grind
 simp only;refine⟨by rw[hu];grind,by rw[hu];grind,?_,?_,by rw[hu,hpq];grind⟩
 ·cases neg<;>simp only[Bool.not_false,Bool.not_true,qEY,if_false,if_true]<;>grind
 ·cases neg<;>simp only[Bool.not_false,Bool.not_true,qEY,if_false,if_true]<;>grind
theorem qgs{l:List DQ}{d:DQ}(h:d∈l):∃i,i<l.length/\ix l i=d:=by obtain⟨i,hi,e⟩:=List.getElem_of_mem h;exact⟨i,hi,by unfold ix;simp[hi,e]⟩
def Wit(l:List DQ):Prop:=(∃i,i<l.length/\q35 l i i 0=true)\/∃i j side,i<j/\j<l.length/\(side=0\/side=1\/side=-1)/\q35 l i j side=true
theorem qaA{l:List DQ}{i j:Nat}{side:Int}:q35 l i j side=true↔∃p,q8M (ix l i) (ix l j) (decide (i=j)) side=some p/\∀d∈l,q0x d p:=by
 unfold q35;cases h:q8M (ix l i) (ix l j) (decide (i=j)) side with
 | none=>simp
 | some p=>simp
theorem qzc{a b:DQ}{same:Bool}{side:Int}{p:SQ}(h:q8M a b same side=some p):0<=p.h:=by
 unfold q8M at h;split at h
 ·split at h
  ·cases h;exact qFw
  ·cases h
 ·split at h
  ·cases h
  ·split at h
   ·rename_i hc;cases h;exact hc.1
   ·cases h
theorem qlR{l:List DQ}{i j:Nat}{side:Int}(h:q35 l i j side=true):qxW l:=by obtain⟨p,h1,h2⟩:=qaA.1 h;exact qod (qzc h1) h2
theorem qqS{l:List DQ}(hl:l≠[])(hs:∀d∈l,0<=d.s)(hm:qxW l):Wit l:=by
 rcases qyD hl hs hm with⟨a,ha,h⟩|⟨a,ha,b,hb,neg,hf,h0,hk⟩
 ·obtain⟨i,hi,rfl⟩:=qgs ha;refine .inl ⟨i,hi,qaA.2 ⟨⟨(ix l i).x,(ix l i).y,0,0,0⟩,?_,fun d hd=>(quI d _).2 (h d hd)⟩⟩;unfold q8M;simp
 ·have main:∀(i j:Nat) (neg:Bool),i<j->j<l.length->kX (ix l j).x (ix l j).y (ix l i).x (ix l i).y≠0->0<=(ql (ix l i) (ix l j) neg).h->(∀d∈l,q0x d (ql (ix l i) (ix l j) neg))->Wit l:=by
   intro i j neg hij hj hf h0 hk;by_cases hz:(ql (ix l i) (ix l j) neg).h=0
   ·have hz':(ql (ix l i) (ix l j) false).h=0:=hz;refine .inr ⟨i,j,0,hij,hj,.inl rfl,qaA.2 ⟨ql (ix l i) (ix l j) false,?_,fun d hd=>?_⟩⟩
    ·unfold q8M;rw[if_neg (by simp;omega),if_neg hf];simp[hz']
    ·have:=(qkL hz).1 (hk d hd);rw[qkL hz'];have e:kA d (ql (ix l i) (ix l j) false)=kA d (ql (ix l i) (ix l j) neg):=by unfold kA;rw[hz,hz'];have e1:(ql (ix l i) (ix l j) false).fx=(ql (ix l i) (ix l j) neg).fx:=rfl;have e2:(ql (ix l i) (ix l j) false).fy=(ql (ix l i) (ix l j) neg).fy:=rfl;rw[e1,e2];grind
     rw[e];exact this
   ·cases neg
    ·refine .inr ⟨i,j,1,hij,hj,.inr (.inl rfl),qaA.2 ⟨ql (ix l i) (ix l j) false,?_,hk⟩⟩;unfold q8M;rw[if_neg (by simp;omega),if_neg hf];simp[hz,h0]
    ·refine .inr ⟨i,j,-1,hij,hj,.inr (.inr rfl),qaA.2 ⟨ql (ix l i) (ix l j) true,?_,hk⟩⟩;unfold q8M;rw[if_neg (by simp;omega),if_neg hf];simp[hz,h0]
  obtain⟨i,hi,rfl⟩:=qgs ha;obtain⟨j,hj,rfl⟩:=qgs hb;rcases Nat.lt_trichotomy i j with hij|rfl|hij
  ·exact main i j neg hij hj hf h0 hk
  ·exact absurd (by unfold kX;grind) hf
  ·obtain⟨e1,e2,e3,e4,e5⟩:=qtB neg hf;refine main j i (!neg) hij hi ?_ (by rw[e5];exact h0) fun d hd=>?_
   ·intro h;apply hf;unfold kX at *;grind
   ·refine(qoY ?_ ?_ e5).2 (hk d hd)
    ·unfold kA;rw[e1,e2,e3,e4,e5]
    ·unfold kB;rw[e1,e2,e3,e4]
theorem qgO{l:List DQ}{i j:Nat}{side:Int}{w:Nat×Nat×Int}(h:qk2 l i j side=some w):w=(i,j,side)/\q35 l i j side=true:=by
 unfold qk2 at h;split at h
 ·cases h;exact⟨rfl,by assumption⟩
 ·cases h
theorem qh0{l:List DQ}{i j:Nat}{side:Int}(h:qk2 l i j side=none):q35 l i j side=false:=by
 unfold qk2 at h;split at h
 ·cases h
 ·simp_all
theorem qaI{α:Type}{f:Nat->Option α}{a:α}:∀{k i:Nat},q5o f i k=some a->∃j,i<=j/\j<i+k/\f j=some a/\∀m,i<=m->m<j->f m=none
 | 0,i,h=>by cases h
 | k+1,i,h=>by
  simp only[q5o] at h;cases hf:f i with
  | some b=>rw[hf] at h;exact⟨i,qEo _,by omega,by rw[hf];exact h,fun m h1 h2=>by omega⟩
  | none=>
   rw[hf] at h;obtain⟨j,h1,h2,h3,h4⟩:=qaI h;refine⟨j,by omega,by omega,h3,fun m m1 m2=>?_⟩;rcases qFR m1 with rfl|m1
   ·exact hf
   ·exact h4 m m1 m2
theorem qrZ{l:List DQ}{i j:Nat}{w:Nat×Nat×Int}(h:qcs l i j=some w):∃side,w=(i,j,side)/\(side=0\/side=1\/side=-1)/\q35 l i j side=true:=by
 unfold qcs at h;cases h0:qk2 l i j 0 with
 | some v=>rw[h0] at h;simp only at h;cases h;obtain⟨e1,e2⟩:=qgO h0;exact⟨0,e1,.inl rfl,e2⟩
 | none=>
  rw[h0] at h;simp only at h;cases h1:qk2 l i j 1 with
  | some v=>rw[h1] at h;simp only at h;cases h;obtain⟨e1,e2⟩:=qgO h1;exact⟨1,e1,.inr (.inl rfl),e2⟩
  | none=>
   rw[h1] at h;simp only at h;obtain⟨e1,e2⟩:=qgO h;exact⟨-1,e1,.inr (.inr rfl),e2⟩
theorem qro{l:List DQ}{i j:Nat}(h:qcs l i j=none):∀side:Int,side=0\/side=1\/side=-1->q35 l i j side=false:=by
 unfold qcs at h;cases h0:qk2 l i j 0 with
 | some v=>rw[h0] at h;cases h
 | none=>
  rw[h0] at h;simp only at h;cases h1:qk2 l i j 1 with
  | some v=>rw[h1] at h;cases h
  | none=>
   rw[h1] at h;simp only at h;rintro side (rfl|rfl|rfl)
   ·exact qh0 h0
   ·exact qh0 h1
   ·exact qh0 h
theorem qqz{l:List DQ}{w:Nat×Nat×Int}(h:q8i l=some w):q35 l w.1 w.2.1 w.2.2=true/\w.1<=w.2.1/\w.2.1<l.length/\(w.2.2=0\/w.2.2=1\/w.2.2=-1)/\(w.1=w.2.1->w.2.2=0):=by
 unfold q8i at h;cases h0:q5o (fun i=>qk2 l i i 0) 0 l.length with
 | some v=>
  rw[h0] at h;simp only at h;cases h;obtain⟨i,-,hi,hf,-⟩:=qaI h0;obtain⟨rfl,e⟩:=qgO hf;exact⟨e,qEo _,by simpa using hi,.inl rfl,fun _=>rfl⟩
 | none=>
  rw[h0] at h;simp only at h;obtain⟨i,-,hi,hf,-⟩:=qaI h;obtain⟨k,-,hk,hf,-⟩:=qaI hf;obtain⟨side,rfl,h1,h2⟩:=qrZ hf;exact⟨h2,by simp only;omega,by simp only;omega,h1,fun h=>by simp only at h;omega⟩
theorem qqW{l:List DQ}(h:q8i l=none):¬Wit l:=by
 unfold q8i at h;cases h0:q5o (fun i=>qk2 l i i 0) 0 l.length with
 | some v=>rw[h0] at h;cases h
 | none=>
  rw[h0] at h;simp only at h;rintro (⟨i,hi,hp⟩|⟨i,j,side,hij,hj,hs,hp⟩)
  ·have:=qh0 (q4d h0 i (by omega) (by omega));simp_all
  ·have h1:=q4d h i (by omega) (by omega);have h2:=q4d h1 (j-(i+1)) (by omega) (by omega);simp only[show i+1+(j-(i+1))=j by omega] at h2;have:=qro h2 side hs;simp_all
theorem quv{l:List DQ}(hl:l≠[])(hs:∀d∈l,0<=d.s):(q8i l).isSome=true↔qxW l:=by
 constructor
 ·intro h;cases hf:q8i l with
  | none=>rw[hf] at h;cases h
  | some w=>exact qlR (qqz hf).1
 ·intro h;cases hf:q8i l with
  | none=>exact absurd (qqS hl hs h) (qqW hf)
  | some w=>rfl
def GDs(l:List DQ):Prop:=∀d∈l,GD d
theorem GDs.ix{l:List DQ}(h:GDs l){i:Nat}(hi:i<l.length):GD (ix l i):=h _ (qzU hi)
theorem qA9(q:Rat):(seq (tQ q) [48]=true)=(q=0):=by rw[jo,qbs]
theorem qif(q:Rat):(0:Int)<zp (tQ q):=by have h1:=qlj q;have h2:=qgr q;unfold zp;omega
theorem qEa(i:Nat):((i:Int)=(i:Int))=True:=by simp
def plc(p:SQ):List PV:=[.s (tQ p.fx),.s (tQ p.fy),.s (tQ p.ax),.s (tQ p.ay),.s (tQ p.h)]
theorem qi6(q:Rat):(¬(tQ q).getD 0 0=45)=(0<=q):=by
 by_cases h:0<=q
 ·exact propext ⟨fun _=>h,fun _=>qB0 h⟩
 ·have:=qC4 (c:=q) (by grind);exact propext ⟨fun h'=>absurd this h',fun h'=>absurd h' h⟩
theorem qAn(b:Bool)(p q:Prop)[Decidable p][Decidable q](hb:(b=true)=p):(Go.Eng.beq b (decide q))=decide (p↔q):=by subst hb;by_cases hq:q<;>cases b<;>simp[Go.Eng.beq,hq]<;>rfl
set_option maxHeartbeats 2000000 in
theorem qAQ{l:List DQ}(hl:GDs l){i j:Nat}(hi:i<l.length)(hj:j<l.length)(side:Int) :(q8M (ix l i) (ix l j) (decide (i=j)) side=none/\∃a b c d e,(vD [.r (rD l),.i (i:Int),.i (j:Int),.i side,.i 0]).run=some (0,[.s a,.s b,.s c,.s d,.s e,.b false,.i 0])) \/∃p,q8M (ix l i) (ix l j) (decide (i=j)) side=some p/\(vD [.r (rD l),.i (i:Int),.i (j:Int),.i side,.i 0]).run=some (0,plc p++[.b true,.i 0]):=by
 rw[qft];obtain⟨x1,x2,x3⟩:=qpE hi;obtain⟨y1,y2,y3⟩:=qpE hj;have ga:=hl.ix hi;have gb:=hl.ix hj;have bi:0<=(i:Int)/\(i:Int)<qm (rD l):=by rw[uV];omega
 have bj:0<=(j:Int)/\(j:Int)<qm (rD l):=by rw[uV];omega
 obtain⟨a,ha⟩:∃a,a=ix l i:=⟨_,rfl⟩;obtain⟨b,hb⟩:∃b,b=ix l j:=⟨_,rfl⟩;rw[<-ha] at x1 x2 x3 ga ⊢;rw[<-hb] at y1 y2 y3 gb ⊢;simp only[x1,x2,x3,y1,y2,y3];clear x1 x2 x3 y1 y2 y3 hb;unfold q8M plc;by_cases hij:i=j
 ·subst hij;have z:tQ 0=[48]:=rfl;by_cases hs:side=0
  ·subst hs;right;refine⟨⟨a.x,a.y,0,0,0⟩,by simp,?_⟩;have e:ieq 0 0=true:=rfl;simp only[STD,bi,and_self,z,e];rfl
  ·left;refine⟨by simp[hs],tQ a.x,tQ a.y,[48],[48],[48],?_⟩;have e:ieq side 0=false:=by simp[ieq,hs]
   simp only[STD,bi,and_self,e]
 ·have hij':¬(i:Int)=(j:Int):=by omega
  obtain⟨a1,a2,a3⟩:=ga.sh;obtain⟨b1,b2,b3⟩:=gb.sh;have dx:=q5p b1 a1;have dy:=q5p b2 a2;have far:=qrp b1 b2 a1 a2;have h0:=qxg b1 b2 a1 a2 (by omega) (by omega) (by omega);have h1:=qxk dx dy dx dy (by omega) (by omega);have hfd:(b.x-a.x)*(b.x-a.x)+(b.y-a.y)*(b.y-a.y)=kX b.x b.y a.x a.y:=rfl;rw[hfd] at h1;by_cases hf:kX b.x b.y a.x a.y=0
  ·left;refine⟨by simp[hij,hf],[],[],[],[],[],?_⟩;simp only[STD,bi,bj,and_self,hij',h0,h1,qA9,hf]
  ·have hpb:=fun neg=>qh3 ga gb neg hf;have ht:=qv4 ga gb hf;have n1:bnd 101 93 (kX b.x b.y a.x a.y+a.s):=far.add a3 (by omega) (by omega);have h2:=qx1 far a3 (by omega) (by omega) (by omega);have n2:bnd 115 106 (kX b.x b.y a.x a.y+a.s-b.s):=n1.sub b3 (by omega) (by omega);have h3:=qpu n1 b3 (by omega) (by omega) (by omega);have h4:=qqf qnA far (by omega) (by omega);rw[qA4] at h4;have n4:=qnA.mul far;have hf2:2*kX b.x b.y a.x a.y≠0:=by grind
   have h5:=qDm hf2 n2 n4 (by omega) (by omega);have h6:=qqf ht dx (by omega) (by omega);have h7:=qx1 a1 (ht.mul dx) (by omega) (by omega) (by omega);have h8:=qqf ht dy (by omega) (by omega);have h9:=qx1 a2 (ht.mul dy) (by omega) (by omega) (by omega);have h10:=qpu ko dy (by omega) (by omega) (by omega);have h14:=qpu ko dx (by omega) (by omega) (by omega);rw[show tQ 0=[48] from rfl] at h10 h14;have h11:=qDm hf a3 far (by omega) (by omega);have h12:=qqf ht ht (by omega) (by omega);have h13:=qpu (a3.div hf far) (ht.mul ht) (by omega) (by omega) (by omega);have hbd:=fun (q:Rat)=>qAn (seq (tQ q) [48]) (q=0) (side=0) (qA9 q);have hie:ieq side 0=decide (side=0):=rfl;rw[if_neg (by simp[hij]),if_neg hf];obtain⟨p,hcr'⟩:∃p,p=ql a b (decide (side<0)):=⟨_,rfl⟩;rw[<-hcr'];have hcr:=hcr'.symm;clear hcr';rw[qg8] at hcr;obtain⟨t,htt⟩:∃t,t=(kX b.x b.y a.x a.y+a.s-b.s)/(2*kX b.x b.y a.x a.y):=⟨_,rfl⟩;rw[<-htt] at hcr h5 h6 h7 h8 h9 h12 h13;obtain⟨h,hh⟩:∃h,h=a.s/kX b.x b.y a.x a.y-t*t:=⟨_,rfl⟩;rw[<-hh] at hcr h13;have hp5:p.h=h:=by rw[<-hcr]
   by_cases hs:side<0
   ·simp only[hs,decide_true,if_true] at hcr;by_cases hn:0<=h
    ·by_cases hz:(h=0↔side=0)
     ·right;refine⟨p,by rw[if_pos ⟨by rw[hp5];exact hn,by rw[hp5];exact hz⟩],?_⟩;rw[<-hcr];simp only[STD,bi,bj,and_self,hij',h0,h1,h2,h3,h4,h5,h6,h7,h8,h9,h10,h11,h12,h13,h14,qA9,hf,hs,qES,qif,qhb,qi6,hn,hie,hbd,hz,decide_true];rfl
     ·left;refine⟨by rw[if_neg (by rw[hp5];exact fun c=>hz c.2)],tQ p.fx,tQ p.fy,tQ p.ax,tQ p.ay,tQ p.h,?_⟩;rw[<-hcr];simp only[STD,bi,bj,and_self,hij',h0,h1,h2,h3,h4,h5,h6,h7,h8,h9,h10,h11,h12,h13,h14,qA9,hf,hs,qES,qif,qhb,qi6,hn,hie,hbd,hz,decide_false]
    ·left;refine⟨by rw[if_neg (by rw[hp5];exact fun c=>hn c.1)],tQ p.fx,tQ p.fy,tQ p.ax,tQ p.ay,tQ p.h,?_⟩;rw[<-hcr];simp only[STD,bi,bj,and_self,hij',h0,h1,h2,h3,h4,h5,h6,h7,h8,h9,h10,h11,h12,h13,h14,qA9,hf,hs,qES,qif,qhb,qi6,hn]
   ·simp only[hs,decide_false,qEY,if_false] at hcr;by_cases hn:0<=h
    ·by_cases hz:(h=0↔side=0)
     ·right;refine⟨p,by rw[if_pos ⟨by rw[hp5];exact hn,by rw[hp5];exact hz⟩],?_⟩;rw[<-hcr];simp only[STD,bi,bj,and_self,hij',h0,h1,h2,h3,h4,h5,h6,h7,h8,h9,h10,h11,h12,h13,h14,qA9,hf,hs,qES,qif,qhb,qi6,hn,hie,hbd,hz,decide_true];rfl
     ·left;refine⟨by rw[if_neg (by rw[hp5];exact fun c=>hz c.2)],tQ p.fx,tQ p.fy,tQ p.ax,tQ p.ay,tQ p.h,?_⟩;rw[<-hcr];simp only[STD,bi,bj,and_self,hij',h0,h1,h2,h3,h4,h5,h6,h7,h8,h9,h10,h11,h12,h13,h14,qA9,hf,hs,qES,qif,qhb,qi6,hn,hie,hbd,hz,decide_false]
    ·left;refine⟨by rw[if_neg (by rw[hp5];exact fun c=>hn c.1)],tQ p.fx,tQ p.fy,tQ p.ax,tQ p.ay,tQ p.h,?_⟩;rw[<-hcr];simp only[STD,bi,bj,and_self,hij',h0,h1,h2,h3,h4,h5,h6,h7,h8,h9,h10,h11,h12,h13,h14,qA9,hf,hs,qES,qif,qhb,qi6,hn]
theorem qB6{α:Type}(p:Nat->Bool)(g:Nat->α)(n:Nat):(q5o (fun i=>if p i=true then none else some (g i)) 0 n=none/\∀i,i<n->p i=true)\/∃i,i<n/\p i=false/\q5o (fun i=>if p i=true then none else some (g i)) 0 n=some (g i):=by
 cases h:q5o (fun i=>if p i=true then none else some (g i)) 0 n with
 | none=>
  refine .inl ⟨rfl,fun i hi=>?_⟩;have:=q4d h i (by omega) (by omega);cases hp:p i
  ·rw[hp] at this;simp at this
  ·rfl
 | some a=>
  obtain⟨j,-,hj,hf,-⟩:=qaI h;cases hp:p j
  ·rw[hp] at hf;simp at hf;exact .inr ⟨j,by omega,hp,by rw[hf]⟩
  ·rw[hp] at hf;simp at hf
theorem qzC(l:List DQ)(p:DQ->Bool):l.all p=true↔∀i,i<l.length->p (ix l i)=true:=by
 rw[qEU];constructor
 ·intro h i hi;exact h _ (qzU hi)
 ·intro h d hd;obtain⟨i,hi,rfl⟩:=qgs hd;exact h i hi
theorem qB5{l:List DQ}{p:DQ->Bool}{i:Nat}(hi:i<l.length)(h:p (ix l i)=false):l.all p=false:=by
 cases ha:l.all p
 ·rfl
 ·have:=(qzC l p).1 ha i hi;simp_all
theorem qsV{l:List DQ}(hl:GDs l)(hn:l.length<1000000){i j:Nat}(hi:i<l.length)(hj:j<l.length)(side:Int) :(vY [.r (rD l),.i (i:Int),.i (j:Int),.i side,.i 0]).run=some (0,[.b (q35 l i j side),.i 0]):=by
 rw[qek];unfold q35;rcases qAQ hl hi hj side with⟨h1,a,b,c,d,e,h2⟩|⟨p,h1,h2⟩
 ·rw[h1];simp only[STD,h2]
 ·rw[h1];have hp:=qyB (hl.ix hi) (hl.ix hj) h1;unfold plc at h2;simp only[qFu,qFM] at h2;have key:=q2n (S:=wE)
   (fun k=>[.r (rD l),.i (qm (rD l)),.i (k:Int),.r (rD l),.r (rD l),.r (rD l),.i (i:Int),.i (j:Int),.i side,.b true,.s (tQ p.fx),.s (tQ p.fy),.s (tQ p.ax),.s (tQ p.ay),.s (tQ p.h),.b true,.r (rD l),.i (i:Int),.i (j:Int),.i side,.s (tQ p.fx),.s (tQ p.fy),.s (tQ p.ax),.s (tQ p.ay),.s (tQ p.h),.b true,.s (tQ p.fx),.s (tQ p.fy),.s (tQ p.ax),.s (tQ p.ay),.s (tQ p.h),.b true,.b true,.r (rD l),.i 0,.i (i:Int),.i (j:Int),.i side,.s (tQ p.fx),.s (tQ p.fy),.s (tQ p.ax),.s (tQ p.ay),.s (tQ p.h)])
   (fun k=>if decide (q0x (ix l k) p)=true then none else some (1,[.i (k:Int),.r (rD l),.r (rD l),.r (rD l),.i (i:Int),.i (j:Int),.i side,.b true,.s (tQ p.fx),.s (tQ p.fy),.s (tQ p.ax),.s (tQ p.ay),.s (tQ p.h),.b true,.r (rD l),.i (i:Int),.i (j:Int),.i side,.s (tQ p.fx),.s (tQ p.fy),.s (tQ p.ax),.s (tQ p.ay),.s (tQ p.h),.b true,.s (tQ p.fx),.s (tQ p.fy),.s (tQ p.ax),.s (tQ p.ay),.s (tQ p.h),.b true,.b true,.r (rD l),.i 0,.i (i:Int),.i (j:Int),.i side,.s (tQ p.fx),.s (tQ p.fy),.s (tQ p.ax),.s (tQ p.ay),.s (tQ p.h)]))
   (0,[.r (rD l),.r (rD l),.r (rD l),.i (i:Int),.i (j:Int),.i side,.b true,.s (tQ p.fx),.s (tQ p.fy),.s (tQ p.ax),.s (tQ p.ay),.s (tQ p.h),.b true,.r (rD l),.i (i:Int),.i (j:Int),.i side,.s (tQ p.fx),.s (tQ p.fy),.s (tQ p.ax),.s (tQ p.ay),.s (tQ p.h),.b true,.s (tQ p.fx),.s (tQ p.fy),.s (tQ p.ax),.s (tQ p.ay),.s (tQ p.h),.b true,.b true,.r (rD l),.i 0,.i (i:Int),.i (j:Int),.i side,.s (tQ p.fx),.s (tQ p.fy),.s (tQ p.ax),.s (tQ p.ay),.s (tQ p.h)])
   l.length (by omega)
   (fun k hk hf=>by
    rw[yQ];obtain⟨x1,x2,x3⟩:=qpE hk;have hK:=qvd (hl.ix hk) hp;by_cases hd:q0x (ix l k) p
    ·simp only[x1,x2,x3,STD,hK,hd,uV,q3f hk (show l.length<9223372036854775808 by omega),show (k:Int)<(l.length:Int) by omega,show (0:Int)<=(k:Int) by omega,and_self,decide_true]
    ·simp[hd] at hf)
   (fun k r hk hf=>by
    rw[yQ];obtain⟨x1,x2,x3⟩:=qpE hk;have hK:=qvd (hl.ix hk) hp;by_cases hd:q0x (ix l k) p
    ·simp[hd] at hf
    ·simp only[hd,decide_false,qEY,if_false,qEm] at hf;subst hf;simp only[x1,x2,x3,STD,hK,hd,uV,show (k:Int)<(l.length:Int) by omega,show (0:Int)<=(k:Int) by omega,and_self,decide_false])
   (by rw[yQ];simp only[STD,uV,show ¬(l.length:Int)<(l.length:Int) by omega])
  rcases qB6 (fun k=>decide (q0x (ix l k) p)) (fun k=>((1,[.i (k:Int),.r (rD l),.r (rD l),.r (rD l),.i (i:Int),.i (j:Int),.i side,.b true,.s (tQ p.fx),.s (tQ p.fy),.s (tQ p.ax),.s (tQ p.ay),.s (tQ p.h),.b true,.r (rD l),.i (i:Int),.i (j:Int),.i side,.s (tQ p.fx),.s (tQ p.fy),.s (tQ p.ax),.s (tQ p.ay),.s (tQ p.h),.b true,.s (tQ p.fx),.s (tQ p.fy),.s (tQ p.ax),.s (tQ p.ay),.s (tQ p.h),.b true,.b true,.r (rD l),.i 0,.i (i:Int),.i (j:Int),.i side,.s (tQ p.fx),.s (tQ p.fy),.s (tQ p.ax),.s (tQ p.ay),.s (tQ p.h)]):Nat×List PV)) l.length with⟨s1,s2⟩|⟨k,hk,s2,s1⟩
  ·rw[s1] at key;have hall:(l.all fun d=>decide (q0x d p))=true:=(qzC l _).2 s2;simp only[Option.getD_none] at key;simp only[STD,h2,hall];have key':=key;simp only[show ((0:Nat):Int)=0 from rfl] at key';simp only[STD,key',zJ key',show ieq 0 0=true from rfl]
  ·rw[s1] at key;have hall:=qB5 (p:=fun d=>decide (q0x d p)) hk s2;simp only[qFy] at key;simp only[STD,h2,hall];have key':=key;simp only[show ((0:Nat):Int)=0 from rfl] at key';simp only[STD,key',zJ key',show ¬(1=0) by omega,show (0:Int)<=(k:Int) by omega]
theorem qgV{S:List PV->TR}{α:Type}(st:Nat->List PV)(f:Nat->Option α)(g:α->List PV)(fin:List PV)(n:Nat)(hn:n<9223372036854775808)(h:∀i,i<n->(S (st i)).run=(f i).elim (some (0,st (i+1))) (fun a=>some (2,g a))) (h3:(S (st n)).run=some (1,fin)) :(qh S (st 0)).run=some ((q5o f 0 n).elim (0,fin) (fun a=>(1,g a))):=by
 have key:=q2n st (fun i=>(f i).map fun a=>(1,g a)) (0,fin) n hn (fun i hi hf=>by
  rw[h i hi];cases hfi:f i with
  | none=>rfl
  | some a=>rw[hfi] at hf;cases hf) (fun i r hi hf=>by
  rw[h i hi];cases hfi:f i with
  | none=>rw[hfi] at hf;cases hf
  | some a=>rw[hfi] at hf;simp at hf;rw[<-hf];rfl) h3
 rw[key,qoC];cases q5o f 0 n<;>rfl
def sd(s:Nat):Int:=cI [[.i 0],[.i 1],[.i (-1)]] (s:Int) 0
theorem qtD(l:List DQ)(i j:Nat):q5o (fun s=>qk2 l i j (sd s)) 0 3=qcs l i j:=by
 have e0:sd 0=0:=rfl;have e1:sd 1=1:=rfl;have e2:sd 2=-1:=rfl;simp only[q5o,e0,e1,e2];unfold qcs;cases qk2 l i j 0
 ·cases qk2 l i j 1
  ·cases qk2 l i j (-1)<;>rfl
  ·rfl
 ·rfl
def dex(l:List DQ)(w:Nat×Nat×Int):List PV:=[.i 0,.r (rD l),.i (w.1:Int),.i (w.2.1:Int),.i w.2.2,.b true,.i (l.length:Int)]
def fW(o:Option (Nat×Nat×Int)):List PV:=o.elim [.i 0,.i 0,.i 0,.b false] (fun w=>[.i (w.1:Int),.i (w.2.1:Int),.i w.2.2,.b true])
theorem n3:qm [[U.i 0],[U.i 1],[U.i (-1)]]=3:=rfl
set_option maxHeartbeats 600000 in
theorem qAr{l:List DQ}(hl:GDs l)(hn:l.length<1000000):(ul [.r (rD l),.i 0]).run=some (0,fW (q8i l)++[.i 0]):=by
 rw[qfx];have big:l.length<9223372036854775808:=by omega
 have A:=qgV (S:=wY) (fun k=>[.i (l.length:Int),.i (k:Int),.i 0,.r (rD l),.i 0,.i 0,.i 0,.b false,.i (l.length:Int)]) (fun k=>qk2 l k k 0) (dex l)
  [.i 0,.r (rD l),.i 0,.i 0,.i 0,.b false,.i (l.length:Int)] l.length big
  (fun k hk=>by
   rw[q2z];have hp:=qsV hl hn hk hk 0;unfold qk2;by_cases c:q35 l k k 0=true
   ·rw[if_pos c];simp only[STD,hp,c,show (k:Int)<(l.length:Int) by omega,dex]
   ·rw[if_neg c];simp only[STD,hp,c,show (k:Int)<(l.length:Int) by omega,q3f hk big];rfl)
  (by rw[q2z];simp only[STD,show ¬(l.length:Int)<(l.length:Int) by omega])
 have B:=fun i j (hi:i<l.length) (hj:j<l.length)=>qgV (S:=wz) (fun s=>[.i (i:Int),.i (j:Int),.i (l.length:Int),.i (i:Int),.i 3,.i (s:Int),.i 0,.r (rD l),.i 0,.i 0,.i 0,.b false,.i (l.length:Int),.r [[.i 0],[.i 1],[.i (-1)]]]) (fun s=>qk2 l i j (sd s)) (dex l)
  [.i (i:Int),.i (j:Int),.i (l.length:Int),.i (i:Int),.i 0,.r (rD l),.i 0,.i 0,.i 0,.b false,.i (l.length:Int)] 3 (by omega)
  (fun s hs=>by
   rw[q21];have hp:=qsV hl hn hi hj (sd s);have esd:cI [[.i 0],[.i 1],[.i (-1)]] (s:Int) 0=sd s:=rfl;unfold qk2;by_cases c:q35 l i j (sd s)=true
   ·rw[if_pos c];simp only[STD,hp,c,esd,n3,show (s:Int)<3 by omega,show (0:Int)<=(s:Int) by omega,and_self,dex]
   ·rw[if_neg c];simp only[STD,hp,c,esd,n3,show (s:Int)<3 by omega,show (0:Int)<=(s:Int) by omega,and_self,q3f hs (show 3<9223372036854775808 by omega)];rfl)
  (by rw[q21];simp only[STD,show ((3:Nat):Int)=3 from rfl,show ¬(3:Int)<3 by omega])
 have C:=fun i (hi:i<l.length)=>qgV (S:=wv) (fun k=>[.i (i:Int),.i ((i+1+k:Nat):Int),.i (l.length:Int),.i (i:Int),.i 0,.r (rD l),.i 0,.i 0,.i 0,.b false,.i (l.length:Int)]) (fun k=>qcs l i (i+1+k)) (dex l)
  [.i (l.length:Int),.i (i:Int),.i 0,.r (rD l),.i 0,.i 0,.i 0,.b false,.i (l.length:Int)] (l.length-(i+1)) (by omega)
  (fun k hk=>by
   rw[q24];have hj:i+1+k<l.length:=by omega
   have b:=B i (i+1+k) hi hj;rw[qtD] at b;simp only[show ((0:Nat):Int)=0 from rfl] at b;have w:=q3f hj big;cases hs:qcs l i (i+1+k) with
   | none=>
    rw[hs] at b;simp only[Option.elim] at b ⊢;simp only[STD,b,zJ b,n3,show ((i+1+k:Nat):Int)<(l.length:Int) by omega,w];rfl
   | some v=>
    rw[hs] at b;simp only[Option.elim,dex] at b ⊢;simp only[STD,b,zJ b,n3,show ((i+1+k:Nat):Int)<(l.length:Int) by omega,show ¬(1=0) by omega])
  (by rw[q24];simp only[STD,show ¬((i+1+(l.length-(i+1)):Nat):Int)<(l.length:Int) by omega])
 have D:=qgV (S:=wT) (fun i=>[.i (l.length:Int),.i (i:Int),.i 0,.r (rD l),.i 0,.i 0,.i 0,.b false,.i (l.length:Int)]) (fun i=>q5o (fun k=>qcs l i (i+1+k)) 0 (l.length-(i+1))) (dex l)
  [.i 0,.r (rD l),.i 0,.i 0,.i 0,.b false,.i (l.length:Int)] l.length big
  (fun i hi=>by
   rw[q2y];have c:=C i hi;simp only[qFb] at c;have w:=q3f hi big;cases hs:q5o (fun k=>qcs l i (i+1+k)) 0 (l.length-(i+1)) with
   | none=>
    rw[hs] at c;simp only[Option.elim] at c ⊢;simp only[STD,w,c,zJ c,show (i:Int)<(l.length:Int) by omega]
   | some v=>
    rw[hs] at c;simp only[Option.elim,dex] at c ⊢;simp only[STD,w,c,zJ c,show (i:Int)<(l.length:Int) by omega,show ¬(1=0) by omega])
  (by rw[q2y];simp only[STD,show ¬(l.length:Int)<(l.length:Int) by omega])
 simp only[show ((0:Nat):Int)=0 from rfl] at A D;unfold q8i;cases hs:q5o (fun i=>qk2 l i i 0) 0 l.length with
 | some v=>
  rw[hs] at A;simp only[Option.elim,dex] at A;simp only[STD,uV,A,zJ A,show ¬(1=0) by omega,fW,Option.elim];rfl
 | none=>
  rw[hs] at A;simp only[Option.elim] at A;simp only[];cases hs':q5o (fun i=>q5o (fun k=>qcs l i (i+1+k)) 0 (l.length-(i+1))) 0 l.length with
  | none=>
   rw[hs'] at D;simp only[Option.elim] at D;simp only[STD,uV,A,zJ A,D,zJ D,fW,Option.elim];rfl
  | some v=>
   rw[hs'] at D;simp only[Option.elim,dex] at D;simp only[STD,uV,A,zJ A,D,zJ D,fW,Option.elim,show ¬(1=0) by omega];rfl
theorem qzS{d:DQ}(h:GD d):qBG (tQ d.x) (tQ d.y) (tQ d.s)=0:=qAC ((jT h.x).ok (by omega) (by omega)) ((jT h.y).ok (by omega) (by omega)) ((q5u h.s).ok (by omega) (by omega)) h.nn
theorem quA{d:DQ}{px py:Rat}(gd:GD d)(hx:bnd 12 10 px)(hy:bnd 12 10 py) :(vK [.s (tQ d.x),.s (tQ d.y),.s (tQ d.s),.s (tQ px),.s (tQ py)]).run=some (0,[.b (decide (kX d.x d.y px py<=d.s)),.i 0]):=by
 rw[qie];have ca:=qgX _ _ _ (show (tQ d.x).length<=1000000 from by have:=qcU ((jT gd.x).ok (by omega) (by omega));omega) (show (tQ d.y).length<=1000000 from by have:=qcU ((jT gd.y).ok (by omega) (by omega));omega) (show (tQ d.s).length<=1000000 from by have:=qcU ((q5u gd.s).ok (by omega) (by omega));omega);rw[qzS gd] at ca;have c0:=q0i (hx.ok (by omega) (by omega));have c1:=q0i (hy.ok (by omega) (by omega));have L:=qgV (S:=um) (fun k=>[.i 2,.i (k:Int),.s (tQ d.x),.s (tQ d.y),.s (tQ d.s),.s (tQ px),.s (tQ py),.r [[.s (tQ px)],[.s (tQ py)]]]) (fun _=>(none:Option Nat)) (fun _=>[])
  [.s (tQ d.x),.s (tQ d.y),.s (tQ d.s),.s (tQ px),.s (tQ py)] 2 (by omega)
  (fun k hk=>by
   rw[q80];have w:=q3f hk (show 2<9223372036854775808 by omega);rcases (show k=0\/k=1 by omega) with rfl|rfl
   ·have c:(qJ [.s (cS [[.s (tQ px)],[.s (tQ py)]] ((0:Nat):Int) 0)]).run=_:=c0;simp only[STD,c,w,show ((0:Nat):Int)<2 by omega,show (0:Int)<=((0:Nat):Int) by omega,show qm [[U.s (tQ px)],[U.s (tQ py)]]=2 from rfl,and_self];rfl
   ·have c:(qJ [.s (cS [[.s (tQ px)],[.s (tQ py)]] ((1:Nat):Int) 0)]).run=_:=c1;simp only[STD,c,w,show ((1:Nat):Int)<2 by omega,show (0:Int)<=((1:Nat):Int) by omega,show qm [[U.s (tQ px)],[U.s (tQ py)]]=2 from rfl,and_self];rfl)
  (by rw[q80];simp only[STD,show ((2:Nat):Int)=2 from rfl,show ¬(2:Int)<2 by omega])
 simp only[show ((0:Nat):Int)=0 from rfl,q5o,Option.elim] at L;obtain⟨d1,d2,d3⟩:=gd.sh;have f:=qDH d1 d2 hx hy;have fb:=qrp d1 d2 hx hy;have o:=qBD fb d3 (by omega) (by omega) (by omega);by_cases c:kX d.x d.y px py<=d.s
 ·simp only[STD,ca,show qm [[U.s (tQ px)],[U.s (tQ py)]]=2 from rfl,L,zJ L,f,o,qn6,c,show ieq 0 0=true from rfl,decide_true]
 ·simp only[STD,ca,show qm [[U.s (tQ px)],[U.s (tQ py)]]=2 from rfl,L,zJ L,f,o,qn6,c,decide_false]
noncomputable def cD(x:R)(i:Nat):Int:=qBG (cS x (i:Int) 0) (cS x (i:Int) 1) (cS x (i:Int) 2)
noncomputable def lE(x:R):Int:=if 64<x.length then 5 else if qap (cD x) x.length=0 then (if x.length=0 then 13 else 0) else qap (cD x) x.length
theorem qpJ(x:R)(h:64<x.length\/∀i,i<x.length->∀j,(cS x (i:Int) j).length<=1000000):(q3J [.r x]).run=some (0,[.i (lE x)]):=by
 rw[qoI];unfold lE;by_cases hn:64<x.length
 ·have:(64:Int)<qm x:=by unfold qm;omega
  simp only[STD,this,hn]
 ·have h':∀i,i<x.length->∀j,(cS x (i:Int) j).length<=1000000:=by
   rcases h with h|h
   ·omega
   ·exact h
  have hn':¬(64:Int)<qm x:=by unfold qm;omega
  have L:=qsz (S:=q2I) (fun k=>[.r x,.r x,.i (qm x),.i (k:Int)]) (cD x) [] [.r x] x.length (by omega)
   (fun i hi=>by
    rw[qcK];have c:=qgX _ _ _ (h' i hi 0) (h' i hi 1) (h' i hi 2);have w:=q3f hi (show x.length<9223372036854775808 by omega);by_cases e:qBG (cS x (i:Int) 0) (cS x (i:Int) 1) (cS x (i:Int) 2)=0
    ·simp only[STD,c,e,w,qxM hi,qmx,and_self,cD]
    ·simp only[STD,c,e,qxM hi,qmx,and_self,cD])
   (by rw[qcK];simp only[STD,qww])
  simp only[show ((0:Nat):Int)=0 from rfl] at L;by_cases e:qap (cD x) x.length=0
  ·rw[if_pos e] at L;by_cases z:x.length=0
   ·have:qm x=0:=by unfold qm;omega
    rw[if_neg hn,if_pos e,if_pos z];have L':=L;rw[this] at L';simp only[STD,this,show ¬(64:Int)<0 by omega,L',zJ L']
   ·have:¬qm x=0:=by unfold qm;omega
    simp only[STD,hn',L,zJ L,hn,e,z,this]
  ·rw[if_neg e] at L;simp only[STD,hn',L,zJ L,hn,e,show ¬(1=0) by omega]
instance (s:qEl):Decidable (shT s):=by unfold shT;infer_instance
theorem qBd(x:R)(i j:Nat):cS x (i:Int) j=((x.getD i []).getD j (.i 0)).toS:=rfl
theorem qE4{l:List DQ}(hl:GDs l)(h0:l≠[])(hn:l.length<=64):lE (rD l)=0:=by
 have hlen:(rD l).length=l.length:=by simp[rD]
 have hz:l.length≠0:=fun h=>h0 (List.length_eq_zero_iff.1 h);unfold lE;rw[hlen,if_neg (by omega),if_neg hz,if_pos];refine qpz fun i hi=>?_;obtain⟨x1,x2,x3⟩:=qpE hi;unfold cD;rw[x1,x2,x3];exact qzS (hl.ix hi)
theorem qBj{l:List DQ}(hl:GDs l):∀i,i<(rD l).length->∀j,(cS (rD l) (i:Int) j).length<=1000000:=by
 intro i hi j;have hi':i<l.length:=by simpa[rD] using hi
 obtain⟨x1,x2,x3⟩:=qpE hi';have g:=hl.ix hi'
 match j with
 | 0=>rw[x1];have:=qcU ((jT g.x).ok (by omega) (by omega));omega
 | 1=>rw[x2];have:=qcU ((jT g.y).ok (by omega) (by omega));omega
 | 2=>rw[x3];have:=qcU ((q5u g.s).ok (by omega) (by omega));omega
 | j+3=>
  rw[qBd];have e:(rD l).getD i []=qDr (ix l i):=by unfold rD ix;simp[hi']
  rw[e];simp[qDr,U.toS]
theorem qwX{l:List DQ}(hl:GDs l)(h0:l≠[])(hn:l.length<=64):(q3J [.r (rD l)]).run=some (0,[.i 0]):=by rw[qpJ _ (.inr (qBj hl)),qE4 hl h0 hn]
def cW(o:Option (Nat×Nat×Int)):List PV:=o.elim [.b false,.i 0,.i 0,.i 0,.i 0] (fun w=>[.b true,.i (w.1:Int),.i (w.2.1:Int),.i w.2.2,.i 0])
theorem qr2{l:List DQ}(hl:GDs l)(h0:l≠[])(hn:l.length<=64):(q0H [.r (rD l)]).run=some (0,cW (q8i l)):=by
 rw[qkB];have a:=qwX hl h0 hn;have b:=qAr hl (by omega);cases hf:q8i l with
 | none=>
  rw[hf] at b;simp only[fW,Option.elim,qFu,qFM] at b;simp only[STD,a,b,cW,Option.elim]
 | some w=>
  rw[hf] at b;simp only[fW,Option.elim,qFu,qFM] at b;simp only[STD,a,b,cW,Option.elim]
def two(i j:Nat):R:=[[.i (i:Int)],[.i (j:Int)]]
def three(i j k:Nat):R:=[[.i (i:Int)],[.i (j:Int)],[.i (k:Int)]]
variable {L:List Nat}{l:R}{n:Nat}
def dO(l:R)(s:Rat)(i:Nat):DQ:=⟨(cI l (i:Int) 0:Rat),(cI l (i:Int) 1:Rat),s⟩
def dQ(l:R)(s:Rat)(n:Nat):List DQ:=(List.range n).map (dO l s)
theorem qsY (l:R)(s:Rat)(n:Nat):(dQ l s n).length=n:=by unfold dQ;rw[qEA,qF4]
theorem qxQ (l:R)(s:Rat)(n:Nat):qm (rD (dQ l s n))=(n:Int):=by rw[uV,qsY]
theorem qAX (l:R)(s:Rat)(n:Nat):yE (rD (dQ l s n)) [[.s (tQ (cI l (n:Int) 0:Rat)),.s (tQ (cI l (n:Int) 1:Rat)),.s (tQ s)]]=rD (dQ l s (n+1)):=by unfold yE rD dQ;rw[qFU,qEX,qEX];rfl
theorem qoW {s:Rat}{d:DQ}:d∈dQ l s n↔∃i,i<n/\d=dO l s i:=by unfold dQ;simp only[qF9,qFv];exact⟨fun⟨i,h,e⟩=>⟨i,h,e.symm⟩,fun⟨i,h,e⟩=>⟨i,h,e.symm⟩⟩
theorem qCy {s:Rat}{n i:Nat}(h:i<n):ix (dQ l s n) i=dO l s i:=by unfold ix dQ;rw[qEn,qEy,qFe h];rfl
theorem qCC {s:Rat}(h:0<n):dQ l s n≠[]:=fun e=>by have:=qsY l s n;rw[e] at this;simp at this;omega
def qjm(x:Int):Prop:=-9000<=x/\x<=9000
theorem qsH {x:Int}(h:qjm x):co x:=by unfold qjm at h;unfold co;omega
theorem qpM {x:Int}(h:qjm x):cls (x:Rat):=qop (qDw (by unfold qjm at h;omega) (by omega)) (by omega)
theorem qDP {s:Rat}(hs:qDs s)(h0:0<=s)(hp:∀i,i<n->qjm (cI l (i:Int) 0)/\qjm (cI l (i:Int) 1)):GDs (dQ l s n):=fun d hd=>by obtain⟨i,hi,rfl⟩:=qoW.1 hd;obtain⟨h1,h2⟩:=hp i hi;exact⟨qpM h1,qpM h2,hs,h0⟩
theorem qCB {i:Nat}(hi:i<l.length)(s x y:Rat):pw (dO l s i) x y=d2 ⟨x,y,0⟩ (pV (raR l) i)-s:=by rw[qmD hi];unfold pw dO d2;simp only[];grind
theorem qvp (lo:LO (raR l) 3 L n):(cO (raR l) L).z=0:=by rw[lo.cen];show Go.Eng.su (n+1) (fun j=>wts (tO (raR l) L) n j*(pV (raR l) (Lf (raR l) L j)).z)=0;rw[qj (g:=fun _=>0) (fun j hj=>by have:=lo.sup.lt j hj;rw[qbb] at this;rw[qmD this];grind)];exact q3P _
theorem qA7 (lo:LO (raR l) 3 L n):cO (raR l) L=⟨(cO (raR l) L).x,(cO (raR l) L).y,0⟩:=by
 have:=qvp lo;cases h:cO (raR l) L with
 | mk a b c=>rw[h] at this;simp only at this;rw[this]
theorem qsG (lo:LO (raR l) 3 L n){x y r:Rat}(h:∀i,i<l.length->d2 ⟨x,y,0⟩ (pV (raR l) i)<=r):sO (raR l) L+d2 ⟨x,y,0⟩ (cO (raR l) L)<=r:=by rw[lo.cen];exact qCJ lo.sup fun i hi=>h i (by rwa [qbb] at hi)
theorem qA2 (lo:LO (raR l) 3 L n){i:Nat}(hi:i<l.length):d2 (cO (raR l) L) (pV (raR l) i)<=sO (raR l) L:=by rw[lo.cen];exact lo.sup.all i (by rw[qbb];exact hi)
theorem qDj {a b:Rat}{c:V3}(h:d2 ⟨a,b,0⟩ c<=0):a=c.x/\b=c.y:=by
 unfold d2 at h;simp only[] at h;have s1:=q6F (a-c.x);have s2:=q6F (b-c.y);have s3:=q6F (0-c.z);have z1:(a-c.x)*(a-c.x)=0:=by grind
 have z2:(b-c.y)*(b-c.y)=0:=by grind
 constructor
 ·rcases qFn.1 z1 with h|h<;>grind
 ·rcases qFn.1 z2 with h|h<;>grind
theorem qzb {s:Rat}(hn:0<n)(h0:0<=s):(q8i (dQ l s n)).isSome=true↔qxW (dQ l s n):=quv (qCC hn) fun d hd=>by obtain⟨i,_,rfl⟩:=qoW.1 hd;exact h0
theorem qBs (o:Option (Nat×Nat×Int)):∃a b c,cW o=[.b o.isSome,.i a,.i b,.i c,.i 0]:=by
 cases o with
 | none=>exact⟨0,0,0,rfl⟩
 | some w=>exact⟨_,_,_,rfl⟩
theorem qxw {s:Rat}(g:GDs (dQ l s n))(hn:0<n)(h64:n<=64):∃a b c,(q0H [.r (rD (dQ l s n))]).run=some (0,[.b (q8i (dQ l s n)).isSome,.i a,.i b,.i c,.i 0]):=by obtain⟨a,b,c,e⟩:=qBs (q8i (dQ l s n));exact⟨a,b,c,by rw[qr2 g (qCC hn) (by rw[qsY];exact h64),e]⟩
theorem qy6 {x y P Q x0 y0 s D:Rat}(h1:x*(2*D)=P)(h2:y*(2*D)=Q)(h3:(x-x0)*(x-x0)+(y-y0)*(y-y0)=s):s*(4*(D*D))=(P-2*D*x0)*(P-2*D*x0)+(Q-2*D*y0)*(Q-2*D*y0):=by subst h1;subst h2;subst h3;grind
theorem qBS (lo:LO (raR l) 3 L n){D P Q:Int}(h1:(cO (raR l) L).x*((2*D:Int):Rat)=(P:Rat))(h2:(cO (raR l) L).y*((2*D:Int):Rat)=(Q:Rat)):∃S:Int,sO (raR l) L*((4*(D*D):Int):Rat)=(S:Rat):=by have e:=lo.sup.eq 0 (by omega);have hl:=lo.sup.lt 0 (by omega);rw[qbb] at hl;rw[<-lo.cen,qmD hl] at e;have hz:=qvp lo;unfold d2 at e;simp only[] at e;rw[hz] at e;obtain⟨i,hi⟩:∃i,i=Lf (raR l) L 0:=⟨_,rfl⟩;rw[<-hi] at e;refine⟨(P-2*D*cI l (i:Int) 0)*(P-2*D*cI l (i:Int) 0)+(Q-2*D*cI l (i:Int) 1)*(Q-2*D*cI l (i:Int) 1),?_⟩;have e2:((2:Int):Rat)=2:=rfl;have e4:((4:Int):Rat)=4:=rfl;rw[qEB,e2] at h1 h2;have k:=qy6 (x0:=(cI l (i:Int) 0:Rat)) (y0:=(cI l (i:Int) 1:Rat)) (s:=sO (raR l) L) h1 h2 (by grind);simp only[qEB,qFa,qF2,e2,e4];exact k
end Go.Eng

namespace Go.Eng
variable {L:List Nat}{i:Nat}{l:R}{n:Nat}
theorem qDY {P:Int}(h:P*P<=1000000000000000000):-1000000000<=P/\P<=1000000000:=by
 constructor
 ·apply qF5;intro hn;have h1:1000000001<=-P:=by omega
  have h2:=Int.mul_le_mul h1 h1 (by omega) (by omega);rw[qGl] at h2;omega
 ·apply qF5;intro hn;have h1:1000000001<=P:=by omega
  have h2:=Int.mul_le_mul h1 h1 (by omega) (by omega);omega
def qxh(x:Int):Prop:=-100<=x/\x<=100
theorem qCu (hi:i<l.length)(h:qxh (cI l (i:Int) 0)/\qxh (cI l (i:Int) 1)):d2 ⟨0,0,0⟩ (pV (raR l) i)<=20000:=by
 rw[qmD hi];obtain⟨h1,h2⟩:=h;unfold qxh at h1 h2;have m1:=qwA h1.1 h1.2 h1.1 h1.2;have m2:=qwA h2.1 h2.2 h2.1 h2.2;have k:cI l (i:Int) 0*cI l (i:Int) 0+cI l (i:Int) 1*cI l (i:Int) 1<=20000:=by omega
 have k':=Rat.intCast_le_intCast.2 k;rw[qFa,qEB,qEB] at k';have e:((20000:Int):Rat)=20000:=rfl;rw[e] at k';unfold d2;simp only[];grind
theorem qzZ (lo:LO (raR l) 3 L n)(hK:∀i,i<l.length->qxh (cI l (i:Int) 0)/\qxh (cI l (i:Int) 1)):0<=sO (raR l) L/\sO (raR l) L<=20000/\(cO (raR l) L).x*(cO (raR l) L).x<=20000/\(cO (raR l) L).y*(cO (raR l) L).y<=20000:=by
 have h0:0<=sO (raR l) L:=qCW lo.sup (by omega);have h:=qsG lo (x:=0) (y:=0) (r:=20000) fun i hi=>qCu hi (hK i hi);have e:d2 ⟨0,0,0⟩ (cO (raR l) L)=(cO (raR l) L).x*(cO (raR l) L).x+(cO (raR l) L).y*(cO (raR l) L).y+(cO (raR l) L).z*(cO (raR l) L).z:=by unfold d2;simp only[];grind
 have s1:=q6F (cO (raR l) L).x;have s2:=q6F (cO (raR l) L).y;have s3:=q6F (cO (raR l) L).z;rw[e] at h;exact⟨h0,by grind,by grind,by grind⟩
theorem qtP (lo:LO (raR l) 3 L n)(hK:∀i,i<l.length->qxh (cI l (i:Int) 0)/\qxh (cI l (i:Int) 1)) :bnd 17 13 (sO (raR l) L)/\(∀k:Int,0<=k->k<50->bnd 17 13 (sO (raR l) L*Rat.divInt k 50))/\bnd 12 10 (cO (raR l) L).x/\bnd 12 10 (cO (raR l) L).y:=by
 obtain⟨D,P,Q,d0,db,h1,h2,_⟩:=qyV lo (M:=200) (by omega) fun i j hi hj=>by obtain⟨a1,a2⟩:=hK i hi;obtain⟨b1,b2⟩:=hK j hj;unfold qxh at a1 a2 b1 b2;omega
 obtain⟨S,hS⟩:=qBS lo h1 h2;obtain⟨l0,l1,l2,l3⟩:=qzZ lo hK;have db':-80000<=D/\D<=80000:=by omega
 have dd:=qwA db'.1 db'.2 db'.1 db'.2;have dp:0<D*D:=by
  rcases (show 0<D\/0 < -D by omega) with q|q
  ·exact Int.mul_pos q q
  ·have:=Int.mul_pos q q;rwa [qGl] at this
 have rnn:(0:Rat)<=((4*(D*D):Int):Rat):=Rat.intCast_nonneg.2 (by omega);have e2:((20000:Int):Rat)=20000:=rfl;have lim:∀q:Rat,0<=q->q<=20000->q*((4*(D*D):Int):Rat)<=((20000*(4*(D*D)):Int):Rat):=fun q _ hq=>by rw[qEB 20000,e2];exact Rat.mul_le_mul_of_nonneg_right hq rnn
 have s1:S<=20000*(4*(D*D)):=Rat.intCast_le_intCast.1 (by rw[<-hS];exact lim _ l0 l1);have s0:0<=S:=Rat.intCast_nonneg.1 (by rw[<-hS];exact qEI l0 rnn);have pq:∀(x:Rat) (P:Int),x*((2*D:Int):Rat)=(P:Rat)->x*x<=20000->bnd 12 10 x:=fun x P h hx=>by
  have e:((P*P:Int):Rat)=x*x*((4*(D*D):Int):Rat):=by have f2:((2:Int):Rat)=2:=rfl;have f4:((4:Int):Rat)=4:=rfl;rw[qEB,<-h];simp only[qEB,f2,f4];grind
  have k:P*P<=20000*(4*(D*D)):=Rat.intCast_le_intCast.1 (by rw[e];exact lim _ (q6F x) hx);have k2:=qDY (P:=P) (by omega);exact qed (a:=11) (b:=9) (by omega) h (by omega) (by omega)
 refine⟨qed (a:=16) (b:=12) (by omega) hS (by omega) (by omega),fun k k0 k1=>?_,pq _ P h1 l2,pq _ Q h2 l3⟩;have m:=qwA (a:=S) (b:=k) (A:=20000*(4*6400000000)) (B:=50) (by omega) (by omega) (by omega) (by omega);refine qed (P:=S*k) (M:=50*(4*(D*D))) (a:=16) (b:=12) (by omega) ?_ (by omega) (by omega);have f50:((50:Int):Rat)=50:=rfl;rw[Rat.divInt_eq_div,qEB 50,qEB S,<-hS,f50];have n50:(50:Rat)≠0:=by decide
 have c:(k:Rat)/50*50=(k:Rat):=Rat.div_mul_cancel n50;grind
theorem qmW (l:R):∃b,(uE [.r l]).run=some (0,[.b b])/\(b=true->0<l.length/\l.length<=8/\∀i,i<l.length->(-50<=cI l (i:Int) 0/\cI l (i:Int) 0<=50)/\-50<=cI l (i:Int) 1/\cI l (i:Int) 1<=50):=by
 have lx:qm l=(l.length:Int):=rfl;rw[qkX];by_cases h1:0<l.length
 ·by_cases h2:l.length<=8
  ·obtain⟨bad,hbad⟩:∃bad:Nat->Bool,bad=fun i:Nat=>decide (cI l (i:Int) 0 < -50)||(decide (50<cI l (i:Int) 0)||(decide (cI l (i:Int) 1 < -50)||decide (50<cI l (i:Int) 1))):=⟨_,rfl⟩;have one:∀i:Nat,(jE [.i (cI l (i:Int) 0),.i (cI l (i:Int) 1)]).run=some (0,[.b (bad i)]):=fun i=>by
    rw[qhY,hbad];by_cases q1:cI l (i:Int) 0 < -50
    ·simp only[STD,q1,decide_true,Bool.true_or]
    ·by_cases q2:50<cI l (i:Int) 0
     ·simp only[STD,q1,q2,decide_true,decide_false,Bool.true_or,Bool.false_or]
     ·by_cases q3:cI l (i:Int) 1 < -50
      ·simp only[STD,q1,q2,q3,decide_true,decide_false,Bool.true_or,Bool.false_or]
      ·simp only[STD,q1,q2,q3,decide_false,Bool.false_or];rfl
   have key:=q2n (S:=qg) (fun k=>[.r l,.i (l.length:Int),.i (k:Int),.r l,.r l]) (fun k=>if bad k=true then some (1,[.i (k:Int),.r l,.r l]) else none) (0,[.r l,.r l]) l.length (by omega)
    (fun k hk hf=>by
     have h0:bad k=false:=by
      cases hb:bad k with
      | true=>rw[if_pos hb] at hf;cases hf
      | false=>rfl
     rw[qx];simp only[STD,lx,one k,h0,q3f hk (show l.length<9223372036854775808 by omega),show (k:Int)<l.length by omega,show (0:Int)<=k by omega,and_self])
    (fun k r hk hf=>by
     have h0:bad k=true:=by
      cases hb:bad k with
      | false=>rw[if_neg (by rw[hb];decide)] at hf;cases hf
      | true=>rfl
     rw[if_pos h0] at hf;cases hf;rw[qx];simp only[STD,lx,one k,h0,show (k:Int)<l.length by omega,show (0:Int)<=k by omega,and_self])
    (by rw[qx];simp only[STD,show ¬(l.length:Int)<l.length by omega])
   have cf:∃c,(qk [.r l]).run=some (0,[.b c])/\(c=false->∀k,k<l.length->bad k=false):=by
    rw[ve];cases hs:q5o (fun k=>if bad k=true then some (1,[.i (k:Int),.r l,.r l]) else (none:Option (Nat×List PV))) 0 l.length with
    | none=>
     rw[hs] at key;have key':(qh qg [.r l,.i (l.length:Int),.i 0,.r l,.r l]).run=some (0,[.r l,.r l]):=key;refine⟨false,by simp only[STD,lx,key',zJ key'],fun _ k hk=>?_⟩;have:=q4d hs k (by omega) (by omega);cases hb:bad k with
     | true=>rw[hb] at this;simp at this
     | false=>rfl
    | some r=>
     rw[hs] at key;obtain⟨k,_,_,h3⟩:=qh1 hs;split at h3
     ·cases h3;have key':(qh qg [.r l,.i (l.length:Int),.i 0,.r l,.r l]).run=some (1,[.i (k:Int),.r l,.r l]):=key;exact⟨true,by simp only[STD,lx,key',zJ key'];rfl,fun h=>by cases h⟩
     ·cases h3
   obtain⟨c,r,hc⟩:=cf;refine⟨!c,by simp only[STD,lx,r,show (0:Int)<l.length by omega,show (l.length:Int)<=8 by omega],fun h=>⟨h1,h2,fun i hi=>?_⟩⟩;have hc0:c=false:=by cases c<;>simp at h ⊢
   have:=hc hc0 i hi;rw[hbad] at this;simp only[Bool.or_eq_false_iff,decide_eq_false_iff_not] at this;omega
  ·exact⟨false,by simp only[STD,lx,show (0:Int)<l.length by omega,show ¬(l.length:Int)<=8 by omega],fun h=>by cases h⟩
 ·exact⟨false,by simp only[STD,lx,show ¬(0:Int)<l.length by omega],fun h=>by cases h⟩
def l1R(x0:R)(x1 x2:Int):R:=yE x0 [[.i x1,.i x2]]
theorem qCh (x0:R)(x1 x2:Int):(l1R x0 x1 x2).length=x0.length+1:=by unfold l1R yE;rw[qEL];rfl
theorem quc {x0:R}{x1 x2:Int}(h:i<x0.length)(j:Nat):cI (l1R x0 x1 x2) (i:Int) j=cI x0 (i:Int) j:=by
 have e:(l1R x0 x1 x2).getD ((i:Int).toNat) []=x0.getD ((i:Int).toNat) []:=by unfold l1R yE;rw[qEK,qEn,qEn,qEx h]
 unfold cI zY;rw[e]
theorem qu1 (x0:R)(x1 x2:Int):cI (l1R x0 x1 x2) (x0.length:Int) 0=x1/\cI (l1R x0 x1 x2) (x0.length:Int) 1=x2:=by
 have e:(l1R x0 x1 x2).getD ((x0.length:Int).toNat) []=[.i x1,.i x2]:=by unfold l1R yE;rw[qEK,qEn,qEH (qEo _),qFD];rfl
 refine⟨?_,?_⟩<;>(conv=>lhs;unfold cI zY)<;>rw[e]<;>rfl
theorem qwb (lo:LO (raR l) 3 L n)(x1 x2:Int):qxW (dQ (l1R l x1 x2) (sO (raR l) L) (l.length+1))↔kX (x1:Rat) (x2:Rat) (cO (raR l) L).x (cO (raR l) L).y<=sO (raR l) L:=by
 have same:∀i,i<l.length->dO (l1R l x1 x2) (sO (raR l) L) i=dO l (sO (raR l) L) i:=fun i hi=>by unfold dO;rw[quc hi,quc hi]
 have last:∀x y:Rat,pw (dO (l1R l x1 x2) (sO (raR l) L) l.length) x y=kX (x1:Rat) (x2:Rat) x y-sO (raR l) L:=fun x y=>by unfold pw dO kX;rw[(qu1 l x1 x2).1,(qu1 l x1 x2).2];grind
 constructor
 ·rintro ⟨x,y,h⟩;have k:=qsG lo (x:=x) (y:=y) (r:=sO (raR l) L) fun i hi=>by have:=h _ (qoW.2 ⟨i,by omega,rfl⟩);rw[same i hi,qCB hi] at this;grind
  obtain⟨e1,e2⟩:=qDj (a:=x) (b:=y) (c:=cO (raR l) L) (by grind);have:=h _ (qoW.2 ⟨l.length,by omega,rfl⟩);rw[last,e1,e2] at this;grind
 ·intro hc;refine⟨(cO (raR l) L).x,(cO (raR l) L).y,fun d hd=>?_⟩;obtain⟨i,hi,rfl⟩:=qoW.1 hd;by_cases c:i<l.length
  ·rw[same i c,qCB c,<-qA7 lo];have:=qA2 lo c;grind
  ·obtain rfl:i=l.length:=by omega
   rw[last];grind
theorem qCg (hi:i<l.length)(lo:LO (raR l) 3 L n):kX (cI l (i:Int) 0:Rat) (cI l (i:Int) 1:Rat) (cO (raR l) L).x (cO (raR l) L).y=d2 (cO (raR l) L) (pV (raR l) i):=by rw[qmD hi,qA7 lo];unfold kX d2;simp only[];grind
end Go.Eng

namespace Go.Eng
theorem qAw{x0 l:R}{s:Rat}{m:Nat}(hm:m<=64)(hl:l.length=m)(hp:∀i,i<m->qjm (cI l (i:Int) 0)/\qjm (cI l (i:Int) 1))(cx cy:Bs) :(qh zq [.r x0,.s (tQ s),.i (m:Int),.i 0,.s cx,.s cy,.r l,.r []]).run=some (0,[.r x0,.s cx,.s cy,.r (rD (dQ l s m))]):=by
 have lr:qm l=(m:Int):=by unfold qm;rw[hl]
 have key:=zI (S:=zq) (fun i=>[.r x0,.s (tQ s),.i (m:Int),.i (i:Int),.s cx,.s cy,.r l,.r (rD (dQ l s i))]) (0,[.r x0,.s cx,.s cy,.r (rD (dQ l s m))]) m (by omega) (fun i hi=>by
  obtain⟨h1,h2⟩:=hp i hi;have w:=q3f hi (show m<9223372036854775808 by omega);have e1:∀a b c:U,qm [[a,b,c]]=1:=fun _ _ _=>rfl;rw[q1q];simp only[STD,lr,w,qh8 (qei (qsH h1)),qh8 (qei (qsH h2)),qxQ,e1,qAX,show (i:Int)<m by omega,show (0:Int)<=i by omega,show (i:Int)+1<=2932031007402 by omega,and_self]) (by
  rw[q1q];simp only[STD,Int.lt_irrefl])
 exact key
theorem qEe{x0:R}{ds:List DQ}{m:Nat}(hm:m<=64)(hx:x0.length+1=m)(hd:ds.length=m){cx cy:Rat}(hc:∀i,i<m->(vK [.s (tQ (ix ds i).x),.s (tQ (ix ds i).y),.s (tQ (ix ds i).s),.s (tQ cx),.s (tQ cy)]).run=some (0,[.b (decide (kX (ix ds i).x (ix ds i).y cx cy<=(ix ds i).s)),.i 0]))(hin:∀i,i<x0.length->kX (ix ds i).x (ix ds i).y cx cy<=(ix ds i).s) :(qh zr [.r x0,.i (m:Int),.i 0,.s (tQ cx),.s (tQ cy),.r (rD ds)]).run=some (0,[.r x0,.s (tQ cx),.s (tQ cy),.r (rD ds)]):=by
 have lr:qm (rD ds)=(m:Int):=by rw[uV,hd]
 have lx:qm x0=(x0.length:Int):=rfl;have key:=zI (S:=zr) (fun i=>[.r x0,.i (m:Int),.i (i:Int),.s (tQ cx),.s (tQ cy),.r (rD ds)]) (0,[.r x0,.s (tQ cx),.s (tQ cy),.r (rD ds)]) m (by omega) (fun i hi=>by
  obtain⟨q1,q2,q3⟩:=qpE (l:=ds) (i:=i) (by omega);have w:=q3f hi (show m<9223372036854775808 by omega);have c:=hc i hi;rw[q1t];by_cases k:i<x0.length
  ·have z:=hin i k;simp only[STD,lr,lx,w,q1,q2,q3,c,z,show (i:Int)<m by omega,show (0:Int)<=i by omega,show (i:Int)<x0.length by omega,and_self]
  ·simp only[STD,lr,lx,w,q1,q2,q3,c,show (i:Int)<m by omega,show (0:Int)<=i by omega,show ¬(i:Int)<x0.length by omega,and_self]) (by
  rw[q1t];simp only[STD,Int.lt_irrefl])
 exact key
theorem qcD(x0:R)(x1 x2:Int)(_:UFit (.sl [(.int .i64),(.int .i64)]) (.l x0))(wex0:x0.length*16<=140737488351232)(_:IntKind.min .i64<=x1)(_:x1<=IntKind.max .i64)(_:IntKind.min .i64<=x2)(_:x2<=IntKind.max .i64):(vr [.r x0,.i x1,.i x2]).run=some (0,[.b true]):=by
 obtain⟨b,hb,fb⟩:=qmW x0;obtain⟨c,hc,fc⟩:=qmW [[.i x1,.i x2]];have lx:qm x0=(x0.length:Int):=rfl;rw[qar];cases b with
 | false=>simp only[STD,hb,q91]
 | true=>
  by_cases h5:5<qm x0
  ·simp only[STD,hb,h5,q91]
  cases c with
  | false=>simp only[STD,hb,h5,hc,q91]
  | true=>
   obtain⟨n0,n8,near⟩:=fb rfl;obtain⟨_,_,np⟩:=fc rfl;have hp:(-50<=x1/\x1<=50)/\-50<=x2/\x2<=50:=np 0 Nat.one_pos;have n5:x0.length<=5:=by rw[lx] at h5;omega
   have ti:∀i,i<x0.length->qxh (cI x0 (i:Int) 0)/\qxh (cI x0 (i:Int) 1):=fun i hi=>by have:=near i hi;unfold qxh;omega
   have h0:qpd x0=0:=qyj n0 (by omega) fun i hi=>by have:=near i hi;unfold co;omega
   obtain⟨L,n,lo,r⟩:=qmK h0;obtain⟨s1,_,s3,s4⟩:=qtP lo ti;have snn:=(qzZ lo ti).1;have sm:∀i,i<x0.length+1->qjm (cI (l1R x0 x1 x2) (i:Int) 0)/\qjm (cI (l1R x0 x1 x2) (i:Int) 1):=fun i hi=>by
    by_cases k:i<x0.length
    ·rw[quc k,quc k];have:=near i k;unfold qjm;omega
    ·obtain rfl:i=x0.length:=by omega
     rw[(qu1 x0 x1 x2).1,(qu1 x0 x1 x2).2];unfold qjm;omega
   obtain⟨s,hs⟩:∃s,s=sO (raR x0) L:=⟨_,rfl⟩;obtain⟨cx,hcx⟩:∃cx,cx=(cO (raR x0) L).x:=⟨_,rfl⟩;obtain⟨cy,hcy⟩:∃cy,cy=(cO (raR x0) L).y:=⟨_,rfl⟩;have mm:=qwb lo x1 x2;have fd:∀i,i<x0.length->kX (cI x0 (i:Int) 0:Rat) (cI x0 (i:Int) 1:Rat) cx cy<=s:=fun i hi=>by rw[hcx,hcy,hs,qCg hi lo];exact qA2 lo hi
   rw[<-hs,<-hcx,<-hcy] at r mm;rw[<-hs] at s1 snn;rw[<-hcx] at s3;rw[<-hcy] at s4;have g:GDs (dQ (l1R x0 x1 x2) s (x0.length+1)):=qDP s1 snn sm;have cl:(qD [.r x0]).run=some (0,[.r x0]):=by have e0:qm ([]:R)=0:=rfl;rw[q3k];simp only[STD,lx,e0,show (0:Int)<x0.length by omega,show (0:Int)+(x0.length:Int)<=8796093022208 by omega];rfl
   have l1:yE x0 [[.i x1,.i x2]]=l1R x0 x1 x2:=rfl;have ll:=qCh x0 x1 x2;have rl:qm (l1R x0 x1 x2)=((x0.length+1:Nat):Int):=by unfold qm;rw[ll]
   have d1:=qAw (x0:=x0) (s:=s) (show x0.length+1<=64 by omega) ll sm (tQ cx) (tQ cy);have dl:=qsY (l1R x0 x1 x2) s (x0.length+1);have cn:∀i,i<x0.length+1->(vK [.s (tQ (ix (dQ (l1R x0 x1 x2) s (x0.length+1)) i).x),.s (tQ (ix (dQ (l1R x0 x1 x2) s (x0.length+1)) i).y),.s (tQ (ix (dQ (l1R x0 x1 x2) s (x0.length+1)) i).s),.s (tQ cx),.s (tQ cy)]).run =
     some (0,[.b (decide (kX (ix (dQ (l1R x0 x1 x2) s (x0.length+1)) i).x (ix (dQ (l1R x0 x1 x2) s (x0.length+1)) i).y cx cy<=(ix (dQ (l1R x0 x1 x2) s (x0.length+1)) i).s)),.i 0]):=fun i hi=>quA (g.ix (by rw[dl];exact hi)) s3 s4
   have d2:=qEe (x0:=x0) (show x0.length+1<=64 by omega) rfl dl cn fun i hi=>by rw[qCy (show i<x0.length+1 by omega)];show kX (cI (l1R x0 x1 x2) (i:Int) 0:Rat) (cI (l1R x0 x1 x2) (i:Int) 1:Rat) cx cy<=s;rw[quc hi,quc hi];exact fd i hi
   obtain⟨q1,q2,q3⟩:=qpE (l:=dQ (l1R x0 x1 x2) s (x0.length+1)) (i:=x0.length) (by rw[dl];omega);have ci:=cn x0.length (by omega);rw[<-q1,<-q2,<-q3,qCy (show x0.length<x0.length+1 by omega)] at ci;have ef:kX (dO (l1R x0 x1 x2) s x0.length).x (dO (l1R x0 x1 x2) s x0.length).y cx cy=kX (x1:Rat) (x2:Rat) cx cy:=by unfold dO;rw[(qu1 x0 x1 x2).1,(qu1 x0 x1 x2).2]
   rw[ef,show (dO (l1R x0 x1 x2) s x0.length).s=s from rfl] at ci;obtain⟨a1,a2,a3,cm⟩:=qxw g (by omega) (by omega);have eb:(q8i (dQ (l1R x0 x1 x2) s (x0.length+1))).isSome=decide (kX (x1:Rat) (x2:Rat) cx cy<=s):=by rw[Bool.eq_iff_iff,qzb (by omega) snn,mm,decide_eq_true_iff]
   rw[eb] at cm;have rd:=qxQ (l1R x0 x1 x2) s (x0.length+1);have e1:qm [[U.i x1,.i x2]]=1:=rfl;simp only[STD,hb,show ¬(5:Int)<(x0.length:Int) by omega,hc,r,cl,l1,rl,e1,d1,rd,d2,zJ d2,ci,cm,q91,lx,show (x0.length:Int)+1<=8796093022208 by omega,show (x0.length:Int)<((x0.length+1:Nat):Int) by omega,show (0:Int)<=(x0.length:Int) by omega,and_self]
end Go.Eng

