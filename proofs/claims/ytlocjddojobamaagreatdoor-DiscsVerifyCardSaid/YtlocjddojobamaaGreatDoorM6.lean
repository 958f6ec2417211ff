/- Texts of the proof, merged: what the code computes, and plain laws. No statement stands here. -/
import Derived.Test.YtlocjddojobamaaGreatDoorM5
namespace Go.Eng
def two (i j:Nat):R:=[[.i (i:Int)],[.i (j:Int)]]
def qnV (i j k:Nat):R:=[[.i (i:Int)],[.i (j:Int)],[.i (k:Int)]]
def q2t (l:List DQ) (i j:Nat):Option R:=if (q1F [ix l i,ix l j]).isSome=true then none else some (two i j)
def q54 (l:List DQ) (i j k:Nat):Option R:=if (q1F [ix l i,ix l j,ix l k]).isSome=true then none else some (qnV i j k)
def qzD (l:List DQ):Option R:=uW (fun i=>uW (fun k=>q2t l i (i+1+k)) 0 (l.length - (i+1))) 0 l.length
def qA1 (l:List DQ):Option R:=uW (fun i=>uW (fun k=>uW (fun m=>q54 l i (i+1+k) (i+1+k+1+m)) 0 (l.length - (i+1+k+1))) 0 (l.length - (i+1))) 0 l.length
def qco (l:List DQ):R:=(qzD l).elim ((qA1 l).getD []) id
theorem qEC {a b:DQ} (ga:GD a) (gb:GD b):GDs [a,b]:=fun d hd=>by
 simp only [List.mem_cons,List.not_mem_nil,or_false] at hd
 rcases hd with rfl | rfl <;> assumption
theorem qFs {a b c:DQ} (ga:GD a) (gb:GD b) (gc:GD c):GDs [a,b,c]:=fun d hd=>by
 simp only [List.mem_cons,List.not_mem_nil,or_false] at hd
 rcases hd with rfl | rfl | rfl <;> assumption
theorem qtl (o:Option (Nat × Nat × Int)):∃ a b c,fW o=[.i a,.i b,.i c,.b o.isSome]:=by
 cases o with
 | none=>exact ⟨_,_,_,rfl⟩
 | some w=>exact ⟨_,_,_,rfl⟩
theorem qFo (l:List DQ) (i j k:Nat) (hk:k<2):∃ m,(m=i∨m=j)∧cI (two i j) (k:Int) 0=(m:Int)∧[qf3 (ix l i),qf3 (ix l j)].take (k+1)=[qf3 (ix l i),qf3 (ix l j)].take k++[qf3 (ix l m)]:=by
 rcases (show k=0∨k=1 by omega) with rfl | rfl
 ·exact ⟨i,.inl rfl,rfl,rfl⟩
 ·exact ⟨j,.inr rfl,rfl,rfl⟩
theorem qFe (l:List DQ) (i j o k:Nat) (hk:k<3):∃ m,(m=i∨m=j∨m=o)∧cI (qnV i j o) (k:Int) 0=(m:Int)∧[qf3 (ix l i),qf3 (ix l j),qf3 (ix l o)].take (k+1)=[qf3 (ix l i),qf3 (ix l j),qf3 (ix l o)].take k++[qf3 (ix l m)]:=by
 rcases (show k=0∨k=1∨k=2 by omega) with rfl | rfl | rfl
 ·exact ⟨i,.inl rfl,rfl,rfl⟩
 ·exact ⟨j,.inr (.inl rfl),rfl,rfl⟩
 ·exact ⟨o,.inr (.inr rfl),rfl,rfl⟩
theorem qvv {x:R} {k:Nat}:qH (x.take k)≤qH x:=by unfold qH;rw [List.length_take];omega
theorem qyD (i j:Nat):qH (two i j)=2:=rfl
theorem qsC (i j k:Nat):qH (qnV i j k)=3:=rfl
theorem qA7 {l:List DQ} (_:l.length<1000000) {i j:Nat} (hi:i<l.length) (hj:j<l.length) (a b c d e f g h:Int) :
  (qg wj [.i (qH (two i j)),.i 0,.i a,.i b,.i c,.i d,.i e,.r (rD l),.i f,.i g,.i h,.r (rD l),.i 0,.r (two i j),.r []]).run=some (0,[.i a,.i b,.i c,.i d,.i e,.r (rD l),.i f,.i g,.i h,.r (rD l),.i 0,.r (two i j),.r (rD [ix l i,ix l j])]):=by
 have key:=kP (S:=wj) (fun k=>[.i (qH (two i j)),.i (k:Int),.i a,.i b,.i c,.i d,.i e,.r (rD l),.i f,.i g,.i h,.r (rD l),.i 0,.r (two i j),.r ([qf3 (ix l i),qf3 (ix l j)].take k)])
  (0,[.i a,.i b,.i c,.i d,.i e,.r (rD l),.i f,.i g,.i h,.r (rD l),.i 0,.r (two i j),.r (rD [ix l i,ix l j])]) 2 (by omega)
  (fun k hk=>by
   rw [q1B]
   obtain ⟨m,hm,e1,e2⟩:=qFo l i j k hk
   have hml:m<l.length:=by rcases hm with rfl | rfl <;> assumption
   obtain ⟨x1,x2,x3⟩:=qaQ hml
   have w:=q0e hk (show 2<9223372036854775808 by omega)
   have t:=qvv (x:=[qf3 (ix l i),qf3 (ix l j)]) (k:=k)
   have t2:qH [qf3 (ix l i),qf3 (ix l j)]=2:=rfl
   have t1:qH [[U.s (tQ (ix l m).x),U.s (tQ (ix l m).y),U.s (tQ (ix l m).s)]]=1:=rfl
   rw [e1,x1,x2,x3,e2]
   simp only [STD,qyD,show (k:Int)<2 by omega,yq,qQ,show (m:Int)<(l.length:Int) by omega,and_self,w,show qH ([qf3 (ix l i),qf3 (ix l j)].take k)+qH [[U.s (tQ (ix l m).x),U.s (tQ (ix l m).y),U.s (tQ (ix l m).s)]]≤2932031007402 by omega]
   rfl)
  (by rw [q1B];simp only [STD,qyD,show ¬ ((2:Nat):Int)<2 by omega];rfl)
 exact key
theorem qBf {l:List DQ} (_:l.length<1000000) {i j o:Nat} (hi:i<l.length) (hj:j<l.length) (ho:o<l.length) (a b c d e f g h p q:Int) :
  (qg wo [.i (qH (qnV i j o)),.i 0,.i a,.i b,.i c,.i d,.i e,.i f,.r (rD l),.i g,.i h,.i p,.i q,.r (rD l),.i 0,.r (qnV i j o),.r []]).run=some (0,[.i a,.i b,.i c,.i d,.i e,.i f,.r (rD l),.i g,.i h,.i p,.i q,.r (rD l),.i 0,.r (qnV i j o),.r (rD [ix l i,ix l j,ix l o])]):=by
 have key:=kP (S:=wo) (fun k=>[.i (qH (qnV i j o)),.i (k:Int),.i a,.i b,.i c,.i d,.i e,.i f,.r (rD l),.i g,.i h,.i p,.i q,.r (rD l),.i 0,.r (qnV i j o),.r ([qf3 (ix l i),qf3 (ix l j),qf3 (ix l o)].take k)])
  (0,[.i a,.i b,.i c,.i d,.i e,.i f,.r (rD l),.i g,.i h,.i p,.i q,.r (rD l),.i 0,.r (qnV i j o),.r (rD [ix l i,ix l j,ix l o])]) 3 (by omega)
  (fun k hk=>by
   rw [q1E]
   obtain ⟨m,hm,e1,e2⟩:=qFe l i j o k hk
   have hml:m<l.length:=by rcases hm with rfl | rfl | rfl <;> assumption
   obtain ⟨x1,x2,x3⟩:=qaQ hml
   have w:=q0e hk (show 3<9223372036854775808 by omega)
   have t:=qvv (x:=[qf3 (ix l i),qf3 (ix l j),qf3 (ix l o)]) (k:=k)
   have t2:qH [qf3 (ix l i),qf3 (ix l j),qf3 (ix l o)]=3:=rfl
   have t1:qH [[U.s (tQ (ix l m).x),U.s (tQ (ix l m).y),U.s (tQ (ix l m).s)]]=1:=rfl
   rw [e1,x1,x2,x3,e2]
   simp only [STD,qsC,show (k:Int)<3 by omega,yq,qQ,show (m:Int)<(l.length:Int) by omega,and_self,w,show qH ([qf3 (ix l i),qf3 (ix l j),qf3 (ix l o)].take k)+qH [[U.s (tQ (ix l m).x),U.s (tQ (ix l m).y),U.s (tQ (ix l m).s)]]≤2932031007402 by omega]
   rfl)
  (by rw [q1E];simp only [STD,qsC,show ¬ ((3:Nat):Int)<3 by omega];rfl)
 exact key
theorem qj1 {l:List DQ} (hl:GDs l) (h0:l≠[]) (hn:l.length≤64):(zy [.r (rD l)]).run=some (0,[.r (qco l),.i 0]):=by
 rw [q65]
 have a:=qk6 hl h0 hn
 have big:l.length<9223372036854775808:=by omega
 have A:=fun i (hi:i<l.length)=>j9 (S:=zh) (fun k=>[.i (i:Int),.i ((i+1+k:Nat):Int),.i (l.length:Int),.i (i:Int),.r (rD l),.i 0]) (fun k=>q2t l i (i+1+k)) (fun r=>[.i 0,.r r])
  [.i (l.length:Int),.i (i:Int),.r (rD l),.i 0] (l.length - (i+1)) (by omega)
  (fun k hk=>by
   rw [q4g]
   have hj:i+1+k<l.length:=by omega
   have g:=qA7 (l:=l) (by omega) hi hj (i:Int) ((i+1+k:Nat):Int) (l.length:Int) (i:Int) ((i+1+k:Nat):Int) (l.length:Int) (i:Int) ((i+1+k:Nat):Int)
   have f:=qwO (qEC (hl.ix hi) (hl.ix hj)) (by simp)
   obtain ⟨u,v,w,hfw⟩:=qtl (q1F [ix l i,ix l (i+1+k)])
   rw [hfw] at f
   simp only [List.cons_append,List.nil_append] at f
   have ws:=q0e hj big
   have tw:[[U.i (i:Int)],[U.i ((i+1+k:Nat):Int)]]=two i (i+1+k):=rfl
   rw [tw]
   unfold q2t
   cases hs:(q1F [ix l i,ix l (i+1+k)]).isSome
   ·rw [hs] at f
    simp only [STD,qQ,g,f,show ((i+1+k:Nat):Int)<(l.length:Int) by omega,show ieq 0 0=true from rfl,Option.elim,tw]
   ·rw [hs] at f
    simp only [STD,qQ,g,f,show ((i+1+k:Nat):Int)<(l.length:Int) by omega,Option.elim,ws]
    rfl)
  (by rw [q4g];simp only [STD,qQ,show ¬ ((i+1+(l.length - (i+1)):Nat):Int)<(l.length:Int) by omega])
 have B:=j9 (S:=qz) (fun i=>[.i (l.length:Int),.i (i:Int),.r (rD l),.i 0]) (fun i=>uW (fun k=>q2t l i (i+1+k)) 0 (l.length - (i+1))) (fun r=>[.i 0,.r r])
  [.r (rD l),.i 0] l.length big
  (fun i hi=>by
   rw [q55]
   have c:=A i hi
   simp only [Nat.add_zero] at c
   have w:=q0e hi big
   cases hs:uW (fun k=>q2t l i (i+1+k)) 0 (l.length - (i+1)) with
   | none=>
    rw [hs] at c
    simp only [Option.elim] at c ⊢
    simp only [STD,w,c,zb c,show (i:Int)<(l.length:Int) by omega]
   | some v=>
    rw [hs] at c
    simp only [Option.elim] at c ⊢
    simp only [STD,w,c,zb c,show (i:Int)<(l.length:Int) by omega,show ¬ (1=0) by omega])
  (by rw [q55];simp only [STD,show ¬ (l.length:Int)<(l.length:Int) by omega])
 have C:=fun i j (hi:i<l.length) (hj:j<l.length)=>j9 (S:=qY) (fun k=>[.i (i:Int),.i (j:Int),.i ((j+1+k:Nat):Int),.i (l.length:Int),.i (i:Int),.r (rD l),.i 0]) (fun k=>q54 l i j (j+1+k)) (fun r=>[.i 0,.r r])
  [.i (i:Int),.i (j:Int),.i (l.length:Int),.i (i:Int),.r (rD l),.i 0] (l.length - (j+1)) (by omega)
  (fun k hk=>by
   rw [q3Y]
   have ho:j+1+k<l.length:=by omega
   have g:=qBf (l:=l) (by omega) hi hj ho (i:Int) (j:Int) ((j+1+k:Nat):Int) (l.length:Int) (i:Int) ((j+1+k:Nat):Int) (l.length:Int) (i:Int) (j:Int) ((j+1+k:Nat):Int)
   have f:=qwO (qFs (hl.ix hi) (hl.ix hj) (hl.ix ho)) (by simp)
   obtain ⟨u,v,w,hfw⟩:=qtl (q1F [ix l i,ix l j,ix l (j+1+k)])
   rw [hfw] at f
   simp only [List.cons_append,List.nil_append] at f
   have ws:=q0e ho big
   have tw:[[U.i (i:Int)],[U.i (j:Int)],[U.i ((j+1+k:Nat):Int)]]=qnV i j (j+1+k):=rfl
   rw [tw]
   unfold q54
   cases hs:(q1F [ix l i,ix l j,ix l (j+1+k)]).isSome
   ·rw [hs] at f
    simp only [STD,qQ,g,f,show ((j+1+k:Nat):Int)<(l.length:Int) by omega,show ieq 0 0=true from rfl,Option.elim,tw]
   ·rw [hs] at f
    simp only [STD,qQ,g,f,show ((j+1+k:Nat):Int)<(l.length:Int) by omega,Option.elim,ws]
    rfl)
  (by rw [q3Y];simp only [STD,qQ,show ¬ ((j+1+(l.length - (j+1)):Nat):Int)<(l.length:Int) by omega])
 have D:=fun i (hi:i<l.length)=>j9 (S:=zk) (fun k=>[.i (i:Int),.i ((i+1+k:Nat):Int),.i (l.length:Int),.i (i:Int),.r (rD l),.i 0]) (fun k=>uW (fun m=>q54 l i (i+1+k) (i+1+k+1+m)) 0 (l.length - (i+1+k+1))) (fun r=>[.i 0,.r r])
  [.i (l.length:Int),.i (i:Int),.r (rD l),.i 0] (l.length - (i+1)) (by omega)
  (fun k hk=>by
   rw [q43]
   have hj:i+1+k<l.length:=by omega
   have c:=C i (i+1+k) hi hj
   simp only [Nat.add_zero] at c
   have w:=q0e hj big
   cases hs:uW (fun m=>q54 l i (i+1+k) (i+1+k+1+m)) 0 (l.length - (i+1+k+1)) with
   | none=>
    rw [hs] at c
    simp only [Option.elim] at c ⊢
    simp only [STD,w,c,zb c,qQ,show ((i+1+k:Nat):Int)<(l.length:Int) by omega]
    rfl
   | some v=>
    rw [hs] at c
    simp only [Option.elim] at c ⊢
    simp only [STD,w,c,zb c,qQ,show ((i+1+k:Nat):Int)<(l.length:Int) by omega,show ¬ (1=0) by omega])
  (by rw [q43];simp only [STD,qQ,show ¬ ((i+1+(l.length - (i+1)):Nat):Int)<(l.length:Int) by omega])
 have E:=j9 (S:=zJ) (fun i=>[.i (l.length:Int),.i (i:Int),.r (rD l),.i 0]) (fun i=>uW (fun k=>uW (fun m=>q54 l i (i+1+k) (i+1+k+1+m)) 0 (l.length - (i+1+k+1))) 0 (l.length - (i+1))) (fun r=>[.i 0,.r r])
  [.i 0] l.length big
  (fun i hi=>by
   rw [q3U]
   have c:=D i hi
   simp only [Nat.add_zero] at c
   have w:=q0e hi big
   cases hs:uW (fun k=>uW (fun m=>q54 l i (i+1+k) (i+1+k+1+m)) 0 (l.length - (i+1+k+1))) 0 (l.length - (i+1)) with
   | none=>
    rw [hs] at c
    simp only [Option.elim] at c ⊢
    simp only [STD,w,c,zb c,show (i:Int)<(l.length:Int) by omega]
   | some v=>
    rw [hs] at c
    simp only [Option.elim] at c ⊢
    simp only [STD,w,c,zb c,show (i:Int)<(l.length:Int) by omega,show ¬ (1=0) by omega])
  (by rw [q3U];simp only [STD,show ¬ (l.length:Int)<(l.length:Int) by omega])
 simp only [show ((0:Nat):Int)=0 from rfl] at B E
 unfold qco
 cases hp:qzD l with
 | some r=>
  rw [show uW (fun i=>uW (fun k=>q2t l i (i+1+k)) 0 (l.length - (i+1))) 0 l.length=some r from hp] at B
  simp only [Option.elim] at B
  simp only [STD,a,qQ,B,zb B,Option.elim,id,show ¬ (1=0) by omega]
 | none=>
  rw [show uW (fun i=>uW (fun k=>q2t l i (i+1+k)) 0 (l.length - (i+1))) 0 l.length=none from hp] at B
  simp only [Option.elim] at B
  cases ht:qA1 l with
  | some r=>
   rw [show uW (fun i=>uW (fun k=>uW (fun m=>q54 l i (i+1+k) (i+1+k+1+m)) 0 (l.length - (i+1+k+1))) 0 (l.length - (i+1))) 0 l.length=some r from ht] at E
   simp only [Option.elim] at E
   simp only [STD,a,qQ,B,zb B,E,zb E,Option.elim,Option.getD_some,show ¬ (1=0) by omega]
  | none=>
   rw [show uW (fun i=>uW (fun k=>uW (fun m=>q54 l i (i+1+k) (i+1+k+1+m)) 0 (l.length - (i+1+k+1))) 0 (l.length - (i+1))) 0 l.length=none from ht] at E
   simp only [Option.elim] at E
   simp only [STD,a,qQ,B,zb B,E,zb E,Option.elim,Option.getD_none]
theorem qDA {l:List DQ} (hl:GDs l) (hn:l.length<1000000):(q39 [.r (rD l)]).run=some (0,[.r (qco l)]):=by
 rw [qrZ]
 have big:l.length<9223372036854775808:=by omega
 have A:=fun i (hi:i<l.length)=>j9 (S:=jE) (fun k=>[.r (rD l),.i (i:Int),.i ((i+1+k:Nat):Int)]) (fun k=>q2t l i (i+1+k)) (fun r=>[.r r])
  [.r (rD l),.i (i:Int)] (l.length - (i+1)) (by omega)
  (fun k hk=>by
   rw [qeM]
   have hj:i+1+k<l.length:=by omega
   obtain ⟨x1,x2,x3⟩:=qaQ hi
   obtain ⟨y1,y2,y3⟩:=qaQ hj
   have f:=qxm (qEC (hl.ix hi) (hl.ix hj)) (by simp)
   rw [show rD [ix l i,ix l (i+1+k)]=[[.s (tQ (ix l i).x),.s (tQ (ix l i).y),.s (tQ (ix l i).s)],[.s (tQ (ix l (i+1+k)).x),.s (tQ (ix l (i+1+k)).y),.s (tQ (ix l (i+1+k)).s)]] from rfl] at f
   obtain ⟨u,v,w,hfw⟩:=qtl (q1F [ix l i,ix l (i+1+k)])
   rw [hfw] at f
   have ws:=q0e hj big
   rw [x1,x2,x3,y1,y2,y3]
   unfold q2t
   cases hs:(q1F [ix l i,ix l (i+1+k)]).isSome
   ·rw [hs] at f
    simp only [STD,qQ,f,show ((i+1+k:Nat):Int)<(l.length:Int) by omega,show (i:Int)<(l.length:Int) by omega,yq,and_self,Option.elim]
    rfl
   ·rw [hs] at f
    simp only [STD,qQ,f,show ((i+1+k:Nat):Int)<(l.length:Int) by omega,show (i:Int)<(l.length:Int) by omega,yq,and_self,Option.elim,ws]
    rfl)
  (by rw [qeM];simp only [STD,qQ,show ¬ ((i+1+(l.length - (i+1)):Nat):Int)<(l.length:Int) by omega])
 have B:=j9 (S:=j4) (fun i=>[.r (rD l),.i (i:Int)]) (fun i=>uW (fun k=>q2t l i (i+1+k)) 0 (l.length - (i+1))) (fun r=>[.r r])
  [.r (rD l)] l.length big
  (fun i hi=>by
   rw [qeO]
   have c:=A i hi
   simp only [Nat.add_zero] at c
   have w:=q0e hi big
   cases hs:uW (fun k=>q2t l i (i+1+k)) 0 (l.length - (i+1)) with
   | none=>
    rw [hs] at c
    simp only [Option.elim] at c ⊢
    simp only [STD,w,c,zb c,qQ,show (i:Int)<(l.length:Int) by omega]
   | some v=>
    rw [hs] at c
    simp only [Option.elim] at c ⊢
    simp only [STD,w,c,zb c,qQ,show (i:Int)<(l.length:Int) by omega,show ¬ (1=0) by omega])
  (by rw [qeO];simp only [STD,qQ,show ¬ (l.length:Int)<(l.length:Int) by omega])
 have C:=fun i j (hi:i<l.length) (hj:j<l.length)=>j9 (S:=vF) (fun k=>[.r (rD l),.i (i:Int),.i (j:Int),.i ((j+1+k:Nat):Int)]) (fun k=>q54 l i j (j+1+k)) (fun r=>[.r r])
  [.r (rD l),.i (i:Int),.i (j:Int)] (l.length - (j+1)) (by omega)
  (fun k hk=>by
   rw [qcK]
   have ho:j+1+k<l.length:=by omega
   obtain ⟨x1,x2,x3⟩:=qaQ hi
   obtain ⟨y1,y2,y3⟩:=qaQ hj
   obtain ⟨z1,z2,z3⟩:=qaQ ho
   have f:=qxm (qFs (hl.ix hi) (hl.ix hj) (hl.ix ho)) (by simp)
   rw [show rD [ix l i,ix l j,ix l (j+1+k)]=[[.s (tQ (ix l i).x),.s (tQ (ix l i).y),.s (tQ (ix l i).s)],[.s (tQ (ix l j).x),.s (tQ (ix l j).y),.s (tQ (ix l j).s)],[.s (tQ (ix l (j+1+k)).x),.s (tQ (ix l (j+1+k)).y),.s (tQ (ix l (j+1+k)).s)]] from rfl] at f
   obtain ⟨u,v,w,hfw⟩:=qtl (q1F [ix l i,ix l j,ix l (j+1+k)])
   rw [hfw] at f
   have ws:=q0e ho big
   rw [x1,x2,x3,y1,y2,y3,z1,z2,z3]
   unfold q54
   cases hs:(q1F [ix l i,ix l j,ix l (j+1+k)]).isSome
   ·rw [hs] at f
    simp only [STD,qQ,f,show ((j+1+k:Nat):Int)<(l.length:Int) by omega,show (i:Int)<(l.length:Int) by omega,show (j:Int)<(l.length:Int) by omega,yq,and_self,Option.elim]
    rfl
   ·rw [hs] at f
    simp only [STD,qQ,f,show ((j+1+k:Nat):Int)<(l.length:Int) by omega,show (i:Int)<(l.length:Int) by omega,show (j:Int)<(l.length:Int) by omega,yq,and_self,Option.elim,ws]
    rfl)
  (by rw [qcK];simp only [STD,qQ,show ¬ ((j+1+(l.length - (j+1)):Nat):Int)<(l.length:Int) by omega])
 have D:=fun i (hi:i<l.length)=>j9 (S:=jd) (fun k=>[.r (rD l),.i (i:Int),.i ((i+1+k:Nat):Int)]) (fun k=>uW (fun m=>q54 l i (i+1+k) (i+1+k+1+m)) 0 (l.length - (i+1+k+1))) (fun r=>[.r r])
  [.r (rD l),.i (i:Int)] (l.length - (i+1)) (by omega)
  (fun k hk=>by
   rw [qcJ]
   have hj:i+1+k<l.length:=by omega
   have c:=C i (i+1+k) hi hj
   simp only [Nat.add_zero] at c
   have w:=q0e hj big
   cases hs:uW (fun m=>q54 l i (i+1+k) (i+1+k+1+m)) 0 (l.length - (i+1+k+1)) with
   | none=>
    rw [hs] at c
    simp only [Option.elim] at c ⊢
    simp only [STD,w,c,zb c,qQ,show ((i+1+k:Nat):Int)<(l.length:Int) by omega]
    rfl
   | some v=>
    rw [hs] at c
    simp only [Option.elim] at c ⊢
    simp only [STD,w,c,zb c,qQ,show ((i+1+k:Nat):Int)<(l.length:Int) by omega,show ¬ (1=0) by omega])
  (by rw [qcJ];simp only [STD,qQ,show ¬ ((i+1+(l.length - (i+1)):Nat):Int)<(l.length:Int) by omega])
 have E:=j9 (S:=u7) (fun i=>[.r (rD l),.i (i:Int)]) (fun i=>uW (fun k=>uW (fun m=>q54 l i (i+1+k) (i+1+k+1+m)) 0 (l.length - (i+1+k+1))) 0 (l.length - (i+1))) (fun r=>[.r r])
  [] l.length big
  (fun i hi=>by
   rw [qcL]
   have c:=D i hi
   simp only [Nat.add_zero] at c
   have w:=q0e hi big
   cases hs:uW (fun k=>uW (fun m=>q54 l i (i+1+k) (i+1+k+1+m)) 0 (l.length - (i+1+k+1))) 0 (l.length - (i+1)) with
   | none=>
    rw [hs] at c
    simp only [Option.elim] at c ⊢
    simp only [STD,w,c,zb c,qQ,show (i:Int)<(l.length:Int) by omega]
   | some v=>
    rw [hs] at c
    simp only [Option.elim] at c ⊢
    simp only [STD,w,c,zb c,qQ,show (i:Int)<(l.length:Int) by omega,show ¬ (1=0) by omega])
  (by rw [qcL];simp only [STD,qQ,show ¬ (l.length:Int)<(l.length:Int) by omega])
 simp only [show ((0:Nat):Int)=0 from rfl] at B E
 unfold qco
 cases hp:qzD l with
 | some r=>
  rw [show uW (fun i=>uW (fun k=>q2t l i (i+1+k)) 0 (l.length - (i+1))) 0 l.length=some r from hp] at B
  simp only [Option.elim] at B
  simp only [STD,B,zb B,Option.elim,id,show ¬ (1=0) by omega]
 | none=>
  rw [show uW (fun i=>uW (fun k=>q2t l i (i+1+k)) 0 (l.length - (i+1))) 0 l.length=none from hp] at B
  simp only [Option.elim] at B
  cases ht:qA1 l with
  | some r=>
   rw [show uW (fun i=>uW (fun k=>uW (fun m=>q54 l i (i+1+k) (i+1+k+1+m)) 0 (l.length - (i+1+k+1))) 0 (l.length - (i+1))) 0 l.length=some r from ht] at E
   simp only [Option.elim] at E
   simp only [STD,B,zb B,E,zb E,Option.elim,Option.getD_some,show ¬ (1=0) by omega]
  | none=>
   rw [show uW (fun i=>uW (fun k=>uW (fun m=>q54 l i (i+1+k) (i+1+k+1+m)) 0 (l.length - (i+1+k+1))) 0 (l.length - (i+1))) 0 l.length=none from ht] at E
   simp only [Option.elim] at E
   simp only [STD,B,zb B,E,zb E,Option.elim,Option.getD_none]
theorem qwo {l:List DQ} (hl:GDs l) (h0:l≠[]) (hn:l.length≤64):(ww [.r (rD l)]).run=some (0,[.r (qco l),.i 0]):=by
 rw [q6a]
 simp only [STD,qke hl h0 hn,qDA hl (show l.length<1000000 by omega)]
theorem qwp {x:R} (hD:isD x) (hF:(x.length≤5∧∀ i,i<x.length→qkf x i)∨64<x.length) :
  ∃ r e,r.length≤3∧(zy [.r x]).run=some (0,[.r r,.i e])∧(ww [.r x]).run=some (0,[.r r,.i e]):=by
 by_cases h:lE x=0
 ·obtain ⟨l,rfl,hl,h0,h5⟩:=qjy hD hF h
  refine ⟨_,_,?_,qj1 hl h0 (by omega),qwo hl h0 (by omega)⟩
  unfold qco
  cases hp:qzD l with
  | some r=>
   obtain ⟨i,-,-,hf,-⟩:=q9k hp
   obtain ⟨k,-,-,hf,-⟩:=q9k hf
   unfold q2t at hf
   split at hf
   ·cases hf
   ·cases hf;simp [Option.elim,two]
  | none=>
   cases ht:qA1 l with
   | none=>simp [Option.elim]
   | some r=>
    obtain ⟨i,-,-,hf,-⟩:=q9k ht
    obtain ⟨k,-,-,hf,-⟩:=q9k hf
    obtain ⟨m,-,-,hf,-⟩:=q9k hf
    unfold q54 at hf
    split at hf
    ·cases hf
    ·cases hf;simp [Option.elim,qnV]
 ·have a:=q7c x (qgp hF hD)
  have b:=q7g x (qgp hF hD)
  refine ⟨[],lE x,by simp,?_,?_⟩
  ·rw [q65];simp only [STD,a,h]
  ·rw [q6a];simp only [STD,b,h]
end Go.Eng

namespace Go.Eng
def qmn (l:List DQ) (i k:Nat):Bool:=decide (k≠i)&&decide (q2Q (ix l k) (ix l i))&&(decide (k<i) || !decide (q2Q (ix l i) (ix l k)))
def fnd (l:List DQ) (i k:Nat):Bool:=(List.range k).any (qmn l i)
def qqb (l:List DQ):R:=pick (fun i=>fnd l i l.length) l.length
theorem qBW (l:List DQ) (i k:Nat):fnd l i (k+1)=(fnd l i k || qmn l i k):=by unfold fnd;rw [List.range_succ];simp
theorem qCP {l:List DQ} {i k n:Nat} (hk:k<n) (h:qmn l i k=true):fnd l i n=true:=by
 unfold fnd;rw [List.any_eq_true];exact ⟨k,List.mem_range.2 hk,h⟩
theorem qBD {l:List DQ} {i n:Nat} (h:∀ k,k<n→qmn l i k=false):fnd l i n=false:=by
 unfold fnd;rw [List.any_eq_false];intro k hk;have:=h k (List.mem_range.1 hk);simp [this]
theorem qrS {l:List DQ} (hl:GDs l) (h0:l≠[]) (hn:l.length≤64):(vJ [.r (rD l)]).run=some (0,[.r (qqb l),.i 0]):=by
 rw [qbm]
 have a:=qk6 hl h0 hn
 have big:l.length<9223372036854775808:=by omega
 have A:∀ i (hi:i<l.length) (acc:R),acc.length≤64→(qg zF [.r (rD l),.i (i:Int),.r (rD l),.i (l.length:Int),.i (i:Int),.r (rD l),.i (l.length:Int),.i 0,.i 0,.r acc,.s (tQ (ix l i).x),.s (tQ (ix l i).y),.s (tQ (ix l i).s)]).run
   = some (0,[.r (rD l),.r (rD l),.i (l.length:Int),.i (i:Int),.i 0,.r (if fnd l i l.length=true then qgA acc [[.i (i:Int)]] else acc)]):=by
  intro i hi acc hacc
  have g:=hl.ix hi
  have room:qH acc+qH [[U.i (i:Int)]]≤17592186044416:=by rw [qCa];unfold qH;omega
  have key:=qcv (S:=zF) (fun k=>[.r (rD l),.i (i:Int),.r (rD l),.i (l.length:Int),.i (i:Int),.r (rD l),.i (l.length:Int),.i (k:Int),.i 0,.r acc,.s (tQ (ix l i).x),.s (tQ (ix l i).y),.s (tQ (ix l i).s)])
   (fun k=>if (!qmn l i k)=true then none else some (0,[.r (rD l),.r (rD l),.i (l.length:Int),.i (i:Int),.i 0,.r (qgA acc [[.i (i:Int)]])]))
   (0,[.r (rD l),.r (rD l),.i (l.length:Int),.i (i:Int),.i 0,.r acc]) l.length big
   (fun k hk hf=>by
    rw [q2I]
    obtain ⟨x1,x2,x3⟩:=qaQ hk
    have gk:=hl.ix hk
    have w:=q0e hk big
    have w1:=qgJ gk.sh g.sh gk.nn g.nn
    have w2:=qgJ g.sh gk.sh g.nn gk.nn
    have hc:qmn l i k=false:=by cases h:qmn l i k;rfl;rw [h] at hf;simp at hf
    unfold qmn at hc
    rw [x1,x2,x3]
    by_cases c1:k=i
    ·subst c1
     simp only [STD,qQ,show (k:Int)<(l.length:Int) by omega,yq,and_self,w]
    ·have c1':¬ (k:Int)=(i:Int):=by omega
     by_cases c2:q2Q (ix l k) (ix l i)
     ·simp only [ne_eq,c1,not_false_eq_true,decide_true,c2,Bool.true_and,Bool.or_eq_false_iff,decide_eq_false_iff_not,Bool.not_eq_false',decide_eq_true_eq] at hc
      obtain ⟨c3,c4⟩:=hc
      have c3':¬ (k:Int)<(i:Int):=by omega
      simp only [STD,qQ,c1',c2,c3',c4,w1,w2,w,show (k:Int)<(l.length:Int) by omega,yq,and_self]
     ·simp only [STD,qQ,c1',c2,w1,w,show (k:Int)<(l.length:Int) by omega,yq,and_self])
   (fun k r hk hf=>by
    rw [q2I]
    obtain ⟨x1,x2,x3⟩:=qaQ hk
    have gk:=hl.ix hk
    have w1:=qgJ gk.sh g.sh gk.nn g.nn
    have w2:=qgJ g.sh gk.sh g.nn gk.nn
    have hc:qmn l i k=true:=by cases h:qmn l i k;rw [h] at hf;simp at hf;rfl
    rw [hc] at hf
    simp only [Bool.not_true,Bool.false_eq_true,if_false,Option.some.injEq] at hf
    subst hf
    unfold qmn at hc
    simp only [Bool.and_eq_true,Bool.or_eq_true,decide_eq_true_eq,Bool.not_eq_true',decide_eq_false_iff_not] at hc
    obtain ⟨⟨c1,c2⟩,c3⟩:=hc
    have c1':¬ (k:Int)=(i:Int):=by omega
    rw [x1,x2,x3]
    by_cases c4:k<i
    ·simp only [STD,qQ,c1',c2,w1,room,show (k:Int)<(i:Int) by omega,show (k:Int)<(l.length:Int) by omega,yq,and_self]
    ·have c5:¬ q2Q (ix l i) (ix l k):=by
      rcases c3 with h | h
      ·exact absurd h c4
      ·exact h
     simp only [STD,qQ,c1',c2,c5,w1,w2,room,show ¬ (k:Int)<(i:Int) by omega,show (k:Int)<(l.length:Int) by omega,yq,and_self])
   (by rw [q2I];simp only [STD,show ¬ (l.length:Int)<(l.length:Int) by omega])
  have key':=key
  simp only [show ((0:Nat):Int)=0 from rfl] at key'
  rw [key']
  rcases qtB (fun k=>!qmn l i k) (fun _=>((0,[.r (rD l),.r (rD l),.i (l.length:Int),.i (i:Int),.i 0,.r (qgA acc [[.i (i:Int)]])]):Nat × List PV)) l.length with ⟨s1,s2⟩ | ⟨k,hk,s2,s1⟩
  ·rw [s1,qBD fun k hk=>by have:=s2 k hk;simpa using this]
   simp
  ·rw [s1,qCP hk (by simpa using s2)]
   simp
 have B:=kP (S:=wY) (fun i=>[.r (rD l),.r (rD l),.i (l.length:Int),.i (i:Int),.i 0,.r (pick (fun i=>fnd l i l.length) i)]) (0,[.i 0,.r (qqb l)]) l.length big
  (fun i hi=>by
   rw [q8o]
   obtain ⟨x1,x2,x3⟩:=qaQ hi
   have w:=q0e hi big
   have pl:=qol (fun i=>fnd l i l.length) i
   have c:=A i hi (pick (fun i=>fnd l i l.length) i) (by omega)
   simp only [STD,qQ,x1,x2,x3,c,w,show (i:Int)<(l.length:Int) by omega,yq,and_self]
   rfl)
  (by rw [q8o];simp only [STD,show ¬ (l.length:Int)<(l.length:Int) by omega];rfl)
 have B':(qg wY [.r (rD l),.r (rD l),.i (l.length:Int),.i 0,.i 0,.r []]).run=some (0,[.i 0,.r (qqb l)]):=B
 simp only [STD,a,qQ,B']
theorem qDQ {l : List DQ} (hl : GDs l) (hn : l.length ≤ 64) : (q36 [.r (rD l)]).run = some (0, [.r (qqb l)]) := by
  rw [qsa]
  have big : l.length < 9223372036854775808 := by omega
  have A : ∀ i (hi : i < l.length) (acc : R), (qg zC [.r (rD l), .i (i : Int), .b false, .i 0, .r acc]).run = some (0, [.r (rD l), .i (i : Int), .b (fnd l i l.length), .r acc]) := by
    intro i hi acc
    have g := hl.ix hi
    obtain ⟨y1, y2, y3⟩ := qaQ hi
    have key := kP (S := zC) (fun k => [.r (rD l), .i (i : Int), .b (fnd l i k), .i (k : Int), .r acc]) (0, [.r (rD l), .i (i : Int), .b (fnd l i l.length), .r acc]) l.length big
      (fun k hk => by
        rw [qcw]
        obtain ⟨x1, x2, x3⟩ := qaQ hk
        have gk := hl.ix hk
        have w := q0e hk big
        have w1 := qoo gk.sh g.sh
        have w2 := qoo g.sh gk.sh
        rw [x1, x2, x3, y1, y2, y3, qBW]
        by_cases c0 : fnd l i k = true
        · simp only [STD, c0, qQ, show (k : Int) < (l.length : Int) by omega, w, Bool.true_or]
        · have c0' : fnd l i k = false := by cases h : fnd l i k; rfl; exact absurd h c0
          unfold qmn
          by_cases c1 : k = i
          · subst c1
            simp only [STD, c0', qQ, show (k : Int) < (l.length : Int) by omega, w, Bool.false_or, not_true, decide_false, Bool.false_and]
          · have c1' : ¬ (k : Int) = (i : Int) := by omega
            by_cases c2 : q2Q (ix l k) (ix l i)
            · by_cases c3 : k < i
              · simp only [STD, c0', qQ, c1', c1, c2, c3, w1, w, show (k : Int) < (i : Int) by omega, show (k : Int) < (l.length : Int) by omega, show (i : Int) < (l.length : Int) by omega, yq, and_self]
                rfl
              · simp only [STD, c0', qQ, c1', c1, c2, c3, w1, w2, w, show ¬ (k : Int) < (i : Int) by omega, show (k : Int) < (l.length : Int) by omega, show (i : Int) < (l.length : Int) by omega, yq, and_self]
                rfl
            · simp only [STD, c0', qQ, c1', c1, c2, w1, w, show (k : Int) < (l.length : Int) by omega, show (i : Int) < (l.length : Int) by omega, yq, and_self]
              rfl)
      (by rw [qcw]; simp only [STD, qQ, show ¬ (l.length : Int) < (l.length : Int) by omega])
    exact key
  have B := kP (S := uZ) (fun i => [.r (rD l), .i (i : Int), .r (pick (fun i => fnd l i l.length) i)]) (0, [.r (qqb l)]) l.length big
    (fun i hi => by
      rw [qeR]
      have w := q0e hi big
      have c := A i hi (pick (fun i => fnd l i l.length) i)
      have room : qH (pick (fun i => fnd l i l.length) i) + qH [[U.i (i : Int)]] ≤ 17592186044416 := qBk hi (by omega) _
      cases hf : fnd l i l.length
      · rw [hf] at c
        simp only [STD, qQ, c, w, show (i : Int) < (l.length : Int) by omega, pick, hf]
        try rfl
      · rw [hf] at c
        simp only [STD, qQ, c, w, room, show (i : Int) < (l.length : Int) by omega, pick, hf]
        try rfl)
    (by rw [qeR]; simp only [STD, qQ, show ¬ (l.length : Int) < (l.length : Int) by omega]; rfl)
  have B' : (qg uZ [.r (rD l), .i 0, .r []]).run = some (0, [.r (qqb l)]) := B
  simp only [STD, B']
theorem qrg {l:List DQ} (hl:GDs l) (h0:l≠[]) (hn:l.length≤64):(vK [.r (rD l)]).run=some (0,[.r (qqb l),.i 0]):=by
 rw [qbo]
 simp only [STD,qke hl h0 hn,qDQ hl hn]
theorem qrN {x:R} (hD:isD x) (hF:(x.length≤5∧∀ i,i<x.length→qkf x i)∨64<x.length) :
  ∃ r e,r.length≤5∧(vJ [.r x]).run=some (0,[.r r,.i e])∧(vK [.r x]).run=some (0,[.r r,.i e]):=by
 by_cases h:lE x=0
 ·obtain ⟨l,rfl,hl,h0,h5⟩:=qjy hD hF h
  exact ⟨_,_,Nat.le_trans (qol _ _) h5,qrS hl h0 (by omega),qrg hl h0 (by omega)⟩
 ·have a:=q7c x (qgp hF hD)
  have b:=q7g x (qgp hF hD)
  refine ⟨[],lE x,by simp,?_,?_⟩
  ·rw [qbm];simp only [STD,a,h]
  ·rw [qbo];simp only [STD,b,h]
theorem qfA (l:R) (h:l.length<9223372036854775808):(jX [.r l,.r l]).run=some (0,[.b true]):=by
 have e:(qg jL [.r l,.r l,.i 0]).run=some (0,[]):=by
  refine kP (fun i=>[.r l,.r l,.i (i:Int)]) (0,[]) l.length h (fun i hi=>?_) ?_
  ·rw [qaE]
   simp only [STD,qoD hi,q0e hi h,yq,and_self]
  ·rw [qaE]
   simp only [STD,qts]
 rw [qlZ]
 simp only [STD,e,zb e]
def D4 (x y s:Rat):DQ:=⟨x,y,s⟩
theorem qB6 {q:Rat} (h:qn q≤10∧qd q≤10):cls q:=.inr h
theorem gdx {x y s:Rat} (hx:qn x≤10∧qd x≤10) (hy:qn y≤10∧qd y≤10) (hs:qn s≤10∧qd s≤10) (h:0≤s):GD (D4 x y s):=⟨qB6 hx,qB6 hy,qEB (qB6 hs),h⟩
end Go.Eng

namespace Go.Eng
theorem t0:tQ 0=[48]:=rfl
theorem t1:tQ 1=[49]:=by decide +kernel
theorem t2':tQ 2=[50]:=by decide +kernel
theorem t4:tQ 4=[52]:=by decide +kernel
theorem t5:tQ 5=[53]:=by decide +kernel
theorem t53:tQ (5/3)=[53,47,51]:=by decide +kernel
theorem qFy:q1F [D4 0 0 4,D4 4 0 4]=some (0,1,0):=by decide +kernel
theorem qFA:q1F [D4 0 0 5,D4 4 0 5]=some (0,1,1):=by decide +kernel
theorem qFz:qco [D4 0 0 1,D4 4 0 1]=[[.i 0],[.i 1]]:=by
 have h1:q1F [D4 0 0 1,D4 4 0 1]=none:=by decide +kernel
 have e:∀ i j k,uW (fun k=>q2t [D4 0 0 1,D4 4 0 1] i (i+1+k)) j k=uW (fun k=>q2t [D4 0 0 1,D4 4 0 1] i (i+1+k)) j k:=fun _ _ _=>rfl
 have z:q2t [D4 0 0 1,D4 4 0 1] 0 1=some (two 0 1):=by
  unfold q2t
  have:[ix [D4 0 0 1,D4 4 0 1] 0,ix [D4 0 0 1,D4 4 0 1] 1]=[D4 0 0 1,D4 4 0 1]:=rfl
  rw [this,h1];rfl
 unfold qco qzD
 simp only [show ([D4 0 0 1,D4 4 0 1]).length=2 from rfl,uW,Nat.zero_add,Nat.add_zero,show 2 - 1=1 from rfl,z,Option.elim,id]
 rfl
theorem qFB:qco [D4 0 0 1,D4 2 0 1,D4 1 (5/3) 1]=[[.i 0],[.i 1],[.i 2]]:=by
 have h1:(q1F [D4 0 0 1,D4 2 0 1]).isSome=true:=by decide +kernel
 have h2:(q1F [D4 0 0 1,D4 1 (5/3) 1]).isSome=true:=by decide +kernel
 have h3:(q1F [D4 2 0 1,D4 1 (5/3) 1]).isSome=true:=by decide +kernel
 have h4:q1F [D4 0 0 1,D4 2 0 1,D4 1 (5/3) 1]=none:=by decide +kernel
 have z1:q2t [D4 0 0 1,D4 2 0 1,D4 1 (5/3) 1] 0 1=none:=by unfold q2t;rw [if_pos];exact h1
 have z2:q2t [D4 0 0 1,D4 2 0 1,D4 1 (5/3) 1] 0 2=none:=by unfold q2t;rw [if_pos];exact h2
 have z3:q2t [D4 0 0 1,D4 2 0 1,D4 1 (5/3) 1] 1 2=none:=by unfold q2t;rw [if_pos];exact h3
 have z4:q54 [D4 0 0 1,D4 2 0 1,D4 1 (5/3) 1] 0 1 2=some (qnV 0 1 2):=by
  unfold q54
  have:[ix [D4 0 0 1,D4 2 0 1,D4 1 (5/3) 1] 0,ix [D4 0 0 1,D4 2 0 1,D4 1 (5/3) 1] 1,ix [D4 0 0 1,D4 2 0 1,D4 1 (5/3) 1] 2]=[D4 0 0 1,D4 2 0 1,D4 1 (5/3) 1]:=rfl
  rw [this,h4];rfl
 unfold qco qzD qA1
 simp only [show ([D4 0 0 1,D4 2 0 1,D4 1 (5/3) 1]).length=3 from rfl,uW,Nat.sub_self,show 3 - 1=2 from rfl,show 3 - 2=1 from rfl,show 1+1=2 from rfl,show 0+1=1 from rfl,show 2+1=3 from rfl,z1,z2,z3,z4,Option.elim,Option.getD_some]
 rfl
theorem qFx:qBe (D4 0 0 1) (D4 1 0 4)=2:=by decide +kernel
theorem q1p:(qS []).run=some (0,[.b true]):=by
 rw [qrO]
 have g1:GD (D4 0 0 4):=gdx (by decide +kernel) (by decide +kernel) (by decide +kernel) (by decide +kernel)
 have g2:GD (D4 4 0 4):=gdx (by decide +kernel) (by decide +kernel) (by decide +kernel) (by decide +kernel)
 have g3:GD (D4 0 0 5):=gdx (by decide +kernel) (by decide +kernel) (by decide +kernel) (by decide +kernel)
 have g4:GD (D4 4 0 5):=gdx (by decide +kernel) (by decide +kernel) (by decide +kernel) (by decide +kernel)
 have g5:GD (D4 0 0 1):=gdx (by decide +kernel) (by decide +kernel) (by decide +kernel) (by decide +kernel)
 have g6:GD (D4 4 0 1):=gdx (by decide +kernel) (by decide +kernel) (by decide +kernel) (by decide +kernel)
 have g7:GD (D4 2 0 1):=gdx (by decide +kernel) (by decide +kernel) (by decide +kernel) (by decide +kernel)
 have g8:GD (D4 1 (5/3) 1):=gdx (by decide +kernel) (by decide +kernel) (by decide +kernel) (by decide +kernel)
 have g9:GD (D4 1 0 4):=gdx (by decide +kernel) (by decide +kernel) (by decide +kernel) (by decide +kernel)
 have a:=qjn (qEC g1 g2) (by simp) (by simp)
 have b:=qjn (qEC g3 g4) (by simp) (by simp)
 have c:=qj1 (qEC g5 g6) (by simp) (by simp)
 have d:=qj1 (qFs g5 g7 g8) (by simp) (by simp)
 have e:=qqX g5 g9
 rw [qFy] at a
 rw [qFA] at b
 rw [qFz] at c
 rw [qFB] at d
 rw [qFx] at e
 simp only [rD,qf3,List.map_cons,List.map_nil,D4,t0,t1,t2',t4,t5,t53,cW,Option.elim] at a b c d e
 have f1:=qaA [[.i 0],[.i 1]] (by simp)
 have f2:=qaA [[.i 0],[.i 1],[.i 2]] (by simp)
 have D:∀ x y s,(jt [.s x,.s y,.s s]).run=some (0,[.s x,.s y,.s s]):=fun x y s=>by rw [qu8];rfl
 have w:qw .i64 0 0=0:=by decide
 simp only [STD,D,a,b,c,d,e,f1,f2,w,show ((0:Nat):Int)=0 from rfl,show ((1:Nat):Int)=1 from rfl,and_self]
 rfl
theorem qo0 (x0:List UInt8) (x1:List UInt8) (x2:List UInt8) (x3:List UInt8) (x4:List UInt8) (x5:List UInt8) (_:x0.length≤maxLen) (_:x1.length≤maxLen) (_:x2.length≤maxLen) (_:x3.length≤maxLen) (_:x4.length≤maxLen) (_:x5.length≤maxLen):(ke [.s x0,.s x1,.s x2,.s x3,.s x4,.s x5]).run=some (0,[.b true]):=by
 rw [qh4]
 have s1:=qkt x0 x1 x2
 have s2:=qkt x3 x4 x5
 by_cases c1:shT x0∧shT x1∧shT x2
 ·by_cases c2:shT x3∧shT x4∧shT x5
  ·obtain ⟨n,e,a,b⟩:=qxu x0 x1 x2 x3 x4 x5 c1.1 c1.2.1 c1.2.2 c2.1 c2.2.1 c2.2.2
   have k1:=kT x0 x1 x2 (kl c1.1) (kl c1.2.1) (kl c1.2.2)
   have k2:=q5Q x0 x1 x2 (kl c1.1) (kl c1.2.1) (kl c1.2.2)
   have q:ieq e e=true:=by simp [ieq]
   simp only [STD,s1,s2,c1,c2,a,b,k1,k2,q1p,and_self,decide_true,q]
  ·simp only [STD,s1,s2,c1,c2,q1p,and_self,decide_true,decide_false]
 ·simp only [STD,s1,c1,q1p,decide_false]
theorem qmc (x0:List UInt8) (x1:List UInt8) (x2:List UInt8) (x3:List UInt8) (x4:List UInt8) (_:x0.length≤maxLen) (_:x1.length≤maxLen) (_:x2.length≤maxLen) (_:x3.length≤maxLen) (_:x4.length≤maxLen):(uo [.s x0,.s x1,.s x2,.s x3,.s x4]).run=some (0,[.b true]):=by
 rw [qfl]
 have s1:=qkt x0 x1 x2
 by_cases c1:shT x0∧shT x1∧shT x2
 ·by_cases c3:shT x3
  ·by_cases c4:shT x4
   ·obtain ⟨n,e,a,b⟩:=quj x0 x1 x2 x3 x4 c1.1 c1.2.1 c1.2.2 c3 c4
    have q:ieq e e=true:=by simp [ieq]
    simp only [STD,s1,qB7,c1,c3,c4,a,b,q1p,and_self,decide_true,q]
   ·simp only [STD,s1,qB7,c1,c3,c4,q1p,and_self,decide_true]
  ·simp only [STD,s1,qB7,c1,c3,q1p,and_self,decide_true]
 ·simp only [STD,s1,c1,q1p,decide_false]
theorem qrs (x0:R) (lex0:UFit (.sl [.str,.str,.str]) (.l x0)) (_:x0.length*48≤140737488351232):(q1u [.r x0]).run=some (0,[.b true]):=by
 rw [qjZ]
 obtain ⟨f,hf,h1,-⟩:=qwS x0
 cases f
 ·simp only [STD,hf,q1p]
 ·obtain ⟨a,b,c,d,e,k1,k2⟩:=qwj (quf lex0) (h1 rfl)
  have B:(q1D [.i b,.i c,.i d]).run=some (0,[.i b,.i c,.i d]):=by rw [que];rfl
  have q:ieq e e=true:=by simp [ieq]
  simp only [STD,hf,k1,k2,B,q1p,and_self,q]
theorem qnY (x0:R) (x1:Int) (x2:Int) (x3:Int) (lex0:UFit (.sl [.str,.str,.str]) (.l x0)) (_:x0.length*48≤140737488351232) (_:IntKind.min .i64≤x1) (_:x1≤IntKind.max .i64) (_:IntKind.min .i64≤x2) (_:x2≤IntKind.max .i64) (_:IntKind.min .i64≤x3) (_:x3≤IntKind.max .i64):(uY [.r x0,.i x1,.i x2,.i x3]).run=some (0,[.b true]):=by
 rw [qhl]
 obtain ⟨f,hf,h1,-⟩:=qwS x0
 have B:(vU [.i x1,.i x2,.i x3]).run=some (0,[.i x1,.i x2,.i x3]):=by rw [quJ];rfl
 cases f
 ·simp only [STD,hf,q1p]
 ·obtain ⟨a,e,k1,k2⟩:=qxr (quf lex0) (h1 rfl) x1 x2 x3
  have q:ieq e e=true:=by simp [ieq]
  simp only [STD,hf,B,k1,k2,q1p,q]
theorem qh5 (x0:R) (lex0:UFit (.sl [.str,.str,.str]) (.l x0)) (_:x0.length*48≤140737488351232):(jN [.r x0]).run=some (0,[.b true]):=by
 rw [qcq]
 obtain ⟨f,hf,h1,-⟩:=qwS x0
 cases f
 ·simp only [STD,hf,q1p]
 ·obtain ⟨a,e,l1,k1,k2⟩:=qwp (quf lex0) (h1 rfl)
  obtain ⟨b,g,l2,k3,k4⟩:=qrN (quf lex0) (h1 rfl)
  have q:ieq g g=true:=by simp [ieq]
  have s1:=qfA a (by omega)
  have s2:=qfA b (by omega)
  simp only [STD,hf,k1,k2,k3,k4,s1,s2,q1p,q]
end Go.Eng

