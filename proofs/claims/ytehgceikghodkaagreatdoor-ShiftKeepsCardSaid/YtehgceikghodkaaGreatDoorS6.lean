/- Texts of the proof, merged: what the code computes, and plain laws. No statement stands here. -/
import Derived.Test.YtehgceikghodkaaGreatDoorS5
namespace Go.Eng
def qCm(x0 x1:R)(i:Nat):Int:=ext (cI x0 i 2) (cI x0 i 3) (cI x0 i 5) (cB x0 i 6) (cI x1 i 2)
def zAt(x0 x1:R)(i:Nat):DQ:=zD (cI x0 i 0-cI x1 i 0) (cI x0 i 1-cI x1 i 1) (cI x0 i 4+qCm x0 x1 i)
def q3v(x0 x1:R):List DQ:=(List.range x0.length).map (zAt x0 x1)
def qmk(p:Int):List DQ:=if 0≤p then [zD 0 0 p] else []
def wn(x0 x1:R)(p:Int):List DQ:=q3v x0 x1++qmk p
theorem qIL{x2 x3 x5:Int}{x6:Bool}{n:Int}(h:x2≤n∧n≤x3):0≤ext x2 x3 x5 x6 n:=by
 unfold ext;split
 ·omega
 ·split<;>omega
theorem Rt.nums{x0 x1:R}(h:Rt x0 x1){i:Nat}(hi:i<x0.length):-100000≤cI x0 i 0∧cI x0 i 0≤100000∧-100000≤cI x0 i 1∧cI x0 i 1≤100000∧-100000≤cI x1 i 0∧cI x1 i 0≤100000∧-100000≤cI x1 i 1∧cI x1 i 1≤100000 ∧
  0≤cI x0 i 4∧cI x0 i 4≤100000∧0≤qCm x0 x1 i∧qCm x0 x1 i≤100000:=by
 obtain⟨h1,h2,h3,h4,h5,h6,h7,h8,h9,h10,h11,h12,h13,h14⟩:=qnK (h.t i hi)
 obtain⟨k1,k2,k3,k4,k5,k6⟩:=qpC (h.r i hi)
 have b:=qrw (x5:=cI x0 i 5) (x6:=cB x0 i 6) (n:=cI x1 i 2) ⟨h5,h6,h7,h8⟩ ⟨k5,k6⟩
 have n:=qIL (x5:=cI x0 i 5) (x6:=cB x0 i 6) (h.i i hi)
 unfold qCm
 omega
theorem Rt.gd{x0 x1:R}(h:Rt x0 x1){i:Nat}(hi:i<x0.length):GD (zAt x0 x1 i):=by
 have n:=h.nums hi
 exact qIH (by omega) (by omega) (by omega)
theorem qCR{x0 x1:R}(h:Rt x0 x1):GDs (q3v x0 x1):=fun d hd=>by
 obtain⟨i,hi,rfl⟩:=List.mem_map.1 hd
 exact h.gd (List.mem_range.1 hi)
theorem qEP{p:Int}(h:-1≤p∧p≤100000):GDs (qmk p):=fun d hd=>by
 unfold qmk at hd
 split at hd
 ·simp only[List.mem_cons,List.not_mem_nil,or_false] at hd
  rw[hd];exact qIH (by omega) (by omega) (by omega)
 ·cases hd
theorem kG{x0 x1:R}{p:Int}(h:Rt x0 x1)(hp:-1≤p∧p≤100000):GDs (wn x0 x1 p):=fun d hd=>by
 rcases List.mem_append.1 hd with hd|hd
 ·exact qCR h d hd
 ·exact qEP hp d hd
theorem qfB(x0 x1:R):(q3v x0 x1).length=x0.length:=by simp[q3v]
theorem qEn(p:Int):(qmk p).length≤1:=by unfold qmk;split<;>simp
theorem q1e{x0 x1:R}{p:Int}(h:Rt x0 x1):(wn x0 x1 p).length≤17:=by
 have:=qEn p
 have:=h.n
 unfold wn;rw[List.length_append,qfB];omega
theorem qfW{x0 x1:R}{p:Int}(h:Rt x0 x1):wn x0 x1 p≠[]:=by
 intro e
 have:=congrArg List.length e
 unfold wn at this
 rw[List.length_append,qfB] at this
 simp only[List.length_nil] at this
 have:=h.ne
 omega
theorem qEC(l m:List DQ):rD (l++m)=rD l++rD m:=List.map_append
theorem qr6(l:List DQ)(d:DQ):qdX (rD l) [[.s (tQ d.x),.s (tQ d.y),.s (tQ d.s)]]=rD (l++[d]):=by
 rw[qEC];rfl
def zT(x0 x1:R)(k:Nat):List DQ:=(List.range k).map (zAt x0 x1)
theorem qDb(x0 x1:R)(k:Nat):zT x0 x1 (k+1)=zT x0 x1 k++[zAt x0 x1 k]:=by unfold zT;rw[List.range_succ,List.map_append];rfl
theorem qGR(x0 x1:R)(k:Nat):(zT x0 x1 k).length=k:=by simp[zT]
theorem qcS{x0 x1:R}(p:Int)(h:Rt x0 x1):(wN [.r x0,.r x1,.i p]).run=some (0,[.r (rD (q3v x0 x1)),.i 0]):=by
 rw[qji]
 have hn:=h.n
 have key:=jv (S:=wV) (fun i=>[.r x0,.i (qh x0),.i (i:Int),.r x0,.r x1,.i p,.r (rD (zT x0 x1 i))]) (0,[.r (rD (q3v x0 x1))]) x0.length (by omega) (fun i hi=>by
  rw[q7Y]
  have a1:(i:Int)<qh x0:=by unfold qh;omega
  have a2:(i:Int)<qh x1:=by unfold qh;have:=h.e;omega
  have n:=h.nums hi
  have al:(uV [.i (cI x0 i 0),.i (cI x0 i 1),.i (cI x0 i 2),.i (cI x0 i 3),.i (cI x0 i 4),.i (cI x0 i 5),.b (cB x0 i 6),.i (cI x1 i 2)]).run=some (0,[.i (cI x0 i 4+qCm x0 x1 i),.i 0]):=by
   rw[qsA];unfold qwA
   have t:chk (cI x0 i 0) (cI x0 i 1) (cI x0 i 2) (cI x0 i 3) (cI x0 i 4) (cI x0 i 5) (cB x0 i 6)=0:=h.t i hi
   rw[if_pos t,if_pos (h.i i hi)];rfl
  have w1:qA .i64 (cI x0 i 0) (cI x1 i 0)=cI x0 i 0-cI x1 i 0:=wA (by omega)
  have w2:qA .i64 (cI x0 i 1) (cI x1 i 1)=cI x0 i 1-cI x1 i 1:=wA (by omega)
  have ar:=ql3 (x:=cI x0 i 0-cI x1 i 0) (y:=cI x0 i 1-cI x1 i 1) (n:=cI x0 i 4+qCm x0 x1 i) (by unfold inR;omega) (by unfold inR;omega) (by unfold inR;omega)
  have room:qh (rD (zT x0 x1 i))+qh [[U.s (tQ (zAt x0 x1 i).x),.s (tQ (zAt x0 x1 i).y),.s (tQ (zAt x0 x1 i).s)]]≤2932031007402:=by
   rw[qv,qGR];unfold qh;simp;omega
  have room':=room
  unfold zAt at room'
  have row:=qr6 (zT x0 x1 i) (zAt x0 x1 i)
  unfold zAt at row
  simp only[STD,a1,a2,kq,and_self,al,w1,w2,ar,room',row,kd hi (show x0.length<9223372036854775808 by omega)]
  rw[qDb]
  rfl) (by
  rw[q7Y]
  have a1:¬((x0.length:Int)<qh x0):=by unfold qh;omega
  simp only[STD,a1]
  rfl)
 have key':(qf wV [.r x0,.i (qh x0),.i 0,.r x0,.r x1,.i p,.r []]).run=some (0,[.r (rD (q3v x0 x1))]):=key
 simp only[STD,key',qu key']
theorem q8C{x0 x1:R}{p:Int}(h:Rt x0 x1)(hp:-1≤p∧p≤100000):(wM [.r x0,.r x1,.i p]).run=some (0,[.r (rD (wn x0 x1 p))]):=by
 rw[qxs]
 have hn:=h.n
 have key:=jv (S:=q46) (fun i=>[.i (i:Int),.r x0,.r x1,.i p,.r (rD (zT x0 x1 i))]) (0,[.r x0,.r x1,.i p,.r (rD (q3v x0 x1))]) x0.length (by omega) (fun i hi=>by
  rw[qkT]
  have a1:(i:Int)<qh x0:=by unfold qh;omega
  have a2:(i:Int)<qh x1:=by unfold qh;have:=h.e;omega
  have n:=h.nums hi
  obtain⟨h1,h2,h3,h4,h5,h6,h7,h8,h9,h10,h11,h12,h13,h14⟩:=qnK (h.t i hi)
  obtain⟨k1,k2,k3,k4,k5,k6⟩:=qpC (h.r i hi)
  have al:(q1R [.i (cI x0 i 0),.i (cI x0 i 1),.i (cI x0 i 2),.i (cI x0 i 3),.i (cI x0 i 4),.i (cI x0 i 5),.b (cB x0 i 6),.i (cI x1 i 2)]).run=some (0,[.i (qCm x0 x1 i)]):=
   qwn _ _ _ _ _ _ _ _ ⟨h5,h6,h7,h8,h13,h14⟩ ⟨k5,k6⟩
  have w1:qA .i64 (cI x0 i 0) (cI x1 i 0)=cI x0 i 0-cI x1 i 0:=wA (by omega)
  have w2:qA .i64 (cI x0 i 1) (cI x1 i 1)=cI x0 i 1-cI x1 i 1:=wA (by omega)
  have w3:qk .i64 (cI x0 i 4) (qCm x0 x1 i)=cI x0 i 4+qCm x0 x1 i:=qO (by omega)
  have ar:=ql2 (x:=cI x0 i 0-cI x1 i 0) (y:=cI x0 i 1-cI x1 i 1) (n:=cI x0 i 4+qCm x0 x1 i) (by unfold inR;omega) (by unfold inR;omega) (by unfold inR;omega)
  have room:qh (rD (zT x0 x1 i))+qh [[U.s (tQ (zAt x0 x1 i).x),.s (tQ (zAt x0 x1 i).y),.s (tQ (zAt x0 x1 i).s)]]≤2932031007402:=by
   rw[qv,qGR];unfold qh;simp;omega
  have room':=room
  unfold zAt at room'
  have row:=qr6 (zT x0 x1 i) (zAt x0 x1 i)
  unfold zAt at row
  simp only[STD,a1,a2,kq,and_self,al,w1,w2,w3,ar,room',row,kd hi (show x0.length<9223372036854775808 by omega)]
  rw[qDb]
  rfl) (by
  rw[qkT]
  have a1:¬((x0.length:Int)<qh x0):=by unfold qh;omega
  simp only[STD,a1]
  rfl)
 have key':(qf q46 [.i 0,.r x0,.r x1,.i p,.r []]).run=some (0,[.r x0,.r x1,.i p,.r (rD (q3v x0 x1))]):=key
 unfold wn qmk
 by_cases c:0≤p
 ·have ar:=ql2 (x:=0) (y:=0) (n:=p) (by unfold inR;omega) (by unfold inR;omega) (by unfold inR;omega)
  have room:qh (rD (q3v x0 x1))+qh [[U.s (tQ (zD 0 0 p).x),.s (tQ (zD 0 0 p).y),.s (tQ (zD 0 0 p).s)]]≤2932031007402:=by
   rw[qv,qfB];unfold qh;simp;omega
  simp only[STD,key',c,ar,room,qr6]
 ·simp only[STD,key',c,List.append_nil]
theorem qFS(l:R):qyh l 0 (qh l)=l:=by unfold qyh qh;simp
theorem qj8{l:List DQ}{p:Int}(hl:l.length≤100)(hp:-1≤p∧p≤100000):(uZ [.r (rD l),.i p]).run=some (0,[.r (rD (l++qmk p)),.i 0]):=by
 rw[qqX]
 unfold qmk
 by_cases c:p<0
 ·simp only[STD,c,show ¬(0≤p) by omega,List.append_nil]
 ·have ar:=ql3 (x:=0) (y:=0) (n:=p) (by unfold inR;omega) (by unfold inR;omega) (by unfold inR;omega)
  have room:qh (rD l)+qh [[U.s (tQ (zD 0 0 p).x),.s (tQ (zD 0 0 p).y),.s (tQ (zD 0 0 p).s)]]≤2932031007402:=by
   rw[qv];unfold qh;simp;omega
  have b1:q6E (qh (rD l)) (qh (rD l))=true:=by rw[qv];unfold q6E;simp
  have b2:q6E 0 (qh (rD l))=true:=by rw[qv];unfold q6E;simp
  have b3:(0:Int)<qh [[U.s (tQ (zD 0 0 p).x),.s (tQ (zD 0 0 p).y),.s (tQ (zD 0 0 p).s)]]:=by unfold qh;simp
  simp only[STD,c,ar,room,qFS,qr6,show 0≤p by omega,b1,b2,b3]
theorem wJ(x0 x1:R)(p:Int)(h:x0.length<9223372036854775808)(k:x1.length<9223372036854775808):(zg [.r x0,.r x1,.i p]).run=some (0,if zU x0 x1 p=0 then [.r (rD (wn x0 x1 p)),.i 0] else [.r [],.i (zU x0 x1 p)]):=by
 rw[qub]
 by_cases hc:zU x0 x1 p=0
 ·obtain⟨hr,hp⟩:=wo hc
  simp only[STD,q48 x0 x1 p h k,hc,qcS p hr,qj8 (l:=q3v x0 x1) (p:=p) (by rw[qfB];have:=hr.n;omega) hp]
  rfl
 ·simp only[STD,q48 x0 x1 p h k,hc]
theorem qwR(x0 x1:R)(p:Int)(h:x0.length<9223372036854775808)(k:x1.length<9223372036854775808):(q7L [.r x0,.r x1,.i p]).run=some (0,if zU x0 x1 p=0 then [.r (rD (wn x0 x1 p)),.i 0] else [.r [],.i (zU x0 x1 p)]):=by
 rw[quL]
 by_cases hc:zU x0 x1 p=0
 ·obtain⟨hr,hp⟩:=wo hc
  simp only[STD,qP x0 x1 p h k,hc,q8C hr hp]
 ·simp only[STD,qP x0 x1 p h k,hc]
end Go.Eng

namespace Go.Eng
def qy3(x0 x1:R)(p:Int):List PV:=if zU x0 x1 p=0 then cW (ka (wn x0 x1 p)) else [.b false,.i 0,.i 0,.i 0,.i (zU x0 x1 p)]
theorem kD(x0 x1:R)(p:Int)(h:x0.length<9223372036854775808)(k:x1.length<9223372036854775808):(qw [.r x0,.r x1,.i p]).run=some (0,qy3 x0 x1 p):=by
 rw[qpa]
 unfold qy3
 by_cases hc:zU x0 x1 p=0
 ·obtain⟨hr,hp⟩:=wo hc
  have c:=qsV (kG hr hp) (qfW hr) (by have:=q1e (p:=p) hr;omega)
  simp only[STD,wJ x0 x1 p h k,hc,c]
  cases ka (wn x0 x1 p)<;>rfl
 ·simp only[STD,wJ x0 x1 p h k,hc]
theorem qqJ(x0 x1:R)(p:Int)(h:x0.length<9223372036854775808)(k:x1.length<9223372036854775808):(q2e [.r x0,.r x1,.i p]).run=some (0,qy3 x0 x1 p):=by
 rw[qoG]
 unfold qy3
 by_cases hc:zU x0 x1 p=0
 ·obtain⟨hr,hp⟩:=wo hc
  have c:=qwG (kG hr hp) (by have:=q1e (p:=p) hr;omega)
  simp only[STD,qP x0 x1 p h k,q8C hr hp,hc,c]
  cases ka (wn x0 x1 p)<;>rfl
 ·simp only[STD,qP x0 x1 p h k,hc]
def qzz(x0 x1:R)(p:Int):List PV:=if zU x0 x1 p=0 then [.r (q8n (wn x0 x1 p)),.i 0] else [.r [],.i (zU x0 x1 p)]
theorem q9I(x0 x1:R)(p:Int)(h:x0.length<9223372036854775808)(k:x1.length<9223372036854775808):(wi [.r x0,.r x1,.i p]).run=some (0,qzz x0 x1 p):=by
 rw[qhY]
 unfold qzz
 by_cases hc:zU x0 x1 p=0
 ·obtain⟨hr,hp⟩:=wo hc
  have c:=qzW (kG hr hp) (qfW hr) (by have:=q1e (p:=p) hr;omega)
  simp only[STD,wJ x0 x1 p h k,hc,c]
 ·simp only[STD,wJ x0 x1 p h k,hc]
theorem qjz(x0 x1:R)(p:Int)(h:x0.length<9223372036854775808)(k:x1.length<9223372036854775808):(jT [.r x0,.r x1,.i p]).run=some (0,qzz x0 x1 p):=by
 rw[qi6]
 unfold qzz
 by_cases hc:zU x0 x1 p=0
 ·obtain⟨hr,hp⟩:=wo hc
  have c:=qHt (kG hr hp) (by have:=q1e (p:=p) hr;omega)
  simp only[STD,qP x0 x1 p h k,q8C hr hp,hc,c]
 ·simp only[STD,qP x0 x1 p h k,hc]
def qHL(x0 x1:R)(p a b c:Int):List PV:=if zU x0 x1 p=0 then [.b (vB (wn x0 x1 p) a b c),.i (vE (wn x0 x1 p).length a b c)] else [.b false,.i (zU x0 x1 p)]
theorem qtX(x0 x1:R)(p a b c:Int)(h:x0.length<9223372036854775808)(k:x1.length<9223372036854775808):(q55 [.r x0,.r x1,.i p,.i a,.i b,.i c]).run=some (0,qHL x0 x1 p a b c):=by
 rw[qrp]
 unfold qHL
 by_cases hc:zU x0 x1 p=0
 ·obtain⟨hr,hp⟩:=wo hc
  have c:=qzZ (kG hr hp) (qfW hr) (by have:=q1e (p:=p) hr;omega) a b c
  simp only[STD,wJ x0 x1 p h k,hc,c]
 ·simp only[STD,wJ x0 x1 p h k,hc]
theorem qu3(x0 x1:R)(p a b c:Int)(h:x0.length<9223372036854775808)(k:x1.length<9223372036854775808):(q5a [.r x0,.r x1,.i p,.i a,.i b,.i c]).run=some (0,qHL x0 x1 p a b c):=by
 rw[qsM]
 unfold qHL
 by_cases hc:zU x0 x1 p=0
 ·obtain⟨hr,hp⟩:=wo hc
  have c:=qzm (kG hr hp) (qfW hr) (by have:=q1e (p:=p) hr;omega) a b c
  simp only[STD,qP x0 x1 p h k,q8C hr hp,hc,c]
 ·simp only[STD,qP x0 x1 p h k,hc]
def quC(l:List DQ)(px py:Rat):Bool:=l.all fun d=>decide (kv d.x d.y px py≤d.s)
theorem qDB{l:List DQ}(hl:GDs l)(hn:l.length<1000000){px py:Rat}(hx:∀d,GD d→(wx [.s (tQ d.x),.s (tQ d.y),.s (tQ d.s),.s (tQ px),.s (tQ py)]).run=some (0,[.b (decide (kv d.x d.y px py≤d.s)),.i 0])) :
  (qf q1k [.r (rD l),.i (qh (rD l)),.i 0,.s (tQ px),.s (tQ py)]).run=some (if quC l px py=true then (0,[]) else (1,[.b false,.i 0])):=by
 have L:=j7 (S:=q1k) (fun k=>[.r (rD l),.i (qh (rD l)),.i (k:Int),.s (tQ px),.s (tQ py)])
  (fun k=>if decide (kv (ix l k).x (ix l k).y px py≤(ix l k).s)=true then none else some ()) (fun _=>[.b false,.i 0]) [] l.length (by omega) (fun k hk=>by
   rw[qhT]
   obtain⟨x1,x2,x3⟩:=qhe hk
   rw[x1,x2,x3]
   have a1:(k:Int)<qh (rD l):=by rw[qv];omega
   have c:=hx _ (hl.ix hk)
   by_cases e:kv (ix l k).x (ix l k).y px py≤(ix l k).s
   ·simp only[STD,a1,kq,and_self,c,e,kd hk (show l.length<9223372036854775808 by omega),decide_true]
    rfl
   ·simp only[STD,a1,kq,and_self,c,e,decide_false]) (by
   rw[qhT]
   simp only[STD,qv,show ¬((l.length:Int)<(l.length:Int)) by omega])
 simp only[show (((0:Nat)):Int)=0 from rfl] at L
 rw[L]
 rcases qxd (fun k=>decide (kv (ix l k).x (ix l k).y px py≤(ix l k).s)) (fun _=>()) l.length with⟨s1,s2⟩|⟨k,hk,s2,s1⟩
 ·rw[s1]
  have:quC l px py=true:=(qyw l _).2 s2
  rw[if_pos this];rfl
 ·rw[s1]
  have:quC l px py=false:=qvY (p:=fun d=>decide (kv d.x d.y px py≤d.s)) hk s2
  rw[if_neg (by rw[this];decide)];rfl
def qA2(x0 x1:R)(p:Int)(px py:Rat):List PV:=if zU x0 x1 p=0 then [.b (quC (wn x0 x1 p) px py),.i 0] else [.b false,.i (zU x0 x1 p)]
theorem qcZ{x0 x1:R}{p:Int}(h:x0.length<9223372036854775808)(k:x1.length<9223372036854775808){px py:Rat}(ox:okQ px)(oy:okQ py)
  (hx:∀d,GD d→(wx [.s (tQ d.x),.s (tQ d.y),.s (tQ d.s),.s (tQ px),.s (tQ py)]).run=some (0,[.b (decide (kv d.x d.y px py≤d.s)),.i 0])) :
  (uw [.r x0,.r x1,.i p,.s (tQ px),.s (tQ py)]).run=some (0,qA2 x0 x1 p px py):=by
 rw[qge]
 unfold qA2
 by_cases hc:zU x0 x1 p=0
 ·obtain⟨hr,hp⟩:=wo hc
  have key:=jv (S:=uu) (fun i=>[.r (rD (wn x0 x1 p)),.i 2,.i (i:Int),.s (tQ px),.s (tQ py),.r [[.s (tQ px)],[.s (tQ py)]]]) (0,[.r (rD (wn x0 x1 p)),.s (tQ px),.s (tQ py)]) 2 (by omega) (fun i hi=>by
   rw[q7e]
   rcases (show i=0∨i=1 by omega) with rfl|rfl
   ·have e:cS [[.s (tQ px)],[.s (tQ py)]] ((0:Nat):Int) 0=tQ px:=rfl
    simp only[e,STD,q5D ox,show qh [[U.s (tQ px)],[.s (tQ py)]]=2 from rfl]
    rfl
   ·have e:cS [[.s (tQ px)],[.s (tQ py)]] ((1:Nat):Int) 0=tQ py:=rfl
    simp only[e,STD,q5D oy,show qh [[U.s (tQ px)],[.s (tQ py)]]=2 from rfl]
    rfl) (by rw[q7e];simp only[STD,show ((2:Nat):Int)=2 from rfl,show ¬(2:Int)<2 by omega])
  have key':(qf uu [.r (rD (wn x0 x1 p)),.i (qh [[U.s (tQ px)],[.s (tQ py)]]),.i 0,.s (tQ px),.s (tQ py),.r [[.s (tQ px)],[.s (tQ py)]]]).run=some (0,[.r (rD (wn x0 x1 p)),.s (tQ px),.s (tQ py)]):=key
  have L:=qDB (kG hr hp) (by have:=q1e (p:=p) hr;omega) hx
  by_cases e:quC (wn x0 x1 p) px py=true
  ·rw[if_pos e] at L
   simp only[STD,wJ x0 x1 p h k,hc,key',qu key',L,qu L,e]
  ·rw[if_neg e] at L
   have e':quC (wn x0 x1 p) px py=false:=by simpa using e
   simp only[STD,wJ x0 x1 p h k,hc,key',qu key',L,qu L,e']
   rfl
 ·simp only[STD,wJ x0 x1 p h k,hc]
theorem qtF{x0 x1:R}{p:Int}(h:x0.length<9223372036854775808)(k:x1.length<9223372036854775808){px py:Rat}(ox:okQ px)(oy:okQ py)
  (hx:∀d,GD d→(q6n [.s (tQ d.x),.s (tQ d.y),.s (tQ d.s),.s (tQ px),.s (tQ py)]).run=some (0,[.b (decide (kv d.x d.y px py≤d.s))])) :
  (q3i [.r x0,.r x1,.i p,.s (tQ px),.s (tQ py)]).run=some (0,qA2 x0 x1 p px py):=by
 have c3:(vA [.s (tQ px)]).run=some (0,[.i 0]):=by rw[q1P _ (by have:=q8k ox;omega),qoC ox]
 have c4:(vA [.s (tQ py)]).run=some (0,[.i 0]):=by rw[q1P _ (by have:=q8k oy;omega),qoC oy]
 rw[qgh]
 unfold qA2
 by_cases hc:zU x0 x1 p=0
 ·obtain⟨hr,hp⟩:=wo hc
  have hl:=kG hr hp
  have hn:=q1e (p:=p) hr
  generalize hz:wn x0 x1 p=l at *
  have L:=j7 (S:=uR) (fun k=>[.r (rD l),.i (k:Int),.s (tQ px),.s (tQ py)])
   (fun k=>if decide (kv (ix l k).x (ix l k).y px py≤(ix l k).s)=true then none else some ()) (fun _=>[.b false,.i 0]) [] l.length (by omega) (fun k hk=>by
    rw[qhE]
    obtain⟨x1,x2,x3⟩:=qhe hk
    rw[x1,x2,x3]
    have a1:(k:Int)<qh (rD l):=by rw[qv];omega
    have c:=hx _ (hl.ix hk)
    by_cases e:kv (ix l k).x (ix l k).y px py≤(ix l k).s
    ·simp only[STD,a1,kq,and_self,c,e,kd hk (show l.length<9223372036854775808 by omega),decide_true]
     rfl
    ·simp only[STD,a1,kq,and_self,c,e,decide_false]) (by
    rw[qhE]
    simp only[STD,qv,show ¬((l.length:Int)<(l.length:Int)) by omega])
  simp only[show (((0:Nat)):Int)=0 from rfl] at L
  have al:=q8C hr hp
  rw[hz] at al
  rcases qxd (fun k=>decide (kv (ix l k).x (ix l k).y px py≤(ix l k).s)) (fun _=>()) l.length with⟨s1,s2⟩|⟨k',hk,s2,s1⟩
  ·rw[s1] at L
   have e:quC l px py=true:=(qyw l _).2 s2
   have L':(qf uR [.r (rD l),.i 0,.s (tQ px),.s (tQ py)]).run=some (0,[]):=L
   simp only[STD,qP x0 x1 p h k,hc,c3,c4,al,L',qu L',e]
  ·rw[s1] at L
   have e:quC l px py=false:=qvY (p:=fun d=>decide (kv d.x d.y px py≤d.s)) hk s2
   have L':(qf uR [.r (rD l),.i 0,.s (tQ px),.s (tQ py)]).run=some (1,[.b false,.i 0]):=L
   simp only[STD,qP x0 x1 p h k,hc,c3,c4,al,L',qu L',e]
   rfl
 ·simp only[STD,qP x0 x1 p h k,hc]
end Go.Eng

namespace Go.Eng
def qan(x0 x1:R)(p:Int):Bool:=(ka (wn x0 x1 p)).isSome
theorem qfp{x0 x1:R}{p:Int}(h:Rt x0 x1)(hp:-1≤p∧p≤100000):qan x0 x1 p=true↔qki (wn x0 x1 p):=
 qpA (qfW h) fun d hd=>(kG h hp d hd).nn
theorem qmY{x0 x1:R}{p q:Int}(h:Rt x0 x1)(hp:0≤p∧p≤q∧q≤100000)(hc:qan x0 x1 p=true):qan x0 x1 q=true:=by
 rw[qfp h (by omega)] at hc ⊢
 refine qxv hc fun d hd=>?_
 rcases List.mem_append.1 hd with hd|hd
 ·exact⟨d,List.mem_append_left _ hd,rfl,rfl,Rat.le_refl⟩
 ·unfold qmk at hd
  rw[if_pos (by omega)] at hd
  simp only[List.mem_cons,List.not_mem_nil,or_false] at hd
  refine⟨zD 0 0 p,List.mem_append_right _ (by unfold qmk;rw[if_pos (by omega)];simp),?_,?_,?_⟩
  ·rw[hd];rfl
  ·rw[hd];rfl
  ·rw[hd];exact qzp (by omega) (by omega)
theorem qB5{x0 x1:R}{p:Int}(e:Int)(h:Rt x0 x1)(hp:-1≤p∧p≤100000):(zy [.i p,.r (rD (q3v x0 x1)),.i e]).run=some (0,[.b (qan x0 x1 p),.r (rD (q3v x0 x1)),.i e]):=by
 rw[qi4]
 have l:=qj8 (l:=q3v x0 x1) (p:=p) (by rw[qfB];have:=h.n;omega) hp
 have c:=qsV (kG h hp) (qfW h) (by have:=q1e (p:=p) h;omega)
 unfold wn at c
 unfold qan wn
 simp only[STD,l,c]
 cases ka (q3v x0 x1++qmk p)<;>rfl
theorem qve{x0 x1:R}{p:Int}(y:Int)(h:Rt x0 x1)(hp:-1≤p∧p≤100000):(yR [.r x0,.r x1,.i y,.i p]).run=some (0,[.b (qan x0 x1 p)]):=by
 rw[qp3]
 have c:=qwG (kG h hp) (by have:=q1e (p:=p) h;omega)
 unfold qan
 simp only[STD,qvX,q8C h hp,c]
 cases ka (wn x0 x1 p)<;>rfl
def qq9(x0 x1:R)(n:Int):Prop:=0≤n∧n≤100000∧qan x0 x1 n=true∧∀q,0≤q→q<n→qan x0 x1 q=false
theorem qvD{x0 x1:R}{m n:Int}(hm:qq9 x0 x1 m)(hn:qq9 x0 x1 n):m=n:=by
 obtain⟨a1,a2,a3,a4⟩:=hm
 obtain⟨b1,b2,b3,b4⟩:=hn
 rcases Int.lt_trichotomy m n with h|h|h
 ·have:=b4 m a1 h;rw[a3] at this;cases this
 ·exact h
 ·have:=a4 n b1 h;rw[b3] at this;cases this
theorem qHY{x:Int}(h:0≤x∧x≤1000000):yi .i64 x 2=x/2:=by
 obtain⟨n,rfl⟩:∃n:Nat,x=n:=⟨x.toNat,by omega⟩
 have:=qwX (a:=n) (b:=2) (by omega)
 rw[show ((2:Nat):Int)=2 from rfl] at this
 rw[this];omega
theorem qH0{x0 x1:R}(h:Rt x0 x1)(hc:qan x0 x1 100000=true):∃n,qq9 x0 x1 n∧(q7b [.i 0,.i 100000,.r (rD (q3v x0 x1)),.i 0]).run=some (0,[.i n,.r (rD (q3v x0 x1)),.i 0]):=by
 obtain⟨j,qs,h1,rfl,n,rfl,hl⟩:=vZ (S:=q3m)
  (fun k ps=>∃a b:Int,ps=[.i a,.i b,.r (rD (q3v x0 x1)),.i 0]∧0≤a∧a≤b∧b≤100000∧b-a=k∧(∀q,0≤q→q<a→qan x0 x1 q=false)∧qan x0 x1 b=true)
  (fun j qs=>j=0∧∃n,qs=[.i n,.r (rD (q3v x0 x1)),.i 0]∧qq9 x0 x1 n) (n:=100000) (by omega) (fun k ps hk ⟨a,b,e,a1,a2,a3,a4,a5,a6⟩=>by
  subst e
  rw[qqK]
  by_cases c:a<b
  ·left
   have w1:qk .i64 a b=a+b:=qO (by omega)
   have w2:yi .i64 (a+b) 2=(a+b)/2:=qHY (by omega)
   have w3:qk .i64 ((a+b)/2) 1=(a+b)/2+1:=qO (by omega)
   have en:=qB5 (p:=(a+b)/2) 0 h (by omega)
   by_cases d:qan x0 x1 ((a+b)/2)=true
   ·refine⟨((a+b)/2-a).toNat,[.i a,.i ((a+b)/2),.r (rD (q3v x0 x1)),.i 0],by omega,?_,a,(a+b)/2,rfl,a1,by omega,by omega,by omega,a5,d⟩
    simp only[STD,c,w1,w2,en,d]
   ·have d':qan x0 x1 ((a+b)/2)=false:=by simpa using d
    refine⟨(b-((a+b)/2+1)).toNat,[.i ((a+b)/2+1),.i b,.r (rD (q3v x0 x1)),.i 0],by omega,?_,(a+b)/2+1,b,rfl,by omega,by omega,a3,by omega,fun q q0 q1=>?_,a6⟩
    ·simp only[STD,c,w1,w2,w3,en,d']
    ·cases hq:qan x0 x1 q with
     | false=>rfl
     | true=>exact absurd (qmY (q:=(a+b)/2) h (by omega) hq) d
  ·right
   obtain rfl:a=b:=by omega
   refine⟨0,[.i a,.r (rD (q3v x0 x1)),.i 0],?_,rfl,a,rfl,a1,a3,a6,a5⟩
   simp only[STD,c]) (ps:=[.i 0,.i 100000,.r (rD (q3v x0 x1)),.i 0]) ⟨0,100000,rfl,by omega,by omega,by omega,by omega,fun q q0 q1=>by omega,hc⟩
 refine⟨n,hl,?_⟩
 rw[quD]
 simp only[STD,h1]
theorem qFn{x0 x1:R}(y:Int)(h:Rt x0 x1)(hc:qan x0 x1 100000=true):∃n,qq9 x0 x1 (n+1)∧(qf uM [.i (-1),.i 65536,.r x0,.r x1,.i y]).run=some (0,[.i n]):=by
 obtain⟨j,qs,h1,rfl,n,rfl,hl⟩:=vZ (S:=uM)
  (fun k ps=>∃(a s:Int) (j:Nat),ps=[.i a,.i s,.r x0,.r x1,.i y]∧(s=0∨s=((2^j:Nat):Int))∧j≤16∧-1≤a∧a<100000∧100000-a+s≤k∧(a=-1∨qan x0 x1 a=false) ∧
   ∀q,a+(if s=0 then 1 else 2*s)≤q→q≤100000→qan x0 x1 q=true)
  (fun j qs=>j=0∧∃n,qs=[.i n]∧qq9 x0 x1 (n+1)) (n:=1000000) (by omega) (fun k ps hk ⟨a,s,j,e,b1,bj,b2,b3,b4,b5,b6⟩=>by
  subst e
  have hj:((2^j:Nat):Int)≤65536:=by
   have:=Nat.pow_le_pow_right (n:=2) (by omega) bj
   have e:(2:Nat)^16=65536:=by decide
   omega
  have hj1:1≤((2^j:Nat):Int):=by have:=Nat.two_pow_pos j;omega
  rw[qor]
  by_cases c:0<s
  ·left
   have hs:s=((2^j:Nat):Int):=by rcases b1 with b1|b1<;>omega
   have w1:qk .i64 a s=a+s:=qO (by omega)
   have w2:yi .i64 s 2=s/2:=qHY (by omega)
   have b6':∀q,a+2*s≤q→q≤100000→qan x0 x1 q=true:=by
    intro q h1 h2;refine b6 q ?_ h2;rw[if_neg (by omega)];exact h1
   have halve:(∀q,a+s≤q→q≤100000→qan x0 x1 q=true)→∃k' qs,k'<k∧some ((0:Nat),([.i a,.i (s/2),.r x0,.r x1,.i y]:List PV))=some (0,qs)∧∃(a s:Int) (j:Nat),qs=[.i a,.i s,.r x0,.r x1,.i y]∧(s=0∨s=((2^j:Nat):Int))∧j≤16∧-1≤a∧a<100000∧100000-a+s≤(k':Nat)∧(a=-1∨qan x0 x1 a=false) ∧
     ∀q,a+(if s=0 then 1 else 2*s)≤q→q≤100000→qan x0 x1 q=true:=by
    intro hq
    refine⟨k-1,_,by omega,rfl,a,s/2,j-1,rfl,?_,by omega,b2,b3,by omega,b5,fun q q1 q2=>hq q ?_ q2⟩
    ·cases j with
     | zero=>left;have e:((2^0:Nat):Int)=1:=rfl;omega
     | succ j=>
      right
      rw[hs,Nat.pow_succ]
      show ((2^j*2:Nat):Int)/2=((2^j:Nat):Int)
      omega
    ·split at q1
     ·omega
     ·have:2*(s/2)=s:=by
       cases j with
       | zero=>have e:((2^0:Nat):Int)=1:=rfl;omega
       | succ j=>rw[hs,Nat.pow_succ];omega
      omega
   by_cases d:a+s≤100000
   ·have po:=qve (p:=a+s) y h (by omega)
    by_cases f:qan x0 x1 (a+s)=true
    ·obtain⟨k',qs,r1,r2,r3⟩:=halve fun q q1 q2=>qmY (p:=a+s) h (by omega) f
     refine⟨k',qs,r1,?_,r3⟩
     rw[←r2]
     simp only[STD,c,w1,w2,d,po,f]
    ·have f':qan x0 x1 (a+s)=false:=by simpa using f
     refine⟨k-1,[.i (a+s),.i s,.r x0,.r x1,.i y],by omega,?_,a+s,s,j,rfl,b1,bj,by omega,?_,by omega,.inr f',fun q q1 q2=>b6' q (by rw[if_neg (by omega)] at q1;omega) q2⟩
     ·simp only[STD,c,w1,d,po,f']
     ·rcases Int.lt_or_eq_of_le d with d|d
      ·exact d
      ·rw[d,hc] at f';cases f'
   ·obtain⟨k',qs,r1,r2,r3⟩:=halve fun q q1 q2=>by omega
    refine⟨k',qs,r1,?_,r3⟩
    rw[←r2]
    simp only[STD,c,w1,w2,d]
  ·right
   have hs:s=0:=by omega
   subst hs
   refine⟨0,[.i a],?_,rfl,a,rfl,by omega,by omega,b6 (a+1) (by simp) (by omega),fun q q0 q1=>?_⟩
   ·simp only[STD,c]
   ·rcases b5 with b5|b5
    ·omega
    ·cases hq:qan x0 x1 q with
     | false=>rfl
     | true=>rw[qmY (q:=a) h (by omega) hq] at b5;cases b5) (ps:=[.i (-1),.i 65536,.r x0,.r x1,.i y])
  ⟨-1,65536,16,rfl,.inr (by decide),by omega,by omega,by omega,by omega,.inl rfl,fun q q1 q2=>by rw[if_neg (by omega)] at q1;omega⟩
 exact⟨n,hl,h1⟩
theorem qwI(x0 x1:R)(y:Int)(h:x0.length<9223372036854775808)(k:x1.length<9223372036854775808) :
  (zU x0 x1 y≠0∧(zQ [.r x0,.r x1,.i y]).run=some (0,[.i 0,.i (zU x0 x1 y)])∧(ut [.r x0,.r x1,.i y]).run=some (0,[.i 0,.i (zU x0 x1 y)])) ∨
  (zU x0 x1 y=0∧qan x0 x1 100000=false∧(zQ [.r x0,.r x1,.i y]).run=some (0,[.i 0,.i 6])∧(ut [.r x0,.r x1,.i y]).run=some (0,[.i 0,.i 6])) ∨
  (zU x0 x1 y=0∧qan x0 x1 100000=true∧∃n,qq9 x0 x1 n∧(zQ [.r x0,.r x1,.i y]).run=some (0,[.i n,.i 0])∧(ut [.r x0,.r x1,.i y]).run=some (0,[.i n,.i 0])):=by
 rw[qt1,qrQ]
 by_cases hc:zU x0 x1 y=0
 ·obtain⟨hr,hp⟩:=wo hc
  right
  have e1:=qB5 (p:=100000) 0 hr (by omega)
  have e2:=qve (p:=100000) y hr (by omega)
  by_cases c:qan x0 x1 100000=true
  ·right
   obtain⟨n,l1,l2⟩:=qH0 hr c
   obtain⟨m,m1,m2⟩:=qFn y hr c
   obtain rfl:=qvD l1 m1
   have w:qk .i64 m 1=m+1:=qO (by have:=m1.1;have:=m1.2.1;omega)
   refine⟨hc,c,m+1,m1,?_,?_⟩
   ·simp only[STD,q48 x0 x1 y h k,hc,qcS y hr,e1,c,l2]
   ·simp only[STD,qP x0 x1 y h k,hc,e2,c,m2,w]
  ·have c':qan x0 x1 100000=false:=by simpa using c
   left
   refine⟨hc,c',?_,?_⟩
   ·simp only[STD,q48 x0 x1 y h k,hc,qcS y hr,e1,c']
   ·simp only[STD,qP x0 x1 y h k,hc,e2,c']
 ·left
  refine⟨hc,?_,?_⟩
  ·simp only[STD,q48 x0 x1 y h k,hc]
  ·simp only[STD,qP x0 x1 y h k,hc]
end Go.Eng

namespace Go.Eng
theorem qFw(s:List UInt8):(seq s s=true)=True:=by rw[qY];simp
theorem qaO(l:R)(h:l.length<9223372036854775808):(zn [.r l,.r l]).run=some (0,[.b true]):=by
 have e:(qf z8 [.r l,.r l,.i (qh l),.i 0]).run=some (0,[]):=by
  refine jv (fun i=>[.r l,.r l,.i (qh l),.i (i:Int)]) (0,[]) l.length h (fun i hi=>?_) ?_
  ·have h1:(i:Int)<qh l:=by unfold qh;omega
   rw[ke]
   simp only[STD,h1,kd hi h,show (0:Int)≤(i:Int) by omega,and_self,qFw]
  ·rw[ke]
   simp only[STD,show ¬((l.length:Int)<qh l) by unfold qh;omega]
 rw[q7I]
 simp only[STD,e,qu e]
theorem qbK{x0 x1:R}{p:Int}(h:zU x0 x1 p=0):∃a b c,qy3 x0 x1 p=[.b (qan x0 x1 p),.i a,.i b,.i c,.i 0]:=by
 unfold qy3 qan
 rw[if_pos h]
 cases ka (wn x0 x1 p)<;>exact⟨_,_,_,rfl⟩
theorem qFH(x0 x1:R)(p:Int):∃b x y z e,qy3 x0 x1 p=[.b b,.i x,.i y,.i z,.i e]:=by
 by_cases h:zU x0 x1 p=0
 ·obtain⟨a,b,c,e⟩:=qbK h;exact⟨_,_,_,_,_,e⟩
 ·unfold qy3;rw[if_neg h];exact⟨_,_,_,_,_,rfl⟩
def exT:R:=[[.i 0,.i 0,.i 20,.i 24,.i 4,.i 1,.b false],[.i 50,.i 0,.i 20,.i 24,.i 4,.i 1,.b false]]
def exC(a s:Int):R:=[[.i a,.i 0,.i s],[.i 53,.i 0,.i s]]
theorem qFy:zU exT (exC 3 20) (-1)=0:=by decide +kernel
theorem qIF:zU exT (exC (-3) 20) (-1)=0:=by decide +kernel
theorem qJg:zU exT (exC (-3) 22) (-1)=0:=by decide +kernel
theorem qJ6:qan exT (exC 3 20) (-1)=true:=by decide +kernel
theorem qJl:qan exT (exC (-3) 20) (-1)=false:=by decide +kernel
theorem qJa:quC (wn exT (exC 3 20) (-1)) (-1) 0=true:=by decide +kernel
theorem qJk:quC (wn exT (exC (-3) 22) (-1)) 0 0=true:=by decide +kernel
theorem qJr:qq9 exT (exC 3 20) 2:=by
 refine⟨by omega,by omega,by decide +kernel,fun q q0 q1=>?_⟩
 rcases (show q=0∨q=1 by omega) with rfl|rfl
 ·decide +kernel
 ·decide +kernel
theorem qJ3:qan exT (exC 3 20) 100000=true:=by decide +kernel
theorem qJd:q8n (wn exT (exC (-3) 20) (-1))=[[.i 0],[.i 1]]:=by
 have z:q87 (wn exT (exC (-3) 20) (-1)) 0 1=some (two 0 1):=by
  unfold q87
  have:(ka [ix (wn exT (exC (-3) 20) (-1)) 0,ix (wn exT (exC (-3) 20) (-1)) 1]).isSome=false:=by decide +kernel
  rw[this];rfl
 unfold q8n qAk
 simp only[show (wn exT (exC (-3) 20) (-1)).length=2 from rfl,yQ,Nat.zero_add,Nat.add_zero,show 2-1=1 from rfl,z,Option.elim,id]
 rfl
theorem qme:exT.length<9223372036854775808:=by decide
theorem qmg(a s:Int):(exC a s).length<9223372036854775808:=by show 2<9223372036854775808;omega
theorem tm1:tQ (-1)=[45,49]:=by decide +kernel
theorem tz0:tQ 0=[48]:=rfl
theorem zm:(qo []).run=some (0,[.b true]):=by
 rw[qtN]
 have two:∀a s:Int,(q6b [.i a,.i 53,.i s]).run=some (0,[.r exT,.r (exC a s),.i (-1)]):=fun a s=>by rw[qxP];rfl
 obtain⟨a1,a2,a3,f1⟩:=qbK qFy
 obtain⟨b1,b2,b3,f2⟩:=qbK qIF
 have F1:=kD exT (exC 3 20) (-1) qme (qmg _ _)
 have F2:=kD exT (exC (-3) 20) (-1) qme (qmg _ _)
 rw[f1,qJ6] at F1
 rw[f2,qJl] at F2
 have om:okQ (-1:Rat):=by unfold okQ;decide +kernel
 have oz:okQ (0:Rat):=by unfold okQ;decide +kernel
 have bm:bnd 12 10 (-1:Rat):=by unfold bnd;decide +kernel
 have bz:bnd 12 10 (0:Rat):=by unfold bnd;decide +kernel
 have D1:=qcZ (p:=-1) qme (qmg 3 20) om oz (fun d gd=>qvw gd bm bz)
 have D2:=qcZ (p:=-1) qme (qmg (-3) 22) oz oz (fun d gd=>qvw gd bz bz)
 unfold qA2 at D1 D2
 rw[if_pos qFy,qJa,tm1,tz0] at D1
 rw[if_pos qJg,qJk,tz0] at D2
 have N:(zQ [.r exT,.r (exC 3 20),.i (-1)]).run=some (0,[.i 2,.i 0]):=by
  rcases qwI exT (exC 3 20) (-1) qme (qmg _ _) with⟨h,_⟩|⟨_,h,_⟩|⟨_,_,n,h,h2,_⟩
  ·exact absurd qFy h
  ·rw[qJ3] at h;cases h
  ·rw[h2,qvD h qJr]
 have C:=q9I exT (exC (-3) 20) (-1) qme (qmg _ _)
 unfold qzz at C
 rw[if_pos qIF,qJd] at C
 have Z:=wJ exT (exC 3 20) (-1) qme (qmg _ _)
 rw[if_pos qFy] at Z
 have z0:cS (rD (wn exT (exC 3 20) (-1))) 0 0=[45,51]:=by decide +kernel
 have z1:cS (rD (wn exT (exC 3 20) (-1))) 0 1=[48]:=by decide +kernel
 have z2:cS (rD (wn exT (exC 3 20) (-1))) 0 2=[52]:=by decide +kernel
 have zl:qh (rD (wn exT (exC 3 20) (-1)))=2:=rfl
 have q:=qce [[.i 0],[.i 1]] (by simp)
 have w:qk .i64 0 0=0:=by decide
 simp only[STD,two,F1,F2,D1,D2,N,C,Z,q,w,z0,z1,z2,zl]
 rfl
theorem qx9(x0 x1:R):∃b,(uX [.r x0,.r x1]).run=some (0,[.b b]):=by
 rw[qxz]
 by_cases h:qh x0≤32
 ·simp only[STD,h];exact⟨_,rfl⟩
 ·simp only[STD,h];exact⟨_,rfl⟩
theorem qrq(x0 x1:R)(p:Int):(vD [.r x0,.r x1,.i p]).run=some (0,[.r x0,.r x1,.i p]):=by rw[qyk];rfl
theorem qAh(x0 x1:R)(p:Int)(h:x0.length<9223372036854775808)(k:x1.length<9223372036854775808):∃b,(q1I [.r x0,.r x1,.i p]).run=some (0,[.b b]):=by
 rw[qza]
 obtain⟨b,e⟩:=qx9 x0 x1
 have c:=qP x0 x1 p h k
 cases b with
 | false=>simp only[STD,e];exact⟨_,rfl⟩
 | true=>
  by_cases h1:qh x0≤4
  ·by_cases h2:qh x1≤4
   ·simp only[STD,e,h1,h2];exact⟨_,rfl⟩
   ·simp only[STD,e,h1,h2,c];exact⟨_,rfl⟩
  ·simp only[STD,e,h1,c];exact⟨_,rfl⟩
theorem qt2(x0 x1:R)(p:Int)(h:x0.length<9223372036854775808)(k:x1.length<9223372036854775808):∃b,(vo [.r x0,.r x1,.i p]).run=some (0,[.b b])∧(b=true→zU x0 x1 p=0):=by
 rw[qtJ]
 obtain⟨b,e⟩:=qAh x0 x1 p h k
 have c:=qP x0 x1 p h k
 cases b with
 | false=>simp only[STD,qrq,e];exact⟨_,rfl,fun h=>by cases h⟩
 | true=>
  by_cases hc:zU x0 x1 p=0
  ·simp only[STD,qrq,e,c];exact⟨_,rfl,fun _=>hc⟩
  ·simp only[STD,qrq,e,c];exact⟨_,rfl,fun h=>by simpa[ieq] using h⟩
theorem q70{sh:List Sh}{x:R}(h:UFit (.sl sh) (.l x)):x.length<9223372036854775808:=by cases h with|sl _ _ h=>unfold maxLen at h;omega
theorem qBY{x0 x1:R}{p:Int}(h:zU x0 x1 p=0):(rD (wn x0 x1 p)).length<9223372036854775808:=by
 obtain⟨hr,_⟩:=wo h
 have:=q1e (p:=p) hr
 unfold rD;rw[List.length_map];omega
theorem qr5(b:Bool):Go.Eng.beq b b=true:=by cases b<;>rfl
theorem qs4(x0:R)(x1:R)(x2:Int)(lex0:UFit (.sl [(.int .i64),(.int .i64),(.int .i64),(.int .i64),(.int .i64),(.int .i64),.bool]) (.l x0))(lex1:UFit (.sl [(.int .i64),(.int .i64),(.int .i64)]) (.l x1))(_:IntKind.min .i64≤x2)(_:x2≤IntKind.max .i64):(q07 [.r x0,.r x1,.i x2]).run=some (0,[.b true]):=by
 have h:=q70 lex0
 have k:=q70 lex1
 rw[qlp]
 obtain⟨b,f⟩:=qx9 x0 x1
 have a:=wJ x0 x1 x2 h k
 have r:=qwR x0 x1 x2 h k
 have c:=q48 x0 x1 x2 h k
 have d:=qP x0 x1 x2 h k
 cases b with
 | false=>simp only[STD,f,zm]
 | true=>
  by_cases hc:zU x0 x1 x2=0
  ·have e:=qaO _ (qBY hc)
   rw[if_pos hc] at a r
   simp only[STD,f,a,r,c,d,e,qrq,zm]
  ·have e:=qaO [] (by simp)
   rw[if_neg hc] at a r
   simp only[STD,f,a,r,c,d,e,qrq,zm]
theorem qs9(x0:R)(x1:R)(x2:Int)(lex0:UFit (.sl [(.int .i64),(.int .i64),(.int .i64),(.int .i64),(.int .i64),(.int .i64),.bool]) (.l x0))(lex1:UFit (.sl [(.int .i64),(.int .i64),(.int .i64)]) (.l x1))(_:IntKind.min .i64≤x2)(_:x2≤IntKind.max .i64):(kP [.r x0,.r x1,.i x2]).run=some (0,[.b true]):=by
 have h:=q70 lex0
 have k:=q70 lex1
 rw[qlx]
 obtain⟨b,f⟩:=qAh x0 x1 x2 h k
 have a:=kD x0 x1 x2 h k
 have r:=qqJ x0 x1 x2 h k
 have c:=q9I x0 x1 x2 h k
 have d:=qjz x0 x1 x2 h k
 obtain⟨q0,q1,q2,q3,q4,fe⟩:=qFH x0 x1 x2
 rw[fe] at a r
 obtain⟨l,n,ce,hl⟩:∃l n,qzz x0 x1 x2=[.r l,.i n]∧l.length<9223372036854775808:=by
  unfold qzz
  split
  ·rename_i hc
   refine⟨_,_,rfl,?_⟩
   obtain⟨hr,hp⟩:=wo hc
   rcases qyF (l:=wn x0 x1 x2) (fun d hd=>(kG hr hp d hd).nn) with⟨_,e⟩|⟨_,i,j,_,_,e,_⟩|⟨_,_,i,j,k,_,_,_,e,_⟩<;>rw[e]
   ·simp
   ·show 2<9223372036854775808;omega
   ·show 3<9223372036854775808;omega
  ·exact⟨_,_,rfl,by simp⟩
 rw[ce] at c d
 have e:=qce l hl
 cases b with
 | false=>simp only[STD,qrq,f,zm]
 | true=>simp only[STD,qrq,f,a,r,c,d,e,zm,qr5,show ∀x:Int,ieq x x=true from fun x=>by simp[ieq],show ∀b:Bool,qxm b true=b from fun b=>by cases b<;>rfl]
theorem qsb(x0:R)(x1:R)(x2:Int)(lex0:UFit (.sl [(.int .i64),(.int .i64),(.int .i64),(.int .i64),(.int .i64),(.int .i64),.bool]) (.l x0))(lex1:UFit (.sl [(.int .i64),(.int .i64),(.int .i64)]) (.l x1))(_:IntKind.min .i64≤x2)(_:x2≤IntKind.max .i64):(kW [.r x0,.r x1,.i x2]).run=some (0,[.b true]):=by
 have h:=q70 lex0
 have k:=q70 lex1
 rw[qlH]
 obtain⟨b,f⟩:=qAh x0 x1 x2 h k
 obtain⟨m,e,n1,n2⟩:∃m e,(zQ [.r x0,.r x1,.i x2]).run=some (0,[.i m,.i e])∧(ut [.r x0,.r x1,.i x2]).run=some (0,[.i m,.i e]):=by
  rcases qwI x0 x1 x2 h k with⟨_,a,b⟩|⟨_,_,a,b⟩|⟨_,_,n,_,a,b⟩<;>exact⟨_,_,a,b⟩
 cases b with
 | false=>simp only[STD,qrq,f,zm]
 | true=>simp only[STD,qrq,f,n1,n2,zm]
theorem qmH(x0:R)(x1:R)(x2:Int)(x3:Int)(x4:Int)(x5:Int)(lex0:UFit (.sl [(.int .i64),(.int .i64),(.int .i64),(.int .i64),(.int .i64),(.int .i64),.bool]) (.l x0))(lex1:UFit (.sl [(.int .i64),(.int .i64),(.int .i64)]) (.l x1))(_:IntKind.min .i64≤x2)(_:x2≤IntKind.max .i64)(_:IntKind.min .i64≤x3)(_:x3≤IntKind.max .i64)(_:IntKind.min .i64≤x4)(_:x4≤IntKind.max .i64)(_:IntKind.min .i64≤x5)(_:x5≤IntKind.max .i64):(jX [.r x0,.r x1,.i x2,.i x3,.i x4,.i x5]).run=some (0,[.b true]):=by
 have h:=q70 lex0
 have k:=q70 lex1
 rw[qi5]
 obtain⟨b,f⟩:=qx9 x0 x1
 have a:=qtX x0 x1 x2 x3 x4 x5 h k
 have r:=qu3 x0 x1 x2 x3 x4 x5 h k
 obtain⟨v,e,ve⟩:∃v e,qHL x0 x1 x2 x3 x4 x5=[.b v,.i e]:=by unfold qHL;split<;>exact⟨_,_,rfl⟩
 rw[ve] at a r
 cases b with
 | false=>simp only[STD,f,zm]
 | true=>simp only[STD,f,a,r,qrq,zm,qr5]
theorem qqN(x0:R)(x1:R)(x2:Int)(lex0:UFit (.sl [(.int .i64),(.int .i64),(.int .i64),(.int .i64),(.int .i64),(.int .i64),.bool]) (.l x0))(lex1:UFit (.sl [(.int .i64),(.int .i64),(.int .i64)]) (.l x1))(_:IntKind.min .i64≤x2)(_:x2≤IntKind.max .i64):(uY [.r x0,.r x1,.i x2]).run=some (0,[.b true]):=by
 have h:=q70 lex0
 have k:=q70 lex1
 rw[qkn]
 obtain⟨b,f,fr⟩:=qt2 x0 x1 x2 h k
 cases b with
 | false=>simp only[STD,f,zm]
 | true=>
  have hc:=fr rfl
  obtain⟨hr,hp⟩:=wo hc
  have F:∀p:Int,-1≤p∧p≤100000→∃a b c,(qw [.r x0,.r x1,.i p]).run=some (0,[.b (qan x0 x1 p),.i a,.i b,.i c,.i 0]):=fun p hp=>by
   obtain⟨a,b,c,e⟩:=qbK (qyN hc hp)
   exact⟨a,b,c,by rw[kD x0 x1 p h k,e]⟩
  obtain⟨a1,a2,a3,f1⟩:=F (-1) (by omega)
  obtain⟨b1,b2,b3,f2⟩:=F 100000 (by omega)
  rcases qwI x0 x1 x2 h k with⟨e,_⟩|⟨_,e,n,_⟩|⟨_,e,m,l,n,_⟩
  ·exact absurd hc e
  ·rw[e] at f2
   simp only[STD,f,n,f1,f2,zm]
  ·have free:qan x0 x1 (-1)=true:=by
    rw[qfp hr (by omega)] at e ⊢
    refine e.mono fun d hd=>?_
    rcases List.mem_append.1 hd with hd|hd
    ·exact List.mem_append_left _ hd
    ·cases hd
   rw[free] at f1
   obtain⟨l1,l2,l3,l4⟩:=l
   obtain⟨c1,c2,c3,f3⟩:=F m (by omega)
   rw[l3] at f3
   by_cases hm:m=0
   ·subst hm
    simp only[STD,f,n,f1,f3,zm,show ¬((0:Int)=6) by omega,show ¬((0:Int)<0) by omega,show ¬((100000:Int)<0) by omega]
   ·have w:qA .i64 m 1=m-1:=wA (by omega)
    obtain⟨d1,d2,d3,f4⟩:=F (m-1) (by omega)
    rw[l4 (m-1) (by omega) (by omega)] at f4
    simp only[STD,f,n,f1,f3,f4,w,zm,hm,show ¬((0:Int)=6) by omega,show ¬(m<0) by omega,show ¬(100000<m) by omega]
end Go.Eng

namespace Go.Eng
theorem q9B{a b:Rat}{N D:Nat}(ha:bnd 12 10 a)(hb:bnd N D b):bnd (N+D+23) (10+D) (a-b):=ha.sub hb (by omega) (by omega)
theorem qBu{ax ay bx by_:Rat}{N D:Nat}(h1:bnd 12 10 ax)(h2:bnd 12 10 ay)(h3:bnd N D bx)(h4:bnd N D by_):bnd (N+D+23+(N+D+23)+(10+D+(10+D))+1) (10+D+(10+D)+(10+D+(10+D))) (kv ax ay bx by_):=
 qsF (q9B h1 h3) (q9B h2 h4) (q9B h1 h3) (q9B h2 h4)
theorem qIz{ax ay bx by_:Rat}{N D:Nat}(h1:bnd 12 10 ax)(h2:bnd 12 10 ay)(h3:bnd N D bx)(h4:bnd N D by_)(hN:N≤60)(hD:D≤60) :
  (yK [.s (tQ ax),.s (tQ ay),.s (tQ bx),.s (tQ by_),.i 0]).run=some (0,[.s (tQ (kv ax ay bx by_)),.i 0]):=by
 rw[qfT]
 have k1:=q9B h1 h3
 have k2:=q9B h2 h4
 simp only[STD,qAU h1 h2 h3 h4 (by omega) (by omega) (by omega),qBW k1 k2 k1 k2 (by omega) (by omega)]
 rfl
theorem qIC{ax ay bx by_:Rat}{N D:Nat}(h1:bnd 12 10 ax)(h2:bnd 12 10 ay)(h3:bnd N D bx)(h4:bnd N D by_)(hN:N≤60)(hD:D≤60) :
  (qcc [.s (tQ ax),.s (tQ ay),.s (tQ bx),.s (tQ by_)]).run=some (0,[.s (tQ (kv ax ay bx by_))]):=by
 rw[qxX]
 have hM:=qzU (h1.sm (by omega) (by omega)) (h2.sm (by omega) (by omega)) (h3.sm (by omega) (by omega)) (h4.sm (by omega) (by omega))
 have k1:=(q9B h1 h3).sm (K:=1000) (by omega) (by omega)
 have k2:=(q9B h2 h4).sm (K:=1000) (by omega) (by omega)
 simp only[STD,hM,qEh (K:=1000) (by omega) k1 k2 k1 k2]
 rfl
theorem qA7{d:DQ}{px py:Rat}(gd:GD d)(hx:bnd 60 60 px)(hy:bnd 60 60 py) :
  (wx [.s (tQ d.x),.s (tQ d.y),.s (tQ d.s),.s (tQ px),.s (tQ py)]).run=some (0,[.b (decide (kv d.x d.y px py≤d.s)),.i 0]):=by
 rw[qfg]
 have ca:=qgp _ _ _ (show (tQ d.x).length≤1000000 from by have:=q8k ((zv gd.x).ok (by omega) (by omega));omega) (show (tQ d.y).length≤1000000 from by have:=q8k ((zv gd.y).ok (by omega) (by omega));omega) (show (tQ d.s).length≤1000000 from by have:=q8k ((q5U gd.s).ok (by omega) (by omega));omega)
 rw[qEZ gd] at ca
 have c0:=q5D (hx.ok (by omega) (by omega))
 have c1:=q5D (hy.ok (by omega) (by omega))
 have L:=jv (S:=ym) (fun k=>[.i 2,.i (k:Int),.s (tQ d.x),.s (tQ d.y),.s (tQ d.s),.s (tQ px),.s (tQ py),.r [[.s (tQ px)],[.s (tQ py)]]])
  (0,[.s (tQ d.x),.s (tQ d.y),.s (tQ d.s),.s (tQ px),.s (tQ py)]) 2 (by omega)
  (fun k hk=>by
   rw[q1O]
   have w:=kd hk (show 2<9223372036854775808 by omega)
   rcases (show k=0∨k=1 by omega) with rfl|rfl
   ·have c:(qD [.s (cS [[.s (tQ px)],[.s (tQ py)]] ((0:Nat):Int) 0)]).run=_:=c0
    simp only[STD,c,w,show ((0:Nat):Int)<2 by omega,show (0:Int)≤((0:Nat):Int) by omega,show qh [[U.s (tQ px)],[U.s (tQ py)]]=2 from rfl,and_self]
   ·have c:(qD [.s (cS [[.s (tQ px)],[.s (tQ py)]] ((1:Nat):Int) 0)]).run=_:=c1
    simp only[STD,c,w,show ((1:Nat):Int)<2 by omega,show (0:Int)≤((1:Nat):Int) by omega,show qh [[U.s (tQ px)],[U.s (tQ py)]]=2 from rfl,and_self])
  (by rw[q1O];simp only[STD,show ((2:Nat):Int)=2 from rfl,show ¬(2:Int)<2 by omega])
 simp only[show ((0:Nat):Int)=0 from rfl] at L
 obtain⟨d1,d2,d3⟩:=gd.sh
 have f:=qIz d1 d2 hx hy (by omega) (by omega)
 have fb:=qBu d1 d2 hx hy
 have o:=qDO fb d3 (by omega) (by omega) (by omega)
 by_cases c:kv d.x d.y px py≤d.s
 ·simp only[STD,ca,show qh [[U.s (tQ px)],[U.s (tQ py)]]=2 from rfl,L,qu L,f,o,qfn,c,show ieq 0 0=true from rfl,decide_true]
 ·simp only[STD,ca,show qh [[U.s (tQ px)],[U.s (tQ py)]]=2 from rfl,L,qu L,f,o,qfn,c,decide_false]
theorem qIv{d:DQ}{px py:Rat}(gd:GD d)(hx:bnd 60 60 px)(hy:bnd 60 60 py) :
  (q6n [.s (tQ d.x),.s (tQ d.y),.s (tQ d.s),.s (tQ px),.s (tQ py)]).run=some (0,[.b (decide (kv d.x d.y px py≤d.s))]):=by
 rw[qyq]
 obtain⟨d1,d2,d3⟩:=gd.sh
 have f:=qIC d1 d2 hx hy (by omega) (by omega)
 have fb:=qBu d1 d2 hx hy
 have o:=qod (fb.sm (by omega) (by omega)) (d3.sm (by omega) (by omega))
 have e:ile (sgq (kv d.x d.y px py-d.s)) 0=decide (kv d.x d.y px py≤d.s):=by unfold ile;simp only[qfn]
 simp only[STD,f,o,e]
def shN(s:List UInt8):Prop:=(spn s).length≤30∧(spd s).length≤30
instance (s:List UInt8):Decidable (shN s):=by unfold shN;infer_instance
theorem qJc(s:List UInt8):ile (qt s) 30=decide (s.length≤30):=by
 unfold ile qt
 rw[decide_eq_decide];omega
theorem qxV(s:List UInt8)(hl:s.length≤9223372036854775807):(q45 [.s s]).run=some (0,[.b (decide (shN s))]):=by
 have a:=qzJ s hl
 have e:decide (shN s)=(decide ((spn s).length≤30)&&decide ((spd s).length≤30)):=by unfold shN;exact Bool.decide_and _ _
 rw[quv,e]
 by_cases h1:(spn s).length≤30
 ·have c:qt (spn s)≤30:=by unfold qt;omega
  simp only[STD,a,h1,qJc,decide_true,Bool.true_and]
 ·have c:¬(qt (spn s)≤30):=by unfold qt;omega
  simp only[STD,a,c,h1,decide_false,Bool.false_and]
theorem qvJ{s:List UInt8}(h:shN s):s.length≤100:=by
 unfold shN spn spd at h
 obtain⟨h1,h2⟩:=h
 rw[List.length_take] at h1
 split at h2
 ·rw[List.length_drop] at h2;omega
 ·have:=qEL s;omega
theorem qFj{q:Rat}(h:shN (tQ q)):bnd 30 30 q:=by
 unfold shN at h
 rw[qBn,qBA] at h
 have:=qI2 q.num
 unfold bnd qn qd dl
 omega
theorem qGD{q:Rat}{N D:Nat}(h:bnd N D q)(hN:N≤60)(hD:D≤60):bnd 60 60 q:=⟨Nat.le_trans h.1 hN,Nat.le_trans h.2 hD⟩
theorem qBa{x0 x1:R}{p:Int}(h:x0.length<9223372036854775808)(k:x1.length<9223372036854775808)(s t:List UInt8)(hs:s.length≤100)(ht:t.length≤100)(hc:zU x0 x1 p=0){e:Int}(he:e≠0)
  (hst:(qfO s=e)∨(qfO s=0∧qfO t=e)) :
  (uw [.r x0,.r x1,.i p,.s s,.s t]).run=some (0,[.b false,.i e])∧(q3i [.r x0,.r x1,.i p,.s s,.s t]).run=some (0,[.b false,.i e]):=by
 have c3:=q4f s (by omega)
 have c4:=q4f t (by omega)
 have r3:=q1P s (by omega)
 have r4:=q1P t (by omega)
 obtain⟨hr,hp⟩:=wo hc
 constructor
 ·rw[qge]
  have L:=j7 (S:=uu) (fun i=>[.r (rD (wn x0 x1 p)),.i 2,.i (i:Int),.s s,.s t,.r [[.s s],[.s t]]]) (fun i=>if qfO (if i=0 then s else t)=0 then none else some (qfO (if i=0 then s else t))) (fun e=>[.b false,.i e]) [.r (rD (wn x0 x1 p)),.s s,.s t] 2 (by omega)
   (fun i hi=>by
    rw[q7e]
    have w:=kd hi (show 2<9223372036854775808 by omega)
    rcases (show i=0∨i=1 by omega) with rfl|rfl
    ·have c:(qD [.s (cS [[.s s],[.s t]] ((0:Nat):Int) 0)]).run=_:=c3
     by_cases z:qfO s=0
     ·simp only[STD,c,z,w,show ((0:Nat):Int)<2 by omega,show (0:Int)≤((0:Nat):Int) by omega,show qh [[U.s s],[U.s t]]=2 from rfl,and_self];rfl
     ·simp only[STD,c,z,w,show ((0:Nat):Int)<2 by omega,show (0:Int)≤((0:Nat):Int) by omega,show qh [[U.s s],[U.s t]]=2 from rfl,and_self]
    ·have c:(qD [.s (cS [[.s s],[.s t]] ((1:Nat):Int) 0)]).run=_:=c4
     by_cases z:qfO t=0
     ·simp only[STD,c,z,w,show ((1:Nat):Int)<2 by omega,show (0:Int)≤((1:Nat):Int) by omega,show qh [[U.s s],[U.s t]]=2 from rfl,and_self,show ¬(1=0) by omega];rfl
     ·simp only[STD,c,z,w,show ((1:Nat):Int)<2 by omega,show (0:Int)≤((1:Nat):Int) by omega,show qh [[U.s s],[U.s t]]=2 from rfl,and_self,show ¬(1=0) by omega])
   (by rw[q7e];simp only[STD,show ((2:Nat):Int)=2 from rfl,show ¬(2:Int)<2 by omega])
  have L':(qf uu [.r (rD (wn x0 x1 p)),.i (qh [[U.s s],[.s t]]),.i 0,.s s,.s t,.r [[.s s],[.s t]]]).run=some (1,[.b false,.i e]):=by
   refine L.trans ?_
   rcases hst with z|⟨z1,z2⟩
   ·simp only[yQ,if_true,z,he,if_false,Option.elim]
   ·simp only[yQ,if_true,z1,Nat.zero_add,show ¬(1=0) by omega,z2,he,if_false,Option.elim]
  simp only[STD,wJ x0 x1 p h k,hc,L',qu L',show ¬(1=0) by omega]
 ·rw[qgh]
  rcases hst with z|⟨z1,z2⟩
  ·rw[z] at r3
   simp only[STD,qP x0 x1 p h k,hc,r3,he]
  ·rw[z1] at r3
   rw[z2] at r4
   simp only[STD,qP x0 x1 p h k,hc,r3,r4,he]
theorem qF0{x0 x1:R}{p:Int}(h:x0.length<9223372036854775808)(k:x1.length<9223372036854775808){s t:List UInt8}(hs:shN s)(ht:shN t) :
  ∃b e,(uw [.r x0,.r x1,.i p,.s s,.s t]).run=some (0,[.b b,.i e])∧(q3i [.r x0,.r x1,.i p,.s s,.s t]).run=some (0,[.b b,.i e]):=by
 by_cases hc:zU x0 x1 p=0
 ·by_cases z1:qfO s=0
  ·by_cases z2:qfO t=0
   ·obtain⟨px,rfl,ox⟩:=qwK z1
    obtain⟨py,rfl,oy⟩:=qwK z2
    have bx:=qGD (qFj hs) (by omega) (by omega)
    have by_:=qGD (qFj ht) (by omega) (by omega)
    obtain⟨b,e⟩:∃b,qA2 x0 x1 p px py=[.b b,.i 0]:=by unfold qA2;rw[if_pos hc];exact⟨_,rfl⟩
    exact⟨b,0,by rw[qcZ h k ox oy (fun d gd=>qA7 gd bx by_),e],by rw[qtF h k ox oy (fun d gd=>qIv gd bx by_),e]⟩
   ·exact⟨_,_,qBa h k s t (qvJ hs) (qvJ ht) hc z2 (.inr ⟨z1,rfl⟩)⟩
  ·exact⟨_,_,qBa h k s t (qvJ hs) (qvJ ht) hc z1 (.inl rfl)⟩
 ·refine⟨false,zU x0 x1 p,?_,?_⟩
  ·rw[qge];simp only[STD,wJ x0 x1 p h k,hc]
  ·rw[qgh];simp only[STD,qP x0 x1 p h k,hc]
theorem qu1(x0:R)(x1:R)(x2:Int)(x3:List UInt8)(x4:List UInt8)(lex0:UFit (.sl [(.int .i64),(.int .i64),(.int .i64),(.int .i64),(.int .i64),(.int .i64),.bool]) (.l x0))(lex1:UFit (.sl [(.int .i64),(.int .i64),(.int .i64)]) (.l x1))(_:IntKind.min .i64≤x2)(_:x2≤IntKind.max .i64)(lex3:x3.length≤maxLen)(lex4:x4.length≤maxLen):(q17 [.r x0,.r x1,.i x2,.s x3,.s x4]).run=some (0,[.b true]):=by
 have h:=q70 lex0
 have k:=q70 lex1
 rw[qna]
 obtain⟨b,f⟩:=qx9 x0 x1
 have s3:=qxV x3 lex3
 have s4:=qxV x4 lex4
 cases b with
 | false=>simp only[STD,f,zm]
 | true=>
  by_cases c3:shN x3
  ·by_cases c4:shN x4
   ·obtain⟨b,e,a,r⟩:=qF0 (p:=x2) h k c3 c4
    simp only[STD,f,s3,s4,c3,c4,a,r,qrq,zm,qr5]
   ·simp only[STD,f,s3,s4,c3,c4,zm]
  ·simp only[STD,f,s3,c3,zm]
end Go.Eng

namespace Go.Eng
theorem qyf(l:R)(u:U)(i:Nat)(j:Nat)(h:0<l.length):vk (q6D l 0 4 [u]) (i:Int) j=if i=0∧j=4 then u else vk l (i:Int) j:=by
 unfold vk q6D
 simp only[Int.toNat_natCast,show (0:Int).toNat=0 from rfl]
 by_cases hi:i=0
 ·subst hi
  have e:(l.set 0 (qmX (l.getD 0 []) 4 [u])).getD 0 []=qmX (l.getD 0 []) 4 [u]:=by
   rw[List.getD_eq_getElem?_getD,List.getElem?_set_self h];rfl
  rw[e]
  unfold qmX
  simp only[List.length_cons,List.length_nil]
  rw[List.getD_eq_getElem?_getD,List.getElem?_map]
  by_cases hj:j<max (l.getD 0 []).length (4+(0+1))
  ·rw[List.getElem?_range hj]
   simp only[Option.map_some,Option.getD_some]
   by_cases h4:j=4
   ·subst h4;simp
   ·rw[if_neg (by omega),if_neg (by omega)]
  ·rw[List.getElem?_eq_none (by rw[List.length_range];exact Nat.le_of_not_lt hj)]
   simp only[Option.map_none,Option.getD_none]
   rw[if_neg (by omega),List.getD_eq_getElem?_getD,List.getElem?_eq_none (by omega)];rfl
 ·rw[if_neg (by omega)]
  have e:(l.set 0 (qmX (l.getD 0 []) 4 [u])).getD i []=l.getD i []:=by
   rw[List.getD_eq_getElem?_getD,List.getElem?_set_ne (by omega),←List.getD_eq_getElem?_getD]
  rw[e]
theorem qBe(l:R)(u:U):(q6D l 0 4 [u]).length=l.length:=by unfold q6D;simp
theorem qwx{x0 x1:R}(v:Int)(h:0<x0.length)(i:Nat):zAt (q6D x0 0 4 [.i v]) x1 i=zD (cI x0 i 0-cI x1 i 0) (cI x0 i 1-cI x1 i 1) ((if i=0 then v else cI x0 i 4)+qCm x0 x1 i):=by
 have c:∀j,j≠4→vk (q6D x0 0 4 [.i v]) (i:Int) j=vk x0 (i:Int) j:=fun j hj=>by rw[qyf _ _ _ _ h,if_neg (by omega)]
 unfold zAt qCm cI cB
 rw[c 0 (by omega),c 1 (by omega),c 2 (by omega),c 3 (by omega),c 5 (by omega),c 6 (by omega),qyf _ _ _ _ h]
 by_cases hi:i=0
 ·rw[if_pos ⟨hi,rfl⟩,if_pos hi];rfl
 ·rw[if_neg (by omega),if_neg hi]
theorem qFC{x0 x1:R}{p:Int}(h:qki (wn x0 x1 p)):qki (wn x0 x1 (-1)):=by
 refine h.mono fun d hd=>?_
 rcases List.mem_append.1 hd with hd|hd
 ·exact List.mem_append_left _ hd
 ·cases hd
theorem qEV{x0 x1:R}{p q v:Int}(h:Rt x0 x1)(h':Rt (q6D x0 0 4 [.i v]) x1)(hv:cI x0 0 4≤v)(hp:-1≤p∧p≤100000)(hq:-1≤q∧q≤100000)(hpq:p<0∧q<0∨0≤p∧p≤q)(hc:qan x0 x1 p=true):qan (q6D x0 0 4 [.i v]) x1 q=true:=by
 rw[qfp h hp] at hc
 rw[qfp h' hq]
 have hl:0<x0.length:=by have:=h.ne;omega
 refine qxv hc fun d hd=>?_
 rcases List.mem_append.1 hd with hd|hd
 ·obtain⟨i,hi,rfl⟩:=List.mem_map.1 hd
  rw[List.mem_range,qBe] at hi
  refine⟨zAt x0 x1 i,List.mem_append_left _ (List.mem_map.2 ⟨i,List.mem_range.2 hi,rfl⟩),?_,?_,?_⟩
  ·rw[qwx v hl];rfl
  ·rw[qwx v hl];rfl
  ·rw[qwx v hl]
   have n:=h.nums hi
   refine qzp (by omega) ?_
   split
   ·rename_i h0;subst h0;simp only[show ((0:Nat):Int)=0 from rfl];omega
   ·omega
 ·unfold qmk at hd
  split at hd
  ·simp only[List.mem_cons,List.not_mem_nil,or_false] at hd
   refine⟨zD 0 0 p,List.mem_append_right _ (by unfold qmk;rw[if_pos (by omega)];simp),?_,?_,?_⟩
   ·rw[hd];rfl
   ·rw[hd];rfl
   ·rw[hd];exact qzp (by omega) (by omega)
  ·cases hd
theorem sq4(u v a:Int):((u:Rat)*u+(v:Rat)*v≤Rat.divInt a 2*Rat.divInt a 2)↔4*sq2 u v≤a*a:=by
 have e:Rat.divInt a 2=(a:Rat)/2:=by rw[Rat.divInt_eq_div];rfl
 rw[e]
 unfold sq2
 have c:(4*(u*u+v*v)≤a*a)↔((4*((u:Rat)*u+(v:Rat)*v))≤(a:Rat)*a):=by
  rw[←Rat.intCast_le_intCast];simp
 rw[c]
 constructor<;>intro h<;>grind
theorem qDK{x0 x1:R}(h:Rt x0 x1):qan x0 x1 0=true↔∀i,i<x0.length→qho x0 x1 i=false:=by
 rw[qfp h (by omega)]
 have key:∀i,i<x0.length→(qho x0 x1 i=false↔pw (zAt x0 x1 i) 0 0≤0):=fun i hi=>by
  have t:=sq4 (cI x0 i 0-cI x1 i 0) (cI x0 i 1-cI x1 i 1) (cI x0 i 4+qCm x0 x1 i)
  have s:sq2 (cI x1 i 0-cI x0 i 0) (cI x1 i 1-cI x0 i 1)=sq2 (cI x0 i 0-cI x1 i 0) (cI x0 i 1-cI x1 i 1):=qFN _ _ _ _
  have ins:=h.i i hi
  unfold qho qFh
  rw[s]
  unfold pw zAt zD
  simp only[Bool.not_eq_false',decide_eq_true_eq]
  have q:((0:Rat)-((cI x0 i 0-cI x1 i 0:Int):Rat))*(0-((cI x0 i 0-cI x1 i 0:Int):Rat))+(0-((cI x0 i 1-cI x1 i 1:Int):Rat))*(0-((cI x0 i 1-cI x1 i 1:Int):Rat))=((cI x0 i 0-cI x1 i 0:Int):Rat)*((cI x0 i 0-cI x1 i 0:Int):Rat)+((cI x0 i 1-cI x1 i 1:Int):Rat)*((cI x0 i 1-cI x1 i 1:Int):Rat):=by grind
  rw[q]
  constructor
  ·intro hk
   have:=t.2 hk.2.2
   grind
  ·intro hk
   exact⟨ins.1,ins.2,t.1 (by grind)⟩
 constructor
 ·rintro ⟨x,y,hm⟩ i hi
  have z:=hm (zD 0 0 0) (List.mem_append_right _ (by unfold qmk;rw[if_pos (by omega)];simp))
  have e0:(zD 0 0 0).s=0:=by decide +kernel
  have ex:(zD 0 0 0).x=0:=rfl
  have ey:(zD 0 0 0).y=0:=rfl
  unfold pw at z
  rw[e0,ex,ey] at z
  have h1:=qa5 x
  have h2:=qa5 y
  have x0':x=0:=qoL (by grind)
  have y0':y=0:=qoL (by grind)
  subst x0' y0'
  exact(key i hi).2 (hm _ (List.mem_append_left _ (List.mem_map.2 ⟨i,List.mem_range.2 hi,rfl⟩)))
 ·intro hf
  refine⟨0,0,fun d hd=>?_⟩
  rcases List.mem_append.1 hd with hd|hd
  ·obtain⟨i,hi,rfl⟩:=List.mem_map.1 hd
   rw[List.mem_range] at hi
   exact(key i hi).1 (hf i hi)
  ·unfold qmk at hd
   rw[if_pos (by omega)] at hd
   simp only[List.mem_cons,List.not_mem_nil,or_false] at hd
   rw[hd]
   have:pw (zD 0 0 0) 0 0=0:=by decide +kernel
   rw[this];exact Rat.le_refl
theorem qB9{p:Nat→Bool}:∀{n:Nat},(qh (pick p n)=0)↔∀i,i<n→p i=false
 | 0=>by simp[pick,qh]
 | n+1=>by
  have ih:=qB9 (p:=p) (n:=n)
  unfold pick
  by_cases hp:p n=true
  ·rw[if_pos hp]
   constructor
   ·intro h;unfold qh qdX at h;simp at h;omega
   ·intro h;rw[h n (by omega)] at hp;cases hp
  ·have hp':p n=false:=by simpa using hp
   rw[if_neg hp,ih]
   constructor
   ·intro h i hi
    rcases Nat.lt_or_ge i n with h'|h'
    ·exact h i h'
    ·obtain rfl:i=n:=by omega
     exact hp'
   ·intro h i hi;exact h i (by omega)
theorem qsk(x0:R)(x1:R)(x2:Int)(x3:Int)(lex0:UFit (.sl [(.int .i64),(.int .i64),(.int .i64),(.int .i64),(.int .i64),(.int .i64),.bool]) (.l x0))(lex1:UFit (.sl [(.int .i64),(.int .i64),(.int .i64)]) (.l x1))(lox2:IntKind.min .i64≤x2)(hix2:x2≤IntKind.max .i64)(lox3:IntKind.min .u8≤x3)(hix3:x3≤IntKind.max .u8):(q03 [.r x0,.r x1,.i x2,.i x3]).run=some (0,[.b true]):=by
 have h:=q70 lex0
 have k:=q70 lex1
 rw[qlr]
 obtain⟨b,f,fr⟩:=qt2 x0 x1 x2 h k
 cases b with
 | false=>simp only[STD,f,zm]
 | true=>
  have hc:=fr rfl
  obtain⟨hr,hp⟩:=wo hc
  have m0:(0:Int)≤x3∧x3≤255:=⟨lox3,hix3⟩
  have F:∀p:Int,-1≤p∧p≤100000→∃a b c,(qw [.r x0,.r x1,.i p]).run=some (0,[.b (qan x0 x1 p),.i a,.i b,.i c,.i 0]):=fun p hp=>by
   obtain⟨a,b,c,e⟩:=qbK (qyN hc hp)
   exact⟨a,b,c,by rw[kD x0 x1 p h k,e]⟩
  obtain⟨a1,a2,a3,f1⟩:=F 0 (by omega)
  obtain⟨b1,b2,b3,f2⟩:=F x2 hp
  have pl:qdJ x0 x1=0:=by
   unfold zU at hc
   split at hc
   ·assumption
   ·rename_i z;exact absurd hc z
  have fl:=qqG x0 x1 h k
  unfold qGX at fl
  rw[if_pos pl] at fl
  have same:Go.Eng.beq (qan x0 x1 0) (ieq (qh (pick (qho x0 x1) x0.length)) 0)=true:=by
   have e:ieq (qh (pick (qho x0 x1) x0.length)) 0=qan x0 x1 0:=by
    unfold ieq
    rw[Bool.eq_iff_iff,beq_iff_eq,qB9,qDK hr]
   rw[e];exact qr5 _
  have up:qan x0 x1 0=true→qan x0 x1 x2=true:=fun hz=>by
   rcases Int.lt_or_le x2 0 with c|c
   ·obtain rfl:x2=-1:=by omega
    rw[qfp hr (by omega)] at hz ⊢
    exact qFC hz
   ·exact qmY hr (by omega) hz
  have cl:qdX [] x0=x0:=rfl
  have g1:(0:Int)<qh x0:=by unfold qh;have:=hr.ne;omega
  have g2:qh []+qh x0≤2513169434916:=by have:=hr.n;unfold qh;simp;omega
  have CL:(qJ [.r x0]).run=some (0,[.r x0]):=by
   rw[q4S];simp only[STD,g1,g2,cl]
  have n0:=hr.nums (i:=0) (by have:=hr.ne;omega)
  simp only[show ((0:Nat):Int)=0 from rfl] at n0
  have wc:we .i64 x3=x3:=qr9 (by omega)
  have w1:qk .i64 (cI x0 0 4) x3=cI x0 0 4+x3:=qO (by omega)
  have w2:qk .i64 x2 x3=x2+x3:=qO (by omega)
  have w0:qk .i64 0 0=0:=by decide
  have lw:(q6D x0 0 4 [.i (cI x0 0 4+x3)]).length<9223372036854775808:=by rw[qBe];exact h
  have W:∀q:Int,(x2<0∧q=x2∨0≤x2∧q=x2+x3)→∃b,(vo [.r (q6D x0 0 4 [.i (cI x0 0 4+x3)]),.r x1,.i q]).run=some (0,[.b b]) ∧
    (b=true→∃v a1 a2 a3,(qw [.r (q6D x0 0 4 [.i (cI x0 0 4+x3)]),.r x1,.i q]).run=some (0,[.b v,.i a1,.i a2,.i a3,.i 0])∧(qan x0 x1 x2=true→v=true)):=fun q hq=>by
   obtain⟨b,e,g⟩:=qt2 (q6D x0 0 4 [.i (cI x0 0 4+x3)]) x1 q lw k
   refine⟨b,e,fun hb=>?_⟩
   have hc':=g hb
   obtain⟨hr',hp'⟩:=wo hc'
   obtain⟨a,b,c,e⟩:=qbK hc'
   exact⟨_,a,b,c,by rw[kD _ x1 q lw k,e],fun hx=>qEV hr hr' (by omega) hp hp' (by omega) hx⟩
  have z2:(0:Int)≤0:=by omega
  by_cases c:0≤x2
  ·obtain⟨b,e,g⟩:=W (x2+x3) (.inr ⟨c,rfl⟩)
   cases b with
   | false=>
    cases v0:qan x0 x1 0 with
    | false=>rw[v0] at f1 same;simp only[STD,f,f1,fl,w0,same,f2,c,CL,g1,wc,w1,w2,e,zm,and_self,Int.le_refl]
    | true=>
     have v2:=up v0
     rw[v0] at f1 same
     rw[v2] at f2
     simp only[STD,f,f1,fl,w0,same,f2,c,CL,g1,wc,w1,w2,e,zm,and_self,Int.le_refl]
   | true=>
    obtain⟨v,a1,a2,a3,e2,g2⟩:=g rfl
    cases v0:qan x0 x1 0 with
    | false=>
     rw[v0] at f1 same
     cases v2:qan x0 x1 x2 with
     | false=>rw[v2] at f2;simp only[STD,f,f1,fl,w0,same,f2,c,CL,g1,wc,w1,w2,e,e2,zm,and_self,Int.le_refl]
     | true=>rw[g2 v2] at e2;rw[v2] at f2;simp only[STD,f,f1,fl,w0,same,f2,c,CL,g1,wc,w1,w2,e,e2,zm,and_self,Int.le_refl]
    | true=>
     have v2:=up v0
     rw[v0] at f1 same
     rw[g2 v2] at e2
     rw[v2] at f2
     simp only[STD,f,f1,fl,w0,same,f2,c,CL,g1,wc,w1,w2,e,e2,zm,and_self,Int.le_refl]
  ·obtain⟨b,e,g⟩:=W x2 (.inl ⟨by omega,rfl⟩)
   cases b with
   | false=>
    cases v0:qan x0 x1 0 with
    | false=>rw[v0] at f1 same;simp only[STD,f,f1,fl,w0,same,f2,c,CL,g1,wc,w1,w2,e,zm,and_self,Int.le_refl]
    | true=>
     have v2:=up v0
     rw[v0] at f1 same
     rw[v2] at f2
     simp only[STD,f,f1,fl,w0,same,f2,c,CL,g1,wc,w1,w2,e,zm,and_self,Int.le_refl]
   | true=>
    obtain⟨v,a1,a2,a3,e2,g2⟩:=g rfl
    cases v0:qan x0 x1 0 with
    | false=>
     rw[v0] at f1 same
     cases v2:qan x0 x1 x2 with
     | false=>rw[v2] at f2;simp only[STD,f,f1,fl,w0,same,f2,c,CL,g1,wc,w1,w2,e,e2,zm,and_self,Int.le_refl]
     | true=>rw[g2 v2] at e2;rw[v2] at f2;simp only[STD,f,f1,fl,w0,same,f2,c,CL,g1,wc,w1,w2,e,e2,zm,and_self,Int.le_refl]
    | true=>
     have v2:=up v0
     rw[v0] at f1 same
     rw[g2 v2] at e2
     rw[v2] at f2
     simp only[STD,f,f1,fl,w0,same,f2,c,CL,g1,wc,w1,w2,e,e2,zm,and_self,Int.le_refl]
end Go.Eng

