/- Texts of the proof, merged: what the code computes, and plain laws. No statement stands here. -/
import Derived.Test.YtngkcfeldallkaaGreatDoorS5
namespace Go.Eng
def jA:R:=[[.i 0,.i 0,.i 100,.i 104,.i 4,.i 1,.b false],[.i 1000,.i 0,.i 100,.i 104,.i 4,.i 1,.b false]]
def jB:R:=[[.i 0,.i 0,.i 90,.i 92,.i 4,.i 1,.b true],[.i 1000,.i 0,.i 90,.i 92,.i 4,.i 1,.b true]]
def mA:R:=[[.i 2,.i 0,.i 100],[.i 998,.i 0,.i 100]]
def mB(w:Int):R:=[[.i (-w),.i 0,.i 92],[.i (1000+w),.i 0,.i 92]]
theorem qFj:(qaM []).run=some (0,[.r jA,.r jB]):=by
 rw[qwm]
 have L:=v8 (S:=q3t) (fun i=>[.i 2,.i (i:Int),.r [[.i 0],[.i 1000]],.r (jA.take i),.r (jB.take i)]) (0,[.r jA,.r jB]) 2 (by omega) (fun i hi=>by
  rw[qja]
  rcases (show i=0∨i=1 by omega) with rfl|rfl<;>rfl) (by rw[qja];rfl)
 have L':(qg q3t [.i (qh [[U.i 0],[.i 1000]]),.i 0,.r [[.i 0],[.i 1000]],.r [],.r []]).run=some (0,[.r jA,.r jB]):=L
 simp only[STD,L']
theorem qE9(w:Int)(h:0≤w∧w≤1000):(uW [.i w]).run=some (0,[.r mA,.r (mB w)]):=by
 rw[qmJ,zT (by omega),z7 (by omega)]
 unfold mA mB
 rw[show (0:Int)-w=-w by omega];rfl
theorem ej:q87 jA jB=0:=by decide +kernel
theorem es:qDg jA jB=true:=by decide +kernel
theorem eg2:qt1 jA jB mA (mB 2)=0:=by decide +kernel
theorem eg3:qt1 jA jB mA (mB 3)=0:=by decide +kernel
theorem et2:qcg jA mA (mB 2)=none:=by decide +kernel
theorem et3:qcg jA mA (mB 3)=none:=by decide +kernel
theorem ef2:(jT (zAT jA mA (mB 2) 2)).isSome=true:=by decide +kernel
theorem ef3:(jT (zAT jA mA (mB 3) 2)).isSome=false:=by decide +kernel
theorem eo(i:Nat)(h:i<2):qyE jA mA (mB 2) i=false∧qyE jA mA (mB 3) i=true:=by
 rcases (show i=0∨i=1 by omega) with rfl|rfl
 ·constructor<;>decide +kernel
 ·constructor<;>decide +kernel
theorem ep2:pick (qyE jA mA (mB 2)) 2=[]:=by
 unfold pick pick pick
 rw[(eo 1 (by omega)).1,(eo 0 (by omega)).1];rfl
theorem ep3:pick (qyE jA mA (mB 3)) 2=[[.i 0],[.i 1]]:=by
 unfold pick pick pick
 rw[(eo 1 (by omega)).2,(eo 0 (by omega)).2];rfl
theorem ec3:q4V (zAT jA mA (mB 3) 2)=[[.i 0],[.i 1]]:=by
 have z:q6I (zAT jA mA (mB 3) 2) 0 1=some (two 0 1):=by
  unfold q6I
  have:(jT [ix (zAT jA mA (mB 3) 2) 0,ix (zAT jA mA (mB 3) 2) 1]).isSome=false:=by decide +kernel
  rw[this];rfl
 unfold q4V qxA
 simp only[show (zAT jA mA (mB 3) 2).length=2 from qk4 _ _ _ _,jQ,Nat.zero_add,Nat.add_zero,show 2-1=1 from rfl,z,Option.elim,id]
 rfl
theorem em:mgL jA jB 2=[[.i 0],[.i 0]]:=by
 have h0:mgA jA jB 0=0:=by decide +kernel
 have h1:mgA jA jB 1=0:=by decide +kernel
 unfold mgL qCk
 rw[show List.range 2=[0,1] from rfl]
 simp only[List.map_cons,List.map_nil,h0,h1]
theorem qqo:jA.length<9223372036854775808:=by show 2<_;omega
theorem eh:qoL [[.i 10,.i 12],[.i 20,.i 21]]=[.i 30,.i 33,.i 0]:=by
 have h1:thC [[.i 10,.i 12],[.i 20,.i 21]]=0:=by decide +kernel
 have h2:qFl [[.i 10,.i 12],[.i 20,.i 21]] 2=30:=by decide +kernel
 have h3:qA3 [[.i 10,.i 12],[.i 20,.i 21]] 2=33:=by decide +kernel
 unfold qoL
 rw[if_pos h1]
 show [PV.i (qFl _ 2),.i (qA3 _ 2),.i 0]=_
 rw[h2,h3]
theorem qvp:(q32 []).run=some (0,[.b true]):=by
 rw[qr1]
 have M:=qc0 jA jB qqo
 have S:=qq1 jA jB qqo
 have P2:=qca jA jB mA (mB 2) qqo
 have P3:=qca jA jB mA (mB 3) qqo
 have K:=qfy jA jB mA (mB 3) qqo
 have T2:=q59 jA jB mA (mB 2) qqo
 have T3:=q59 jA jB mA (mB 3) qqo
 have H:=qkJ [[.i 10,.i 12],[.i 20,.i 21]] (by show 2<_;omega)
 unfold qyU at M
 unfold qEA at S
 unfold qGE at P2 P3
 unfold qFe at K
 unfold qFf at T2 T3
 have l2:jA.length=2:=rfl
 rw[if_pos ej,l2,em] at M
 rw[if_pos ej,es] at S
 rw[if_pos eg2,l2,ep2] at P2
 rw[if_pos eg3,l2,ep3] at P3
 rw[if_pos eg3,et3,l2,ec3] at K
 rw[if_pos eg2,et2,l2] at T2
 rw[if_pos eg3,et3,l2] at T3
 rw[eh] at H
 have f3:jT (zAT jA mA (mB 3) 2)=none:=by
  have:=ef3
  cases h:jT (zAT jA mA (mB 3) 2) with
  | none=>rfl
  | some x=>rw[h] at this;cases this
 obtain⟨w,f2⟩:∃w,jT (zAT jA mA (mB 2) 2)=some w:=Option.isSome_iff_exists.1 ef2
 rw[f2] at T2
 rw[f3] at T3
 have T2':(zl [.r jA,.r jB,.r mA,.r (mB 2)]).run=some (0,[.b true,.i (w.1:Int),.i (w.2.1:Int),.i w.2.2,.i 0]):=T2
 have T3':(zl [.r jA,.r jB,.r mA,.r (mB 3)]).run=some (0,[.b false,.i 0,.i 0,.i 0,.i 0]):=T3
 have K':(j6 [.r jA,.r jB,.r mA,.r (mB 3)]).run=some (0,[.r [[.i 0],[.i 1]],.i 0]):=K
 have m2:=qE9 2 (by omega)
 have m3:=qE9 3 (by omega)
 have q0:=q4W [[.i 0],[.i 0]] (by show 2<_;omega)
 have q1:=q4W [[.i 0],[.i 1]] (by show 2<_;omega)
 have w0:ql .i64 0 0=0:=by decide
 simp only[STD,qFj,M,S,P2,P3,K',T2',T3',H,m2,m3,q0,q1,w0,show qh []=0 from rfl,and_self]
theorem qFh(x0 x1 x2 x3:R)(h:x0.length<9223372036854775808):∃b,(qaF [.r x0,.r x1,.r x2,.r x3]).run=some (0,[.b b]):=by
 rw[qv6]
 by_cases h0:(40:Int)<qh x0
 ·simp only[STD,h0];exact⟨_,rfl⟩
 by_cases h1:(40:Int)<qh x1
 ·simp only[STD,h0,h1];exact⟨_,rfl⟩
 by_cases h2:(40:Int)<qh x2
 ·simp only[STD,h0,h1,h2];exact⟨_,rfl⟩
 by_cases h3:(40:Int)<qh x3
 ·simp only[STD,h0,h1,h2,h3];exact⟨_,rfl⟩
 by_cases h4:qh x0≤4
 ·simp only[STD,h0,h1,h2,h3,h4];exact⟨_,rfl⟩
 ·simp only[STD,h0,h1,h2,h3,h4,q1g x0 x1 x2 x3 h];exact⟨_,rfl⟩
theorem qEw(x0 x1 x2 x3:R)(h:x0.length<9223372036854775808):∃b,(qbc [.r x0,.r x1,.r x2,.r x3]).run=some (0,[.b b]):=by
 rw[qwl]
 obtain⟨b,e⟩:=qFh x0 x1 x2 x3 h
 simp only[STD,e];exact⟨_,rfl⟩
theorem qEV{sh:List Sh}{x:R}(h:UFit (.sl sh) (.l x)):x.length<9223372036854775808:=by cases h with|sl _ _ h=>unfold maxLen at h;omega
theorem qDe(b:Bool):Go.Eng.beq b b=true:=by cases b<;>rfl
theorem qD3(x:Int):ieq x x=true:=by simp[ieq]
theorem qB1(x0 x1 x2 x3:R):∃l e,qFe x0 x1 x2 x3=[.r l,.i e]∧l.length<9223372036854775808:=by
 unfold qFe
 split
 ·rename_i hc
  have g:=qdB hc
  cases qcg x0 x2 x3 with
  | none=>
   refine⟨_,_,rfl,?_⟩
   have:=(qAb g.nn).1
   omega
  | some i=>exact⟨_,_,rfl,by show 1<_;omega⟩
 ·exact⟨_,_,rfl,by simp⟩
theorem qAG(x0 x1 x2 x3:R):∃b x y z e,qFf x0 x1 x2 x3=[.b b,.i x,.i y,.i z,.i e]:=by
 unfold qFf
 split
 ·cases qcg x0 x2 x3 with
  | none=>
   show ∃b x y z e,cW (jT _)=_
   unfold cW
   cases jT (zAT x0 x2 x3 x0.length)<;>exact⟨_,_,_,_,_,rfl⟩
  | some i=>exact⟨_,_,_,_,_,rfl⟩
 ·exact⟨_,_,_,_,_,rfl⟩
theorem qjn(x0:R)(x1:R)(x2:R)(x3:R)(lex0:UFit (.sl [(.int .i64),(.int .i64),(.int .i64),(.int .i64),(.int .i64),(.int .i64),.bool]) (.l x0))(_:UFit (.sl [(.int .i64),(.int .i64),(.int .i64),(.int .i64),(.int .i64),(.int .i64),.bool]) (.l x1))(_:UFit (.sl [(.int .i64),(.int .i64),(.int .i64)]) (.l x2))(_:UFit (.sl [(.int .i64),(.int .i64),(.int .i64)]) (.l x3)):(ja [.r x0,.r x1,.r x2,.r x3]).run=some (0,[.b true]):=by
 have h:=qEV lex0
 rw[qew]
 obtain⟨b,f⟩:=qEw x0 x1 x2 x3 h
 cases b with
 | false=>simp only[STD,f,qvp]
 | true=>
  have P:=q59 x0 x1 x2 x3 h
  have Q:=qoh x0 x1 x2 x3 h
  have S:=qfy x0 x1 x2 x3 h
  have T:=qtb x0 x1 x2 x3 h
  obtain⟨l,e,hl,hm⟩:=qB1 x0 x1 x2 x3
  obtain⟨b,x,y,z,e',ht⟩:=qAG x0 x1 x2 x3
  rw[hl] at S T
  rw[ht] at P Q
  have q:=q4W l hm
  simp only[STD,f,P,Q,S,T,q,qvp,qD3,qDe,and_self]
end Go.Eng

