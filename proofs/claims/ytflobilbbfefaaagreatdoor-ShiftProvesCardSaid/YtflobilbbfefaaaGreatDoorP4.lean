/- Texts of the proof, merged: what the code computes, and plain laws. No statement stands here. -/
import Derived.OpenShut
import Derived.Deep.Slices
import Derived.SizedLaws
import Derived.Below
import Derived.Lib.LaidTab
import Derived.Test.YtflobilbbfefaaaGreatDoorP3
namespace Go.Eng
open Go.Proofs
def q16:FIn:=⟨[(.imm [(.int .i64),(.int .i64),(.int .i64),(.int .i64),(.int .i64),(.int .i64),.bool]),(.imm [(.int .i64),(.int .i64),(.int .i64)])],[]⟩
def q0T:List FOut:=[⟨(.int .i64),[],none⟩]
def q2p:Tmpl:={ t:=((.imm [(.int .i64),(.int .i64),(.int .i64),(.int .i64),(.int .i64),(.int .i64),.bool])::(.imm [(.int .i64),(.int .i64),(.int .i64)])::.any::.any::.any::(.int .i64)::qB 39 []),h:=[] }
def q2z:List Out:=[⟨(.exit 0),{ t:=((.imm [(.int .i64),(.int .i64),(.int .i64),(.int .i64),(.int .i64),(.int .i64),.bool])::(.imm [(.int .i64),(.int .i64),(.int .i64)])::qB 43 []),h:=[] }⟩,⟨.ret,{ t:=(qB 4 ((.int .i64)::qB 40 [])),h:=[] }⟩]
noncomputable def uI:=qf [(30,qa q1o q1k yT),(86,qa q1Q q1R yY)] [(78,Tryz.f78)] [] 0
noncomputable def js:=jE uI 78 Tryz.f78 6 q2p q2z
theorem qc3:qp Tryz.prog qc uI.nimp (qy Tryz.prog uI.iter 78) (zB Tryz.f78 6) (qm q2p q2z (ql js)):=
 gk uI qe q9 (alc q1D (alc q3n aln)) aln (b1 Tryz.func78) Tryz.func78
def q1p:Tmpl:={ t:=(.any::(.imm [(.int .i64),(.int .i64),(.int .i64)])::qB 5 ((.int .i64)::qB 37 [])),h:=[] }
def q1B:List Out:=[⟨(.exit 2),{ t:=(qB 45 []),h:=[] }⟩,⟨.ret,{ t:=(qB 4 ((.int .i64)::qB 40 [])),h:=[] }⟩]
noncomputable def yZ:=qf [(30,qa q1o q1k yT),(86,qa q1Q q1R yY)] [(78,Tryz.f78)] [] 0
noncomputable def vZ:=jE yZ 78 Tryz.f78 18 q1p q1B
theorem qb3:qp Tryz.prog qc yZ.nimp (qy Tryz.prog yZ.iter 78) (zB Tryz.f78 18) (qm q1p q1B (ql vZ)):=
 gk yZ qe q9 (alc q1D (alc q3n aln)) aln (b1 Tryz.func78) Tryz.func78
noncomputable def q9e:=qf [(30,qa q1o q1k yT),(86,qa q1Q q1R yY)] [(78,Tryz.f78)] [((78,6),qm q2p q2z (ql js)),((78,18),qm q1p q1B (ql vZ))] 0
noncomputable def j7:=qo q9e 78 Tryz.f78 true q16 q0T
theorem q6d:qX Tryz.prog qc 78 (qa q16 q0T j7):=sk q9e qe q9 (alc q1D (alc q3n aln)) (alc (lk Tryz.func78 qc3) (alc (lk Tryz.func78 qb3) aln)) (b1 Tryz.func78) Tryz.func78
def q7d:FIn:=⟨[(.agg [(.imm [(.int .i64),(.int .i64),(.int .i64),(.int .i64),(.int .i64),(.int .i64),.bool]),(.imm [(.int .i64),(.int .i64),(.int .i64)]),(.int .i64)])],[]⟩
def q7j:List FOut:=[⟨(.int .i64),[],none⟩]
def q6v:Tmpl:={ t:=(.any::(.ptr 0 0)::.any::.any::(.int .i64)::qB 40 []),h:=[.cells [(.imm [(.int .i64),(.int .i64),(.int .i64),(.int .i64),(.int .i64),(.int .i64),.bool]),(.imm [(.int .i64),(.int .i64),(.int .i64)]),(.int .i64)]] }
def q6k:List Out:=[⟨(.exit 0),{ t:=(.any::(.ptr 0 0)::qB 43 []),h:=[.cells [(.imm [(.int .i64),(.int .i64),(.int .i64),(.int .i64),(.int .i64),(.int .i64),.bool]),(.imm [(.int .i64),(.int .i64),(.int .i64)]),(.int .i64)]] }⟩,⟨.ret,{ t:=(.any::.any::(.int .i64)::qB 42 []),h:=[] }⟩]
noncomputable def q3l:=qf [(31,qa q0z q0A ya),(78,qa q16 q0T j7)] [(51,Tryz.f51)] [] 0
noncomputable def q0f:=jE q3l 51 Tryz.f51 10 q6v q6k
theorem qfL:qp Tryz.prog qc q3l.nimp (qy Tryz.prog q3l.iter 51) (zB Tryz.f51 10) (qm q6v q6k (ql q0f)):=
 gk q3l qe q9 (alc q27 (alc q6d aln)) aln (b1 Tryz.func51) Tryz.func51
noncomputable def qha:=qf [(31,qa q0z q0A ya),(78,qa q16 q0T j7)] [(51,Tryz.f51)] [((51,10),qm q6v q6k (ql q0f))] 0
noncomputable def u5:=qo qha 51 Tryz.f51 true q7d q7j
theorem qcv:qX Tryz.prog qc 51 (qa q7d q7j u5):=sk qha qe q9 (alc q27 (alc q6d aln)) (alc (lk Tryz.func51 qfL) aln) (b1 Tryz.func51) Tryz.func51
def qg4:FIn:=⟨[(.imm [(.int .i64),(.int .i64),(.int .i64),(.int .i64),(.int .i64),(.int .i64),.bool]),(.imm [(.int .i64),(.int .i64),(.int .i64)])],[]⟩
def qfQ:List FOut:=[⟨.bool,[],none⟩]
noncomputable def qm2:=qf [] [(77,Tryz.f77)] [] 0
noncomputable def q8f:=qo qm2 77 Tryz.f77 true qg4 qfQ
theorem qmN:qX Tryz.prog qc 77 (qa qg4 qfQ q8f):=sk qm2 qe q9 aln aln (b1 Tryz.func77) Tryz.func77
def qfM:FIn:=⟨[(.agg [(.imm [(.int .i64),(.int .i64),(.int .i64),(.int .i64),(.int .i64),(.int .i64),.bool]),(.imm [(.int .i64),(.int .i64),(.int .i64)]),(.int .i64)])],[]⟩
def qgB:List FOut:=[⟨.bool,[],none⟩]
noncomputable def qm9:=qf [(51,qa q7d q7j u5),(77,qa qg4 qfQ q8f)] [(49,Tryz.f49)] [] 0
noncomputable def q8j:=qo qm9 49 Tryz.f49 true qfM qgB
theorem qmo:qX Tryz.prog qc 49 (qa qfM qgB q8j):=sk qm9 qe q9 (alc qcv (alc qmN aln)) aln (b1 Tryz.func49) Tryz.func49
def qfK:FIn:=⟨[(.agg [(.imm [(.int .i64),(.int .i64),(.int .i64),(.int .i64),(.int .i64),(.int .i64),.bool]),(.imm [(.int .i64),(.int .i64),(.int .i64)]),(.int .i64)])],[]⟩
def qfS:List FOut:=[⟨(.agg [(.imm [(.int .i64),(.int .i64),(.int .i64),(.int .i64),(.int .i64),(.int .i64),.bool]),(.imm [(.int .i64),(.int .i64),(.int .i64)]),(.int .i64)]),[],none⟩]
noncomputable def qkM:=qf [] [(50,Tryz.f50)] [] 0
noncomputable def q8G:=qo qkM 50 Tryz.f50 true qfK qfS
theorem qmJ:qX Tryz.prog qc 50 (qa qfK qfS q8G):=sk qkM qe q9 aln aln (b1 Tryz.func50) Tryz.func50
def q6W:FIn:=⟨[(.agg [(.imm [(.int .i64),(.int .i64),(.int .i64),(.int .i64),(.int .i64),(.int .i64),.bool]),(.imm [(.int .i64),(.int .i64),(.int .i64)]),(.int .i64)])],[]⟩
def q6U:List FOut:=[⟨.bool,[],none⟩]
noncomputable def qhx:=qf [(49,qa qfM qgB q8j),(50,qa qfK qfS q8G),(51,qa q7d q7j u5)] [(24,Tryz.f24)] [] 0
noncomputable def q20:=qo qhx 24 Tryz.f24 true q6W q6U
theorem qch:qX Tryz.prog qc 24 (qa q6W q6U q20):=sk qhx qe q9 (alc qmo (alc qmJ (alc qcv aln))) aln (b1 Tryz.func24) Tryz.func24
def q0Z:FIn:=⟨[(.imm [(.int .i64),(.int .i64),(.int .i64),(.int .i64),(.int .i64),(.int .i64),.bool]),(.imm [(.int .i64),(.int .i64),(.int .i64)])],[]⟩
def q19:List FOut:=[⟨(.int .i64),[],none⟩]
def q2n:Tmpl:={ t:=((.imm [(.int .i64),(.int .i64),(.int .i64),(.int .i64),(.int .i64),(.int .i64),.bool])::(.imm [(.int .i64),(.int .i64),(.int .i64)])::qB 12 ((.imm [(.int .i64),(.int .i64),(.int .i64),(.int .i64),(.int .i64),(.int .i64),.bool])::(.int .i64)::(.int .i64)::qB 26 [])),h:=[] }
def q2B:List Out:=[⟨(.exit 0),{ t:=((.imm [(.int .i64),(.int .i64),(.int .i64),(.int .i64),(.int .i64),(.int .i64),.bool])::(.imm [(.int .i64),(.int .i64),(.int .i64)])::qB 41 []),h:=[] }⟩,⟨.ret,{ t:=(qB 4 ((.int .i64)::qB 38 [])),h:=[] }⟩]
noncomputable def uL:=qf [(96,qa vH vG zM),(120,qa q3O q40 kK)] [(117,Tryz.f117)] [] 0
noncomputable def jv:=jE uL 117 Tryz.f117 6 q2n q2B
theorem qc0:qp Tryz.prog qc uL.nimp (qy Tryz.prog uL.iter 117) (zB Tryz.f117 6) (qm q2n q2B (ql jv)):=
 gk uL qe q9 (alc vl (alc q4y aln)) aln (b1 Tryz.func117) Tryz.func117
def q1j:Tmpl:={ t:=(qB 31 ((.imm [(.int .i64),(.int .i64),(.int .i64)])::(.int .i64)::(.int .i64)::qB 9 [])),h:=[] }
def q1n:List Out:=[⟨(.exit 2),{ t:=(qB 43 []),h:=[] }⟩,⟨.ret,{ t:=(qB 4 ((.int .i64)::qB 38 [])),h:=[] }⟩]
noncomputable def u4:=qf [(96,qa vH vG zM),(120,qa q3O q40 kK)] [(117,Tryz.f117)] [] 0
noncomputable def j2:=jE u4 117 Tryz.f117 19 q1j q1n
theorem qaD:qp Tryz.prog qc u4.nimp (qy Tryz.prog u4.iter 117) (zB Tryz.f117 19) (qm q1j q1n (ql j2)):=
 gk u4 qe q9 (alc vl (alc q4y aln)) aln (b1 Tryz.func117) Tryz.func117
noncomputable def q9n:=qf [(96,qa vH vG zM),(120,qa q3O q40 kK)] [(117,Tryz.f117)] [((117,6),qm q2n q2B (ql jv)),((117,19),qm q1j q1n (ql j2))] 0
noncomputable def j9:=qo q9n 117 Tryz.f117 true q0Z q19
theorem q6a:qX Tryz.prog qc 117 (qa q0Z q19 j9):=sk q9n qe q9 (alc vl (alc q4y aln)) (alc (lk Tryz.func117 qc0) (alc (lk Tryz.func117 qaD) aln)) (b1 Tryz.func117) Tryz.func117
def q7q:FIn:=⟨[(.agg [(.imm [(.int .i64),(.int .i64),(.int .i64),(.int .i64),(.int .i64),(.int .i64),.bool]),(.imm [(.int .i64),(.int .i64),(.int .i64)]),(.int .i64)])],[]⟩
def q7D:List FOut:=[⟨(.int .i64),[],none⟩]
def q6i:Tmpl:={ t:=(.any::(.ptr 0 0)::qB 18 ((.imm [(.int .i64),(.int .i64),(.int .i64),(.int .i64),(.int .i64),(.int .i64),.bool])::(.int .i64)::(.int .i64)::qB 31 [])),h:=[.cells [(.imm [(.int .i64),(.int .i64),(.int .i64),(.int .i64),(.int .i64),(.int .i64),.bool]),(.imm [(.int .i64),(.int .i64),(.int .i64)]),(.int .i64)]] }
def q6x:List Out:=[⟨(.exit 0),{ t:=(.any::(.ptr 0 0)::qB 52 []),h:=[.cells [(.imm [(.int .i64),(.int .i64),(.int .i64),(.int .i64),(.int .i64),(.int .i64),.bool]),(.imm [(.int .i64),(.int .i64),(.int .i64)]),(.int .i64)]] }⟩,⟨.ret,{ t:=(.any::.any::(.int .i64)::qB 51 []),h:=[] }⟩]
noncomputable def q3j:=qf [(117,qa q0Z q19 j9)] [(81,Tryz.f81)] [] 0
noncomputable def q0j:=jE q3j 81 Tryz.f81 10 q6i q6x
theorem qfX:qp Tryz.prog qc q3j.nimp (qy Tryz.prog q3j.iter 81) (zB Tryz.f81 10) (qm q6i q6x (ql q0j)):=
 gk q3j qe q9 (alc q6a aln) aln (b1 Tryz.func81) Tryz.func81
noncomputable def qhP:=qf [(117,qa q0Z q19 j9)] [(81,Tryz.f81)] [((81,10),qm q6i q6x (ql q0j))] 0
noncomputable def q04:=qo qhP 81 Tryz.f81 true q7q q7D
theorem qcy:qX Tryz.prog qc 81 (qa q7q q7D q04):=sk qhP qe q9 (alc q6a aln) (alc (lk Tryz.func81 qfX) aln) (b1 Tryz.func81) Tryz.func81
def q9N:FIn:=⟨[(.agg [(.int .i64),(.int .i64),(.int .i64),(.int .i64),(.int .i64),(.int .i64),.bool]),(.int .i64)],[]⟩
def q9H:List FOut:=[⟨.bool,[],none⟩]
noncomputable def qfp:=qf [] [(185,Tryz.f185)] [] 0
noncomputable def q2Y:=qo qfp 185 Tryz.f185 true q9N q9H
theorem qip:qX Tryz.prog qc 185 (qa q9N q9H q2Y):=sk qfp qe q9 aln aln (b1 Tryz.func185) Tryz.func185
def q02:FIn:=⟨[(.agg [(.int .i64),(.int .i64),(.int .i64),(.int .i64),(.int .i64),(.int .i64),.bool,(.int .i64)]),(.int .i64)],[]⟩
def kX:List FOut:=[⟨(.int .i64),[],none⟩]
noncomputable def q4m:=qf [(98,qa yU ub wO)] [(186,Tryz.f186)] [] 0
noncomputable def wW:=qo q4m 186 Tryz.f186 true q02 kX
theorem q8U:qX Tryz.prog qc 186 (qa q02 kX wW):=sk q4m qe q9 (alc q3Q aln) aln (b1 Tryz.func186) Tryz.func186
def qc8:FIn:=⟨[(.agg [(.int .i64),(.int .i64),(.int .i64),(.int .i64),(.int .i64),(.int .i64),.bool]),(.int .i64)],[]⟩
def qbk:List FOut:=[⟨(.tuple [(.int .i64),(.int .i64)]),[],none⟩]
noncomputable def qif:=qf [(96,qa vH vG zM),(97,qa qez qex q7F),(185,qa q9N q9H q2Y),(186,qa q02 kX wW)] [(146,Tryz.f146)] [] 0
noncomputable def q4x:=qo qif 146 Tryz.f146 true qc8 qbk
theorem qjO:qX Tryz.prog qc 146 (qa qc8 qbk q4x):=sk qif qe q9 (alc vl (alc qhD (alc qip (alc q8U aln)))) aln (b1 Tryz.func146) Tryz.func146
def q4i:FIn:=⟨[(.agg [(.int .i64),(.int .i64),(.int .i64),(.int .i64),(.int .i64),(.int .i64),.bool]),(.int .i64)],[]⟩
def q4v:List FOut:=[⟨(.tuple [(.int .i64),(.int .i64)]),[],none⟩]
noncomputable def qdJ:=qf [(146,qa qc8 qbk q4x)] [(118,Tryz.f118)] [] 0
noncomputable def yl:=qo qdJ 118 Tryz.f118 true q4i q4v
theorem q91:qX Tryz.prog qc 118 (qa q4i q4v yl):=sk qdJ qe q9 (alc qjO aln) aln (b1 Tryz.func118) Tryz.func118
def q2F:FIn:=⟨[(.int .i64),(.int .i64),(.int .i64)],[]⟩
def q36:List FOut:=[⟨(.tuple [(.agg [.str,.str,.str]),(.int .i64)]),[],none⟩]
noncomputable def qft:=qf [(62,qa qaA qar q55),(64,qa q4P q4r yR)] [(119,Tryz.f119)] [] 0
noncomputable def jT:=qo qft 119 Tryz.f119 true q2F q36
theorem q5l:qX Tryz.prog qc 119 (qa q2F q36 jT):=sk qft qe q9 (alc qbx (alc q6j aln)) aln (b1 Tryz.func119) Tryz.func119
def uG:FIn:=⟨[(.agg [(.imm [(.int .i64),(.int .i64),(.int .i64),(.int .i64),(.int .i64),(.int .i64),.bool]),(.imm [(.int .i64),(.int .i64),(.int .i64)]),(.int .i64)])],[]⟩
def uJ:List FOut:=[⟨(.tuple [(.imm [.str,.str,.str]),(.int .i64)]),[],none⟩]
def q0K:Tmpl:={ t:=(.any::(.ptr 0 0)::.any::.any::(.vec 1)::qB 7 ((.imm [(.int .i64),(.int .i64),(.int .i64),(.int .i64),(.int .i64),(.int .i64),.bool])::(.int .i64)::(.int .i64)::qB 47 [])),h:=[.cells [(.imm [(.int .i64),(.int .i64),(.int .i64),(.int .i64),(.int .i64),(.int .i64),.bool]),(.imm [(.int .i64),(.int .i64),(.int .i64)]),(.int .i64)],.vec 65 [.str,.str,.str]],pro:=[(4,65,[.str,.str,.str])] }
def q0Q:List Out:=[⟨(.exit 0),{ t:=(qB 4 ((.vec 1)::qB 57 [])),h:=[.dead,.vec 65 [.str,.str,.str]] }⟩,⟨.ret,{ t:=(.any::.any::.nils::(.int .i64)::qB 58 []),h:=[] }⟩]
noncomputable def yF:=qf [(118,qa q4i q4v yl),(119,qa q2F q36 jT)] [(82,Tryz.f82)] [] 0
noncomputable def zY:=jE yF 82 Tryz.f82 4 q0K q0Q
theorem q9E:qp Tryz.prog qc yF.nimp (qy Tryz.prog yF.iter 82) (zB Tryz.f82 4) (qm q0K q0Q (ql zY)):=
 gk yF qe q9 (alc q91 (alc q5l aln)) aln (b1 Tryz.func82) Tryz.func82
noncomputable def q6O:=qf [(118,qa q4i q4v yl),(119,qa q2F q36 jT)] [(82,Tryz.f82)] [((82,4),qm q0K q0Q (ql zY))] 0
noncomputable def zQ:=qo q6O 82 Tryz.f82 true uG uJ
theorem q4n:qX Tryz.prog qc 82 (qa uG uJ zQ):=sk q6O qe q9 (alc q91 (alc q5l aln)) (alc (lk Tryz.func82 q9E) aln) (b1 Tryz.func82) Tryz.func82
def q4O:FIn:=⟨[(.imm [.str,.str,.str]),(.int .i64)],[]⟩
def q4F:List FOut:=[⟨(.tuple [(.imm [.str,.str,.str]),(.int .i64)]),[],none⟩]
noncomputable def qdN:=qf [(119,qa q2F q36 jT)] [(85,Tryz.f85)] [] 0
noncomputable def yo:=qo qdN 85 Tryz.f85 true q4O q4F
theorem q97:qX Tryz.prog qc 85 (qa q4O q4F yo):=sk qdN qe q9 (alc q5l aln) aln (b1 Tryz.func85) Tryz.func85
def jL:FIn:=⟨[(.agg [(.imm [(.int .i64),(.int .i64),(.int .i64),(.int .i64),(.int .i64),(.int .i64),.bool]),(.imm [(.int .i64),(.int .i64),(.int .i64)]),(.int .i64)])],[]⟩
def jH:List FOut:=[⟨(.tuple [(.imm [.str,.str,.str]),(.int .i64)]),[],none⟩]
noncomputable def qhl:=qf [(81,qa q7q q7D q04),(82,qa uG uJ zQ),(85,qa q4O q4F yo)] [(55,Tryz.f55)] [] 0
noncomputable def zm:=qo qhl 55 Tryz.f55 true jL jH
theorem jo:qX Tryz.prog qc 55 (qa jL jH zm):=sk qhl qe q9 (alc qcy (alc q4n (alc q97 aln))) aln (b1 Tryz.func55) Tryz.func55
def q0n:FIn:=⟨[(.agg [(.imm [(.int .i64),(.int .i64),(.int .i64),(.int .i64),(.int .i64),(.int .i64),.bool]),(.imm [(.int .i64),(.int .i64),(.int .i64)]),(.int .i64)])],[]⟩
def q0l:List FOut:=[⟨(.tuple [.bool,(.agg [(.int .i64),(.int .i64),(.int .i64)]),(.int .i64)]),[],none⟩]
noncomputable def qcL:=qf [(17,qa q2N q2H ye),(55,qa jL jH zm)] [(26,Tryz.f26)] [] 0
noncomputable def qS:=qo qcL 26 Tryz.f26 true q0n q0l
theorem q3w:qX Tryz.prog qc 26 (qa q0n q0l qS):=sk qcL qe q9 (alc q5w (alc jo aln)) aln (b1 Tryz.func26) Tryz.func26
def vY:FIn:=⟨[(.agg [(.imm [(.int .i64),(.int .i64),(.int .i64),(.int .i64),(.int .i64),(.int .i64),.bool]),(.imm [(.int .i64),(.int .i64),(.int .i64)]),(.int .i64)])],[]⟩
def vV:List FOut:=[⟨(.tuple [(.imm [(.int .i64)]),(.int .i64)]),[],none⟩]
noncomputable def q63:=qf [(18,qa q1O q1H vX),(55,qa jL jH zm)] [(27,Tryz.f27)] [] 0
noncomputable def zi:=qo q63 27 Tryz.f27 true vY vV
theorem kC:qX Tryz.prog qc 27 (qa vY vV zi):=sk q63 qe q9 (alc qaS (alc jo aln)) aln (b1 Tryz.func27) Tryz.func27
def qgH:FIn:=⟨[(.int .i64),(.int .i64),(.int .i64)],[]⟩
def qg9:List FOut:=[⟨(.agg [(.imm [(.int .i64),(.int .i64),(.int .i64),(.int .i64),(.int .i64),(.int .i64),.bool]),(.imm [(.int .i64),(.int .i64),(.int .i64)]),(.int .i64)]),[],none⟩]
noncomputable def qlV:=qf [] [(52,Tryz.f52)] [] 0
noncomputable def q3s:=qo qlV 52 Tryz.f52 true qgH qg9
theorem qmp:qX Tryz.prog qc 52 (qa qgH qg9 q3s):=sk qlV qe q9 aln aln (b1 Tryz.func52) Tryz.func52
def q0c:FIn:=⟨[(.agg [.str,.str,.str]),(.agg [.str,.str])],[]⟩
def q0e:List FOut:=[⟨(.tuple [.bool,(.int .i64)]),[],none⟩]
def q4G:Tmpl:={ t:=(.any::.any::(.ptr 0 0)::(.ptr 1 0)::qB 17 ((.vec 2)::(.int .i64)::(.int .i64)::qB 33 [])),h:=[.cells [.str,.str,.str],.cells [.str,.str],.vec 61 [.str]] }
def q4u:List Out:=[⟨(.exit 0),{ t:=(.any::.any::(.ptr 0 0)::(.ptr 1 0)::qB 53 []),h:=[.cells [.str,.str,.str],.cells [.str,.str]] }⟩,⟨.ret,{ t:=(qB 4 (.bool::(.int .i64)::qB 51 [])),h:=[] }⟩]
noncomputable def q1b:=qf [(68,qa q28 q2e jN),(79,qa wY wX qC),(101,qa q0Y q12 jc),(103,qa q3o q3g yQ)] [(80,Tryz.f80)] [] 0
noncomputable def yS:=jE q1b 80 Tryz.f80 7 q4G q4u
theorem qdm:qp Tryz.prog qc q1b.nimp (qy Tryz.prog q1b.iter 80) (zB Tryz.f80 7) (qm q4G q4u (ql yS)):=
 gk q1b qe q9 (alc q3c (alc wx (alc q5Z (alc q7P aln)))) aln (b1 Tryz.func80) Tryz.func80
noncomputable def qct:=qf [(68,qa q28 q2e jN),(79,qa wY wX qC),(101,qa q0Y q12 jc),(103,qa q3o q3g yQ)] [(80,Tryz.f80)] [((80,7),qm q4G q4u (ql yS))] 0
noncomputable def wy:=qo qct 80 Tryz.f80 true q0c q0e
theorem q3A:qX Tryz.prog qc 80 (qa q0c q0e wy):=sk qct qe q9 (alc q3c (alc wx (alc q5Z (alc q7P aln)))) (alc (lk Tryz.func80 qdm) aln) (b1 Tryz.func80) Tryz.func80
def qde:FIn:=⟨[(.agg [(.imm [(.int .i64),(.int .i64),(.int .i64),(.int .i64),(.int .i64),(.int .i64),.bool]),(.imm [(.int .i64),(.int .i64),(.int .i64)]),(.int .i64)]),(.agg [.str,.str])],[]⟩
def qdB:List FOut:=[⟨(.tuple [.bool,(.int .i64)]),[],none⟩]
def q9K:Tmpl:={ t:=(.any::.any::.any::(.ptr 1 0)::.any::.any::(.imm [.str,.str,.str])::qB 20 ((.vec 2)::(.int .i64)::(.int .i64)::qB 29 [])),h:=[.dead,.cells [.str,.str],.vec 61 [.str]] }
def qab:List Out:=[⟨(.exit 0),{ t:=(.any::.any::.any::(.ptr 1 0)::.any::.any::(.imm [.str,.str,.str])::qB 52 []),h:=[.dead,.cells [.str,.str]] }⟩,⟨.ret,{ t:=(qB 4 (.bool::(.int .i64)::qB 53 [])),h:=[] }⟩]
noncomputable def q5O:=qf [(55,qa jL jH zm),(79,qa wY wX qC),(80,qa q0c q0e wy)] [(53,Tryz.f53)] [] 0
noncomputable def q0C:=jE q5O 53 Tryz.f53 7 q9K qab
theorem qiL:qp Tryz.prog qc q5O.nimp (qy Tryz.prog q5O.iter 53) (zB Tryz.f53 7) (qm q9K qab (ql q0C)):=
 gk q5O qe q9 (alc jo (alc wx (alc q3A aln))) aln (b1 Tryz.func53) Tryz.func53
def q8L:Tmpl:={ t:=(.any::.any::.any::(.ptr 1 0)::qB 35 ((.imm [.str,.str,.str])::(.int .i64)::(.int .i64)::qB 17 [])),h:=[.dead,.cells [.str,.str]] }
def q7O:List Out:=[⟨(.exit 2),{ t:=(qB 59 []),h:=[] }⟩,⟨.ret,{ t:=(qB 4 (.bool::(.int .i64)::qB 53 [])),h:=[] }⟩]
noncomputable def q4I:=qf [(55,qa jL jH zm),(79,qa wY wX qC),(80,qa q0c q0e wy)] [(53,Tryz.f53)] [] 0
noncomputable def uR:=jE q4I 53 Tryz.f53 17 q8L q7O
theorem qia:qp Tryz.prog qc q4I.nimp (qy Tryz.prog q4I.iter 53) (zB Tryz.f53 17) (qm q8L q7O (ql uR)):=
 gk q4I qe q9 (alc jo (alc wx (alc q3A aln))) aln (b1 Tryz.func53) Tryz.func53
noncomputable def qjA:=qf [(55,qa jL jH zm),(79,qa wY wX qC),(80,qa q0c q0e wy)] [(53,Tryz.f53)] [((53,7),qm q9K qab (ql q0C)),((53,17),qm q8L q7O (ql uR))] 0
noncomputable def q3T:=qo qjA 53 Tryz.f53 true qde qdB
theorem ql0:qX Tryz.prog qc 53 (qa qde qdB q3T):=sk qjA qe q9 (alc jo (alc wx (alc q3A aln))) (alc (lk Tryz.func53 qiL) (alc (lk Tryz.func53 qia) aln)) (b1 Tryz.func53) Tryz.func53
def j4:FIn:=⟨[(.ptr 0 0),(.int .i64)],[.cells [(.imm [.str,.str,.str]),(.int .i64)]]⟩
def j1:List FOut:=[⟨.bool,[.cells [(.imm [.str,.str,.str]),(.int .i64)]],none⟩]
noncomputable def q6h:=qf [(17,qa q2N q2H ye),(85,qa q4O q4F yo)] [(83,Tryz.f83)] [] 1
noncomputable def zg:=qo q6h 83 Tryz.f83 true j4 j1
theorem uS:qX Tryz.prog qc 83 (qa j4 j1 zg):=sk q6h qe q9 (alc q5w (alc q97 aln)) aln (b1 Tryz.func83) Tryz.func83
def qbl:FIn:=⟨[(.int .i64),(.int .i64),(.fn 83 [(.ptr 0 0)] [])],[.cells [(.imm [.str,.str,.str]),(.int .i64)]]⟩
def qbc:List FOut:=[⟨(.int .i64),[.cells [(.imm [.str,.str,.str]),(.int .i64)]],none⟩]
def q8A:Tmpl:={ t:=((.int .i64)::(.int .i64)::(.fn 83 [(.ptr 0 0)] [])::qB 19 []),h:=[.cells [(.imm [.str,.str,.str]),(.int .i64)]] }
def q8N:List Out:=[⟨(.exit 0),{ t:=((.int .i64)::qB 21 []),h:=[.cells [(.imm [.str,.str,.str]),(.int .i64)]] }⟩]
noncomputable def q4H:=qf [(83,qa j4 j1 zg)] [(84,Tryz.f84)] [] 1
noncomputable def q1w:=jE q4H 84 Tryz.f84 2 q8A q8N
theorem qhC:qp Tryz.prog qc q4H.nimp (qy Tryz.prog q4H.iter 84) (zB Tryz.f84 2) (qm q8A q8N (ql q1w)):=
 gk q4H qe q9 (alc uS aln) aln (b1 Tryz.func84) Tryz.func84
noncomputable def qho:=qf [(83,qa j4 j1 zg)] [(84,Tryz.f84)] [((84,2),qm q8A q8N (ql q1w))] 1
noncomputable def q4E:=qo qho 84 Tryz.f84 true qbl qbc
theorem qjR:qX Tryz.prog qc 84 (qa qbl qbc q4E):=sk qho qe q9 (alc uS aln) (alc (lk Tryz.func84 qhC) aln) (b1 Tryz.func84) Tryz.func84
def q9Y:FIn:=⟨[(.agg [(.imm [(.int .i64),(.int .i64),(.int .i64),(.int .i64),(.int .i64),(.int .i64),.bool]),(.imm [(.int .i64),(.int .i64),(.int .i64)]),(.int .i64)])],[]⟩
def q9Z:List FOut:=[⟨(.tuple [(.int .i64),(.int .i64)]),[],none⟩]
noncomputable def qfh:=qf [(81,qa q7q q7D q04),(82,qa uG uJ zQ),(83,qa j4 j1 zg),(84,qa qbl qbc q4E)] [(54,Tryz.f54)] [] 0
noncomputable def jY:=qo qfh 54 Tryz.f54 true q9Y q9Z
theorem qiT:qX Tryz.prog qc 54 (qa q9Y q9Z jY):=sk qfh qe q9 (alc qcy (alc q4n (alc uS (alc qjR aln)))) aln (b1 Tryz.func54) Tryz.func54
def q7z:FIn:=⟨[],[]⟩
def q7r:List FOut:=[⟨.bool,[],none⟩]
noncomputable def qi3:=qf [(26,qa q0n q0l qS),(27,qa vY vV zi),(44,qa q0M q0P vq),(52,qa qgH qg9 q3s),(53,qa qde qdB q3T),(54,qa q9Y q9Z jY),(55,qa jL jH zm)] [(25,Tryz.f25)] [] 0
noncomputable def yW:=qo qi3 25 Tryz.f25 true q7z q7r
theorem qcE:qX Tryz.prog qc 25 (qa q7z q7r yW):=sk qi3 qe q9 (alc q3w (alc kC (alc qah (alc qmp (alc ql0 (alc qiT (alc jo aln))))))) aln (b1 Tryz.func25) Tryz.func25
def q5B:FIn:=⟨[(.agg [(.imm [(.int .i64),(.int .i64),(.int .i64),(.int .i64),(.int .i64),(.int .i64),.bool]),(.imm [(.int .i64),(.int .i64),(.int .i64)]),(.int .i64)]),(.agg [(.int .i64),(.int .i64),(.int .i64)])],[]⟩
def q5L:List FOut:=[⟨(.tuple [.bool,(.int .i64)]),[],none⟩]
noncomputable def qfv:=qf [(19,qa qa9 q9O q38),(55,qa jL jH zm)] [(28,Tryz.f28)] [] 0
noncomputable def q0E:=qo qfv 28 Tryz.f28 true q5B q5L
theorem qb0:qX Tryz.prog qc 28 (qa q5B q5L q0E):=sk qfv qe q9 (alc qiF (alc jo aln)) aln (b1 Tryz.func28) Tryz.func28
def q3t:FIn:=⟨[(.agg [(.imm [(.int .i64),(.int .i64),(.int .i64),(.int .i64),(.int .i64),(.int .i64),.bool]),(.imm [(.int .i64),(.int .i64),(.int .i64)]),(.int .i64)])],[]⟩
def q3z:List FOut:=[⟨.bool,[],none⟩]
def q0N:Tmpl:={ t:=(.any::(.ptr 0 0)::qB 4 ((.imm [(.int .i64)])::.any::.any::.any::(.ptr 2 0)::qB 46 ((.imm [(.int .i64)])::(.int .i64)::(.int .i64)::qB 79 []))),h:=[.cells [(.imm [(.int .i64),(.int .i64),(.int .i64),(.int .i64),(.int .i64),(.int .i64),.bool]),(.imm [(.int .i64),(.int .i64),(.int .i64)]),(.int .i64)],.dead,.cells [(.vec 3),(.vec 4),(.int .i64)],.vec 39 [(.int .i64),(.int .i64),(.int .i64),(.int .i64),(.int .i64),(.int .i64),.bool],.vec 43 [(.int .i64),(.int .i64),(.int .i64)]],prc:=[(10,0,39,[(.int .i64),(.int .i64),(.int .i64),(.int .i64),(.int .i64),(.int .i64),.bool]),(10,1,43,[(.int .i64),(.int .i64),(.int .i64)])],sw:=[(1000010,3),(2000010,4)],swn:=0 }
def q0G:List Out:=[⟨(.exit 0),{ t:=(qB 6 ((.imm [(.int .i64)])::.any::.any::.any::(.ptr 2 0)::qB 128 [])),h:=[.dead,.dead,.cells [(.vec 3),(.vec 4),(.int .i64)],.vec 39 [(.int .i64),(.int .i64),(.int .i64),(.int .i64),(.int .i64),(.int .i64),.bool],.vec 43 [(.int .i64),(.int .i64),(.int .i64)]] }⟩,⟨.ret,{ t:=(.any::.any::.bool::qB 136 []),h:=[] }⟩]
noncomputable def yD:=qf [(24,qa q6W q6U q20),(25,qa q7z q7r yW),(26,qa q0n q0l qS),(27,qa vY vV zi),(28,qa q5B q5L q0E)] [(5,Tryz.f5)] [] 0
noncomputable def zW:=jE yD 5 Tryz.f5 16 q0N q0G
theorem qa1:qp Tryz.prog qc yD.nimp (qy Tryz.prog yD.iter 5) (zB Tryz.f5 16) (qm q0N q0G (ql zW)):=
 gk yD qe q9 (alc qch (alc qcE (alc q3w (alc kC (alc qb0 aln))))) aln (b1 Tryz.func5) Tryz.func5
noncomputable def vw:=qf [(24,qa q6W q6U q20),(25,qa q7z q7r yW),(26,qa q0n q0l qS),(27,qa vY vV zi),(28,qa q5B q5L q0E)] [(5,Tryz.f5)] [((5,16),qm q0N q0G (ql zW))] 0
noncomputable def yt:=qo vw 5 Tryz.f5 true q3t q3z
theorem qd0:qX Tryz.prog qc 5 (qa q3t q3z yt):=sk vw qe q9 (alc qch (alc qcE (alc q3w (alc kC (alc qb0 aln))))) (alc (lk Tryz.func5 qa1) aln) (b1 Tryz.func5) Tryz.func5
end Go.Eng

namespace Go.Eng
theorem qse(x0:Int):q3X [.i x0]=(.br (ile (-100000) x0) (.leaf (0,[(.b (ile x0 100000))])) (.leaf (0,[(.b false)]))):=by kernel_rfl
theorem qmQ(x0:Int)(x1:Int):jF [.i x0,.i x1]=(.br (okR (q3X [(.i x0)])) (.br (gB (q3X [(.i x0)]) 0) (.br (okR (q3X [(.i x1)])) (.leaf (0,[(.b (gB (q3X [(.i x1)]) 0))])) .fail) (.leaf (0,[(.b false)]))) .fail):=by kernel_rfl
theorem qp4(x0:Int):j0 [.i x0]=(.br (ile 1 x0) (.leaf (0,[(.b (ile x0 100000))])) (.leaf (0,[(.b false)]))):=by kernel_rfl
theorem qmF(x0:Int)(x1:Int)(x2:Int)(x3:Int)(x4:Int)(x5:Int)(x6:Bool):yY [.i x0,.i x1,.i x2,.i x3,.i x4,.i x5,.b x6]=(.br (okR (jF [(.i x0),(.i x1)])) (.br (not (gB (jF [(.i x0),(.i x1)]) 0)) (.leaf (0,[(.i 2)])) (.br (okR (j0 [(.i x2)])) (.br (not (gB (j0 [(.i x2)]) 0)) (.leaf (0,[(.i 2)])) (.br (okR (j0 [(.i x3)])) (.br (not (gB (j0 [(.i x3)]) 0)) (.leaf (0,[(.i 2)])) (.br (ilt x3 x2) (.leaf (0,[(.i 9)])) (.br (ilt x4 0) (.leaf (0,[(.i 2)])) (.br (ilt 100000 x4) (.leaf (0,[(.i 2)])) (.br (not x6) (.br (ile x2 x4) (.leaf (0,[(.i 2)])) (.br (ilt x5 0) (.leaf (0,[(.i 1)])) (.br (ilt 2 x5) (.leaf (0,[(.i 1)])) (.leaf (0,[(.i 0)]))))) (.br (ilt x5 0) (.leaf (0,[(.i 1)])) (.br (ilt 2 x5) (.leaf (0,[(.i 1)])) (.leaf (0,[(.i 0)]))))))))) .fail)) .fail)) .fail):=by kernel_rfl
theorem qo4(x0:Int)(x1:Int)(x2:Int):yT [.i x0,.i x1,.i x2]=(.br (okR (jF [(.i x0),(.i x1)])) (.br (not (gB (jF [(.i x0),(.i x1)]) 0)) (.leaf (0,[(.i 2)])) (.br (okR (j0 [(.i x2)])) (.br (not (gB (j0 [(.i x2)]) 0)) (.leaf (0,[(.i 2)])) (.leaf (0,[(.i 0)]))) .fail)) .fail):=by kernel_rfl
theorem qkq(x0:Int)(x1:Int)(x2:Int)(x3:Int)(x4:Int)(x5:Int)(x6:Bool)(x7:Int):ya [.i x0,.i x1,.i x2,.i x3,.i x4,.i x5,.b x6,.i x7]=(.br (ile x2 x7) (.leaf (0,[(.b (ile x7 x3))])) (.leaf (0,[(.b false)]))):=by kernel_rfl
theorem q8n(x0:List UInt8)(x1:List UInt8):zP [.s x0,.s x1]=(let r0:TR:=(wR [(.s x0),(.s x1)])
 .br (okR r0) (.br (ile 0 (gI r0 0)) (.br (q8Y (gI r0 0) (zJ x0)) (.br (q8Y 0 (gI r0 0)) (.br (q8Y (zJ x0) (zJ x0)) (.br (q8Y (qt .i64 (gI r0 0) (zJ x1)) (zJ x0)) (.leaf (0,[(.s (qij x0 0 (gI r0 0))),(.s (qij x0 (qt .i64 (gI r0 0) (zJ x1)) (zJ x0))),(.b true)])) .fail) .fail) .fail) .fail) (.leaf (0,[(.s x0),(.s []),(.b false)]))) .fail):=by kernel_rfl
theorem qmz(x0:List UInt8)(x1:List UInt8):q4N [.s x0,.s x1]=(let r0:TR:=(zP [(.s x0),(.s x1)])
 .br (okR r0) (.leaf (0,[(.s (gS r0 0)),(.s (gS r0 1)),(.b (gB r0 2))])) .fail):=by kernel_rfl
theorem qqL(x0:List UInt8):qG [.s x0]=(let r0:TR:=(q4N [(.s x0),(.s [47])])
 .br (okR r0) (.br (not (gB r0 2)) (.leaf (0,[(.s (gS r0 0)),(.s [49]),(.b (gB r0 2))])) (.leaf (0,[(.s (gS r0 0)),(.s (gS r0 1)),(.b (gB r0 2))]))) .fail):=by kernel_rfl
theorem q45(x0:List UInt8)(x1:List UInt8):qx [.s x0,.s x1]=(.br (ile (zJ x1) (zJ x0)) (.br (q8Y (zJ x1) (zJ x0)) (.br (q8Y 0 (zJ x1)) (.leaf (0,[(.b (seq (qij x0 0 (zJ x1)) x1))])) .fail) .fail) (.leaf (0,[(.b false)]))):=by kernel_rfl
theorem q43(x0:List UInt8)(x1:List UInt8):qW [.s x0,.s x1]=(let r0:TR:=(qx [(.s x0),(.s x1)])
 .br (okR r0) (.br (gB r0 0) (.br (q8Y (zJ x0) (zJ x0)) (.br (q8Y (zJ x1) (zJ x0)) (.leaf (0,[(.s (qij x0 (zJ x1) (zJ x0)))])) .fail) .fail) (.leaf (0,[(.s x0)]))) .fail):=by kernel_rfl
theorem qeg(x0:List UInt8)(x1:List UInt8):qH [.s x0,.s x1]=(let r0:TR:=(qW [(.s x0),(.s x1)])
 .br (okR r0) (.leaf (0,[(.s (gS r0 0))])) .fail):=by kernel_rfl
theorem qn2(x0:List UInt8):qD [.s x0]=(let r0:TR:=(qH [(.s x0),(.s [45])])
 .br (okR r0) (.br (seq (gS r0 0) []) (.leaf (0,[(.i 3)])) (let r1:TR:=(q5A [(.s (gS r0 0)),(.s [48,49,50,51,52,53,54,55,56,57])])
 .br (okR r1) (.br (not (seq (gS r1 0) [])) (.leaf (0,[(.i 3)])) (.br (inb 0 (zJ (gS r0 0))) (.br (ieq (sat (gS r0 0) 0) 48) (.br (not (seq x0 [48])) (.leaf (0,[(.i 3)])) (.br (ilt 1024 (zJ (gS r0 0))) (.leaf (0,[(.i 11)])) (.leaf (0,[(.i 0)])))) (.br (ilt 1024 (zJ (gS r0 0))) (.leaf (0,[(.i 11)])) (.leaf (0,[(.i 0)])))) .fail)) .fail)) .fail):=by kernel_rfl
theorem qfD(y0:R)(y1:Int)(y2:Int):q46 [.r y0,.i y1,.i y2]=(.br (ilt y2 y1) (.br (inb y2 (qh y0)) (let r0:TR:=(qD [(.s (cS y0 y2 0))])
 .br (okR r0) (.br (ine (gI r0 0) 0) (.leaf (2,[(.i (gI r0 0))])) (.leaf (0,[(.r y0),(.i y1),(.i (qt .i64 y2 1))]))) .fail) .fail) (.leaf (1,[]))):=by kernel_rfl
theorem qql(x0:R):zx [.r x0]=(let r0:TR:=(ql q46 [(.r x0),(.i (qh x0)),(.i 0)])
 .br (okR r0) (.br (jIs r0 0) (.leaf (0,[(.i 0)])) (.leaf (0,[(.i (gI r0 0))]))) .fail):=by kernel_rfl
theorem qou(x0:List UInt8):jV [.s x0]=(.br (seq x0 [48]) (.leaf (0,[(.i 0)])) (.br (inb 0 (zJ x0)) (.br (ieq (sat x0 0) 45) (.leaf (0,[(.i (-1))])) (.leaf (0,[(.i 1)]))) .fail)):=by kernel_rfl
theorem qmK(x0:List UInt8)(x1:List UInt8):q4l [.s x0,.s x1]=(.br (ine (zJ x0) (zJ x1)) (.br (ilt (zJ x0) (zJ x1)) (.leaf (0,[(.i (-1))])) (.leaf (0,[(.i 1)]))) (let r0:TR:=(q2c [(.s x0),(.s x1)])
 .br (okR r0) (.leaf (0,[(.i (gI r0 0))])) .fail)):=by kernel_rfl
theorem qk1(x0:List UInt8)(x1:List UInt8):q1A [.s x0,.s x1]=(let r0:TR:=(zx [(.r [[(.s x0)],[(.s x1)]])])
 .br (okR r0) (.br (ine (gI r0 0) 0) (.leaf (0,[(.i 0),(.i (gI r0 0))])) (let r1:TR:=(jV [(.s x0)])
 .br (okR r1) (let r2:TR:=(jV [(.s x1)])
 .br (okR r2) (.br (ilt (gI r1 0) (gI r2 0)) (.leaf (0,[(.i (-1)),(.i 0)])) (.br (okR r2) (.br (ilt (gI r2 0) (gI r1 0)) (.leaf (0,[(.i 1),(.i 0)])) (let r3:TR:=(qH [(.s x0),(.s [45])])
 .br (okR r3) (let r4:TR:=(qH [(.s x1),(.s [45])])
 .br (okR r4) (let r5:TR:=(q4l [(.s (gS r3 0)),(.s (gS r4 0))])
 .br (okR r5) (.leaf (0,[(.i (kN .i64 (gI r1 0) (gI r5 0))),(.i 0)])) .fail) .fail) .fail)) .fail)) .fail) .fail)) .fail):=by kernel_rfl
theorem qs8(x0:Int):zb [.i x0]=(.br (okR (q30 [(.i x0)])) (.leaf (0,[(.s (gS (q30 [(.i x0)]) 0))])) .fail):=by kernel_rfl
theorem qbT(y0:Bool)(y1:Int)(y2:R):vo [.b y0,.i y1,.r y2]=(.br (ilt 0 y1) (.br (inb (qP .i64 y1 1) 232) (.br (inb (qP .i64 y1 1) 232) (.br (ieq (cI y2 (qP .i64 y1 1) 0) 0) (.leaf (0,[(.b y0),(.i (qP .i64 y1 1)),(.r y2)])) (.leaf (1,[(.b y0),(.i y1),(.r y2)]))) .fail) .fail) (.leaf (1,[(.b y0),(.i y1),(.r y2)]))):=by kernel_rfl
theorem qdV(x0:Bool)(x1:Int)(x2:R):qu [.b x0,.i x1,.r x2]=(let r0:TR:=(ql vo [(.b x0),(.i x1),(.r x2)])
 .br (okR r0) (.leaf (0,[(.b (gB r0 0)),(.i (gI r0 1)),(.r (gR r0 2))])) .fail):=by kernel_rfl
theorem qkp(y0:List UInt8)(y1:Bool)(y2:Int)(y3:R):q2O [.s y0,.b y1,.i y2,.r y3]=(.br (ilt 0 (zJ y0)) (.br (q8Y (zJ y0) (zJ y0)) (.br (q8Y (qii 0 (qP .i64 (zJ y0) 9)) (zJ y0)) (let r0:TR:=(wT [(.s (qij y0 (qii 0 (qP .i64 (zJ y0) 9)) (zJ y0)))])
 .br (okR r0) (.br (inb y2 232) (.br (inb y2 232) (.br (q8Y (qii 0 (qP .i64 (zJ y0) 9)) (zJ y0)) (.br (q8Y 0 (qii 0 (qP .i64 (zJ y0) 9))) (.leaf (0,[(.s (qij y0 0 (qii 0 (qP .i64 (zJ y0) 9)))),(.b y1),(.i (qt .i64 y2 1)),(.r (qd5 y3 y2 0 [(.i (gI r0 0))]))])) .fail) .fail) .fail) .fail) .fail) .fail) .fail) (.leaf (1,[(.b y1),(.i y2),(.r y3)]))):=by kernel_rfl
theorem qow(x0:List UInt8):zf [.s x0]=(.br (inb 0 (zJ x0)) (let r0:TR:=(qH [(.s x0),(.s [45])])
 .br (okR r0) (let r1:TR:=(ql q2O [(.s (gS r0 0)),(.b (ieq (sat x0 0) 45)),(.i 0),(.r (q50 232 [(.i 0)]))])
 .br (okR r1) (let r2:TR:=(qu [(.b (gB r1 0)),(.i (gI r1 1)),(.r (gR r1 2))])
 .br (okR r2) (.leaf (0,[(.b (gB r2 0)),(.i (gI r2 1)),(.r (gR r2 2))])) .fail) .fail) .fail) .fail):=by kernel_rfl
theorem qcV(y0:Int)(y1:Bool)(y2:Int)(y3:R)(y4:Bool)(y5:Int)(y6:R):vU [.i y0,.b y1,.i y2,.r y3,.b y4,.i y5,.r y6]=(.br (ile 0 y0) (.br (inb y0 232) (.br (inb y0 232) (.br (inb y0 232) (.br (inb y0 232) (.br (ine (cI y3 y0 0) (cI y6 y0 0)) (.br (inb y0 232) (.br (inb y0 232) (.br (inb y0 232) (.br (inb y0 232) (.leaf (2,[(.i (qP .i64 (cI y3 y0 0) (cI y6 y0 0))),(.b y1),(.i y2),(.r y3),(.b y4),(.i y5),(.r y6)])) .fail) .fail) .fail) .fail) (.leaf (0,[(.i (qP .i64 y0 1)),(.b y1),(.i y2),(.r y3),(.b y4),(.i y5),(.r y6)]))) .fail) .fail) .fail) .fail) (.leaf (1,[(.b y1),(.i y2),(.r y3),(.b y4),(.i y5),(.r y6)]))):=by kernel_rfl
theorem qf0(x0:Bool)(x1:Int)(x2:R)(x3:Bool)(x4:Int)(x5:R):zk [.b x0,.i x1,.r x2,.b x3,.i x4,.r x5]=(.br (ine x1 x4) (.leaf (0,[(.i (qP .i64 x1 x4)),(.b x0),(.i x1),(.r x2),(.b x3),(.i x4),(.r x5)])) (let r0:TR:=(ql vU [(.i (qP .i64 x1 1)),(.b x0),(.i x1),(.r x2),(.b x3),(.i x4),(.r x5)])
 .br (okR r0) (.br (jIs r0 0) (.leaf (0,[(.i 0),(.b (gB r0 0)),(.i (gI r0 1)),(.r (gR r0 2)),(.b (gB r0 3)),(.i (gI r0 4)),(.r (gR r0 5))])) (.leaf (0,[(.i (gI r0 0)),(.b (gB r0 1)),(.i (gI r0 2)),(.r (gR r0 3)),(.b (gB r0 4)),(.i (gI r0 5)),(.r (gR r0 6))]))) .fail)):=by kernel_rfl
theorem qiw(x0:Bool)(x1:Int)(x2:R)(x3:Bool)(x4:Int)(x5:R):jl [.b x0,.i x1,.r x2,.b x3,.i x4,.r x5]=(.br (ilt x4 0) (.br (ilt (qP .i64 x4 1) 0) (.br (ilt (qP .i64 x4 1) 0) (.br (ilt 1 x4) (.leaf (0,[(.i 1),(.b x0),(.i x1),(.r x2),(.b x3),(.i x4),(.r x5)])) .fail) (.br (ile x4 (qP .i64 x4 1)) (.br (ilt 1 x4) (.leaf (0,[(.i 1),(.b x0),(.i x1),(.r x2),(.b x3),(.i x4),(.r x5)])) .fail) (.br (inb (qP .i64 x4 1) 232) (.br (inb (qP .i64 x4 1) 232) (.br (ilt 1 x4) (.br (ine (qt .i64 (cI x5 (qP .i64 x4 1) 0) 1) 0) (.br (ilt 0 (yp .i64 0 (qt .i64 (cI x5 (qP .i64 x4 1) 0) 1))) (.leaf (0,[(.i (q8F (yp .i64 0 (qt .i64 (cI x5 (qP .i64 x4 1) 0) 1)) 999999999)),(.b x0),(.i x1),(.r x2),(.b x3),(.i x4),(.r x5)])) (.leaf (0,[(.i 1),(.b x0),(.i x1),(.r x2),(.b x3),(.i x4),(.r x5)]))) .fail) (.br (ine (cI x5 (qP .i64 x4 1) 0) 0) (.br (ilt 0 (yp .i64 0 (cI x5 (qP .i64 x4 1) 0))) (.leaf (0,[(.i (q8F (yp .i64 0 (cI x5 (qP .i64 x4 1) 0)) 999999999)),(.b x0),(.i x1),(.r x2),(.b x3),(.i x4),(.r x5)])) (.leaf (0,[(.i 1),(.b x0),(.i x1),(.r x2),(.b x3),(.i x4),(.r x5)]))) .fail)) .fail) .fail))) (.br (ile x1 (qP .i64 x4 1)) (.br (ilt (qP .i64 x4 1) 0) (.br (ilt 1 x4) (.leaf (0,[(.i 1),(.b x0),(.i x1),(.r x2),(.b x3),(.i x4),(.r x5)])) .fail) (.br (ile x4 (qP .i64 x4 1)) (.br (ilt 1 x4) (.leaf (0,[(.i 1),(.b x0),(.i x1),(.r x2),(.b x3),(.i x4),(.r x5)])) .fail) (.br (inb (qP .i64 x4 1) 232) (.br (inb (qP .i64 x4 1) 232) (.br (ilt 1 x4) (.br (ine (qt .i64 (cI x5 (qP .i64 x4 1) 0) 1) 0) (.br (ilt 0 (yp .i64 0 (qt .i64 (cI x5 (qP .i64 x4 1) 0) 1))) (.leaf (0,[(.i (q8F (yp .i64 0 (qt .i64 (cI x5 (qP .i64 x4 1) 0) 1)) 999999999)),(.b x0),(.i x1),(.r x2),(.b x3),(.i x4),(.r x5)])) (.leaf (0,[(.i 1),(.b x0),(.i x1),(.r x2),(.b x3),(.i x4),(.r x5)]))) .fail) (.br (ine (cI x5 (qP .i64 x4 1) 0) 0) (.br (ilt 0 (yp .i64 0 (cI x5 (qP .i64 x4 1) 0))) (.leaf (0,[(.i (q8F (yp .i64 0 (cI x5 (qP .i64 x4 1) 0)) 999999999)),(.b x0),(.i x1),(.r x2),(.b x3),(.i x4),(.r x5)])) (.leaf (0,[(.i 1),(.b x0),(.i x1),(.r x2),(.b x3),(.i x4),(.r x5)]))) .fail)) .fail) .fail))) (.br (inb (qP .i64 x4 1) 232) (.br (inb (qP .i64 x4 1) 232) (.br (ilt (qP .i64 x4 1) 0) (.br (ilt 1 x4) (.br (ilt 0 (yp .i64 (qt .i64 0 (cI x2 (qP .i64 x4 1) 0)) 1)) (.leaf (0,[(.i (q8F (yp .i64 (qt .i64 0 (cI x2 (qP .i64 x4 1) 0)) 1) 999999999)),(.b x0),(.i x1),(.r x2),(.b x3),(.i x4),(.r x5)])) (.leaf (0,[(.i 1),(.b x0),(.i x1),(.r x2),(.b x3),(.i x4),(.r x5)]))) .fail) (.br (ile x4 (qP .i64 x4 1)) (.br (ilt 1 x4) (.br (ilt 0 (yp .i64 (qt .i64 0 (cI x2 (qP .i64 x4 1) 0)) 1)) (.leaf (0,[(.i (q8F (yp .i64 (qt .i64 0 (cI x2 (qP .i64 x4 1) 0)) 1) 999999999)),(.b x0),(.i x1),(.r x2),(.b x3),(.i x4),(.r x5)])) (.leaf (0,[(.i 1),(.b x0),(.i x1),(.r x2),(.b x3),(.i x4),(.r x5)]))) .fail) (.br (inb (qP .i64 x4 1) 232) (.br (inb (qP .i64 x4 1) 232) (.br (ilt 1 x4) (.br (ine (qt .i64 (cI x5 (qP .i64 x4 1) 0) 1) 0) (.br (ilt 0 (yp .i64 (qt .i64 0 (cI x2 (qP .i64 x4 1) 0)) (qt .i64 (cI x5 (qP .i64 x4 1) 0) 1))) (.leaf (0,[(.i (q8F (yp .i64 (qt .i64 0 (cI x2 (qP .i64 x4 1) 0)) (qt .i64 (cI x5 (qP .i64 x4 1) 0) 1)) 999999999)),(.b x0),(.i x1),(.r x2),(.b x3),(.i x4),(.r x5)])) (.leaf (0,[(.i 1),(.b x0),(.i x1),(.r x2),(.b x3),(.i x4),(.r x5)]))) .fail) (.br (ine (cI x5 (qP .i64 x4 1) 0) 0) (.br (ilt 0 (yp .i64 (qt .i64 0 (cI x2 (qP .i64 x4 1) 0)) (cI x5 (qP .i64 x4 1) 0))) (.leaf (0,[(.i (q8F (yp .i64 (qt .i64 0 (cI x2 (qP .i64 x4 1) 0)) (cI x5 (qP .i64 x4 1) 0)) 999999999)),(.b x0),(.i x1),(.r x2),(.b x3),(.i x4),(.r x5)])) (.leaf (0,[(.i 1),(.b x0),(.i x1),(.r x2),(.b x3),(.i x4),(.r x5)]))) .fail)) .fail) .fail))) .fail) .fail))) (.br (ile x1 x4) (.br (ilt (qP .i64 x4 1) 0) (.br (ilt (qP .i64 x4 1) 0) (.br (ilt 1 x4) (.leaf (0,[(.i 1),(.b x0),(.i x1),(.r x2),(.b x3),(.i x4),(.r x5)])) .fail) (.br (ile x4 (qP .i64 x4 1)) (.br (ilt 1 x4) (.leaf (0,[(.i 1),(.b x0),(.i x1),(.r x2),(.b x3),(.i x4),(.r x5)])) .fail) (.br (inb (qP .i64 x4 1) 232) (.br (inb (qP .i64 x4 1) 232) (.br (ilt 1 x4) (.br (ine (qt .i64 (cI x5 (qP .i64 x4 1) 0) 1) 0) (.br (ilt 0 (yp .i64 0 (qt .i64 (cI x5 (qP .i64 x4 1) 0) 1))) (.leaf (0,[(.i (q8F (yp .i64 0 (qt .i64 (cI x5 (qP .i64 x4 1) 0) 1)) 999999999)),(.b x0),(.i x1),(.r x2),(.b x3),(.i x4),(.r x5)])) (.leaf (0,[(.i 1),(.b x0),(.i x1),(.r x2),(.b x3),(.i x4),(.r x5)]))) .fail) (.br (ine (cI x5 (qP .i64 x4 1) 0) 0) (.br (ilt 0 (yp .i64 0 (cI x5 (qP .i64 x4 1) 0))) (.leaf (0,[(.i (q8F (yp .i64 0 (cI x5 (qP .i64 x4 1) 0)) 999999999)),(.b x0),(.i x1),(.r x2),(.b x3),(.i x4),(.r x5)])) (.leaf (0,[(.i 1),(.b x0),(.i x1),(.r x2),(.b x3),(.i x4),(.r x5)]))) .fail)) .fail) .fail))) (.br (ile x1 (qP .i64 x4 1)) (.br (ilt (qP .i64 x4 1) 0) (.br (ilt 1 x4) (.leaf (0,[(.i 1),(.b x0),(.i x1),(.r x2),(.b x3),(.i x4),(.r x5)])) .fail) (.br (ile x4 (qP .i64 x4 1)) (.br (ilt 1 x4) (.leaf (0,[(.i 1),(.b x0),(.i x1),(.r x2),(.b x3),(.i x4),(.r x5)])) .fail) (.br (inb (qP .i64 x4 1) 232) (.br (inb (qP .i64 x4 1) 232) (.br (ilt 1 x4) (.br (ine (qt .i64 (cI x5 (qP .i64 x4 1) 0) 1) 0) (.br (ilt 0 (yp .i64 0 (qt .i64 (cI x5 (qP .i64 x4 1) 0) 1))) (.leaf (0,[(.i (q8F (yp .i64 0 (qt .i64 (cI x5 (qP .i64 x4 1) 0) 1)) 999999999)),(.b x0),(.i x1),(.r x2),(.b x3),(.i x4),(.r x5)])) (.leaf (0,[(.i 1),(.b x0),(.i x1),(.r x2),(.b x3),(.i x4),(.r x5)]))) .fail) (.br (ine (cI x5 (qP .i64 x4 1) 0) 0) (.br (ilt 0 (yp .i64 0 (cI x5 (qP .i64 x4 1) 0))) (.leaf (0,[(.i (q8F (yp .i64 0 (cI x5 (qP .i64 x4 1) 0)) 999999999)),(.b x0),(.i x1),(.r x2),(.b x3),(.i x4),(.r x5)])) (.leaf (0,[(.i 1),(.b x0),(.i x1),(.r x2),(.b x3),(.i x4),(.r x5)]))) .fail)) .fail) .fail))) (.br (inb (qP .i64 x4 1) 232) (.br (inb (qP .i64 x4 1) 232) (.br (ilt (qP .i64 x4 1) 0) (.br (ilt 1 x4) (.br (ilt 0 (yp .i64 (qt .i64 0 (cI x2 (qP .i64 x4 1) 0)) 1)) (.leaf (0,[(.i (q8F (yp .i64 (qt .i64 0 (cI x2 (qP .i64 x4 1) 0)) 1) 999999999)),(.b x0),(.i x1),(.r x2),(.b x3),(.i x4),(.r x5)])) (.leaf (0,[(.i 1),(.b x0),(.i x1),(.r x2),(.b x3),(.i x4),(.r x5)]))) .fail) (.br (ile x4 (qP .i64 x4 1)) (.br (ilt 1 x4) (.br (ilt 0 (yp .i64 (qt .i64 0 (cI x2 (qP .i64 x4 1) 0)) 1)) (.leaf (0,[(.i (q8F (yp .i64 (qt .i64 0 (cI x2 (qP .i64 x4 1) 0)) 1) 999999999)),(.b x0),(.i x1),(.r x2),(.b x3),(.i x4),(.r x5)])) (.leaf (0,[(.i 1),(.b x0),(.i x1),(.r x2),(.b x3),(.i x4),(.r x5)]))) .fail) (.br (inb (qP .i64 x4 1) 232) (.br (inb (qP .i64 x4 1) 232) (.br (ilt 1 x4) (.br (ine (qt .i64 (cI x5 (qP .i64 x4 1) 0) 1) 0) (.br (ilt 0 (yp .i64 (qt .i64 0 (cI x2 (qP .i64 x4 1) 0)) (qt .i64 (cI x5 (qP .i64 x4 1) 0) 1))) (.leaf (0,[(.i (q8F (yp .i64 (qt .i64 0 (cI x2 (qP .i64 x4 1) 0)) (qt .i64 (cI x5 (qP .i64 x4 1) 0) 1)) 999999999)),(.b x0),(.i x1),(.r x2),(.b x3),(.i x4),(.r x5)])) (.leaf (0,[(.i 1),(.b x0),(.i x1),(.r x2),(.b x3),(.i x4),(.r x5)]))) .fail) (.br (ine (cI x5 (qP .i64 x4 1) 0) 0) (.br (ilt 0 (yp .i64 (qt .i64 0 (cI x2 (qP .i64 x4 1) 0)) (cI x5 (qP .i64 x4 1) 0))) (.leaf (0,[(.i (q8F (yp .i64 (qt .i64 0 (cI x2 (qP .i64 x4 1) 0)) (cI x5 (qP .i64 x4 1) 0)) 999999999)),(.b x0),(.i x1),(.r x2),(.b x3),(.i x4),(.r x5)])) (.leaf (0,[(.i 1),(.b x0),(.i x1),(.r x2),(.b x3),(.i x4),(.r x5)]))) .fail)) .fail) .fail))) .fail) .fail))) (.br (inb x4 232) (.br (inb x4 232) (.br (ilt (qP .i64 x4 1) 0) (.br (ilt (qP .i64 x4 1) 0) (.br (ilt 1 x4) (.br (ilt 0 (yp .i64 (qt .i64 (kN .i64 (cI x2 x4 0) 1000000000) 0) 1)) (.leaf (0,[(.i (q8F (yp .i64 (qt .i64 (kN .i64 (cI x2 x4 0) 1000000000) 0) 1) 999999999)),(.b x0),(.i x1),(.r x2),(.b x3),(.i x4),(.r x5)])) (.leaf (0,[(.i 1),(.b x0),(.i x1),(.r x2),(.b x3),(.i x4),(.r x5)]))) .fail) (.br (ile x4 (qP .i64 x4 1)) (.br (ilt 1 x4) (.br (ilt 0 (yp .i64 (qt .i64 (kN .i64 (cI x2 x4 0) 1000000000) 0) 1)) (.leaf (0,[(.i (q8F (yp .i64 (qt .i64 (kN .i64 (cI x2 x4 0) 1000000000) 0) 1) 999999999)),(.b x0),(.i x1),(.r x2),(.b x3),(.i x4),(.r x5)])) (.leaf (0,[(.i 1),(.b x0),(.i x1),(.r x2),(.b x3),(.i x4),(.r x5)]))) .fail) (.br (inb (qP .i64 x4 1) 232) (.br (inb (qP .i64 x4 1) 232) (.br (ilt 1 x4) (.br (ine (qt .i64 (cI x5 (qP .i64 x4 1) 0) 1) 0) (.br (ilt 0 (yp .i64 (qt .i64 (kN .i64 (cI x2 x4 0) 1000000000) 0) (qt .i64 (cI x5 (qP .i64 x4 1) 0) 1))) (.leaf (0,[(.i (q8F (yp .i64 (qt .i64 (kN .i64 (cI x2 x4 0) 1000000000) 0) (qt .i64 (cI x5 (qP .i64 x4 1) 0) 1)) 999999999)),(.b x0),(.i x1),(.r x2),(.b x3),(.i x4),(.r x5)])) (.leaf (0,[(.i 1),(.b x0),(.i x1),(.r x2),(.b x3),(.i x4),(.r x5)]))) .fail) (.br (ine (cI x5 (qP .i64 x4 1) 0) 0) (.br (ilt 0 (yp .i64 (qt .i64 (kN .i64 (cI x2 x4 0) 1000000000) 0) (cI x5 (qP .i64 x4 1) 0))) (.leaf (0,[(.i (q8F (yp .i64 (qt .i64 (kN .i64 (cI x2 x4 0) 1000000000) 0) (cI x5 (qP .i64 x4 1) 0)) 999999999)),(.b x0),(.i x1),(.r x2),(.b x3),(.i x4),(.r x5)])) (.leaf (0,[(.i 1),(.b x0),(.i x1),(.r x2),(.b x3),(.i x4),(.r x5)]))) .fail)) .fail) .fail))) (.br (ile x1 (qP .i64 x4 1)) (.br (ilt (qP .i64 x4 1) 0) (.br (ilt 1 x4) (.br (ilt 0 (yp .i64 (qt .i64 (kN .i64 (cI x2 x4 0) 1000000000) 0) 1)) (.leaf (0,[(.i (q8F (yp .i64 (qt .i64 (kN .i64 (cI x2 x4 0) 1000000000) 0) 1) 999999999)),(.b x0),(.i x1),(.r x2),(.b x3),(.i x4),(.r x5)])) (.leaf (0,[(.i 1),(.b x0),(.i x1),(.r x2),(.b x3),(.i x4),(.r x5)]))) .fail) (.br (ile x4 (qP .i64 x4 1)) (.br (ilt 1 x4) (.br (ilt 0 (yp .i64 (qt .i64 (kN .i64 (cI x2 x4 0) 1000000000) 0) 1)) (.leaf (0,[(.i (q8F (yp .i64 (qt .i64 (kN .i64 (cI x2 x4 0) 1000000000) 0) 1) 999999999)),(.b x0),(.i x1),(.r x2),(.b x3),(.i x4),(.r x5)])) (.leaf (0,[(.i 1),(.b x0),(.i x1),(.r x2),(.b x3),(.i x4),(.r x5)]))) .fail) (.br (inb (qP .i64 x4 1) 232) (.br (inb (qP .i64 x4 1) 232) (.br (ilt 1 x4) (.br (ine (qt .i64 (cI x5 (qP .i64 x4 1) 0) 1) 0) (.br (ilt 0 (yp .i64 (qt .i64 (kN .i64 (cI x2 x4 0) 1000000000) 0) (qt .i64 (cI x5 (qP .i64 x4 1) 0) 1))) (.leaf (0,[(.i (q8F (yp .i64 (qt .i64 (kN .i64 (cI x2 x4 0) 1000000000) 0) (qt .i64 (cI x5 (qP .i64 x4 1) 0) 1)) 999999999)),(.b x0),(.i x1),(.r x2),(.b x3),(.i x4),(.r x5)])) (.leaf (0,[(.i 1),(.b x0),(.i x1),(.r x2),(.b x3),(.i x4),(.r x5)]))) .fail) (.br (ine (cI x5 (qP .i64 x4 1) 0) 0) (.br (ilt 0 (yp .i64 (qt .i64 (kN .i64 (cI x2 x4 0) 1000000000) 0) (cI x5 (qP .i64 x4 1) 0))) (.leaf (0,[(.i (q8F (yp .i64 (qt .i64 (kN .i64 (cI x2 x4 0) 1000000000) 0) (cI x5 (qP .i64 x4 1) 0)) 999999999)),(.b x0),(.i x1),(.r x2),(.b x3),(.i x4),(.r x5)])) (.leaf (0,[(.i 1),(.b x0),(.i x1),(.r x2),(.b x3),(.i x4),(.r x5)]))) .fail)) .fail) .fail))) (.br (inb (qP .i64 x4 1) 232) (.br (inb (qP .i64 x4 1) 232) (.br (ilt (qP .i64 x4 1) 0) (.br (ilt 1 x4) (.br (ilt 0 (yp .i64 (qt .i64 (kN .i64 (cI x2 x4 0) 1000000000) (cI x2 (qP .i64 x4 1) 0)) 1)) (.leaf (0,[(.i (q8F (yp .i64 (qt .i64 (kN .i64 (cI x2 x4 0) 1000000000) (cI x2 (qP .i64 x4 1) 0)) 1) 999999999)),(.b x0),(.i x1),(.r x2),(.b x3),(.i x4),(.r x5)])) (.leaf (0,[(.i 1),(.b x0),(.i x1),(.r x2),(.b x3),(.i x4),(.r x5)]))) .fail) (.br (ile x4 (qP .i64 x4 1)) (.br (ilt 1 x4) (.br (ilt 0 (yp .i64 (qt .i64 (kN .i64 (cI x2 x4 0) 1000000000) (cI x2 (qP .i64 x4 1) 0)) 1)) (.leaf (0,[(.i (q8F (yp .i64 (qt .i64 (kN .i64 (cI x2 x4 0) 1000000000) (cI x2 (qP .i64 x4 1) 0)) 1) 999999999)),(.b x0),(.i x1),(.r x2),(.b x3),(.i x4),(.r x5)])) (.leaf (0,[(.i 1),(.b x0),(.i x1),(.r x2),(.b x3),(.i x4),(.r x5)]))) .fail) (.br (inb (qP .i64 x4 1) 232) (.br (inb (qP .i64 x4 1) 232) (.br (ilt 1 x4) (.br (ine (qt .i64 (cI x5 (qP .i64 x4 1) 0) 1) 0) (.br (ilt 0 (yp .i64 (qt .i64 (kN .i64 (cI x2 x4 0) 1000000000) (cI x2 (qP .i64 x4 1) 0)) (qt .i64 (cI x5 (qP .i64 x4 1) 0) 1))) (.leaf (0,[(.i (q8F (yp .i64 (qt .i64 (kN .i64 (cI x2 x4 0) 1000000000) (cI x2 (qP .i64 x4 1) 0)) (qt .i64 (cI x5 (qP .i64 x4 1) 0) 1)) 999999999)),(.b x0),(.i x1),(.r x2),(.b x3),(.i x4),(.r x5)])) (.leaf (0,[(.i 1),(.b x0),(.i x1),(.r x2),(.b x3),(.i x4),(.r x5)]))) .fail) (.br (ine (cI x5 (qP .i64 x4 1) 0) 0) (.br (ilt 0 (yp .i64 (qt .i64 (kN .i64 (cI x2 x4 0) 1000000000) (cI x2 (qP .i64 x4 1) 0)) (cI x5 (qP .i64 x4 1) 0))) (.leaf (0,[(.i (q8F (yp .i64 (qt .i64 (kN .i64 (cI x2 x4 0) 1000000000) (cI x2 (qP .i64 x4 1) 0)) (cI x5 (qP .i64 x4 1) 0)) 999999999)),(.b x0),(.i x1),(.r x2),(.b x3),(.i x4),(.r x5)])) (.leaf (0,[(.i 1),(.b x0),(.i x1),(.r x2),(.b x3),(.i x4),(.r x5)]))) .fail)) .fail) .fail))) .fail) .fail))) .fail) .fail))):=by kernel_rfl
theorem q5W(y0:Int)(y1:Int)(y2:Int)(y3:Int)(y4:Bool)(y5:Int)(y6:R)(y7:Bool)(y8:Int)(y9:R):vd [.i y0,.i y1,.i y2,.i y3,.b y4,.i y5,.r y6,.b y7,.i y8,.r y9]=(.br (ilt y3 y8) (.br (inb (qt .i64 y3 y1) 232) (.br (inb (qt .i64 y3 y1) 232) (.br (ilt y3 y8) (.br (inb y3 232) (.br (inb y3 232) (.br (ilt (qP .i64 (qt .i64 (qt .i64 (cI y6 (qt .i64 y3 y1) 0) y2) (kN .i64 y0 (cI y9 y3 0))) (kN .i64 (yp .i64 (qt .i64 (qt .i64 (cI y6 (qt .i64 y3 y1) 0) y2) (kN .i64 y0 (cI y9 y3 0))) 1000000000) 1000000000)) 0) (.br (inb (qt .i64 y3 y1) 232) (.br (inb (qt .i64 y3 y1) 232) (.leaf (0,[(.i y0),(.i y1),(.i (qP .i64 (yp .i64 (qt .i64 (qt .i64 (cI y6 (qt .i64 y3 y1) 0) y2) (kN .i64 y0 (cI y9 y3 0))) 1000000000) 1)),(.i (qt .i64 y3 1)),(.b y4),(.i (qii y5 (qt .i64 (qt .i64 y3 y1) 1))),(.r (qd5 y6 (qt .i64 y3 y1) 0 [(.i (qt .i64 (qP .i64 (qt .i64 (qt .i64 (cI y6 (qt .i64 y3 y1) 0) y2) (kN .i64 y0 (cI y9 y3 0))) (kN .i64 (yp .i64 (qt .i64 (qt .i64 (cI y6 (qt .i64 y3 y1) 0) y2) (kN .i64 y0 (cI y9 y3 0))) 1000000000) 1000000000)) 1000000000))])),(.b y7),(.i y8),(.r y9)])) .fail) .fail) (.br (inb (qt .i64 y3 y1) 232) (.br (inb (qt .i64 y3 y1) 232) (.leaf (0,[(.i y0),(.i y1),(.i (yp .i64 (qt .i64 (qt .i64 (cI y6 (qt .i64 y3 y1) 0) y2) (kN .i64 y0 (cI y9 y3 0))) 1000000000)),(.i (qt .i64 y3 1)),(.b y4),(.i (qii y5 (qt .i64 (qt .i64 y3 y1) 1))),(.r (qd5 y6 (qt .i64 y3 y1) 0 [(.i (qP .i64 (qt .i64 (qt .i64 (cI y6 (qt .i64 y3 y1) 0) y2) (kN .i64 y0 (cI y9 y3 0))) (kN .i64 (yp .i64 (qt .i64 (qt .i64 (cI y6 (qt .i64 y3 y1) 0) y2) (kN .i64 y0 (cI y9 y3 0))) 1000000000) 1000000000)))])),(.b y7),(.i y8),(.r y9)])) .fail) .fail)) .fail) .fail) (.br (ilt (qP .i64 (qt .i64 (cI y6 (qt .i64 y3 y1) 0) y2) (kN .i64 (yp .i64 (qt .i64 (cI y6 (qt .i64 y3 y1) 0) y2) 1000000000) 1000000000)) 0) (.br (inb (qt .i64 y3 y1) 232) (.br (inb (qt .i64 y3 y1) 232) (.leaf (0,[(.i y0),(.i y1),(.i (qP .i64 (yp .i64 (qt .i64 (cI y6 (qt .i64 y3 y1) 0) y2) 1000000000) 1)),(.i (qt .i64 y3 1)),(.b y4),(.i (qii y5 (qt .i64 (qt .i64 y3 y1) 1))),(.r (qd5 y6 (qt .i64 y3 y1) 0 [(.i (qt .i64 (qP .i64 (qt .i64 (cI y6 (qt .i64 y3 y1) 0) y2) (kN .i64 (yp .i64 (qt .i64 (cI y6 (qt .i64 y3 y1) 0) y2) 1000000000) 1000000000)) 1000000000))])),(.b y7),(.i y8),(.r y9)])) .fail) .fail) (.br (inb (qt .i64 y3 y1) 232) (.br (inb (qt .i64 y3 y1) 232) (.leaf (0,[(.i y0),(.i y1),(.i (yp .i64 (qt .i64 (cI y6 (qt .i64 y3 y1) 0) y2) 1000000000)),(.i (qt .i64 y3 1)),(.b y4),(.i (qii y5 (qt .i64 (qt .i64 y3 y1) 1))),(.r (qd5 y6 (qt .i64 y3 y1) 0 [(.i (qP .i64 (qt .i64 (cI y6 (qt .i64 y3 y1) 0) y2) (kN .i64 (yp .i64 (qt .i64 (cI y6 (qt .i64 y3 y1) 0) y2) 1000000000) 1000000000)))])),(.b y7),(.i y8),(.r y9)])) .fail) .fail))) .fail) .fail) (.br (ine y2 0) (.br (inb (qt .i64 y3 y1) 232) (.br (inb (qt .i64 y3 y1) 232) (.br (ilt y3 y8) (.br (inb y3 232) (.br (inb y3 232) (.br (ilt (qP .i64 (qt .i64 (qt .i64 (cI y6 (qt .i64 y3 y1) 0) y2) (kN .i64 y0 (cI y9 y3 0))) (kN .i64 (yp .i64 (qt .i64 (qt .i64 (cI y6 (qt .i64 y3 y1) 0) y2) (kN .i64 y0 (cI y9 y3 0))) 1000000000) 1000000000)) 0) (.br (inb (qt .i64 y3 y1) 232) (.br (inb (qt .i64 y3 y1) 232) (.leaf (0,[(.i y0),(.i y1),(.i (qP .i64 (yp .i64 (qt .i64 (qt .i64 (cI y6 (qt .i64 y3 y1) 0) y2) (kN .i64 y0 (cI y9 y3 0))) 1000000000) 1)),(.i (qt .i64 y3 1)),(.b y4),(.i (qii y5 (qt .i64 (qt .i64 y3 y1) 1))),(.r (qd5 y6 (qt .i64 y3 y1) 0 [(.i (qt .i64 (qP .i64 (qt .i64 (qt .i64 (cI y6 (qt .i64 y3 y1) 0) y2) (kN .i64 y0 (cI y9 y3 0))) (kN .i64 (yp .i64 (qt .i64 (qt .i64 (cI y6 (qt .i64 y3 y1) 0) y2) (kN .i64 y0 (cI y9 y3 0))) 1000000000) 1000000000)) 1000000000))])),(.b y7),(.i y8),(.r y9)])) .fail) .fail) (.br (inb (qt .i64 y3 y1) 232) (.br (inb (qt .i64 y3 y1) 232) (.leaf (0,[(.i y0),(.i y1),(.i (yp .i64 (qt .i64 (qt .i64 (cI y6 (qt .i64 y3 y1) 0) y2) (kN .i64 y0 (cI y9 y3 0))) 1000000000)),(.i (qt .i64 y3 1)),(.b y4),(.i (qii y5 (qt .i64 (qt .i64 y3 y1) 1))),(.r (qd5 y6 (qt .i64 y3 y1) 0 [(.i (qP .i64 (qt .i64 (qt .i64 (cI y6 (qt .i64 y3 y1) 0) y2) (kN .i64 y0 (cI y9 y3 0))) (kN .i64 (yp .i64 (qt .i64 (qt .i64 (cI y6 (qt .i64 y3 y1) 0) y2) (kN .i64 y0 (cI y9 y3 0))) 1000000000) 1000000000)))])),(.b y7),(.i y8),(.r y9)])) .fail) .fail)) .fail) .fail) (.br (ilt (qP .i64 (qt .i64 (cI y6 (qt .i64 y3 y1) 0) y2) (kN .i64 (yp .i64 (qt .i64 (cI y6 (qt .i64 y3 y1) 0) y2) 1000000000) 1000000000)) 0) (.br (inb (qt .i64 y3 y1) 232) (.br (inb (qt .i64 y3 y1) 232) (.leaf (0,[(.i y0),(.i y1),(.i (qP .i64 (yp .i64 (qt .i64 (cI y6 (qt .i64 y3 y1) 0) y2) 1000000000) 1)),(.i (qt .i64 y3 1)),(.b y4),(.i (qii y5 (qt .i64 (qt .i64 y3 y1) 1))),(.r (qd5 y6 (qt .i64 y3 y1) 0 [(.i (qt .i64 (qP .i64 (qt .i64 (cI y6 (qt .i64 y3 y1) 0) y2) (kN .i64 (yp .i64 (qt .i64 (cI y6 (qt .i64 y3 y1) 0) y2) 1000000000) 1000000000)) 1000000000))])),(.b y7),(.i y8),(.r y9)])) .fail) .fail) (.br (inb (qt .i64 y3 y1) 232) (.br (inb (qt .i64 y3 y1) 232) (.leaf (0,[(.i y0),(.i y1),(.i (yp .i64 (qt .i64 (cI y6 (qt .i64 y3 y1) 0) y2) 1000000000)),(.i (qt .i64 y3 1)),(.b y4),(.i (qii y5 (qt .i64 (qt .i64 y3 y1) 1))),(.r (qd5 y6 (qt .i64 y3 y1) 0 [(.i (qP .i64 (qt .i64 (cI y6 (qt .i64 y3 y1) 0) y2) (kN .i64 (yp .i64 (qt .i64 (cI y6 (qt .i64 y3 y1) 0) y2) 1000000000) 1000000000)))])),(.b y7),(.i y8),(.r y9)])) .fail) .fail))) .fail) .fail) (.leaf (1,[(.b y4),(.i y5),(.r y6),(.b y7),(.i y8),(.r y9)])))):=by kernel_rfl
theorem qfY(x0:Int)(x1:Int)(x2:Bool)(x3:Int)(x4:R)(x5:Bool)(x6:Int)(x7:R):qz [.i x0,.i x1,.b x2,.i x3,.r x4,.b x5,.i x6,.r x7]=(let r0:TR:=(ql vd [(.i x0),(.i x1),(.i 0),(.i 0),(.b x2),(.i x3),(.r x4),(.b x5),(.i x6),(.r x7)])
 .br (okR r0) (let r1:TR:=(qu [(.b (gB r0 0)),(.i (gI r0 1)),(.r (gR r0 2))])
 .br (okR r1) (.leaf (0,[(.b (gB r1 0)),(.i (gI r1 1)),(.r (gR r1 2)),(.b (gB r0 3)),(.i (gI r0 4)),(.r (gR r0 5))])) .fail) .fail):=by kernel_rfl
theorem qgl(y0:Int)(y1:Int)(y2:Bool)(y3:Int)(y4:R)(y5:Bool)(y6:Int)(y7:R)(y8:Bool)(y9:Int)(y10:R)(y11:Bool)(y12:Int)(y13:R):jh [.i y0,.i y1,.b y2,.i y3,.r y4,.b y5,.i y6,.r y7,.b y8,.i y9,.r y10,.b y11,.i y12,.r y13]=(let r0:TR:=(zk [(.b y11),(.i y12),(.r y13),(.b y5),(.i y6),(.r y7)])
 .br (okR r0) (.br (ile 0 (gI r0 0)) (let r1:TR:=(jl [(.b (gB r0 1)),(.i (gI r0 2)),(.r (gR r0 3)),(.b (gB r0 4)),(.i (gI r0 5)),(.r (gR r0 6))])
 .br (okR r1) (let r2:TR:=(qz [(.i (qP .i64 0 (gI r1 0))),(.i 0),(.b (gB r1 1)),(.i (gI r1 2)),(.r (gR r1 3)),(.b (gB r1 4)),(.i (gI r1 5)),(.r (gR r1 6))])
 .br (okR r2) (.leaf (0,[(.i y0),(.i (qt .i64 y1 (gI r1 0))),(.b y2),(.i y3),(.r y4),(.b (gB r2 3)),(.i (gI r2 4)),(.r (gR r2 5)),(.b y8),(.i y9),(.r y10),(.b (gB r2 0)),(.i (gI r2 1)),(.r (gR r2 2))])) .fail) .fail) (.leaf (1,[(.i y0),(.i y1),(.b y2),(.i y3),(.r y4),(.b (gB r0 4)),(.i (gI r0 5)),(.r (gR r0 6)),(.b y8),(.i y9),(.r y10),(.b (gB r0 1)),(.i (gI r0 2)),(.r (gR r0 3))]))) .fail):=by kernel_rfl
theorem qhp(y0:Int)(y1:Bool)(y2:Int)(y3:R)(y4:Bool)(y5:Int)(y6:R)(y7:Bool)(y8:Int)(y9:R)(y10:Bool)(y11:Int)(y12:R):kt [.i y0,.b y1,.i y2,.r y3,.b y4,.i y5,.r y6,.b y7,.i y8,.r y9,.b y10,.i y11,.r y12]=(.br (ile 0 y0) (.br (q8Y 232 232) (.br (q8Y 1 232) (.br (q8Y y11 232) (.br (q8Y 0 y11) (.br (inb y0 232) (.br (inb y0 232) (let r0:TR:=(qu [(.b y10),(.i (qt .i64 y11 1)),(.r (qd5 (qhQ y12 1 y12 0 (q8F (qv1 y11 0) (qv1 232 1))) 0 0 [(.i (cI y3 y0 0))]))])
 .br (okR r0) (let r1:TR:=(ql jh [(.i y0),(.i 0),(.b y1),(.i y2),(.r y3),(.b y4),(.i y5),(.r y6),(.b y7),(.i y8),(.r y9),(.b (gB r0 0)),(.i (gI r0 1)),(.r (gR r0 2))])
 .br (okR r1) (.br (inb (gI r1 0) 232) (.br (inb (gI r1 0) 232) (.leaf (0,[(.i (qP .i64 (gI r1 0) 1)),(.b (gB r1 2)),(.i (gI r1 3)),(.r (gR r1 4)),(.b (gB r1 5)),(.i (gI r1 6)),(.r (gR r1 7)),(.b (gB r1 8)),(.i (qii (gI r1 9) (qt .i64 (gI r1 0) 1))),(.r (qd5 (gR r1 10) (gI r1 0) 0 [(.i (gI r1 1))])),(.b (gB r1 11)),(.i (gI r1 12)),(.r (gR r1 13))])) .fail) .fail) .fail) .fail) .fail) .fail) .fail) .fail) .fail) .fail) (.leaf (1,[(.b y1),(.i y2),(.r y3),(.b y4),(.i y5),(.r y6),(.b y7),(.i y8),(.r y9),(.b y10),(.i y11),(.r y12)]))):=by kernel_rfl
theorem qjY(x0:Bool)(x1:Int)(x2:R)(x3:Bool)(x4:Int)(x5:R):zZ [.b x0,.i x1,.r x2,.b x3,.i x4,.r x5]=(let r0:TR:=(ql kt [(.i (qP .i64 x1 1)),(.b x0),(.i x1),(.r x2),(.b x3),(.i x4),(.r x5),(.b false),(.i 0),(.r (q50 232 [(.i 0)])),(.b false),(.i 0),(.r (q50 232 [(.i 0)]))])
 .br (okR r0) (let r1:TR:=(qu [(.b (gB r0 6)),(.i (gI r0 7)),(.r (gR r0 8))])
 .br (okR r1) (.leaf (0,[(.b (gB r0 0)),(.i (gI r0 1)),(.r (gR r0 2)),(.b (gB r0 3)),(.i (gI r0 4)),(.r (gR r0 5)),(.b (gB r1 0)),(.i (gI r1 1)),(.r (gR r1 2)),(.b (gB r0 9)),(.i (gI r0 10)),(.r (gR r0 11))])) .fail) .fail):=by kernel_rfl
theorem ql5(y0:Int)(y1:Int):q0x [.i y0,.i y1]=(.br (ine y1 0) (.br (ine y1 0) (.leaf (0,[(.i y1),(.i (qpq y0 y1))])) .fail) (.leaf (1,[(.i y0)]))):=by kernel_rfl
theorem qn3(y0:Bool)(y1:Int)(y2:R)(y3:Bool)(y4:Int)(y5:R):q4f [.b y0,.i y1,.r y2,.b y3,.i y4,.r y5]=(.br (ilt 0 y4) (.br (ile y1 1) (.br (ile y4 1) (let r0:TR:=(ql q0x [(.i (cI y2 0 0)),(.i (cI y5 0 0))])
 .br (okR r0) (let r1:TR:=(zb [(.i (gI r0 0))])
 .br (okR r1) (.leaf (2,[(.s (gS r1 0)),(.i 0)])) .fail) .fail) (let r0:TR:=(zZ [(.b y0),(.i y1),(.r y2),(.b y3),(.i y4),(.r y5)])
 .br (okR r0) (.leaf (0,[(.b (gB r0 3)),(.i (gI r0 4)),(.r (gR r0 5)),(.b (gB r0 9)),(.i (gI r0 10)),(.r (gR r0 11))])) .fail)) (let r0:TR:=(zZ [(.b y0),(.i y1),(.r y2),(.b y3),(.i y4),(.r y5)])
 .br (okR r0) (.leaf (0,[(.b (gB r0 3)),(.i (gI r0 4)),(.r (gR r0 5)),(.b (gB r0 9)),(.i (gI r0 10)),(.r (gR r0 11))])) .fail)) (.leaf (1,[(.b y0),(.i y1),(.r y2)]))):=by kernel_rfl
theorem qpG(x0:List UInt8)(x1:List UInt8):q1x [.s x0,.s x1]=(let r0:TR:=(zx [(.r [[(.s x0)],[(.s x1)]])])
 .br (okR r0) (.br (ine (gI r0 0) 0) (.leaf (0,[(.s []),(.i (gI r0 0))])) (let r1:TR:=(zf [(.s x0)])
 .br (okR r1) (let r2:TR:=(zf [(.s x1)])
 .br (okR r2) (let r3:TR:=(ql q4f [(.b (gB r1 0)),(.i (gI r1 1)),(.r (gR r1 2)),(.b (gB r2 0)),(.i (gI r2 1)),(.r (gR r2 2))])
 .br (okR r3) (.br (jIs r3 0) (let r4:TR:=(qA [(.b false),(.i (gI r3 1)),(.r (gR r3 2))])
 .br (okR r4) (.leaf (0,[(.s (gS r4 0)),(.i 0)])) .fail) (.leaf (0,[(.s (gS r3 0)),(.i (gI r3 1))]))) .fail) .fail) .fail)) .fail):=by kernel_rfl
theorem qmA(x0:List UInt8):qC [.s x0]=(let r0:TR:=(qG [(.s x0)])
 .br (okR r0) (let r1:TR:=(qD [(.s (gS r0 0))])
 .br (okR r1) (let r2:TR:=(qD [(.s (gS r0 1))])
 .br (okR r2) (.br (ieq (gI r1 0) 3) (.leaf (0,[(.i 3)])) (.br (ieq (gI r2 0) 3) (.leaf (0,[(.i 3)])) (.br (ine (gI r1 0) 0) (.leaf (0,[(.i (qii (gI r1 0) (gI r2 0)))])) (.br (ine (gI r2 0) 0) (.leaf (0,[(.i (qii (gI r1 0) (gI r2 0)))])) (.br (not (gB r0 2)) (.leaf (0,[(.i 0)])) (let r3:TR:=(q1A [(.s (gS r0 1)),(.s [49])])
 .br (okR r3) (let r4:TR:=(q1x [(.s (gS r0 0)),(.s (gS r0 1))])
 .br (okR r4) (.br (ine (gI r3 1) 0) (.leaf (0,[(.i 3)])) (.br (ine (gI r4 1) 0) (.leaf (0,[(.i 3)])) (.br (ile (gI r3 0) 0) (.leaf (0,[(.i 3)])) (.br (not (seq (gS r4 0) [49])) (.leaf (0,[(.i 3)])) (.leaf (0,[(.i 0)])))))) .fail) .fail)))))) .fail) .fail) .fail):=by kernel_rfl
theorem q3m(y0:Int)(y1:Int)(y2:List UInt8)(y3:List UInt8)(y4:List UInt8)(y5:R):q1m [.i y0,.i y1,.s y2,.s y3,.s y4,.r y5]=(.br (ilt y1 y0) (.br (inb y1 (qh y5)) (let r0:TR:=(qC [(.s (cS y5 y1 0))])
 .br (okR r0) (.br (ine (gI r0 0) 0) (.leaf (2,[(.i (gI r0 0))])) (.leaf (0,[(.i y0),(.i (qt .i64 y1 1)),(.s y2),(.s y3),(.s y4),(.r y5)]))) .fail) .fail) (.leaf (1,[(.s y2),(.s y3),(.s y4)]))):=by kernel_rfl
theorem qmZ(x0:List UInt8)(x1:List UInt8)(x2:List UInt8):jN [.s x0,.s x1,.s x2]=(let r0:TR:=(ql q1m [(.i (qh [[(.s x0)],[(.s x1)],[(.s x2)]])),(.i 0),(.s x0),(.s x1),(.s x2),(.r [[(.s x0)],[(.s x1)],[(.s x2)]])])
 .br (okR r0) (.br (jIs r0 0) (.br (inb 0 (zJ (gS r0 2))) (.br (ieq (sat (gS r0 2) 0) 45) (.leaf (0,[(.i 2)])) (.leaf (0,[(.i 0)]))) .fail) (.leaf (0,[(.i (gI r0 0))]))) .fail):=by kernel_rfl
theorem qdY(y0:R)(y1:R)(y2:Int)(y3:Int):q34 [.r y0,.r y1,.i y2,.i y3]=(.br (ilt y3 y2) (.br (inb y3 (qh y1)) (let r0:TR:=(jN [(.s (cS y1 y3 0)),(.s (cS y1 y3 1)),(.s (cS y1 y3 2))])
 .br (okR r0) (.br (ine (gI r0 0) 0) (.leaf (2,[(.i (gI r0 0))])) (.leaf (0,[(.r y0),(.r y1),(.i y2),(.i (qt .i64 y3 1))]))) .fail) .fail) (.leaf (1,[(.r y0)]))):=by kernel_rfl
theorem qoX(x0:R):zh [.r x0]=(.br (ilt 64 (qh x0)) (.leaf (0,[(.i 5)])) (let r0:TR:=(ql q34 [(.r x0),(.r x0),(.i (qh x0)),(.i 0)])
 .br (okR r0) (.br (jIs r0 0) (.br (ieq (qh (gR r0 0)) 0) (.leaf (0,[(.i 13)])) (.leaf (0,[(.i 0)]))) (.leaf (0,[(.i (gI r0 0))]))) .fail)):=by kernel_rfl
theorem qmI(x0:List UInt8)(x1:List UInt8):jP [.s x0,.s x1]=(.br (ilt 9 (zJ x0)) (.leaf (0,[(.i 0),(.i 0),(.b false)])) (.br (ilt 9 (zJ x1)) (.leaf (0,[(.i 0),(.i 0),(.b false)])) (.br (okR (wT [(.s x0)])) (.br (okR (wT [(.s x1)])) (.leaf (0,[(.i (gI (wT [(.s x0)]) 0)),(.i (gI (wT [(.s x1)]) 0)),(.b true)])) .fail) .fail))):=by kernel_rfl
theorem qmj(x0:Int):uv [.i x0]=(.br (okR (zb [(.i x0)])) (.leaf (0,[(.s (gS (zb [(.i x0)]) 0)),(.i 0)])) .fail):=by kernel_rfl
theorem qdE(y0:Int)(y1:Int)(y2:Bool)(y3:Int)(y4:R)(y5:Bool)(y6:Int)(y7:R)(y8:Bool)(y9:Int)(y10:R):jy [.i y0,.i y1,.b y2,.i y3,.r y4,.b y5,.i y6,.r y7,.b y8,.i y9,.r y10]=(.br (ilt y1 y0) (.br (inb y1 232) (.br (inb y1 232) (let r0:TR:=(qz [(.i (cI y7 y1 0)),(.i y1),(.b y8),(.i y9),(.r y10),(.b y2),(.i y3),(.r y4)])
 .br (okR r0) (.leaf (0,[(.i y0),(.i (qt .i64 y1 1)),(.b (gB r0 3)),(.i (gI r0 4)),(.r (gR r0 5)),(.b y5),(.i y6),(.r y7),(.b (gB r0 0)),(.i (gI r0 1)),(.r (gR r0 2))])) .fail) .fail) .fail) (.leaf (1,[(.b y2),(.i y3),(.r y4),(.b y5),(.i y6),(.r y7),(.b y8),(.i y9),(.r y10)]))):=by kernel_rfl
theorem qga(x0:Bool)(x1:Int)(x2:R)(x3:Bool)(x4:Int)(x5:R):u6 [.b x0,.i x1,.r x2,.b x3,.i x4,.r x5]=(let r0:TR:=(ql jy [(.i x4),(.i 0),(.b x0),(.i x1),(.r x2),(.b x3),(.i x4),(.r x5),(.b (not (beq x0 x3))),(.i 0),(.r (q50 232 [(.i 0)]))])
 .br (okR r0) (.leaf (0,[(.b (gB r0 0)),(.i (gI r0 1)),(.r (gR r0 2)),(.b (gB r0 3)),(.i (gI r0 4)),(.r (gR r0 5)),(.b (gB r0 6)),(.i (gI r0 7)),(.r (gR r0 8))])) .fail):=by kernel_rfl
theorem qe6(x0:Bool)(x1:Int)(x2:R):zw [.b x0,.i x1,.r x2]=(let r0:TR:=(qA [(.b x0),(.i x1),(.r x2)])
 .br (okR r0) (let r1:TR:=(qD [(.s (gS r0 0))])
 .br (okR r1) (.br (ine (gI r1 0) 0) (.leaf (0,[(.s []),(.i (gI r1 0)),(.b (gB r0 1)),(.i (gI r0 2)),(.r (gR r0 3))])) (.leaf (0,[(.s (gS r0 0)),(.i 0),(.b (gB r0 1)),(.i (gI r0 2)),(.r (gR r0 3))]))) .fail) .fail):=by kernel_rfl
theorem qqs(x0:List UInt8)(x1:List UInt8):q3M [.s x0,.s x1]=(let r0:TR:=(zx [(.r [[(.s x0)],[(.s x1)]])])
 .br (okR r0) (.br (ine (gI r0 0) 0) (.leaf (0,[(.s []),(.i (gI r0 0))])) (let r1:TR:=(jP [(.s x0),(.s x1)])
 .br (okR r1) (.br (gB r1 2) (let r2:TR:=(uv [(.i (kN .i64 (gI r1 0) (gI r1 1)))])
 .br (okR r2) (.leaf (0,[(.s (gS r2 0)),(.i (gI r2 1))])) .fail) (let r2:TR:=(zf [(.s x0)])
 .br (okR r2) (let r3:TR:=(zf [(.s x1)])
 .br (okR r3) (let r4:TR:=(u6 [(.b (gB r2 0)),(.i (gI r2 1)),(.r (gR r2 2)),(.b (gB r3 0)),(.i (gI r3 1)),(.r (gR r3 2))])
 .br (okR r4) (let r5:TR:=(zw [(.b (gB r4 6)),(.i (gI r4 7)),(.r (gR r4 8))])
 .br (okR r5) (.leaf (0,[(.s (gS r5 0)),(.i (gI r5 1))])) .fail) .fail) .fail) .fail)) .fail)) .fail):=by kernel_rfl
theorem q8W(x0:List UInt8)(x1:List UInt8)(x2:Int):zv [.s x0,.s x1,.i x2]=(.br (ine x2 0) (.leaf (0,[(.s [48]),(.i x2)])) (let r0:TR:=(q3M [(.s x0),(.s x1)])
 .br (okR r0) (.br (ine (gI r0 1) 0) (.leaf (0,[(.s [48]),(.i (gI r0 1))])) (.leaf (0,[(.s (gS r0 0)),(.i (gI r0 1))]))) .fail)):=by kernel_rfl
theorem q89(y0:List UInt8)(y1:R)(y2:Int)(y3:Int)(y4:Int):jg [.s y0,.r y1,.i y2,.i y3,.i y4]=(.br (ilt y3 y2) (.br (inb y3 (qh y1)) (let r0:TR:=(zv [(.s y0),(.s (cS y1 y3 0)),(.i y4)])
 .br (okR r0) (.leaf (0,[(.s (gS r0 0)),(.r y1),(.i y2),(.i (qt .i64 y3 1)),(.i (gI r0 1))])) .fail) .fail) (.leaf (1,[(.s y0),(.i y4)]))):=by kernel_rfl
theorem qir(x0:R)(x1:Int):qg [.r x0,.i x1]=(let r0:TR:=(ql jg [(.s [49]),(.r x0),(.i (qh x0)),(.i 0),(.i x1)])
 .br (okR r0) (.leaf (0,[(.s (gS r0 0)),(.i (gI r0 1))])) .fail):=by kernel_rfl
theorem qhv(x0:Bool)(x1:Int)(x2:R)(x3:Bool)(x4:Int)(x5:R):zL [.b x0,.i x1,.r x2,.b x3,.i x4,.r x5]=(.br (beq x0 x3) (let r0:TR:=(qz [(.i 1),(.i 0),(.b x0),(.i x1),(.r x2),(.b x3),(.i x4),(.r x5)])
 .br (okR r0) (.leaf (0,[(.b (gB r0 0)),(.i (gI r0 1)),(.r (gR r0 2)),(.b (gB r0 3)),(.i (gI r0 4)),(.r (gR r0 5))])) .fail) (let r0:TR:=(zk [(.b x0),(.i x1),(.r x2),(.b x3),(.i x4),(.r x5)])
 .br (okR r0) (.br (ile 0 (gI r0 0)) (let r1:TR:=(qz [(.i (-1)),(.i 0),(.b (gB r0 1)),(.i (gI r0 2)),(.r (gR r0 3)),(.b (gB r0 4)),(.i (gI r0 5)),(.r (gR r0 6))])
 .br (okR r1) (.leaf (0,[(.b (gB r1 0)),(.i (gI r1 1)),(.r (gR r1 2)),(.b (gB r1 3)),(.i (gI r1 4)),(.r (gR r1 5))])) .fail) (let r1:TR:=(qz [(.i (-1)),(.i 0),(.b (gB r0 4)),(.i (gI r0 5)),(.r (gR r0 6)),(.b (gB r0 1)),(.i (gI r0 2)),(.r (gR r0 3))])
 .br (okR r1) (.leaf (0,[(.b (gB r1 0)),(.i (gI r1 1)),(.r (gR r1 2)),(.b (gB r0 4)),(.i (gI r0 5)),(.r (gR r0 6))])) .fail)) .fail)):=by kernel_rfl
theorem qac(y0:R)(y1:Int)(y2:Int)(y3:Bool)(y4:Int)(y5:R):q4q [.r y0,.i y1,.i y2,.b y3,.i y4,.r y5]=(.br (ilt y2 y1) (.br (inb y2 (qh y0)) (let r0:TR:=(zf [(.s (cS y0 y2 0))])
 .br (okR r0) (let r1:TR:=(zL [(.b y3),(.i y4),(.r y5),(.b (gB r0 0)),(.i (gI r0 1)),(.r (gR r0 2))])
 .br (okR r1) (.leaf (0,[(.r y0),(.i y1),(.i (qt .i64 y2 1)),(.b (gB r1 0)),(.i (gI r1 1)),(.r (gR r1 2))])) .fail) .fail) .fail) (.leaf (1,[(.b y3),(.i y4),(.r y5)]))):=by kernel_rfl
theorem qqA(x0:R):q8g [.r x0]=(let r0:TR:=(ql q4q [(.r x0),(.i (qh x0)),(.i 0),(.b false),(.i 0),(.r (q50 232 [(.i 0)]))])
 .br (okR r0) (let r1:TR:=(zw [(.b (gB r0 0)),(.i (gI r0 1)),(.r (gR r0 2))])
 .br (okR r1) (.leaf (0,[(.s (gS r1 0)),(.i (gI r1 1))])) .fail) .fail):=by kernel_rfl
theorem qpu(x0:List UInt8)(x1:List UInt8):q1s [.s x0,.s x1]=(let r0:TR:=(zx [(.r [[(.s x0)],[(.s x1)]])])
 .br (okR r0) (.br (ine (gI r0 0) 0) (.leaf (0,[(.s []),(.i (gI r0 0))])) (let r1:TR:=(jP [(.s x0),(.s x1)])
 .br (okR r1) (.br (gB r1 2) (let r2:TR:=(uv [(.i (qt .i64 (gI r1 0) (gI r1 1)))])
 .br (okR r2) (.leaf (0,[(.s (gS r2 0)),(.i (gI r2 1))])) .fail) (let r2:TR:=(q8g [(.r [[(.s x0)],[(.s x1)]])])
 .br (okR r2) (.leaf (0,[(.s (gS r2 0)),(.i (gI r2 1))])) .fail)) .fail)) .fail):=by kernel_rfl
theorem qiU(x0:List UInt8):q0m [.s x0]=(let r0:TR:=(jV [(.s x0)])
 .br (okR r0) (.br (ieq (gI r0 0) 0) (.leaf (0,[(.s x0)])) (.br (ieq (gI r0 0) 1) (.br (ile ((zJ [45])+(zJ x0)) 140737488355328) (.leaf (0,[(.s (qpy [45] x0))])) .fail) (.br (q8Y (zJ x0) (zJ x0)) (.br (q8Y 1 (zJ x0)) (.leaf (0,[(.s (qij x0 1 (zJ x0)))])) .fail) .fail))) .fail):=by kernel_rfl
theorem qqt(x0:List UInt8)(x1:List UInt8):q56 [.s x0,.s x1]=(let r0:TR:=(zx [(.r [[(.s x0)],[(.s x1)]])])
 .br (okR r0) (.br (ine (gI r0 0) 0) (.leaf (0,[(.s []),(.i (gI r0 0))])) (let r1:TR:=(q0m [(.s x1)])
 .br (okR r1) (let r2:TR:=(q1s [(.s x0),(.s (gS r1 0))])
 .br (okR r2) (.leaf (0,[(.s (gS r2 0)),(.i (gI r2 1))])) .fail) .fail)) .fail):=by kernel_rfl
theorem q8Q(x0:List UInt8)(x1:List UInt8)(x2:Int):wk [.s x0,.s x1,.i x2]=(.br (ine x2 0) (.leaf (0,[(.s [48]),(.i x2)])) (let r0:TR:=(q56 [(.s x0),(.s x1)])
 .br (okR r0) (.br (ine (gI r0 1) 0) (.leaf (0,[(.s [48]),(.i (gI r0 1))])) (.leaf (0,[(.s (gS r0 0)),(.i (gI r0 1))]))) .fail)):=by kernel_rfl
theorem qil(x0:List UInt8)(x1:List UInt8)(x2:Int):z8 [.s x0,.s x1,.i x2]=(let r0:TR:=(wk [(.s x0),(.s x1),(.i x2)])
 .br (okR r0) (.leaf (0,[(.s (gS r0 0)),(.i (gI r0 1))])) .fail):=by kernel_rfl
theorem qmS(x0:List UInt8)(x1:List UInt8)(x2:List UInt8)(x3:List UInt8)(x4:Int):q1P [.s x0,.s x1,.s x2,.s x3,.i x4]=(let r0:TR:=(qg [(.r [[(.s x0)],[(.s x3)]]),(.i x4)])
 .br (okR r0) (let r1:TR:=(qg [(.r [[(.s x2)],[(.s x1)]]),(.i (gI r0 1))])
 .br (okR r1) (let r2:TR:=(z8 [(.s (gS r0 0)),(.s (gS r1 0)),(.i (gI r1 1))])
 .br (okR r2) (let r3:TR:=(qg [(.r [[(.s x1)],[(.s x3)]]),(.i (gI r2 1))])
 .br (okR r3) (.leaf (0,[(.s (gS r2 0)),(.s (gS r3 0)),(.i (gI r3 1))])) .fail) .fail) .fail) .fail):=by kernel_rfl
theorem qeX(x0:List UInt8)(x1:List UInt8):yq [.s x0,.s x1]=(let r0:TR:=(qx [(.s x0),(.s x1)])
 .br (okR r0) (.leaf (0,[(.b (gB r0 0))])) .fail):=by kernel_rfl
theorem qkm(x0:List UInt8)(x1:List UInt8):q0D [.s x0,.s x1]=(.br (seq x1 [49]) (.leaf (0,[(.s x0)])) (.br (ile ((zJ x0)+(zJ [47])) 140737488355328) (.br (ile ((zJ (qpy x0 [47]))+(zJ x1)) 140737488355328) (.leaf (0,[(.s (qpy (qpy x0 [47]) x1))])) .fail) .fail)):=by kernel_rfl
theorem qly(x0:List UInt8)(x1:List UInt8):q2X [.s x0,.s x1]=(let r0:TR:=(zx [(.r [[(.s x0)],[(.s x1)]])])
 .br (okR r0) (.br (ine (gI r0 0) 0) (.leaf (0,[(.s []),(.s []),(.i (gI r0 0))])) (.br (seq x1 [48]) (.leaf (0,[(.s []),(.s []),(.i 10)])) (let r1:TR:=(jP [(.s x0),(.s x1)])
 .br (okR r1) (.br (gB r1 2) (.br (ine (gI r1 1) 0) (.br (ine (gI r1 1) 0) (.br (ine (qpq (gI r1 0) (gI r1 1)) 0) (.br (not (beq (ilt (qpq (gI r1 0) (gI r1 1)) 0) (ilt (gI r1 1) 0))) (let r2:TR:=(zb [(.i (qP .i64 (yp .i64 (gI r1 0) (gI r1 1)) 1))])
 .br (okR r2) (let r3:TR:=(zb [(.i (qt .i64 (qpq (gI r1 0) (gI r1 1)) (gI r1 1)))])
 .br (okR r3) (.leaf (0,[(.s (gS r2 0)),(.s (gS r3 0)),(.i 0)])) .fail) .fail) (let r2:TR:=(zb [(.i (yp .i64 (gI r1 0) (gI r1 1)))])
 .br (okR r2) (let r3:TR:=(zb [(.i (qpq (gI r1 0) (gI r1 1)))])
 .br (okR r3) (.leaf (0,[(.s (gS r2 0)),(.s (gS r3 0)),(.i 0)])) .fail) .fail)) (let r2:TR:=(zb [(.i (yp .i64 (gI r1 0) (gI r1 1)))])
 .br (okR r2) (let r3:TR:=(zb [(.i (qpq (gI r1 0) (gI r1 1)))])
 .br (okR r3) (.leaf (0,[(.s (gS r2 0)),(.s (gS r3 0)),(.i 0)])) .fail) .fail)) .fail) .fail) (let r2:TR:=(zf [(.s x0)])
 .br (okR r2) (let r3:TR:=(zf [(.s x1)])
 .br (okR r3) (let r4:TR:=(zZ [(.b (gB r2 0)),(.i (gI r2 1)),(.r (gR r2 2)),(.b (gB r3 0)),(.i (gI r3 1)),(.r (gR r3 2))])
 .br (okR r4) (.br (ilt 0 (gI r4 10)) (.br (not (beq (gB r4 0) (gB r4 3))) (let r5:TR:=(zL [(.b true),(.i (gI r4 7)),(.r (gR r4 8)),(.b true),(.i 1),(.r (qd5 (q50 232 [(.i 0)]) 0 0 [(.i 1)]))])
 .br (okR r5) (let r6:TR:=(zL [(.b (gB r4 0)),(.i (gI r4 10)),(.r (gR r4 11)),(.b (gB r4 3)),(.i (gI r4 4)),(.r (gR r4 5))])
 .br (okR r6) (let r7:TR:=(qA [(.b (gB r5 0)),(.i (gI r5 1)),(.r (gR r5 2))])
 .br (okR r7) (let r8:TR:=(qA [(.b (gB r6 0)),(.i (gI r6 1)),(.r (gR r6 2))])
 .br (okR r8) (.leaf (0,[(.s (gS r7 0)),(.s (gS r8 0)),(.i 0)])) .fail) .fail) .fail) .fail) (let r5:TR:=(qA [(.b (not (beq (gB r4 0) (gB r4 3)))),(.i (gI r4 7)),(.r (gR r4 8))])
 .br (okR r5) (let r6:TR:=(qA [(.b (gB r4 0)),(.i (gI r4 10)),(.r (gR r4 11))])
 .br (okR r6) (.leaf (0,[(.s (gS r5 0)),(.s (gS r6 0)),(.i 0)])) .fail) .fail)) (let r5:TR:=(qA [(.b (not (beq (gB r4 0) (gB r4 3)))),(.i (gI r4 7)),(.r (gR r4 8))])
 .br (okR r5) (let r6:TR:=(qA [(.b (gB r4 0)),(.i (gI r4 10)),(.r (gR r4 11))])
 .br (okR r6) (.leaf (0,[(.s (gS r5 0)),(.s (gS r6 0)),(.i 0)])) .fail) .fail)) .fail) .fail) .fail)) .fail))) .fail):=by kernel_rfl
theorem qpI(x0:List UInt8)(x1:List UInt8):q5d [.s x0,.s x1]=(let r0:TR:=(q2X [(.s x0),(.s x1)])
 .br (okR r0) (.br (ine (gI r0 2) 0) (.leaf (0,[(.s []),(.i (gI r0 2))])) (let r1:TR:=(qD [(.s (gS r0 0))])
 .br (okR r1) (.br (ine (gI r1 0) 0) (.leaf (0,[(.s []),(.i (gI r1 0))])) (.leaf (0,[(.s (gS r0 0)),(.i 0)]))) .fail)) .fail):=by kernel_rfl
theorem q90(x0:List UInt8)(x1:List UInt8)(x2:Int):wc [.s x0,.s x1,.i x2]=(.br (ine x2 0) (.leaf (0,[(.s [48]),(.i x2)])) (let r0:TR:=(q1x [(.s x0),(.s x1)])
 .br (okR r0) (.br (ine (gI r0 1) 0) (.leaf (0,[(.s [48]),(.i (gI r0 1))])) (.leaf (0,[(.s (gS r0 0)),(.i (gI r0 1))]))) .fail)):=by kernel_rfl
theorem q8X(x0:List UInt8)(x1:List UInt8)(x2:Int):qJ [.s x0,.s x1,.i x2]=(.br (ine x2 0) (.leaf (0,[(.s [48]),(.i x2)])) (let r0:TR:=(q5d [(.s x0),(.s x1)])
 .br (okR r0) (.br (ine (gI r0 1) 0) (.leaf (0,[(.s [48]),(.i (gI r0 1))])) (.leaf (0,[(.s (gS r0 0)),(.i (gI r0 1))]))) .fail)):=by kernel_rfl
theorem qf4(x0:List UInt8)(x1:List UInt8)(x2:Int):qw [.s x0,.s x1,.i x2]=(let r0:TR:=(wc [(.s x0),(.s x1),(.i x2)])
 .br (okR r0) (let r1:TR:=(yq [(.s x1),(.s [45])])
 .br (okR r1) (.br (gB r1 0) (let r2:TR:=(z8 [(.s [48]),(.s (gS r0 0)),(.i (gI r0 1))])
 .br (okR r2) (.br (ine (gI r2 1) 0) (.leaf (0,[(.s []),(.i (gI r2 1))])) (let r3:TR:=(qJ [(.s x0),(.s (gS r2 0)),(.i (gI r2 1))])
 .br (okR r3) (let r4:TR:=(qJ [(.s x1),(.s (gS r2 0)),(.i (gI r3 1))])
 .br (okR r4) (let r5:TR:=(q0D [(.s (gS r3 0)),(.s (gS r4 0))])
 .br (okR r5) (.leaf (0,[(.s (gS r5 0)),(.i (gI r4 1))])) .fail) .fail) .fail)) .fail) (.br (ine (gI r0 1) 0) (.leaf (0,[(.s []),(.i (gI r0 1))])) (let r2:TR:=(qJ [(.s x0),(.s (gS r0 0)),(.i (gI r0 1))])
 .br (okR r2) (let r3:TR:=(qJ [(.s x1),(.s (gS r0 0)),(.i (gI r2 1))])
 .br (okR r3) (let r4:TR:=(q0D [(.s (gS r2 0)),(.s (gS r3 0))])
 .br (okR r4) (.leaf (0,[(.s (gS r4 0)),(.i (gI r3 1))])) .fail) .fail) .fail))) .fail) .fail):=by kernel_rfl
theorem qb9(y0:R)(y1:Int)(y2:Int):q0w [.r y0,.i y1,.i y2]=(.br (ilt y2 y1) (.br (inb y2 (qh y0)) (let r0:TR:=(qC [(.s (cS y0 y2 0))])
 .br (okR r0) (.br (ine (gI r0 0) 0) (.leaf (2,[(.i (gI r0 0))])) (.leaf (0,[(.r y0),(.i y1),(.i (qt .i64 y2 1))]))) .fail) .fail) (.leaf (1,[]))):=by kernel_rfl
theorem qkY(x0:R):qK [.r x0]=(let r0:TR:=(ql q0w [(.r x0),(.i (qh x0)),(.i 0)])
 .br (okR r0) (.br (jIs r0 0) (.leaf (0,[(.i 0)])) (.leaf (0,[(.i (gI r0 0))]))) .fail):=by kernel_rfl
theorem q9G(x0:List UInt8)(x1:List UInt8):wK [.s x0,.s x1]=(let r0:TR:=(qK [(.r [[(.s x0)],[(.s x1)]])])
 .br (okR r0) (.br (ine (gI r0 0) 0) (.leaf (0,[(.s []),(.i (gI r0 0))])) (let r1:TR:=(qG [(.s x0)])
 .br (okR r1) (let r2:TR:=(qG [(.s x1)])
 .br (okR r2) (let r3:TR:=(q1P [(.s (gS r1 0)),(.s (gS r1 1)),(.s (gS r2 0)),(.s (gS r2 1)),(.i 0)])
 .br (okR r3) (.br (ine (gI r3 2) 0) (.leaf (0,[(.s []),(.i (gI r3 2))])) (.br (seq (gS r3 1) [48]) (.leaf (0,[(.s []),(.i 10)])) (let r4:TR:=(qw [(.s (gS r3 0)),(.s (gS r3 1)),(.i (gI r3 2))])
 .br (okR r4) (.leaf (0,[(.s (gS r4 0)),(.i (gI r4 1))])) .fail))) .fail) .fail) .fail)) .fail):=by kernel_rfl
theorem qqa(x0:List UInt8)(x1:List UInt8):q5a [.s x0,.s x1]=(let r0:TR:=(wK [(.s x0),(.s x1)])
 .br (okR r0) (.leaf (0,[(.s (gS r0 0)),(.i (gI r0 1))])) .fail):=by kernel_rfl
theorem q8S(x0:List UInt8)(x1:List UInt8)(x2:Int):wt [.s x0,.s x1,.i x2]=(.br (ine x2 0) (.leaf (0,[(.s [48]),(.i x2)])) (let r0:TR:=(q5a [(.s x0),(.s x1)])
 .br (okR r0) (.br (ine (gI r0 1) 0) (.leaf (0,[(.s [48]),(.i (gI r0 1))])) (.leaf (0,[(.s (gS r0 0)),(.i (gI r0 1))]))) .fail)):=by kernel_rfl
theorem qio(x0:List UInt8)(x1:List UInt8)(x2:Int):qF [.s x0,.s x1,.i x2]=(let r0:TR:=(wt [(.s x0),(.s x1),(.i x2)])
 .br (okR r0) (.leaf (0,[(.s (gS r0 0)),(.i (gI r0 1))])) .fail):=by kernel_rfl
theorem q8T(x0:List UInt8)(x1:List UInt8)(x2:Int):wv [.s x0,.s x1,.i x2]=(.br (ine x2 0) (.leaf (0,[(.s [48]),(.i x2)])) (let r0:TR:=(q1s [(.s x0),(.s x1)])
 .br (okR r0) (.br (ine (gI r0 1) 0) (.leaf (0,[(.s [48]),(.i (gI r0 1))])) (.leaf (0,[(.s (gS r0 0)),(.i (gI r0 1))]))) .fail)):=by kernel_rfl
theorem qis(x0:List UInt8)(x1:List UInt8)(x2:Int):jq [.s x0,.s x1,.i x2]=(let r0:TR:=(wv [(.s x0),(.s x1),(.i x2)])
 .br (okR r0) (.leaf (0,[(.s (gS r0 0)),(.i (gI r0 1))])) .fail):=by kernel_rfl
theorem qmT(x0:List UInt8)(x1:List UInt8)(x2:List UInt8)(x3:List UInt8)(x4:Int):q22 [.s x0,.s x1,.s x2,.s x3,.i x4]=(let r0:TR:=(qg [(.r [[(.s x0)],[(.s x3)]]),(.i x4)])
 .br (okR r0) (let r1:TR:=(qg [(.r [[(.s x2)],[(.s x1)]]),(.i (gI r0 1))])
 .br (okR r1) (let r2:TR:=(jq [(.s (gS r0 0)),(.s (gS r1 0)),(.i (gI r1 1))])
 .br (okR r2) (let r3:TR:=(qg [(.r [[(.s x1)],[(.s x3)]]),(.i (gI r2 1))])
 .br (okR r3) (.leaf (0,[(.s (gS r2 0)),(.s (gS r3 0)),(.i (gI r3 1))])) .fail) .fail) .fail) .fail):=by kernel_rfl
theorem q9F(x0:List UInt8)(x1:List UInt8):wI [.s x0,.s x1]=(let r0:TR:=(qK [(.r [[(.s x0)],[(.s x1)]])])
 .br (okR r0) (.br (ine (gI r0 0) 0) (.leaf (0,[(.s []),(.i (gI r0 0))])) (let r1:TR:=(qG [(.s x0)])
 .br (okR r1) (let r2:TR:=(qG [(.s x1)])
 .br (okR r2) (let r3:TR:=(q22 [(.s (gS r1 0)),(.s (gS r1 1)),(.s (gS r2 0)),(.s (gS r2 1)),(.i 0)])
 .br (okR r3) (.br (ine (gI r3 2) 0) (.leaf (0,[(.s []),(.i (gI r3 2))])) (.br (seq (gS r3 1) [48]) (.leaf (0,[(.s []),(.i 10)])) (let r4:TR:=(qw [(.s (gS r3 0)),(.s (gS r3 1)),(.i (gI r3 2))])
 .br (okR r4) (.leaf (0,[(.s (gS r4 0)),(.i (gI r4 1))])) .fail))) .fail) .fail) .fail)) .fail):=by kernel_rfl
theorem qqz(x0:List UInt8)(x1:List UInt8):q5t [.s x0,.s x1]=(let r0:TR:=(wI [(.s x0),(.s x1)])
 .br (okR r0) (.leaf (0,[(.s (gS r0 0)),(.i (gI r0 1))])) .fail):=by kernel_rfl
theorem q8R(x0:List UInt8)(x1:List UInt8)(x2:Int):wd [.s x0,.s x1,.i x2]=(.br (ine x2 0) (.leaf (0,[(.s [48]),(.i x2)])) (let r0:TR:=(q5t [(.s x0),(.s x1)])
 .br (okR r0) (.br (ine (gI r0 1) 0) (.leaf (0,[(.s [48]),(.i (gI r0 1))])) (.leaf (0,[(.s (gS r0 0)),(.i (gI r0 1))]))) .fail)):=by kernel_rfl
theorem qj2(x0:List UInt8)(x1:List UInt8)(x2:Int):zq [.s x0,.s x1,.i x2]=(let r0:TR:=(wd [(.s x0),(.s x1),(.i x2)])
 .br (okR r0) (.leaf (0,[(.s (gS r0 0)),(.i (gI r0 1))])) .fail):=by kernel_rfl
theorem qmH(x0:List UInt8)(x1:List UInt8)(x2:List UInt8)(x3:List UInt8)(x4:Int):q24 [.s x0,.s x1,.s x2,.s x3,.i x4]=(let r0:TR:=(qg [(.r [[(.s x0)],[(.s x2)]]),(.i x4)])
 .br (okR r0) (let r1:TR:=(qg [(.r [[(.s x1)],[(.s x3)]]),(.i (gI r0 1))])
 .br (okR r1) (.leaf (0,[(.s (gS r0 0)),(.s (gS r1 0)),(.i (gI r1 1))])) .fail) .fail):=by kernel_rfl
theorem qak(x0:List UInt8)(x1:List UInt8):wE [.s x0,.s x1]=(let r0:TR:=(qK [(.r [[(.s x0)],[(.s x1)]])])
 .br (okR r0) (.br (ine (gI r0 0) 0) (.leaf (0,[(.s []),(.i (gI r0 0))])) (let r1:TR:=(qG [(.s x0)])
 .br (okR r1) (let r2:TR:=(qG [(.s x1)])
 .br (okR r2) (let r3:TR:=(q24 [(.s (gS r1 0)),(.s (gS r1 1)),(.s (gS r2 0)),(.s (gS r2 1)),(.i 0)])
 .br (okR r3) (.br (ine (gI r3 2) 0) (.leaf (0,[(.s []),(.i (gI r3 2))])) (.br (seq (gS r3 1) [48]) (.leaf (0,[(.s []),(.i 10)])) (let r4:TR:=(qw [(.s (gS r3 0)),(.s (gS r3 1)),(.i (gI r3 2))])
 .br (okR r4) (.leaf (0,[(.s (gS r4 0)),(.i (gI r4 1))])) .fail))) .fail) .fail) .fail)) .fail):=by kernel_rfl
theorem qpT(x0:List UInt8)(x1:List UInt8):q1l [.s x0,.s x1]=(let r0:TR:=(wE [(.s x0),(.s x1)])
 .br (okR r0) (.leaf (0,[(.s (gS r0 0)),(.i (gI r0 1))])) .fail):=by kernel_rfl
theorem q8V(x0:List UInt8)(x1:List UInt8)(x2:Int):we [.s x0,.s x1,.i x2]=(.br (ine x2 0) (.leaf (0,[(.s [48]),(.i x2)])) (let r0:TR:=(q1l [(.s x0),(.s x1)])
 .br (okR r0) (.br (ine (gI r0 1) 0) (.leaf (0,[(.s [48]),(.i (gI r0 1))])) (.leaf (0,[(.s (gS r0 0)),(.i (gI r0 1))]))) .fail)):=by kernel_rfl
theorem qja(x0:List UInt8)(x1:List UInt8)(x2:Int):qM [.s x0,.s x1,.i x2]=(let r0:TR:=(we [(.s x0),(.s x1),(.i x2)])
 .br (okR r0) (.leaf (0,[(.s (gS r0 0)),(.i (gI r0 1))])) .fail):=by kernel_rfl
theorem qhG(x0:List UInt8)(x1:List UInt8)(x2:List UInt8)(x3:List UInt8)(x4:Int):zO [.s x0,.s x1,.s x2,.s x3,.i x4]=(let r0:TR:=(qF [(.s x0),(.s x2),(.i x4)])
 .br (okR r0) (let r1:TR:=(qF [(.s x1),(.s x3),(.i (gI r0 1))])
 .br (okR r1) (.leaf (0,[(.s (gS r0 0)),(.s (gS r1 0)),(.i (gI r1 1))])) .fail) .fail):=by kernel_rfl
theorem qj1(x0:List UInt8)(x1:List UInt8)(x2:List UInt8)(x3:List UInt8)(x4:Int):zp [.s x0,.s x1,.s x2,.s x3,.i x4]=(let r0:TR:=(qM [(.s x0),(.s x2),(.i x4)])
 .br (okR r0) (let r1:TR:=(qM [(.s x1),(.s x3),(.i (gI r0 1))])
 .br (okR r1) (let r2:TR:=(zq [(.s (gS r0 0)),(.s (gS r1 0)),(.i (gI r1 1))])
 .br (okR r2) (.leaf (0,[(.s (gS r2 0)),(.i (gI r2 1))])) .fail) .fail) .fail):=by kernel_rfl
theorem qmv(x0:List UInt8)(x1:List UInt8)(x2:List UInt8)(x3:List UInt8)(x4:Int):q2a [.s x0,.s x1,.s x2,.s x3,.i x4]=(let r0:TR:=(qg [(.r [[(.s x0)],[(.s x3)]]),(.i x4)])
 .br (okR r0) (let r1:TR:=(qg [(.r [[(.s x1)],[(.s x2)]]),(.i (gI r0 1))])
 .br (okR r1) (.leaf (0,[(.s (gS r0 0)),(.s (gS r1 0)),(.i (gI r1 1))])) .fail) .fail):=by kernel_rfl
theorem qa4(x0:List UInt8)(x1:List UInt8):wH [.s x0,.s x1]=(let r0:TR:=(qK [(.r [[(.s x0)],[(.s x1)]])])
 .br (okR r0) (.br (ine (gI r0 0) 0) (.leaf (0,[(.s []),(.i (gI r0 0))])) (let r1:TR:=(qG [(.s x0)])
 .br (okR r1) (let r2:TR:=(qG [(.s x1)])
 .br (okR r2) (let r3:TR:=(q2a [(.s (gS r1 0)),(.s (gS r1 1)),(.s (gS r2 0)),(.s (gS r2 1)),(.i 0)])
 .br (okR r3) (.br (ine (gI r3 2) 0) (.leaf (0,[(.s []),(.i (gI r3 2))])) (.br (seq (gS r3 1) [48]) (.leaf (0,[(.s []),(.i 10)])) (let r4:TR:=(qw [(.s (gS r3 0)),(.s (gS r3 1)),(.i (gI r3 2))])
 .br (okR r4) (.leaf (0,[(.s (gS r4 0)),(.i (gI r4 1))])) .fail))) .fail) .fail) .fail)) .fail):=by kernel_rfl
theorem qpw(x0:List UInt8)(x1:List UInt8):q5b [.s x0,.s x1]=(let r0:TR:=(qK [(.r [[(.s x0)],[(.s x1)]])])
 .br (okR r0) (.br (ine (gI r0 0) 0) (.leaf (0,[(.s []),(.i (gI r0 0))])) (.br (seq x1 [48]) (.leaf (0,[(.s []),(.i 10)])) (let r1:TR:=(wH [(.s x0),(.s x1)])
 .br (okR r1) (.leaf (0,[(.s (gS r1 0)),(.i (gI r1 1))])) .fail))) .fail):=by kernel_rfl
theorem q8P(x0:List UInt8)(x1:List UInt8)(x2:Int):zu [.s x0,.s x1,.i x2]=(.br (ine x2 0) (.leaf (0,[(.s [48]),(.i x2)])) (let r0:TR:=(q5b [(.s x0),(.s x1)])
 .br (okR r0) (.br (ine (gI r0 1) 0) (.leaf (0,[(.s [48]),(.i (gI r0 1))])) (.leaf (0,[(.s (gS r0 0)),(.i (gI r0 1))]))) .fail)):=by kernel_rfl
theorem qgA(x0:R)(x1:Int)(x2:Int)(x3:Int)(x4:Int):wV [.r x0,.i x1,.i x2,.i x3,.i x4]=(.br (inb x1 (qh x0)) (.br (inb x2 (qh x0)) (.br (ieq x1 x2) (.leaf (0,[(.s (cS x0 x1 0)),(.s (cS x0 x1 1)),(.s [48]),(.s [48]),(.s [48]),(.b (ieq x3 0)),(.i x4)])) (let r0:TR:=(zO [(.s (cS x0 x2 0)),(.s (cS x0 x2 1)),(.s (cS x0 x1 0)),(.s (cS x0 x1 1)),(.i x4)])
 .br (okR r0) (let r1:TR:=(zp [(.s (gS r0 0)),(.s (gS r0 1)),(.s (gS r0 0)),(.s (gS r0 1)),(.i (gI r0 2))])
 .br (okR r1) (.br (seq (gS r1 0) [48]) (.leaf (0,[(.s []),(.s []),(.s []),(.s []),(.s []),(.b false),(.i (gI r1 1))])) (let r2:TR:=(zq [(.s (gS r1 0)),(.s (cS x0 x1 2)),(.i (gI r1 1))])
 .br (okR r2) (let r3:TR:=(qF [(.s (gS r2 0)),(.s (cS x0 x2 2)),(.i (gI r2 1))])
 .br (okR r3) (let r4:TR:=(qM [(.s [50]),(.s (gS r1 0)),(.i (gI r3 1))])
 .br (okR r4) (let r5:TR:=(zu [(.s (gS r3 0)),(.s (gS r4 0)),(.i (gI r4 1))])
 .br (okR r5) (let r6:TR:=(qM [(.s (gS r5 0)),(.s (gS r0 0)),(.i (gI r5 1))])
 .br (okR r6) (let r7:TR:=(zq [(.s (cS x0 x1 0)),(.s (gS r6 0)),(.i (gI r6 1))])
 .br (okR r7) (let r8:TR:=(qM [(.s (gS r5 0)),(.s (gS r0 1)),(.i (gI r7 1))])
 .br (okR r8) (let r9:TR:=(zq [(.s (cS x0 x1 1)),(.s (gS r8 0)),(.i (gI r8 1))])
 .br (okR r9) (let r10:TR:=(qF [(.s [48]),(.s (gS r0 1)),(.i (gI r9 1))])
 .br (okR r10) (let r11:TR:=(zu [(.s (cS x0 x1 2)),(.s (gS r1 0)),(.i (gI r10 1))])
 .br (okR r11) (let r12:TR:=(qM [(.s (gS r5 0)),(.s (gS r5 0)),(.i (gI r11 1))])
 .br (okR r12) (let r13:TR:=(qF [(.s (gS r11 0)),(.s (gS r12 0)),(.i (gI r12 1))])
 .br (okR r13) (.br (ilt x3 0) (let r14:TR:=(qF [(.s [48]),(.s (gS r0 0)),(.i (gI r13 1))])
 .br (okR r14) (.br (ieq (gI r14 1) 0) (.br (inb 0 (zJ (gS r13 0))) (.br (ine (sat (gS r13 0) 0) 45) (.leaf (0,[(.s (gS r7 0)),(.s (gS r9 0)),(.s (gS r0 1)),(.s (gS r14 0)),(.s (gS r13 0)),(.b (beq (seq (gS r13 0) [48]) (ieq x3 0))),(.i (gI r14 1))])) (.leaf (0,[(.s (gS r7 0)),(.s (gS r9 0)),(.s (gS r0 1)),(.s (gS r14 0)),(.s (gS r13 0)),(.b false),(.i (gI r14 1))]))) .fail) (.leaf (0,[(.s (gS r7 0)),(.s (gS r9 0)),(.s (gS r0 1)),(.s (gS r14 0)),(.s (gS r13 0)),(.b false),(.i (gI r14 1))]))) .fail) (.br (ieq (gI r13 1) 0) (.br (inb 0 (zJ (gS r13 0))) (.br (ine (sat (gS r13 0) 0) 45) (.leaf (0,[(.s (gS r7 0)),(.s (gS r9 0)),(.s (gS r10 0)),(.s (gS r0 0)),(.s (gS r13 0)),(.b (beq (seq (gS r13 0) [48]) (ieq x3 0))),(.i (gI r13 1))])) (.leaf (0,[(.s (gS r7 0)),(.s (gS r9 0)),(.s (gS r10 0)),(.s (gS r0 0)),(.s (gS r13 0)),(.b false),(.i (gI r13 1))]))) .fail) (.leaf (0,[(.s (gS r7 0)),(.s (gS r9 0)),(.s (gS r10 0)),(.s (gS r0 0)),(.s (gS r13 0)),(.b false),(.i (gI r13 1))])))) .fail) .fail) .fail) .fail) .fail) .fail) .fail) .fail) .fail) .fail) .fail) .fail)) .fail) .fail)) .fail) .fail):=by kernel_rfl
theorem qo8(x0:List UInt8):q66 [.s x0]=(let r0:TR:=(qD [(.s x0)])
 .br (okR r0) (.br (ine (gI r0 0) 0) (.leaf (0,[(.i 0),(.i (gI r0 0))])) (let r1:TR:=(jV [(.s x0)])
 .br (okR r1) (.leaf (0,[(.i (gI r1 0)),(.i 0)])) .fail)) .fail):=by kernel_rfl
theorem qhd(x0:List UInt8)(x1:Int):zd [.s x0,.i x1]=(.br (ine x1 0) (.leaf (0,[(.i 0),(.i x1)])) (let r0:TR:=(q66 [(.s x0)])
 .br (okR r0) (.leaf (0,[(.i (gI r0 0)),(.i (gI r0 1))])) .fail)):=by kernel_rfl
theorem qi6(x0:List UInt8)(x1:List UInt8)(x2:List UInt8)(x3:Int):yg [.s x0,.s x1,.s x2,.i x3]=(let r0:TR:=(zd [(.s x0),(.i x3)])
 .br (okR r0) (let r1:TR:=(zd [(.s x1),(.i (gI r0 1))])
 .br (okR r1) (let r2:TR:=(zd [(.s x2),(.i (gI r1 1))])
 .br (okR r2) (.br (ile 0 (kN .i64 (gI r0 0) (kN .i64 (gI r1 0) (gI r2 0)))) (.br (ine (gI r0 0) 0) (.leaf (0,[(.i (gI r0 0)),(.i (gI r2 1))])) (.leaf (0,[(.i (kN .i64 (gI r1 0) (gI r2 0))),(.i (gI r2 1))]))) (let r3:TR:=(qg [(.r [[(.s x0)],[(.s x0)]]),(.i (gI r2 1))])
 .br (okR r3) (let r4:TR:=(qg [(.r [[(.s x1)],[(.s x1)],[(.s x2)]]),(.i (gI r3 1))])
 .br (okR r4) (let r5:TR:=(z8 [(.s (gS r3 0)),(.s (gS r4 0)),(.i (gI r4 1))])
 .br (okR r5) (let r6:TR:=(zd [(.s (gS r5 0)),(.i (gI r5 1))])
 .br (okR r6) (.leaf (0,[(.i (kN .i64 (gI r0 0) (gI r6 0))),(.i (gI r6 1))])) .fail) .fail) .fail) .fail)) .fail) .fail) .fail):=by kernel_rfl
theorem qh6(x0:List UInt8)(x1:List UInt8)(x2:List UInt8)(x3:List UInt8)(x4:List UInt8):kg [.s x0,.s x1,.s x2,.s x3,.s x4]=(let r0:TR:=(qK [(.r [[(.s x0)],[(.s x1)],[(.s x2)],[(.s x3)],[(.s x4)]])])
 .br (okR r0) (.br (ine (gI r0 0) 0) (.leaf (0,[(.i 0),(.i (gI r0 0))])) (.br (inb 0 (zJ x2)) (.br (ieq (sat x2 0) 45) (.leaf (0,[(.i 0),(.i 2)])) (.br (inb 0 (zJ x4)) (.br (ieq (sat x4 0) 45) (.leaf (0,[(.i 0),(.i 2)])) (let r1:TR:=(qG [(.s x0)])
 .br (okR r1) (let r2:TR:=(qG [(.s x1)])
 .br (okR r2) (let r3:TR:=(qG [(.s x2)])
 .br (okR r3) (let r4:TR:=(qG [(.s x3)])
 .br (okR r4) (let r5:TR:=(qG [(.s x4)])
 .br (okR r5) (let r6:TR:=(qg [(.r [[(.s (gS r1 0))],[(.s (gS r2 1))],[(.s (gS r3 1))],[(.s (gS r4 1))],[(.s (gS r5 1))]]),(.i 0)])
 .br (okR r6) (let r7:TR:=(qg [(.r [[(.s (gS r2 0))],[(.s (gS r1 1))],[(.s (gS r4 1))],[(.s (gS r5 1))]]),(.i (gI r6 1))])
 .br (okR r7) (let r8:TR:=(qg [(.r [[(.s (gS r3 0))],[(.s (gS r3 1))]]),(.i (gI r7 1))])
 .br (okR r8) (let r9:TR:=(qg [(.r [[(.s (gS r4 0))],[(.s (gS r1 1))],[(.s (gS r2 1))],[(.s (gS r3 1))]]),(.i (gI r8 1))])
 .br (okR r9) (let r10:TR:=(qg [(.r [[(.s (gS r5 0))],[(.s (gS r5 1))]]),(.i (gI r9 1))])
 .br (okR r10) (let r11:TR:=(yg [(.s (gS r6 0)),(.s (gS r7 0)),(.s (gS r8 0)),(.i (gI r10 1))])
 .br (okR r11) (let r12:TR:=(zd [(.s (gS r9 0)),(.i (gI r11 1))])
 .br (okR r12) (let r13:TR:=(zd [(.s (gS r10 0)),(.i (gI r12 1))])
 .br (okR r13) (.br (ile 0 (kN .i64 (gI r11 0) (kN .i64 (gI r12 0) (gI r13 0)))) (.br (ieq (gI r11 0) 0) (.leaf (0,[(.i (kN .i64 (gI r12 0) (gI r13 0))),(.i (gI r13 1))])) (.leaf (0,[(.i (gI r11 0)),(.i (gI r13 1))]))) (let r14:TR:=(qg [(.r [[(.s (gS r6 0))],[(.s (gS r6 0))]]),(.i (gI r13 1))])
 .br (okR r14) (let r15:TR:=(qg [(.r [[(.s (gS r7 0))],[(.s (gS r7 0))],[(.s (gS r8 0))]]),(.i (gI r14 1))])
 .br (okR r15) (let r16:TR:=(jq [(.s (gS r14 0)),(.s (gS r15 0)),(.i (gI r15 1))])
 .br (okR r16) (let r17:TR:=(qg [(.r [[(.s (gS r9 0))],[(.s (gS r9 0))],[(.s (gS r10 0))]]),(.i (gI r16 1))])
 .br (okR r17) (let r18:TR:=(z8 [(.s (gS r16 0)),(.s (gS r17 0)),(.i (gI r17 1))])
 .br (okR r18) (let r19:TR:=(qg [(.r [[(.s [50])],[(.s (gS r6 0))],[(.s (gS r7 0))]]),(.i (gI r18 1))])
 .br (okR r19) (let r20:TR:=(yg [(.s (gS r18 0)),(.s (gS r19 0)),(.s (gS r8 0)),(.i (gI r19 1))])
 .br (okR r20) (.br (ine (gI r20 1) 0) (.leaf (0,[(.i 0),(.i (gI r20 1))])) (.leaf (0,[(.i (kN .i64 (gI r11 0) (gI r20 0))),(.i 0)]))) .fail) .fail) .fail) .fail) .fail) .fail) .fail)) .fail) .fail) .fail) .fail) .fail) .fail) .fail) .fail) .fail) .fail) .fail) .fail) .fail)) .fail)) .fail)) .fail):=by kernel_rfl
theorem qj8(x0:List UInt8)(x1:List UInt8)(x2:List UInt8):q0s [.s x0,.s x1,.s x2]=(let r0:TR:=(kg [(.s x0),(.s x1),(.s x2),(.s [48]),(.s [48])])
 .br (okR r0) (.leaf (0,[(.i (gI r0 0)),(.i (gI r0 1))])) .fail):=by kernel_rfl
theorem qhj(x0:List UInt8)(x1:List UInt8)(x2:List UInt8)(x3:Int):vA [.s x0,.s x1,.s x2,.i x3]=(.br (ine x3 0) (.leaf (0,[(.i 0),(.i x3)])) (let r0:TR:=(q0s [(.s x0),(.s x1),(.s x2)])
 .br (okR r0) (.leaf (0,[(.i (gI r0 0)),(.i (gI r0 1))])) .fail)):=by kernel_rfl
theorem qgz(x0:List UInt8)(x1:List UInt8)(x2:List UInt8)(x3:List UInt8)(x4:List UInt8)(x5:List UInt8)(x6:List UInt8)(x7:List UInt8)(x8:Int):jd [.s x0,.s x1,.s x2,.s x3,.s x4,.s x5,.s x6,.s x7,.i x8]=(let r0:TR:=(zO [(.s x3),(.s x4),(.s x0),(.s x1),(.i x8)])
 .br (okR r0) (let r1:TR:=(zp [(.s (gS r0 0)),(.s (gS r0 1)),(.s (gS r0 0)),(.s (gS r0 1)),(.i (gI r0 2))])
 .br (okR r1) (let r2:TR:=(zp [(.s x5),(.s x6),(.s x5),(.s x6),(.i (gI r1 1))])
 .br (okR r2) (let r3:TR:=(qM [(.s x7),(.s (gS r2 0)),(.i (gI r2 1))])
 .br (okR r3) (let r4:TR:=(zq [(.s (gS r1 0)),(.s (gS r3 0)),(.i (gI r3 1))])
 .br (okR r4) (let r5:TR:=(qF [(.s (gS r4 0)),(.s x2),(.i (gI r4 1))])
 .br (okR r5) (let r6:TR:=(zp [(.s (gS r0 0)),(.s (gS r0 1)),(.s x5),(.s x6),(.i (gI r5 1))])
 .br (okR r6) (let r7:TR:=(qM [(.s [50]),(.s (gS r6 0)),(.i (gI r6 1))])
 .br (okR r7) (let r8:TR:=(vA [(.s (gS r5 0)),(.s (gS r7 0)),(.s x7),(.i (gI r7 1))])
 .br (okR r8) (.leaf (0,[(.b (ile (gI r8 0) 0)),(.i (gI r8 1))])) .fail) .fail) .fail) .fail) .fail) .fail) .fail) .fail) .fail):=by kernel_rfl
theorem yH(y0:R)(y1:Int)(y2:Int)(y3:R)(y4:R)(y5:R)(y6:Int)(y7:Int)(y8:Int)(y9:Bool)(y10:List UInt8)(y11:List UInt8)(y12:List UInt8)(y13:List UInt8)(y14:List UInt8)(y15:Bool)(y16:R)(y17:Int)(y18:Int)(y19:Int)(y20:List UInt8)(y21:List UInt8)(y22:List UInt8)(y23:List UInt8)(y24:List UInt8)(y25:Bool)(y26:List UInt8)(y27:List UInt8)(y28:List UInt8)(y29:List UInt8)(y30:List UInt8)(y31:Bool)(y32:Bool)(y33:R)(y34:Int)(y35:Int)(y36:Int)(y37:Int)(y38:List UInt8)(y39:List UInt8)(y40:List UInt8)(y41:List UInt8)(y42:List UInt8):wu [.r y0,.i y1,.i y2,.r y3,.r y4,.r y5,.i y6,.i y7,.i y8,.b y9,.s y10,.s y11,.s y12,.s y13,.s y14,.b y15,.r y16,.i y17,.i y18,.i y19,.s y20,.s y21,.s y22,.s y23,.s y24,.b y25,.s y26,.s y27,.s y28,.s y29,.s y30,.b y31,.b y32,.r y33,.i y34,.i y35,.i y36,.i y37,.s y38,.s y39,.s y40,.s y41,.s y42]=(.br (ilt y2 y1) (.br (inb y2 (qh y0)) (let r0:TR:=(jd [(.s (cS y0 y2 0)),(.s (cS y0 y2 1)),(.s (cS y0 y2 2)),(.s y38),(.s y39),(.s y40),(.s y41),(.s y42),(.i y34)])
 .br (okR r0) (.br (not (gB r0 0)) (.leaf (2,[(.i y2),(.r y3),(.r y4),(.r y5),(.i y6),(.i y7),(.i y8),(.b y9),(.s y10),(.s y11),(.s y12),(.s y13),(.s y14),(.b y15),(.r y16),(.i y17),(.i y18),(.i y19),(.s y20),(.s y21),(.s y22),(.s y23),(.s y24),(.b y25),(.s y26),(.s y27),(.s y28),(.s y29),(.s y30),(.b y31),(.b y32),(.r y33),(.i (gI r0 1)),(.i y35),(.i y36),(.i y37),(.s y38),(.s y39),(.s y40),(.s y41),(.s y42)])) (.leaf (0,[(.r y0),(.i y1),(.i (qt .i64 y2 1)),(.r y3),(.r y4),(.r y5),(.i y6),(.i y7),(.i y8),(.b y9),(.s y10),(.s y11),(.s y12),(.s y13),(.s y14),(.b y15),(.r y16),(.i y17),(.i y18),(.i y19),(.s y20),(.s y21),(.s y22),(.s y23),(.s y24),(.b y25),(.s y26),(.s y27),(.s y28),(.s y29),(.s y30),(.b y31),(.b y32),(.r y33),(.i (gI r0 1)),(.i y35),(.i y36),(.i y37),(.s y38),(.s y39),(.s y40),(.s y41),(.s y42)]))) .fail) .fail) (.leaf (1,[(.r y3),(.r y4),(.r y5),(.i y6),(.i y7),(.i y8),(.b y9),(.s y10),(.s y11),(.s y12),(.s y13),(.s y14),(.b y15),(.r y16),(.i y17),(.i y18),(.i y19),(.s y20),(.s y21),(.s y22),(.s y23),(.s y24),(.b y25),(.s y26),(.s y27),(.s y28),(.s y29),(.s y30),(.b y31),(.b y32),(.r y33),(.i y34),(.i y35),(.i y36),(.i y37),(.s y38),(.s y39),(.s y40),(.s y41),(.s y42)]))):=by kernel_rfl
theorem qf7(x0:R)(x1:Int)(x2:Int)(x3:Int)(x4:Int):qE [.r x0,.i x1,.i x2,.i x3,.i x4]=(let r0:TR:=(wV [(.r x0),(.i x1),(.i x2),(.i x3),(.i x4)])
 .br (okR r0) (.br (gB r0 5) (let r1:TR:=(ql wu [(.r x0),(.i (qh x0)),(.i 0),(.r x0),(.r x0),(.r x0),(.i x1),(.i x2),(.i x3),(.b (gB r0 5)),(.s (gS r0 0)),(.s (gS r0 1)),(.s (gS r0 2)),(.s (gS r0 3)),(.s (gS r0 4)),(.b (gB r0 5)),(.r x0),(.i x1),(.i x2),(.i x3),(.s (gS r0 0)),(.s (gS r0 1)),(.s (gS r0 2)),(.s (gS r0 3)),(.s (gS r0 4)),(.b (gB r0 5)),(.s (gS r0 0)),(.s (gS r0 1)),(.s (gS r0 2)),(.s (gS r0 3)),(.s (gS r0 4)),(.b (gB r0 5)),(.b (gB r0 5)),(.r x0),(.i (gI r0 6)),(.i x1),(.i x2),(.i x3),(.s (gS r0 0)),(.s (gS r0 1)),(.s (gS r0 2)),(.s (gS r0 3)),(.s (gS r0 4))])
 .br (okR r1) (.br (jIs r1 0) (.leaf (0,[(.b (ieq (gI r1 31) 0)),(.i (gI r1 31))])) (.br (not (ile 0 (gI r1 0))) (.leaf (0,[(.b (ieq (gI r1 32) 0)),(.i (gI r1 32))])) (.leaf (0,[(.b false),(.i (gI r1 32))])))) .fail) (.leaf (0,[(.b false),(.i (gI r0 6))]))) .fail):=by kernel_rfl
theorem q2T(y0:Int)(y1:Int)(y2:Int)(y3:R)(y4:Int)(y5:Int)(y6:Int)(y7:Bool)(y8:Int):wC [.i y0,.i y1,.i y2,.r y3,.i y4,.i y5,.i y6,.b y7,.i y8]=(.br (ilt y1 y0) (let r0:TR:=(qE [(.r y3),(.i y1),(.i y1),(.i 0),(.i y2)])
 .br (okR r0) (.br (gB r0 0) (.leaf (2,[(.i (gI r0 1)),(.r y3),(.i y1),(.i y1),(.i 0),(.b true),(.i y8)])) (.leaf (0,[(.i y0),(.i (qt .i64 y1 1)),(.i (gI r0 1)),(.r y3),(.i y4),(.i y5),(.i y6),(.b y7),(.i y8)]))) .fail) (.leaf (1,[(.i y2),(.r y3),(.i y4),(.i y5),(.i y6),(.b y7),(.i y8)]))):=by kernel_rfl
theorem q2g(y0:Int)(y1:Int)(y2:Int)(y3:Int)(y4:Int)(y5:Int)(y6:Int)(y7:R)(y8:Int)(y9:Int)(y10:Int)(y11:Bool)(y12:Int)(y13:R):wg [.i y0,.i y1,.i y2,.i y3,.i y4,.i y5,.i y6,.r y7,.i y8,.i y9,.i y10,.b y11,.i y12,.r y13]=(.br (ilt y5 y4) (.br (inb y5 (qh y13)) (let r0:TR:=(qE [(.r y7),(.i y0),(.i y1),(.i (cI y13 y5 0)),(.i y6)])
 .br (okR r0) (.br (gB r0 0) (.leaf (2,[(.i (gI r0 1)),(.r y7),(.i y0),(.i y1),(.i (cI y13 y5 0)),(.b true),(.i y12)])) (.leaf (0,[(.i y0),(.i y1),(.i y2),(.i y3),(.i y4),(.i (qt .i64 y5 1)),(.i (gI r0 1)),(.r y7),(.i y8),(.i y9),(.i y10),(.b y11),(.i y12),(.r y13)]))) .fail) .fail) (.leaf (1,[(.i y0),(.i y1),(.i y2),(.i y3),(.i y6),(.r y7),(.i y8),(.i y9),(.i y10),(.b y11),(.i y12)]))):=by kernel_rfl
theorem q2h(y0:Int)(y1:Int)(y2:Int)(y3:Int)(y4:Int)(y5:R)(y6:Int)(y7:Int)(y8:Int)(y9:Bool)(y10:Int):w9 [.i y0,.i y1,.i y2,.i y3,.i y4,.r y5,.i y6,.i y7,.i y8,.b y9,.i y10]=(.br (ilt y1 y10) (let r0:TR:=(ql wg [(.i y0),(.i y1),(.i y2),(.i y3),(.i (qh [[(.i 0)],[(.i 1)],[(.i (-1))]])),(.i 0),(.i y4),(.r y5),(.i y6),(.i y7),(.i y8),(.b y9),(.i y10),(.r [[(.i 0)],[(.i 1)],[(.i (-1))]])])
 .br (okR r0) (.br (jIs r0 0) (.leaf (0,[(.i (gI r0 0)),(.i (qt .i64 (gI r0 1) 1)),(.i (gI r0 2)),(.i (gI r0 3)),(.i (gI r0 4)),(.r (gR r0 5)),(.i (gI r0 6)),(.i (gI r0 7)),(.i (gI r0 8)),(.b (gB r0 9)),(.i (gI r0 10))])) (.leaf (2,[(.i (gI r0 0)),(.r (gR r0 1)),(.i (gI r0 2)),(.i (gI r0 3)),(.i (gI r0 4)),(.b (gB r0 5)),(.i (gI r0 6))]))) .fail) (.leaf (1,[(.i y2),(.i y3),(.i y4),(.r y5),(.i y6),(.i y7),(.i y8),(.b y9),(.i y10)]))):=by kernel_rfl
theorem q31(y0:Int)(y1:Int)(y2:Int)(y3:R)(y4:Int)(y5:Int)(y6:Int)(y7:Bool)(y8:Int):wF [.i y0,.i y1,.i y2,.r y3,.i y4,.i y5,.i y6,.b y7,.i y8]=(.br (ilt y1 y0) (let r0:TR:=(ql w9 [(.i y1),(.i (qt .i64 y1 1)),(.i y0),(.i y1),(.i y2),(.r y3),(.i y4),(.i y5),(.i y6),(.b y7),(.i y8)])
 .br (okR r0) (.br (jIs r0 0) (.leaf (0,[(.i (gI r0 0)),(.i (qt .i64 (gI r0 1) 1)),(.i (gI r0 2)),(.r (gR r0 3)),(.i (gI r0 4)),(.i (gI r0 5)),(.i (gI r0 6)),(.b (gB r0 7)),(.i (gI r0 8))])) (.leaf (2,[(.i (gI r0 0)),(.r (gR r0 1)),(.i (gI r0 2)),(.i (gI r0 3)),(.i (gI r0 4)),(.b (gB r0 5)),(.i (gI r0 6))]))) .fail) (.leaf (1,[(.i y2),(.r y3),(.i y4),(.i y5),(.i y6),(.b y7),(.i y8)]))):=by kernel_rfl
theorem qfI(x0:R)(x1:Int):qv [.r x0,.i x1]=(let r0:TR:=(ql wC [(.i (qh x0)),(.i 0),(.i x1),(.r x0),(.i 0),(.i 0),(.i 0),(.b false),(.i (qh x0))])
 .br (okR r0) (.br (jIs r0 0) (let r1:TR:=(ql wF [(.i (gI r0 6)),(.i 0),(.i (gI r0 0)),(.r (gR r0 1)),(.i (gI r0 2)),(.i (gI r0 3)),(.i (gI r0 4)),(.b (gB r0 5)),(.i (gI r0 6))])
 .br (okR r1) (.br (jIs r1 0) (.leaf (0,[(.i 0),(.i 0),(.i 0),(.b false),(.i (gI r1 0))])) (.leaf (0,[(.i (gI r1 2)),(.i (gI r1 3)),(.i (gI r1 4)),(.b (gB r1 5)),(.i (gI r1 0))]))) .fail) (.leaf (0,[(.i (gI r0 2)),(.i (gI r0 3)),(.i (gI r0 4)),(.b (gB r0 5)),(.i (gI r0 0))]))) .fail):=by kernel_rfl
theorem qkQ(x0:R):ye [.r x0]=(let r0:TR:=(zh [(.r x0)])
 .br (okR r0) (.br (ine (gI r0 0) 0) (.leaf (0,[(.b false),(.i 0),(.i 0),(.i 0),(.i (gI r0 0))])) (let r1:TR:=(qv [(.r x0),(.i 0)])
 .br (okR r1) (.br (ine (gI r1 4) 0) (.leaf (0,[(.b false),(.i 0),(.i 0),(.i 0),(.i (gI r1 4))])) (.leaf (0,[(.b (gB r1 3)),(.i (gI r1 0)),(.i (gI r1 1)),(.i (gI r1 2)),(.i 0)]))) .fail)) .fail):=by kernel_rfl
theorem qs6(x0:Int):yk [.i x0]=(.br (ile (-100000) x0) (.leaf (0,[(.b (ile x0 100000))])) (.leaf (0,[(.b false)]))):=by kernel_rfl
theorem qpe(x0:Int):vW [.i x0]=(.br (ile 1 x0) (.leaf (0,[(.b (ile x0 100000))])) (.leaf (0,[(.b false)]))):=by kernel_rfl
theorem qmG(x0:Int)(x1:Int)(x2:Int)(x3:Int)(x4:Int)(x5:Int)(x6:Bool):zM [.i x0,.i x1,.i x2,.i x3,.i x4,.i x5,.b x6]=(.br (okR (yk [(.i x0)])) (.br (not (gB (yk [(.i x0)]) 0)) (.leaf (0,[(.i 2)])) (.br (okR (yk [(.i x1)])) (.br (not (gB (yk [(.i x1)]) 0)) (.leaf (0,[(.i 2)])) (.br (okR (vW [(.i x2)])) (.br (not (gB (vW [(.i x2)]) 0)) (.leaf (0,[(.i 2)])) (.br (okR (vW [(.i x3)])) (.br (not (gB (vW [(.i x3)]) 0)) (.leaf (0,[(.i 2)])) (.br (ilt x3 x2) (.leaf (0,[(.i 9)])) (.br (ilt x4 0) (.leaf (0,[(.i 2)])) (.br (ilt 100000 x4) (.leaf (0,[(.i 2)])) (.br (not x6) (.br (ile x2 x4) (.leaf (0,[(.i 2)])) (.br (ilt x5 0) (.leaf (0,[(.i 1)])) (.br (ile 3 x5) (.leaf (0,[(.i 1)])) (.leaf (0,[(.i 0)]))))) (.br (ilt x5 0) (.leaf (0,[(.i 1)])) (.br (ile 3 x5) (.leaf (0,[(.i 1)])) (.leaf (0,[(.i 0)]))))))))) .fail)) .fail)) .fail)) .fail):=by kernel_rfl
theorem qon(x0:Int)(x1:Int)(x2:Int):kK [.i x0,.i x1,.i x2]=(.br (okR (yk [(.i x0)])) (.br (not (gB (yk [(.i x0)]) 0)) (.leaf (0,[(.i 2)])) (.br (okR (yk [(.i x1)])) (.br (not (gB (yk [(.i x1)]) 0)) (.leaf (0,[(.i 2)])) (.br (okR (vW [(.i x2)])) (.br (not (gB (vW [(.i x2)]) 0)) (.leaf (0,[(.i 2)])) (.leaf (0,[(.i 0)]))) .fail)) .fail)) .fail):=by kernel_rfl
theorem qda(y0:List UInt8)(y1:List UInt8)(y2:Int)(y3:Int)(y4:R):q0y [.s y0,.s y1,.i y2,.i y3,.r y4]=(.br (ilt y3 y2) (.br (inb y3 (qh y4)) (let r0:TR:=(qD [(.s (cS y4 y3 0))])
 .br (okR r0) (.br (ine (gI r0 0) 0) (.leaf (2,[(.s []),(.i (gI r0 0))])) (.leaf (0,[(.s y0),(.s y1),(.i y2),(.i (qt .i64 y3 1)),(.r y4)]))) .fail) .fail) (.leaf (1,[(.s y0),(.s y1)]))):=by kernel_rfl
theorem qnY(x0:List UInt8)(x1:List UInt8):q68 [.s x0,.s x1]=(let r0:TR:=(ql q0y [(.s x0),(.s x1),(.i (qh [[(.s x0)],[(.s x1)]])),(.i 0),(.r [[(.s x0)],[(.s x1)]])])
 .br (okR r0) (.br (jIs r0 0) (.br (seq (gS r0 1) [48]) (.leaf (0,[(.s []),(.i 10)])) (let r1:TR:=(qw [(.s (gS r0 0)),(.s (gS r0 1)),(.i 0)])
 .br (okR r1) (.br (ine (gI r1 1) 0) (.leaf (0,[(.s []),(.i (gI r1 1))])) (.leaf (0,[(.s (gS r1 0)),(.i 0)]))) .fail)) (.leaf (0,[(.s (gS r0 0)),(.i (gI r0 1))]))) .fail):=by kernel_rfl
theorem qsy(x0:Int)(x1:Int):q55 [.i x0,.i x1]=(let r0:TR:=(zb [(.i x0)])
 .br (okR r0) (let r1:TR:=(zb [(.i x1)])
 .br (okR r1) (let r2:TR:=(q68 [(.s (gS r0 0)),(.s (gS r1 0))])
 .br (okR r2) (.leaf (0,[(.s (gS r2 0)),(.i (gI r2 1))])) .fail) .fail) .fail):=by kernel_rfl
theorem qmE(x0:Int):yR [.i x0]=(.br (okR (zb [(.i x0)])) (.leaf (0,[(.s (gS (zb [(.i x0)]) 0))])) .fail):=by kernel_rfl
theorem qrd(x0:Int)(x1:Int)(x2:Int)(x3:Int)(x4:Int)(x5:Int)(x6:Bool):q7F [.i x0,.i x1,.i x2,.i x3,.i x4,.i x5,.b x6]=(.br x6 (.br (ieq x5 2) (.leaf (0,[(.i x0),(.i x1),(.i x2),(.i x3),(.i x4),(.i x5),(.b x6),(.i (cI [[(.i (-1)),(.i (-1)),(.i 1),(.i 1),(.i 1),(.i (-1))]] 0 5))])) (.br (ieq x5 1) (.leaf (0,[(.i x0),(.i x1),(.i x2),(.i x3),(.i x4),(.i x5),(.b x6),(.i (cI [[(.i (-1)),(.i (-1)),(.i 1),(.i 1),(.i 1),(.i (-1))]] 0 4))])) (.br (ieq x5 0) (.leaf (0,[(.i x0),(.i x1),(.i x2),(.i x3),(.i x4),(.i x5),(.b x6),(.i (cI [[(.i (-1)),(.i (-1)),(.i 1),(.i 1),(.i 1),(.i (-1))]] 0 3))])) .fail))) (.br (ieq x5 2) (.leaf (0,[(.i x0),(.i x1),(.i x2),(.i x3),(.i x4),(.i x5),(.b x6),(.i (cI [[(.i (-1)),(.i (-1)),(.i 1),(.i 1),(.i 1),(.i (-1))]] 0 2))])) (.br (ieq x5 1) (.leaf (0,[(.i x0),(.i x1),(.i x2),(.i x3),(.i x4),(.i x5),(.b x6),(.i (cI [[(.i (-1)),(.i (-1)),(.i 1),(.i 1),(.i 1),(.i (-1))]] 0 1))])) (.br (ieq x5 0) (.leaf (0,[(.i x0),(.i x1),(.i x2),(.i x3),(.i x4),(.i x5),(.b x6),(.i (cI [[(.i (-1)),(.i (-1)),(.i 1),(.i 1),(.i 1),(.i (-1))]] 0 0))])) .fail)))):=by kernel_rfl
theorem qcX(x0:Int)(x1:Int)(x2:Int)(x3:Int)(x4:Int)(x5:Int)(x6:Bool)(x7:Int)(x8:Int):wO [.i x0,.i x1,.i x2,.i x3,.i x4,.i x5,.b x6,.i x7,.i x8]=(.br (ilt x8 0) (.leaf (0,[(.i x2)])) (.leaf (0,[(.i x3)]))):=by kernel_rfl
theorem kL(y0:Int)(y1:Int)(y2:Int)(y3:Int)(y4:Int)(y5:Int)(y6:Int)(y7:R)(y8:Int)(y9:Int)(y10:Int)(y11:R)(y12:Int)(y13:R)(y14:R):qR [.i y0,.i y1,.i y2,.i y3,.i y4,.i y5,.i y6,.r y7,.i y8,.i y9,.i y10,.r y11,.i y12,.r y13,.r y14]=(.br (ilt y1 y0) (.br (inb y1 (qh y13)) (.br (inb (cI y13 y1 0) (qh y11)) (.br (ile ((qh y14)+(qh [[(.s (cS y11 (cI y13 y1 0) 0)),(.s (cS y11 (cI y13 y1 0) 1)),(.s (cS y11 (cI y13 y1 0) 2))]])) 2932031007402) (.leaf (0,[(.i y0),(.i (qt .i64 y1 1)),(.i y2),(.i y3),(.i y4),(.i y5),(.i y6),(.r y7),(.i y8),(.i y9),(.i y10),(.r y11),(.i y12),(.r y13),(.r (q7J y14 [[(.s (cS y11 (cI y13 y1 0) 0)),(.s (cS y11 (cI y13 y1 0) 1)),(.s (cS y11 (cI y13 y1 0) 2))]]))])) .fail) .fail) .fail) (.leaf (1,[(.i y2),(.i y3),(.i y4),(.i y5),(.i y6),(.r y7),(.i y8),(.i y9),(.i y10),(.r y11),(.i y12),(.r y13),(.r y14)]))):=by kernel_rfl
theorem q2U(y0:Int)(y1:Int)(y2:Int)(y3:Int)(y4:R)(y5:Int):wG [.i y0,.i y1,.i y2,.i y3,.r y4,.i y5]=(.br (ilt y1 (qh y4)) (let r0:TR:=(ql qR [(.i (qh [[(.i y0)],[(.i y1)]])),(.i 0),(.i y0),(.i y1),(.i y2),(.i y3),(.i y1),(.r y4),(.i (qh y4)),(.i y0),(.i y1),(.r y4),(.i y5),(.r [[(.i y0)],[(.i y1)]]),(.r [])])
 .br (okR r0) (let r1:TR:=(qv [(.r (gR r0 12)),(.i (gI r0 10))])
 .br (okR r1) (.br (not (gB r1 3)) (.br (ieq (gI r1 4) 0) (.leaf (2,[(.i 0),(.r [[(.i (gI r0 0))],[(.i (gI r0 1))]])])) (.leaf (0,[(.i (gI r0 0)),(.i (qt .i64 (gI r0 1) 1)),(.i (gI r0 2)),(.i (gI r0 3)),(.r (gR r0 9)),(.i (gI r1 4))]))) (.leaf (0,[(.i (gI r0 0)),(.i (qt .i64 (gI r0 1) 1)),(.i (gI r0 2)),(.i (gI r0 3)),(.r (gR r0 9)),(.i (gI r1 4))]))) .fail) .fail) (.leaf (1,[(.i y2),(.i y3),(.r y4),(.i y5)]))):=by kernel_rfl
theorem q3P(y0:Int)(y1:Int)(y2:R)(y3:Int):wU [.i y0,.i y1,.r y2,.i y3]=(.br (ilt y1 y0) (let r0:TR:=(ql wG [(.i y1),(.i (qt .i64 y1 1)),(.i y0),(.i y1),(.r y2),(.i y3)])
 .br (okR r0) (.br (jIs r0 0) (.leaf (0,[(.i (gI r0 0)),(.i (qt .i64 (gI r0 1) 1)),(.r (gR r0 2)),(.i (gI r0 3))])) (.leaf (2,[(.i (gI r0 0)),(.r (gR r0 1))]))) .fail) (.leaf (1,[(.r y2),(.i y3)]))):=by kernel_rfl
theorem kM(y0:Int)(y1:Int)(y2:Int)(y3:Int)(y4:Int)(y5:Int)(y6:Int)(y7:Int)(y8:R)(y9:Int)(y10:Int)(y11:Int)(y12:Int)(y13:R)(y14:Int)(y15:R)(y16:R):qQ [.i y0,.i y1,.i y2,.i y3,.i y4,.i y5,.i y6,.i y7,.r y8,.i y9,.i y10,.i y11,.i y12,.r y13,.i y14,.r y15,.r y16]=(.br (ilt y1 y0) (.br (inb y1 (qh y15)) (.br (inb (cI y15 y1 0) (qh y13)) (.br (ile ((qh y16)+(qh [[(.s (cS y13 (cI y15 y1 0) 0)),(.s (cS y13 (cI y15 y1 0) 1)),(.s (cS y13 (cI y15 y1 0) 2))]])) 2932031007402) (.leaf (0,[(.i y0),(.i (qt .i64 y1 1)),(.i y2),(.i y3),(.i y4),(.i y5),(.i y6),(.i y7),(.r y8),(.i y9),(.i y10),(.i y11),(.i y12),(.r y13),(.i y14),(.r y15),(.r (q7J y16 [[(.s (cS y13 (cI y15 y1 0) 0)),(.s (cS y13 (cI y15 y1 0) 1)),(.s (cS y13 (cI y15 y1 0) 2))]]))])) .fail) .fail) .fail) (.leaf (1,[(.i y2),(.i y3),(.i y4),(.i y5),(.i y6),(.i y7),(.r y8),(.i y9),(.i y10),(.i y11),(.i y12),(.r y13),(.i y14),(.r y15),(.r y16)]))):=by kernel_rfl
theorem q2K(y0:Int)(y1:Int)(y2:Int)(y3:Int)(y4:Int)(y5:R)(y6:Int):wN [.i y0,.i y1,.i y2,.i y3,.i y4,.r y5,.i y6]=(.br (ilt y2 (qh y5)) (let r0:TR:=(ql qQ [(.i (qh [[(.i y0)],[(.i y1)],[(.i y2)]])),(.i 0),(.i y0),(.i y1),(.i y2),(.i y3),(.i y4),(.i y2),(.r y5),(.i (qh y5)),(.i y0),(.i y1),(.i y2),(.r y5),(.i y6),(.r [[(.i y0)],[(.i y1)],[(.i y2)]]),(.r [])])
 .br (okR r0) (let r1:TR:=(qv [(.r (gR r0 14)),(.i (gI r0 12))])
 .br (okR r1) (.br (not (gB r1 3)) (.br (ieq (gI r1 4) 0) (.leaf (2,[(.i 0),(.r [[(.i (gI r0 0))],[(.i (gI r0 1))],[(.i (gI r0 2))]])])) (.leaf (0,[(.i (gI r0 0)),(.i (gI r0 1)),(.i (qt .i64 (gI r0 2) 1)),(.i (gI r0 3)),(.i (gI r0 4)),(.r (gR r0 11)),(.i (gI r1 4))]))) (.leaf (0,[(.i (gI r0 0)),(.i (gI r0 1)),(.i (qt .i64 (gI r0 2) 1)),(.i (gI r0 3)),(.i (gI r0 4)),(.r (gR r0 11)),(.i (gI r1 4))]))) .fail) .fail) (.leaf (1,[(.i y0),(.i y1),(.i y3),(.i y4),(.r y5),(.i y6)]))):=by kernel_rfl
theorem q2L(y0:Int)(y1:Int)(y2:Int)(y3:Int)(y4:R)(y5:Int):wD [.i y0,.i y1,.i y2,.i y3,.r y4,.i y5]=(.br (ilt y1 (qh y4)) (let r0:TR:=(ql wN [(.i y0),(.i y1),(.i (qt .i64 y1 1)),(.i y2),(.i y3),(.r y4),(.i y5)])
 .br (okR r0) (.br (jIs r0 0) (.leaf (0,[(.i (gI r0 0)),(.i (qt .i64 (gI r0 1) 1)),(.i (gI r0 2)),(.i (gI r0 3)),(.r (gR r0 4)),(.i (gI r0 5))])) (.leaf (2,[(.i (gI r0 0)),(.r (gR r0 1))]))) .fail) (.leaf (1,[(.i y2),(.i y3),(.r y4),(.i y5)]))):=by kernel_rfl
theorem q2Z(y0:Int)(y1:Int)(y2:R)(y3:Int):wP [.i y0,.i y1,.r y2,.i y3]=(.br (ilt y1 y0) (let r0:TR:=(ql wD [(.i y1),(.i (qt .i64 y1 1)),(.i y0),(.i y1),(.r y2),(.i y3)])
 .br (okR r0) (.br (jIs r0 0) (.leaf (0,[(.i (gI r0 0)),(.i (qt .i64 (gI r0 1) 1)),(.r (gR r0 2)),(.i (gI r0 3))])) (.leaf (2,[(.i (gI r0 0)),(.r (gR r0 1))]))) .fail) (.leaf (1,[(.i y3)]))):=by kernel_rfl
theorem qcZ(x0:R):vX [.r x0]=(let r0:TR:=(zh [(.r x0)])
 .br (okR r0) (.br (ine (gI r0 0) 0) (.leaf (0,[(.r []),(.i (gI r0 0))])) (let r1:TR:=(ql wU [(.i (qh x0)),(.i 0),(.r x0),(.i 0)])
 .br (okR r1) (.br (jIs r1 0) (let r2:TR:=(ql wP [(.i (qh (gR r1 0))),(.i 0),(.r (gR r1 0)),(.i (gI r1 1))])
 .br (okR r2) (.br (jIs r2 0) (.leaf (0,[(.r []),(.i (gI r2 0))])) (.leaf (0,[(.r (gR r2 1)),(.i (gI r2 0))]))) .fail) (.leaf (0,[(.r (gR r1 1)),(.i (gI r1 0))]))) .fail)) .fail):=by kernel_rfl
theorem qiD(x0:List UInt8)(x1:List UInt8)(x2:List UInt8)(x3:List UInt8)(x4:Int):yQ [.s x0,.s x1,.s x2,.s x3,.i x4]=(let r0:TR:=(zO [(.s x0),(.s x1),(.s x2),(.s x3),(.i x4)])
 .br (okR r0) (let r1:TR:=(zp [(.s (gS r0 0)),(.s (gS r0 1)),(.s (gS r0 0)),(.s (gS r0 1)),(.i (gI r0 2))])
 .br (okR r1) (.leaf (0,[(.s (gS r1 0)),(.i (gI r1 1))])) .fail) .fail):=by kernel_rfl
theorem qgq(x0:List UInt8)(x1:List UInt8)(x2:Int):jc [.s x0,.s x1,.i x2]=(let r0:TR:=(qF [(.s x0),(.s x1),(.i x2)])
 .br (okR r0) (let r1:TR:=(vA [(.s (gS r0 0)),(.s [48]),(.s [48]),(.i (gI r0 1))])
 .br (okR r1) (.leaf (0,[(.i (gI r1 0)),(.i (gI r1 1))])) .fail) .fail):=by kernel_rfl
theorem q35(y0:R)(y1:R)(y2:Int)(y3:Int):wJ [.r y0,.r y1,.i y2,.i y3]=(.br (ilt y3 y2) (.br (inb y3 (qh y0)) (.br (inb y3 (qh y1)) (.br (ine (cI y0 y3 0) (cI y1 y3 0)) (.leaf (2,[(.b false)])) (.leaf (0,[(.r y0),(.r y1),(.i y2),(.i (qt .i64 y3 1))]))) .fail) .fail) (.leaf (1,[]))):=by kernel_rfl
theorem qbi(x0:R)(x1:R):vq [.r x0,.r x1]=(.br (ine (qh x0) (qh x1)) (.leaf (0,[(.b false)])) (let r0:TR:=(ql wJ [(.r x0),(.r x1),(.i (qh x0)),(.i 0)])
 .br (okR r0) (.br (jIs r0 0) (.leaf (0,[(.b true)])) (.leaf (0,[(.b (gB r0 0))]))) .fail)):=by kernel_rfl
theorem qkl(x0:R)(x1:Int)(x2:Int)(x3:Int):q38 [.r x0,.i x1,.i x2,.i x3]=(let r0:TR:=(zh [(.r x0)])
 .br (okR r0) (.br (ine (gI r0 0) 0) (.leaf (0,[(.b false),(.i (gI r0 0))])) (.br (ilt x1 0) (.leaf (0,[(.b false),(.i 2)])) (.br (ile (qh x0) x1) (.leaf (0,[(.b false),(.i 2)])) (.br (ilt x2 0) (.leaf (0,[(.b false),(.i 2)])) (.br (ile (qh x0) x2) (.leaf (0,[(.b false),(.i 2)])) (.br (ilt x2 x1) (.leaf (0,[(.b false),(.i 9)])) (.br (ilt x3 (-1)) (.leaf (0,[(.b false),(.i 1)])) (.br (ilt 1 x3) (.leaf (0,[(.b false),(.i 1)])) (let r1:TR:=(qE [(.r x0),(.i x1),(.i x2),(.i x3),(.i 0)])
 .br (okR r1) (.leaf (0,[(.b (gB r1 0)),(.i (gI r1 1))])) .fail))))))))) .fail):=by kernel_rfl
theorem q1K(y0:R)(y1:R)(y2:Int):js [.r y0,.r y1,.i y2]=(.br (ilt y2 (qh y0)) (.br (inb y2 (qh y0)) (let r0:TR:=(yY [(.i (cI y0 y2 0)),(.i (cI y0 y2 1)),(.i (cI y0 y2 2)),(.i (cI y0 y2 3)),(.i (cI y0 y2 4)),(.i (cI y0 y2 5)),(.b (cB y0 y2 6))])
 .br (okR r0) (.br (ine (gI r0 0) 0) (.leaf (2,[(.i (gI r0 0))])) (.leaf (0,[(.r y0),(.r y1),(.i (qt .i64 y2 1))]))) .fail) .fail) (.leaf (1,[(.r y0),(.r y1)]))):=by kernel_rfl
theorem q0L(y0:R)(y1:Int):vZ [.r y0,.i y1]=(.br (ilt y1 (qh y0)) (.br (inb y1 (qh y0)) (let r0:TR:=(yT [(.i (cI y0 y1 0)),(.i (cI y0 y1 1)),(.i (cI y0 y1 2))])
 .br (okR r0) (.br (ine (gI r0 0) 0) (.leaf (2,[(.i (gI r0 0))])) (.leaf (0,[(.r y0),(.i (qt .i64 y1 1))]))) .fail) .fail) (.leaf (1,[]))):=by kernel_rfl
theorem qgk(x0:R)(x1:R):j7 [.r x0,.r x1]=(.br (ilt 16 (qh x0)) (.leaf (0,[(.i 5)])) (let r0:TR:=(ql js [(.r x0),(.r x1),(.i 0)])
 .br (okR r0) (.br (jIs r0 0) (.br (ine (qh (gR r0 1)) (qh (gR r0 0))) (.leaf (0,[(.i 8)])) (let r1:TR:=(ql vZ [(.r (gR r0 1)),(.i 0)])
 .br (okR r1) (.br (jIs r1 0) (.leaf (0,[(.i 0)])) (.leaf (0,[(.i (gI r1 0))]))) .fail)) (.leaf (0,[(.i (gI r0 0))]))) .fail)):=by kernel_rfl
theorem qb5(y0:Int)(y1:R)(y2:R)(y3:Int):q0f [.i y0,.r y1,.r y2,.i y3]=(.br (ilt y0 (qh y1)) (.br (inb y0 (qh y1)) (.br (inb y0 (qh y2)) (let r0:TR:=(ya [(.i (cI y1 y0 0)),(.i (cI y1 y0 1)),(.i (cI y1 y0 2)),(.i (cI y1 y0 3)),(.i (cI y1 y0 4)),(.i (cI y1 y0 5)),(.b (cB y1 y0 6)),(.i (cI y2 y0 2))])
 .br (okR r0) (.br (not (gB r0 0)) (.leaf (2,[(.i 14)])) (.leaf (0,[(.i (qt .i64 y0 1)),(.r y1),(.r y2),(.i y3)]))) .fail) .fail) .fail) (.leaf (1,[(.r y1),(.r y2),(.i y3)]))):=by kernel_rfl
theorem qmr(x0:R)(x1:R)(x2:Int):u5 [.r x0,.r x1,.i x2]=(let r0:TR:=(j7 [(.r x0),(.r x1)])
 .br (okR r0) (.br (ine (gI r0 0) 0) (.leaf (0,[(.i (gI r0 0))])) (.br (ieq (qh x0) 0) (.leaf (0,[(.i 13)])) (let r1:TR:=(ql q0f [(.i 0),(.r x0),(.r x1),(.i x2)])
 .br (okR r1) (.br (jIs r1 0) (.br (ilt (gI r1 2) (-1)) (.leaf (0,[(.i 2)])) (.br (ilt 100000 (gI r1 2)) (.leaf (0,[(.i 2)])) (.leaf (0,[(.i 0)])))) (.leaf (0,[(.i (gI r1 0))]))) .fail))) .fail):=by kernel_rfl
theorem qqu(x0:R)(x1:R):q8f [.r x0,.r x1]=(.br (ile (qh x0) 32) (.leaf (0,[(.b (ile (qh x1) 32))])) (.leaf (0,[(.b false)]))):=by kernel_rfl
theorem qpv(x0:R)(x1:R)(x2:Int):q8j [.r x0,.r x1,.i x2]=(let r0:TR:=(q8f [(.r x0),(.r x1)])
 .br (okR r0) (.br (gB r0 0) (.br (ile (qh x0) 4) (.br (ile (qh x1) 4) (.leaf (0,[(.b true)])) (let r1:TR:=(u5 [(.r x0),(.r x1),(.i x2)])
 .br (okR r1) (.leaf (0,[(.b (ine (gI r1 0) 0))])) .fail)) (let r1:TR:=(u5 [(.r x0),(.r x1),(.i x2)])
 .br (okR r1) (.leaf (0,[(.b (ine (gI r1 0) 0))])) .fail)) (.leaf (0,[(.b false)]))) .fail):=by kernel_rfl
theorem qr1(x0:R)(x1:R)(x2:Int):q8G [.r x0,.r x1,.i x2]=(.leaf (0,[(.r x0),(.r x1),(.i x2)])):=by kernel_rfl
theorem qmO(x0:R)(x1:R)(x2:Int):q20 [.r x0,.r x1,.i x2]=(let r0:TR:=(q8G [(.r x0),(.r x1),(.i x2)])
 .br (okR r0) (let r1:TR:=(q8j [(.r (gR r0 0)),(.r (gR r0 1)),(.i (gI r0 2))])
 .br (okR r1) (.br (gB r1 0) (.br (okR r0) (let r2:TR:=(u5 [(.r (gR r0 0)),(.r (gR r0 1)),(.i (gI r0 2))])
 .br (okR r2) (.leaf (0,[(.b (ieq (gI r2 0) 0))])) .fail) .fail) (.leaf (0,[(.b false)]))) .fail) .fail):=by kernel_rfl
theorem q1r(y0:R)(y1:R)(y2:R)(y3:Int)(y4:Int):jv [.r y0,.r y1,.r y2,.i y3,.i y4]=(.br (ilt y4 y3) (.br (inb y4 (qh y2)) (let r0:TR:=(zM [(.i (cI y2 y4 0)),(.i (cI y2 y4 1)),(.i (cI y2 y4 2)),(.i (cI y2 y4 3)),(.i (cI y2 y4 4)),(.i (cI y2 y4 5)),(.b (cB y2 y4 6))])
 .br (okR r0) (.br (ine (gI r0 0) 0) (.leaf (2,[(.i (gI r0 0))])) (.leaf (0,[(.r y0),(.r y1),(.r y2),(.i y3),(.i (qt .i64 y4 1))]))) .fail) .fail) (.leaf (1,[(.r y0),(.r y1)]))):=by kernel_rfl
theorem q0H(y0:R)(y1:Int)(y2:Int):j2 [.r y0,.i y1,.i y2]=(.br (ilt y2 y1) (.br (inb y2 (qh y0)) (let r0:TR:=(kK [(.i (cI y0 y2 0)),(.i (cI y0 y2 1)),(.i (cI y0 y2 2))])
 .br (okR r0) (.br (ine (gI r0 0) 0) (.leaf (2,[(.i (gI r0 0))])) (.leaf (0,[(.r y0),(.i y1),(.i (qt .i64 y2 1))]))) .fail) .fail) (.leaf (1,[]))):=by kernel_rfl
theorem qgc(x0:R)(x1:R):j9 [.r x0,.r x1]=(.br (ilt 16 (qh x0)) (.leaf (0,[(.i 5)])) (let r0:TR:=(ql jv [(.r x0),(.r x1),(.r x0),(.i (qh x0)),(.i 0)])
 .br (okR r0) (.br (jIs r0 0) (.br (ine (qh (gR r0 1)) (qh (gR r0 0))) (.leaf (0,[(.i 8)])) (let r1:TR:=(ql j2 [(.r (gR r0 1)),(.i (qh (gR r0 1))),(.i 0)])
 .br (okR r1) (.br (jIs r1 0) (.leaf (0,[(.i 0)])) (.leaf (0,[(.i (gI r1 0))]))) .fail)) (.leaf (0,[(.i (gI r0 0))]))) .fail)):=by kernel_rfl
theorem qay(y0:R)(y1:Int)(y2:Int)(y3:R)(y4:R)(y5:Int):q0j [.r y0,.i y1,.i y2,.r y3,.r y4,.i y5]=(.br (ilt y2 y1) (.br (inb y2 (qh y0)) (.br (inb y2 (qh y4)) (.br (ilt (cI y4 y2 2) (cI y0 y2 2)) (.leaf (2,[(.i 14)])) (.br (ilt (cI y0 y2 3) (cI y4 y2 2)) (.leaf (2,[(.i 14)])) (.leaf (0,[(.r y0),(.i y1),(.i (qt .i64 y2 1)),(.r y3),(.r y4),(.i y5)])))) .fail) .fail) (.leaf (1,[(.r y3),(.r y4),(.i y5)]))):=by kernel_rfl
theorem qmR(x0:R)(x1:R)(x2:Int):q04 [.r x0,.r x1,.i x2]=(let r0:TR:=(j9 [(.r x0),(.r x1)])
 .br (okR r0) (.br (ine (gI r0 0) 0) (.leaf (0,[(.i (gI r0 0))])) (.br (ieq (qh x0) 0) (.leaf (0,[(.i 13)])) (let r1:TR:=(ql q0j [(.r x0),(.i (qh x0)),(.i 0),(.r x0),(.r x1),(.i x2)])
 .br (okR r1) (.br (jIs r1 0) (.br (ilt (gI r1 2) (-1)) (.leaf (0,[(.i 2)])) (.br (ilt 100000 (gI r1 2)) (.leaf (0,[(.i 2)])) (.leaf (0,[(.i 0)])))) (.leaf (0,[(.i (gI r1 0))]))) .fail))) .fail):=by kernel_rfl
theorem qkI(x0:Int)(x1:Int)(x2:Int)(x3:Int)(x4:Int)(x5:Int)(x6:Bool)(x7:Int):q2Y [.i x0,.i x1,.i x2,.i x3,.i x4,.i x5,.b x6,.i x7]=(.br (ile x2 x7) (.leaf (0,[(.b (ile x7 x3))])) (.leaf (0,[(.b false)]))):=by kernel_rfl
theorem qaJ(x0:Int)(x1:Int)(x2:Int)(x3:Int)(x4:Int)(x5:Int)(x6:Bool)(x7:Int)(x8:Int):wW [.i x0,.i x1,.i x2,.i x3,.i x4,.i x5,.b x6,.i x7,.i x8]=(.br (ieq x5 0) (.leaf (0,[(.i 0)])) (let r0:TR:=(wO [(.i x0),(.i x1),(.i x2),(.i x3),(.i x4),(.i x5),(.b x6),(.i x7),(.i x7)])
 .br (okR r0) (.leaf (0,[(.i (kN .i64 x7 (qP .i64 (gI r0 0) x8)))])) .fail)):=by kernel_rfl
theorem qmn(x0:Int)(x1:Int)(x2:Int)(x3:Int)(x4:Int)(x5:Int)(x6:Bool)(x7:Int):q4x [.i x0,.i x1,.i x2,.i x3,.i x4,.i x5,.b x6,.i x7]=(let r0:TR:=(zM [(.i x0),(.i x1),(.i x2),(.i x3),(.i x4),(.i x5),(.b x6)])
 .br (okR r0) (.br (ine (gI r0 0) 0) (.leaf (0,[(.i 0),(.i (gI r0 0))])) (let r1:TR:=(q2Y [(.i x0),(.i x1),(.i x2),(.i x3),(.i x4),(.i x5),(.b x6),(.i x7)])
 .br (okR r1) (.br (not (gB r1 0)) (.leaf (0,[(.i 0),(.i 2)])) (let r2:TR:=(q7F [(.i x0),(.i x1),(.i x2),(.i x3),(.i x4),(.i x5),(.b x6)])
 .br (okR r2) (let r3:TR:=(wW [(.i (gI r2 0)),(.i (gI r2 1)),(.i (gI r2 2)),(.i (gI r2 3)),(.i (gI r2 4)),(.i (gI r2 5)),(.b (gB r2 6)),(.i (gI r2 7)),(.i x7)])
 .br (okR r3) (.leaf (0,[(.i (gI r3 0)),(.i 0)])) .fail) .fail)) .fail)) .fail):=by kernel_rfl
theorem qjW(x0:Int)(x1:Int)(x2:Int)(x3:Int)(x4:Int)(x5:Int)(x6:Bool)(x7:Int):yl [.i x0,.i x1,.i x2,.i x3,.i x4,.i x5,.b x6,.i x7]=(let r0:TR:=(q4x [(.i x0),(.i x1),(.i x2),(.i x3),(.i x4),(.i x5),(.b x6),(.i x7)])
 .br (okR r0) (.br (ine (gI r0 1) 0) (.leaf (0,[(.i 0),(.i (gI r0 1))])) (.leaf (0,[(.i (qt .i64 x4 (gI r0 0))),(.i 0)]))) .fail):=by kernel_rfl
theorem qkZ(x0:Int)(x1:Int)(x2:Int):jT [.i x0,.i x1,.i x2]=(let r0:TR:=(q55 [(.i (kN .i64 x2 x2)),(.i 4)])
 .br (okR r0) (.br (ine (gI r0 1) 0) (.leaf (0,[(.s []),(.s []),(.s []),(.i (gI r0 1))])) (let r1:TR:=(yR [(.i x0)])
 .br (okR r1) (let r2:TR:=(yR [(.i x1)])
 .br (okR r2) (.leaf (0,[(.s (gS r1 0)),(.s (gS r2 0)),(.s (gS r0 0)),(.i 0)])) .fail) .fail)) .fail):=by kernel_rfl
theorem q4Q(y0:R)(y1:Int)(y2:Int)(y3:R)(y4:R)(y5:Int)(y6:R):zY [.r y0,.i y1,.i y2,.r y3,.r y4,.i y5,.r y6]=(.br (ilt y2 y1) (.br (inb y2 (qh y0)) (.br (inb y2 (qh y4)) (let r0:TR:=(yl [(.i (cI y0 y2 0)),(.i (cI y0 y2 1)),(.i (cI y0 y2 2)),(.i (cI y0 y2 3)),(.i (cI y0 y2 4)),(.i (cI y0 y2 5)),(.b (cB y0 y2 6)),(.i (cI y4 y2 2))])
 .br (okR r0) (.br (ine (gI r0 1) 0) (.leaf (2,[(.i (gI r0 1))])) (let r1:TR:=(jT [(.i (qP .i64 (cI y0 y2 0) (cI y4 y2 0))),(.i (qP .i64 (cI y0 y2 1) (cI y4 y2 1))),(.i (gI r0 0))])
 .br (okR r1) (.br (ine (gI r1 3) 0) (.leaf (2,[(.i (gI r1 3))])) (.br (ile ((qh y6)+(qh [[(.s (gS r1 0)),(.s (gS r1 1)),(.s (gS r1 2))]])) 2932031007402) (.leaf (0,[(.r y0),(.i y1),(.i (qt .i64 y2 1)),(.r y3),(.r y4),(.i y5),(.r (q7J y6 [[(.s (gS r1 0)),(.s (gS r1 1)),(.s (gS r1 2))]]))])) .fail)) .fail)) .fail) .fail) .fail) (.leaf (1,[(.r y6)]))):=by kernel_rfl
theorem qdI(x0:R)(x1:R)(x2:Int):zQ [.r x0,.r x1,.i x2]=(let r0:TR:=(ql zY [(.r x0),(.i (qh x0)),(.i 0),(.r x0),(.r x1),(.i x2),(.r [])])
 .br (okR r0) (.br (jIs r0 0) (.leaf (0,[(.r (gR r0 0)),(.i 0)])) (.leaf (0,[(.r []),(.i (gI r0 0))]))) .fail):=by kernel_rfl
theorem qk0(x0:R)(x1:Int):yo [.r x0,.i x1]=(.br (ilt x1 0) (.leaf (0,[(.r x0),(.i 0)])) (let r0:TR:=(jT [(.i 0),(.i 0),(.i x1)])
 .br (okR r0) (.br (ine (gI r0 3) 0) (.leaf (0,[(.r []),(.i (gI r0 3))])) (.br (q8Y (qh x0) (qh x0)) (.br (q8Y 0 (qh x0)) (.br (ieq (qh x0) (qh x0)) (.br (ilt 0 (qh [[(.s (gS r0 0)),(.s (gS r0 1)),(.s (gS r0 2))]])) (.br (ile ((qh (qqG x0 0 (qh x0)))+(qh [[(.s (gS r0 0)),(.s (gS r0 1)),(.s (gS r0 2))]])) 2932031007402) (.leaf (0,[(.r (q7J (qqG x0 0 (qh x0)) [[(.s (gS r0 0)),(.s (gS r0 1)),(.s (gS r0 2))]])),(.i 0)])) .fail) .fail) .fail) .fail) .fail)) .fail)):=by kernel_rfl
theorem qms(x0:R)(x1:R)(x2:Int):zm [.r x0,.r x1,.i x2]=(let r0:TR:=(q04 [(.r x0),(.r x1),(.i x2)])
 .br (okR r0) (.br (ine (gI r0 0) 0) (.leaf (0,[(.r []),(.i (gI r0 0))])) (let r1:TR:=(zQ [(.r x0),(.r x1),(.i x2)])
 .br (okR r1) (.br (ine (gI r1 1) 0) (.leaf (0,[(.r []),(.i (gI r1 1))])) (let r2:TR:=(yo [(.r (gR r1 0)),(.i x2)])
 .br (okR r2) (.leaf (0,[(.r (gR r2 0)),(.i (gI r2 1))])) .fail)) .fail)) .fail):=by kernel_rfl
theorem qiM(x0:R)(x1:R)(x2:Int):qS [.r x0,.r x1,.i x2]=(let r0:TR:=(zm [(.r x0),(.r x1),(.i x2)])
 .br (okR r0) (.br (ine (gI r0 1) 0) (.leaf (0,[(.b false),(.i 0),(.i 0),(.i 0),(.i (gI r0 1))])) (let r1:TR:=(ye [(.r (gR r0 0))])
 .br (okR r1) (.leaf (0,[(.b (gB r1 0)),(.i (gI r1 1)),(.i (gI r1 2)),(.i (gI r1 3)),(.i (gI r1 4))])) .fail)) .fail):=by kernel_rfl
theorem qcU(x0:R)(x1:R)(x2:Int):zi [.r x0,.r x1,.i x2]=(let r0:TR:=(zm [(.r x0),(.r x1),(.i x2)])
 .br (okR r0) (.br (ine (gI r0 1) 0) (.leaf (0,[(.r []),(.i (gI r0 1))])) (let r1:TR:=(vX [(.r (gR r0 0))])
 .br (okR r1) (.leaf (0,[(.r (gR r1 0)),(.i (gI r1 1))])) .fail)) .fail):=by kernel_rfl
theorem qpH(x0:Int)(x1:Int)(x2:Int):q3s [.i x0,.i x1,.i x2]=(.leaf (0,[(.r [[(.i 0),(.i 0),(.i 20),(.i 24),(.i 4),(.i 1),(.b false)],[(.i 50),(.i 0),(.i 20),(.i 24),(.i 4),(.i 1),(.b false)]]),(.r [[(.i x0),(.i 0),(.i x2)],[(.i x1),(.i 0),(.i x2)]]),(.i (-1))])):=by kernel_rfl
theorem q8s(y0:Int)(y1:Int)(y2:List UInt8)(y3:List UInt8)(y4:List UInt8)(y5:List UInt8)(y6:List UInt8)(y7:R):yS [.i y0,.i y1,.s y2,.s y3,.s y4,.s y5,.s y6,.r y7]=(.br (ilt y1 y0) (.br (inb y1 (qh y7)) (let r0:TR:=(qC [(.s (cS y7 y1 0))])
 .br (okR r0) (.br (ine (gI r0 0) 0) (.leaf (2,[(.b false),(.i (gI r0 0))])) (.leaf (0,[(.i y0),(.i (qt .i64 y1 1)),(.s y2),(.s y3),(.s y4),(.s y5),(.s y6),(.r y7)]))) .fail) .fail) (.leaf (1,[(.s y2),(.s y3),(.s y4),(.s y5),(.s y6)]))):=by kernel_rfl
theorem qit(x0:List UInt8)(x1:List UInt8)(x2:List UInt8)(x3:List UInt8)(x4:List UInt8):wy [.s x0,.s x1,.s x2,.s x3,.s x4]=(let r0:TR:=(jN [(.s x0),(.s x1),(.s x2)])
 .br (okR r0) (.br (ine (gI r0 0) 0) (.leaf (0,[(.b false),(.i (gI r0 0))])) (let r1:TR:=(ql yS [(.i (qh [[(.s x3)],[(.s x4)]])),(.i 0),(.s x0),(.s x1),(.s x2),(.s x3),(.s x4),(.r [[(.s x3)],[(.s x4)]])])
 .br (okR r1) (.br (jIs r1 0) (let r2:TR:=(yQ [(.s (gS r1 0)),(.s (gS r1 1)),(.s (gS r1 3)),(.s (gS r1 4)),(.i 0)])
 .br (okR r2) (let r3:TR:=(jc [(.s (gS r2 0)),(.s (gS r1 2)),(.i (gI r2 1))])
 .br (okR r3) (.br (ile (gI r3 0) 0) (.leaf (0,[(.b (ieq (gI r3 1) 0)),(.i (gI r3 1))])) (.leaf (0,[(.b false),(.i (gI r3 1))]))) .fail) .fail) (.leaf (0,[(.b (gB r1 0)),(.i (gI r1 1))]))) .fail)) .fail):=by kernel_rfl
theorem qeq(y0:R)(y1:Int)(y2:Int)(y3:List UInt8)(y4:List UInt8)(y5:R):q0C [.r y0,.i y1,.i y2,.s y3,.s y4,.r y5]=(.br (ilt y2 y1) (.br (inb y2 (qh y5)) (let r0:TR:=(qC [(.s (cS y5 y2 0))])
 .br (okR r0) (.br (ine (gI r0 0) 0) (.leaf (2,[(.b false),(.i (gI r0 0))])) (.leaf (0,[(.r y0),(.i y1),(.i (qt .i64 y2 1)),(.s y3),(.s y4),(.r y5)]))) .fail) .fail) (.leaf (1,[(.r y0),(.s y3),(.s y4)]))):=by kernel_rfl
theorem qcH(y0:R)(y1:Int)(y2:Int)(y3:List UInt8)(y4:List UInt8):uR [.r y0,.i y1,.i y2,.s y3,.s y4]=(.br (ilt y2 y1) (.br (inb y2 (qh y0)) (let r0:TR:=(wy [(.s (cS y0 y2 0)),(.s (cS y0 y2 1)),(.s (cS y0 y2 2)),(.s y3),(.s y4)])
 .br (okR r0) (.br (ine (gI r0 1) 0) (.leaf (2,[(.b false),(.i (gI r0 1))])) (.br (not (gB r0 0)) (.leaf (2,[(.b false),(.i (gI r0 1))])) (.leaf (0,[(.r y0),(.i y1),(.i (qt .i64 y2 1)),(.s y3),(.s y4)])))) .fail) .fail) (.leaf (1,[]))):=by kernel_rfl
theorem qpf(x0:R)(x1:R)(x2:Int)(x3:List UInt8)(x4:List UInt8):q3T [.r x0,.r x1,.i x2,.s x3,.s x4]=(let r0:TR:=(zm [(.r x0),(.r x1),(.i x2)])
 .br (okR r0) (.br (ine (gI r0 1) 0) (.leaf (0,[(.b false),(.i (gI r0 1))])) (let r1:TR:=(ql q0C [(.r (gR r0 0)),(.i (qh [[(.s x3)],[(.s x4)]])),(.i 0),(.s x3),(.s x4),(.r [[(.s x3)],[(.s x4)]])])
 .br (okR r1) (.br (jIs r1 0) (let r2:TR:=(ql uR [(.r (gR r1 0)),(.i (qh (gR r1 0))),(.i 0),(.s (gS r1 1)),(.s (gS r1 2))])
 .br (okR r2) (.br (jIs r2 0) (.leaf (0,[(.b true),(.i 0)])) (.leaf (0,[(.b (gB r2 0)),(.i (gI r2 1))]))) .fail) (.leaf (0,[(.b (gB r1 0)),(.i (gI r1 1))]))) .fail)) .fail):=by kernel_rfl
theorem qd4(x0:Int)(x1:R)(x2:Int):zg [.i x0,.r x1,.i x2]=(let r0:TR:=(yo [(.r x1),(.i x0)])
 .br (okR r0) (.br (ine (gI r0 1) 0) (.leaf (0,[(.b true),(.r x1),(.i (gI r0 1))])) (let r1:TR:=(ye [(.r (gR r0 0))])
 .br (okR r1) (.br (ine (gI r1 4) 0) (.leaf (0,[(.b true),(.r x1),(.i (gI r1 4))])) (.leaf (0,[(.b (gB r1 0)),(.r x1),(.i x2)]))) .fail)) .fail):=by kernel_rfl
theorem qjT(y0:Int)(y1:Int)(y2:R)(y3:Int):q1w [.i y0,.i y1,.r y2,.i y3]=(.br (ilt y0 y1) (let r0:TR:=(zg [(.i (yp .i64 (qt .i64 y0 y1) 2)),(.r y2),(.i y3)])
 .br (okR r0) (.br (gB r0 0) (.leaf (0,[(.i y0),(.i (yp .i64 (qt .i64 y0 y1) 2)),(.r (gR r0 1)),(.i (gI r0 2))])) (.leaf (0,[(.i (qt .i64 (yp .i64 (qt .i64 y0 y1) 2) 1)),(.i y1),(.r (gR r0 1)),(.i (gI r0 2))]))) .fail) (.leaf (1,[(.i y0),(.r y2),(.i y3)]))):=by kernel_rfl
theorem qmB(x0:Int)(x1:Int)(x2:R)(x3:Int):q4E [.i x0,.i x1,.r x2,.i x3]=(let r0:TR:=(ql q1w [(.i x0),(.i x1),(.r x2),(.i x3)])
 .br (okR r0) (.leaf (0,[(.i (gI r0 0)),(.r (gR r0 1)),(.i (gI r0 2))])) .fail):=by kernel_rfl
theorem qkn(x0:R)(x1:R)(x2:Int):jY [.r x0,.r x1,.i x2]=(let r0:TR:=(q04 [(.r x0),(.r x1),(.i x2)])
 .br (okR r0) (.br (ine (gI r0 0) 0) (.leaf (0,[(.i 0),(.i (gI r0 0))])) (let r1:TR:=(zQ [(.r x0),(.r x1),(.i x2)])
 .br (okR r1) (.br (ine (gI r1 1) 0) (.leaf (0,[(.i 0),(.i (gI r1 1))])) (let r2:TR:=(zg [(.i 100000),(.r (gR r1 0)),(.i 0)])
 .br (okR r2) (.br (not (gB r2 0)) (.leaf (0,[(.i 0),(.i 6)])) (let r3:TR:=(q4E [(.i 0),(.i 100000),(.r (gR r2 1)),(.i (gI r2 2))])
 .br (okR r3) (.br (ine (gI r3 2) 0) (.leaf (0,[(.i 0),(.i (gI r3 2))])) (.leaf (0,[(.i (gI r3 0)),(.i 0)]))) .fail)) .fail)) .fail)) .fail):=by kernel_rfl
theorem qmu  : yW []=(let r0:TR:=(q3s [(.i 3),(.i 53),(.i 20)])
 .br (okR r0) (let r1:TR:=(qS [(.r (gR r0 0)),(.r (gR r0 1)),(.i (gI r0 2))])
 .br (okR r1) (.br (okR r0) (let r2:TR:=(q3T [(.r (gR r0 0)),(.r (gR r0 1)),(.i (gI r0 2)),(.s [45,49]),(.s [48])])
 .br (okR r2) (.br (okR r0) (let r3:TR:=(jY [(.r (gR r0 0)),(.r (gR r0 1)),(.i (gI r0 2))])
 .br (okR r3) (.br (ine (qt .i64 (qt .i64 (gI r1 4) (gI r2 1)) (gI r3 1)) 0) (.leaf (0,[(.b false)])) (.br (not (gB r1 0)) (.leaf (0,[(.b false)])) (.br (not (gB r2 0)) (.leaf (0,[(.b false)])) (.br (ine (gI r3 0) 2) (.leaf (0,[(.b false)])) (let r4:TR:=(q3s [(.i (-3)),(.i 53),(.i 20)])
 .br (okR r4) (let r5:TR:=(qS [(.r (gR r4 0)),(.r (gR r4 1)),(.i (gI r4 2))])
 .br (okR r5) (.br (okR r4) (let r6:TR:=(zi [(.r (gR r4 0)),(.r (gR r4 1)),(.i (gI r4 2))])
 .br (okR r6) (let r7:TR:=(q3s [(.i (-3)),(.i 53),(.i 22)])
 .br (okR r7) (let r8:TR:=(q3T [(.r (gR r7 0)),(.r (gR r7 1)),(.i (gI r7 2)),(.s [48]),(.s [48])])
 .br (okR r8) (.br (okR r0) (let r9:TR:=(zm [(.r (gR r0 0)),(.r (gR r0 1)),(.i (gI r0 2))])
 .br (okR r9) (.br (ieq (qt .i64 (qt .i64 (qt .i64 (gI r5 4) (gI r6 1)) (gI r8 1)) (gI r9 1)) 0) (.br (not (gB r5 0)) (.br (gB r8 0) (let r10:TR:=(vq [(.r (gR r6 0)),(.r [[(.i 0)],[(.i 1)]])])
 .br (okR r10) (.br (gB r10 0) (.br (ieq (qh (gR r9 0)) 2) (.br (inb 0 (qh (gR r9 0))) (.leaf (0,[(.b (qxk (qxk (seq (cS (gR r9 0) 0 0) [45,51]) (qxk (seq (cS (gR r9 0) 0 1) [48]) true)) (qxk (seq (cS (gR r9 0) 0 2) [52]) true)))])) .fail) (.leaf (0,[(.b false)]))) (.leaf (0,[(.b false)]))) .fail) (.leaf (0,[(.b false)]))) (.leaf (0,[(.b false)]))) (.leaf (0,[(.b false)]))) .fail) .fail) .fail) .fail) .fail) .fail) .fail) .fail))))) .fail) .fail) .fail) .fail) .fail) .fail):=by kernel_rfl
theorem qlX(x0:R)(x1:R)(x2:Int)(x3:Int)(x4:Int)(x5:Int):q0E [.r x0,.r x1,.i x2,.i x3,.i x4,.i x5]=(let r0:TR:=(zm [(.r x0),(.r x1),(.i x2)])
 .br (okR r0) (.br (ine (gI r0 1) 0) (.leaf (0,[(.b false),(.i (gI r0 1))])) (let r1:TR:=(q38 [(.r (gR r0 0)),(.i x3),(.i x4),(.i x5)])
 .br (okR r1) (.leaf (0,[(.b (gB r1 0)),(.i (gI r1 1))])) .fail)) .fail):=by kernel_rfl
theorem q4J(y0:R)(y1:R)(y2:Int)(y3:Int)(y4:R)(y5:R)(y6:Int)(y7:Int)(y8:R)(y9:R):zW [.r y0,.r y1,.i y2,.i y3,.r y4,.r y5,.i y6,.i y7,.r y8,.r y9]=(.br (ilt y3 y2) (.br (inb y3 (qh y1)) (.br (ilt (cI y1 y3 0) 0) (.leaf (2,[(.b false)])) (.br (ilt (qh y4) (cI y1 y3 0)) (.leaf (2,[(.b false)])) (.br (ieq (cI y1 y3 0) (qh y4)) (.br (ilt y6 0) (.leaf (2,[(.b false)])) (.br (ieq (cI y1 y3 0) (qh y4)) (.leaf (0,[(.r y0),(.r y1),(.i y2),(.i (qt .i64 y3 1)),(.r y4),(.r y5),(.i y6),(.i y6),(.r y8),(.r y9)])) (.br (inb (cI y1 y3 0) (qh y4)) (.br (ile ((qh y8)+(qh [[(.i (cI y4 (cI y1 y3 0) 0)),(.i (cI y4 (cI y1 y3 0) 1)),(.i (cI y4 (cI y1 y3 0) 2)),(.i (cI y4 (cI y1 y3 0) 3)),(.i (cI y4 (cI y1 y3 0) 4)),(.i (cI y4 (cI y1 y3 0) 5)),(.b (cB y4 (cI y1 y3 0) 6))]])) 2513169434916) (.br (inb (cI y1 y3 0) (qh y5)) (.br (ile ((qh y9)+(qh [[(.i (cI y5 (cI y1 y3 0) 0)),(.i (cI y5 (cI y1 y3 0) 1)),(.i (cI y5 (cI y1 y3 0) 2))]])) 5864062014805) (.leaf (0,[(.r y0),(.r y1),(.i y2),(.i (qt .i64 y3 1)),(.r y4),(.r y5),(.i y6),(.i y7),(.r (q7J y8 [[(.i (cI y4 (cI y1 y3 0) 0)),(.i (cI y4 (cI y1 y3 0) 1)),(.i (cI y4 (cI y1 y3 0) 2)),(.i (cI y4 (cI y1 y3 0) 3)),(.i (cI y4 (cI y1 y3 0) 4)),(.i (cI y4 (cI y1 y3 0) 5)),(.b (cB y4 (cI y1 y3 0) 6))]])),(.r (q7J y9 [[(.i (cI y5 (cI y1 y3 0) 0)),(.i (cI y5 (cI y1 y3 0) 1)),(.i (cI y5 (cI y1 y3 0) 2))]]))])) .fail) .fail) .fail) .fail))) (.br (ieq (cI y1 y3 0) (qh y4)) (.leaf (0,[(.r y0),(.r y1),(.i y2),(.i (qt .i64 y3 1)),(.r y4),(.r y5),(.i y6),(.i y6),(.r y8),(.r y9)])) (.br (inb (cI y1 y3 0) (qh y4)) (.br (ile ((qh y8)+(qh [[(.i (cI y4 (cI y1 y3 0) 0)),(.i (cI y4 (cI y1 y3 0) 1)),(.i (cI y4 (cI y1 y3 0) 2)),(.i (cI y4 (cI y1 y3 0) 3)),(.i (cI y4 (cI y1 y3 0) 4)),(.i (cI y4 (cI y1 y3 0) 5)),(.b (cB y4 (cI y1 y3 0) 6))]])) 2513169434916) (.br (inb (cI y1 y3 0) (qh y5)) (.br (ile ((qh y9)+(qh [[(.i (cI y5 (cI y1 y3 0) 0)),(.i (cI y5 (cI y1 y3 0) 1)),(.i (cI y5 (cI y1 y3 0) 2))]])) 5864062014805) (.leaf (0,[(.r y0),(.r y1),(.i y2),(.i (qt .i64 y3 1)),(.r y4),(.r y5),(.i y6),(.i y7),(.r (q7J y8 [[(.i (cI y4 (cI y1 y3 0) 0)),(.i (cI y4 (cI y1 y3 0) 1)),(.i (cI y4 (cI y1 y3 0) 2)),(.i (cI y4 (cI y1 y3 0) 3)),(.i (cI y4 (cI y1 y3 0) 4)),(.i (cI y4 (cI y1 y3 0) 5)),(.b (cB y4 (cI y1 y3 0) 6))]])),(.r (q7J y9 [[(.i (cI y5 (cI y1 y3 0) 0)),(.i (cI y5 (cI y1 y3 0) 1)),(.i (cI y5 (cI y1 y3 0) 2))]]))])) .fail) .fail) .fail) .fail))))) .fail) (.leaf (1,[(.r y0),(.i y7),(.r y8),(.r y9)]))):=by kernel_rfl
theorem qf9(x0:R)(x1:R)(x2:Int):yt [.r x0,.r x1,.i x2]=(let r0:TR:=(q20 [(.r x0),(.r x1),(.i x2)])
 .br (okR r0) (.br (not (gB r0 0)) (let r1:TR:=(yW [])
 .br (okR r1) (.leaf (0,[(.b (gB r1 0))])) .fail) (let r1:TR:=(qS [(.r x0),(.r x1),(.i x2)])
 .br (okR r1) (let r2:TR:=(zi [(.r x0),(.r x1),(.i x2)])
 .br (okR r2) (.br (ine (qt .i64 (gI r1 4) (gI r2 1)) 0) (.leaf (0,[(.b false)])) (.br (not (beq (gB r1 0) (ieq (qh (gR r2 0)) 0))) (.leaf (0,[(.b false)])) (.br (gB r1 0) (let r3:TR:=(q0E [(.r x0),(.r x1),(.i x2),(.i (gI r1 1)),(.i (gI r1 2)),(.i (gI r1 3))])
 .br (okR r3) (.br (ieq (gI r3 1) 0) (.br (gB r3 0) (let r4:TR:=(yW [])
 .br (okR r4) (.leaf (0,[(.b (gB r4 0))])) .fail) (.leaf (0,[(.b false)]))) (.leaf (0,[(.b false)]))) .fail) (let r3:TR:=(ql zW [(.r (gR r2 0)),(.r (gR r2 0)),(.i (qh (gR r2 0))),(.i 0),(.r x0),(.r x1),(.i x2),(.i (-1)),(.r []),(.r [])])
 .br (okR r3) (.br (jIs r3 0) (.br (ilt 3 (qh (gR r3 0))) (.leaf (0,[(.b false)])) (.br (ieq (qh (gR r3 2)) 0) (.leaf (0,[(.b false)])) (let r4:TR:=(qS [(.r (gR r3 2)),(.r (gR r3 3)),(.i (gI r3 1))])
 .br (okR r4) (.br (ieq (gI r4 4) 0) (.br (not (gB r4 0)) (let r5:TR:=(yW [])
 .br (okR r5) (.leaf (0,[(.b (gB r5 0))])) .fail) (.leaf (0,[(.b false)]))) (.leaf (0,[(.b false)]))) .fail))) (.leaf (0,[(.b (gB r3 0))]))) .fail)))) .fail) .fail)) .fail):=by kernel_rfl
end Go.Eng

namespace Go.Eng
mutual
def qiZ{H:Type}:DataW H→List U
 | .lit (.bool b)=>[.b b]
 | .lit (.int _ n)=>[.i n]
 | .lit (.string s)=>[.s s]
 | .nil=>[.l []]
 | .slice es _=>[.l (qqX es)]
 | .agg ps=>qtV ps
 | _=>[.i 0]
def qtV{H:Type}:List (DataW H)→List U
 | []=>[]
 | d::l=>qiZ d++qtV l
def qqX{H:Type}:List (DataW H)→List (List U)
 | []=>[]
 | d::l=>qiZ d::qqX l
end
theorem qhT{H:Type}:∀l:List (DataW H),qqX l=l.map qiZ
 | []=>rfl
 | d::l=>by simp[qqX,qhT l]
inductive UFit:Sh→U→Prop
 | int (k:IntKind) (n:Int) (h0:k.min≤n) (h1:n≤k.max):UFit (.int k) (.i n)
 | bool (b:Bool):UFit .bool (.b b)
 | str (s:List UInt8) (h:s.length≤maxLen):UFit .str (.s s)
 | sl (row:List Sh) (l:R) (h:l.length≤maxLen) (hl:∀r,r∈l→r.length=row.length) (hf:∀(r:List U) (j:Nat) (s:Sh) (u:U),r∈l→row[j]?=some s→r[j]?=some u→UFit s u):UFit (.sl row) (.l l)
inductive CR (W:World) (M:Nat→Prop):List Sh→List U→List Value→Prop
 | nil:CR W M [] [] []
 | cons {s:Sh} {u:U} {v:Value} {sh:List Sh} {us:List U} {vs:List Value} (h:RepU W M s u v) (f:UFit s u) (t:CR W M sh us vs):CR W M (s::sh) (u::us) (v::vs)
theorem CR.append{W:World}{M:Nat→Prop}{a a':List Sh}{b b':List U}{c c':List Value}(h:CR W M a b c)(k:CR W M a' b' c'):CR W M (a++a') (b++b') (c++c'):=by
 induction h with
 | nil=>exact k
 | cons h f t ih=>exact .cons h f ih
theorem CR.len{W:World}{M:Nat→Prop}{a:List Sh}{b:List U}{c:List Value}(h:CR W M a b c):b.length=a.length∧c.length=a.length:=by
 induction h with
 | nil=>exact⟨rfl,rfl⟩
 | cons h f t ih=>simp[ih.1,ih.2]
theorem CR.get{W:World}{M:Nat→Prop}{a:List Sh}{b:List U}{c:List Value}(h:CR W M a b c):∀(j:Nat) (s:Sh),a[j]?=some s→∃u v,b[j]?=some u∧c[j]?=some v∧RepU W M s u v∧UFit s u:=by
 induction h with
 | nil=>intro j s hj;simp at hj
 | cons h f t ih=>
  intro j s hj
  cases j with
  | zero=>simp at hj;subst hj;exact⟨_,_,rfl,rfl,h,f⟩
  | succ j=>simpa using ih j s (by simpa using hj)
def qph:Nat→List (Nat×TypeId×Nat)→Bool
 | _,[]=>true
 | o,f::l=>Nat.beq f.1 o&&qph (o+f.2.2) l
def qtL:List (Nat×TypeId×Nat)→Nat
 | []=>0
 | f::l=>f.2.2+qtL l
def qqv(x:TI):Bool:=match x.d with
 | .struct fs=>qph 0 fs&&Nat.beq (qtL fs) x.size
 | .array n _ es=>Nat.beq (n*es) x.size
 | .slice _ es=>Nat.blt 0 es
 | _=>true
theorem qxY{E:Env}(h:E.tt.all (fun x=>qqv x.2)=true)(t:TypeId):qqv (E.ty t)=true:=by
 unfold Env.ty
 cases hf:E.tt.find? fun x=>x.1==t with
 | none=>rfl
 | some x=>exact List.all_eq_true.1 h x (List.mem_of_find?_eq_some hf)
section
variable {H:Type} {enc:TypeId×Value→H} {P:Program} {W:World} {base:Nat} {sp:Nat→Bool} {held:Bool} {E:Env}
theorem qnO{M:Nat→Prop}{fuel n:Nat}{cs:List Value}(ih:∀t cs d ps sh,E.shape n t=some sh→DataW.trod enc P W base sp held fuel t cs=some (d,ps)→CR W M sh (qiZ d) cs) :
  ∀(fs:List (Nat×TypeId×Nat)) (o:Nat) (xs:List (DataW H×List MemPlace)) (shs:List (List Sh)),qph o fs=true→o+qtL fs=cs.length→fs.mapM (fun f=>E.shape n f.2.1)=some shs →
   xs.length=fs.length→(∀(i:Nat) (f:Nat×TypeId×Nat),fs[i]?=some f→DataW.trod enc P W base sp held fuel f.2.1 ((cs.drop f.1).take f.2.2)=xs[i]?) →
   CR W M shs.flatten (qtV (xs.map (·.1))) (cs.drop o)
 | [],o,xs,shs,_,hs,hsh,hl,_=>by
  simp[qtL] at hs hsh hl
  subst hsh hl
  have:cs.drop o=[]:=List.drop_eq_nil_of_le (by omega)
  rw[this]
  exact .nil
 | f::fs,o,xs,shs,hlay,hs,hsh,hl,hx=>by
  simp only[qph,Bool.and_eq_true] at hlay
  obtain⟨h1,h2⟩:=hlay
  have ho:f.1=o:=Nat.eq_of_beq_eq_true h1
  simp only[qtL] at hs
  rw[List.mapM_cons] at hsh
  cases hsf:E.shape n f.2.1 with
  | none=>rw[hsf] at hsh;cases hsh
  | some shf=>
   cases hrest:fs.mapM (fun f=>E.shape n f.2.1) with
   | none=>rw[hsf,hrest] at hsh;cases hsh
   | some shr=>
    rw[hsf,hrest] at hsh
    cases hsh
    cases xs with
    | nil=>simp at hl
    | cons x xs=>
     have h0:=hx 0 f rfl
     simp only[List.getElem?_cons_zero] at h0
     have c1:=ih f.2.1 _ x.1 x.2 shf hsf h0
     rw[ho] at c1
     have c2:=qnO (cs:=cs) (M:=M) (fuel:=fuel) ih fs (o+f.2.2) xs shr h2 (by omega) hrest (by simpa using hl) fun i g hg=>by
      have:=hx (i+1) g (by simpa using hg)
      simpa using this
     have hsplit:cs.drop o=(cs.drop o).take f.2.2++cs.drop (o+f.2.2):=by
      rw[←List.drop_drop,List.take_append_drop]
     rw[hsplit]
     simp only[List.flatten_cons,List.map_cons,qtV]
     exact c1.append c2
theorem qqn{M:Nat→Prop}{fuel n es:Nat}{e:TypeId}{cs:List Value}{she:List Sh}(he:E.shape n e=some she)
  (ih:∀t cs d ps sh,E.shape n t=some sh→DataW.trod enc P W base sp held fuel t cs=some (d,ps)→CR W M sh (qiZ d) cs) :
  ∀(m o:Nat) (xs:List (DataW H×List MemPlace)),(o+m)*es=cs.length→xs.length=m→(∀i,i<m→DataW.trod enc P W base sp held fuel e ((cs.drop ((o+i)*es)).take es)=xs[i]?) →
   CR W M (List.replicate m she).flatten (qtV (xs.map (·.1))) (cs.drop (o*es))
 | 0,o,xs,hs,hl,_=>by
  simp at hl hs;subst hl
  have:cs.drop (o*es)=[]:=List.drop_eq_nil_of_le (by omega)
  rw[this]
  exact .nil
 | m+1,o,xs,hs,hl,hx=>by
  cases xs with
  | nil=>simp at hl
  | cons x xs=>
   have h0:=hx 0 (by omega)
   simp only[List.getElem?_cons_zero,Nat.add_zero] at h0
   have c1:=ih e _ x.1 x.2 she he h0
   have c2:=qqn (cs:=cs) he ih m (o+1) xs (by rw[←hs];congr 1;omega) (by simpa using hl) fun i hi=>by
    have:=hx (i+1) (by omega)
    rw[show o+(i+1)=o+1+i by omega] at this
    simpa using this
   have hsplit:cs.drop (o*es)=(cs.drop (o*es)).take es++cs.drop ((o+1)*es):=by
    rw[Nat.add_mul,Nat.one_mul,←List.drop_drop,List.take_append_drop]
   rw[hsplit]
   simp only[List.replicate_succ,List.flatten_cons,List.map_cons,qtV]
   exact c1.append c2
theorem qsY(hE:E.tok P)(hlay:E.tt.all (fun x=>qqv x.2)=true):∀(fuel n:Nat) (t:TypeId) (cs:List Value) (d:DataW H) (ps:List MemPlace) (sh:List Sh),E.shape n t=some sh →
  DataW.trod enc P W base sp held fuel t cs=some (d,ps)→CR W (fun b=>b<W.heap.size) sh (qiZ d) cs:=by
 intro fuel
 induction fuel with
 | zero=>intro n t cs d ps sh _ h;simp[DataW.trod] at h
 | succ fuel ih=>
  intro n t cs d ps sh hsh h
  cases n with
  | zero=>simp[Env.shape] at hsh
  | succ n=>
   simp only[Env.shape] at hsh
   have hl:=qxY hlay t
   unfold qqv at hl
   cases hd:(E.ty t).d<;>rw[hd] at hsh hl<;>simp only at hsh hl<;>try (cases hsh)
   ·
    unfold DataW.trod at h
    rw[qlv hE hd] at h
    split at h<;>simp_all
    obtain⟨rfl,_⟩:=h
    exact .cons (.bool (.b _)) (.bool _) .nil
   ·
    rename_i k
    unfold DataW.trod at h
    rw[qlb hE hd] at h
    split at h<;>simp_all
    obtain⟨⟨rfl,hw⟩,rfl,_⟩:=h
    simp[Lit.wf] at hw
    exact .cons (.int _ (.i _)) (.int _ _ hw.1 hw.2) .nil
   ·
    unfold DataW.trod at h
    rw[qfg hE hd] at h
    split at h<;>simp_all
    rename_i s
    obtain⟨hm,rfl,_⟩:=h
    refine .cons ?_ (.str _ (by simpa using hm)) .nil
    have:=RepU.str (w:=W) (M:=fun b=>b<W.heap.size) (.s s.data.toList)
    simpa[U.toS] using this
   ·
    rename_i e es
    obtain⟨ht,rfl⟩:=kW hE hd
    cases he:E.shape n e with
    | none=>rw[he] at hsh;cases hsh
    | some she=>
     rw[he] at hsh
     cases hsh
     have hpos:0<P.cellsOf e:=by simpa[Nat.blt_eq] using hl
     rcases DataW.trod_slice ht h with⟨rfl,hx⟩|⟨a,len,cap,elems,rest,k,hk,rfl,hx,hb,hlc,hcm,hlen,hel,_,_⟩
     ·cases hx
      exact .cons (.slnil _ _ rfl) (.sl _ _ (by simp[maxLen]) (fun r hr=>by cases hr) (fun r j s u hr=>by cases hr)) .nil
     ·cases hx
      cases hk
      have hrow:∀(i:Nat) (hi:i<len),∃cs',W.cells? base (a.add (i*P.cellsOf e)) (P.cellsOf e)=some cs'∧CR W (fun b=>b<W.heap.size) she (qiZ (elems[i]'(by omega)).1) cs':=by
       intro i hi
       have h0:=hel i hi
       rw[List.getElem?_eq_getElem (by omega)] at h0
       obtain⟨cs',g1,g2⟩:=Option.bind_eq_some_iff.1 h0
       exact⟨cs',g1,ih n e cs' _ _ she he g2⟩
      have hget:∀(r:Nat) (hr:r<len),(((elems.map (·.1)).map qiZ).getD r []:List U)=qiZ (elems[r]'(by omega)).1:=by
       intro r hr
       simp[List.getD_eq_getElem?_getD,hlen,hr]
      have hcell:∀(r j:Nat) (s:Sh) (hr:r<len),she[j]?=some s→∃v,W.cell? ⟨a.block,a.off+r*she.length+j,none⟩=some v∧RepU W (fun b=>b<W.heap.size) s (wS (qqX (elems.map (·.1))) r j) v∧UFit s ((qiZ (elems[r]'(by omega)).1).getD j (.i 0))∧a.spot=none∧a.block<W.heap.size:=by
       intro r j s hr hj
       obtain⟨cs',g1,g2⟩:=hrow r hr
       obtain⟨_,g4,g5⟩:=World.cells?_some g1
       obtain⟨q1,q2⟩:=g2.len
       obtain⟨u,v,e1,e2,e3,e4⟩:=g2.get j s hj
       have hlen:she.length=P.cellsOf e:=by rw[←q2,g4]
       have hjl:j<P.cellsOf e:=by rw[←hlen];exact qk hj
       have hc:=(g5 j hjl).trans e2
       have h00:=g5 0 hpos
       obtain⟨cs0,z1,z2⟩:=hrow 0 (by omega)
       obtain⟨_,z4,z5⟩:=World.cells?_some z1
       have hz:=z5 0 hpos
       obtain⟨v0,hv0⟩:∃v0,cs0[0]?=some v0:=⟨cs0[0],List.getElem?_eq_getElem (by omega)⟩
       rw[hv0] at hz
       simp only[Nat.zero_mul,Addr.add,if_true] at hz
       have hspot:=World.cell?_spot hz
       refine⟨v,?_,?_,?_,hspot,World.block_lt_of_cell? _ _ hz⟩
       ·rw[←hc,Addr.add_of hspot,Addr.add_lit,hlen]
       ·have:wS (qqX (elems.map (·.1))) r j=u:=by
         rw[qhT]
         unfold wS
         rw[Int.toNat_natCast,hget r hr]
         simp[List.getD_eq_getElem?_getD,e1]
        rw[this];exact e3
       ·simp[List.getD_eq_getElem?_getD,e1];exact e4
      have hrl:(qqX (elems.map (·.1))).length=len:=by rw[qhT];simp[hlen]
      have hsh0:0<len→0<she.length:=by
       intro hl0
       obtain⟨cs',g1,g2⟩:=hrow 0 hl0
       obtain⟨_,g4,_⟩:=World.cells?_some g1
       rw[←g2.len.2,g4];exact hpos
      refine .cons ?_ (.sl _ _ (by rw[hrl];omega) ?_ ?_) .nil
      ·have hR:=qbs (w:=W) (M:=fun b=>b<W.heap.size) (row:=she) (l:=qqX (elems.map (·.1))) (v:=.slice (some a) len cap) (.inr ⟨a,cap,by rw[hrl],fun h0=>by
        rw[hrl] at h0
        obtain⟨_,_,_,_,h4,_⟩:=hcell 0 0 she[0] h0 (List.getElem?_eq_getElem (hsh0 h0))
        exact h4,by rw[hrl];exact hlc,fun r j hj hr=>by
        rw[hrl] at hr
        obtain⟨v,h1,h2,_,_,h5⟩:=hcell r j she[j] hr (List.getElem?_eq_getElem hj)
        exact⟨h5,v,h1,h2⟩⟩)
       exact hR
      ·intro r hr
       rw[qhT] at hr
       obtain⟨i,hi⟩:=List.getElem?_of_mem hr
       have hil:i<len:=by have:=qk hi;simpa[hlen] using this
       have:r=qiZ (elems[i]'(by omega)).1:=by
        rw[←hget i hil,List.getD_eq_getElem?_getD,hi];rfl
       obtain⟨cs',g1,g2⟩:=hrow i hil
       rw[this];exact g2.len.1
      ·intro r j s u hr hs hu
       rw[qhT] at hr
       obtain⟨i,hi⟩:=List.getElem?_of_mem hr
       have hil:i<len:=by have:=qk hi;simpa[hlen] using this
       have:r=qiZ (elems[i]'(by omega)).1:=by
        rw[←hget i hil,List.getD_eq_getElem?_getD,hi];rfl
       subst this
       obtain⟨_,_,_,h3,_⟩:=hcell i j s hil hs
       simpa[List.getD_eq_getElem?_getD,hu] using h3
   ·
    rename_i m e es
    obtain⟨ht,rfl⟩:=q9h hE hd
    cases he:E.shape n e with
    | none=>rw[he] at hsh;cases hsh
    | some she=>
     rw[he] at hsh
     cases hsh
     obtain⟨xs,m0,hf,hx,hcl,hxl,hel⟩:=DataW.trod_array ht h
     cases hf
     cases hx
     have hsz:m*P.cellsOf e=cs.length:=by
      rw[hcl]
      have h1:=Nat.eq_of_beq_eq_true hl
      obtain⟨_,i,dd,h2,_,_,h4,_⟩:=kO hE (t:=t) (by rw[hd];rfl)
      rw[h1,h4]
      unfold Program.cellsOf
      rw[h2];rfl
     have:=qqn (cs:=cs) he (fun t cs d ps sh h1 h2=>ih n t cs d ps sh h1 h2) m 0 xs (by simpa using hsz) hxl (fun i hi=>by simpa using hel i hi)
     simpa[qiZ] using this
   ·
    rename_i fs
    obtain⟨fields,ht,rfl⟩:=q6b hE hd
    cases hm:(fields.toList.map fun f=>(f.offset,f.type,P.cellsOf f.type)).mapM fun f=>E.shape n f.2.1 with
    | none=>rw[hm] at hsh;cases hsh
    | some shs=>
     rw[hm] at hsh
     cases hsh
     obtain⟨xs,m0,hf,hx,hcl,hxl,hel⟩:=DataW.trod_struct ht h
     cases hf
     cases hx
     simp only[Bool.and_eq_true] at hl
     have hsz:qtL (fields.toList.map fun f=>(f.offset,f.type,P.cellsOf f.type))=cs.length:=by
      rw[hcl]
      have h1:=Nat.eq_of_beq_eq_true hl.2
      obtain⟨_,i,dd,h2,_,_,h4,_⟩:=kO hE (t:=t) (by rw[hd];rfl)
      rw[h1,h4]
      unfold Program.cellsOf
      rw[h2];rfl
     have:=qnO (cs:=cs) (fun t cs d ps sh h1 h2=>ih n t cs d ps sh h1 h2) _ 0 xs shs hl.1 (by simpa using hsz) hm (by simpa using hxl) (fun i f hf=>by
      rw[List.getElem?_map] at hf
      cases hfi:fields.toList[i]? with
      | none=>rw[hfi] at hf;cases hf
      | some g=>
       rw[hfi] at hf
       cases hf
       exact hel i g (by simpa using hfi))
     simpa[qiZ] using this
end
end Go.Eng

namespace Go.Eng
open Go.RowKit
inductive UFits:List Sh→List U→Prop
 | nil:UFits [] []
 | cons {s:Sh} {u:U} {sh:List Sh} {us:List U} (h:UFit s u) (t:UFits sh us):UFits (s::sh) (u::us)
theorem CR.fits{W:World}{M:Nat→Prop}{a:List Sh}{b:List U}{c:List Value}(h:CR W M a b c):UFits a b:=by
 induction h with
 | nil=>exact .nil
 | cons h f t ih=>exact .cons f ih
def q75:List Sh→List U→List AV
 | .int k::sh,u::us=>.int k u.toI::q75 sh us
 | .bool::sh,u::us=>.bool u.toB::q75 sh us
 | .str::sh,u::us=>.str u.toS::q75 sh us
 | .sl row::sh,u::us=>.imm row u.toR::q75 sh us
 | _,_=>[]
theorem quV{X:Ctx}{sh:List Sh}{us:List U}{vs:List Value}(h:CR X.w X.M sh us vs):RepL X (q75 sh us) vs:=by
 induction h with
 | nil=>exact .nil
 | cons h f t ih=>
  rename_i s u v sh us vs
  cases s with
  | int k=>cases h;exact .cons (.int _ _) ih
  | bool=>cases h;exact .cons (.bool _) ih
  | str=>cases h;exact .cons (.str _) ih
  | sl row=>exact .cons (.imm _ _ _ (qhR h)) ih
def qp8(agg:Bool)(sh:List Sh)(us:List U):AV:=match agg with
 | true=>.agg (q75 sh us)
 | false=>(q75 sh us).headD .undef
section
variable {H:Type} {enc:TypeId×Value→H} {P:Program} {W:World} {base:Nat} {sp:Nat→Bool} {held:Bool} {E:Env}
theorem qoM(hE:E.tok P)(hlay:E.tt.all (fun x=>qqv x.2)=true){X:Ctx}(hw:X.w=W)(hM:X.M=fun b=>b<W.heap.size){r:Reach}{b0:Nat}{n:Nat}{t:TypeId}{v:Value}{d:DataW H}{ps:List MemPlace}{sh:List Sh}
  (hsh:E.shape n t=some sh) (hv:Value.okWide P W r b0 t v) (hd:DataW.Trod enc P W base sp held t v d ps):UFits sh (qiZ d)∧Rep X (qp8 (E.ty t).d.isAgg sh (qiZ d)) v:=by
 obtain⟨fuel,hf⟩:=hd
 have hc:=qsY hE hlay fuel n t _ d ps sh hsh hf
 refine⟨hc.fits,?_⟩
 have hr:RepL X (q75 sh (qiZ d)) v.cells.toList:=quV (by rw[hw,hM];exact hc)
 have hone:∀(_:(E.ty t).d.isAgg=false),v.cells=#[v]→Rep X (qp8 (E.ty t).d.isAgg sh (qiZ d)) v:=by
  intro ha hcell
  rw[ha]
  rw[hcell] at hr
  simp only[qp8]
  generalize q75 sh (qiZ d)=l at hr
  cases hr with
  | cons h1 h2=>simpa using h1
 unfold Value.okWide at hv
 cases n with
 | zero=>simp[Env.shape] at hsh
 | succ n=>
  simp only[Env.shape] at hsh
  cases hd:(E.ty t).d<;>rw[hd] at hsh hone<;>simp only at hsh<;>try (cases hsh)
  ·rw[qlv hE hd] at hv
   refine hone rfl ?_
   cases v<;>simp[Cell.okWide,qlv hE hd,Cell.ok] at hv<;>rfl
  ·rw[qlb hE hd] at hv
   refine hone rfl ?_
   cases v<;>simp[Cell.okWide,qlb hE hd,Cell.ok] at hv<;>rfl
  ·rw[qfg hE hd] at hv
   refine hone rfl ?_
   cases v<;>simp[Cell.okWide,qfg hE hd,Cell.ok] at hv<;>rfl
  ·rw[(kW hE hd).1] at hv
   refine hone rfl ?_
   cases v<;>simp[Cell.okWide,(kW hE hd).1,Cell.ok] at hv<;>rfl
  ·rw[(q9h hE hd).1] at hv
   obtain⟨cs,rfl,_,_⟩:=hv
   simp only[TD.isAgg,qp8]
   exact .agg _ _ (by simpa[Value.cells] using hr)
  ·obtain⟨fields,ht,_⟩:=q6b hE hd
   rw[ht] at hv
   obtain⟨cs,rfl,_,_⟩:=hv
   simp only[TD.isAgg,qp8]
   exact .agg _ _ (by simpa[Value.cells] using hr)
end
def qra(W:World):Ctx:={ σ:=fun _=>none,h:=[],w:=W,M:=fun b=>b<W.heap.size }
def qui(W:World):Base:={ w0:=W,imps:=[],M0:=fun b=>b<W.heap.size,fs:=[] }
theorem qBt(W:World):HSim (qui W) (qra W):=by
 have hno:∀b n,¬(qra W).own b n:=by
  intro b n ⟨h,_⟩;cases h
 refine⟨fun b k h=>?_,fun b b' n h=>absurd h (hno b n),fun b n h=>absurd h (hno b n),fun n h=>h,fun n h=>h,fun n h=>.inl h,rfl,rfl,rfl,Nat.le_refl _,fun _ _ _=>rfl,fun b h=>?_,fun b h=>?_,fun b n h=>absurd h (hno b n),fun p hp=>by cases hp⟩
 ·have:([]:List Blk)[b]?=some k:=h
  simp at this
 ·exact absurd h (by simp[qui])
 ·exact absurd h (by simp[qui])
theorem qAn(W:World):Entry (qui W) (qra W):=⟨rfl,rfl,fun _ h=>h⟩
theorem qpx{P:Program}{gl:List (Nat×AV)}{f:FuncId}{G:q07}(hG:qX P gl f G){W:World}(hgl:q95 gl (qra W)){args:List AV}{vargs:List Value}(ha:RepL (qra W) args vargs)
  (h:(G args []).run=some (.bool true,[])):Calls P f vargs.toArray W fun e W'=>e=.returned (.bool true)∧Below W.heap.size W W':=by
 refine(hG.2 (qui W) (qra W) args vargs _ (qBt W) (qAn W) hgl ha h).mono fun e W' ⟨v,X',e1,e2,e3,e4,e5,_⟩=>?_
 subst e2
 refine⟨?_,e5.os,e5.tape,e5.output,e5.size,fun k hk=>e5.frame k hk (by simp[qui])⟩
 rw[e1]
 cases e3;rfl
theorem qnp{i:FIn}{outs:List FOut}{T:List PV→TR}{args:List AV}{ps:List PV}(ho:outs=[{ res:=.bool,h:=[] }])(hi:i.take args []=some ps)(hT:(T ps).run=some (0,[.b true])) :
  (qa i outs T args []).run=some (.bool true,[]):=by
 subst ho
 unfold qa
 rw[hi]
 simp only[Tree.run,okR,hT,Option.isSome_some]
 simp only[qzQ,FOut.kinds,AP.kinds,BP.kindsL,List.append_nil,qjP,gB,pR,hT,List.getD_cons_zero,PV.toB,FOut.make,AP.make,BP.makeL,Tree.run]
theorem qoD{P:Program}{W:World}{E:Env}(hE:E.tok P)(hlay:E.tt.all (fun x=>qqv x.2)=true){name:String}{g n:Nat}{t:TypeId}{d:DataW Unit}{sh:List Sh}
  (hg:P.globalNamed name=some g) (hty:(P.globals[g]?).map (·.type)=some t) (hsh:E.shape n t=some sh) {ds:List (String×DataW Unit)} (h:laidMet P ds W) (hm:(name,d)∈ds) :
  qxL (qra W) (g,.eptr sh [qiZ d] 0 0):=by
 obtain⟨ps,hl,_⟩:=h
 have key:∀(ds:List (String×DataW Unit)) (ps:List MemPlace),DataW.LaidVars P W ds ps→(name,d)∈ds→∃cs fuel p,W.var? P name=some cs∧DataW.trod (fun _=>()) P W 0 (fun _=>true) false fuel t cs.toList=some (d,p):=by
  intro ds
  induction ds with
  | nil=>intro ps _ h;cases h
  | cons x ds ih=>
   intro ps hl hm
   obtain⟨nm,dd⟩:=x
   obtain⟨g',t',cs,fuel,p,q,h1,h2,h3,h4,h5,_⟩:=hl
   rcases List.mem_cons.1 hm with he|hm
   ·cases he
    obtain rfl:=Option.some.inj (hg.symm.trans h1)
    obtain rfl:=Option.some.inj (hty.symm.trans h2)
    exact⟨cs,fuel,p,h3,h4⟩
   ·exact ih q h5 hm
 obtain⟨cs,fuel,p,h3,h4⟩:=key ds ps hl hm
 have hc:=qsY hE hlay fuel n t _ d p sh hsh h4
 have hheap:∃T fr,W.heap[g]?=some (.cells cs T fr):=by
  unfold World.var? at h3
  rw[hg] at h3
  simp only[Option.bind_some] at h3
  split at h3
  ·rename_i cs' T fr he
   cases h3
   exact⟨T,fr,he⟩
  ·cases h3
 suffices hs:Rows (qra W).w (qra W).M sh [qiZ d] ⟨g,0,none⟩ by
  refine⟨?_,?_,?_⟩
  ·have:=Rep.eptr (X:=qra W) sh [qiZ d] 0 0 ⟨g,0,none⟩ rfl (Int.le_refl _) (by simp) hs
   simpa using this
  ·obtain⟨T,fr,he⟩:=hheap
   exact(Array.getElem?_eq_some_iff.1 he).1
  ·have:=World.var?_cell hg h3 sh.length
   show W.cell? ⟨g,sh.length*1,none⟩=none
   rw[Nat.mul_one,this,Array.getElem?_eq_none]
   rw[←Array.length_toList,hc.len.2]
   exact Nat.le_refl _
 intro r j hj hr
 have hr0:r=0:=by simpa using hr
 subst hr0
 obtain⟨u,v,e1,e2,e3,_⟩:=hc.get j sh[j] (List.getElem?_eq_getElem hj)
 have hcell:W.cell? ⟨g,j,none⟩=some v:=by
  have:=World.var?_cell hg h3 j
  rw[this];simpa using e2
 refine⟨World.block_lt_of_cell? W ⟨g,j,none⟩ hcell,v,?_,?_⟩
 ·rw[Nat.zero_mul,Nat.add_zero,Nat.zero_add];exact hcell
 have:wS [qiZ d] (0:Nat) j=u:=by simp[wS,List.getD_eq_getElem?_getD,e1]
 rw[this];exact e3
theorem UFits.int{k:IntKind}{sh:List Sh}{us:List U}(h:UFits (.int k::sh) us):∃n us',us=.i n::us'∧k.min≤n∧n≤k.max∧UFits sh us':=by
 cases h with
 | cons h t=>cases h with
  | int k n h0 h1=>exact⟨n,_,rfl,h0,h1,t⟩
theorem UFits.bool{sh:List Sh}{us:List U}(h:UFits (.bool::sh) us):∃b us',us=.b b::us'∧UFits sh us':=by
 cases h with
 | cons h t=>cases h with
  | bool b=>exact⟨b,_,rfl,t⟩
theorem UFits.str{sh:List Sh}{us:List U}(h:UFits (.str::sh) us):∃s us',us=.s s::us'∧s.length≤maxLen∧UFits sh us':=by
 cases h with
 | cons h t=>cases h with
  | str s h0=>exact⟨s,_,rfl,h0,t⟩
theorem UFits.sl{row sh:List Sh}{us:List U}(h:UFits (.sl row::sh) us):∃l us',us=.l l::us'∧UFit (.sl row) (.l l)∧UFits sh us':=by
 cases h with
 | cons h t=>
  rename_i u us
  cases u with
  | l x=>exact⟨x,_,rfl,h,t⟩
  | _=>cases h
theorem UFits.none{us:List U}(h:UFits [] us):us=[]:=by cases h;rfl
end Go.Eng

namespace Go.Eng
theorem qhh{α:Type}(b:Bool)(t e:Tree α):(Tree.br b t e).run=if b=true then t.run else e.run:=by cases b<;>rfl
theorem q6Z{α:Type}(a:α):(Tree.leaf a).run=some a:=rfl
theorem qy4{α:Type}:(Tree.fail:Tree α).run=none:=rfl
theorem qq2{R:TR}{x:Nat×List PV}(h:R.run=some x):okR R=true:=by simp[okR,h]
theorem qxc{R:TR}{j:Nat}{ps:List PV}(h:R.run=some (j,ps))(i:Nat):pR R i=ps.getD i (.i 0):=by simp[pR,h]
theorem yx{x y:Int}(h:-9223372036854775808≤x+y∧x+y≤9223372036854775807):qt .i64 x y=x+y:=by
 unfold qt IntKind.wrap
 simp[IntKind.signed,IntKind.bits];omega
theorem q2r{x y:Int}(h:-9223372036854775808≤x-y∧x-y≤9223372036854775807):qP .i64 x y=x-y:=by
 unfold qP IntKind.wrap
 simp[IntKind.signed,IntKind.bits];omega
theorem q8y{x y:Int}(h:-9223372036854775808≤x*y∧x*y≤9223372036854775807):kN .i64 x y=x*y:=by
 unfold kN IntKind.wrap
 simp[IntKind.signed,IntKind.bits];omega
theorem qoN(x y:Int):(ieq x y=true)=(x=y):=by simp[ieq]
theorem qwd(x y:Int):(ine x y=true)=(x≠y):=by simp[ine]
theorem qnZ(x y:Int):(ilt x y=true)=(x<y):=by simp[ilt]
theorem qdr(x y:Int):(ile x y=true)=(x≤y):=by simp[ile]
theorem qva(x y:Bool):(Go.Eng.beq x y=true)=(x=y):=by simp[Go.Eng.beq]
theorem qAk{a b A B:Int}(h1:-A≤a)(h2:a≤A)(h3:-B≤b)(h4:b≤B):-(A*B)≤a*b∧a*b≤A*B:=by
 have e1:=Int.mul_nonneg (show 0≤A-a by omega) (show 0≤B-b by omega)
 have e2:=Int.mul_nonneg (show 0≤A+a by omega) (show 0≤B+b by omega)
 have e3:=Int.mul_nonneg (show 0≤A-a by omega) (show 0≤B+b by omega)
 have e4:=Int.mul_nonneg (show 0≤A+a by omega) (show 0≤B-b by omega)
 simp only[Int.sub_mul,Int.mul_sub,Int.add_mul,Int.mul_add] at e1 e2 e3 e4
 omega
theorem qzk{x:Int}(h:-9223372036854775807≤x∧x≤9223372036854775807):qP .i64 0 x=-x:=by
 rw[q2r (by omega)];omega
theorem qxs(b:Bool):((!b)=true)=¬(b=true):=by cases b<;>simp
theorem qy3(x y:Bool):(qxk x y=true)=(x=true∧y=true):=by simp[qxk]
theorem qzV(i n:Int):(inb i n=true)=(0≤i∧i<n):=by simp[inb]
theorem qzs(i n:Int):(q8Y i n=true)=(0≤i∧i≤n):=by simp[q8Y]
theorem STD:(∀(α:Type) (b:Bool) (t e:Tree α),(Tree.br b t e).run=if b=true then t.run else e.run)∧(∀(α:Type) (a:α),(Tree.leaf a).run=some a)∧(∀(α:Type),(Tree.fail:Tree α).run=none) ∧
  (∀R:TR,okR R=R.run.isSome)∧(∀(α:Type) (a:α),(some a).isSome=true)∧(∀(R:TR) (i:Nat),gI R i=(pR R i).toI)∧(∀(R:TR) (i:Nat),gB R i=(pR R i).toB)∧(∀(R:TR) (i:Nat),gS R i=(pR R i).toS)∧(∀(R:TR) (i:Nat),gR R i=(pR R i).toR) ∧
  (∀(R:TR) (i:Nat),pR R i=R.run.elim (.i 0) fun r=>r.2.getD i (.i 0))∧(∀(α β:Type) (b:β) (f:α→β) (a:α),(some a).elim b f=f a) ∧
  (∀(a:PV) (l:List PV) (d:PV),(a::l).getD 0 d=a)∧(∀(a:PV) (l:List PV) (d:PV) (n:Nat),(a::l).getD (n+1) d=l.getD n d) ∧
  (∀n,(PV.i n).toI=n)∧(∀b,(PV.b b).toB=b)∧(∀s,(PV.s s).toS=s)∧(∀l,(PV.r l).toR=l) ∧
  (∀(α:Type) (h:Decidable True) (a b:α),@ite α True h a b=a)∧(∀(α:Type) (h:Decidable False) (a b:α),@ite α False h a b=b)∧((false=true)=False)∧((true=false)=False)∧((true=true)=True) ∧
  (∀x y,(ieq x y=true)=(x=y))∧(∀x y,(ine x y=true)=(x≠y))∧(∀x y,(ilt x y=true)=(x<y))∧(∀x y,(ile x y=true)=(x≤y))∧(∀x y,(Go.Eng.beq x y=true)=(x=y)) ∧
  (∀x y,(qxk x y=true)=(x=true∧y=true))∧(∀b:Bool,((!b)=true)=¬(b=true))∧(∀i n,(inb i n=true)=(0≤i∧i<n))∧(∀i n,(q8Y i n=true)=(0≤i∧i≤n)) ∧
  (∀(p:Prop) (_:Decidable p),(decide p=true)=p)∧(∀(α:Type) (a b:α),(a≠b)=¬(a=b))∧(¬True)=False∧(¬False)=True:=
 ⟨fun _=>qhh,fun _=>q6Z,fun _=>qy4,fun _=>rfl,fun _ _=>rfl,fun _ _=>rfl,fun _ _=>rfl,fun _ _=>rfl,fun _ _=>rfl,fun R i=>by unfold pR;cases R.run<;>rfl,fun _ _ _ _ _=>rfl,
  fun _ _ _=>rfl,fun _ _ _ _=>rfl,fun _=>rfl,fun _=>rfl,fun _=>rfl,fun _=>rfl,fun _ _ _ _=>by simp,fun _ _ _ _=>by simp,by simp,by simp,by simp,qoN,qwd,qnZ,qdr,qva,
  qy3,qxs,qzV,qzs,fun _ _=>by simp,fun _ _ _=>rfl,by simp,by simp⟩
theorem qN{R:TR}{j:Nat}{ps:List PV}(h:R.run=some (j,ps))(i:Nat):(jIs R i=true)=(j=i):=by simp[jIs,jR,h]
theorem run_bind{α β:Type}(t:Tree α)(f:α→Tree β):(t.bind f).run=t.run.bind fun a=>(f a).run:=by
 induction t with
 | leaf a=>rfl
 | br b t e iht ihe=>cases b<;>simp[Tree.bind,Tree.run,iht,ihe]
 | fail=>rfl
theorem qew{S:List PV→TR}{n:Nat}{ps qs:List PV}(h:(S ps).run=some (0,qs)):(qih S (n+1) ps).run=(qih S n qs).run:=by
 simp[qih,run_bind,h]
theorem q6e{S:List PV→TR}{n j:Nat}{ps qs:List PV}(h:(S ps).run=some (j+1,qs)):(qih S (n+1) ps).run=some (j,qs):=by
 simp[qih,run_bind,h,Tree.run]
def q0b{α:Type}(f:Nat→Option α):Nat→Nat→Option α
 | _,0=>none
 | i,k+1=>match f i with
  | some a=>some a
  | none=>q0b f (i+1) k
theorem qnq{S:List PV→TR}(st:Nat→List PV)(f:Nat→Option (Nat×List PV))(fin:Nat×List PV)(n:Nat)
  (h1:∀i,i<n→f i=none→(S (st i)).run=some (0,st (i+1))) (h2:∀i r,i<n→f i=some r→(S (st i)).run=some (r.1+1,r.2))
  (h3:(S (st n)).run=some (fin.1+1,fin.2)):∀(k i m:Nat),i+k=n→k<m→(qih S m (st i)).run=some ((q0b f i k).getD fin)
 | 0,i,m,hi,hm=>by
  obtain⟨m,rfl⟩:∃m',m=m'+1:=⟨m-1,by omega⟩
  have:i=n:=by omega
  subst this
  rw[q6e h3];rfl
 | k+1,i,m,hi,hm=>by
  obtain⟨m,rfl⟩:∃m',m=m'+1:=⟨m-1,by omega⟩
  cases hf:f i with
  | none=>
   rw[qew (h1 i (by omega) hf),qnq st f fin n h1 h2 h3 k (i+1) m (by omega) (by omega)]
   simp[q0b,hf]
  | some r=>
   rw[q6e (h2 i r (by omega) hf)]
   simp[q0b,hf]
theorem q6f{S:List PV→TR}(st:Nat→List PV)(f:Nat→Option (Nat×List PV))(fin:Nat×List PV)(n:Nat)(hn:n<9223372036854775808)
  (h1:∀i,i<n→f i=none→(S (st i)).run=some (0,st (i+1))) (h2:∀i r,i<n→f i=some r→(S (st i)).run=some (r.1+1,r.2))
  (h3:(S (st n)).run=some (fin.1+1,fin.2)):(ql S (st 0)).run=some ((q0b f 0 n).getD fin):=
 qnq st f fin n h1 h2 h3 n 0 qdW (by omega) (Nat.lt_trans hn (by unfold qdW;decide))
theorem q0B{S:List PV→TR}(st:Nat→List PV)(fin:Nat×List PV)(n:Nat)(hn:n<9223372036854775808)
  (h1:∀i,i<n→(S (st i)).run=some (0,st (i+1))) (h3:(S (st n)).run=some (fin.1+1,fin.2)):(ql S (st 0)).run=some fin:=by
 have h:=q6f st (fun _=>none) fin n hn (fun i hi _=>h1 i hi) (fun i r _ h=>by cases h) h3
 have e:∀k i,q0b (fun _=>(none:Option (Nat×List PV))) i k=none:=by
  intro k;induction k with
  | zero=>intro i;rfl
  | succ k ih=>intro i;simp[q0b,ih]
 rw[e] at h;exact h
theorem q1z{α:Type}{f:Nat→Option α}:∀{k i:Nat},q0b f i k=none→∀j,i≤j→j<i+k→f j=none
 | 0,i,_,j,h1,h2=>by omega
 | k+1,i,h,j,h1,h2=>by
  simp only[q0b] at h
  cases hf:f i with
  | some a=>rw[hf] at h;cases h
  | none=>
   rw[hf] at h
   rcases Nat.eq_or_lt_of_le h1 with rfl|h1
   ·exact hf
   ·exact q1z h j h1 (by omega)
theorem qeD{α:Type}{f g:Nat→Option α}:∀{k i:Nat},(∀j,i≤j→j<i+k→f j=g j)→q0b f i k=q0b g i k
 | 0,i,_=>rfl
 | k+1,i,h=>by
  simp only[q0b]
  rw[h i (by omega) (by omega),qeD (fun j h1 h2=>h j (by omega) (by omega))]
theorem qbZ{α β:Type}(g:α→β){f:Nat→Option α}:∀{k i:Nat},q0b (fun j=>(f j).map g) i k=(q0b f i k).map g
 | 0,i=>rfl
 | k+1,i=>by
  simp only[q0b]
  cases f i with
  | some a=>rfl
  | none=>exact qbZ g
theorem q57{i n:Nat}(h:i<n)(hn:n<9223372036854775808):qt .i64 (i:Int) 1=((i+1:Nat):Int):=by
 rw[yx (by omega)];omega
theorem qkj{α:Type}(n:Nat):∀i,q0b (fun _=>(none:Option α)) i n=none:=by
 induction n with
 | zero=>intro i;rfl
 | succ n ih=>intro i;simp[q0b,ih]
def pick(p:Nat→Bool):Nat→R
 | 0=>[]
 | n+1=>if p n then q7J (pick p n) [[.i (n:Int)]] else pick p n
def q5x(f:Nat→Int)(i:Nat):Option Int:=if f i=0 then none else some (f i)
theorem qlH{f:Nat→Int}{n:Nat}(h:q0b (q5x f) 0 n=none)(i:Nat)(hi:i<n):f i=0:=by
 have:=q1z h i (by omega) (by omega)
 unfold q5x at this;split at this
 ·assumption
 ·cases this
theorem qgR{f:Nat→Int}:∀{k i:Nat} {e:Int},q0b (q5x f) i k=some e→e≠0
 | 0,i,e,h=>by cases h
 | k+1,i,e,h=>by
  simp only[q0b] at h
  unfold q5x at h
  by_cases h0:f i=0
  ·rw[if_pos h0] at h;exact qgR h
  ·rw[if_neg h0] at h;simp at h;omega
def q9q(e:Nat→Int)(n:Nat):Int:=(q0b (q5x e) 0 n).getD 0
theorem qsd{e:Nat→Int}{n:Nat}(h:q9q e n=0)(i:Nat)(hi:i<n):e i=0:=by
 unfold q9q at h
 cases hs:q0b (q5x e) 0 n with
 | none=>exact qlH hs i hi
 | some x=>rw[hs] at h;exact absurd h (qgR hs)
theorem qqQ{e:Nat→Int}{n:Nat}(h:∀i,i<n→e i=0):q9q e n=0:=by
 unfold q9q
 rw[qeD (g:=fun _=>none) (fun j _ hj=>by unfold q5x;rw[if_pos (h j (by omega))]),qkj];rfl
theorem qoJ{S:List PV→TR}(st:Nat→List PV)(e:Nat→Int)(caps fin:List PV)(n:Nat)(hn:n<9223372036854775808)
  (h:∀i,i<n→(S (st i)).run=if e i=0 then some (0,st (i+1)) else some (2,.i (e i)::caps)) (h3:(S (st n)).run=some (1,fin)) :
  (ql S (st 0)).run=some (if q9q e n=0 then (0,fin) else (1,.i (q9q e n)::caps)):=by
 have key:=q6f st (fun i=>(q5x e i).map fun x=>(1,PV.i x::caps)) (0,fin) n hn (fun i hi hf=>by
  rw[h i hi];unfold q5x at hf;split at hf
  ·rename_i h0;rw[if_pos h0]
  ·simp at hf) (fun i r hi hf=>by
  rw[h i hi];unfold q5x at hf;split at hf
  ·simp at hf
  ·rename_i h0;simp at hf;rw[if_neg h0,←hf]) h3
 rw[key,qbZ]
 unfold q9q
 cases hs:q0b (q5x e) 0 n with
 | none=>simp
 | some x=>simp[qgR hs]
def qBB(g:Nat→List U)(n:Nat):R:=(List.range n).map g
theorem qqy{l:R}{i:Nat}(h:i<l.length):(i:Int)<qh l:=by unfold qh;omega
theorem qxf(l:R):¬((l.length:Int)<qh l):=by unfold qh;omega
theorem q94(i:Nat):(0:Int)≤(i:Int):=by omega
theorem qxw(a:List U):qh [a]=1:=rfl
end Go.Eng

namespace Go.Eng
def dch(d:Nat):UInt8:=UInt8.ofNat (48+d)
def dv(c:UInt8):Nat:=c.toNat-48
def qcS(s:List UInt8):Prop:=∀c,c∈s→48≤c.toNat∧c.toNat≤57
def val(s:List UInt8):Nat:=s.foldl (fun a c=>10*a+dv c) 0
def tNf:Nat→Nat→List UInt8
 | 0,_=>[]
 | f+1,n=>if n<10 then [dch n] else tNf f (n/10)++[dch (n%10)]
def tN(n:Nat):List UInt8:=tNf (n+1) n
def tI(n:Int):List UInt8:=if n<0 then 45::tN n.natAbs else tN n.natAbs
theorem qhH{d:Nat}(h:d<10):(dch d).toNat=48+d:=by
 unfold dch;rw[UInt8.toNat_ofNat'];omega
theorem qyC{d:Nat}(h:d<10):dv (dch d)=d:=by unfold dv;rw[qhH h];omega
theorem qyG{c:UInt8}(h1:48≤c.toNat)(h2:c.toNat≤57):dch (dv c)=c:=by
 apply UInt8.toNat_inj.1
 rw[qhH (by unfold dv;omega)];unfold dv;omega
theorem qtt(s:List UInt8)(c:UInt8):val (s++[c])=10*val s+dv c:=by simp[val,List.foldl_append]
theorem qmh:∀(t:List UInt8) (a:Nat),t.foldl (fun a c=>10*a+dv c) a=a*10^t.length+val t
 | [],a=>by simp[val]
 | c::t,a=>by
  have h1:=qmh t (10*a+dv c)
  have h2:=qmh t (10*0+dv c)
  have h3:val (c::t)=t.foldl (fun a c=>10*a+dv c) (10*0+dv c):=rfl
  rw[h3,h2,List.foldl_cons,h1,List.length_cons,Nat.pow_succ]
  grind
theorem qp5(s t:List UInt8):val (s++t)=val s*10^t.length+val t:=by
 have h:val (s++t)=t.foldl (fun a c=>10*a+dv c) (val s):=by simp[val,List.foldl_append]
 rw[h,qmh]
theorem q9y(c:UInt8)(t:List UInt8):val (c::t)=dv c*10^t.length+val t:=by
 have:=qp5 [c] t
 simpa[val] using this
theorem qoa:val []=0:=rfl
theorem qsm(c:UInt8):val [c]=dv c:=by simp[val]
theorem qxv:qcS []:=fun c h=>by cases h
theorem q2V{c:UInt8}{s:List UInt8}:qcS (c::s)↔(48≤c.toNat∧c.toNat≤57)∧qcS s:=by
 unfold qcS;simp
theorem qh3{s t:List UInt8}:qcS (s++t)↔qcS s∧qcS t:=by
 unfold qcS;simp only[List.mem_append]
 exact⟨fun h=>⟨fun c hc=>h c (.inl hc),fun c hc=>h c (.inr hc)⟩,fun h c hc=>hc.elim (h.1 c) (h.2 c)⟩
theorem qzf{c:UInt8}(h:48≤c.toNat∧c.toNat≤57):dv c<10:=by unfold dv;omega
theorem qdD:∀{s:List UInt8},qcS s→val s<10^s.length
 | [],_=>by simp[val]
 | c::s,h=>by
  obtain⟨h1,h2⟩:=q2V.1 h
  have ih:=qdD h2
  have hd:=qzf h1
  rw[q9y,List.length_cons,Nat.pow_succ]
  have:dv c*10^s.length≤9*10^s.length:=Nat.mul_le_mul_right _ (by omega)
  omega
theorem qsQ{d:Nat}(h:d<10):qcS [dch d]:=by
 intro c hc
 simp at hc;subst hc
 rw[qhH h];omega
theorem qyM:∀(f g n:Nat),n<f→n<g→tNf f n=tNf g n
 | 0,_,n,h,_=>by omega
 | _,0,n,_,h=>by omega
 | f+1,g+1,n,h1,h2=>by
  unfold tNf
  by_cases h:n<10
  ·rw[if_pos h,if_pos h]
  ·rw[if_neg h,if_neg h,qyM f g (n/10) (by omega) (by omega)]
theorem qrA{n:Nat}(h:n<10):tN n=[dch n]:=by unfold tN tNf;rw[if_pos h]
theorem quk{n:Nat}(h:10≤n):tN n=tN (n/10)++[dch (n%10)]:=by
 have:tN n=tNf n (n/10)++[dch (n%10)]:=by
  show tNf (n+1) n=_
  rw[tNf,if_neg (by omega)]
 rw[this,qyM n (n/10+1) (n/10) (by omega) (by omega)];rfl
theorem qo2(n:Nat):qcS (tN n)∧tN n≠[]∧val (tN n)=n:=by
 induction n using Nat.strongRecOn with
 | _ n ih=>
  by_cases h:n<10
  ·rw[qrA h];exact⟨qsQ h,by simp,by rw[qsm,qyC h]⟩
  ·rw[quk (by omega)]
   obtain⟨h1,h2,h3⟩:=ih (n/10) (by omega)
   refine⟨qh3.2 ⟨h1,qsQ (by omega)⟩,by simp,?_⟩
   rw[qtt,h3,qyC (by omega)];omega
theorem jK(n:Nat):qcS (tN n):=(qo2 n).1
theorem qlr(n:Nat):tN n≠[]:=(qo2 n).2.1
theorem q4Z(n:Nat):val (tN n)=n:=(qo2 n).2.2
theorem qkk(n:Nat):0<(tN n).length:=List.length_pos_iff.2 (qlr n)
theorem qav:∀(k n:Nat),n<10^(k+1)→(tN n).length≤k+1
 | 0,n,h=>by rw[qrA (by simpa using h)];simp
 | k+1,n,h=>by
  by_cases h10:n<10
  ·rw[qrA h10];simp
  ·rw[quk (by omega),List.length_append]
   have:=qav k (n/10) (by rw[Nat.pow_succ] at h;omega)
   simp;omega
theorem qqZ:∀(k n:Nat),10^k≤n→k<(tN n).length
 | 0,n,_=>qkk n
 | k+1,n,h=>by
  have hp:0<10^k:=Nat.pow_pos (by omega)
  rw[Nat.pow_succ] at h
  rw[quk (by omega),List.length_append]
  have:=qqZ k (n/10) (by omega)
  simp;omega
theorem qgS{k n:Nat}(h:(tN n).length≤k):n<10^k:=by
 have:=qdD (jK n)
 rw[q4Z] at this
 exact Nat.lt_of_lt_of_le this (Nat.pow_le_pow_right (by omega) h)
def qBu(s:List UInt8):Prop:=s.length=1∨s.getD 0 0≠48
theorem qtD{s:List UInt8}(hd:qcS s)(hn:s≠[])(h:s.getD 0 0≠48):10^(s.length-1)≤val s:=by
 cases s with
 | nil=>exact absurd rfl hn
 | cons c s=>
  obtain⟨h1,h2⟩:=q2V.1 hd
  simp at h
  have hc:1≤dv c:=by
   unfold dv
   have:c.toNat≠48:=fun e=>h (UInt8.toNat_inj.1 (by simpa using e))
   omega
  rw[q9y,List.length_cons,Nat.add_sub_cancel]
  have:1*10^s.length≤dv c*10^s.length:=Nat.mul_le_mul_right _ hc
  omega
theorem qyq:∀(n:Nat) {s:List UInt8},s.length=n+1→qcS s→qBu s→tN (val s)=s
 | 0,s,hl,hd,_=>by
  match s,hl with
  | [c],_=>
   have h1:=(q2V.1 hd).1
   rw[qsm,qrA (qzf h1),qyG h1.1 h1.2]
 | n+1,s,hl,hd,hz=>by
  obtain⟨i,c,rfl⟩:∃i c,s=i++[c]:=⟨s.dropLast,s.getLast (by intro h;simp[h] at hl),(List.dropLast_concat_getLast _).symm⟩
  have hil:i.length=n+1:=by simpa using hl
  obtain⟨h1,h2⟩:=qh3.1 hd
  have hc:=(q2V.1 h2).1
  have hi:i≠[]:=by intro h;simp[h] at hil
  have hz0:i.getD 0 0≠48:=by
   rcases hz with hz|hz
   ·exact absurd (by simpa using hz) hi
   ·cases i with
    | nil=>exact absurd rfl hi
    | cons a i=>simpa using hz
  have hv:1≤val i:=Nat.le_trans (Nat.one_le_pow _ _ (by omega)) (qtD h1 hi hz0)
  have hd10:=qzf hc
  rw[qtt,quk (n:=10*val i+dv c) (by omega),show (10*val i+dv c)/10=val i by omega,show (10*val i+dv c)%10=dv c by omega,qyG hc.1 hc.2,qyq n hil h1 (.inr hz0)]
theorem qsB{s:List UInt8}(hd:qcS s)(hn:s≠[])(hz:qBu s):s=tN (val s):=
 (qyq (s.length-1) (by have:=List.length_pos_iff.2 hn;omega) hd hz).symm
theorem qtA{m n:Nat}(h:tN m=tN n):m=n:=by rw[←q4Z m,h,q4Z]
theorem qvk(n:Nat):qBu (tN n):=by
 induction n using Nat.strongRecOn with
 | _ n ih=>
  by_cases h:n<10
  ·rw[qrA h];exact .inl rfl
  ·rw[quk (by omega)]
   right
   by_cases h2:n/10<10
   ·rw[qrA h2]
    intro e
    have:(dch (n/10)).toNat=48:=by
     have e':dch (n/10)=48:=by simpa using e
     rw[e'];rfl
    rw[qhH h2] at this;omega
   ·have h3:(tN (n/10)).length≠1:=by
     have:=qqZ 1 (n/10) (by omega);omega
    rcases ih (n/10) (by omega) with h4|h4
    ·exact absurd h4 h3
    ·cases hq:tN (n/10) with
     | nil=>exact absurd hq (qlr _)
     | cons a i=>rw[hq] at h4;simpa using h4
theorem qzl(t:List UInt8):slt [] t=!t.isEmpty:=by cases t<;>rfl
theorem qy8(a b:UInt8)(s t:List UInt8):slt (a::s) (b::t)=(decide (a<b)||(a==b&&slt s t)):=by
 unfold slt
 simp only[Op.bytesLess]
theorem qrN:∀{s t:List UInt8},qcS s→qcS t→s.length=t.length→((slt s t=true)=(val s<val t))
 | [],[],_,_,_=>by simp[qzl,qoa]
 | a::s,b::t,h1,h2,hl=>by
  obtain⟨ha,hs⟩:=q2V.1 h1
  obtain⟨hb,ht⟩:=q2V.1 h2
  have hl':s.length=t.length:=by simpa using hl
  have ih:=qrN hs ht hl'
  have v1:=qdD hs
  have v2:=qdD ht
  rw[qy8,q9y,q9y,hl']
  rw[hl'] at v1
  have hab:(a<b)=(dv a<dv b):=by
   unfold dv;rw[UInt8.lt_iff_toNat_lt];simp only[eq_iff_iff];omega
  have hab2:(a=b)=(dv a=dv b):=by
   unfold dv;rw[←UInt8.toNat_inj];simp only[eq_iff_iff];omega
  simp only[Bool.or_eq_true,decide_eq_true_eq,Bool.and_eq_true,beq_iff_eq,eq_iff_iff,ih,hab,hab2]
  generalize 10^t.length=p at *
  generalize dv a=x at *
  generalize dv b=y at *
  constructor
  ·rintro (h|⟨rfl,h⟩)
   ·have:=Nat.mul_le_mul_right p (show x+1≤y by omega)
    rw[Nat.add_mul] at this;omega
   ·omega
  ·intro h
   rcases Nat.lt_trichotomy x y with h3|h3|h3
   ·exact .inl h3
   ·subst h3;exact .inr ⟨rfl,by omega⟩
   ·have:=Nat.mul_le_mul_right p (show y+1≤x by omega)
    rw[Nat.add_mul] at this;omega
theorem qbm{m n:Nat}(h:m≤n):(tN m).length≤(tN n).length:=by
 rcases Nat.lt_or_ge (tN n).length (tN m).length with h1|h1
 ·have h2:=qgS (Nat.le_refl (tN n).length)
  have h3:0<(tN n).length:=qkk n
  have:=qav ((tN n).length-1) m (by rw[Nat.sub_add_cancel h3];omega)
  omega
 ·exact h1
theorem qw4(m n:Nat):((tN m).length<(tN n).length∨(tN m).length=(tN n).length∧slt (tN m) (tN n)=true)↔m<n:=by
 constructor
 ·rintro (h|⟨h1,h2⟩)
  ·rcases Nat.lt_or_ge m n with h3|h3
   ·exact h3
   ·have:=qbm h3;omega
  ·rw[qrN (jK m) (jK n) h1,q4Z,q4Z] at h2;exact h2
 ·intro h
  have h1:=qbm (Nat.le_of_lt h)
  rcases Nat.lt_or_ge (tN m).length (tN n).length with h3|h3
  ·exact .inl h3
  ·have h4:(tN m).length=(tN n).length:=by omega
   exact .inr ⟨h4,by rw[qrN (jK m) (jK n) h4,q4Z,q4Z];exact h⟩
theorem qxJ(s:List UInt8):val (48::s)=val s:=by rw[q9y];simp[dv]
theorem qw5(n:Nat)(s:List UInt8):val (List.replicate n 48++s)=val s:=by
 induction n with
 | zero=>rfl
 | succ n ih=>rw[List.replicate_succ,List.cons_append,qxJ,ih]
theorem qtF(n:Nat):qcS (List.replicate n 48):=by
 intro c hc
 rw[(List.mem_replicate.1 hc).2];decide
def rI(l:List Int):R:=l.map fun v=>[.i v]
theorem qBl(l:List Int)(i:Int):cI (rI l) i 0=l.getD i.toNat 0:=by
 unfold cI wS rI
 simp only[List.getD_eq_getElem?_getD,List.getElem?_map]
 cases l[i.toNat]?<;>rfl
theorem qug(x v:U):qq3 [x] 0 [v]=[v]:=rfl
theorem qAC(l:List Int)(i v:Int):qd5 (rI l) i 0 [.i v]=rI (l.set i.toNat v):=by
 unfold qd5 rI
 apply List.ext_getElem?
 intro j
 by_cases hj:j=i.toNat
 ·subst hj
  by_cases hl:i.toNat<l.length
  ·simp[hl,List.getD_eq_getElem?_getD,qug]
  ·rw[List.getElem?_eq_none (by simp;omega),List.getElem?_eq_none (by simp;omega)]
 ·rw[List.getElem?_set_ne (Ne.symm hj),List.getElem?_map,List.getElem?_map,List.getElem?_set_ne (Ne.symm hj)]
theorem qnX(n v:Int):q50 n [.i v]=rI (List.replicate n.toNat v):=by simp[q50,rI]
theorem qyQ{s:List UInt8}{i:Nat}(h:i<s.length):sat s (i:Int)=(s[i].toNat:Int):=by
 unfold sat
 simp[List.getD_eq_getElem?_getD,h]
theorem jD(s t:List UInt8):(seq s t=true)=(s=t):=by simp[seq]
theorem qA4{x:Int}(h:0≤x∧x≤255):quM .u8 x=x:=by
 unfold quM IntKind.wrap
 simp[IntKind.signed,IntKind.bits];omega
theorem qy6(a b:Nat):qpq (a:Int) (b:Int)=((a%b:Nat):Int):=by
 unfold qpq;rw[Int.tmod_eq_emod_of_nonneg (by omega)];rfl
theorem qyo{a b:Nat}(h:a<9223372036854775808):yp .i64 (a:Int) (b:Int)=((a/b:Nat):Int):=by
 unfold yp
 rw[Int.tdiv_eq_ediv_of_nonneg (by omega)]
 have:(a:Int)/(b:Int)=((a/b:Nat):Int):=rfl
 have h2:a/b≤a:=Nat.div_le_self a b
 rw[this]
 generalize a/b=q at *
 unfold IntKind.wrap
 simp[IntKind.signed,IntKind.bits];omega
theorem q5E{S:List PV→TR}(I:Nat→List PV→Prop)(Q:Nat→List PV→Prop){n:Nat}(hn:n<9223372036854775808)
  (h:∀k ps,k≤n→I k ps→(∃k' qs,k'<k∧(S ps).run=some (0,qs)∧I k' qs)∨∃j qs,(S ps).run=some (j+1,qs)∧Q j qs) {ps:List PV} (h0:I n ps):∃j qs,(ql S ps).run=some (j,qs)∧Q j qs:=by
 have key:∀m k ps,k≤n→k<m→I k ps→∃j qs,(qih S m ps).run=some (j,qs)∧Q j qs:=by
  intro m
  induction m with
  | zero=>intro k ps _ h;omega
  | succ m ih=>
   intro k ps hk hm hI
   rcases h k ps hk hI with⟨k',qs,h1,h2,h3⟩|⟨j,qs,h1,h2⟩
   ·obtain⟨j,rs,g1,g2⟩:=ih k' qs (by omega) (by omega) h3
    exact⟨j,rs,by rw[qew h2];exact g1,g2⟩
   ·exact⟨j,qs,q6e h1,h2⟩
 exact key qdW n ps (Nat.le_refl _) (Nat.lt_trans hn (by unfold qdW;decide)) h0
end Go.Eng

namespace Go.Eng
theorem qcF{m:Int}(h:m<0):tI m=45::tN m.natAbs:=by unfold tI;rw[if_pos h]
theorem qh4{m:Int}(h:¬m<0):tI m=tN m.natAbs:=by unfold tI;rw[if_neg h]
theorem qdc(n:Nat):tI (n:Int)=tN n:=by rw[qh4 (by omega)];rfl
theorem qeN{s:List UInt8}(hd:qcS s)(hn:s≠[]):∃c t,s=c::t∧48≤c.toNat∧c.toNat≤57:=by
 cases s with
 | nil=>exact absurd rfl hn
 | cons c t=>exact⟨c,t,rfl,(q2V.1 hd).1⟩
theorem qyB(m:Int):(tI m).length≤(tN m.natAbs).length+1:=by unfold tI;split<;>simp
theorem qqJ(m:Int):0<(tI m).length:=by
 have:=qkk m.natAbs
 unfold tI;split<;>simp<;>omega
theorem qtx{m n:Int}(h:tI m=tI n):m=n:=by
 have key:∀{m n:Int},m<0→¬n<0→tI m≠tI n:=by
  intro m n h1 h2 e
  rw[qcF h1,qh4 h2] at e
  obtain⟨c,t,hc,h3,h4⟩:=qeN (jK n.natAbs) (qlr _)
  rw[hc] at e
  have:=(List.cons.inj e).1
  rw[←this] at h3
  exact absurd h3 (by decide)
 by_cases h1:m<0<;>by_cases h2:n<0
 ·rw[qcF h1,qcF h2] at h
  have:=qtA (List.cons.inj h).2
  omega
 ·exact absurd h (key h1 h2)
 ·exact absurd h.symm (key h2 h1)
 ·rw[qh4 h1,qh4 h2] at h
  have:=qtA h
  omega
theorem qyE(m:Int):(sat (tI m) 0=45)=(m<0):=by
 by_cases h:m<0
 ·rw[qcF h];simp[sat,h]
 ·rw[qh4 h]
  obtain⟨c,t,hc,h3,h4⟩:=qeN (jK m.natAbs) (qlr _)
  rw[hc]
  simp[sat,h];omega
theorem qvj{s:List UInt8}(h:qcS s)(i:Nat):qcS (s.take i):=fun c hc=>h c (List.mem_of_mem_take hc)
theorem qvc{s:List UInt8}(h:qcS s)(i:Nat):qcS (s.drop i):=fun c hc=>h c (List.mem_of_mem_drop hc)
theorem qyp{d:Int}(h0:0≤d)(h:d<10):qzP [[.i (quM .u8 (qt .i64 48 d))]]=[dch d.toNat]:=by
 rw[yx (by omega),qA4 (by omega)]
 show [UInt8.ofNat (48+d).toNat]=[UInt8.ofNat (48+d.toNat)]
 rw[show (48+d).toNat=48+d.toNat by omega]
theorem of_le{a:Nat}{r:List UInt8}(ha:a<10)(hr:r.length≤1000):zJ (qzP [[(.i (quM .u8 (qt .i64 48 (a:Int))))]])+zJ r≤140737488355328:=by
 rw[qyp (by omega) (by omega)]
 show (1:Int)+(r.length:Int)≤_;omega
end Go.Eng

namespace Go.Eng
theorem qsS(a b:Nat):qii (a:Int) (b:Int)=((max a b:Nat):Int):=by unfold qii;split<;>omega
theorem qz8(m n:Nat):(tN (m+n)).length≤max (tN m).length (tN n).length+1:=by
 have h1:=qdD (jK m)
 have h2:=qdD (jK n)
 rw[q4Z] at h1 h2
 have p1:10^(tN m).length≤10^(max (tN m).length (tN n).length):=Nat.pow_le_pow_right (by omega) (by omega)
 have p2:10^(tN n).length≤10^(max (tN m).length (tN n).length):=Nat.pow_le_pow_right (by omega) (by omega)
 exact qav _ _ (by rw[Nat.pow_succ];omega)
theorem qrQ(m n:Nat):(tN (m*n)).length≤(tN m).length+(tN n).length:=by
 have h1:=qdD (jK m)
 have h2:=qdD (jK n)
 rw[q4Z] at h1 h2
 have h3:=qkk m
 have h4:=qkk n
 have:m*n<10^((tN m).length+(tN n).length):=by
  rw[Nat.pow_add]
  exact Nat.mul_lt_mul'' h1 h2
 have:=qav ((tN m).length+(tN n).length-1) (m*n) (by rwa [show (tN m).length+(tN n).length-1+1=(tN m).length+(tN n).length by omega])
 omega
def nl(m:Int):Nat:=(tN m.natAbs).length
theorem qlf(m:Int):0<nl m:=qkk _
theorem qwg(m:Int):nl (-m)=nl m:=by unfold nl;rw[Int.natAbs_neg]
theorem qti(m n:Int):nl (m+n)≤max (nl m) (nl n)+1:=by
 unfold nl
 exact Nat.le_trans (qbm (Int.natAbs_add_le m n)) (qz8 _ _)
theorem q3R(m n:Int):nl (m*n)≤nl m+nl n:=by
 unfold nl;rw[Int.natAbs_mul];exact qrQ _ _
theorem qA0{m:Int}{k:Nat}(h:nl m≤k):m.natAbs<10^k:=qgS h
def sgn(n:Int):Int:=if n<0 then -1 else if n=0 then 0 else 1
end Go.Eng

namespace Go.Eng
theorem jM{l:List Int}{j:Nat}(h:j<l.length):l.getD j 0=l[j]:=by simp[List.getD_eq_getElem?_getD,h]
end Go.Eng

namespace Go.Eng
theorem quD(m:Int){n:Int}(hn:n≠0):n*m.tdiv n+qpq m n=m∧(qpq m n).natAbs<n.natAbs∧(0≤m→0≤qpq m n)∧(m≤0→qpq m n≤0):=by
 unfold qpq
 refine⟨Int.mul_tdiv_add_tmod m n,?_,fun h=>Int.tmod_nonneg n h,fun h=>?_⟩
 ·rw[Int.natAbs_tmod]
  exact Nat.mod_lt _ (by omega)
 ·have:=Int.tmod_nonneg n (show 0≤-m by omega)
  rw[Int.neg_tmod] at this
  omega
end Go.Eng

namespace Go.Eng
theorem quf{n t:Int}(hn:n≠0)(h:-9223372036854775808≤t∧t≤9223372036854775807):yp .i64 (n*t) n=t:=by
 unfold yp
 rw[Int.mul_tdiv_cancel_left _ hn]
 unfold IntKind.wrap
 simp[IntKind.signed,IntKind.bits];omega
theorem qA6:tI 1=[49]:=rfl
end Go.Eng

namespace Go.Eng
def eM(a b:Nat):Nat:=if b=0 then 0 else Nat.log2 (a*b)+1+if a<b then 1 else 0
theorem qwA{m n:Nat}(h:m≤n):Nat.log2 m≤Nat.log2 n:=by
 by_cases hm:m=0
 ·subst hm;simp
 ·rcases Nat.lt_or_ge (Nat.log2 n) (Nat.log2 m) with h1|h1
  ·have:=(Nat.log2_lt (show n≠0 by omega)).1 h1
   have h2:=Nat.log2_self_le hm
   omega
  ·exact h1
theorem qzH{a b:Nat}(hb:b≠0):eM b (a%b)<eM a b:=by
 have hlt:=Nat.mod_lt a (show 0<b by omega)
 unfold eM
 rw[if_neg hb]
 by_cases hr:a%b=0
 ·rw[if_pos hr];omega
 ·rw[if_neg hr,if_neg (show ¬b<a%b by omega)]
  by_cases hab:a<b
  ·rw[if_pos hab,Nat.mod_eq_of_lt hab,Nat.mul_comm b a];omega
  ·rw[if_neg hab]
   have hd:=Nat.div_add_mod a b
   have hq:1≤a/b:=(Nat.le_div_iff_mul_le (by omega)).2 (by omega)
   have h1:b*1≤b*(a/b):=Nat.mul_le_mul_left _ hq
   have h2:2*(b*(a%b))≤a*b:=by
    have:2*(a%b)≤a:=by omega
    have:=Nat.mul_le_mul_right b this
    rw[Nat.mul_assoc,Nat.mul_comm (a%b) b] at this
    exact this
   have h3:=qwA h2
   have h4:Nat.log2 (2*(b*(a%b)))=Nat.log2 (b*(a%b))+1:=by
    apply Nat.log2_two_mul
    exact Nat.mul_ne_zero hb hr
   omega
theorem qvq{x k j:Nat}(h:(tN x).length≤k)(hj:4*k=j):x<2^j:=by
 have h3:x<10^k:=qgS h
 have h4:(10:Nat)^k≤16^k:=Nat.pow_le_pow_left (by omega) _
 have h5:(16:Nat)^k=2^j:=by rw[show (16:Nat)=2^4 from rfl,←Nat.pow_mul,hj]
 rw[h5] at h4
 exact Nat.lt_of_lt_of_le h3 h4
theorem qxD{a b:Nat}(ha:(tN a).length≤400000)(hb:(tN b).length≤400000):eM a b<9223372036854775808:=by
 unfold eM
 have h1:=qrQ a b
 by_cases h0:a*b=0
 ·rw[h0];simp;split<;>(try split)<;>omega
 ·obtain⟨j,hj⟩:∃j,j=3200000:=⟨_,rfl⟩
  have h2:a*b<2^j:=qvq (k:=800000) (by omega) (by omega)
  have:=(Nat.log2_lt h0).2 h2
  split<;>(try split)<;>omega
def mag(s:List UInt8):List UInt8:=if s.getD 0 0=45 then s.drop 1 else s
theorem qqB(m:Int):mag (tI m)=tN m.natAbs:=by
 unfold mag
 by_cases h:m<0
 ·rw[qcF h];simp
 ·rw[qh4 h]
  obtain⟨c,t,e,h1,h2⟩:=qeN (jK m.natAbs) (qlr _)
  rw[e]
  simp only[List.getD_cons_zero]
  rw[if_neg]
  intro hc;subst hc;revert h1;decide
theorem qvQ(s:List UInt8):(∃m:Int,s=tI m)↔mag s≠[]∧qcS (mag s)∧((mag s).getD 0 0=48→s.length=1):=by
 constructor
 ·rintro ⟨m,rfl⟩
  rw[qqB]
  refine⟨qlr _,jK _,fun h=>?_⟩
  rcases qvk m.natAbs with h1|h1
  ·have h2:=qo2 m.natAbs
   have hv:m.natAbs=0:=by
    obtain⟨c,e⟩:∃c,tN m.natAbs=[c]:=List.length_eq_one_iff.1 h1
    rw[e] at h
    simp at h
    have:=q4Z m.natAbs
    rw[e,h] at this
    simpa[val,dv] using this.symm
   have hm0:m=0:=by omega
   rw[hm0];rfl
  ·exact absurd h h1
 ·rintro ⟨h1,h2,h3⟩
  by_cases h45:s.getD 0 0=45
  ·have hm:mag s=s.drop 1:=by unfold mag;rw[if_pos h45]
   obtain⟨c,t,rfl⟩:∃c t,s=c::t:=by
    cases s with
    | nil=>simp at h45
    | cons c t=>exact⟨c,t,rfl⟩
   simp at h45
   subst h45
   rw[hm] at h1 h2 h3
   simp only[List.drop_succ_cons,List.drop_zero] at h1 h2 h3
   have h4:t.getD 0 0≠48:=fun h=>by
    have:=h3 h
    simp at this
    exact h1 this
   have hv:=qtD h2 h1 h4
   have hp:0<10^(t.length-1):=Nat.pow_pos (by omega)
   refine⟨-((val t:Nat):Int),?_⟩
   rw[qcF (by omega)]
   simp only[Int.natAbs_neg,Int.natAbs_natCast]
   rw[←qsB h2 h1 (.inr h4)]
  ·have hm:mag s=s:=by unfold mag;rw[if_neg h45]
   rw[hm] at h1 h2 h3
   refine⟨((val s:Nat):Int),?_⟩
   rw[qdc]
   refine qsB h2 h1 ?_
   by_cases h4:s.getD 0 0=48
   ·exact .inl (h3 h4)
   ·exact .inr h4
open Classical in
noncomputable def qtp(s:List UInt8):Int:=if ∃m:Int,s=tI m then (if (mag s).length≤1024 then 0 else 11) else 3
end Go.Eng

namespace Go.Eng
def tQ(q:Rat):List UInt8:=if q.den=1 then tI q.num else tI q.num++47::tN q.den
def dl(n:Nat):Nat:=(tN n).length
def qn(q:Rat):Nat:=nl q.num
def qd(q:Rat):Nat:=dl q.den
theorem qvD{s:List UInt8}(h:qcS s):∀c,c∈s→c≠47:=fun c hc e=>by
 have:=h c hc
 rw[e] at this
 revert this;decide
theorem qn8(m:Int):∀c,c∈tI m→c≠47:=by
 intro c hc
 unfold tI at hc
 split at hc
 ·rcases List.mem_cons.1 hc with rfl|hc
  ·decide
  ·exact qvD (jK _) c hc
 ·exact qvD (jK _) c hc
theorem qtk:∀{s s' t t':List UInt8},(∀c,c∈s→c≠47)→(∀c,c∈s'→c≠47)→s++47::t=s'++47::t'→s=s'∧t=t'
 | [],[],t,t',_,_,h=>⟨rfl,by simpa using h⟩
 | [],c::s',t,t',_,h2,h=>by
  simp only[List.nil_append,List.cons_append,List.cons.injEq] at h
  exact absurd h.1.symm (h2 c List.mem_cons_self)
 | c::s,[],t,t',h1,_,h=>by
  simp only[List.nil_append,List.cons_append,List.cons.injEq] at h
  exact absurd h.1 (h1 c List.mem_cons_self)
 | c::s,c'::s',t,t',h1,h2,h=>by
  simp only[List.cons_append,List.cons.injEq] at h
  obtain⟨e1,e2⟩:=qtk (fun c hc=>h1 c (List.mem_cons_of_mem _ hc)) (fun c hc=>h2 c (List.mem_cons_of_mem _ hc)) h.2
  exact⟨by rw[h.1,e1],e2⟩
theorem q9u{q:Rat}(h:q.den=1):tQ q=tI q.num:=by unfold tQ;rw[if_pos h]
theorem q52{q:Rat}(h:q.den≠1):tQ q=tI q.num++47::tN q.den:=by unfold tQ;rw[if_neg h]
theorem qAF{a b:Rat}(h:tQ a=tQ b):a=b:=by
 by_cases ha:a.den=1<;>by_cases hb:b.den=1
 ·rw[q9u ha,q9u hb] at h
  exact Rat.ext (qtx h) (ha.trans hb.symm)
 ·rw[q9u ha,q52 hb] at h
  exact absurd rfl (qn8 a.num 47 (by rw[h];simp))
 ·rw[q52 ha,q9u hb] at h
  exact absurd rfl (qn8 b.num 47 (by rw[←h];simp))
 ·rw[q52 ha,q52 hb] at h
  obtain⟨e1,e2⟩:=qtk (qn8 _) (qn8 _) h
  exact Rat.ext (qtx e1) (qtA e2)
theorem quS(a b:Rat):(tQ a=tQ b)=(a=b):=propext ⟨qAF,fun h=>by rw[h]⟩
theorem qvx(m:Int):tQ (m:Rat)=tI m:=q9u (by simp)
theorem qxO(n:Nat):tQ (OfNat.ofNat n:Rat)=tN n:=by
 rw[q9u (by simp)]
 simp only[Rat.num_ofNat]
 exact qdc n
theorem qec{m n:Int}(h:m.natAbs≤n.natAbs):nl m≤nl n:=qbm h
theorem qwB{m n:Nat}(h:m≤n):dl m≤dl n:=qbm h
theorem qvt(n:Nat):nl (n:Int)=dl n:=rfl
theorem qwb(m n:Nat):dl (m*n)≤dl m+dl n:=qrQ m n
theorem qwY(m n:Int):nl (m-n)≤max (nl m) (nl n)+1:=by
 rw[Int.sub_eq_add_neg]
 have:=qti m (-n)
 rwa [qwg] at this
theorem qbw(N:Int)(D:Nat):nl (mkRat N D).num≤nl N∧dl (mkRat N D).den≤dl D:=by
 rw[Rat.num_mkRat,Rat.den_mkRat]
 by_cases h:D=0
 ·rw[if_pos h,if_pos h,h]
  exact⟨qec (by simp),by decide⟩
 ·rw[if_neg h,if_neg h]
  exact⟨qec (Int.natAbs_ediv_le_natAbs _ _),qwB (Nat.div_le_self _ _)⟩
theorem qyK(a b:Rat):qn (a*b)≤qn a+qn b:=by
 unfold qn
 rw[Rat.mul_def']
 exact Nat.le_trans (qbw _ _).1 (q3R _ _)
theorem qyH(a b:Rat):qd (a*b)≤qd a+qd b:=by
 unfold qd
 rw[Rat.mul_def']
 exact Nat.le_trans (qbw _ _).2 (qwb _ _)
theorem qAD(a b:Rat):qn (a+b)≤max (qn a+qd b) (qn b+qd a)+1:=by
 unfold qn qd
 rw[Rat.add_def']
 have h1:=(qbw (a.num*b.den+b.num*a.den) (a.den*b.den)).1
 have h2:=qti (a.num*b.den) (b.num*a.den)
 have h3:=q3R a.num b.den
 have h4:=q3R b.num a.den
 rw[qvt] at h3 h4
 omega
theorem qAH(a b:Rat):qd (a+b)≤qd a+qd b:=by
 unfold qd
 rw[Rat.add_def']
 exact Nat.le_trans (qbw _ _).2 (qwb _ _)
theorem qAB(a b:Rat):qn (a-b)≤max (qn a+qd b) (qn b+qd a)+1:=by
 unfold qn qd
 rw[Rat.sub_def']
 have h1:=(qbw (a.num*b.den-b.num*a.den) (a.den*b.den)).1
 have h2:=qwY (a.num*b.den) (b.num*a.den)
 have h3:=q3R a.num b.den
 have h4:=q3R b.num a.den
 rw[qvt] at h3 h4
 omega
theorem qAN(a b:Rat):qd (a-b)≤qd a+qd b:=by
 unfold qd
 rw[Rat.sub_def']
 exact Nat.le_trans (qbw _ _).2 (qwb _ _)
theorem qAm(a:Rat):qn (-a)=qn a:=by unfold qn;rw[Rat.neg_num,qwg]
theorem qme(a:Rat):0<qn a:=qlf _
theorem qt0(a:Rat):0<qd a:=qkk _
theorem qAA{a:Rat}(h:a≠0):qn a⁻¹≤qd a:=by
 unfold qn qd
 rw[Rat.num_inv,←qvt]
 apply qec
 rw[Int.natAbs_mul,Int.natAbs_sign_of_ne_zero (by rwa [Ne,Rat.num_eq_zero])]
 simp
theorem qAb{a:Rat}(h:a≠0):qd a⁻¹≤qn a:=by
 unfold qn qd
 rw[Rat.den_inv,if_neg (by rwa [Rat.num_eq_zero])]
 exact Nat.le_refl _
theorem qAi(a:Rat){b:Rat}(h:b≠0):qn (a/b)≤qn a+qd b:=by
 rw[Rat.div_def]
 exact Nat.le_trans (qyK _ _) (Nat.add_le_add_left (qAA h) _)
theorem qAV(a:Rat){b:Rat}(h:b≠0):qd (a/b)≤qd a+qn b:=by
 rw[Rat.div_def]
 exact Nat.le_trans (qyH _ _) (Nat.add_le_add_left (qAb h) _)
def sgq(q:Rat):Int:=sgn q.num
theorem qbu{m k:Int}(hk:0<k):sgn (m*k)=sgn m:=by
 unfold sgn
 rcases Int.lt_trichotomy m 0 with h|h|h
 ·have:=Int.mul_neg_of_neg_of_pos h hk
  rw[if_pos h,if_pos this]
 ·subst h;simp
 ·have:=Int.mul_pos h hk
  rw[if_neg (by omega),if_neg (by omega),if_neg (by omega),if_neg (by omega)]
theorem qyR(m:Int):sgn (-m)=-sgn m:=by
 unfold sgn
 rcases Int.lt_trichotomy m 0 with h|h|h
 ·rw[if_pos h,if_neg (by omega),if_neg (by omega)];rfl
 ·subst h;rfl
 ·rw[if_pos (by omega),if_neg (by omega),if_neg (by omega)]
theorem qrS{q:Rat}(h:0<q):sgq q=1:=by
 unfold sgq sgn
 have h1:0≤q.num:=Rat.num_nonneg.2 (Rat.le_of_lt h)
 have h2:q.num≠0:=fun e=>by rw[Rat.num_eq_zero] at e;rw[e] at h;exact Rat.lt_irrefl h
 rw[if_neg (by omega),if_neg h2]
theorem qwy(q:Rat):sgq (-q)=-sgq q:=by unfold sgq;rw[Rat.neg_num,qyR]
theorem qyt{q:Rat}(h:q<0):sgq q=-1:=by
 have h1:0 < -q:=by grind
 have:=qrS h1
 rw[qwy] at this
 omega
theorem qaG(q:Rat):(q<0∧sgq q=-1)∨(q=0∧sgq q=0)∨(0<q∧sgq q=1):=by
 by_cases h1:q<0
 ·exact .inl ⟨h1,qyt h1⟩
 ·by_cases h2:q=0
  ·exact .inr (.inl ⟨h2,by rw[h2];rfl⟩)
  ·exact .inr (.inr ⟨by grind,qrS (by grind)⟩)
theorem qeO(q:Rat):(sgq q≤0)=(q≤0):=by
 rcases qaG q with⟨h,e⟩|⟨h,e⟩|⟨h,e⟩<;>rw[e]<;>simp<;>grind
end Go.Eng

namespace Go.Eng
def sP(s:List UInt8):Nat:=s.findIdx (·==47)
def spn(s:List UInt8):List UInt8:=s.take (sP s)
def spd(s:List UInt8):List UInt8:=if sP s<s.length then s.drop (sP s+1) else [49]
theorem qzK(s:List UInt8):sP s≤s.length:=List.findIdx_le_length
theorem qAI{s:List UInt8}{i:Nat}(h:i<s.length)(h1:s[i]=47)(h2:∀j (hj:j<i),s[j]≠47):sP s=i:=by
 unfold sP
 rw[List.findIdx_eq h]
 exact⟨by simp[h1],fun j hj=>by simp[h2 j hj]⟩
theorem qrl{s:List UInt8}(h:∀c,c∈s→c≠47):sP s=s.length:=by
 unfold sP
 rw[List.findIdx_eq_length]
 intro x hx
 simpa using h x hx
theorem qx6{s t:List UInt8}(h:∀c,c∈s→c≠47):sP (s++47::t)=s.length:=by
 apply qAI (by simp)
 ·simp
 ·intro j hj
  rw[List.getElem_append_left hj]
  exact h _ (List.getElem_mem hj)
theorem qyD(q:Rat):spn (tQ q)=tI q.num:=by
 unfold spn
 by_cases h:q.den=1
 ·rw[q9u h,qrl (qn8 _),List.take_length]
 ·rw[q52 h,qx6 (qn8 _)];simp
theorem qyF(q:Rat):spd (tQ q)=tN q.den:=by
 unfold spd
 by_cases h:q.den=1
 ·rw[q9u h,qrl (qn8 _),if_neg (Nat.lt_irrefl _),h];rfl
 ·rw[q52 h,qx6 (qn8 _),if_pos (by simp)];simp
theorem qAU(q:Rat):(tQ q).length≤qn q+qd q+2:=by
 have h1:=qyB q.num
 unfold qn qd nl dl
 by_cases h:q.den=1
 ·rw[q9u h];omega
 ·rw[q52 h];simp;omega
theorem qeK(n:Nat):(tN n=[49])=(n=1):=by
 have:tN 1=[49]:=rfl
 rw[←this];exact propext ⟨fun h=>qtA h,fun h=>by rw[h]⟩
theorem qyg(a:Rat):(0:Int)<(a.den:Int):=by have:=a.den_nz;omega
def qf5(a b c:Rat):Int:=if 0≤sgq a*(sgq b*sgq c) then (if sgq a=0 then sgq b*sgq c else sgq a) else sgq a*sgq (a*a-b*b*c)
theorem qx9(q:Rat):-1≤sgq q∧sgq q≤1:=by rcases qaG q with⟨_,e⟩|⟨_,e⟩|⟨_,e⟩<;>rw[e]<;>decide
theorem qBo{x y:Int}(hx:-1≤x∧x≤1)(hy:-1≤y∧y≤1):-1≤x*y∧x*y≤1:=by
 have:=qAk (A:=1) (B:=1) hx.1 hx.2 hy.1 hy.2
 omega
theorem qiz{x y:Int}(hx:-1≤x∧x≤1)(hy:-1≤y∧y≤1):kN .i64 x y=x*y:=q8y (by have:=qBo hx hy;omega)
end Go.Eng

namespace Go.Eng
def mv:List Int→Int
 | []=>0
 | x::l=>x+1000000000*mv l
def pB(n:Nat):Int:=1000000000^n
theorem q4M:pB 0=1:=rfl
theorem q8t(n:Nat):pB (n+1)=pB n*1000000000:=Int.pow_succ _ _
theorem q9w:∀n,0<pB n
 | 0=>by decide
 | n+1=>by rw[q8t];have:=q9w n;omega
theorem qAu(m n:Nat):pB (m+n)=pB m*pB n:=Int.pow_add _ _ _
theorem q9T{m n:Nat}(h:m≤n):pB m≤pB n:=by
 obtain⟨k,rfl⟩:∃k,n=m+k:=⟨n-m,by omega⟩
 induction k with
 | zero=>simp
 | succ k ih=>
  have h1:=ih (by omega)
  rw[show m+(k+1)=(m+k)+1 by omega,q8t]
  have:=q9w (m+k)
  omega
def dgs(l:List Int):Prop:=∀x,x∈l→0≤x∧x<1000000000
theorem qsP:∀(l:List Int) (j:Nat) (h:j<l.length) (y:Int),mv (l.set j y)=mv l+(y-l[j])*pB j
 | [],j,h,_=>by simp at h
 | x::l,0,_,y=>by simp only[List.set_cons_zero,mv,List.getElem_cons_zero,q4M];omega
 | x::l,j+1,h,y=>by
  have ih:=qsP l j (by simpa using h) y
  simp only[List.set_cons_succ,mv,List.getElem_cons_succ,q8t]
  rw[ih]
  grind
theorem qud:∀(l:List Int) (n:Nat),dgs l→(∀i,n≤i→l.getD i 0=0)→0≤mv l∧mv l<pB n
 | [],n,_,_=>⟨Int.le_refl _,q9w n⟩
 | x::l,0,hd,hz=>by
  have ih:=qud l 0 (fun y hy=>hd y (List.mem_cons_of_mem _ hy)) (fun i _=>by have:=hz (i+1) (by omega);simpa using this)
  have hx:x=0:=by simpa using hz 0 (by omega)
  rw[q4M] at ih ⊢
  simp only[mv];omega
 | x::l,n+1,hd,hz=>by
  have ih:=qud l n (fun y hy=>hd y (List.mem_cons_of_mem _ hy)) (fun i hi=>by have:=hz (i+1) (by omega);simpa using this)
  have hx:=hd x List.mem_cons_self
  rw[q8t]
  simp only[mv]
  generalize pB n=p at *
  omega
theorem qAf:∀(l:List Int) (j:Nat) (h:j<l.length),dgs l→l[j]≠0→pB j≤mv l
 | [],j,h,_,_=>by simp at h
 | x::l,0,_,hd,hx=>by
  have h1:=hd x List.mem_cons_self
  have h2:=(qud l l.length (fun y hy=>hd y (List.mem_cons_of_mem _ hy)) (fun i hi=>by simp[List.getD_eq_getElem?_getD,hi])).1
  simp only[List.getElem_cons_zero] at hx
  simp only[mv,q4M];omega
 | x::l,j+1,h,hd,hx=>by
  have ih:=qAf l j (by simpa using h) (fun y hy=>hd y (List.mem_cons_of_mem _ hy)) (by simpa using hx)
  have h1:=hd x List.mem_cons_self
  rw[q8t]
  simp only[mv];omega
theorem qt5:∀(s t:List Int),mv (s++t)=mv s+pB s.length*mv t
 | [],t=>by simp[mv,q4M]
 | x::s,t=>by
  simp only[List.cons_append,mv,List.length_cons,q8t]
  rw[qt5 s t];grind
theorem qbz(n:Nat):mv (List.replicate n 0)=0:=by
 induction n with
 | zero=>rfl
 | succ n ih=>simp[List.replicate_succ,mv,ih]
theorem qa5{l:List Int}{i:Nat}(h:i<l.length):mv (l.drop i)=l[i]+1000000000*mv (l.drop (i+1)):=by
 rw[List.drop_eq_getElem_cons h];rfl
theorem wL{l:List Int}{n i:Nat}(hd:dgs l)(hz:∀i,n≤i→l.getD i 0=0)(hi:n≤i):mv (l.drop i)=0:=by
 have:=qud (l.drop i) 0 (fun x hx=>hd x (List.mem_of_mem_drop hx)) (fun j _=>by
  have:=hz (i+j) (by omega)
  simpa[List.getD_eq_getElem?_getD] using this)
 rw[q4M] at this
 omega
structure WOK (n:Nat) (l:List Int):Prop where
 len:l.length=232
 le:n≤232
 dig:dgs l
 z:∀i,n≤i→l.getD i 0=0
def nrm(n:Nat)(l:List Int):Prop:=n=0∨l.getD (n-1) 0≠0
theorem WOK.bd{n:Nat}{l:List Int}(h:WOK n l):0≤mv l∧mv l<pB n:=qud l n h.dig h.z
theorem WOK.lo{n:Nat}{l:List Int}(h:WOK n l)(hn:nrm n l)(h0:n≠0):pB (n-1)≤mv l:=by
 have h1:=h.le
 have h2:=h.len
 rcases hn with hn|hn
 ·exact absurd hn h0
 ·refine qAf l (n-1) (by omega) h.dig ?_
  rwa [jM (by omega)] at hn
theorem qqb(N i:Nat):(List.replicate N (0:Int)).getD i 0=0:=by
 rw[List.getD_eq_getElem?_getD,List.getElem?_replicate];split<;>rfl
theorem qwS(N:Nat):dgs (List.replicate N 0):=fun x hx=>by
 have:=(List.mem_replicate.1 hx).2
 omega
theorem WOK.zero:WOK 0 (List.replicate 232 0):=
 ⟨List.length_replicate,by omega,qwS 232,fun i _=>qqb 232 i⟩
theorem WOK.get{n:Nat}{l:List Int}(h:WOK n l)(i:Nat):0≤l.getD i 0∧l.getD i 0<1000000000:=by
 rcases Nat.lt_or_ge i l.length with hi|hi
 ·rw[jM hi];exact h.dig _ (List.getElem_mem hi)
 ·simp[List.getD_eq_getElem?_getD,hi]
theorem WOK.setW{n:Nat}{l:List Int}(h:WOK n l){j:Nat}{y:Int}(hj:j<232)(hy:0≤y∧y<1000000000):WOK (max n (j+1)) (l.set j y):=by
 have h1:=h.le
 refine⟨by simp[h.len],by omega,fun x hx=>?_,fun i hi=>?_⟩
 ·rcases List.mem_or_eq_of_mem_set hx with hx|rfl
  ·exact h.dig x hx
  ·exact hy
 ·have:=h.z i (by omega)
  rw[List.getD_eq_getElem?_getD,List.getElem?_set_ne (by omega),←List.getD_eq_getElem?_getD]
  exact this
theorem q3Y(l:List Int)(i:Nat):cI (rI l) (i:Int) 0=l.getD i 0:=by rw[qBl,Int.toNat_natCast]
theorem qfN(l:List Int)(i:Nat)(v:Int):qd5 (rI l) (i:Int) 0 [.i v]=rI (l.set i v):=by rw[qAC,Int.toNat_natCast]
theorem qi8{n:Nat}{l:List Int}(h:WOK n l)(b:Bool):∃m,(qu [.b b,.i (n:Int),.r (rI l)]).run=some (0,[.b b,.i ((m:Nat):Int),.r (rI l)])∧WOK m l∧nrm m l:=by
 rw[qdV]
 have h232:=h.le
 obtain⟨j,qs,h1,rfl,m,rfl,h3,h4⟩:=q5E (S:=vo) (fun k ps=>ps=[.b b,.i (k:Int),.r (rI l)]∧WOK k l)
  (fun j qs=>j=0∧∃m:Nat,qs=[.b b,.i (m:Int),.r (rI l)]∧WOK m l∧nrm m l) (n:=n) (by omega) (fun k ps hk ⟨hps,hw⟩=>by
  subst hps
  rw[qbT]
  have hk2:=hw.le
  by_cases h0:k=0
  ·right
   refine⟨0,_,?_,rfl,k,rfl,hw,.inl h0⟩
   simp only[STD,h0]
   rfl
  ·have hs:qP .i64 (k:Int) 1=((k-1:Nat):Int):=by rw[q2r (by omega)];omega
   have a1:(0:Int)<(k:Int):=by omega
   have a2:(0:Int)≤((k-1:Nat):Int)∧((k-1:Nat):Int)<232:=by omega
   by_cases hz:l.getD (k-1) 0=0
   ·left
    refine⟨k-1,[.b b,.i ((k-1:Nat):Int),.r (rI l)],by omega,?_,rfl,hw.len,by omega,hw.dig,fun i hi=>?_⟩
    ·simp only[STD,a1,hs,a2,q3Y,hz,and_self]
    ·rcases Nat.eq_or_lt_of_le hi with e|e
     ·rw[←e];exact hz
     ·exact hw.z i (by omega)
   ·right
    refine⟨0,[.b b,.i (k:Int),.r (rI l)],?_,rfl,k,rfl,hw,.inr hz⟩
    simp only[STD,a1,hs,a2,q3Y,hz,and_self]) (ps:=[.b b,.i (n:Int),.r (rI l)]) ⟨rfl,h⟩
 exact⟨m,by simp only[STD,h1],h3,h4⟩
theorem qAP(s:Int):∃q r:Int,s.tdiv 1000000000=q∧s=q*1000000000+r∧(0≤s→0≤r)∧(s≤0→r≤0)∧-1000000000<r∧r<1000000000:=by
 obtain⟨h1,h2,h3,h4⟩:=quD s (show (1000000000:Int)≠0 by decide)
 refine⟨_,qpq s 1000000000,rfl,by omega,h3,h4,by omega,by omega⟩
theorem quv{f up rest:Int}{i n j:Nat}{l ly:List Int}{bx b2:Bool}{ny:Nat}{S:Int}(hj:((j:Nat):Int)=qt .i64 (i:Int) up)(hj2:j<232)(hw:WOK n l)(hin:i<233)
  (hS:S=if i<ny then l.getD j 0+rest+f*ly.getD i 0 else l.getD j 0+rest) (hr:-1000000000≤rest∧rest≤1000000000) (hfy:-999999999999999999≤f*ly.getD i 0∧f*ly.getD i 0≤999999999999999999) (hny:ny≤232)
  (hgo:i<ny∨rest≠0) :
  ∃q s:Int,S=q*1000000000+s∧0≤s∧s<1000000000 ∧
   (vd [.i f,.i up,.i rest,.i (i:Int),.b bx,.i (n:Int),.r (rI l),.b b2,.i (ny:Int),.r (rI ly)]).run=some (0,[.i f,.i up,.i q,.i ((i+1:Nat):Int),.b bx,.i ((max n (j+1):Nat):Int),.r (rI (l.set j s)),.b b2,.i (ny:Int),.r (rI ly)]):=by
 have hg:=hw.get j
 obtain⟨q,r,e1,e2,e3,e4,e5,e6⟩:=qAP S
 have hSb:-1000000000999999999≤S∧S≤1000000001999999998:=by rw[hS];split<;>omega
 have w1:yp .i64 S 1000000000=q:=by
  unfold yp
  rw[e1]
  unfold IntKind.wrap
  simp[IntKind.signed,IntKind.bits];omega
 have w2:kN .i64 q 1000000000=q*1000000000:=q8y (by omega)
 have w3:qP .i64 S (q*1000000000)=r:=by rw[q2r (by omega)];omega
 have w4:qt .i64 (l.getD j 0) rest=l.getD j 0+rest:=yx (by omega)
 have w5:qt .i64 (i:Int) 1=((i+1:Nat):Int):=by rw[yx (by omega)];omega
 have w6:qt .i64 (j:Int) 1=((j+1:Nat):Int):=by rw[yx (by omega)];omega
 have w7:qii (n:Int) ((j+1:Nat):Int)=((max n (j+1):Nat):Int):=qsS _ _
 have a1:(0:Int)≤(j:Int)∧(j:Int)<232:=by omega
 have hw8:r<0→qt .i64 r 1000000000=r+1000000000:=fun _=>yx (by omega)
 have hw9:r<0→qP .i64 q 1=q-1:=fun _=>q2r (by omega)
 rw[q5W]
 by_cases hi:i<ny
 ·rw[if_pos hi] at hS
  have a2:(i:Int)<(ny:Int):=by omega
  have a3:(0:Int)≤(i:Int)∧(i:Int)<232:=by omega
  have w10:kN .i64 f (ly.getD i 0)=f*ly.getD i 0:=q8y (by omega)
  have w11:qt .i64 (l.getD j 0+rest) (f*ly.getD i 0)=S:=by rw[yx (by omega),hS]
  by_cases hneg:r<0
  ·refine⟨q-1,r+1000000000,by omega,by omega,by omega,?_⟩
   simp only[STD,a2,←hj,a1,a3,q3Y,w4,w10,w11,w1,w2,w3,hneg,hw8 hneg,hw9 hneg,w5,w6,w7,qfN,and_self]
  ·refine⟨q,r,by omega,by omega,by omega,?_⟩
   simp only[STD,a2,←hj,a1,a3,q3Y,w4,w10,w11,w1,w2,w3,hneg,w5,w6,w7,qfN,and_self]
 ·rw[if_neg hi] at hS
  have hr0:rest≠0:=hgo.resolve_left hi
  have a2:¬(i:Int)<(ny:Int):=by omega
  rw[←hS] at w4
  by_cases hneg:r<0
  ·refine⟨q-1,r+1000000000,by omega,by omega,by omega,?_⟩
   simp only[STD,a2,hr0,←hj,a1,q3Y,w4,w1,w2,w3,hneg,hw8 hneg,hw9 hneg,w5,w6,w7,qfN,and_self]
  ·refine⟨q,r,by omega,by omega,by omega,?_⟩
   simp only[STD,a2,hr0,←hj,a1,q3Y,w4,w1,w2,w3,hneg,w5,w6,w7,qfN,and_self]
theorem qkO{f:Int}{up nx ny:Nat}{lx ly:List Int}(hx:WOK nx lx)(hy:WOK ny ly)(hf:-999999999≤f∧f≤999999999)(hup:ny+up≤232){T:Int}(hT:T=mv lx+f*mv ly*pB up)(h0:0≤T)(h1:T<pB 232)(bx b2:Bool) :
  ∃(n:Nat) (l:List Int),(qz [.i f,.i (up:Int),.b bx,.i (nx:Int),.r (rI lx),.b b2,.i (ny:Int),.r (rI ly)]).run=some (0,[.b bx,.i (n:Int),.r (rI l),.b b2,.i (ny:Int),.r (rI ly)])∧WOK n l∧nrm n l∧mv l=T:=by
 rw[qfY]
 have hny:=hy.le
 obtain⟨j,qs,g1,rfl,n,l,rfl,g3,g4⟩:=q5E (S:=vd) (fun k ps=>∃(i n:Nat) (rest:Int) (l:List Int),ps=[.i f,.i (up:Int),.i rest,.i (i:Int),.b bx,.i (n:Int),.r (rI l),.b b2,.i (ny:Int),.r (rI ly)] ∧
   i+k=300∧i≤232∧WOK n l∧-1000000000≤rest∧rest≤1000000000∧mv l+rest*pB (i+up)+f*mv (ly.drop i)*pB (i+up)=T)
  (fun j qs=>j=0∧∃(n:Nat) (l:List Int),qs=[.b bx,.i (n:Int),.r (rI l),.b b2,.i (ny:Int),.r (rI ly)]∧WOK n l∧mv l=T) (n:=300) (by omega) (fun k ps hk ⟨i,n,rest,l,hps,hik,hi,hw,hr1,hr2,hv⟩=>by
  subst hps
  have hg:=hy.get i
  have hfy:=qAk (A:=999999999) (B:=999999999) hf.1 hf.2 (show -(999999999:Int)≤ly.getD i 0 by omega) (show ly.getD i 0≤999999999 by omega)
  have hbd:=hw.bd
  have hn232:=hw.le
  by_cases hgo:i<ny∨rest≠0
  ·left
   have hj:i+up<232:=by
    rcases Nat.lt_or_ge i ny with h|h
    ·omega
    ·rcases Nat.lt_or_ge (i+up) 232 with h2|h2
     ·exact h2
     ·exfalso
      have hr0:=hgo.resolve_left (by omega)
      rw[wL hy.dig hy.z h] at hv
      have hP:=q9T h2
      have hlt:=q9T hn232
      simp only[Int.mul_zero,Int.zero_mul,Int.add_zero] at hv
      generalize pB (i+up)=P at *
      rcases Int.lt_or_lt_of_ne hr0 with h3|h3
      ·have:rest*P≤-1*P:=Int.mul_le_mul_of_nonneg_right (by omega) (by have:=q9w 232;omega)
       omega
      ·have:1*P≤rest*P:=Int.mul_le_mul_of_nonneg_right (by omega) (by have:=q9w 232;omega)
       omega
   have hjw:(((i+up:Nat)):Int)=qt .i64 (i:Int) (up:Int):=by rw[yx (by omega)];omega
   obtain⟨q,s,s1,s2,s3,s4⟩:=quv (bx:=bx) (b2:=b2) (f:=f) (ly:=ly) hjw hj hw (by omega) rfl ⟨hr1,hr2⟩ (by omega) hny hgo
   refine⟨k-1,_,by omega,s4,i+1,_,q,_,rfl,by omega,by omega,hw.setW hj ⟨s2,s3⟩,?_,?_,?_⟩
   ·have hgl:=hw.get (i+up)
    split at s1<;>omega
   ·have hgl:=hw.get (i+up)
    split at s1<;>omega
   ·have hjl:i+up<l.length:=by rw[hw.len];exact hj
    rw[qsP l (i+up) hjl,←hv,show i+1+up=(i+up)+1 by omega,q8t]
    rw[jM hjl] at s1
    have hil:i<ly.length:=by rw[hy.len];omega
    rw[qa5 hil]
    rw[jM hil] at s1
    generalize pB (i+up)=P at *
    generalize l[i+up]=d at *
    by_cases hiny:i<ny
    ·rw[if_pos hiny] at s1
     generalize ly[i]=y at *
     generalize mv (ly.drop (i+1))=m at *
     grind
    ·rw[if_neg hiny] at s1
     have z1:ly[i]=0:=by rw[←jM hil];exact hy.z i (by omega)
     rw[z1,wL hy.dig hy.z (show ny≤i+1 by omega)]
     grind
  ·right
   have c1:¬i<ny:=fun h=>hgo (.inl h)
   have c2:rest=0:=Decidable.byContradiction fun h=>hgo (.inr h)
   refine⟨0,[.b bx,.i (n:Int),.r (rI l),.b b2,.i (ny:Int),.r (rI ly)],?_,rfl,n,l,rfl,hw,?_⟩
   ·rw[q5W]
    have a2:¬(i:Int)<(ny:Int):=by omega
    simp only[STD,a2,c2]
   ·rw[wL hy.dig hy.z (by omega),c2] at hv
    simp only[Int.mul_zero,Int.zero_mul,Int.add_zero] at hv
    exact hv) (ps:=[.i f,.i (up:Int),.i 0,.i 0,.b bx,.i (nx:Int),.r (rI lx),.b b2,.i (ny:Int),.r (rI ly)])
  ⟨0,nx,0,lx,rfl,by omega,by omega,hx,by omega,by omega,by simp[hT]⟩
 obtain⟨m,t1,t2,t3⟩:=qi8 g3 bx
 exact⟨m,l,by simp only[STD,g1,t1],t2,t3,g4⟩
end Go.Eng

namespace Go.Eng
theorem q9m(l:List Int)(j:Nat)(h:j≤l.length):mv l=mv (l.take j)+pB j*mv (l.drop j):=by
 have:=qt5 (l.take j) (l.drop j)
 rw[List.take_append_drop,List.length_take,Nat.min_eq_left h] at this
 exact this
theorem qxX{l:List Int}(h:dgs l)(j:Nat):dgs (l.take j):=fun x hx=>h x (List.mem_of_mem_take hx)
theorem q7G{l:List Int}(h:dgs l)(j:Nat):0≤mv (l.take j)∧mv (l.take j)<pB j:=
 qud (l.take j) j (qxX h j) fun i hi=>by
  rw[List.getD_eq_getElem?_getD,List.getElem?_eq_none (by simp;omega)];rfl
theorem qjl{l:List Int}{i:Nat}(h:i<l.length):mv (l.take (i+1))=mv (l.take i)+l[i]*pB i:=by
 rw[List.take_succ_eq_append_getElem h,qt5,List.length_take,Nat.min_eq_left (by omega)]
 simp only[mv]
 grind
theorem WOK.mono{n m:Nat}{l:List Int}(h:WOK n l)(hm:n≤m)(h2:m≤232):WOK m l:=⟨h.len,h2,h.dig,fun i hi=>h.z i (by omega)⟩
theorem qhB{n:Nat}{l:List Int}(h:WOK n l)(hn:nrm n l):(n=0)=(mv l=0):=by
 apply propext
 constructor
 ·intro h0
  have:=h.bd
  rw[h0,q4M] at this;omega
 ·intro h0
  rcases Nat.eq_zero_or_pos n with h1|h1
  ·exact h1
  ·have:=h.lo hn (by omega)
   have:=q9w (n-1)
   omega
theorem qBj{n m:Nat}{l k:List Int}(h:WOK n l)(hn:nrm n l)(h2:WOK m k)(hle:mv l≤mv k):n≤m:=by
 rcases Nat.lt_or_ge m n with h3|h3
 ·exfalso
  have h4:=h.lo hn (by omega)
  have h5:=h2.bd.2
  have h6:=q9T (show m≤n-1 by omega)
  omega
 ·exact h3
theorem qtc{nx ny:Nat}{lx ly:List Int}(hx:WOK nx lx)(hnx:nrm nx lx)(hy:WOK ny ly)(hny:nrm ny ly)(bx b2:Bool) :
  ∃r:Int,(zk [.b bx,.i (nx:Int),.r (rI lx),.b b2,.i (ny:Int),.r (rI ly)]).run=some (0,[.i r,.b bx,.i (nx:Int),.r (rI lx),.b b2,.i (ny:Int),.r (rI ly)])∧((0≤r)=(mv ly≤mv lx)):=by
 rw[qf0]
 have h1:=hx.le
 have h2:=hy.le
 by_cases hne:nx=ny
 ·subst hne
  have hs:qP .i64 (nx:Int) 1=(nx:Int)-1:=q2r (by omega)
  obtain⟨j,qs,g1,g2⟩:=q5E (S:=vU) (fun k ps=>ps=[.i ((k:Int)-1),.b bx,.i (nx:Int),.r (rI lx),.b b2,.i (nx:Int),.r (rI ly)]∧k≤nx∧mv (lx.drop k)=mv (ly.drop k))
   (fun j qs=>(j=0∧qs=[.b bx,.i (nx:Int),.r (rI lx),.b b2,.i (nx:Int),.r (rI ly)]∧mv lx=mv ly)∨(j=1∧∃r:Int,qs=[.i r,.b bx,.i (nx:Int),.r (rI lx),.b b2,.i (nx:Int),.r (rI ly)]∧((0≤r)=(mv ly≤mv lx)))) (n:=nx) (by omega) (fun k ps hk ⟨hps,hkn,hd⟩=>by
   subst hps
   rw[qcV]
   by_cases h0:k=0
   ·right
    refine⟨0,_,?_,.inl ⟨rfl,rfl,?_⟩⟩
    ·have a:¬(0:Int)≤(k:Int)-1:=by omega
     simp only[STD,a]
    ·rw[h0] at hd;simpa using hd
   ·obtain⟨i,rfl⟩:∃i,k=i+1:=⟨k-1,by omega⟩
    have e:(((i+1:Nat):Int)-1)=(i:Int):=by omega
    rw[e]
    have a1:(0:Int)≤(i:Int):=by omega
    have a2:(i:Int)<232:=by omega
    have gx:=hx.get i
    have gy:=hy.get i
    have hxl:i<lx.length:=by rw[hx.len];omega
    have hyl:i<ly.length:=by rw[hy.len];omega
    by_cases hc:lx.getD i 0=ly.getD i 0
    ·left
     refine⟨i,[.i ((i:Int)-1),.b bx,.i (nx:Int),.r (rI lx),.b b2,.i (nx:Int),.r (rI ly)],by omega,?_,rfl,by omega,?_⟩
     ·have w:qP .i64 (i:Int) 1=(i:Int)-1:=q2r (by omega)
      simp only[STD,a1,a2,and_self,q3Y,hc,w]
     ·rw[qa5 hxl,qa5 hyl,hd]
      rw[jM hxl,jM hyl] at hc
      rw[hc]
    ·right
     have w:qP .i64 (lx.getD i 0) (ly.getD i 0)=lx.getD i 0-ly.getD i 0:=q2r (by omega)
     refine⟨1,[.i (lx.getD i 0-ly.getD i 0),.b bx,.i (nx:Int),.r (rI lx),.b b2,.i (nx:Int),.r (rI ly)],?_,.inr ⟨rfl,_,rfl,?_⟩⟩
     ·simp only[STD,a1,a2,and_self,q3Y,hc,w]
     ·have sx:=q9m lx i (by omega)
      have sy:=q9m ly i (by omega)
      rw[qa5 hxl] at sx
      rw[qa5 hyl] at sy
      have tx:=q7G hx.dig i
      have ty:=q7G hy.dig i
      rw[jM hxl,jM hyl] at hc ⊢
      rw[hd] at sx
      have hp:=q9w i
      generalize pB i=P at *
      generalize lx[i]=u at *
      generalize ly[i]=v at *
      generalize mv (ly.drop (i+1))=w at *
      have e1:P*(u+1000000000*w)=P*u+P*(1000000000*w):=Int.mul_add _ _ _
      have e2:P*(v+1000000000*w)=P*v+P*(1000000000*w):=Int.mul_add _ _ _
      have e3:P*(u-v)=P*u-P*v:=Int.mul_sub _ _ _
      apply propext
      rcases Int.lt_or_lt_of_ne (show u-v≠0 by omega) with h|h
      ·have:P*(u-v)≤P*(-1):=Int.mul_le_mul_of_nonneg_left (by omega) (by omega)
       constructor
       ·intro;omega
       ·intro;omega
      ·have:P*1≤P*(u-v):=Int.mul_le_mul_of_nonneg_left (by omega) (by omega)
       constructor
       ·intro;omega
       ·intro;omega) (ps:=[.i ((nx:Int)-1),.b bx,.i (nx:Int),.r (rI lx),.b b2,.i (nx:Int),.r (rI ly)])
   ⟨rfl,Nat.le_refl _,by rw[wL hx.dig hx.z (Nat.le_refl _),wL hy.dig hy.z (Nat.le_refl _)]⟩
  rcases g2 with⟨rfl,rfl,g2⟩|⟨rfl,r,rfl,g2⟩
  ·refine⟨0,?_,?_⟩
   ·simp only[STD,hs,g1,qN g1]
   ·apply propext;simp;omega
  ·refine⟨r,?_,g2⟩
   simp only[STD,hs,g1,qN g1,show ¬(1=0) by omega]
 ·have hs:qP .i64 (nx:Int) (ny:Int)=(nx:Int)-(ny:Int):=q2r (by omega)
  refine⟨(nx:Int)-(ny:Int),?_,?_⟩
  ·have a:¬(nx:Int)=(ny:Int):=by omega
   simp only[STD,a,hs]
  ·apply propext
   have b1:=hx.bd
   have b2:=hy.bd
   rcases Nat.lt_or_gt_of_ne hne with h|h
   ·have:=hy.lo hny (by omega)
    have:=q9T (show nx≤ny-1 by omega)
    constructor
    ·intro;omega
    ·intro;omega
   ·have:=hx.lo hnx (by omega)
    have:=q9T (show ny≤nx-1 by omega)
    constructor
    ·intro;omega
    ·intro;omega
def sv(b:Bool)(l:List Int):Int:=if b then -mv l else mv l
theorem qyr{nx ny:Nat}{lx ly:List Int}(hx:WOK nx lx)(hnx:nrm nx lx)(hy:WOK ny ly)(hny:nrm ny ly)(hb:mv lx+mv ly<pB 232)(bx b2:Bool) :
  ∃(b:Bool) (n:Nat) (l:List Int),(zL [.b bx,.i (nx:Int),.r (rI lx),.b b2,.i (ny:Int),.r (rI ly)]).run=some (0,[.b b,.i (n:Int),.r (rI l),.b b2,.i (ny:Int),.r (rI ly)])∧WOK n l∧nrm n l∧sv b l=sv bx lx+sv b2 ly:=by
 rw[qhv]
 have h1:=hx.bd
 have h2:=hy.bd
 have l1:=hx.le
 have l2:=hy.le
 by_cases hs:bx=b2
 ·subst hs
  obtain⟨n,l,g1,g2,g3,g4⟩:=qkO (f:=1) (up:=0) hx hy (by omega) (by omega) (T:=mv lx+mv ly) (by rw[q4M];omega) (by omega) hb bx bx
  refine⟨bx,n,l,?_,g2,g3,?_⟩
  ·simp only[STD,show ((0:Nat):Int)=0 from rfl] at g1 ⊢
   simp only[STD,g1]
  ·unfold sv;rw[g4];cases bx<;>simp<;>omega
 ·obtain⟨r,r1,r2⟩:=qtc hx hnx hy hny bx b2
  by_cases hr:mv ly≤mv lx
  ·have hr':0≤r:=by rw[r2];exact hr
   obtain⟨n,l,g1,g2,g3,g4⟩:=qkO (f:=-1) (up:=0) hx hy (by omega) (by omega) (T:=mv lx-mv ly) (by rw[q4M];omega) (by omega) (by omega) bx b2
   refine⟨bx,n,l,?_,g2,g3,?_⟩
   ·simp only[show ((0:Nat):Int)=0 from rfl] at g1
    simp only[STD,hs,r1,hr',g1]
   ·unfold sv;rw[g4];cases bx<;>cases b2<;>simp_all<;>omega
  ·have hr':¬0≤r:=by rw[r2];exact hr
   obtain⟨n,l,g1,g2,g3,g4⟩:=qkO (f:=-1) (up:=0) hy hx (by omega) (by omega) (T:=mv ly-mv lx) (by rw[q4M];omega) (by omega) (by omega) b2 bx
   refine⟨b2,n,l,?_,g2,g3,?_⟩
   ·simp only[show ((0:Nat):Int)=0 from rfl] at g1
    simp only[STD,hs,r1,hr',g1]
   ·unfold sv;rw[g4];cases bx<;>cases b2<;>simp_all<;>omega
theorem qwc{x y:Int}{m n:Nat}(h0:0≤x)(h1:x<pB m)(h2:0≤y)(h3:y≤pB n):x*y<pB (m+n)∨y=0:=by
 rcases Int.lt_or_eq_of_le h2 with h|h
 ·left
  rw[qAu]
  have e1:x*y<pB m*y:=Int.mul_lt_mul_of_pos_right h1 h
  have e2:pB m*y≤pB m*pB n:=Int.mul_le_mul_of_nonneg_left h3 (by omega)
  omega
 ·exact .inr h.symm
theorem qzd{nx ny:Nat}{lx ly:List Int}(hx:WOK nx lx)(hy:WOK ny ly)(hb:nx+ny≤232)(bx b2:Bool) :
  ∃(n:Nat) (l:List Int),(u6 [.b bx,.i (nx:Int),.r (rI lx),.b b2,.i (ny:Int),.r (rI ly)]).run=some (0,[.b bx,.i (nx:Int),.r (rI lx),.b b2,.i (ny:Int),.r (rI ly),.b (!(Go.Eng.beq bx b2)),.i (n:Int),.r (rI l)])∧WOK n l∧nrm n l∧mv l=mv lx*mv ly:=by
 rw[qga]
 have hbx:=hx.bd
 have e0:q50 232 [.i 0]=rI (List.replicate 232 0):=qnX 232 0
 obtain⟨j,qs,g1,rfl,n,l,rfl,g2,g3,g4⟩:=q5E (S:=jy) (fun k ps=>∃(i n:Nat) (l:List Int),ps=[.i (ny:Int),.i (i:Int),.b bx,.i (nx:Int),.r (rI lx),.b b2,.i (ny:Int),.r (rI ly),.b (!(Go.Eng.beq bx b2)),.i (n:Int),.r (rI l)] ∧
   i+k=ny∧WOK n l∧nrm n l∧mv l=mv lx*mv (ly.take i))
  (fun j qs=>j=0∧∃(n:Nat) (l:List Int),qs=[.b bx,.i (nx:Int),.r (rI lx),.b b2,.i (ny:Int),.r (rI ly),.b (!(Go.Eng.beq bx b2)),.i (n:Int),.r (rI l)]∧WOK n l∧nrm n l∧mv l=mv lx*mv ly) (n:=ny) (by omega) (fun k ps hk ⟨i,n,l,hps,hik,hw,hn,hv⟩=>by
  subst hps
  rw[qdE]
  by_cases hi:i<ny
  ·left
   have hil:i<ly.length:=by rw[hy.len];omega
   have gy:=hy.get i
   have tb:=q7G hy.dig i
   have tb2:=q7G hy.dig (i+1)
   have hT:mv lx*mv (ly.take (i+1))=mv l+ly.getD i 0*mv lx*pB i:=by
    rw[qjl hil,hv,jM hil];grind
   have hlt:mv lx*mv (ly.take (i+1))<pB 232:=by
    rcases qwc (n:=i+1) hbx.1 hbx.2 tb2.1 (by omega) with h|h
    ·exact Int.lt_of_lt_of_le h (q9T (by omega))
    ·rw[h,Int.mul_zero];exact q9w _
   obtain⟨n',l',c1,c2,c3,c4⟩:=qkO (f:=ly.getD i 0) (up:=i) hw hx (by omega) (by omega) hT (Int.mul_nonneg hbx.1 tb2.1) hlt (!(Go.Eng.beq bx b2)) bx
   have w:qt .i64 (i:Int) 1=((i+1:Nat):Int):=by rw[yx (by omega)];omega
   refine⟨k-1,_,by omega,?_,i+1,n',l',rfl,by omega,c2,c3,c4⟩
   have a1:(i:Int)<(ny:Int):=by omega
   have a2:(0:Int)≤(i:Int)∧(i:Int)<232:=by omega
   simp only[STD,a1,a2,and_self,q3Y,c1,w]
  ·right
   have hi2:i=ny:=by omega
   have a1:¬(i:Int)<(ny:Int):=by omega
   refine⟨0,[.b bx,.i (nx:Int),.r (rI lx),.b b2,.i (ny:Int),.r (rI ly),.b (!(Go.Eng.beq bx b2)),.i (n:Int),.r (rI l)],?_,rfl,n,l,rfl,hw,hn,?_⟩
   ·simp only[STD,a1]
   ·have:=q9m ly ny (by rw[hy.len];exact hy.le)
    rw[wL hy.dig hy.z (Nat.le_refl _),Int.mul_zero,Int.add_zero] at this
    rw[hv,hi2,←this])
  (ps:=[.i (ny:Int),.i 0,.b bx,.i (nx:Int),.r (rI lx),.b b2,.i (ny:Int),.r (rI ly),.b (!(Go.Eng.beq bx b2)),.i 0,.r (rI (List.replicate 232 0))])
  ⟨0,0,_,rfl,by omega,WOK.zero,.inl rfl,by rw[qbz];simp[mv]⟩
 refine⟨n,l,?_,g2,g3,g4⟩
 simp only[e0]
 simp only[STD,g1]
theorem qu8{nx ny:Nat}{lx ly:List Int}(hx:WOK nx lx)(hnx:nrm nx lx)(hy:WOK ny ly)(hny:nrm ny ly)(h0:ny≠0)(hle:mv ly≤mv lx)(hlt:mv lx<pB (ny+1))(hn231:ny≤231)(bx b2:Bool) :
  ∃k:Int,(jl [.b bx,.i (nx:Int),.r (rI lx),.b b2,.i (ny:Int),.r (rI ly)]).run=some (0,[.i k,.b bx,.i (nx:Int),.r (rI lx),.b b2,.i (ny:Int),.r (rI ly)])∧1≤k∧k≤999999999∧k*mv ly≤mv lx:=by
 rw[qiw]
 obtain⟨m,rfl⟩:∃m,ny=m+1:=⟨ny-1,by omega⟩
 have hxl:=hx.len
 have hyl:=hy.len
 have hnx1:m+1≤nx:=qBj hy hny hx hle
 have hnx2:nx≤m+2:=by
  rcases Nat.lt_or_ge (m+2) nx with h|h
  ·exfalso
   have h1:=hx.lo hnx (by omega)
   have h2:=q9T (show m+1+1≤nx-1 by omega)
   omega
  ·exact h
 have gx1:=hx.get m
 have gx2:=hx.get (m+1)
 have gy:=hy.get m
 have sx:=q9m lx m (by omega)
 have sy:=q9m ly m (by omega)
 rw[qa5 (show m<lx.length by omega),qa5 (show m+1<lx.length by omega),wL hx.dig hx.z (show nx≤m+1+1 by omega)] at sx
 rw[qa5 (show m<ly.length by omega),wL hy.dig hy.z (Nat.le_refl _)] at sy
 have tx:=q7G hx.dig m
 have ty:=q7G hy.dig m
 have hyn:ly.getD m 0≠0:=by
  rcases hny with h|h
  ·omega
  ·simpa using h
 have w1:qP .i64 ((m+1:Nat):Int) 1=(m:Int):=by rw[q2r (by omega)];omega
 have c1:¬((m+1:Nat):Int)<0:=by omega
 have c2:¬(nx:Int)≤(m:Int):=by omega
 have c3:¬(m:Int)<0:=by omega
 have c4:¬((m+1:Nat):Int)≤(m:Int):=by omega
 have c5:(0:Int)≤(m:Int)∧(m:Int)<232:=by omega
 have c6:(0:Int)≤((m+1:Nat):Int)∧((m+1:Nat):Int)<232:=by omega
 have gex:lx[m]'(by omega)=lx.getD m 0:=(jM (by omega)).symm
 have gex1:lx[m+1]'(by omega)=lx.getD (m+1) 0:=(jM (by omega)).symm
 have gey:ly[m]'(by omega)=ly.getD m 0:=(jM (by omega)).symm
 rw[gex,gex1] at sx
 rw[gey] at sy
 have hp:=q9w m
 have key:∀a b:Int,a=lx.getD m 0+1000000000*lx.getD (m+1) 0→0<b→mv ly≤b*pB m→∀k,k=a/b→k*mv ly≤mv lx∧q8F k 999999999*mv ly≤mv lx:=by
  intro a b ha hb hbY k hk
  have hk0:0≤k:=by rw[hk];exact Int.ediv_nonneg (by omega) (by omega)
  have hkb:k*b≤a:=by rw[hk];exact Int.ediv_mul_le a (by omega)
  have hY:=(hy.bd).1
  have f1:k*mv ly≤k*(b*pB m):=Int.mul_le_mul_of_nonneg_left hbY hk0
  have f2:k*b*pB m≤a*pB m:=Int.mul_le_mul_of_nonneg_right hkb (by omega)
  have f3:k*(b*pB m)=k*b*pB m:=(Int.mul_assoc _ _ _).symm
  have f4:a*pB m=pB m*(lx.getD m 0+1000000000*(lx.getD (m+1) 0+1000000000*0)):=by rw[ha];grind
  have f5:k*mv ly≤mv lx:=by omega
  refine⟨f5,?_⟩
  have:q8F k 999999999≤k:=by unfold q8F;split<;>omega
  have:=Int.mul_le_mul_of_nonneg_right this hY
  omega
 have wq:∀a b:Int,0≤a→a<1000000000000000000→0<b→yp .i64 a b=a/b:=by
  intro a b h1 h2 h3
  unfold yp
  rw[Int.tdiv_eq_ediv_of_nonneg h1]
  have q1:0≤a/b:=Int.ediv_nonneg h1 (by omega)
  have q2:a/b≤a:=Int.ediv_le_self _ h1
  generalize a/b=q at *
  unfold IntKind.wrap
  simp[IntKind.signed,IntKind.bits];omega
 have fin:∀k:Int,(0<k→k*mv ly≤mv lx∧q8F k 999999999*mv ly≤mv lx)→∃k':Int,(if 0<k then q8F k 999999999 else 1)=k'∧1≤k'∧k'≤999999999∧k'*mv ly≤mv lx:=by
  intro k hk
  by_cases h:0<k
  ·rw[if_pos h]
   refine⟨_,rfl,?_,?_,(hk h).2⟩
   ·unfold q8F;split<;>omega
   ·unfold q8F;split<;>omega
  ·rw[if_neg h];exact⟨1,rfl,by omega,by omega,by omega⟩
 by_cases hcase:nx≤m+1
 ·have c7:(nx:Int)≤((m+1:Nat):Int):=by omega
  have z1:lx.getD (m+1) 0=0:=hx.z _ (by omega)
  have wa:qt .i64 0 (lx.getD m 0)=lx.getD m 0:=by rw[yx (by omega)];omega
  by_cases hm:m=0
  ·subst hm
   have c8:¬(1:Int)<((0+1:Nat):Int):=by omega
   have hq:=wq (lx.getD 0 0) (ly.getD 0 0) (by omega) (by omega) (by omega)
   have hbY:mv ly≤ly.getD 0 0*pB 0:=by rw[q4M] at sy ty ⊢;omega
   obtain⟨k',f1,f2,f3,f4⟩:=fin (lx.getD 0 0/ly.getD 0 0) (fun _=>key _ _ (by rw[z1];omega) (by omega) hbY _ rfl)
   refine⟨k',?_,f2,f3,f4⟩
   rw[←f1]
   simp only[STD,c1,w1,c2,c3,c4,c5,c6,c7,c8,and_self,q3Y,wa,hyn,hq]
   split<;>rfl
  ·have c8:(1:Int)<((m+1:Nat):Int):=by omega
   have wb:qt .i64 (ly.getD m 0) 1=ly.getD m 0+1:=yx (by omega)
   have hq:=wq (lx.getD m 0) (ly.getD m 0+1) (by omega) (by omega) (by omega)
   have hbY:mv ly≤(ly.getD m 0+1)*pB m:=by
    have:(ly.getD m 0+1)*pB m=pB m*(ly.getD m 0+1000000000*0)+pB m:=by grind
    omega
   obtain⟨k',f1,f2,f3,f4⟩:=fin (lx.getD m 0/(ly.getD m 0+1)) (fun _=>key _ _ (by rw[z1];omega) (by omega) hbY _ rfl)
   refine⟨k',?_,f2,f3,f4⟩
   rw[←f1]
   have hne:¬ly.getD m 0+1=0:=by omega
   simp only[STD,c1,w1,c2,c3,c4,c5,c6,c7,c8,and_self,q3Y,wa,wb,hne,hq]
   split<;>rfl
 ·have c7:¬(nx:Int)≤((m+1:Nat):Int):=by omega
  have wm:kN .i64 (lx.getD (m+1) 0) 1000000000=lx.getD (m+1) 0*1000000000:=q8y (by omega)
  have wa:qt .i64 (lx.getD (m+1) 0*1000000000) (lx.getD m 0)=lx.getD (m+1) 0*1000000000+lx.getD m 0:=yx (by omega)
  by_cases hm:m=0
  ·subst hm
   have c8:¬(1:Int)<((0+1:Nat):Int):=by omega
   have hq:=wq (lx.getD (0+1) 0*1000000000+lx.getD 0 0) (ly.getD 0 0) (by omega) (by omega) (by omega)
   have hbY:mv ly≤ly.getD 0 0*pB 0:=by rw[q4M] at sy ty ⊢;omega
   obtain⟨k',f1,f2,f3,f4⟩:=fin ((lx.getD (0+1) 0*1000000000+lx.getD 0 0)/ly.getD 0 0) (fun _=>key _ _ (by omega) (by omega) hbY _ rfl)
   refine⟨k',?_,f2,f3,f4⟩
   rw[←f1]
   simp only[STD,c1,w1,c2,c3,c4,c5,c6,c7,c8,and_self,q3Y,wm,wa,hyn,hq]
   split<;>rfl
  ·have c8:(1:Int)<((m+1:Nat):Int):=by omega
   have wb:qt .i64 (ly.getD m 0) 1=ly.getD m 0+1:=yx (by omega)
   have hq:=wq (lx.getD (m+1) 0*1000000000+lx.getD m 0) (ly.getD m 0+1) (by omega) (by omega) (by omega)
   have hbY:mv ly≤(ly.getD m 0+1)*pB m:=by
    have:(ly.getD m 0+1)*pB m=pB m*(ly.getD m 0+1000000000*0)+pB m:=by grind
    omega
   obtain⟨k',f1,f2,f3,f4⟩:=fin ((lx.getD (m+1) 0*1000000000+lx.getD m 0)/(ly.getD m 0+1)) (fun _=>key _ _ (by omega) (by omega) hbY _ rfl)
   refine⟨k',?_,f2,f3,f4⟩
   rw[←f1]
   have hne:¬ly.getD m 0+1=0:=by omega
   simp only[STD,c1,w1,c2,c3,c4,c5,c6,c7,c8,and_self,q3Y,wm,wa,wb,hne,hq]
   split<;>rfl
end Go.Eng

namespace Go.Eng
theorem qyy(u:Nat):Lib.decDigits u=tN u:=by
 induction u using Nat.strongRecOn with
 | _ u ih=>
  rw[Lib.decDigits]
  split
  ·rename_i h
   rw[qrA h];rfl
  ·rename_i h
   rw[ih (u/10) (by omega)]
   exact(quk (n:=u) (by omega)).symm
theorem qsx(n:Int):Lib.itoa n=tI n:=by
 unfold Lib.itoa
 by_cases h:n<0
 ·rw[if_pos h,qyy,qcF h]
 ·rw[if_neg h,qyy,qh4 h];congr 1;omega
theorem qAM(n:Int)(h:-9223372036854775808≤n∧n≤9223372036854775807):(q30 [.i n]).run=some (0,[.s (tI n)]):=by
 show (qvs [.i n]).run=_
 unfold qvs
 simp only
 rw[if_pos h,qsx];rfl
theorem qpW{c:UInt8}(h:48≤c.toNat∧c.toNat≤57):Lib.digitVal c=some (dv c):=by
 unfold Lib.digitVal dv
 simp_all
theorem ql3:∀{s:List UInt8} (a:Nat),qcS s→Lib.decFrom a s=some (a*10^s.length+val s)
 | [],a,_=>by simp[Lib.decFrom,val]
 | c::s,a,h=>by
  obtain⟨h1,h2⟩:=q2V.1 h
  rw[Lib.decFrom,qpW h1]
  simp only
  rw[ql3 _ h2,q9y,List.length_cons,Nat.pow_succ]
  congr 1
  grind
theorem qnc{s:List UInt8}(h:qcS s)(hn:s≠[]):Lib.decNat s=some (val s):=by
 unfold Lib.decNat
 rw[if_neg (by simpa using hn),ql3 0 h];simp
theorem qq4{s:List UInt8}(h:qcS s)(hn:s≠[]):Lib.atoi s=some (val s:Int):=by
 obtain⟨c,t,e,h1,h2⟩:=qeN h hn
 rw[e] at h ⊢
 have n1:(c==45)=false:=by
  rw[beq_eq_false_iff_ne];intro hc;subst hc;revert h1;decide
 have n2:(c==43)=false:=by
  rw[beq_eq_false_iff_ne];intro hc;subst hc;revert h1;decide
 unfold Lib.atoi
 simp only[n1,n2,Bool.false_eq_true,if_false]
 rw[qnc h (by simp)];rfl
theorem qwC(m:Int):Lib.atoi (tI m)=some m:=by
 by_cases h:m<0
 ·rw[qcF h]
  unfold Lib.atoi
  simp only[beq_self_eq_true,if_true]
  rw[qnc (jK _) (qlr _),q4Z]
  simp;omega
 ·rw[qh4 h,qq4 (jK _) (qlr _),q4Z]
  congr 1;omega
theorem qw1{s:List UInt8}{n:Int}(hl:s.length≤18)(h:Lib.atoi s=some n):(wT [.s s]).run=some (0,[.i n]):=by
 show (qxe [.s s]).run=_
 unfold qxe
 simp only
 rw[if_pos hl,h];rfl
theorem qtz:∀s:List UInt8,Lib.indexByte s 47=if sP s<s.length then (sP s:Int) else -1
 | []=>by simp[Lib.indexByte,sP]
 | c::s=>by
  have ih:=qtz s
  have hle:=qzK s
  unfold Lib.indexByte
  by_cases h:c=47
  ·subst h
   have:sP (47::s)=0:=qAI (by simp) (by simp) (fun j hj=>by omega)
   rw[this];simp
  ·have hc:(c==47)=false:=by simpa using h
   have e:sP (c::s)=sP s+1:=by
    unfold sP
    rw[List.findIdx_cons,hc];rfl
   rw[e]
   generalize sP s=k at *
   have el:(c::s).length=s.length+1:=rfl
   simp only[hc,el,ih,Bool.false_eq_true,if_false]
   grind
theorem qyY(s:List UInt8):(wR [.s s,.s [47]]).run=some (0,[.i (if sP s<s.length then (sP s:Int) else -1)]):=by
 show (qqj [.s s,.s [47]]).run=_
 unfold qqj
 simp only
 rw[←qtz];rfl
theorem qtv:∀{s t:List UInt8},qcS s→qcS t→s.length=t.length→Lib.compareBytes s t=sgn ((val s:Int)-(val t:Int))
 | [],[],_,_,_=>by simp[Lib.compareBytes,val,sgn]
 | [],_::_,_,_,h=>by simp at h
 | _::_,[],_,_,h=>by simp at h
 | a::s,b::t,hs,ht,h=>by
  obtain⟨h1,h2⟩:=q2V.1 hs
  obtain⟨h3,h4⟩:=q2V.1 ht
  have hl:s.length=t.length:=by simpa using h
  have ih:=qtv h2 h4 hl
  have v1:=qdD h2
  have v2:=qdD h4
  unfold Lib.compareBytes
  rw[q9y,q9y,hl]
  rw[hl] at v1
  have hp:0<10^t.length:=Nat.pow_pos (by omega)
  generalize 10^t.length=P at *
  unfold dv
  by_cases c1:a.toNat<b.toNat
  ·rw[if_pos (show a<b from c1)]
   have:(a.toNat-48+1)*P≤(b.toNat-48)*P:=Nat.mul_le_mul_right _ (by omega)
   rw[Nat.add_mul,Nat.one_mul] at this
   unfold sgn
   rw[if_pos (by omega)]
  ·rw[if_neg (show ¬a<b from c1)]
   by_cases c2:b.toNat<a.toNat
   ·rw[if_pos (show b<a from c2)]
    have:(b.toNat-48+1)*P≤(a.toNat-48)*P:=Nat.mul_le_mul_right _ (by omega)
    rw[Nat.add_mul,Nat.one_mul] at this
    unfold sgn
    rw[if_neg (by omega),if_neg (by omega)]
   ·rw[if_neg (show ¬b<a from c2),ih]
    have:a.toNat=b.toNat:=by omega
    rw[this]
    congr 1;omega
theorem qup{s t:List UInt8}(hs:qcS s)(ht:qcS t)(h:s.length=t.length):(q2c [.s s,.s t]).run=some (0,[.i (sgn ((val s:Int)-(val t:Int)))]):=by
 show (qkb [.s s,.s t]).run=_
 unfold qkb
 simp only
 rw[qtv hs ht h];rfl
def qvd:List UInt8:=[48,49,50,51,52,53,54,55,56,57]
theorem qsZ(c:UInt8):(qvd.contains c=true)↔(48≤c.toNat∧c.toNat≤57):=by
 constructor
 ·intro h
  simp only[qvd,List.contains_eq_mem,List.mem_cons,List.not_mem_nil,or_false,decide_eq_true_eq] at h
  rcases h with rfl|rfl|rfl|rfl|rfl|rfl|rfl|rfl|rfl|rfl<;>decide
 ·rintro ⟨h1,h2⟩
  have hk:∃k,c=UInt8.ofNat k∧48≤k∧k≤57:=⟨c.toNat,by simp,h1,h2⟩
  obtain⟨k,rfl,k1,k2⟩:=hk
  have:k=48∨k=49∨k=50∨k=51∨k=52∨k=53∨k=54∨k=55∨k=56∨k=57:=by omega
  rcases this with rfl|rfl|rfl|rfl|rfl|rfl|rfl|rfl|rfl|rfl<;>decide
theorem q7b{p:UInt8→Bool}:∀{l:List UInt8},l.dropWhile p=[]↔∀x,x∈l→p x=true
 | []=>by simp
 | a::l=>by
  rw[List.dropWhile_cons]
  by_cases h:p a=true
  ·rw[if_pos h,q7b];simp[h]
  ·rw[if_neg h];simp[h]
theorem qey(s:List UInt8):(Lib.trimS s qvd=[])=qcS s:=by
 apply propext
 unfold Lib.trimS Lib.trimLeftS Lib.trimRightS
 constructor
 ·intro h
  have h1:∀c,c∈(s.reverse.dropWhile (qvd.contains ·)).reverse→qvd.contains c=true:=by
   intro c hc
   have:=q7b.1 h c hc
   simpa using this
  have h2:s.reverse.dropWhile (qvd.contains ·)=[]:=by
   cases hd:s.reverse.dropWhile (qvd.contains ·) with
   | nil=>rfl
   | cons c t=>
    exfalso
    have h3:=List.head_dropWhile_not (p:=(qvd.contains ·)) (l:=s.reverse) (by rw[hd];simp)
    simp only[hd,List.head_cons] at h3
    have:=h1 c (by rw[hd];simp)
    rw[this] at h3;cases h3
  intro c hc
  have:=q7b.1 h2 c (by simpa using hc)
  exact(qsZ c).1 (by simpa using this)
 ·intro h
  have h2:s.reverse.dropWhile (qvd.contains ·)=[]:=by
   rw[q7b]
   intro c hc
   exact(qsZ c).2 (h c (by simpa using hc))
  rw[h2];rfl
theorem qAa(s:List UInt8)(hl:s.length≤9223372036854775807):(q5A [.s s,.s [48,49,50,51,52,53,54,55,56,57]]).run=some (0,[.s (Lib.trimS s qvd)]):=by
 show (qws [.s s,.s qvd]).run=_
 unfold qws
 simp only
 rw[if_pos ⟨hl,by decide,by decide⟩];rfl
end Go.Eng

namespace Go.Eng
theorem qwH(n:Nat):pB n=((10^(9*n):Nat):Int):=by
 unfold pB
 rw[Nat.pow_mul]
 simp
theorem qtM:∀k:Nat,k≤9→qij [48,48,48,48,48,48,48,48,48] (k:Int) 9=List.replicate (9-k) 48
 | 0,_=>rfl
 | 1,_=>rfl
 | 2,_=>rfl
 | 3,_=>rfl
 | 4,_=>rfl
 | 5,_=>rfl
 | 6,_=>rfl
 | 7,_=>rfl
 | 8,_=>rfl
 | 9,_=>rfl
 | n+10,h=>by omega
theorem qzF{v:Nat}(h:v<1000000000):qcS (qwi (tN v))∧(qwi (tN v)).length=9∧val (qwi (tN v))=v:=by
 have hl:(tN v).length≤9:=qav 8 v (by omega)
 have e:qwi (tN v)=List.replicate (9-(tN v).length) 48++tN v:=by
  unfold qwi qpy
  rw[show zJ (tN v)=((tN v).length:Int) from rfl,qtM _ hl]
 rw[e]
 refine⟨qh3.2 ⟨qtF _,jK v⟩,by simp;omega,by rw[qw5,q4Z]⟩
theorem qnz{l:List Int}(hl:l.length=232)(hd:dgs l):∀i:Nat,i≤232→qcS (qhV (rI l) i)∧(qhV (rI l) i).length=9*i∧((val (qhV (rI l) i):Nat):Int)=mv (l.take i)
 | 0,_=>⟨qxv,rfl,by simp[qhV,qoa,mv]⟩
 | i+1,h=>by
  obtain⟨h1,h2,h3⟩:=qnz hl hd i (by omega)
  have hil:i<l.length:=by omega
  have hg:=hd _ (List.getElem_mem hil)
  have e:cI (rI l) (i:Int) 0=l[i]:=by rw[q3Y,jM hil]
  have e2:Lib.itoa l[i]=tN l[i].toNat:=by rw[qsx,qh4 (by omega)];congr 1;omega
  obtain⟨p1,p2,p3⟩:=qzF (v:=l[i].toNat) (by omega)
  unfold qhV
  rw[e,e2]
  refine⟨qh3.2 ⟨p1,h1⟩,by rw[List.length_append,p2,h2];omega,?_⟩
  rw[qp5,p3,h2,qjl hil,qwH]
  simp only[Int.natCast_add,Int.natCast_mul,h3]
  rw[Int.toNat_of_nonneg hg.1];omega
theorem qy2{n:Nat}{l:List Int}(h:WOK n l)(hn:nrm n l)(b:Bool):qv3 b (n:Int) (rI l)=tI (sv b l):=by
 unfold qv3
 by_cases h0:n=0
 ·have h1:mv l=0:=by rw[←qhB h hn];exact h0
  rw[if_pos (by omega)]
  unfold sv;rw[h1];cases b<;>rfl
 ·rw[if_neg (by omega)]
  obtain⟨m,rfl⟩:∃m,n=m+1:=⟨n-1,by omega⟩
  have hle:=h.le
  have hml:m<l.length:=by rw[h.len];omega
  have e1:(((m+1:Nat):Int)-1)=(m:Int):=by omega
  rw[e1,Int.toNat_natCast,q3Y,jM hml]
  have hg:=h.dig _ (List.getElem_mem hml)
  have e2:Lib.itoa l[m]=tN l[m].toNat:=by rw[qsx,qh4 (by omega)];congr 1;omega
  obtain⟨t1,t2,t3⟩:=qnz h.len h.dig m (by omega)
  have hnz:l[m]≠0:=by
   rcases hn with hn|hn
   ·omega
   ·rw[Nat.add_sub_cancel,jM hml] at hn;exact hn
  have hlo:=h.lo hn h0
  have hp:=q9w m
  simp only[Nat.add_sub_cancel] at hlo
  have hv:((val (tN l[m].toNat++qhV (rI l) m):Nat):Int)=mv l:=by
   rw[qp5,q4Z,t2,q9m l m (by omega),qa5 hml,wL h.dig h.z (Nat.le_refl _),qwH]
   simp only[Int.natCast_add,Int.natCast_mul,t3]
   rw[Int.toNat_of_nonneg hg.1]
   grind
  have hT:tN l[m].toNat++qhV (rI l) m=tN (mv l).toNat:=by
   have hd:qcS (tN l[m].toNat++qhV (rI l) m):=qh3.2 ⟨jK _,t1⟩
   have hne:tN l[m].toNat++qhV (rI l) m≠[]:=by simp[qlr]
   have hz:(tN l[m].toNat++qhV (rI l) m).getD 0 0≠48:=by
    have hv0:=q4Z l[m].toNat
    have hd0:=jK l[m].toNat
    rcases qvk l[m].toNat with h1|h1
    ·obtain⟨c,e⟩:=List.length_eq_one_iff.1 h1
     rw[e] at hv0 ⊢
     simp only[List.cons_append,List.getD_cons_zero]
     intro hc;subst hc
     rw[qsm] at hv0
     simp[dv] at hv0;omega
    ·obtain⟨c,t,e,_⟩:=qeN hd0 (qlr _)
     rw[e] at h1 ⊢
     simpa using h1
   have:=qsB hd hne (.inr hz)
   rw[this];congr 1;omega
  rw[e2,List.append_assoc,hT]
  unfold sv
  cases b
  ·rw[if_neg (by simp),if_neg (by simp),qh4 (by omega)];simp;congr 1;omega
  ·rw[if_pos rfl,if_pos rfl,qcF (by omega)];simp;congr 1;omega
theorem quC{n:Nat}{l:List Int}(h:WOK n l):qp2 (n:Int) (rI l)=true:=by
 unfold qp2
 have:=h.le
 simp only[Bool.and_eq_true,decide_eq_true_eq,List.all_eq_true,List.mem_range]
 refine⟨⟨by omega,by omega⟩,fun i _=>?_⟩
 have:=h.get i
 rw[q3Y];exact this
theorem qtj{n:Nat}{l:List Int}(h:WOK n l)(hn:nrm n l)(b:Bool):(qA [.b b,.i (n:Int),.r (rI l)]).run=some (0,[.s (tI (sv b l)),.b b,.i (n:Int),.r (rI l)]):=by
 show (qwx [.b b,.i (n:Int),.r (rI l)]).run=_
 unfold qwx
 simp only
 rw[if_pos (quC h),qy2 h hn];rfl
end Go.Eng

namespace Go.Eng
theorem qyd{nr ny:Nat}{lr ly:List Int}(hr:WOK nr lr)(hnr:nrm nr lr)(hy:WOK ny ly)(hny:nrm ny ly)(h0:ny≠0)(hy231:ny≤231)(hlt:mv lr<mv ly*1000000000)(y0:Int)(xb:Bool)(xi:Int)(xr:R)(b2:Bool)(qb:Bool)(qi:Int)(qr:R)(br:Bool) :
  ∃(d:Int) (n:Nat) (l:List Int),(ql jh [.i y0,.i 0,.b xb,.i xi,.r xr,.b b2,.i (ny:Int),.r (rI ly),.b qb,.i qi,.r qr,.b br,.i (nr:Int),.r (rI lr)]).run =
   some (0,[.i y0,.i d,.b xb,.i xi,.r xr,.b b2,.i (ny:Int),.r (rI ly),.b qb,.i qi,.r qr,.b br,.i (n:Int),.r (rI l)])∧WOK n l∧nrm n l∧0≤d∧d<1000000000∧mv lr=d*mv ly+mv l∧mv l<mv ly:=by
 have hyp:0<mv ly:=by
  have:=hy.lo hny h0
  have:=q9w (ny-1)
  omega
 have hyb:=hy.bd
 obtain⟨j,qs,g1,rfl,d,n,l,rfl,g2⟩:=q5E (S:=jh) (fun k ps=>∃(d:Int) (n:Nat) (l:List Int),ps=[.i y0,.i d,.b xb,.i xi,.r xr,.b b2,.i (ny:Int),.r (rI ly),.b qb,.i qi,.r qr,.b br,.i (n:Int),.r (rI l)] ∧
   WOK n l∧nrm n l∧0≤d∧d+k=1000000000∧mv lr=d*mv ly+mv l)
  (fun j qs=>j=0∧∃(d:Int) (n:Nat) (l:List Int),qs=[.i y0,.i d,.b xb,.i xi,.r xr,.b b2,.i (ny:Int),.r (rI ly),.b qb,.i qi,.r qr,.b br,.i (n:Int),.r (rI l)]∧WOK n l∧nrm n l∧0≤d∧d<1000000000∧mv lr=d*mv ly+mv l∧mv l<mv ly) (n:=1000000000) (by omega)
  (fun k ps hk ⟨d,n,l,hps,hw,hn,hd0,hdk,hv⟩=>by
   subst hps
   have hlb:=hw.bd
   have hdlt:d<1000000000:=by
    rcases Int.lt_or_le d 1000000000 with h|h
    ·exact h
    ·have:=Int.mul_le_mul_of_nonneg_right h (show 0≤mv ly by omega)
     rw[Int.mul_comm (mv ly)] at hlt
     omega
   rw[qgl]
   obtain⟨r,r1,r2⟩:=qtc hw hn hy hny br b2
   by_cases hle:mv ly≤mv l
   ·left
    have hr0:0≤r:=by rw[r2];exact hle
    have hdm:=Int.mul_nonneg hd0 (show 0≤mv ly by omega)
    have hl9:mv l<pB (ny+1):=by rw[q8t];omega
    obtain⟨q,e1,e2,e3,e4⟩:=qu8 hw hn hy hny h0 hle hl9 hy231 br b2
    obtain⟨n',l',c1,c2,c3,c4⟩:=qkO (f:=-q) (up:=0) hw hy (by omega) (by omega) (T:=mv l-q*mv ly) (by rw[q4M,Int.mul_one,Int.neg_mul];omega) (by omega)
     (by have:=hlb.2;have:=q9T hw.le;have:=Int.mul_nonneg (show 0≤q by omega) (show 0≤mv ly by omega);omega) br b2
    have hq2:(d+q)*mv ly+(mv l-q*mv ly)=d*mv ly+mv l:=by rw[Int.add_mul];omega
    have hdq:d+q<1000000000:=by
     rcases Int.lt_or_le (d+q) 1000000000 with h|h
     ·exact h
     ·have:=Int.mul_le_mul_of_nonneg_right h (show 0≤mv ly by omega)
      rw[Int.mul_comm (mv ly)] at hlt
      omega
    have w1:qP .i64 0 q=-q:=qzk (by omega)
    have w2:qt .i64 d q=d+q:=yx (by omega)
    simp only[show ((0:Nat):Int)=0 from rfl] at c1
    refine⟨(1000000000-(d+q)).toNat,[.i y0,.i (d+q),.b xb,.i xi,.r xr,.b b2,.i (ny:Int),.r (rI ly),.b qb,.i qi,.r qr,.b br,.i (n':Int),.r (rI l')],by omega,?_,d+q,n',l',rfl,c2,c3,by omega,by omega,by rw[c4];omega⟩
    simp only[STD,r1,hr0,e1,w1,w2,c1]
   ·right
    have hr0:¬0≤r:=by rw[r2];exact hle
    refine⟨0,_,?_,rfl,d,n,l,rfl,hw,hn,hd0,hdlt,hv,by omega⟩
    simp only[STD,r1,hr0]) (ps:=[.i y0,.i 0,.b xb,.i xi,.r xr,.b b2,.i (ny:Int),.r (rI ly),.b qb,.i qi,.r qr,.b br,.i (nr:Int),.r (rI lr)]) ⟨0,nr,lr,rfl,hr,hnr,by omega,by omega,by omega⟩
 exact⟨d,n,l,g1,g2⟩
theorem qxP{n:Nat}{l:List Int}{d:Int}(h:WOK n l)(hn:n≤231)(hd:0≤d∧d<1000000000) :
  qd5 (qhQ (rI l) 1 (rI l) 0 (q8F (qv1 (n:Int) 0) (qv1 232 1))) 0 0 [.i d]=rI (d::(l.take n++l.drop (1+n)))∧WOK (n+1) (d::(l.take n++l.drop (1+n)))∧mv (d::(l.take n++l.drop (1+n)))=d+1000000000*mv l:=by
 have hlen:=h.len
 have e1:q8F (qv1 (n:Int) 0) (qv1 232 1)=(n:Int):=by unfold q8F qv1;split<;>omega
 obtain⟨x,t,rfl⟩:∃x t,l=x::t:=by
  cases l with
  | nil=>simp at hlen
  | cons x t=>exact⟨x,t,rfl⟩
 refine⟨?_,⟨by simp;simp at hlen;omega,by omega,?_,?_⟩,?_⟩
 ·rw[e1]
  unfold qhQ
  have:(rI (x::t)).take (1:Int).toNat++((rI (x::t)).drop (0:Int).toNat).take (n:Int).toNat++(rI (x::t)).drop ((1:Int).toNat+(n:Int).toNat)=rI (x::((x::t).take n++(x::t).drop (1+n))):=by
   rw[Int.toNat_natCast]
   simp[rI,List.map_take,List.map_drop]
  rw[this,show (0:Int)=((0:Nat):Int) from rfl,qfN]
  rfl
 ·intro y hy
  rcases List.mem_cons.1 hy with rfl|hy
  ·exact hd
  ·rcases List.mem_append.1 hy with hy|hy
   ·exact h.dig _ (List.mem_of_mem_take hy)
   ·exact h.dig _ (List.mem_of_mem_drop hy)
 ·intro i hi
  obtain⟨j,rfl⟩:∃j,i=j+1:=⟨i-1,by omega⟩
  have hz:=h.z (j+1) (by omega)
  rw[List.getD_eq_getElem?_getD] at hz ⊢
  rw[List.getElem?_cons_succ,List.getElem?_append_right (by simp;omega)]
  rw[List.getElem?_drop,List.length_take,Nat.min_eq_left (by omega)]
  rw[show 1+n+(j-n)=j+1 by omega]
  exact hz
 ·show d+1000000000*mv _=_
  rw[qt5,List.length_take,Nat.min_eq_left (by omega),wL h.dig h.z (show n≤1+n by omega)]
  have:=q9m (x::t) n (by omega)
  rw[wL h.dig h.z (Nat.le_refl n)] at this
  omega
theorem qdM{nx ny:Nat}{lx ly:List Int}(hx:WOK nx lx)(hy:WOK ny ly)(hny:nrm ny ly)(h0:ny≠0)(hy231:ny≤231)(bx b2:Bool) :
  ∃(nq:Nat) (lq:List Int) (nr:Nat) (lr:List Int),(zZ [.b bx,.i (nx:Int),.r (rI lx),.b b2,.i (ny:Int),.r (rI ly)]).run =
   some (0,[.b bx,.i (nx:Int),.r (rI lx),.b b2,.i (ny:Int),.r (rI ly),.b false,.i (nq:Int),.r (rI lq),.b false,.i (nr:Int),.r (rI lr)])∧WOK nq lq∧nrm nq lq∧WOK nr lr∧nrm nr lr∧mv lx=mv lq*mv ly+mv lr∧mv lr<mv ly:=by
 rw[qjY]
 have hyp:0<mv ly:=by
  have:=hy.lo hny h0
  have:=q9w (ny-1)
  omega
 have hx232:=hx.le
 have e0:q50 232 [.i 0]=rI (List.replicate 232 0):=qnX 232 0
 have hxl:=hx.len
 obtain⟨j,qs,g1,rfl,nq,lq,nr,lr,rfl,g2,g3,g4,g5,g6⟩:=q5E (S:=kt) (fun k ps=>∃(Q:Int) (nq:Nat) (lq:List Int) (nr:Nat) (lr:List Int),
   ps=[.i ((k:Int)-1),.b bx,.i (nx:Int),.r (rI lx),.b b2,.i (ny:Int),.r (rI ly),.b false,.i (nq:Int),.r (rI lq),.b false,.i (nr:Int),.r (rI lr)]∧k≤nx∧WOK nq lq∧WOK nr lr∧nrm nr lr∧mv (lx.drop k)=Q*mv ly+mv lr∧mv lr<mv ly∧mv lq=pB k*Q∧∀i,i<k→lq.getD i 0=0)
  (fun j qs=>j=0∧∃(nq:Nat) (lq:List Int) (nr:Nat) (lr:List Int),qs=[.b bx,.i (nx:Int),.r (rI lx),.b b2,.i (ny:Int),.r (rI ly),.b false,.i (nq:Int),.r (rI lq),.b false,.i (nr:Int),.r (rI lr)]∧WOK nq lq∧WOK nr lr∧nrm nr lr∧mv lx=mv lq*mv ly+mv lr∧mv lr<mv ly) (n:=nx) (by omega)
  (fun k ps hk ⟨Q,nq,lq,nr,lr,hps,hkn,hwq,hwr,hnr,hv,hlt,hq,hz⟩=>by
   subst hps
   rw[qhp]
   rcases Nat.eq_zero_or_pos k with rfl|hk0
   ·right
    have a1:¬(0:Int)≤((0:Nat):Int)-1:=by omega
    refine⟨0,[.b bx,.i (nx:Int),.r (rI lx),.b b2,.i (ny:Int),.r (rI ly),.b false,.i (nq:Int),.r (rI lq),.b false,.i (nr:Int),.r (rI lr)],?_,rfl,nq,lq,nr,lr,rfl,hwq,hwr,hnr,?_,hlt⟩
    ·simp only[STD,a1]
    ·rw[hq,q4M,Int.one_mul,←hv,List.drop_zero]
   ·left
    obtain⟨i,rfl⟩:∃i,k=i+1:=⟨k-1,by omega⟩
    have e:(((i+1:Nat):Int)-1)=(i:Int):=by omega
    rw[e]
    have hnr231:nr≤231:=Nat.le_trans (qBj hwr hnr hy (by omega)) hy231
    have hil:i<lx.length:=by omega
    have gx:=hx.get i
    obtain⟨s1,s2,s3⟩:=qxP hwr hnr231 (d:=lx.getD i 0) gx
    obtain⟨m,t1,t2,t3⟩:=qi8 s2 false
    have hX:mv (lx.drop i)=lx.getD i 0+1000000000*(Q*mv ly+mv lr):=by rw[qa5 hil,←hv,jM hil]
    have hlt2:mv (lx.getD i 0::(lr.take nr++lr.drop (1+nr)))<mv ly*1000000000:=by rw[s3];omega
    obtain⟨d,n',l',d1,d2,d3,d4,d5,d6,d7⟩:=qyd t2 t3 hy hny h0 hy231 hlt2 (i:Int) bx (nx:Int) (rI lx) b2 false (nq:Int) (rI lq) false
    rw[s3] at d6
    have a1:(0:Int)≤(i:Int):=by omega
    have a2:(i:Int)<232:=by omega
    have a3:(0:Int)≤232∧(232:Int)≤232:=by omega
    have a4:(0:Int)≤1∧(1:Int)≤232:=by omega
    have a5:(0:Int)≤(nr:Int)∧(nr:Int)≤232:=by omega
    have a6:(0:Int)≤0∧(0:Int)≤(nr:Int):=by omega
    have w1:qt .i64 (nr:Int) 1=((nr+1:Nat):Int):=by rw[yx (by omega)];omega
    have w2:qt .i64 (i:Int) 1=((i+1:Nat):Int):=by rw[yx (by omega)];omega
    have w3:qP .i64 (i:Int) 1=(i:Int)-1:=q2r (by omega)
    have w4:qii (nq:Int) ((i+1:Nat):Int)=((max nq (i+1):Nat):Int):=qsS _ _
    have hiq:i<lq.length:=by rw[hwq.len];omega
    have hzi:lq[i]=0:=by rw[←jM hiq];exact hz i (by omega)
    refine⟨i,[.i ((i:Int)-1),.b bx,.i (nx:Int),.r (rI lx),.b b2,.i (ny:Int),.r (rI ly),.b false,.i ((max nq (i+1):Nat):Int),.r (rI (lq.set i d)),.b false,.i (n':Int),.r (rI l')],by omega,?_,Q*1000000000+d,_,_,_,_,rfl,by omega,hwq.setW (by omega) ⟨d4,d5⟩,d2,d3,?_,d7,?_,?_⟩
    ·simp only[q3Y,s1,w1]
     simp only[STD,a1,a2,a3,a4,a5,a6,and_self,t1,d1,w2,w3,w4,qfN]
    ·rw[hX,Int.add_mul,Int.mul_add]
     have:Q*1000000000*mv ly=1000000000*(Q*mv ly):=by grind
     omega
    ·rw[qsP lq i hiq,hzi,hq,q8t];grind
    ·intro a ha
     rw[List.getD_eq_getElem?_getD,List.getElem?_set_ne (by omega),←List.getD_eq_getElem?_getD]
     exact hz a (by omega))
  (ps:=[.i ((nx:Int)-1),.b bx,.i (nx:Int),.r (rI lx),.b b2,.i (ny:Int),.r (rI ly),.b false,.i 0,.r (rI (List.replicate 232 0)),.b false,.i 0,.r (rI (List.replicate 232 0))])
  ⟨0,0,_,0,_,rfl,Nat.le_refl _,WOK.zero,WOK.zero,.inl rfl,by rw[wL hx.dig hx.z (Nat.le_refl _),qbz];omega,by rw[qbz];exact hyp,by rw[qbz,Int.mul_zero],fun i _=>qqb 232 i⟩
 obtain⟨m,t1,t2,t3⟩:=qi8 g2 false
 refine⟨m,lq,nr,lr,?_,t2,t3,g3,g4,g5,g6⟩
 have hs:qP .i64 (nx:Int) 1=(nx:Int)-1:=q2r (by omega)
 simp only[e0,hs]
 simp only[STD,g1,t1]
end Go.Eng

namespace Go.Eng
theorem qAJ{c:UInt8}{t:List UInt8}:qij (c::t) 0 1=[c]:=by simp[qij]
theorem qwV(s:List UInt8):(qx [.s s,.s [45]]).run=some (0,[.b (decide (s.getD 0 0=45))]):=by
 rw[q45]
 have h1:zJ [45]=1:=rfl
 cases s with
 | nil=>
  have a:¬(1:Int)≤zJ []:=by decide
  simp only[STD,h1,a];rfl
 | cons c t=>
  have a:(1:Int)≤zJ (c::t):=by unfold zJ;simp only[List.length_cons];omega
  simp only[STD,h1,a,show (0:Int)≤1 by omega,show (0:Int)≤0 by omega,and_self,qAJ]
  have e:seq [c] [45]=decide ((c::t).getD 0 0=45):=by rw[Bool.eq_iff_iff,jD];simp
  rw[e]
theorem qov(s:List UInt8):(qH [.s s,.s [45]]).run=some (0,[.s (mag s)]):=by
 rw[qeg]
 have h:(qW [.s s,.s [45]]).run=some (0,[.s (mag s)]):=by
  rw[q43]
  have h1:zJ [45]=1:=rfl
  unfold mag
  by_cases h:s.getD 0 0=45
  ·rw[if_pos h]
   have a:(1:Int)≤zJ s:=by
    cases s with
    | nil=>simp at h
    | cons c t=>unfold zJ;simp only[List.length_cons];omega
   have e:qij s 1 (zJ s)=s.drop 1:=by unfold qij zJ;simp
   simp only[STD,qwV,h,h1,a,and_self,Int.le_refl,show (0:Int)≤zJ s by omega,show (0:Int)≤1 by omega,e]
  ·rw[if_neg h]
   simp only[STD,qwV,h]
 simp only[STD,h]
theorem qbO(s:List UInt8)(hl:s.length≤1000000000):(qD [.s s]).run=some (0,[.i (qtp s)]):=by
 rw[qn2]
 have hT:=qov s
 have hml:(mag s).length≤s.length:=by unfold mag;split<;>simp
 have hR:=qAa (mag s) (by omega)
 have hcan:=qvQ s
 unfold qtp
 have hl3:(1024<zJ (mag s))=¬((mag s).length≤1024):=by unfold zJ;simp only[eq_iff_iff];omega
 by_cases hne:mag s=[]
 ·rw[if_neg (fun h=>(hcan.1 h).1 hne)]
  simp only[STD,hT,jD,hne]
 ·have hp:0<(mag s).length:=List.length_pos_iff.2 hne
  have a1:(0:Int)<zJ (mag s):=by unfold zJ;omega
  have hs:sat (mag s) 0=((mag s)[0].toNat:Int):=qyQ (i:=0) hp
  have h48:((mag s)[0].toNat:Int)=48↔(mag s).getD 0 0=48:=by
   have:(mag s).getD 0 0=(mag s)[0]:=by simp[List.getD_eq_getElem?_getD,hp]
   rw[this]
   exact⟨fun h=>UInt8.toNat_inj.1 (by show (mag s)[0].toNat=48;omega),fun h=>by rw[h];rfl⟩
  by_cases hd:qcS (mag s)
  ·have hs1:((mag s).getD 0 0=48→s.length=1)↔(((mag s)[0].toNat:Int)=48→s=[48]):=by
    rw[h48]
    constructor
    ·intro h h2
     obtain⟨c,e⟩:=List.length_eq_one_iff.1 (h h2)
     subst e
     by_cases hc:c=45
     ·subst hc;exact absurd rfl hne
     ·have:mag [c]=[c]:=by unfold mag;rw[if_neg (by simpa using hc)]
      rw[this] at h2
      simp at h2
      rw[h2]
    ·intro h h2
     rw[h h2];rfl
   by_cases hz:((mag s)[0].toNat:Int)=48
   ·by_cases h0:s=[48]
    ·rw[if_pos (hcan.2 ⟨hne,hd,hs1.2 fun _=>h0⟩)]
     by_cases hL:(mag s).length≤1024
     ·simp only[STD,hT,hR,jD,hne,qey,hd,a1,hs,hz,hl3,hL,Int.le_refl,and_self]
      simp only[STD,h0]
     ·simp only[STD,hT,hR,jD,hne,qey,hd,a1,hs,hz,hl3,hL,Int.le_refl,and_self]
      simp only[STD,h0]
    ·rw[if_neg (fun h=>h0 (hs1.1 (hcan.1 h).2.2 hz))]
     simp only[STD,hT,hR,jD,hne,qey,hd,a1,hs,hz,h0,Int.le_refl,and_self]
   ·rw[if_pos (hcan.2 ⟨hne,hd,fun h=>absurd (h48.2 h) hz⟩)]
    by_cases hL:(mag s).length≤1024
    ·simp only[STD,hT,hR,jD,hne,qey,hd,a1,hs,hz,hl3,hL,Int.le_refl,and_self]
    ·simp only[STD,hT,hR,jD,hne,qey,hd,a1,hs,hz,hl3,hL,Int.le_refl,and_self]
  ·rw[if_neg (fun h=>hd (hcan.1 h).2.1)]
   simp only[STD,hT,hR,jD,hne,qey,hd]
def okL(m:Int):Prop:=nl m≤1024
theorem qsr{m:Int}(h:okL m):qtp (tI m)=0:=by
 unfold qtp
 rw[if_pos ⟨m,rfl⟩,qqB,if_pos (show (tN m.natAbs).length≤1024 from h)]
theorem qsk{m:Int}(h:okL m):(tI m).length≤1025:=by
 have:=qyB m
 unfold okL nl at h
 omega
theorem qbj{m:Int}(h:okL m):(qD [.s (tI m)]).run=some (0,[.i 0]):=by
 have:=qsk h
 rw[qbO _ (by omega),qsr h]
def rS(l:List (List UInt8)):R:=l.map fun s=>[.s s]
theorem qnJ(l:List (List UInt8)):qh (rS l)=l.length:=by simp[rS,qh]
theorem qv9{l:List (List UInt8)}{i:Nat}(h:i<l.length):cS (rS l) (i:Int) 0=l[i]:=by simp[cS,wS,rS,List.getD_eq_getElem?_getD,h,U.toS]
theorem qAy{l:List (List UInt8)}(hn:l.length<1000000)(h:∀s,s∈l→(qD [.s s]).run=some (0,[.i 0])):(zx [.r (rS l)]).run=some (0,[.i 0]):=by
 rw[qql,qnJ]
 have key:=q0B (S:=q46) (fun i=>[.r (rS l),.i (l.length:Int),.i (i:Int)]) (0,[]) l.length (by omega) (fun i hi=>by
  rw[qfD,qv9 hi]
  have a1:(i:Int)<(l.length:Int):=by omega
  have a2:(i:Int)<qh (rS l):=by rw[qnJ];exact a1
  simp only[STD,a1,a2,q94,and_self,h _ (List.getElem_mem hi),q57 hi (show l.length<9223372036854775808 by omega)]) (by
  rw[qfD]
  have a1:¬(l.length:Int)<(l.length:Int):=by omega
  simp only[STD,a1])
 simp only[show (((0:Nat)):Int)=0 from rfl] at key
 simp only[STD,key,qN key]
theorem qcp{m n:Int}(hm:okL m)(hn:okL n):(zx [.r [[.s (tI m)],[.s (tI n)]]]).run=some (0,[.i 0]):=by
 have:=qAy (l:=[tI m,tI n]) (by simp) (fun s hs=>by
  simp only[List.mem_cons,List.not_mem_nil,or_false] at hs
  rcases hs with rfl|rfl
  ·exact qbj hm
  ·exact qbj hn)
 exact this
theorem q53(n:Int)(h:-9223372036854775808≤n∧n≤9223372036854775807):(zb [.i n]).run=some (0,[.s (tI n)]):=by
 rw[qs8]
 simp only[STD,qAM n h]
theorem q5p(m:Int):(tI m=[48])=(m=0):=propext ⟨fun h=>qtx (n:=0) h,fun h=>by rw[h];rfl⟩
theorem q1L(m:Int):(jV [.s (tI m)]).run=some (0,[.i (sgn m)]):=by
 rw[qou]
 have a1:(0:Int)<zJ (tI m):=by have:=qqJ m;unfold zJ;omega
 have hs:(sat (tI m) 0=45)=(m<0):=qyE m
 unfold sgn
 by_cases h0:m=0
 ·simp only[STD,jD,q5p,h0];rfl
 ·by_cases h1:m<0
  ·simp only[STD,jD,q5p,h0,a1,hs,h1,Int.le_refl,and_self]
  ·simp only[STD,jD,q5p,h0,a1,hs,h1,Int.le_refl,and_self]
theorem qqT{m:Int}(h:okL m):(q66 [.s (tI m)]).run=some (0,[.i (sgn m),.i 0]):=by
 rw[qo8]
 simp only[STD,qbj h,q1L]
theorem qzi(m n:Nat):(q4l [.s (tN m),.s (tN n)]).run=some (0,[.i (sgn ((m:Int)-(n:Int)))]):=by
 rw[qmK]
 have hl:(zJ (tN m)=zJ (tN n))=((tN m).length=(tN n).length):=by unfold zJ;simp only[eq_iff_iff];omega
 have hl2:(zJ (tN m)<zJ (tN n))=((tN m).length<(tN n).length):=by unfold zJ;simp only[eq_iff_iff];omega
 by_cases he:(tN m).length=(tN n).length
 ·have h:=qup (jK m) (jK n) he
  rw[q4Z,q4Z] at h
  simp only[STD,hl,he,h]
 ·by_cases hlt:(tN m).length<(tN n).length
  ·have h:=(qw4 m n).1 (.inl hlt)
   simp only[STD,hl,hl2,he,hlt]
   unfold sgn
   rw[if_pos (by omega)]
  ·have h:=(qw4 n m).1 (.inl (by omega))
   simp only[STD,hl,hl2,he,hlt]
   unfold sgn
   rw[if_neg (by omega),if_neg (by omega)]
theorem qaC(m:Int):(m<0∧sgn m=-1)∨(m=0∧sgn m=0)∨(0<m∧sgn m=1):=by
 unfold sgn
 rcases Int.lt_trichotomy m 0 with h|h|h
 ·rw[if_pos h];omega
 ·subst h;simp
 ·rw[if_neg (by omega),if_neg (by omega)];omega
theorem qm6(m:Int):-1≤sgn m∧sgn m≤1:=by rcases qaC m with⟨_,e⟩|⟨_,e⟩|⟨_,e⟩<;>omega
theorem qzO(m n:Int):(if sgn m<sgn n then -1 else if sgn n<sgn m then 1 else sgn m*sgn ((m.natAbs:Int)-(n.natAbs:Int)))=sgn (m-n):=by
 rcases qaC m with⟨a,ea⟩|⟨a,ea⟩|⟨a,ea⟩<;>rcases qaC n with⟨b,eb⟩|⟨b,eb⟩|⟨b,eb⟩<;>rw[ea,eb]<;>simp only[Int.reduceLT,Int.reduceNeg,if_true,if_false] <;>
  rcases qaC (m-n) with⟨c,ec⟩|⟨c,ec⟩|⟨c,ec⟩<;>rcases qaC ((m.natAbs:Int)-(n.natAbs:Int)) with⟨d,ed⟩|⟨d,ed⟩|⟨d,ed⟩<;>omega
theorem qlm{m n:Int}(hm:okL m)(hn:okL n):(q1A [.s (tI m),.s (tI n)]).run=some (0,[.i (sgn (m-n)),.i 0]):=by
 rw[qk1]
 have h1:=qov (tI m)
 have h2:=qov (tI n)
 rw[qqB] at h1 h2
 have h3:=qzi m.natAbs n.natAbs
 have hw:∀a b:Int,-1≤a∧a≤1→-1≤b∧b≤1→kN .i64 a b=a*b:=fun a b ha hb=>q8y (by have:=qAk (A:=1) (B:=1) ha.1 ha.2 hb.1 hb.2;omega)
 have ba:=qm6 m
 have bb:=qm6 n
 have bc:=qm6 ((m.natAbs:Int)-(n.natAbs:Int))
 have e:=qzO m n
 by_cases c1:sgn m<sgn n
 ·rw[if_pos c1] at e
  simp only[STD,qcp hm hn,q1L,h1,h2,h3,c1,←e]
 ·rw[if_neg c1] at e
  by_cases c2:sgn n<sgn m
  ·rw[if_pos c2] at e
   simp only[STD,qcp hm hn,q1L,h1,h2,h3,c1,c2,←e]
  ·rw[if_neg c2] at e
   simp only[STD,qcp hm hn,q1L,h1,h2,h3,c1,c2,hw _ _ ba bc,←e]
theorem qjF(m:Int)(hm:nl m≤2000):∃(n:Nat) (l:List Int),(zf [.s (tI m)]).run=some (0,[.b (decide (m<0)),.i (n:Int),.r (rI l)])∧WOK n l∧nrm n l∧mv l=m.natAbs∧9*n≤nl m+8:=by
 rw[qow]
 have h1:=qov (tI m)
 rw[qqB] at h1
 have a1:(0:Int)<zJ (tI m):=by have:=qqJ m;unfold zJ;omega
 have hb:ieq (sat (tI m) 0) 45=decide (m<0):=by
  rw[Bool.eq_iff_iff,qoN,qyE];simp
 have e0:q50 232 [.i 0]=rI (List.replicate 232 0):=qnX 232 0
 have hL:(tN m.natAbs).length≤2000:=hm
 obtain⟨j,qs,g1,rfl,n,l,rfl,g2,g3,g4⟩:=q5E (S:=q2O) (fun k ps=>∃(n:Nat) (l:List Int),ps=[.s ((tN m.natAbs).take k),.b (decide (m<0)),.i (n:Int),.r (rI l)]∧k≤(tN m.natAbs).length∧WOK n l ∧
   (k=0∧9*n≤(tN m.natAbs).length+8∨k+9*n=(tN m.natAbs).length)∧((val (tN m.natAbs):Nat):Int)=((val ((tN m.natAbs).take k):Nat):Int)*pB n+mv l)
  (fun j qs=>j=0∧∃(n:Nat) (l:List Int),qs=[.b (decide (m<0)),.i (n:Int),.r (rI l)]∧WOK n l∧mv l=m.natAbs∧9*n≤(tN m.natAbs).length+8) (n:=(tN m.natAbs).length) (by omega)
  (fun k ps hk ⟨n,l,hps,hkl,hw,hkn,hv⟩=>by
   subst hps
   rw[qkp]
   have hlk:zJ ((tN m.natAbs).take k)=(k:Int):=by unfold zJ;rw[List.length_take,Nat.min_eq_left hkl]
   rcases Nat.eq_zero_or_pos k with rfl|hk0
   ·right
    refine⟨0,[.b (decide (m<0)),.i (n:Int),.r (rI l)],?_,rfl,n,l,rfl,hw,?_,by omega⟩
    ·have a:¬(0:Int)<zJ ((tN m.natAbs).take 0):=by rw[hlk];omega
     simp only[STD,a]
    ·rw[q4Z,List.take_zero,qoa] at hv
     simp at hv;omega
   ·left
    have hn231:n≤231:=by omega
    obtain⟨q,hq,hq9⟩:∃q:Nat,qii 0 (qP .i64 (k:Int) 9)=(q:Int)∧q=k-9:=by
     refine⟨k-9,?_,rfl⟩
     rw[q2r (by omega)];unfold qii;split<;>omega
    have hqk:q≤k:=by omega
    have hsub:qij ((tN m.natAbs).take k) (q:Int) (k:Int)=((tN m.natAbs).take k).drop q:=by unfold qij;simp[List.take_take]
    have hsub2:qij ((tN m.natAbs).take k) 0 (q:Int)=(tN m.natAbs).take q:=by unfold qij;simp[List.take_take,Nat.min_eq_left hqk]
    have hdg:qcS (((tN m.natAbs).take k).drop q):=qvc (qvj (jK _) k) q
    have hdl:(((tN m.natAbs).take k).drop q).length=k-q:=by rw[List.length_drop,List.length_take,Nat.min_eq_left hkl]
    have hdn:((tN m.natAbs).take k).drop q≠[]:=by intro h;rw[h] at hdl;simp at hdl;omega
    have hA:=qw1 (s:=((tN m.natAbs).take k).drop q) (by omega) (qq4 hdg hdn)
    have hvl:=qdD hdg
    rw[hdl] at hvl
    have hv9:val (((tN m.natAbs).take k).drop q)<1000000000:=Nat.lt_of_lt_of_le hvl (by
     have:(10:Nat)^(k-q)≤10^9:=Nat.pow_le_pow_right (by omega) (by omega)
     simpa using this)
    have b1:(0:Int)<(k:Int):=by omega
    have b2:(0:Int)≤(q:Int)∧(q:Int)≤(k:Int):=by omega
    have b3:(0:Int)≤(k:Int)∧(k:Int)≤(k:Int):=by omega
    have b4:(0:Int)≤(n:Int)∧(n:Int)<232:=by omega
    have b5:(0:Int)≤0∧(0:Int)≤(q:Int):=by omega
    have w1:qt .i64 (n:Int) 1=((n+1:Nat):Int):=by rw[yx (by omega)];omega
    have hnl:n<l.length:=by rw[hw.len];omega
    have hz:l[n]=0:=by rw[←jM hnl];exact hw.z n (Nat.le_refl _)
    have hW:=hw.setW (j:=n) (y:=((val (((tN m.natAbs).take k).drop q):Nat):Int)) (by omega) (by omega)
    rw[Nat.max_eq_right (by omega)] at hW
    refine⟨q,[.s ((tN m.natAbs).take q),.b (decide (m<0)),.i ((n+1:Nat):Int),.r (rI (l.set n ((val (((tN m.natAbs).take k).drop q):Nat):Int)))],by omega,?_,n+1,_,rfl,by omega,hW,by omega,?_⟩
    ·simp only[STD,hlk,b1,hq,b2,b3,b4,b5,and_self,hsub,hsub2,hA,w1,qfN]
    ·rw[qsP l n hnl,hz,hv]
     have hsp:val ((tN m.natAbs).take k)=val ((tN m.natAbs).take q)*10^(k-q)+val (((tN m.natAbs).take k).drop q):=by
      have h1:(tN m.natAbs).take k=((tN m.natAbs).take k).take q++((tN m.natAbs).take k).drop q:=(List.take_append_drop q _).symm
      have h2:((tN m.natAbs).take k).take q=(tN m.natAbs).take q:=by rw[List.take_take,Nat.min_eq_left hqk]
      rw[h2] at h1
      generalize ((tN m.natAbs).take k).drop q=D at *
      rw[h1,qp5,hdl]
     rw[hsp,q8t]
     rcases Nat.lt_or_ge k 9 with h9|h9
     ·have:q=0:=by omega
      subst this
      rw[List.take_zero,qoa]
      simp;omega
     ·have:k-q=9:=by omega
      rw[this]
      simp only[Int.natCast_add,Int.natCast_mul]
      have e9:(((10:Nat)^9:Nat):Int)=1000000000:=by simp
      rw[e9]
      grind) (ps:=[.s ((tN m.natAbs).take (tN m.natAbs).length),.b (decide (m<0)),.i 0,.r (rI (List.replicate 232 0))])
  ⟨0,_,rfl,Nat.le_refl _,WOK.zero,.inr (by omega),by rw[q4M,List.take_length,qbz];simp⟩
 rw[List.take_length] at g1
 obtain⟨n2,t1,t2,t3⟩:=qi8 g2 (decide (m<0))
 refine⟨n2,l,?_,t2,t3,g3,?_⟩
 ·simp only[STD,e0,hb,h1,a1,Int.le_refl,and_self,g1,t1]
 ·have:=qBj t2 t3 g2 (Int.le_refl _)
  unfold nl;omega
end Go.Eng

namespace Go.Eng
theorem qzM{m:Int}{k n:Nat}(h:nl m≤k)(hk:k≤9*n):(m.natAbs:Int)<pB n:=by
 rw[qwH]
 have h1:=qA0 h
 have h2:(10:Nat)^k≤10^(9*n):=Nat.pow_le_pow_right (by omega) hk
 omega
theorem qnh{m:Int}(h:okL m):(m.natAbs:Int)<pB 114:=qzM (k:=1024) h (by omega)
theorem qpa{m:Int}(h:okL m):okL (-m):=by unfold okL;rw[qwg];exact h
theorem qx0{n:Nat}:pB n+pB n≤pB (n+1):=by rw[q8t];have:=q9w n;omega
theorem qA7{b:Bool}{l:List Int}(h:0≤mv l):((sv b l).natAbs:Int)=mv l:=by unfold sv;cases b<;>simp<;>omega
theorem qr5{n:Nat}{l:List Int}(h:WOK n l)(hn:nrm n l)(b:Bool)(hk:okL (sv b l)):(zw [.b b,.i (n:Int),.r (rI l)]).run=some (0,[.s (tI (sv b l)),.i 0,.b b,.i (n:Int),.r (rI l)]):=by
 rw[qe6]
 simp only[STD,qtj h hn,qbj hk]
theorem qrY(m n:Int):(jP [.s (tI m),.s (tI n)]).run=some (0,if (tI m).length≤9∧(tI n).length≤9 then [.i m,.i n,.b true] else [.i 0,.i 0,.b false]):=by
 rw[qmI]
 have h1:(9<zJ (tI m))=¬(tI m).length≤9:=by unfold zJ;simp only[eq_iff_iff];omega
 have h2:(9<zJ (tI n))=¬(tI n).length≤9:=by unfold zJ;simp only[eq_iff_iff];omega
 by_cases a:(tI m).length≤9
 ·by_cases b:(tI n).length≤9
  ·simp only[STD,h1,h2,a,b,and_self,qw1 (s:=tI m) (by omega) (qwC m),qw1 (s:=tI n) (by omega) (qwC n)]
  ·simp only[STD,h1,h2,a,b,and_false]
 ·simp only[STD,h1,a,false_and]
theorem qeS{m:Int}(h:(tI m).length≤9):m.natAbs<1000000000:=by
 have:(tN m.natAbs).length≤9:=by
  unfold tI at h
  split at h
  ·simp at h;omega
  ·exact h
 exact Nat.lt_of_lt_of_le (qgS this) (by simp)
theorem qtf(n:Int)(h:-9223372036854775808≤n∧n≤9223372036854775807):(uv [.i n]).run=some (0,[.s (tI n),.i 0]):=by
 rw[qmj]
 simp only[STD,q53 n h]
theorem qvp{m:Int}{l:List Int}(h:mv l=m.natAbs):sv (decide (m<0)) l=m:=by
 unfold sv
 by_cases hm:m<0
 ·rw[decide_eq_true hm,if_pos rfl];omega
 ·rw[decide_eq_false hm,if_neg (by simp)];omega
theorem qAT{m n:Int}(hm:okL m)(hn:okL n)(hs:okL (m+n)):(q8g [.r [[.s (tI m)],[.s (tI n)]]]).run=some (0,[.s (tI (m+n)),.i 0]):=by
 rw[qqA]
 have e0:q50 232 [.i 0]=rI (List.replicate 232 0):=qnX 232 0
 have lm:=qnh hm
 have ln:=qnh hn
 obtain⟨q1,l1,r1,w1,n1,v1,_⟩:=qjF m (by unfold okL at hm;omega)
 obtain⟨q2,l2,r2,w2,n2,v2,_⟩:=qjF n (by unfold okL at hn;omega)
 have hb2:=q9T (show 115≤232 by omega)
 have hb1:pB 114+pB 114≤pB 115:=qx0
 have hb0:=q9w 114
 obtain⟨b1,k1,m1,a1,a2,a3,a4⟩:=qyr (lx:=List.replicate 232 0) (nx:=0) WOK.zero (.inl rfl) w1 n1 (by rw[qbz,v1];omega) false (decide (m<0))
 rw[qvp v1] at a4
 have a5:sv b1 m1=m:=by
  have:sv false (List.replicate 232 0)=0:=by unfold sv;rw[if_neg (by simp),qbz]
  rw[a4,this];omega
 obtain⟨b2,k2,m2,c1,c2,c3,c4⟩:=qyr a2 a3 w2 n2 (by rw[←qA7 (b:=b1) a2.bd.1,a5,v2];omega) b1 (decide (n<0))
 rw[qvp v2,a5] at c4
 have key:=q0B (S:=q4q) (fun i=>match i with
  | 0=>[.r [[.s (tI m)],[.s (tI n)]],.i 2,.i 0,.b false,.i 0,.r (rI (List.replicate 232 0))]
  | 1=>[.r [[.s (tI m)],[.s (tI n)]],.i 2,.i 1,.b b1,.i (k1:Int),.r (rI m1)]
  | _=>[.r [[.s (tI m)],[.s (tI n)]],.i 2,.i 2,.b b2,.i (k2:Int),.r (rI m2)]) (0,[.b b2,.i (k2:Int),.r (rI m2)]) 2 (by omega) (fun i hi=>by
   have:i=0∨i=1:=by omega
   have d0:cS [[.s (tI m)],[.s (tI n)]] 0 0=tI m:=rfl
   have d1:cS [[.s (tI m)],[.s (tI n)]] 1 0=tI n:=rfl
   have d2:qh [[U.s (tI m)],[U.s (tI n)]]=2:=rfl
   rcases this with rfl|rfl
   ·simp only
    rw[qac,d0,d2]
    simp only[show ((0:Nat):Int)=0 from rfl] at a1
    have w:qt .i64 0 1=1:=by decide
    simp only[STD,r1,a1,w,show (0:Int)<2 by omega,show (0:Int)≤0 by omega,and_self]
   ·simp only
    rw[qac,d1,d2]
    have w:qt .i64 1 1=2:=by decide
    simp only[STD,r2,c1,w,show (1:Int)<2 by omega,show (0:Int)≤1 by omega,and_self]) (by
   simp only
   rw[qac]
   simp only[STD,show ¬(2:Int)<2 by omega])
 simp only at key
 have hL:=qr5 c2 c3 b2 (by rw[c4];exact hs)
 rw[c4] at hL
 have d2:qh [[U.s (tI m)],[U.s (tI n)]]=2:=rfl
 simp only[e0,d2]
 simp only[STD,key,hL]
theorem qAG{m n:Int}(hm:okL m)(hn:okL n)(hs:okL (m+n)):(q1s [.s (tI m),.s (tI n)]).run=some (0,[.s (tI (m+n)),.i 0]):=by
 rw[qpu]
 have h:=qrY m n
 by_cases hc:(tI m).length≤9∧(tI n).length≤9
 ·rw[if_pos hc] at h
  have b1:=qeS hc.1
  have b2:=qeS hc.2
  have w:qt .i64 m n=m+n:=yx (by omega)
  simp only[STD,qcp hm hn,h,w,qtf (m+n) (by omega)]
 ·rw[if_neg hc] at h
  simp only[STD,qcp hm hn,h,qAT hm hn hs]
theorem qtH{m:Int}(hm:okL m):(q0m [.s (tI m)]).run=some (0,[.s (tI (-m))]):=by
 rw[qiU]
 have hl:=qsk hm
 have hp:=qqJ m
 rcases qaC m with⟨h,e⟩|⟨h,e⟩|⟨h,e⟩
 ·have a1:(0:Int)≤zJ (tI m)∧zJ (tI m)≤zJ (tI m):=by unfold zJ;omega
  have a2:(0:Int)≤1∧1≤zJ (tI m):=by unfold zJ;omega
  have a3:qij (tI m) 1 (zJ (tI m))=tI (-m):=by
   unfold qij zJ
   rw[qcF h,qh4 (m:=-m) (by omega),Int.natAbs_neg];simp
  simp only[STD,q1L,e,a1,a2,a3,and_self,show ¬((-1:Int)=0) by omega,show ¬((-1:Int)=1) by omega]
 ·simp only[STD,q1L,e]
  rw[h];rfl
 ·have a1:zJ [45]+zJ (tI m)≤140737488355328:=by unfold zJ;simp;omega
  have a3:qpy [45] (tI m)=tI (-m):=by
   unfold qpy
   rw[qcF (m:=-m) (by omega),qh4 (m:=m) (by omega),Int.natAbs_neg];rfl
  simp only[STD,q1L,e,a1,a3,show ¬((1:Int)=0) by omega]
theorem qBr{m n:Int}(hm:okL m)(hn:okL n)(hs:okL (m-n)):(q56 [.s (tI m),.s (tI n)]).run=some (0,[.s (tI (m-n)),.i 0]):=by
 rw[qqt]
 have h:=qAG hm (qpa hn) (by rwa [←Int.sub_eq_add_neg])
 rw[←Int.sub_eq_add_neg] at h
 simp only[STD,qcp hm hn,qtH hn,h]
theorem qB7{m n:Int}(hm:okL m)(hn:okL n)(hs:okL (m*n)):(q3M [.s (tI m),.s (tI n)]).run=some (0,[.s (tI (m*n)),.i 0]):=by
 rw[qqs]
 have h:=qrY m n
 by_cases hc:(tI m).length≤9∧(tI n).length≤9
 ·rw[if_pos hc] at h
  have b1:=qeS hc.1
  have b2:=qeS hc.2
  have b3:=qAk (A:=999999999) (B:=999999999) (a:=m) (b:=n) (by omega) (by omega) (by omega) (by omega)
  have w:kN .i64 m n=m*n:=q8y (by omega)
  simp only[STD,qcp hm hn,h,w,qtf (m*n) (by omega)]
 ·rw[if_neg hc] at h
  unfold okL at hm hn
  obtain⟨q1,l1,r1,w1,n1,v1,z1⟩:=qjF m (by omega)
  obtain⟨q2,l2,r2,w2,n2,v2,z2⟩:=qjF n (by omega)
  obtain⟨k,l,t1,t2,t3,t4⟩:=qzd w1 w2 (by omega) (decide (m<0)) (decide (n<0))
  have hv:sv (!(Go.Eng.beq (decide (m<0)) (decide (n<0)))) l=m*n:=by
   unfold sv
   rw[t4,v1,v2]
   have e:((m.natAbs:Int)*(n.natAbs:Int))=(((m*n).natAbs:Nat):Int):=by rw[Int.natAbs_mul];simp
   rw[e]
   unfold Go.Eng.beq
   rcases Int.lt_trichotomy m 0 with a|a|a
   ·rcases Int.lt_trichotomy n 0 with b|b|b
    ·have:=Int.mul_pos_of_neg_of_neg a b
     simp[a,b];omega
    ·subst b;simp
    ·have:=Int.mul_neg_of_neg_of_pos a b
     have b':¬n<0:=by omega
     simp[a,b'];omega
   ·subst a;simp
   ·have a':¬m<0:=by omega
    rcases Int.lt_trichotomy n 0 with b|b|b
    ·have:=Int.mul_neg_of_pos_of_neg a b
     simp[a',b];omega
    ·subst b;simp
    ·have:=Int.mul_pos a b
     have b':¬n<0:=by omega
     simp[a',b'];omega
  have hL:=qr5 t2 t3 (!(Go.Eng.beq (decide (m<0)) (decide (n<0)))) (by rw[hv];exact hs)
  rw[hv] at hL
  simp only[STD,qcp hm hn,h,r1,r2,t1,hL]
theorem qw3{n:Nat}{l:List Int}(h:WOK n l)(hn:nrm n l){k:Nat}(hl:mv l<pB k):n≤k:=by
 rcases Nat.lt_or_ge k n with h1|h1
 ·have:=h.lo hn (by omega)
  have:=q9T (show k≤n-1 by omega)
  omega
 ·exact h1
theorem qy7{k n:Int}(h0:n≠0)(hm:okL (k*n))(hn:okL n):(q2X [.s (tI (k*n)),.s (tI n)]).run=some (0,[.s (tI k),.s (tI 0),.i 0]):=by
 rw[qly]
 have h:=qrY (k*n) n
 have hz:¬tI n=[48]:=by rw[q5p];exact h0
 by_cases hc:(tI (k*n)).length≤9∧(tI n).length≤9
 ·rw[if_pos hc] at h
  have b1:=qeS hc.1
  have b2:=qeS hc.2
  have hk:k.natAbs≤(k*n).natAbs:=by
   rw[Int.natAbs_mul]
   have:k.natAbs*1≤k.natAbs*n.natAbs:=Nat.mul_le_mul_left _ (by omega)
   omega
  have w1:qpq (k*n) n=0:=by unfold qpq;exact Int.mul_tmod_left k n
  have w2:yp .i64 (k*n) n=k:=by
   rw[Int.mul_comm];exact quf h0 (by omega)
  simp only[STD,qcp hm hn,jD,hz,h,h0,w1,w2,q53 k (by omega),q53 0 (by omega)]
 ·rw[if_neg hc] at h
  have lm:=qnh hm
  have ln:=qnh hn
  obtain⟨q1,l1,r1,w1,n1,v1,z1⟩:=qjF (k*n) (by unfold okL at hm;omega)
  obtain⟨q2,l2,r2,w2,n2,v2,z2⟩:=qjF n (by unfold okL at hn;omega)
  have hq2:q2≤114:=qw3 w2 n2 (by omega)
  have hq0:q2≠0:=fun h=>by rw[qhB w2 n2] at h;omega
  obtain⟨nq,lq,nr,lr,d1,d2,d3,d4,d5,d6,d7⟩:=qdM w1 w2 n2 hq0 (by omega) (decide (k*n<0)) (decide (n<0))
  have e1:((k*n).natAbs:Int)=(k.natAbs:Int)*(n.natAbs:Int):=by rw[Int.natAbs_mul];simp
  rw[v1,v2,e1] at d6
  rw[v2] at d7
  have b4:=d4.bd.1
  have hr0:mv lr=0∧mv lq=k.natAbs:=by
   have hn0:(0:Int)<(n.natAbs:Int):=by omega
   have e2:((k.natAbs:Int)-mv lq)*(n.natAbs:Int)=mv lr:=by rw[Int.sub_mul];omega
   rcases Int.lt_trichotomy ((k.natAbs:Int)-mv lq) 0 with a|a|a
   ·have:=Int.mul_neg_of_neg_of_pos a hn0;omega
   ·rw[a,Int.zero_mul] at e2;omega
   ·have:=Int.mul_le_mul_of_nonneg_right (show 1≤(k.natAbs:Int)-mv lq by omega) (show 0≤(n.natAbs:Int) by omega)
    omega
  have hnr:nr=0:=by rw[qhB d4 d5];exact hr0.1
  have hv:sv (!(Go.Eng.beq (decide (k*n<0)) (decide (n<0)))) lq=k:=by
   unfold sv
   rw[hr0.2]
   unfold Go.Eng.beq
   rcases Int.lt_trichotomy k 0 with a|a|a
   ·rcases Int.lt_trichotomy n 0 with b|b|b
    ·have:=Int.mul_pos_of_neg_of_neg a b
     have c:¬k*n<0:=by omega
     simp[b,c];omega
    ·exact absurd b h0
    ·have c:=Int.mul_neg_of_neg_of_pos a b
     have b':¬n<0:=by omega
     simp[b',c];omega
   ·subst a;simp
   ·rcases Int.lt_trichotomy n 0 with b|b|b
    ·have c:=Int.mul_neg_of_pos_of_neg a b
     simp[b,c];omega
    ·exact absurd b h0
    ·have:=Int.mul_pos a b
     have c:¬k*n<0:=by omega
     have b':¬n<0:=by omega
     simp[b',c];omega
  have hT:=qtj d2 d3 (!(Go.Eng.beq (decide (k*n<0)) (decide (n<0))))
  rw[hv] at hT
  have hT2:=qtj d4 d5 (decide (k*n<0))
  have hv0:sv (decide (k*n<0)) lr=0:=by unfold sv;rw[hr0.1];split<;>rfl
  rw[hv0] at hT2
  have hnr':¬(0:Int)<(nr:Int):=by omega
  simp only[STD,qcp hm hn,jD,hz,h,r1,r2,d1,hnr',hT,hT2]
theorem qyA{m n:Int}(h:m.natAbs≤n.natAbs)(hn:okL n):okL m:=Nat.le_trans (qbm h) hn
theorem qBk{k n:Int}(h0:n≠0)(hm:okL (k*n))(hn:okL n):(q5d [.s (tI (k*n)),.s (tI n)]).run=some (0,[.s (tI k),.i 0]):=by
 rw[qpI]
 have hk:okL k:=qyA (by
  rw[Int.natAbs_mul]
  have:k.natAbs*1≤k.natAbs*n.natAbs:=Nat.mul_le_mul_left _ (by omega)
  omega) hm
 simp only[STD,qy7 h0 hm hn,qbj hk]
theorem qvA(a b:Nat)(hb:b<9223372036854775808):(ql q0x [.i (a:Int),.i (b:Int)]).run=some (0,[.i ((Nat.gcd a b:Nat):Int)]):=by
 obtain⟨j,qs,h1,rfl,rfl⟩:=q5E (S:=q0x) (fun k ps=>∃x y:Nat,ps=[.i (x:Int),.i (y:Int)]∧y=k∧Nat.gcd x y=Nat.gcd a b)
  (fun j qs=>j=0∧qs=[.i ((Nat.gcd a b:Nat):Int)]) (n:=b) hb (fun k ps hk ⟨x,y,hps,hy,hg⟩=>by
  subst hps
  rw[ql5]
  by_cases h0:y=0
  ·right
   refine⟨0,[.i (x:Int)],?_,rfl,?_⟩
   ·simp only[STD,h0];simp[]
   ·rw[←hg,h0,Nat.gcd_zero_right]
  ·left
   refine⟨x%y,[.i (y:Int),.i ((x%y:Nat):Int)],by rw[←hy];exact Nat.mod_lt _ (by omega),?_,y,x%y,rfl,rfl,?_⟩
   ·simp only[STD,show ¬((y:Int)=0) by omega,qy6]
   ·rw[←hg,Nat.gcd_comm y,←Nat.gcd_rec,Nat.gcd_comm]) (ps:=[.i (a:Int),.i (b:Int)]) ⟨a,b,rfl,rfl,rfl⟩
 exact h1
theorem qyN{n:Nat}{l:List Int}(h:WOK n l)(hn:n≤1):mv l=l.getD 0 0:=by
 have:=q9m l 1 (by rw[h.len];omega)
 rw[wL h.dig h.z hn,Int.mul_zero,Int.add_zero] at this
 have hl:=h.len
 obtain⟨x,t,rfl⟩:∃x t,l=x::t:=by
  cases l with
  | nil=>simp at hl
  | cons x t=>exact⟨x,t,rfl⟩
 rw[this];simp[mv]
theorem qAL{m n:Int}(hm:okL m)(hn:okL n):(q1x [.s (tI m),.s (tI n)]).run=some (0,[.s (tN (Nat.gcd m.natAbs n.natAbs)),.i 0]):=by
 rw[qpG]
 have lm:=qnh hm
 have ln:=qnh hn
 obtain⟨q1,l1,r1,w1,n1,v1,_⟩:=qjF m (by unfold okL at hm;omega)
 obtain⟨q2,l2,r2,w2,n2,v2,_⟩:=qjF n (by unfold okL at hn;omega)
 have hm':(tN m.natAbs).length≤1024:=hm
 have hn':(tN n.natAbs).length≤1024:=hn
 obtain⟨j,qs,g1,g2⟩:=q5E (S:=q4f) (fun k ps=>∃(x y:Nat) (b1 b2:Bool) (nx ny:Nat) (lx ly:List Int),ps=[.b b1,.i (nx:Int),.r (rI lx),.b b2,.i (ny:Int),.r (rI ly)] ∧
   WOK nx lx∧nrm nx lx∧WOK ny ly∧nrm ny ly∧mv lx=x∧mv ly=y∧eM x y=k∧Nat.gcd x y=Nat.gcd m.natAbs n.natAbs∧(x:Int)<pB 114∧(y:Int)<pB 114)
  (fun j qs=>(j=0∧∃(b:Bool) (n':Nat) (l:List Int),qs=[.b b,.i (n':Int),.r (rI l)]∧WOK n' l∧nrm n' l∧mv l=((Nat.gcd m.natAbs n.natAbs:Nat):Int))∨(j=1∧qs=[.s (tN (Nat.gcd m.natAbs n.natAbs)),.i 0])) (n:=eM m.natAbs n.natAbs) (qxD (by omega) (by omega))
  (fun k ps hk ⟨x,y,b1,b2,nx,ny,lx,ly,hps,hw,hnw,hw2,hn2,hx,hy,he,hg,lx1,ly1⟩=>by
  subst hps
  rw[qn3]
  have hxl:=hw.len
  have hyl:=hw2.len
  by_cases h0:ny=0
  ·right
   have hy0:mv ly=0:=by rw[←qhB hw2 hn2];exact h0
   have hy0':y=0:=by omega
   refine⟨0,[.b b1,.i (nx:Int),.r (rI lx)],?_,.inl ⟨rfl,b1,nx,lx,rfl,hw,hnw,?_⟩⟩
   ·simp only[STD,h0,show ¬(0:Int)<((0:Nat):Int) by omega]
   ·rw[hx,←hg,hy0',Nat.gcd_zero_right]
  ·have a0:(0:Int)<(ny:Int):=by omega
   have hy0:y≠0:=fun h=>h0 (by rw[qhB hw2 hn2];omega)
   by_cases hc:nx≤1∧ny≤1
   ·right
    have e1:=qyN hw hc.1
    have e2:=qyN hw2 hc.2
    have d1:cI (rI lx) 0 0=(x:Int):=by rw[show (0:Int)=((0:Nat):Int) from rfl,q3Y,←e1,hx]
    have d2:cI (rI ly) 0 0=(y:Int):=by rw[show (0:Int)=((0:Nat):Int) from rfl,q3Y,←e2,hy]
    have hy9:=hw2.get 0
    rw[←e2,hy] at hy9
    have hE:=qvA x y (by omega)
    have hgl:Nat.gcd x y≤y:=Nat.gcd_le_right _ (by omega)
    have hO:=q53 ((Nat.gcd x y:Nat):Int) (by omega)
    rw[qdc] at hO
    have c1:(nx:Int)≤1:=by omega
    have c2:(ny:Int)≤1:=by omega
    refine⟨1,[.s (tN (Nat.gcd x y)),.i 0],?_,.inr ⟨rfl,by rw[hg]⟩⟩
    simp only[STD,a0,c1,c2,d1,d2,hE,hO]
   ·left
    have hny:ny≤114:=qw3 hw2 hn2 (by omega)
    obtain⟨nq,lq,nr,lr,d1,d2,d3,d4,d5,d6,d7⟩:=qdM hw hw2 hn2 h0 (by omega) b1 b2
    have hr:mv lr=((x%y:Nat):Int):=by
     have b4:=d4.bd.1
     rw[hx,hy] at d6
     rw[hy] at d7
     have hy1:(0:Int)<(y:Int):=by omega
     have:=(Int.ediv_emod_unique hy1 (a:=(x:Int)) (r:=mv lr) (q:=mv lq)).2 ⟨by rw[Int.mul_comm];omega,b4,d7⟩
     rw[←this.2];simp
    refine⟨eM y (x%y),[.b b2,.i (ny:Int),.r (rI ly),.b false,.i (nr:Int),.r (rI lr)],by rw[←he];exact qzH hy0,?_,y,x%y,b2,false,ny,nr,ly,lr,rfl,hw2,hn2,d4,d5,hy,hr,rfl,?_,ly1,?_⟩
    ·by_cases c1:nx≤1
     ·have c2:¬(ny:Int)≤1:=by omega
      have c1':(nx:Int)≤1:=by omega
      simp only[STD,a0,c1',c2,d1]
     ·have c1':¬(nx:Int)≤1:=by omega
      simp only[STD,a0,c1',d1]
    ·rw[←hg,Nat.gcd_comm y,←Nat.gcd_rec,Nat.gcd_comm]
    ·have:=Nat.mod_lt x (show 0<y by omega)
     omega) (ps:=[.b (decide (m<0)),.i (q1:Int),.r (rI l1),.b (decide (n<0)),.i (q2:Int),.r (rI l2)])
  ⟨m.natAbs,n.natAbs,_,_,q1,q2,l1,l2,rfl,w1,n1,w2,n2,v1,v2,rfl,rfl,lm,ln⟩
 rcases g2 with⟨rfl,b,n',l,rfl,a1,a2,a3⟩|⟨rfl,rfl⟩
 ·have hT:=qtj a1 a2 false
  have hv:sv false l=((Nat.gcd m.natAbs n.natAbs:Nat):Int):=by unfold sv;rw[a3];rfl
  rw[hv,qdc] at hT
  simp only[STD,qcp hm hn,r1,r2,g1,qN g1,hT]
 ·simp only[STD,qcp hm hn,r1,r2,g1,qN g1,show ¬(1=0) by omega]
end Go.Eng

namespace Go.Eng
theorem q8M:okL 1:=by show nl 1≤1024;decide
theorem q74:okL 0:=by show nl 0≤1024;decide
theorem qAr(s:List UInt8)(hl:s.length≤1000000000):(q4N [.s s,.s [47]]).run=some (0,if sP s<s.length then [.s (s.take (sP s)),.s (s.drop (sP s+1)),.b true] else [.s s,.s [],.b false]):=by
 rw[qmz]
 have h:(zP [.s s,.s [47]]).run=some (0,if sP s<s.length then [.s (s.take (sP s)),.s (s.drop (sP s+1)),.b true] else [.s s,.s [],.b false]):=by
  rw[q8n]
  have hI:=qyY s
  by_cases hc:sP s<s.length
  ·rw[if_pos hc] at hI ⊢
   have w:qt .i64 (sP s:Int) (zJ [47])=((sP s+1:Nat):Int):=by
    show qt .i64 (sP s:Int) 1=_
    rw[yx (by omega)];omega
   have a1:(0:Int)≤(sP s:Int)∧(sP s:Int)≤zJ s:=by unfold zJ;omega
   have a2:(0:Int)≤0∧(0:Int)≤(sP s:Int):=by omega
   have a3:(0:Int)≤zJ s∧zJ s≤zJ s:=by unfold zJ;omega
   have a4:(0:Int)≤((sP s+1:Nat):Int)∧((sP s+1:Nat):Int)≤zJ s:=by unfold zJ;omega
   have e1:qij s 0 (sP s:Int)=s.take (sP s):=by unfold qij;simp
   have e2:qij s ((sP s+1:Nat):Int) (zJ s)=s.drop (sP s+1):=by unfold qij zJ;simp only[Int.toNat_natCast];rw[List.take_length]
   simp only[STD,hI,a1.1,a1.2,a2,a3,a4,and_self,w,e1,e2]
  ·rw[if_neg hc] at hI ⊢
   have a:¬(0:Int)≤-1:=by omega
   simp only[STD,hI,a]
 by_cases hc:sP s<s.length
 ·rw[if_pos hc] at h ⊢
  simp only[STD,h]
 ·rw[if_neg hc] at h ⊢
  simp only[STD,h]
theorem qAc(s:List UInt8)(hl:s.length≤1000000000):(qG [.s s]).run=some (0,[.s (spn s),.s (spd s),.b (decide (sP s<s.length))]):=by
 rw[qqL]
 have h:=qAr s hl
 unfold spn spd
 by_cases hc:sP s<s.length
 ·rw[if_pos hc] at h ⊢
  rw[decide_eq_true hc]
  simp only[STD,h]
 ·rw[if_neg hc] at h ⊢
  have:sP s=s.length:=by have:=qzK s;omega
  rw[decide_eq_false hc,this,List.take_length]
  simp only[STD,h]
theorem qAx(q:Rat):(sP (tQ q)<(tQ q).length)=(q.den≠1):=by
 by_cases h:q.den=1
 ·rw[q9u h,qrl (qn8 _)];simp[h]
 ·rw[q52 h,qx6 (qn8 _)];simp[h]
def okQ(q:Rat):Prop:=qn q≤1024∧qd q≤1024
theorem q3x{q:Rat}(h:okQ q):okL q.num:=h.1
theorem kD{q:Rat}(h:okQ q):okL (q.den:Int):=h.2
theorem qek{q:Rat}(h:okQ q):(tQ q).length≤3000:=by have:=qAU q;have:=h.1;have:=h.2;omega
theorem q86{q:Rat}(h:okQ q):(qG [.s (tQ q)]).run=some (0,[.s (tI q.num),.s (tI (q.den:Int)),.b (decide (q.den≠1))]):=by
 have:=qek h
 rw[qAc _ (by omega),qyD,qyF,qdc]
 simp only[qAx]
open Classical in
noncomputable def vI(s:List UInt8):Int:=if h:∃m:Int,s=tI m then h.choose else 0
theorem qw2(m:Int):vI (tI m)=m:=by
 unfold vI
 have h:∃k:Int,tI m=tI k:=⟨m,rfl⟩
 rw[dif_pos h]
 exact(qtx h.choose_spec).symm
theorem qoU{s:List UInt8}(h:qtp s=0):∃m:Int,s=tI m∧okL m:=by
 unfold qtp at h
 split at h
 ·rename_i hm
  obtain⟨m,rfl⟩:=hm
  rw[qqB] at h
  split at h
  ·rename_i hl;exact⟨m,rfl,hl⟩
  ·omega
 ·omega
theorem qpA(s:List UInt8):qtp s=0∨qtp s=3∨qtp s=11:=by
 unfold qtp
 split
 ·split<;>simp
 ·simp
noncomputable def qmU(s:List UInt8):Int:=
 if qtp (spn s)=3 then 3 else if qtp (spd s)=3 then 3 else if qtp (spn s)≠0 then 11 else if qtp (spd s)≠0 then 11
 else if sP s<s.length then (if sgn (vI (spd s)-1)≤0 then 3 else if Nat.gcd (vI (spn s)).natAbs (vI (spd s)).natAbs=1 then 0 else 3) else 0
theorem qAO(s:List UInt8):(spn s).length≤s.length:=by unfold spn;rw[List.length_take];omega
theorem qzX(s:List UInt8):(spd s).length≤s.length+1:=by unfold spd;split<;>simp<;>omega
theorem q7o(s:List UInt8)(hl:s.length≤100000000):(qC [.s s]).run=some (0,[.i (qmU s)]):=by
 rw[qmA]
 have hn:=qAO s
 have hd:=qzX s
 have h1:=qbO (spn s) (by omega)
 have h2:=qbO (spd s) (by omega)
 have hc:=qAc s (by omega)
 have mx:qii 11 0=11∧qii 11 11=11∧qii 0 11=11:=by decide
 unfold qmU
 rcases qpA (spn s) with a|a|a<;>rcases qpA (spd s) with b|b|b<;>rw[a] at h1 ⊢<;>rw[b] at h2 ⊢
 ·obtain⟨m,em,om⟩:=qoU a
  obtain⟨n,en,on⟩:=qoU b
  rw[em] at h1 hc ⊢
  rw[en] at h2 hc ⊢
  have hC:=qlm on (n:=1) q8M
  rw[qA6] at hC
  have hG:=qAL om on
  rw[qw2,qw2]
  by_cases hs:sP s<s.length
  ·by_cases ho:sgn (n-1)≤0
   ·simp only[STD,hc,h1,h2,hs,hC,hG,ho,show ¬((0:Int)=3) by omega,show ¬((0:Int)≠0) by omega]
   ·by_cases hg:Nat.gcd m.natAbs n.natAbs=1
    ·simp only[STD,hc,h1,h2,hs,hC,hG,ho,hg,jD,qeK,show ¬((0:Int)=3) by omega,show ¬((0:Int)≠0) by omega]
    ·simp only[STD,hc,h1,h2,hs,hC,hG,ho,hg,jD,qeK,show ¬((0:Int)=3) by omega,show ¬((0:Int)≠0) by omega]
  ·simp only[STD,hc,h1,h2,hs,show ¬((0:Int)=3) by omega,show ¬((0:Int)≠0) by omega]
 all_goals simp only[STD,hc,h1,h2,mx,show ¬((0:Int)=3) by omega,show ¬((11:Int)=3) by omega,show ¬((11:Int)=0) by omega,show ¬((3:Int)=0) by omega]
theorem qop{q:Rat}(h:okQ q):qmU (tQ q)=0:=by
 unfold qmU
 have e1:spd (tQ q)=tI (q.den:Int):=by rw[qyF,qdc]
 rw[qyD,e1,qsr (q3x h),qsr (kD h)]
 simp only[qw2,qAx]
 by_cases hd:q.den=1
 ·simp[hd]
 ·have:=q.den_nz
  have hs:¬sgn ((q.den:Int)-1)≤0:=by
   unfold sgn;rw[if_neg (by omega),if_neg (by omega)];omega
  have hr:Nat.gcd q.num.natAbs q.den=1:=q.reduced
  simp[hd,hs,hr]
theorem qz5{s:List UInt8}(h:qmU s=0):∃q:Rat,s=tQ q∧okQ q:=by
 unfold qmU at h
 split at h
 ·omega
 split at h
 ·omega
 split at h
 ·omega
 split at h
 ·omega
 rename_i h1 h2 h3 h4
 obtain⟨m,em,om⟩:=qoU (Decidable.byContradiction fun h=>h3 h)
 obtain⟨n,en,on⟩:=qoU (Decidable.byContradiction fun h=>h4 h)
 rw[em,en,qw2,qw2] at h
 split at h
 ·rename_i hs
  split at h
  ·omega
  rename_i hsg
  split at h
  ·rename_i hg
   have hn1:1<n:=by
    unfold sgn at hsg
    by_cases c1:n-1<0
    ·rw[if_pos c1] at hsg;omega
    ·rw[if_neg c1] at hsg
     by_cases c2:n-1=0
     ·rw[if_pos c2] at hsg;omega
     ·omega
   obtain⟨k,rfl⟩:∃k:Nat,n=(k:Int):=⟨n.toNat,by omega⟩
   refine⟨⟨m,k,by omega,hg⟩,?_,om,on⟩
   rw[q52 (show k≠1 by omega)]
   have hslash:s=spn s++47::spd s:=by
    unfold spn spd
    rw[if_pos hs]
    have h47:s[sP s]=47:=by
     have:=List.findIdx_getElem (p:=(·==47)) (w:=hs)
     exact eq_of_beq this
    rw[←h47,List.getElem_cons_drop,List.take_append_drop]
   rw[hslash,em,en,qdc]
  ·omega
 ·rename_i hs
  have e:sP s=s.length:=by have:=qzK s;omega
  have hsn:spn s=s:=by unfold spn;rw[e,List.take_length]
  refine⟨(m:Rat),?_,?_,?_⟩
  ·rw[qvx,←em,hsn]
  ·have:nl m≤1024:=om
   unfold qn;simpa using this
  ·unfold qd;simp;decide
theorem qBh(m:Int):nl m≤(tI m).length:=by unfold nl tI;split<;>simp
theorem qm0(q:Rat):qn q≤(tQ q).length∧(q.den=1∨qn q+1+qd q≤(tQ q).length):=by
 have h1:=qBh q.num
 by_cases h:q.den=1
 ·rw[q9u h];exact⟨h1,.inl h⟩
 ·rw[q52 h]
  unfold qn qd dl
  simp
  omega
theorem qqh{l:List (List UInt8)}(hn:l.length<1000000)(h:∀s,s∈l→(qC [.s s]).run=some (0,[.i 0])):(qK [.r (rS l)]).run=some (0,[.i 0]):=by
 rw[qkY,qnJ]
 have key:=q0B (S:=q0w) (fun i=>[.r (rS l),.i (l.length:Int),.i (i:Int)]) (0,[]) l.length (by omega) (fun i hi=>by
  rw[qb9,qv9 hi]
  have a1:(i:Int)<(l.length:Int):=by omega
  have a2:(i:Int)<qh (rS l):=by rw[qnJ];exact a1
  simp only[STD,a1,a2,q94,and_self,h _ (List.getElem_mem hi),q57 hi (show l.length<9223372036854775808 by omega)]) (by
  rw[qb9]
  have a1:¬(l.length:Int)<(l.length:Int):=by omega
  simp only[STD,a1])
 simp only[show (((0:Nat)):Int)=0 from rfl] at key
 simp only[STD,key,qN key]
theorem q5H{q:Rat}(h:okQ q):(qC [.s (tQ q)]).run=some (0,[.i 0]):=by
 have:=qek h
 rw[q7o _ (by omega),qop h]
theorem qe5{a b:Rat}(ha:okQ a)(hb:okQ b):(qK [.r [[.s (tQ a)],[.s (tQ b)]]]).run=some (0,[.i 0]):=by
 exact qqh (l:=[tQ a,tQ b]) (by simp) (fun s hs=>by
  simp only[List.mem_cons,List.not_mem_nil,or_false] at hs
  rcases hs with rfl|rfl
  ·exact q5H ha
  ·exact q5H hb)
theorem qzG{m n:Int}(hm:okL m)(hn:okL n)(h:okL (m+n)):(jq [.s (tI m),.s (tI n),.i 0]).run=some (0,[.s (tI (m+n)),.i 0]):=by
 rw[qis]
 have:(wv [.s (tI m),.s (tI n),.i 0]).run=some (0,[.s (tI (m+n)),.i 0]):=by
  rw[q8T]
  simp only[STD,qAG hm hn h]
 simp only[STD,this]
theorem qrh{m n:Int}(hm:okL m)(hn:okL n)(h:okL (m-n)):(z8 [.s (tI m),.s (tI n),.i 0]).run=some (0,[.s (tI (m-n)),.i 0]):=by
 rw[qil]
 have:(wk [.s (tI m),.s (tI n),.i 0]).run=some (0,[.s (tI (m-n)),.i 0]):=by
  rw[q8Q]
  simp only[STD,qBr hm hn h]
 simp only[STD,this]
theorem qyT{m n:Int}(hm:okL m)(hn:okL n)(h:okL (m*n)):(zv [.s (tI m),.s (tI n),.i 0]).run=some (0,[.s (tI (m*n)),.i 0]):=by
 rw[q8W]
 simp only[STD,qB7 hm hn h]
theorem qzD{m n:Int}(hm:okL m)(hn:okL n):(wc [.s (tI m),.s (tI n),.i 0]).run=some (0,[.s (tN (Nat.gcd m.natAbs n.natAbs)),.i 0]):=by
 rw[q90]
 simp only[STD,qAL hm hn]
theorem qog{k n:Int}(h0:n≠0)(hm:okL (k*n))(hn:okL n):(qJ [.s (tI (k*n)),.s (tI n),.i 0]).run=some (0,[.s (tI k),.i 0]):=by
 rw[q8X]
 simp only[STD,qBk h0 hm hn]
def prd:Int→List Int→Int
 | a,[]=>a
 | a,m::l=>prd (a*m) l
def qyW:Int→List Int→Prop
 | a,[]=>okL a
 | a,m::l=>okL a∧okL m∧qyW (a*m) l
theorem qx7:∀(l:List Int) (pre:List Int) (a:Int),qyW a l→pre.length+l.length<1000→∀f,l.length<f →
  (qih jg f [.s (tI a),.r (rS ((pre++l).map tI)),.i ((pre++l).length:Int),.i (pre.length:Int),.i 0]).run=some (0,[.s (tI (prd a l)),.i 0])
 | [],pre,a,h,hl,f,hf=>by
  obtain⟨f,rfl⟩:∃g,f=g+1:=⟨f-1,by simp at hf;omega⟩
  refine q6e ?_
  rw[q89,List.append_nil]
  have a1:¬(pre.length:Int)<(pre.length:Int):=by omega
  simp only[STD,a1];rfl
 | m::l,pre,a,h,hl,f,hf=>by
  obtain⟨f,rfl⟩:∃g,f=g+1:=⟨f-1,by simp at hf;omega⟩
  obtain⟨h1,h2,h3⟩:=h
  have hlt:pre.length<(pre++m::l).length:=by simp
  have ih:=qx7 l (pre++[m]) (a*m) h3 (by simp at hl ⊢;omega) f (by simp at hf;omega)
  rw[List.append_assoc,List.singleton_append] at ih
  have hok:okL (a*m):=by
   cases l with
   | nil=>exact h3
   | cons x l=>exact h3.1
  rw[qew (qs:=[.s (tI (a*m)),.r (rS ((pre++m::l).map tI)),.i ((pre++m::l).length:Int),.i ((pre++[m]).length:Int),.i 0])]
  ·exact ih
  ·rw[q89]
   have hlt2:pre.length<((pre++m::l).map tI).length:=by simp
   rw[qv9 hlt2]
   have e:((pre++m::l).map tI)[pre.length]=tI m:=by simp
   rw[e]
   have a1:(pre.length:Int)<((pre++m::l).length:Int):=by omega
   have a2:(pre.length:Int)<qh (rS ((pre++m::l).map tI)):=by rw[qnJ];omega
   have w:qt .i64 (pre.length:Int) 1=((pre++[m]).length:Int):=by
    rw[yx (by omega)];simp
   simp only[STD,a1,a2,q94,and_self,qyT h1 h2 hok,w]
theorem qqC(l:List Int)(h:qyW 1 l)(hl:l.length<1000):(qg [.r (rS (l.map tI)),.i 0]).run=some (0,[.s (tI (prd 1 l)),.i 0]):=by
 rw[qir,qnJ]
 have h1:=qx7 l [] 1 h (by simp;omega) qdW (by unfold qdW;omega)
 simp only[List.nil_append,List.length_nil] at h1
 have e:(ql jg [.s [49],.r (rS (l.map tI)),.i ((l.map tI).length:Int),.i 0,.i 0]).run=some (0,[.s (tI (prd 1 l)),.i 0]):=by
  rw[List.length_map]
  exact h1
 simp only[STD,e]
theorem qaP{m n:Int}(hm:okL m)(hn:okL n)(h:okL (m*n)):(qg [.r [[.s (tI m)],[.s (tI n)]],.i 0]).run=some (0,[.s (tI (m*n)),.i 0]):=by
 have:=qqC [m,n] ⟨q8M,hm,by rw[Int.one_mul];exact hm,hn,by rw[Int.one_mul];exact h⟩ (by simp)
 simp only[prd,Int.one_mul] at this
 exact this
theorem qqf{q:Rat}(h:okQ q):(q0D [.s (tI q.num),.s (tI (q.den:Int))]).run=some (0,[.s (tQ q)]):=by
 rw[qkm,qdc]
 have l1:=qsk (q3x h)
 have l2:(tN q.den).length≤1024:=h.2
 have a1:zJ (tI q.num)+zJ [47]≤140737488355328:=by unfold zJ;simp;omega
 have a2:zJ (qpy (tI q.num) [47])+zJ (tN q.den)≤140737488355328:=by unfold zJ qpy;simp;omega
 by_cases h1:q.den=1
 ·simp only[STD,jD,qeK,h1,q9u h1]
 ·simp only[STD,jD,qeK,h1,q52 h1,a1,a2]
  simp[qpy]
theorem qxr(s:List UInt8):(yq [.s s,.s [45]]).run=some (0,[.b (decide (s.getD 0 0=45))]):=by
 rw[qeX]
 simp only[STD,qwV]
theorem qvJ(n:Int):((tI n).getD 0 0=45)=(n<0):=by
 by_cases h:n<0
 ·rw[qcF h];simp[h]
 ·rw[qh4 h]
  obtain⟨c,t,e,h1,h2⟩:=qeN (jK n.natAbs) (qlr _)
  rw[e]
  simp only[List.getD_cons_zero,h,eq_iff_iff,iff_false]
  intro hc;subst hc;revert h1;decide
theorem qhr{m n:Int}(hn0:n≠0)(hm:okL m)(hn:okL n):(qw [.s (tI m),.s (tI n),.i 0]).run=some (0,[.s (tQ (Rat.divInt m n)),.i 0])∧okQ (Rat.divInt m n):=by
 have hG:=qzD hm hn
 have hg0:0<Nat.gcd m.natAbs n.natAbs:=Nat.gcd_pos_of_pos_right _ (by omega)
 have hgn:Nat.gcd m.natAbs n.natAbs≤n.natAbs:=Nat.gcd_le_right _ (by omega)
 have hnum:=Rat.num_divInt m n
 have hden:=Rat.den_divInt m n
 rw[if_neg hn0] at hden
 have hgc:Int.gcd n m=Nat.gcd m.natAbs n.natAbs:=by unfold Int.gcd;exact Nat.gcd_comm _ _
 rw[hgc] at hnum hden
 obtain⟨k,hk⟩:((Nat.gcd m.natAbs n.natAbs:Nat):Int) ∣ m:=Int.ofNat_dvd_left.2 (Nat.gcd_dvd_left _ _)
 obtain⟨l,hl⟩:((Nat.gcd m.natAbs n.natAbs:Nat):Int) ∣ n:=Int.ofNat_dvd_left.2 (Nat.gcd_dvd_right _ _)
 generalize Nat.gcd m.natAbs n.natAbs=g at *
 generalize Rat.divInt m n=q at *
 have hgok:okL (g:Int):=qyA (by simpa using hgn) hn
 have hm2:k*(g:Int)=m:=by rw[Int.mul_comm];exact hk.symm
 have hn2:l*(g:Int)=n:=by rw[Int.mul_comm];exact hl.symm
 have hgz:(g:Int)≠0:=by omega
 have hok:okQ q:=by
  constructor
  ·refine Nat.le_trans (qec ?_) hm
   rw[hnum]
   refine Nat.le_trans (Int.natAbs_ediv_le_natAbs _ _) ?_
   rw[Int.natAbs_mul,Int.natAbs_sign_of_ne_zero hn0];omega
  ·refine Nat.le_trans (qbm ?_) hn
   rw[hden];exact Nat.div_le_self _ _
 refine⟨?_,hok⟩
 rw[qf4]
 have hP:=qxr (tI n)
 simp only[qvJ] at hP
 by_cases hneg:n<0
 ·have e1:-k=q.num:=by
   rw[hnum,Int.sign_eq_neg_one_of_neg hneg,←hm2]
   rw[show (-1:Int)*(k*(g:Int))=(-k)*(g:Int) by rw[Int.neg_mul,Int.one_mul,Int.neg_mul]]
   exact(Int.mul_ediv_cancel _ hgz).symm
  have e2:-l=(q.den:Int):=by
   rw[hden]
   have h3:(n.natAbs:Int)=(-l)*(g:Int):=by rw[Int.neg_mul];omega
   rw[Int.natCast_ediv,h3,Int.mul_ediv_cancel _ hgz]
  have hS:=qrh (m:=0) (n:=(g:Int)) q74 hgok (by rw[Int.zero_sub];exact qpa hgok)
  rw[Int.zero_sub,qdc] at hS
  have Q1:=qog (k:=-k) (n:=-(g:Int)) (by omega) (by rw[Int.neg_mul_neg,hm2];exact hm) (qpa hgok)
  have Q2:=qog (k:=-l) (n:=-(g:Int)) (by omega) (by rw[Int.neg_mul_neg,hn2];exact hn) (qpa hgok)
  rw[Int.neg_mul_neg,hm2,e1] at Q1
  rw[Int.neg_mul_neg,hn2,e2] at Q2
  have hS':(z8 [.s [48],.s (tN g),.i 0]).run=some (0,[.s (tI (-(g:Int))),.i 0]):=hS
  simp only[STD,hG,hP,hneg,hS',Q1,Q2,qqf hok]
 ·have e1:k=q.num:=by
   rw[hnum,Int.sign_eq_one_of_pos (by omega),Int.one_mul,←hm2]
   exact(Int.mul_ediv_cancel _ hgz).symm
  have e2:l=(q.den:Int):=by
   rw[hden]
   have h3:(n.natAbs:Int)=l*(g:Int):=by omega
   rw[Int.natCast_ediv,h3,Int.mul_ediv_cancel _ hgz]
  have Q1:=qog (k:=k) (n:=(g:Int)) hgz (by rw[hm2];exact hm) hgok
  have Q2:=qog (k:=l) (n:=(g:Int)) hgz (by rw[hn2];exact hn) hgok
  rw[hm2,e1,qdc] at Q1
  rw[hn2,e2,qdc] at Q2
  simp only[STD,hG,hP,hneg,Q1,Q2,qqf hok]
end Go.Eng

namespace Go.Eng
theorem quc(a b:Rat):Rat.divInt (a.num*b.den+b.num*a.den) ((a.den:Int)*(b.den:Int))=a+b:=by
 rw[Rat.add_def',←Rat.divInt_ofNat];simp
theorem quH(a b:Rat):Rat.divInt (a.num*b.den-b.num*a.den) ((a.den:Int)*(b.den:Int))=a-b:=by
 rw[Rat.sub_def',←Rat.divInt_ofNat];simp
theorem qu5(a b:Rat):Rat.divInt (a.num*b.num) ((a.den:Int)*(b.den:Int))=a*b:=by
 rw[Rat.mul_def',←Rat.divInt_ofNat];simp
theorem quK(a b:Rat):Rat.divInt (a.num*b.den) ((a.den:Int)*b.num)=a/b:=by
 rw[Rat.div_def,Rat.inv_def,←Rat.divInt_mul_divInt,Rat.num_divInt_den]
theorem qj4(a b:Rat):(a.den:Int)*(b.den:Int)≠0:=by have:=Int.mul_pos (qyg a) (qyg b);omega
theorem qAY{m:Int}(h:m≠0):¬tI m=[48]:=by rw[q5p];exact h
def bnd(N D:Nat)(q:Rat):Prop:=qn q≤N∧qd q≤D
theorem bnd.ok{N D:Nat}{q:Rat}(h:bnd N D q)(hN:N≤1024)(hD:D≤1024):okQ q:=⟨Nat.le_trans h.1 hN,Nat.le_trans h.2 hD⟩
theorem bnd.mono{N D N' D':Nat}{q:Rat}(h:bnd N D q)(hN:N≤N')(hD:D≤D'):bnd N' D' q:=⟨Nat.le_trans h.1 hN,Nat.le_trans h.2 hD⟩
theorem bnd.mul{N D N' D':Nat}{a b:Rat}(ha:bnd N D a)(hb:bnd N' D' b):bnd (N+N') (D+D') (a*b):=
 ⟨Nat.le_trans (qyK a b) (Nat.add_le_add ha.1 hb.1),Nat.le_trans (qyH a b) (Nat.add_le_add ha.2 hb.2)⟩
theorem bnd.add{N D N' D' K:Nat}{a b:Rat}(ha:bnd N D a)(hb:bnd N' D' b)(h1:N+D'+1≤K)(h2:N'+D+1≤K):bnd K (D+D') (a+b):=
 ⟨by have:=qAD a b;have:=ha.1;have:=ha.2;have:=hb.1;have:=hb.2;omega,by have:=qAH a b;have:=ha.2;have:=hb.2;omega⟩
theorem bnd.sub{N D N' D' K:Nat}{a b:Rat}(ha:bnd N D a)(hb:bnd N' D' b)(h1:N+D'+1≤K)(h2:N'+D+1≤K):bnd K (D+D') (a-b):=
 ⟨by have:=qAB a b;have:=ha.1;have:=ha.2;have:=hb.1;have:=hb.2;omega,by have:=qAN a b;have:=ha.2;have:=hb.2;omega⟩
theorem bnd.div{N D N' D':Nat}{a b:Rat}(h0:b≠0)(ha:bnd N D a)(hb:bnd N' D' b):bnd (N+D') (D+N') (a/b):=
 ⟨by have:=qAi a h0;have:=ha.1;have:=hb.2;omega,by have:=qAV a h0;have:=ha.2;have:=hb.1;omega⟩
theorem bnd.neg{N D:Nat}{a:Rat}(h:bnd N D a):bnd N D (-a):=⟨by rw[qAm];exact h.1,h.2⟩
theorem q5J:bnd 1 1 0:=⟨by decide,by decide⟩
theorem qoS:bnd 1 1 2:=⟨by decide,by decide⟩
theorem q9M{m n:Int}{N M:Nat}(hm:nl m≤N)(hn:nl n≤M)(h:N+M≤1024):okL (m*n):=by
 have:=q3R m n
 unfold okL;omega
theorem qsA{N D N' D':Nat}{a b:Rat}(ha:bnd N D a)(hb:bnd N' D' b)(h1:N+N'≤1024)(h2:D+D'≤1024):(q1l [.s (tQ a),.s (tQ b)]).run=some (0,[.s (tQ (a*b)),.i 0]):=by
 have oa:=ha.ok (by omega) (by omega)
 have ob:=hb.ok (by omega) (by omega)
 have k1:okL (a.num*b.num):=q9M ha.1 hb.1 h1
 have k2:okL ((a.den:Int)*(b.den:Int)):=q9M ha.2 hb.2 h2
 have m1:=qaP (q3x oa) (q3x ob) k1
 have m2:=qaP (kD oa) (kD ob) k2
 have hL:=(qhr (qj4 a b) k1 k2).1
 rw[qu5] at hL
 rw[qpT]
 have key:(wE [.s (tQ a),.s (tQ b)]).run=some (0,[.s (tQ (a*b)),.i 0]):=by
  rw[qak]
  have h1:(q24 [.s (tI a.num),.s (tI (a.den:Int)),.s (tI b.num),.s (tI (b.den:Int)),.i 0]).run=some (0,[.s (tI (a.num*b.num)),.s (tI ((a.den:Int)*(b.den:Int))),.i 0]):=by
   rw[qmH]
   simp only[STD,m1,m2]
  simp only[STD,qe5 oa ob,q86 oa,q86 ob,h1,jD,qAY (qj4 a b),hL]
 simp only[STD,key]
theorem qrz{N D N' D':Nat}{a b:Rat}(ha:bnd N D a)(hb:bnd N' D' b)(h1:N+D'≤1023)(h2:N'+D≤1023)(h3:D+D'≤1024):(q5t [.s (tQ a),.s (tQ b)]).run=some (0,[.s (tQ (a+b)),.i 0]):=by
 have p1:=qme a
 have p2:=qme b
 have p3:=qt0 a
 have p4:=qt0 b
 have oa:okQ a:=⟨by have:=ha.1;have:=hb.2;omega,by have:=ha.2;have:=hb.2;omega⟩
 have ob:okQ b:=⟨by have:=hb.1;have:=ha.2;omega,by have:=ha.2;have:=hb.2;omega⟩
 have k1:okL (a.num*(b.den:Int)):=q9M ha.1 hb.2 (by omega)
 have k2:okL (b.num*(a.den:Int)):=q9M hb.1 ha.2 (by omega)
 have k3:okL ((a.den:Int)*(b.den:Int)):=q9M ha.2 hb.2 h3
 have k4:okL (a.num*(b.den:Int)+b.num*(a.den:Int)):=by
  have q1:=qti (a.num*(b.den:Int)) (b.num*(a.den:Int))
  have q2:=q3R a.num (b.den:Int)
  have q3:=q3R b.num (a.den:Int)
  have q4:nl a.num≤N:=ha.1
  have q5:nl (b.den:Int)≤D':=hb.2
  have q6:nl b.num≤N':=hb.1
  have q7:nl (a.den:Int)≤D:=ha.2
  unfold okL;omega
 have m1:=qaP (q3x oa) (kD ob) k1
 have m2:=qaP (q3x ob) (kD oa) k2
 have m3:=qaP (kD oa) (kD ob) k3
 have hL:=(qhr (qj4 a b) k4 k3).1
 rw[quc] at hL
 rw[qqz]
 have key:(wI [.s (tQ a),.s (tQ b)]).run=some (0,[.s (tQ (a+b)),.i 0]):=by
  rw[q9F]
  have h1:(q22 [.s (tI a.num),.s (tI (a.den:Int)),.s (tI b.num),.s (tI (b.den:Int)),.i 0]).run=some (0,[.s (tI (a.num*b.den+b.num*a.den)),.s (tI ((a.den:Int)*(b.den:Int))),.i 0]):=by
   rw[qmT]
   simp only[STD,m1,m2,m3,qzG k1 k2 k4]
  simp only[STD,qe5 oa ob,q86 oa,q86 ob,h1,jD,qAY (qj4 a b),hL]
 simp only[STD,key]
theorem qs4{N D N' D':Nat}{a b:Rat}(ha:bnd N D a)(hb:bnd N' D' b)(h1:N+D'≤1023)(h2:N'+D≤1023)(h3:D+D'≤1024):(q5a [.s (tQ a),.s (tQ b)]).run=some (0,[.s (tQ (a-b)),.i 0]):=by
 have p1:=qme a
 have p2:=qme b
 have p3:=qt0 a
 have p4:=qt0 b
 have oa:okQ a:=⟨by have:=ha.1;have:=hb.2;omega,by have:=ha.2;have:=hb.2;omega⟩
 have ob:okQ b:=⟨by have:=hb.1;have:=ha.2;omega,by have:=ha.2;have:=hb.2;omega⟩
 have k1:okL (a.num*(b.den:Int)):=q9M ha.1 hb.2 (by omega)
 have k2:okL (b.num*(a.den:Int)):=q9M hb.1 ha.2 (by omega)
 have k3:okL ((a.den:Int)*(b.den:Int)):=q9M ha.2 hb.2 h3
 have k4:okL (a.num*(b.den:Int)-b.num*(a.den:Int)):=by
  have q1:=qwY (a.num*(b.den:Int)) (b.num*(a.den:Int))
  have q2:=q3R a.num (b.den:Int)
  have q3:=q3R b.num (a.den:Int)
  have q4:nl a.num≤N:=ha.1
  have q5:nl (b.den:Int)≤D':=hb.2
  have q6:nl b.num≤N':=hb.1
  have q7:nl (a.den:Int)≤D:=ha.2
  unfold okL;omega
 have m1:=qaP (q3x oa) (kD ob) k1
 have m2:=qaP (q3x ob) (kD oa) k2
 have m3:=qaP (kD oa) (kD ob) k3
 have hL:=(qhr (qj4 a b) k4 k3).1
 rw[quH] at hL
 rw[qqa]
 have key:(wK [.s (tQ a),.s (tQ b)]).run=some (0,[.s (tQ (a-b)),.i 0]):=by
  rw[q9G]
  have h1:(q1P [.s (tI a.num),.s (tI (a.den:Int)),.s (tI b.num),.s (tI (b.den:Int)),.i 0]).run=some (0,[.s (tI (a.num*b.den-b.num*a.den)),.s (tI ((a.den:Int)*(b.den:Int))),.i 0]):=by
   rw[qmS]
   simp only[STD,m1,m2,m3,qrh k1 k2 k4]
  simp only[STD,qe5 oa ob,q86 oa,q86 ob,h1,jD,qAY (qj4 a b),hL]
 simp only[STD,key]
theorem qlS(q:Rat):(tQ q=[48])=(q=0):=by
 have:([48]:List UInt8)=tQ 0:=rfl
 rw[this,quS]
theorem qrW{N D N' D':Nat}{a b:Rat}(hb0:b≠0)(ha:bnd N D a)(hb:bnd N' D' b)(h1:N+D'≤1024)(h2:D+N'≤1024):(q5b [.s (tQ a),.s (tQ b)]).run=some (0,[.s (tQ (a/b)),.i 0]):=by
 have oa:okQ a:=⟨by have:=ha.1;omega,by have:=ha.2;omega⟩
 have ob:okQ b:=⟨by have:=hb.1;omega,by have:=hb.2;omega⟩
 have k1:okL (a.num*(b.den:Int)):=q9M ha.1 hb.2 h1
 have k2:okL ((a.den:Int)*b.num):=q9M ha.2 hb.1 h2
 have hbn:b.num≠0:=fun h=>hb0 (Rat.num_eq_zero.1 h)
 have hz:(a.den:Int)*b.num≠0:=by have:=qyg a;exact Int.mul_ne_zero (by omega) hbn
 have m1:=qaP (q3x oa) (kD ob) k1
 have m2:=qaP (kD oa) (q3x ob) k2
 have hL:=(qhr hz k1 k2).1
 rw[quK] at hL
 rw[qpw]
 have key:(wH [.s (tQ a),.s (tQ b)]).run=some (0,[.s (tQ (a/b)),.i 0]):=by
  rw[qa4]
  have h1:(q2a [.s (tI a.num),.s (tI (a.den:Int)),.s (tI b.num),.s (tI (b.den:Int)),.i 0]).run=some (0,[.s (tI (a.num*b.den)),.s (tI ((a.den:Int)*b.num)),.i 0]):=by
   rw[qmv]
   simp only[STD,m1,m2]
  simp only[STD,qe5 oa ob,q86 oa,q86 ob,h1,jD,qAY hz,hL]
 simp only[STD,qe5 oa ob,jD,qlS,hb0,key]
theorem q6s{m:Int}(h:okL m):(zd [.s (tI m),.i 0]).run=some (0,[.i (sgn m),.i 0]):=by
 rw[qhd]
 simp only[STD,qqT h]
theorem qzB(m:Int):sgn m=sgq (m:Rat):=by unfold sgq;simp
theorem qrP{q k:Rat}(hk:0<k):sgq (k*q)=sgq q:=by
 rcases qaG q with⟨h,e⟩|⟨h,e⟩|⟨h,e⟩
 ·rw[e,qyt]
  have:=(Rat.mul_neg_iff_of_pos_left hk).2 h
  exact this
 ·rw[e,h,Rat.mul_zero];rfl
 ·rw[e,qrS]
  exact Rat.mul_pos hk h
theorem q1V(a:Rat):(0:Rat)<(a.den:Rat):=by
 have:=a.den_nz
 exact Rat.natCast_pos.2 (by omega)
theorem qcT(a:Rat):(a.num:Rat)=a*(a.den:Rat):=by
 have h:a=(a.num:Rat)/(a.den:Rat):=by rw[←Rat.mkRat_eq_div,Rat.mkRat_self]
 have h2:=Rat.div_mul_cancel (a:=(a.num:Rat)) (b:=(a.den:Rat)) (by have:=q1V a;grind)
 rw[←h] at h2
 exact h2.symm
def rX(a b c:Rat):Int:=a.num*b.den*c.den
def rY(a b:Rat):Int:=b.num*a.den
def rR(c:Rat):Int:=c.num*c.den
theorem qAl(a b c:Rat):sgn (rX a b c)=sgq a:=by
 unfold rX sgq
 rw[qbu (qyg c),qbu (qyg b)]
theorem qAh(a b:Rat):sgn (rY a b)=sgq b:=by unfold rY sgq;rw[qbu (qyg a)]
theorem qAv(c:Rat):sgn (rR c)=sgq c:=by unfold rR sgq;rw[qbu (qyg c)]
theorem qAp(a b c:Rat):sgn (rX a b c*rX a b c-rY a b*rY a b*rR c)=sgq (a*a-b*b*c):=by
 rw[qzB]
 have h1:=q1V a
 have h2:=q1V b
 have h3:=q1V c
 have hk:(0:Rat)<((a.den:Rat)*b.den*c.den)*((a.den:Rat)*b.den*c.den):=by
  have:=Rat.mul_pos (Rat.mul_pos h1 h2) h3
  exact Rat.mul_pos this this
 rw[←qrP (q:=a*a-b*b*c) hk]
 congr 1
 unfold rX rY rR
 simp only[Rat.intCast_sub,Rat.intCast_mul,qcT,Rat.intCast_natCast]
 grind
theorem qwt(a b c:Rat):qf5 a b c=if 0≤sgn (rX a b c)*(sgn (rY a b)*sgn (rR c)) then (if sgn (rX a b c)=0 then sgn (rY a b)*sgn (rR c) else sgn (rX a b c)) else sgn (rX a b c)*sgn (rX a b c*rX a b c-rY a b*rY a b*rR c):=by
 unfold qf5
 rw[qAl,qAh,qAv,qAp]
theorem qzx{x y r:Int}(hx:okL x)(hy:okL y)(hr:okL r)(hxx:okL (x*x))(hyy:okL (y*y))(hyr:okL (y*y*r))(hd:okL (x*x-y*y*r)) :
  (yg [.s (tI x),.s (tI y),.s (tI r),.i 0]).run=some (0,[.i (if 0≤sgn x*(sgn y*sgn r) then (if sgn x=0 then sgn y*sgn r else sgn x) else sgn x*sgn (x*x-y*y*r)),.i 0]):=by
 rw[qi6]
 have bx:=qm6 x
 have bY:=qm6 y
 have br:=qm6 r
 have bd:=qm6 (x*x-y*y*r)
 have m1:=qaP hx hx hxx
 have m2:=qqC [y,y,r] ⟨q8M,hy,by rw[Int.one_mul];exact hy,hy,by rw[Int.one_mul];exact hyy,hr,by rw[Int.one_mul];exact hyr⟩ (by simp)
 simp only[prd,Int.one_mul] at m2
 have m2':(qg [.r [[.s (tI y)],[.s (tI y)],[.s (tI r)]],.i 0]).run=some (0,[.s (tI (y*y*r)),.i 0]):=m2
 by_cases hc:0≤sgn x*(sgn y*sgn r)
 ·by_cases h0:sgn x=0
  ·have w0:kN .i64 0 (sgn y*sgn r)=0:=by rw[q8y (by rw[Int.zero_mul];omega),Int.zero_mul]
   simp only[STD,q6s hx,q6s hy,q6s hr,qiz bY br,h0,w0,Int.zero_mul,Int.le_refl,eq_self]
  ·simp only[STD,q6s hx,q6s hy,q6s hr,qiz bY br,qiz bx (qBo bY br),hc,h0]
 ·simp only[STD,q6s hx,q6s hy,q6s hr,qiz bY br,qiz bx (qBo bY br),hc,m1,m2',qrh hxx hyr hd,q6s hd,qiz bx bd]
theorem qte(m:Int):okL (0*m):=by rw[Int.zero_mul];exact q74
theorem qyZ{c:Rat}(h:0≤c):¬(tQ c).getD 0 0=45:=by
 have hn:¬c.num<0:=by have:=Rat.num_nonneg.2 h;omega
 have e:(tQ c).getD 0 0=(tI c.num).getD 0 0:=by
  by_cases hd:c.den=1
  ·rw[q9u hd]
  ·rw[q52 hd]
   obtain⟨x,t,ex⟩:∃x t,tI c.num=x::t:=List.exists_cons_of_ne_nil (List.length_pos_iff.1 (qqJ _))
   rw[ex];simp
 rw[e,qvJ];exact hn
theorem qAg{c:Rat}(h:c<0):(tQ c).getD 0 0=45:=by
 have h1:¬0≤c:=by grind
 have hn:c.num<0:=by
  have h2:¬0≤c.num:=fun h=>h1 (Rat.num_nonneg.1 h)
  omega
 have e:(tQ c).getD 0 0=(tI c.num).getD 0 0:=by
  by_cases hd:c.den=1
  ·rw[q9u hd]
  ·rw[q52 hd]
   obtain⟨x,t,ex⟩:∃x t,tI c.num=x::t:=List.exists_cons_of_ne_nil (List.length_pos_iff.1 (qqJ _))
   rw[ex];simp
 rw[e,qvJ];exact hn
theorem qhb(s:List UInt8):(sat s 0=45)=(s.getD 0 0=45):=by
 unfold sat
 simp only[Int.toNat_zero,eq_iff_iff]
 exact⟨fun h=>UInt8.toNat_inj.1 (by show (s.getD 0 0).toNat=45;omega),fun h=>by rw[h];rfl⟩
structure RootOk (a b c:Rat):Prop where
 oa:okQ a
 ob:okQ b
 oc:okQ c
 x1:okL (a.num*b.den)
 x:okL (rX a b c)
 y:okL (rY a b)
 r:okL (rR c)
 xx:okL (rX a b c*rX a b c)
 yy:okL (rY a b*rY a b)
 yr:okL (rY a b*rY a b*rR c)
 d:okL (rX a b c*rX a b c-rY a b*rY a b*rR c)
theorem qtR{a b c:Rat}(h:RootOk a b c)(hc:0≤c):(q0s [.s (tQ a),.s (tQ b),.s (tQ c)]).run=some (0,[.i (qf5 a b c),.i 0]):=by
 rw[qj8]
 have key:(kg [.s (tQ a),.s (tQ b),.s (tQ c),.s [48],.s [48]]).run=some (0,[.i (qf5 a b c),.i 0]):=by
  rw[qh6]
  have o0:okQ 0:=q5J.ok (by omega) (by omega)
  have hz:=q5H o0
  rw[show tQ 0=[48] from rfl] at hz
  have hch:=qqh (l:=[tQ a,tQ b,tQ c,[48],[48]]) (by simp) (fun s hs=>by
   simp only[List.mem_cons,List.not_mem_nil,or_false] at hs
   rcases hs with rfl|rfl|rfl|rfl|rfl
   ·exact q5H h.oa
   ·exact q5H h.ob
   ·exact q5H h.oc
   ·exact hz
   ·exact hz)
  have hch':(qK [.r [[.s (tQ a)],[.s (tQ b)],[.s (tQ c)],[.s [48]],[.s [48]]]]).run=some (0,[.i 0]):=hch
  have c0:=q86 o0
  rw[show tQ 0=[48] from rfl] at c0
  replace c0:(qG [.s [48]]).run=some (0,[.s [48],.s [49],.b false]):=c0
  have l1:(0:Int)<zJ (tQ c):=by
   have h1:=qm0 c
   have h2:=qme c
   unfold zJ;omega
  have l2:(0:Int)<zJ [48]:=by decide
  have n1:¬sat (tQ c) 0=45:=by rw[qhb];exact qyZ hc
  have n2:¬sat [48] 0=45:=by decide
  have mx:=qqC [a.num,b.den,c.den,1,1] ⟨q8M,q3x h.oa,by rw[Int.one_mul];exact q3x h.oa,kD h.ob,by rw[Int.one_mul];exact h.x1,kD h.oc,by rw[Int.one_mul];exact h.x,q8M,by rw[Int.one_mul,Int.mul_one];exact h.x,q8M,by rw[Int.one_mul,Int.mul_one,Int.mul_one];exact h.x⟩ (by simp)
  have my:=qqC [b.num,a.den,1,1] ⟨q8M,q3x h.ob,by rw[Int.one_mul];exact q3x h.ob,kD h.oa,by rw[Int.one_mul];exact h.y,q8M,by rw[Int.one_mul,Int.mul_one];exact h.y,q8M,by rw[Int.one_mul,Int.mul_one,Int.mul_one];exact h.y⟩ (by simp)
  have mr:=qaP (q3x h.oc) (kD h.oc) h.r
  have mz:=qqC [0,a.den,b.den,c.den] ⟨q8M,q74,by rw[Int.mul_zero];exact q74,kD h.oa,by simp only[Int.mul_zero];exact qte _,kD h.ob,by simp only[Int.mul_zero,Int.zero_mul];exact q74,kD h.oc,by simp only[Int.mul_zero,Int.zero_mul];exact q74⟩ (by simp)
  have mt:=qaP (m:=0) (n:=1) q74 q8M (qte _)
  simp only[prd,Int.one_mul,Int.mul_one,Int.zero_mul] at mx my mz mt
  have mx':(qg [.r [[.s (tI a.num)],[.s (tI (b.den:Int))],[.s (tI (c.den:Int))],[.s [49]],[.s [49]]],.i 0]).run=some (0,[.s (tI (rX a b c)),.i 0]):=mx
  have my':(qg [.r [[.s (tI b.num)],[.s (tI (a.den:Int))],[.s [49]],[.s [49]]],.i 0]).run=some (0,[.s (tI (rY a b)),.i 0]):=my
  have mr':(qg [.r [[.s (tI c.num)],[.s (tI (c.den:Int))]],.i 0]).run=some (0,[.s (tI (rR c)),.i 0]):=mr
  have mz':(qg [.r [[.s [48]],[.s (tI (a.den:Int))],[.s (tI (b.den:Int))],[.s (tI (c.den:Int))]],.i 0]).run=some (0,[.s (tI 0),.i 0]):=mz
  have mt':(qg [.r [[.s [48]],[.s [49]]],.i 0]).run=some (0,[.s (tI 0),.i 0]):=mt
  have hR:=qzx h.x h.y h.r h.xx h.yy h.yr h.d
  rw[←qwt] at hR
  have w1:kN .i64 (sgn 0) (sgn 0)=0:=by decide
  have w2:kN .i64 (qf5 a b c) 0=0:=by rw[q8y (by rw[Int.mul_zero];omega),Int.mul_zero]
  by_cases h0:qf5 a b c=0
  ·simp only[STD,hch',l1,l2,n1,n2,Int.le_refl,and_self,q86 h.oa,q86 h.ob,q86 h.oc,c0,mx',my',mr',mz',mt',hR,q6s q74,w1,h0,show kN .i64 0 0=0 from rfl]
  ·simp only[STD,hch',l1,l2,n1,n2,Int.le_refl,and_self,q86 h.oa,q86 h.ob,q86 h.oc,c0,mx',my',mr',mz',mt',hR,q6s q74,w1,w2,h0]
 simp only[STD,key]
theorem RootOk.of{N D N' D' R E:Nat}{a b c:Rat}(ha:bnd N D a)(hb:bnd N' D' b)(hc:bnd R E c)(h1:2*(N+D'+E)≤1023)(h2:2*(N'+D)+R+E≤1023):RootOk a b c:=by
 have q1:nl a.num≤N:=ha.1
 have q2:nl (a.den:Int)≤D:=ha.2
 have q3:nl b.num≤N':=hb.1
 have q4:nl (b.den:Int)≤D':=hb.2
 have q5:nl c.num≤R:=hc.1
 have q6:nl (c.den:Int)≤E:=hc.2
 have x1:=q3R a.num b.den
 have x2:=q3R (a.num*b.den) c.den
 have y1:=q3R b.num a.den
 have r1:=q3R c.num c.den
 have xx:=q3R (rX a b c) (rX a b c)
 have yy:=q3R (rY a b) (rY a b)
 have yr:=q3R (rY a b*rY a b) (rR c)
 have dd:=qwY (rX a b c*rX a b c) (rY a b*rY a b*rR c)
 have e1:nl (rX a b c)=nl (a.num*b.den*c.den):=rfl
 have e2:nl (rY a b)=nl (b.num*a.den):=rfl
 have e3:nl (rR c)=nl (c.num*c.den):=rfl
 have p1:=qlf a.num
 have p2:=qlf b.num
 have p3:=qlf c.num
 have p4:=qlf (a.den:Int)
 have p5:=qlf (b.den:Int)
 have p6:=qlf (c.den:Int)
 exact { oa:=⟨by show nl a.num≤1024;omega,by show nl (a.den:Int)≤1024;omega⟩,ob:=⟨by show nl b.num≤1024;omega,by show nl (b.den:Int)≤1024;omega⟩,oc:=⟨by show nl c.num≤1024;omega,by show nl (c.den:Int)≤1024;omega⟩,x1:=by unfold okL;omega,x:=by unfold okL;omega,y:=by unfold okL;omega,r:=by unfold okL;omega,xx:=by unfold okL;omega,yy:=by unfold okL;omega,yr:=by unfold okL;omega,d:=by unfold okL;omega }
end Go.Eng

