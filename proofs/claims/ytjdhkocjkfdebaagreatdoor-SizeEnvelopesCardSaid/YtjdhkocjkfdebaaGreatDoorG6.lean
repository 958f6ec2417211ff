/- Texts of the proof, merged: what the code computes, and plain laws. No statement stands here. -/
import Derived.Test.YtjdhkocjkfdebaaGreatDoorG5
namespace Go.Eng
open Go.Proofs
open Tryz
def qdg:FIn:=⟨[(.agg [(.int .i64),(.int .i64)]),(.agg [(.int .i64),(.int .i64)])],[]⟩
def qch:List FOut:=[⟨(.agg [(.int .i64),(.int .i64)]),[],none⟩]
noncomputable def quv:=qe [] [(85,f85)] [] 0
noncomputable def yA:=qj quv 85 f85 true qdg qch
theorem qft:qx prog qa 85 (q9 qdg qch yA):=sk quv qc q8 aln aln (b1 func85) func85
def q2O:FIn:=⟨[(.agg [(.int .i64),(.int .i64)]),(.agg [(.int .i64),(.int .i64)])],[]⟩
def q2U:List FOut:=[⟨(.int .i64),[],none⟩]
noncomputable def qe2:=qe [] [(86,f86)] [] 0
noncomputable def zq:=qj qe2 86 f86 true q2O q2U
theorem q9q:qx prog qa 86 (q9 q2O q2U zq):=sk qe2 qc q8 aln aln (b1 func86) func86
def qn4:FIn:=⟨[(.imm [(.int .i64),(.int .i64),(.int .i64),(.int .i64),(.int .i64),(.int .i64)])],[]⟩
def qnx:List FOut:=[⟨.bool,[],none⟩]
noncomputable def qul:=qe [] [(32,f32)] [] 0
noncomputable def qd5:=qj qul 32 f32 true qn4 qnx
theorem qvE:qx prog qa 32 (q9 qn4 qnx qd5):=sk qul qc q8 aln aln (b1 func32) func32
def qnd:FIn:=⟨[(.imm [(.int .i64),(.int .i64),(.int .i64),(.int .i64),(.int .i64),(.int .i64)])],[]⟩
def qmO:List FOut:=[⟨(.imm [(.int .i64),(.int .i64),(.int .i64),(.int .i64),(.int .i64),(.int .i64)]),[],none⟩]
def qgM:Tmpl:={ t:=(.any::.any::.any::(.vec 0)::.any::.any::(.imm [(.int .i64),(.int .i64),(.int .i64),(.int .i64),(.int .i64),(.int .i64)])::(.int .i64)::(.int .i64)::qt 9 []),h:=[.vec 168 [(.int .i64),(.int .i64),(.int .i64),(.int .i64),(.int .i64),(.int .i64)]],pro:=[(3,168,[(.int .i64),(.int .i64),(.int .i64),(.int .i64),(.int .i64),(.int .i64)])] }
def qgS:List Out:=[⟨(.exit 0),{ t:=(.any::.any::.any::(.vec 0)::qt 14 []),h:=[.vec 168 [(.int .i64),(.int .i64),(.int .i64),(.int .i64),(.int .i64),(.int .i64)]] }⟩]
noncomputable def qbb:=qe [] [(33,f33)] [] 0
noncomputable def q3Y:=wT qbb 33 f33 4 qgM qgS
theorem qrA:qk prog qa qbb.nimp (qq prog qbb.iter 33) (z7 f33 4) (qh qgM qgS (qf q3Y)):=gk qbb qc q8 aln aln (b1 func33) func33
noncomputable def qt3:=qe [] [(33,f33)] [((33,4),qh qgM qgS (qf q3Y))] 0
noncomputable def qdi:=qj qt3 33 f33 true qnd qmO
theorem qvt:qx prog qa 33 (q9 qnd qmO qdi):=sk qt3 qc q8 aln (alc (lk func33 qrA) aln) (b1 func33) func33
def qbK:FIn:=⟨[(.imm [(.int .i64),(.int .i64),(.int .i64),(.int .i64),(.int .i64),(.int .i64)])],[]⟩
def qbk:List FOut:=[⟨(.int .i64),[],none⟩]
def qcy:Tmpl:={ t:=((.imm [(.int .i64),(.int .i64),(.int .i64),(.int .i64),(.int .i64),(.int .i64)])::.any::.any::(.int .i64)::qt 25 []),h:=[] }
def qco:List Out:=[⟨(.exit 0),{ t:=(qt 29 []),h:=[] }⟩,⟨.ret,{ t:=(.any::.any::(.int .i64)::qt 26 []),h:=[] }⟩]
noncomputable def q7Q:=qe [(153,q9 ud uf zE)] [(91,f91)] [] 0
noncomputable def uq:=wT q7Q 91 f91 6 qcy qco
theorem qoK:qk prog qa q7Q.nimp (qq prog q7Q.iter 91) (z7 f91 6) (qh qcy qco (qf uq)):=gk q7Q qc q8 (alc q0q aln) aln (b1 func91) func91
noncomputable def qog:=qe [(153,q9 ud uf zE)] [(91,f91)] [((91,6),qh qcy qco (qf uq))] 0
noncomputable def q3Z:=qj qog 91 f91 true qbK qbk
theorem qil:qx prog qa 91 (q9 qbK qbk q3Z):=sk qog qc q8 (alc q0q aln) (alc (lk func91 qoK) aln) (b1 func91) func91
def q5k:FIn:=⟨[(.agg [(.int .i64),(.int .i64),(.int .i64)]),(.agg [(.int .i64),(.int .i64),(.int .i64)])],[]⟩
def q5m:List FOut:=[⟨(.int .i64),[],none⟩]
noncomputable def qhM:=qe [(154,q9 q7H q71 q2S),(155,q9 qjw qk7 qdA)] [(92,f92)] [] 0
noncomputable def kv:=qj qhM 92 f92 true q5k q5m
theorem qd9:qx prog qa 92 (q9 q5k q5m kv):=sk qhM qc q8 (alc qjU (alc qt8 aln)) aln (b1 func92) func92
def q00:FIn:=⟨[(.imm [(.int .i64),(.int .i64),(.int .i64),(.int .i64),(.int .i64),(.int .i64)])],[]⟩
def q04:List FOut:=[⟨(.tuple [(.imm [(.int .i64)]),(.int .i64)]),[],none⟩]
def qaj:Tmpl:={ t:=((.imm [(.int .i64),(.int .i64),(.int .i64),(.int .i64),(.int .i64),(.int .i64)])::qt 4 ((.vec 0)::(.int .i64)::qt 26 [])),h:=[.vec 3 [(.int .i64)]],pro:=[(5,3,[(.int .i64)])] }
def q9X:List Out:=[⟨(.exit 0),{ t:=(qt 5 ((.vec 0)::qt 27 [])),h:=[.vec 3 [(.int .i64)]] }⟩]
noncomputable def q59:=qe [(91,q9 qbK qbk q3Z),(92,q9 q5k q5m kv)] [(35,f35)] [] 0
noncomputable def kq:=wT q59 35 f35 8 qaj q9X
theorem qmu:qk prog qa q59.nimp (qq prog q59.iter 35) (z7 f35 8) (qh qaj q9X (qf kq)):=gk q59 qc q8 (alc qil (alc qd9 aln)) aln (b1 func35) func35
noncomputable def qm7:=qe [(91,q9 qbK qbk q3Z),(92,q9 q5k q5m kv)] [(35,f35)] [((35,8),qh qaj q9X (qf kq))] 0
noncomputable def wP:=qj qm7 35 f35 true q00 q04
theorem q11:qx prog qa 35 (q9 q00 q04 wP):=sk qm7 qc q8 (alc qil (alc qd9 aln)) (alc (lk func35 qmu) aln) (b1 func35) func35
def q0D:FIn:=⟨[(.int .i64)],[]⟩
def q13:List FOut:=[⟨(.int .i64),[],none⟩]
noncomputable def qgr:=qe [] [(94,f94)] [] 0
noncomputable def vq:=qj qgr 94 f94 true q0D q13
theorem q4A:qx prog qa 94 (q9 q0D q13 vq):=sk qgr qc q8 aln aln (b1 func94) func94
def q5S:FIn:=⟨[(.imm [(.int .i64)]),(.fn 94 [] [])],[]⟩
def q5z:List FOut:=[⟨(.agg [(.int .i64),(.int .i64)]),[],none⟩]
def q3r:Tmpl:={ t:=((.imm [(.int .i64)])::(.fn 94 [] [])::.any::.any::(.ptr 0 0)::(.ptr 1 0)::.any::.any::(.imm [(.int .i64)])::(.int .i64)::(.int .i64)::qt 32 []),h:=[.cells [(.int .i64),(.int .i64)],.cells [(.int .i64),(.int .i64)]] }
def q3m:List Out:=[⟨(.exit 0),{ t:=(qt 4 ((.ptr 0 0)::(.ptr 1 0)::qt 37 [])),h:=[.cells [(.int .i64),(.int .i64)],.cells [(.int .i64),(.int .i64)]] }⟩]
noncomputable def kN:=qe [(94,q9 q0D q13 vq)] [(93,f93)] [] 0
noncomputable def vk:=wT kN 93 f93 4 q3r q3m
theorem qfB:qk prog qa kN.nimp (qq prog kN.iter 93) (z7 f93 4) (qh q3r q3m (qf vk)):=gk kN qc q8 (alc q4A aln) aln (b1 func93) func93
noncomputable def qbW:=qe [(94,q9 q0D q13 vq)] [(93,f93)] [((93,4),qh q3r q3m (qf vk))] 0
noncomputable def uC:=qj qbW 93 f93 true q5S q5z
theorem qiB:qx prog qa 93 (q9 q5S q5z uC):=sk qbW qc q8 (alc q4A aln) (alc (lk func93 qfB) aln) (b1 func93) func93
def qck:FIn:=⟨[(.imm [(.int .i64),(.int .i64),(.int .i64),(.int .i64),(.int .i64),(.int .i64)])],[]⟩
def qcX:List FOut:=[⟨(.tuple [(.int .i64),(.int .i64),(.int .i64)]),[],none⟩]
noncomputable def qiN:=qe [(34,q9 q4d q45 j5),(93,q9 q5S q5z uC),(94,q9 q0D q13 vq)] [(36,f36)] [] 0
noncomputable def q3x:=qj qiN 36 f36 true qck qcX
theorem qoc:qx prog qa 36 (q9 qck qcX q3x):=sk qiN qc q8 (alc q5l (alc qiB (alc q4A aln))) aln (b1 func36) func36
def qa3:FIn:=⟨[(.imm [(.int .i64),(.int .i64),(.int .i64),(.int .i64),(.int .i64),(.int .i64)])],[]⟩
def qaa:List FOut:=[⟨(.tuple [(.int .i64),(.int .i64),(.int .i64)]),[],none⟩]
def q5U:Tmpl:={ t:=(qt 5 ((.imm [(.int .i64)])::.any::(.int .i64)::(.int .i64)::(.int .i64)::qt 39 [])),h:=[] }
def q5E:List Out:=[⟨(.exit 0),{ t:=(qt 7 ((.int .i64)::(.int .i64)::qt 40 [])),h:=[] }⟩]
noncomputable def q1b:=qe [(35,q9 q00 q04 wP)] [(37,f37)] [] 0
noncomputable def js:=wT q1b 37 f37 11 q5U q5E
theorem qiA:qk prog qa q1b.nimp (qq prog q1b.iter 37) (z7 f37 11) (qh q5U q5E (qf js)):=gk q1b qc q8 (alc q11 aln) aln (b1 func37) func37
noncomputable def qie:=qe [(35,q9 q00 q04 wP)] [(37,f37)] [((37,11),qh q5U q5E (qf js))] 0
noncomputable def yu:=qj qie 37 f37 true qa3 qaa
theorem qnm:qx prog qa 37 (q9 qa3 qaa yu):=sk qie qc q8 (alc q11 aln) (alc (lk func37 qiA) aln) (b1 func37) func37
def qqO:FIn:=⟨[(.int .i64)],[]⟩
def qqJ:List FOut:=[⟨.bool,[],none⟩]
noncomputable def qwA:=qe [] [(156,f156)] [] 0
noncomputable def q64:=qj qwA 156 f156 true qqO qqJ
theorem qyf:qx prog qa 156 (q9 qqO qqJ q64):=sk qwA qc q8 aln aln (b1 func156) func156
def qgL:FIn:=⟨[(.agg [(.int .i64),(.int .i64)])],[]⟩
def qht:List FOut:=[⟨(.int .i64),[],none⟩]
noncomputable def qpg:=qe [(156,q9 qqO qqJ q64)] [(95,f95)] [] 0
noncomputable def q7s:=qj qpg 95 f95 true qgL qht
theorem qry:qx prog qa 95 (q9 qgL qht q7s):=sk qpg qc q8 (alc qyf aln) aln (b1 func95) func95
def q9i:FIn:=⟨[(.agg [(.int .i64),(.int .i64)])],[]⟩
def q9j:List FOut:=[⟨(.int .i64),[],none⟩]
noncomputable def qrm:=qe [(95,q9 qgL qht q7s)] [(43,f43)] [] 0
noncomputable def q19:=qj qrm 43 f43 true q9i q9j
theorem qcl:qx prog qa 43 (q9 q9i q9j q19):=sk qrm qc q8 (alc qry aln) aln (b1 func43) func43
def qhf:FIn:=⟨[(.imm [(.int .i64),(.int .i64),(.int .i64),(.int .i64),(.int .i64),(.int .i64)]),(.agg [(.int .i64),(.int .i64)])],[]⟩
def qgK:List FOut:=[⟨(.tuple [.bool,(.int .i64),(.int .i64)]),[],none⟩]
def qaq:Tmpl:={ t:=((.imm [(.int .i64),(.int .i64),(.int .i64),(.int .i64),(.int .i64),(.int .i64)])::.any::.any::(.ptr 0 0)::.any::.any::.any::(.imm [(.int .i64)])::.any::.any::(.int .i64)::qt 44 []),h:=[.cells [(.int .i64),(.int .i64)]] }
def qa4:List Out:=[⟨(.exit 0),{ t:=((.imm [(.int .i64),(.int .i64),(.int .i64),(.int .i64),(.int .i64),(.int .i64)])::qt 54 []),h:=[] }⟩,⟨.ret,{ t:=(qt 4 (.bool::(.int .i64)::(.int .i64)::qt 48 [])),h:=[] }⟩]
noncomputable def q5s:=qe [(35,q9 q00 q04 wP),(43,q9 q9i q9j q19)] [(38,f38)] [] 0
noncomputable def kn:=wT q5s 38 f38 11 qaq qa4
theorem qmD:qk prog qa q5s.nimp (qq prog q5s.iter 38) (z7 f38 11) (qh qaq qa4 (qf kn)):=gk q5s qc q8 (alc q11 (alc qcl aln)) aln (b1 func38) func38
noncomputable def qoO:=qe [(35,q9 q00 q04 wP),(43,q9 q9i q9j q19)] [(38,f38)] [((38,11),qh qaq qa4 (qf kn))] 0
noncomputable def q6V:=qj qoO 38 f38 true qhf qgK
theorem qrE:qx prog qa 38 (q9 qhf qgK q6V):=sk qoO qc q8 (alc q11 (alc qcl aln)) (alc (lk func38 qmD) aln) (b1 func38) func38
def q77:FIn:=⟨[(.imm [(.int .i64),(.int .i64),(.int .i64),(.int .i64),(.int .i64),(.int .i64)]),(.agg [(.int .i64),(.int .i64)])],[]⟩
def q6A:List FOut:=[⟨.bool,[],none⟩]
noncomputable def vT:=qe [(19,q9 q7K q7d wW),(31,q9 qdZ qdD q17),(32,q9 qn4 qnx qd5),(33,q9 qnd qmO qdi),(34,q9 q4d q45 j5),(35,q9 q00 q04 wP),(36,q9 qck qcX q3x),(37,q9 qa3 qaa yu),(38,q9 qhf qgK q6V),(39,q9 uS uM zI)] [(7,f7)] [] 0
noncomputable def kT:=qj vT 7 f7 true q77 q6A
theorem qjY:qx prog qa 7 (q9 q77 q6A kT):=sk vT qc q8 (alc q9Q (alc qjL (alc qvE (alc qvt (alc q5l (alc q11 (alc qoc (alc qnm (alc qrE (alc q4R aln)))))))))) aln (b1 func7) func7
def qci:FIn:=⟨[(.agg [(.int .i64),(.imm [(.int .i64),(.int .i64),(.int .i64)]),(.imm [(.int .i64),(.int .i64),(.int .i64)])]),.bool,(.agg [(.int .i64),(.int .i64)])],[]⟩
def qcF:List FOut:=[⟨(.tuple [.bool,(.int .i64)]),[],none⟩]
noncomputable def qiY:=qe [(24,q9 q9n q9G jN),(68,q9 q6K q6p yX),(87,q9 qbg qbw q1z)] [(40,f40)] [] 0
noncomputable def q3y:=qj qiY 40 f40 true qci qcF
theorem qoy:qx prog qa 40 (q9 qci qcF q3y):=sk qiY qc q8 (alc qcQ (alc qay (alc qi8 aln))) aln (b1 func40) func40
def qak:FIn:=⟨[(.agg [(.int .i64),(.imm [(.int .i64),(.int .i64),(.int .i64)]),(.imm [(.int .i64),(.int .i64),(.int .i64)])]),.bool,(.agg [(.int .i64),(.int .i64)])],[]⟩
def qaG:List FOut:=[⟨(.tuple [.bool,(.int .i64)]),[],none⟩]
noncomputable def qhF:=qe [(25,q9 qbm qbz q1F),(43,q9 q9i q9j q19),(69,q9 qgZ qhq q43),(70,q9 qdR qdO uc),(71,q9 qbD qbJ q1i)] [(41,f41)] [] 0
noncomputable def q24:=qj qhF 41 f41 true qak qaG
theorem qno:qx prog qa 41 (q9 qak qaG q24):=sk qhF qc q8 (alc qi5 (alc qcl (alc qrD (alc qiS (alc qim aln))))) aln (b1 func41) func41
def q3t:FIn:=⟨[(.agg [(.int .i64),(.imm [(.int .i64),(.int .i64),(.int .i64)]),(.imm [(.int .i64),(.int .i64),(.int .i64)])]),.bool,(.agg [(.int .i64),(.int .i64)])],[]⟩
def q3d:List FOut:=[⟨.bool,[],none⟩]
noncomputable def zb:=qe [(18,q9 q5x q5f yt),(19,q9 q7K q7d wW),(40,q9 qci qcF q3y),(41,q9 qak qaG q24)] [(8,f8)] [] 0
noncomputable def jO:=qj zb 8 f8 true q3t q3d
theorem qg3:qx prog qa 8 (q9 q3t q3d jO):=sk zb qc q8 (alc qca (alc q9Q (alc qoy (alc qno aln)))) aln (b1 func8) func8
def qgX:FIn:=⟨[(.agg [(.int .i64),(.imm [(.int .i64),(.int .i64),(.int .i64)]),(.imm [(.int .i64),(.int .i64),(.int .i64)])])],[]⟩
def qhy:List FOut:=[⟨.bool,[],none⟩]
noncomputable def qp4:=qe [(18,q9 q5x q5f yt),(25,q9 qbm qbz q1F)] [(42,f42)] [] 0
noncomputable def q3U:=qj qp4 42 f42 true qgX qhy
theorem qs3:qx prog qa 42 (q9 qgX qhy q3U):=sk qp4 qc q8 (alc qca (alc qi5 aln)) aln (b1 func42) func42
def q4m:FIn:=⟨[(.imm [(.int .i64),(.int .i64),(.int .i64)]),(.eptr [(.int .i64),(.sl [(.int .i64),(.int .i64),(.int .i64)]),(.sl [(.int .i64),(.int .i64),(.int .i64)])] 0)],[]⟩
def q4x:List FOut:=[⟨(.imm [(.int .i64)]),[],none⟩]
def q2x:Tmpl:={ t:=(.any::(.eptr [(.int .i64),(.sl [(.int .i64),(.int .i64),(.int .i64)]),(.sl [(.int .i64),(.int .i64),(.int .i64)])] 0)::.any::.any::(.vec 0)::.any::.any::(.imm [(.int .i64),(.int .i64),(.int .i64)])::(.int .i64)::(.int .i64)::qt 18 []),h:=[.vec 3 [(.int .i64)]],pro:=[(4,3,[(.int .i64)])] }
def q2z:List Out:=[⟨(.exit 0),{ t:=(qt 4 ((.vec 0)::qt 23 [])),h:=[.vec 3 [(.int .i64)]] }⟩]
noncomputable def uU:=qe [] [(45,f45)] [] 0
noncomputable def wJ:=wT uU 45 f45 4 q2x q2z
theorem qfu:qk prog qa uU.nimp (qq prog uU.iter 45) (z7 f45 4) (qh q2x q2z (qf wJ)):=gk uU qc q8 aln aln (b1 func45) func45
noncomputable def qaX:=qe [] [(45,f45)] [((45,4),qh q2x q2z (qf wJ))] 0
noncomputable def qY:=qj qaX 45 f45 true q4m q4x
theorem qgu:qx prog qa 45 (q9 q4m q4x qY):=sk qaX qc q8 aln (alc (lk func45 qfu) aln) (b1 func45) func45
def q0x:FIn:=⟨[(.imm [(.int .i64)])],[]⟩
def q0p:List FOut:=[⟨(.int .i64),[],none⟩]
def q2E:Tmpl:={ t:=((.imm [(.int .i64)])::.any::.any::(.int .i64)::(.int .i64)::qt 20 []),h:=[] }
def q2t:List Out:=[⟨(.exit 0),{ t:=(.any::.any::.any::(.int .i64)::qt 21 []),h:=[] }⟩]
noncomputable def uR:=qe [] [(46,f46)] [] 0
noncomputable def zg:=wT uR 46 f46 6 q2E q2t
theorem qfn:qk prog qa uR.nimp (qq prog uR.iter 46) (z7 f46 6) (qh q2E q2t (qf zg)):=gk uR qc q8 aln aln (b1 func46) func46
noncomputable def qaN:=qe [] [(46,f46)] [((46,6),qh q2E q2t (qf zg))] 0
noncomputable def qZ:=qj qaN 46 f46 true q0x q0p
theorem q7k:qx prog qa 46 (q9 q0x q0p qZ):=sk qaN qc q8 aln (alc (lk func46 qfn) aln) (b1 func46) func46
def q0o:FIn:=⟨[(.imm [(.int .i64)])],[]⟩
def q0t:List FOut:=[⟨(.int .i64),[],none⟩]
def q2G:Tmpl:={ t:=((.imm [(.int .i64)])::.any::.any::(.int .i64)::(.int .i64)::qt 20 []),h:=[] }
def q2o:List Out:=[⟨(.exit 0),{ t:=(.any::.any::.any::(.int .i64)::qt 21 []),h:=[] }⟩]
noncomputable def uQ:=qe [] [(47,f47)] [] 0
noncomputable def zh:=wT uQ 47 f47 6 q2G q2o
theorem qew:qk prog qa uQ.nimp (qq prog uQ.iter 47) (z7 f47 6) (qh q2G q2o (qf zh)):=gk uQ qc q8 aln aln (b1 func47) func47
noncomputable def qaZ:=qe [] [(47,f47)] [((47,6),qh q2G q2o (qf zh))] 0
noncomputable def z6:=qj qaZ 47 f47 true q0o q0t
theorem q6y:qx prog qa 47 (q9 q0o q0t z6):=sk qaZ qc q8 aln (alc (lk func47 qew) aln) (b1 func47) func47
def q7v:FIn:=⟨[(.agg [(.int .i64),(.imm [(.int .i64),(.int .i64),(.int .i64)]),(.imm [(.int .i64),(.int .i64),(.int .i64)])]),(.agg [(.int .i64),(.imm [(.int .i64),(.int .i64),(.int .i64)]),(.imm [(.int .i64),(.int .i64),(.int .i64)])])],[]⟩
def q7A:List FOut:=[⟨.bool,[],none⟩]
noncomputable def vU:Env:={ tt:=q1l,glob:=qa,spec:=[(19,q9 q7K q7d wW),(20,q9 qbc qb3 yP),(42,q9 qgX qhy q3U),(45,q9 q4m q4x qY),(46,q9 q0x q0p qZ),(47,q9 q0o q0t z6)],body:=[(10,f10)],loops:=[],nimp:=0,raws:=[1000045] }
noncomputable def kI:=qj vU 10 f10 true q7v q7A
theorem qjp:qx prog qa 10 (q9 q7v q7A kI):=sk vU qc q8 (alc q9Q (alc qii (alc qs3 (alc qgu (alc q7k (alc q6y aln)))))) aln (b1 func10) func10
def q96:FIn:=⟨[(.agg [(.int .i64),(.int .i64)])],[]⟩
def q9a:List FOut:=[⟨.bool,[],none⟩]
noncomputable def qm9:=qe [(106,q9 vO vK qI)] [(107,f107)] [] 0
noncomputable def kY:=qj qm9 107 f107 true q96 q9a
theorem qg5:qx prog qa 107 (q9 q96 q9a kY):=sk qm9 qc q8 (alc vg aln) aln (b1 func107) func107
def q5w:FIn:=⟨[(.agg [(.int .i64),(.imm [(.int .i64),(.int .i64)])]),(.mptr [(.int .i64),(.sl [(.int .i64),(.int .i64)])] 0)],[]⟩
def q5i:List FOut:=[⟨(.int .i64),[],none⟩]
noncomputable def qi7:=qe [(106,q9 vO vK qI)] [(260,f260)] [] 0
noncomputable def kl:=qj qi7 260 f260 true q5w q5i
theorem qcJ:qx prog qa 260 (q9 q5w q5i kl):=sk qi7 qc q8 (alc vg aln) aln (b1 func260) func260
def qeP:FIn:=⟨[(.imm [(.int .i64),(.sl [(.int .i64),(.int .i64)])])],[]⟩
def qfk:List FOut:=[⟨(.int .i64),[],none⟩]
def q4v:Tmpl:={ t:=(.yld::(.ptr 1 0)::.any::(.mptr [(.int .i64),(.sl [(.int .i64),(.int .i64)])] 0)::.any::.any::(.int .i64)::(.int .i64)::qt 15 []),h:=[.cells [(.int .i64)],.cells [(.imm [(.int .i64),(.sl [(.int .i64),(.int .i64)])])]],fs:=[[.any,.any,(.ptr 0 0),.any,.any,.any,.any,.any,.any,.any,.any,(.fn 259 [] [(.ptr 1 0)]),.any,.any,.any,.any],[]] }
def q4l:List Out:=[⟨(.exit 0),{ t:=(qt 23 []),h:=[.cells [(.int .i64)],.cells [(.imm [(.int .i64),(.sl [(.int .i64),(.int .i64)])])]],fs:=[[.any,.any,(.ptr 0 0),.any,.any,.any,.any,.any,.any,.any,.any,(.fn 259 [] [(.ptr 1 0)]),.any,.any,.any,.any],[]] }⟩,⟨.ret,{ t:=(qt 23 []),h:=[.cells [(.int .i64)],.cells [(.imm [(.int .i64),(.sl [(.int .i64),(.int .i64)])])]],fs:=[[.any,.any,(.ptr 0 0),.any,.any,.any,.any,.any,.any,.any,.any,(.fn 259 [] [(.ptr 1 0)]),.any,.any,.any,.any],[]],pend:=(.some .ret) }⟩]
noncomputable def q0m:Env:={ tt:=q1l,glob:=qa,spec:=[(260,q9 q5w q5i kl)],body:=[(157,f157),(207,f207),(259,f259)],loops:=[],nimp:=0,iter:=[(259,157,9)] }
noncomputable def ww:=qtJ q0m (some (157,f157,9)) 259 f259 2 q4v q4l
theorem qh8:qk prog qa q0m.nimp (qq prog q0m.iter 259) (z7 f259 2) (qh q4v q4l (qf ww)):=q36 (E:=q0m) qc ⟨um q8,⟨(alc qcJ aln),aln⟩,aln,(alc (bk func157) (alc (bk func207) (alc (bk func259) aln)))⟩ func259 (by kernel_rfl) (y:=some (157,f157,9)) ⟨func157,by kernel_rfl⟩ (by kernel_rfl) (by kernel_rfl) (fun _=>rfl)
noncomputable def qlO:Env:={ tt:=q1l,glob:=qa,spec:=[(260,q9 q5w q5i kl)],body:=[(157,f157),(207,f207),(259,f259)],loops:=[((259,2),qh q4v q4l (qf ww))],nimp:=0,iter:=[(259,157,9)] }
noncomputable def q56:=qj qlO 157 f157 true qeP qfk
theorem qq1:qx prog qa 157 (q9 qeP qfk q56):=sk qlO qc q8 (alc qcJ aln) (alc (lk func259 qh8) aln) (alc (bk func157) (alc (bk func207) (alc (bk func259) aln))) func157
def q50:FIn:=⟨[(.imm [(.int .i64),(.sl [(.int .i64),(.int .i64)])]),(.agg [(.int .i64),(.int .i64)])],[]⟩
def q4I:List FOut:=[⟨(.int .i64),[],none⟩]
noncomputable def qlQ:=qe [(107,q9 q96 q9a kY),(157,q9 qeP qfk q56)] [(98,f98)] [] 0
noncomputable def jI:=qj qlQ 98 f98 true q50 q4I
theorem q8J:qx prog qa 98 (q9 q50 q4I jI):=sk qlQ qc q8 (alc qg5 (alc qq1 aln)) aln (b1 func98) func98
def qf3:FIn:=⟨[(.int .i64),(.int .i64)],[]⟩
def qfe:List FOut:=[⟨(.agg [(.int .i64),(.int .i64)]),[],none⟩]
noncomputable def qmc:=qe [] [(158,f158)] [] 0
noncomputable def q2b:=qj qmc 158 f158 true qf3 qfe
theorem qpZ:qx prog qa 158 (q9 qf3 qfe q2b):=sk qmc qc q8 aln aln (b1 func158) func158
def q6D:FIn:=⟨[(.agg [(.int .i64),(.int .i64)]),(.agg [(.int .i64),(.int .i64)])],[]⟩
def q6U:List FOut:=[⟨.bool,[],none⟩]
noncomputable def qdT:=qe [] [(159,f159)] [] 0
noncomputable def kH:=qj qdT 159 f159 true q6D q6U
theorem qk3:qx prog qa 159 (q9 q6D q6U kH):=sk qdT qc q8 aln aln (b1 func159) func159
def q7V:FIn:=⟨[(.int .i64),(.int .i64),(.int .i64)],[]⟩
def q6u:List FOut:=[⟨.bool,[],none⟩]
noncomputable def qpa:=qe [(158,q9 qf3 qfe q2b),(159,q9 q6D q6U kH)] [(101,f101)] [] 0
noncomputable def yZ:=qj qpa 101 f101 true q7V q6u
theorem q9T:qx prog qa 101 (q9 q7V q6u yZ):=sk qpa qc q8 (alc qpZ (alc qk3 aln)) aln (b1 func101) func101
def q2i:FIn:=⟨[(.agg [(.int .i64),(.int .i64)]),(.imm [(.sl [(.int .i64),(.int .i64)])])],[]⟩
def q2l:List FOut:=[⟨(.tuple [(.int .i64),(.int .i64)]),[],none⟩]
def q8H:Tmpl:={ t:=(.any::.any::(.ptr 0 0)::.any::.any::.any::(.vec 1)::qt 6 ((.imm [(.sl [(.int .i64),(.int .i64)])])::(.int .i64)::(.int .i64)::.any::.any::.any::(.imm [(.int .i64),(.int .i64)])::(.int .i64)::(.int .i64)::qt 29 [])),h:=[.cells [(.int .i64),(.int .i64)],.vec 3 [(.int .i64)]] }
def q8I:List Out:=[⟨(.exit 2),{ t:=(.any::.any::(.ptr 0 0)::.any::.any::.any::(.vec 1)::qt 6 ((.imm [(.sl [(.int .i64),(.int .i64)])])::(.int .i64)::(.int .i64)::qt 35 [])),h:=[.cells [(.int .i64),(.int .i64)],.vec 3 [(.int .i64)]] }⟩]
noncomputable def q6I:List (FuncId×zM):=[(46,q9 q0x q0p qZ),(47,q9 q0o q0t z6)]
theorem qae:∀x,x∈q6I->qx prog qa x.1 x.2:=(alc q7k (alc q6y aln))
noncomputable def q4c:=qe q6I [(100,f100)] [] 0
noncomputable def uh:=wT q4c 100 f100 10 q8H q8I
theorem qlm:qk prog qa q4c.nimp (qq prog q4c.iter 100) (z7 f100 10) (qh q8H q8I (qf uh)):=gk q4c qc q8 qae aln (b1 func100) func100
def q9R:Tmpl:={ t:=(.any::.any::(.ptr 0 0)::.any::.any::.any::(.vec 1)::qt 6 ((.imm [(.sl [(.int .i64),(.int .i64)])])::(.int .i64)::(.int .i64)::qt 35 [])),h:=[.cells [(.int .i64),(.int .i64)],.vec 3 [(.int .i64)]],pro:=[(6,3,[(.int .i64)])] }
def qam:List Out:=[⟨(.exit 0),{ t:=(qt 6 ((.vec 1)::qt 44 [])),h:=[.dead,.vec 3 [(.int .i64)]] }⟩]
noncomputable def q5c:=qe q6I [(100,f100)] [((100,10),qh q8H q8I (qf uh))] 0
noncomputable def kt:=wT q5c 100 f100 4 q9R qam
theorem qmU:qk prog qa q5c.nimp (qq prog q5c.iter 100) (z7 f100 4) (qh q9R qam (qf kt)):=gk q5c qc q8 qae (alc (lk func100 qlm) aln) (b1 func100) func100
noncomputable def qm3:=qe q6I [(100,f100)] [((100,4),qh q9R qam (qf kt))] 0
noncomputable def wR:=qj qm3 100 f100 true q2i q2l
theorem q4e:qx prog qa 100 (q9 q2i q2l wR):=sk qm3 qc q8 qae (alc (lk func100 qmU) aln) (b1 func100) func100
def qbs:FIn:=⟨[(.imm [(.int .i64),(.sl [(.int .i64),(.int .i64)])]),(.agg [(.int .i64),(.int .i64)])],[]⟩
def qbl:List FOut:=[⟨(.tuple [(.int .i64),(.int .i64)]),[],none⟩]
def qbT:Tmpl:={ t:=(.any::.any::.any::(.ptr 0 0)::.any::.any::(.vec 1)::.any::.any::(.imm [(.int .i64),(.sl [(.int .i64),(.int .i64)])])::(.int .i64)::(.int .i64)::qt 14 []),h:=[.cells [(.int .i64),(.int .i64)],.vec 58 [(.sl [(.int .i64),(.int .i64)])]],pro:=[(6,58,[(.sl [(.int .i64),(.int .i64)])])] }
def qcp:List Out:=[⟨(.exit 0),{ t:=(.any::.any::.any::(.ptr 0 0)::.any::.any::(.vec 1)::qt 19 []),h:=[.cells [(.int .i64),(.int .i64)],.vec 58 [(.sl [(.int .i64),(.int .i64)])]] }⟩]
noncomputable def q6N:=qe [(100,q9 q2i q2l wR)] [(102,f102)] [] 0
noncomputable def q0O:=wT q6N 102 f102 4 qbT qcp
theorem qoC:qk prog qa q6N.nimp (qq prog q6N.iter 102) (z7 f102 4) (qh qbT qcp (qf q0O)):=gk q6N qc q8 (alc q4e aln) aln (b1 func102) func102
noncomputable def qpp:=qe [(100,q9 q2i q2l wR)] [(102,f102)] [((102,4),qh qbT qcp (qf q0O))] 0
noncomputable def q1c:=qj qpp 102 f102 true qbs qbl
theorem qi1:qx prog qa 102 (q9 qbs qbl q1c):=sk qpp qc q8 (alc q4e aln) (alc (lk func102 qoC) aln) (b1 func102) func102
def qen:FIn:=⟨[(.imm [(.int .i64),(.sl [(.int .i64),(.int .i64)])]),(.agg [(.int .i64),(.int .i64)])],[]⟩
def qeH:List FOut:=[⟨(.tuple [(.int .i64),(.int .i64)]),[],none⟩]
def qaI:Tmpl:={ t:=(qt 7 ((.int .i64)::(.int .i64)::(.int .i64)::(.int .i64)::qt 28 [])),h:=[] }
def qax:List Out:=[⟨(.exit 0),{ t:=(qt 9 ((.int .i64)::qt 29 [])),h:=[] }⟩]
noncomputable def qcz:List (FuncId×zM):=[(98,q9 q50 q4I jI),(101,q9 q7V q6u yZ),(102,q9 qbs qbl q1c)]
theorem qi0:∀x,x∈qcz->qx prog qa x.1 x.2:=(alc q8J (alc q9T (alc qi1 aln)))
noncomputable def q5o:=qe qcz [(97,f97)] [] 0
noncomputable def wX:=wT q5o 97 f97 8 qaI qax
theorem qmV:qk prog qa q5o.nimp (qq prog q5o.iter 97) (z7 f97 8) (qh qaI qax (qf wX)):=gk q5o qc q8 qi0 aln (b1 func97) func97
noncomputable def qlM:=qe qcz [(97,f97)] [((97,8),qh qaI qax (qf wX))] 0
noncomputable def q2g:=qj qlM 97 f97 true qen qeH
theorem qqu:qx prog qa 97 (q9 qen qeH q2g):=sk qlM qc q8 qi0 (alc (lk func97 qmV) aln) (b1 func97) func97
def q95:FIn:=⟨[],[]⟩
def q8Z:List FOut:=[⟨.bool,[],none⟩]
noncomputable def qlv:=qe [(27,q9 qfQ qgf jS),(97,q9 qen qeH q2g)] [(49,f49)] [] 0
noncomputable def jF:=qj qlv 49 f49 true q95 q8Z
theorem qg7:qx prog qa 49 (q9 q95 q8Z jF):=sk qlv qc q8 (alc qhl (alc qqu aln)) aln (b1 func49) func49
def q2H:FIn:=⟨[(.int .i64)],[]⟩
def q2I:List FOut:=[⟨.bool,[],none⟩]
noncomputable def qdX:=qe [] [(99,f99)] [] 0
noncomputable def vX:=qj qdX 99 f99 true q2H q2I
theorem q9I:qx prog qa 99 (q9 q2H q2I vX):=sk qdX qc q8 aln aln (b1 func99) func99
def q8l:FIn:=⟨[(.imm [(.int .i64),(.sl [(.int .i64),(.int .i64)])]),(.agg [(.int .i64),(.int .i64)]),(.int .i64)],[]⟩
def q8M:List FOut:=[⟨(.tuple [.bool,(.int .i64),(.int .i64)]),[],none⟩]
def q4z:Tmpl:={ t:=((.imm [(.int .i64),(.sl [(.int .i64),(.int .i64)])])::.any::(.int .i64)::.any::(.ptr 0 0)::qt 18 ((.imm [(.int .i64),(.sl [(.int .i64),(.int .i64)])])::(.int .i64)::(.int .i64)::qt 21 [])),h:=[.cells [(.int .i64),(.int .i64)]] }
def q4k:List Out:=[⟨(.exit 0),{ t:=((.imm [(.int .i64),(.sl [(.int .i64),(.int .i64)])])::qt 46 []),h:=[] }⟩,⟨.ret,{ t:=(qt 6 (.bool::(.int .i64)::(.int .i64)::qt 38 [])),h:=[] }⟩]
noncomputable def q78:List (FuncId×zM):=[(98,q9 q50 q4I jI),(99,q9 q2H q2I vX),(100,q9 q2i q2l wR),(101,q9 q7V q6u yZ)]
theorem qcT:∀x,x∈q78->qx prog qa x.1 x.2:=(alc q8J (alc q9I (alc q4e (alc q9T aln))))
noncomputable def q0s:=qe q78 [(50,f50)] [] 0
noncomputable def zH:=wT q0s 50 f50 10 q4z q4k
theorem qgt:qk prog qa q0s.nimp (qq prog q0s.iter 50) (z7 f50 10) (qh q4z q4k (qf zH)):=gk q0s qc q8 qcT aln (b1 func50) func50
noncomputable def qfK:=qe q78 [(50,f50)] [((50,10),qh q4z q4k (qf zH))] 0
noncomputable def jq:=qj qfK 50 f50 true q8l q8M
theorem ql9:qx prog qa 50 (q9 q8l q8M jq):=sk qfK qc q8 qcT (alc (lk func50 qgt) aln) (b1 func50) func50
def qeY:FIn:=⟨[(.imm [(.int .i64),(.sl [(.int .i64),(.int .i64)])]),(.agg [(.int .i64),(.int .i64)]),(.int .i64)],[]⟩
def qeI:List FOut:=[⟨(.tuple [.bool,(.int .i64)]),[],none⟩]
noncomputable def qlN:=qe [(98,q9 q50 q4I jI),(99,q9 q2H q2I vX),(101,q9 q7V q6u yZ),(102,q9 qbs qbl q1c)] [(51,f51)] [] 0
noncomputable def q09:=qj qlN 51 f51 true qeY qeI
theorem qqm:qx prog qa 51 (q9 qeY qeI q09):=sk qlN qc q8 (alc q8J (alc q9I (alc q9T (alc qi1 aln)))) aln (b1 func51) func51
def qji:FIn:=⟨[(.imm [(.int .i64),(.int .i64)])],[]⟩
def qjH:List FOut:=[⟨(.int .i64),[],none⟩]
noncomputable def qrd:=qe [(106,q9 vO vK qI)] [(160,f160)] [] 0
noncomputable def q9f:=qj qrd 160 f160 true qji qjH
theorem quh:qx prog qa 160 (q9 qji qjH q9f):=sk qrd qc q8 (alc vg aln) aln (b1 func160) func160
def qfg:FIn:=⟨[(.imm [.str])],[]⟩
def qeD:List FOut:=[⟨(.int .i64),[],none⟩]
def qaw:Tmpl:={ t:=(qt 6 ((.imm [.str])::(.int .i64)::(.int .i64)::qt 9 [])),h:=[] }
def qaf:List Out:=[⟨(.exit 0),{ t:=(qt 18 []),h:=[] }⟩,⟨.ret,{ t:=(.any::.any::(.int .i64)::qt 15 []),h:=[] }⟩]
noncomputable def q5a:=qe [(189,q9 yV u7 qQ)] [(161,f161)] [] 0
noncomputable def kw:=wT q5a 161 f161 3 qaw qaf
theorem qna:qk prog qa q5a.nimp (qq prog q5a.iter 161) (z7 f161 3) (qh qaw qaf (qf kw)):=gk q5a qc q8 (alc yl aln) aln (b1 func161) func161
noncomputable def qlW:=qe [(189,q9 yV u7 qQ)] [(161,f161)] [((161,3),qh qaw qaf (qf kw))] 0
noncomputable def q4Y:=qj qlW 161 f161 true qfg qeD
theorem qpC:qx prog qa 161 (q9 qfg qeD q4Y):=sk qlW qc q8 (alc yl aln) (alc (lk func161 qna) aln) (b1 func161) func161
def q28:FIn:=⟨[(.ptr 0 0),.str,(.int .i64)],[.cells [(.int .i64)]]⟩
def q2e:List FOut:=[⟨.str,[.cells [(.int .i64)]],none⟩]
noncomputable def qlR:=qe [] [(209,f209)] [] 1
noncomputable def wL:=qj qlR 209 f209 true q28 q2e
theorem q3X:qx prog qa 209 (q9 q28 q2e wL):=sk qlR qc q8 aln aln (b1 func209) func209
def q1Y:FIn:=⟨[(.ptr 0 0),.str,.str],[.cells [(.int .i64)]]⟩
def q1T:List FOut:=[⟨.bool,[.cells [(.int .i64)]],none⟩]
noncomputable def qid:=qe [(78,q9 ut un qP),(209,q9 q28 q2e wL)] [(164,f164)] [] 1
noncomputable def z8:=qj qid 164 f164 true q1Y q1T
theorem q5V:qx prog qa 164 (q9 q1Y q1T z8):=sk qid qc q8 (alc kG (alc q3X aln)) aln (b1 func164) func164
def q70:FIn:=⟨[(.ptr 0 0),.str,.str],[.cells [(.int .i64)]]⟩
def q79:List FOut:=[⟨.str,[.cells [(.int .i64)]],none⟩]
noncomputable def qiR:=qe [(209,q9 q28 q2e wL),(210,q9 qce qc9 zJ)] [(163,f163)] [] 1
noncomputable def vQ:=qj qiR 163 f163 true q70 q79
theorem qei:qx prog qa 163 (q9 q70 q79 vQ):=sk qiR qc q8 (alc q3X (alc q99 aln)) aln (b1 func163) func163
def q6M:FIn:=⟨[(.ptr 0 0),.str,.str],[.cells [(.int .i64)]]⟩
def q6C:List FOut:=[⟨.str,[.cells [(.int .i64)]],none⟩]
noncomputable def qiV:=qe [(77,q9 q5Z q5K wv),(209,q9 q28 q2e wL)] [(165,f165)] [] 1
noncomputable def zU:=qj qiV 165 f165 true q6M q6C
theorem qdW:qx prog qa 165 (q9 q6M q6C zU):=sk qiV qc q8 (alc q2f (alc q3X aln)) aln (b1 func165) func165
def qcS:FIn:=⟨[(.ptr 0 0),.str,.str],[.cells [(.int .i64)]]⟩
def qbU:List FOut:=[⟨.str,[.cells [(.int .i64)]],none⟩]
noncomputable def qjI:=qe [(209,q9 q28 q2e wL),(305,q9 q3D q3u jn)] [(261,f261)] [] 1
noncomputable def q3n:=qj qjI 261 f261 true qcS qbU
theorem qoh:qx prog qa 261 (q9 qcS qbU q3n):=sk qjI qc q8 (alc q3X (alc q2j aln)) aln (b1 func261) func261
def q31:FIn:=⟨[(.ptr 0 0),(.agg [(.int .i64),(.int .i64)]),(.agg [.str,.str])],[.cells [(.int .i64)]]⟩
def q2Q:List FOut:=[⟨.str,[.cells [(.int .i64)]],none⟩]
noncomputable def qdB:=qe [(53,q9 jK jG qw),(163,q9 q70 q79 vQ),(165,q9 q6M q6C zU),(261,q9 qcS qbU q3n)] [(208,f208)] [] 1
noncomputable def jV:=qj qdB 208 f208 true q31 q2Q
theorem q9y:qx prog qa 208 (q9 q31 q2Q jV):=sk qdB qc q8 (alc jf (alc qei (alc qdW (alc qoh aln)))) aln (b1 func208) func208
def qu9:FIn:=⟨[(.imm [(.int .i64),(.int .i64)]),(.agg [.str,.str])],[]⟩
def qsP:List FOut:=[⟨(.tuple [(.agg [.str,.str,.str,.str]),(.int .i64)]),[],none⟩]
def qn7:Tmpl:={ t:=(.any::.any::.any::(.ptr 0 0)::(.ptr 1 0)::.any::(.ptr 2 0)::(.ptr 3 0)::qt 7 ((.imm [(.int .i64),(.int .i64)])::(.int .i64)::(.int .i64)::qt 42 [])),h:=[.cells [.str,.str],.cells [.str,.str,.str,.str],.cells [(.int .i64)],.cells [.str,.str,.str,.str]] }
def qn9:List Out:=[⟨(.exit 0),{ t:=(qt 4 ((.ptr 1 0)::.any::(.ptr 2 0)::(.ptr 3 0)::qt 52 [])),h:=[.dead,.cells [.str,.str,.str,.str],.cells [(.int .i64)],.cells [.str,.str,.str,.str]] }⟩]
noncomputable def qhx:=qe [(164,q9 q1Y q1T z8),(208,q9 q31 q2Q jV)] [(162,f162)] [] 0
noncomputable def q8r:=wT qhx 162 f162 5 qn7 qn9
theorem qvM:qk prog qa qhx.nimp (qq prog qhx.iter 162) (z7 f162 5) (qh qn7 qn9 (qf q8r)):=gk qhx qc q8 (alc q5V (alc q9y aln)) aln (b1 func162) func162
noncomputable def qyM:=qe [(164,q9 q1Y q1T z8),(208,q9 q31 q2Q jV)] [(162,f162)] [((162,5),qh qn7 qn9 (qf q8r))] 0
noncomputable def qkx:=qj qyM 162 f162 true qu9 qsP
theorem qyG:qx prog qa 162 (q9 qu9 qsP qkx):=sk qyM qc q8 (alc q5V (alc q9y aln)) (alc (lk func162 qvM) aln) (b1 func162) func162
def qsU:FIn:=⟨[(.imm [(.int .i64),(.int .i64)]),(.agg [.str,.str])],[]⟩
def qtR:List FOut:=[⟨(.tuple [(.agg [.str,.str,.str,.str]),(.int .i64)]),[],none⟩]
noncomputable def qzc:=qe [(160,q9 qji qjH q9f),(161,q9 qfg qeD q4Y),(162,q9 qu9 qsP qkx)] [(103,f103)] [] 0
noncomputable def qjx:=qj qzc 103 f103 true qsU qtR
theorem qzg:qx prog qa 103 (q9 qsU qtR qjx):=sk qzc qc q8 (alc quh (alc qpC (alc qyG aln))) aln (b1 func103) func103
def qgx:FIn:=⟨[(.agg [.str,.str,.str,.str]),(.int .i64)],[]⟩
def qhi:List FOut:=[⟨(.tuple [.bool,(.int .i64)]),[],none⟩]
noncomputable def qoP:=qe [(53,q9 jK jG qw),(163,q9 q70 q79 vQ),(164,q9 q1Y q1T z8),(165,q9 q6M q6C zU)] [(104,f104)] [] 0
noncomputable def q7t:=qj qoP 104 f104 true qgx qhi
theorem qrO:qx prog qa 104 (q9 qgx qhi q7t):=sk qoP qc q8 (alc jf (alc qei (alc q5V (alc qdW aln)))) aln (b1 func104) func104
def qj2:FIn:=⟨[(.imm [(.int .i64),(.int .i64)]),(.agg [.str,.str]),(.int .i64)],[]⟩
def qkh:List FOut:=[⟨(.tuple [.bool,(.int .i64)]),[],none⟩]
noncomputable def qr6:=qe [(103,q9 qsU qtR qjx),(104,q9 qgx qhi q7t)] [(52,f52)] [] 0
noncomputable def q9L:=qj qr6 52 f52 true qj2 qkh
theorem qsr:qx prog qa 52 (q9 qj2 qkh q9L):=sk qr6 qc q8 (alc qzg (alc qrO aln)) aln (b1 func52) func52
def q5X:FIn:=⟨[(.imm [(.int .i64),(.int .i64)]),(.agg [(.int .i64),(.int .i64)]),(.int .u16)],[]⟩
def q5D:List FOut:=[⟨.bool,[],none⟩]
noncomputable def zA:=qe [(26,q9 qgz qhg q1y),(29,q9 qb2 qb5 u5),(48,q9 q3W q40 vW),(49,q9 q95 q8Z jF),(50,q9 q8l q8M jq),(51,q9 qeY qeI q09),(52,q9 qj2 qkh q9L),(53,q9 jK jG qw)] [(11,f11)] [] 0
noncomputable def uI:=qj zA 11 f11 true q5X q5D
theorem qiI:qx prog qa 11 (q9 q5X q5D uI):=sk zA qc q8 (alc qm2 (alc qhV (alc q5j (alc qg7 (alc ql9 (alc qqm (alc qsr (alc jf aln)))))))) aln (b1 func11) func11
def qeu:FIn:=⟨[(.imm [(.int .i64),(.int .i64)]),(.agg [(.int .i64),(.int .i64)])],[]⟩
def qeQ:List FOut:=[⟨(.tuple [(.int .i64),(.int .i64),(.int .i64)]),[],none⟩]
noncomputable def qlX:=qe [(100,q9 q2i q2l wR),(106,q9 vO vK qI),(107,q9 q96 q9a kY)] [(54,f54)] [] 0
noncomputable def q4Z:=qj qlX 54 f54 true qeu qeQ
theorem qqt:qx prog qa 54 (q9 qeu qeQ q4Z):=sk qlX qc q8 (alc q4e (alc vg (alc qg5 aln))) aln (b1 func54) func54
def qcw:FIn:=⟨[(.imm [(.int .i64),(.int .i64)]),.bool],[]⟩
def qdb:List FOut:=[⟨(.int .i64),[],none⟩]
def q3a:Tmpl:={ t:=(.yld::(.ptr 1 0)::(.ptr 2 0)::.any::.any::.any::(.imm [(.int .i64),(.int .i64)])::(.int .i64)::(.int .i64)::qt 28 []),h:=[.cells [(.int .i64)],.cells [(.imm [(.int .i64),(.int .i64)])],.cells [.bool]],fs:=[[.any,.any,.any,.any,(.ptr 0 0),.any,.any,.any,.any,.any,.any,.any,.any,.any,.any,.any,.any,.any,.any,.any,.any,.any,.any,.any,.any,.any,(.fn 212 [] [(.ptr 1 0),(.ptr 2 0)]),.any,.any,.any,.any,.any,.any,.any],[]] }
def q39:List Out:=[⟨(.exit 0),{ t:=(qt 37 []),h:=[.cells [(.int .i64)],.cells [(.imm [(.int .i64),(.int .i64)])],.cells [.bool]],fs:=[[.any,.any,.any,.any,(.ptr 0 0),.any,.any,.any,.any,.any,.any,.any,.any,.any,.any,.any,.any,.any,.any,.any,.any,.any,.any,.any,.any,.any,(.fn 212 [] [(.ptr 1 0),(.ptr 2 0)]),.any,.any,.any,.any,.any,.any,.any],[]] }⟩,⟨.ret,{ t:=(qt 37 []),h:=[.cells [(.int .i64)],.cells [(.imm [(.int .i64),(.int .i64)])],.cells [.bool]],fs:=[[.any,.any,.any,.any,(.ptr 0 0),.any,.any,.any,.any,.any,.any,.any,.any,.any,.any,.any,.any,.any,.any,.any,.any,.any,.any,.any,.any,.any,(.fn 212 [] [(.ptr 1 0),(.ptr 2 0)]),.any,.any,.any,.any,.any,.any,.any],[]],pend:=(.some .ret) }⟩,⟨.ret,{ t:=(qt 37 []),h:=[.cells [(.int .i64)],.cells [(.imm [(.int .i64),(.int .i64)])],.cells [.bool]],fs:=[[.any,.any,.any,.any,(.ptr 0 0),.any,.any,.any,.any,.any,.any,.any,.any,.any,.any,.any,.any,.any,.any,.any,.any,.any,.any,.any,.any,.any,(.fn 212 [] [(.ptr 1 0),(.ptr 2 0)]),.any,.any,.any,.any,.any,.any,.any],[]] }⟩]
noncomputable def kP:Env:={ tt:=q1l,glob:=qa,spec:=[(106,q9 vO vK qI)],body:=[(108,f108),(168,f168),(212,f212)],loops:=[],nimp:=0,iter:=[(212,108,10)] }
noncomputable def vn:=qtJ kP (some (108,f108,10)) 212 f212 1 q3a q39
theorem qge:qk prog qa kP.nimp (qq prog kP.iter 212) (z7 f212 1) (qh q3a q39 (qf vn)):=q36 (E:=kP) qc ⟨um q8,⟨(alc vg aln),aln⟩,aln,(alc (bk func108) (alc (bk func168) (alc (bk func212) aln)))⟩ func212 (by kernel_rfl) (y:=some (108,f108,10)) ⟨func108,by kernel_rfl⟩ (by kernel_rfl) (by kernel_rfl) (fun _=>rfl)
noncomputable def qk1:Env:={ tt:=q1l,glob:=qa,spec:=[(106,q9 vO vK qI)],body:=[(108,f108),(168,f168),(212,f212)],loops:=[((212,1),qh q3a q39 (qf vn))],nimp:=0,iter:=[(212,108,10)] }
noncomputable def q3j:=qj qk1 108 f108 true qcw qdb
theorem qoV:qx prog qa 108 (q9 qcw qdb q3j):=sk qk1 qc q8 (alc vg aln) (alc (lk func212 qge) aln) (alc (bk func108) (alc (bk func168) (alc (bk func212) aln))) func108
def q4r:FIn:=⟨[(.imm [(.int .i64)])],[]⟩
def q4j:List FOut:=[⟨(.int .i64),[],none⟩]
def q2n:Tmpl:={ t:=(qt 5 ((.imm [(.int .i64)])::(.int .i64)::(.int .i64)::qt 10 [])),h:=[] }
def q2C:List Out:=[⟨(.exit 0),{ t:=(qt 18 []),h:=[] }⟩,⟨.ret,{ t:=(.any::.any::(.int .i64)::qt 15 []),h:=[] }⟩]
noncomputable def uO:=qe [] [(109,f109)] [] 0
noncomputable def wG:=wT uO 109 f109 3 q2n q2C
theorem qeE:qk prog qa uO.nimp (qq prog uO.iter 109) (z7 f109 3) (qh q2n q2C (qf wG)):=gk uO qc q8 aln aln (b1 func109) func109
noncomputable def qaQ:=qe [] [(109,f109)] [((109,3),qh q2n q2C (qf wG))] 0
noncomputable def yK:=qj qaQ 109 f109 true q4r q4j
theorem qgw:qx prog qa 109 (q9 q4r q4j yK):=sk qaQ qc q8 aln (alc (lk func109 qeE) aln) (b1 func109) func109
def qdz:FIn:=⟨[.str,.str],[]⟩
def qdM:List FOut:=[⟨(.tuple [.str,(.int .i64)]),[],none⟩]
def qez:Tmpl:={ t:=(.str::.str::qt 11 ((.vec 0)::(.int .i64)::(.int .i64)::qt 27 [])),h:=[.vec 183 [.str]] }
def qes:List Out:=[⟨(.exit 0),{ t:=(.str::.str::qt 41 []),h:=[] }⟩,⟨.ret,{ t:=(qt 4 (.str::(.int .i64)::qt 37 [])),h:=[] }⟩]
noncomputable def q8V:=qe [(186,q9 zX zT qB),(242,q9 jH jz qG)] [(213,f213)] [] 0
noncomputable def q29:=wT q8V 213 f213 3 qez qes
theorem qqI:qk prog qa q8V.nimp (qq prog q8V.iter 213) (z7 f213 3) (qh qez qes (qf q29)):=gk q8V qc q8 (alc wI (alc je aln)) aln (b1 func213) func213
noncomputable def qqX:=qe [(186,q9 zX zT qB),(242,q9 jH jz qG)] [(213,f213)] [((213,3),qh qez qes (qf q29))] 0
noncomputable def q3w:=qj qqX 213 f213 true qdz qdM
theorem qjo:qx prog qa 213 (q9 qdz qdM q3w):=sk qqX qc q8 (alc wI (alc je aln)) (alc (lk func213 qqI) aln) (b1 func213) func213
def qqA:FIn:=⟨[(.int .i64),(.int .i64)],[]⟩
def qqk:List FOut:=[⟨(.tuple [.str,(.int .i64)]),[],none⟩]
noncomputable def qwn:=qe [(105,q9 q4a q3R za),(213,q9 qdz qdM q3w)] [(169,f169)] [] 0
noncomputable def qbN:=qj qwn 169 f169 true qqA qqk
theorem qyg:qx prog qa 169 (q9 qqA qqk qbN):=sk qwn qc q8 (alc q1h (alc qjo aln)) aln (b1 func169) func169
def q3e:FIn:=⟨[.str,.str],[]⟩
def q3A:List FOut:=[⟨(.int .i64),[],none⟩]
noncomputable def qj6:=qe [(78,q9 ut un qP)] [(171,f171)] [] 0
noncomputable def jQ:=qj qj6 171 f171 true q3e q3A
theorem q6v:qx prog qa 171 (q9 q3e q3A jQ):=sk qj6 qc q8 (alc kG aln) aln (b1 func171) func171
def q6x:FIn:=⟨[.str,(.ptr 0 0)],[.cells [.str]]⟩
def q6J:List FOut:=[⟨.bool,[.cells [.str]],none⟩]
noncomputable def qed:=qe [(171,q9 q3e q3A jQ)] [(170,f170)] [] 1
noncomputable def kL:=qj qed 170 f170 true q6x q6J
theorem qj7:qx prog qa 170 (q9 q6x q6J kL):=sk qed qc q8 (alc q6v aln) aln (b1 func170) func170
def qao:FIn:=⟨[(.int .i64),.str],[]⟩
def q9P:List FOut:=[⟨(.tuple [.str,(.int .i64)]),[],none⟩]
noncomputable def qhU:=qe [(105,q9 q4a q3R za),(188,q9 q8m q8d q1j),(213,q9 qdz qdM q3w)] [(310,f310)] [] 0
noncomputable def q21:=qj qhU 310 f310 true qao q9P
theorem qnv:qx prog qa 310 (q9 qao q9P q21):=sk qhU qc q8 (alc q1h (alc q91 (alc qjo aln))) aln (b1 func310) func310
def q5W:FIn:=⟨[(.agg [(.int .i64),(.int .i64)]),(.agg [(.int .i64),(.int .i64)])],[]⟩
def q5B:List FOut:=[⟨(.int .i64),[],none⟩]
noncomputable def qd8:=qe [] [(371,f371)] [] 0
noncomputable def uA:=qj qd8 371 f371 true q5W q5B
theorem qiv:qx prog qa 371 (q9 q5W q5B uA):=sk qd8 qc q8 aln aln (b1 func371) func371
def qeF:FIn:=⟨[(.agg [(.int .i64),(.int .i64)]),(.agg [(.int .i64),(.int .i64)]),(.agg [(.int .i64),(.int .i64)])],[]⟩
def qfq:List FOut:=[⟨(.int .i64),[],none⟩]
noncomputable def qm1:=qe [(85,q9 qdg qch yA),(371,q9 q5W q5B uA)] [(311,f311)] [] 0
noncomputable def q4T:=qj qm1 311 f311 true qeF qfq
theorem qqg:qx prog qa 311 (q9 qeF qfq q4T):=sk qm1 qc q8 (alc qft (alc qiv aln)) aln (b1 func311) func311
def qcY:FIn:=⟨[(.agg [(.int .i64),(.int .i64)]),(.agg [(.int .i64),(.int .i64)]),(.agg [(.int .i64),(.int .i64)])],[]⟩
def qcN:List FOut:=[⟨(.tuple [.str,(.int .i64)]),[],none⟩]
noncomputable def qjm:=qe [(83,q9 jm jj qM),(84,q9 ky kW jB),(85,q9 qdg qch yA),(86,q9 q2O q2U zq),(105,q9 q4a q3R za),(310,q9 qao q9P q21),(311,q9 qeF qfq q4T)] [(264,f264)] [] 0
noncomputable def q3E:=qj qjm 264 f264 true qcY qcN
theorem qnK:qx prog qa 264 (q9 qcY qcN q3E):=sk qjm qc q8 (alc q02 (alc ki (alc qft (alc q9q (alc q1h (alc qnv (alc qqg aln))))))) aln (b1 func264) func264
def q2K:FIn:=⟨[(.agg [(.int .i64),(.int .i64)]),(.agg [(.int .i64),(.int .i64)]),(.agg [(.int .i64),(.int .i64)])],[]⟩
def q2J:List FOut:=[⟨(.tuple [.str,(.int .i64)]),[],none⟩]
noncomputable def qdF:=qe [(53,q9 jK jG qw),(83,q9 jm jj qM),(84,q9 ky kW jB),(85,q9 qdg qch yA),(86,q9 q2O q2U zq),(264,q9 qcY qcN q3E)] [(214,f214)] [] 0
noncomputable def jX:=qj qdF 214 f214 true q2K q2J
theorem q9H:qx prog qa 214 (q9 q2K q2J jX):=sk qdF qc q8 (alc jf (alc q02 (alc ki (alc qft (alc q9q (alc qnK aln)))))) aln (b1 func214) func214
def q8h:FIn:=⟨[(.imm [(.int .i64),(.int .i64)]),.bool,(.agg [(.int .i64),(.int .i64)])],[]⟩
def q8p:List FOut:=[⟨(.tuple [.str,(.int .i64),(.int .i64)]),[],none⟩]
def q1G:Tmpl:={ t:=(.yld::(.ptr 6 0)::(.ptr 7 0)::.any::.any::.any::(.imm [(.int .i64),(.int .i64)])::(.int .i64)::(.int .i64)::qt 28 []),h:=[.cells [(.int .i64),(.int .i64)],.cells [.str],.cells [(.int .i64)],.cells [(.int .i64)],.cells [.str],.cells [(.int .i64)],.cells [(.imm [(.int .i64),(.int .i64)])],.cells [.bool]],fs:=[[.any,.any,.any,.any,.any,(.ptr 0 0),(.ptr 1 0),(.ptr 2 0),(.ptr 3 0),(.ptr 4 0),(.ptr 5 0),.any,.any,.any,.any,.any,.any,(.fn 212 [] [(.ptr 6 0),(.ptr 7 0)]),.any,.any,.any,.any,.any,.any,.any,.any,.any,.any,.any,.any,.any,.any,.any,.any,.any,.any,.any,.any,.any,.any,.any,.any,.any,.any],[]] }
def q1g:List Out:=[⟨(.exit 0),{ t:=(qt 37 []),h:=[.cells [(.int .i64),(.int .i64)],.cells [.str],.cells [(.int .i64)],.cells [(.int .i64)],.cells [.str],.cells [(.int .i64)],.cells [(.imm [(.int .i64),(.int .i64)])],.cells [.bool]],fs:=[[.any,.any,.any,.any,.any,(.ptr 0 0),(.ptr 1 0),(.ptr 2 0),(.ptr 3 0),(.ptr 4 0),(.ptr 5 0),.any,.any,.any,.any,.any,.any,(.fn 212 [] [(.ptr 6 0),(.ptr 7 0)]),.any,.any,.any,.any,.any,.any,.any,.any,.any,.any,.any,.any,.any,.any,.any,.any,.any,.any,.any,.any,.any,.any,.any,.any,.any,.any],[]] }⟩,⟨.ret,{ t:=(qt 37 []),h:=[.cells [(.int .i64),(.int .i64)],.cells [.str],.cells [(.int .i64)],.cells [(.int .i64)],.cells [.str],.cells [(.int .i64)],.cells [(.imm [(.int .i64),(.int .i64)])],.cells [.bool]],fs:=[[.any,.any,.any,.any,.any,(.ptr 0 0),(.ptr 1 0),(.ptr 2 0),(.ptr 3 0),(.ptr 4 0),(.ptr 5 0),.any,.any,.any,.any,.any,.any,(.fn 212 [] [(.ptr 6 0),(.ptr 7 0)]),.any,.any,.any,.any,.any,.any,.any,.any,.any,.any,.any,.any,.any,.any,.any,.any,.any,.any,.any,.any,.any,.any,.any,.any,.any,.any],[]],pend:=(.some .ret) }⟩,⟨.ret,{ t:=(qt 37 []),h:=[.cells [(.int .i64),(.int .i64)],.cells [.str],.cells [(.int .i64)],.cells [(.int .i64)],.cells [.str],.cells [(.int .i64)],.cells [(.imm [(.int .i64),(.int .i64)])],.cells [.bool]],fs:=[[.any,.any,.any,.any,.any,(.ptr 0 0),(.ptr 1 0),(.ptr 2 0),(.ptr 3 0),(.ptr 4 0),(.ptr 5 0),.any,.any,.any,.any,.any,.any,(.fn 212 [] [(.ptr 6 0),(.ptr 7 0)]),.any,.any,.any,.any,.any,.any,.any,.any,.any,.any,.any,.any,.any,.any,.any,.any,.any,.any,.any,.any,.any,.any,.any,.any,.any,.any],[]] }⟩]
noncomputable def yU:Env:={ tt:=q1l,glob:=qa,spec:=[(171,q9 q3e q3A jQ),(214,q9 q2K q2J jX)],body:=[(172,f172),(168,f168),(212,f212)],loops:=[],nimp:=0,iter:=[(212,172,4)] }
noncomputable def wi:=qtJ yU (some (172,f172,4)) 212 f212 1 q1G q1g
theorem qdu:qk prog qa yU.nimp (qq prog yU.iter 212) (z7 f212 1) (qh q1G q1g (qf wi)):=q36 (E:=yU) qc ⟨um q8,⟨(alc q6v (alc q9H aln)),aln⟩,aln,(alc (bk func172) (alc (bk func168) (alc (bk func212) aln)))⟩ func212 (by kernel_rfl) (y:=some (172,f172,4)) ⟨func172,by kernel_rfl⟩ (by kernel_rfl) (by kernel_rfl) (fun _=>rfl)
noncomputable def qg9:Env:={ tt:=q1l,glob:=qa,spec:=[(171,q9 q3e q3A jQ),(214,q9 q2K q2J jX)],body:=[(172,f172),(168,f168),(212,f212)],loops:=[((212,1),qh q1G q1g (qf wi))],nimp:=0,iter:=[(212,172,4)] }
noncomputable def q0I:=qj qg9 172 f172 true q8h q8p
theorem qlh:qx prog qa 172 (q9 q8h q8p q0I):=sk qg9 qc q8 (alc q6v (alc q9H aln)) (alc (lk func212 qdu) aln) (alc (bk func172) (alc (bk func168) (alc (bk func212) aln))) func172
def q8A:FIn:=⟨[(.imm [(.int .i64),(.int .i64)]),.bool,(.imm [(.int .i64),(.int .i64)]),(.int .i64)],[]⟩
def q8y:List FOut:=[⟨(.tuple [(.imm [(.int .i64)]),(.int .i64)]),[],none⟩]
def q1x:Tmpl:={ t:=((.imm [(.int .i64),(.int .i64)])::.bool::.any::(.fn 112 [] [(.ptr 2 0)])::qt 6 ((.vec 3)::qt 5 ((.imm [(.int .i64),(.int .i64)])::(.int .i64)::(.int .i64)::qt 25 []))),h:=[.frz 3 [(.int .i64)],.cells [.str],.cells [(.fn 170 [] [(.ptr 1 0)])],.vec 3 [(.int .i64)]],pro:=[(10,3,[(.int .i64)])],fs:=[[(.imm [(.int .i64),(.int .i64)]),.bool,(.imm [(.int .i64),(.int .i64)]),(.int .i64),.any,.any,.any,.any,.nils,(.int .i64),(.int .i64),(.int .i64),(.int .i64),(.ptr 2 0),(.imm [(.int .i64),(.int .i64)]),.bool,(.int .i64),(.int .i64),(.blit false),.any,(.imm [(.int .i64),(.int .i64)]),(.int .i64),(.int .i64),(.blit false),.any,(.int .i64),(.vec 0),(.int .i64),(.int .i64),(.blit false),.any,(.int .i64),(.fn 170 [] [(.ptr 1 0)]),(.imm [(.int .i64),(.int .i64)]),.bool,(.imm [(.int .i64),(.int .i64)]),(.fn 112 [] [(.ptr 2 0)]),.any,.any,.any],[]] }
def q1C:List Out:=[⟨(.exit 0),{ t:=(qt 10 ((.vec 3)::qt 33 [])),h:=[.frz 3 [(.int .i64)],.cells [.str],.cells [(.fn 170 [] [(.ptr 1 0)])],.vec 3 [(.int .i64)]],fs:=[[(.imm [(.int .i64),(.int .i64)]),.bool,(.imm [(.int .i64),(.int .i64)]),(.int .i64),.any,.any,.any,.any,.nils,(.int .i64),(.int .i64),(.int .i64),(.int .i64),(.ptr 2 0),(.imm [(.int .i64),(.int .i64)]),.bool,(.int .i64),(.int .i64),(.blit false),.any,(.imm [(.int .i64),(.int .i64)]),(.int .i64),(.int .i64),(.blit false),.any,(.int .i64),(.vec 0),(.int .i64),(.int .i64),(.blit false),.any,(.int .i64),(.fn 170 [] [(.ptr 1 0)]),(.imm [(.int .i64),(.int .i64)]),.bool,(.imm [(.int .i64),(.int .i64)]),(.fn 112 [] [(.ptr 2 0)]),.any,.any,.any],[]] }⟩,⟨.ret,{ t:=(qt 8 (.nils::(.int .i64)::qt 34 [])),h:=[.frz 3 [(.int .i64)],.cells [.str],.cells [(.fn 170 [] [(.ptr 1 0)])]],fs:=[[(.imm [(.int .i64),(.int .i64)]),.bool,(.imm [(.int .i64),(.int .i64)]),(.int .i64),.any,.any,.any,.any,.nils,(.int .i64),(.int .i64),(.int .i64),(.int .i64),(.ptr 2 0),(.imm [(.int .i64),(.int .i64)]),.bool,(.int .i64),(.int .i64),(.blit false),.any,(.imm [(.int .i64),(.int .i64)]),(.int .i64),(.int .i64),(.blit false),.any,(.int .i64),(.vec 0),(.int .i64),(.int .i64),(.blit false),.any,(.int .i64),(.fn 170 [] [(.ptr 1 0)]),(.imm [(.int .i64),(.int .i64)]),.bool,(.imm [(.int .i64),(.int .i64)]),(.fn 112 [] [(.ptr 2 0)]),.any,.any,.any],[]] }⟩]
noncomputable def q7F:List (FuncId×zM):=[(106,q9 vO vK qI),(108,q9 qcw qdb q3j),(109,q9 q4r q4j yK),(169,q9 qqA qqk qbN),(170,q9 q6x q6J kL),(172,q9 q8h q8p q0I)]
theorem qcg:∀x,x∈q7F->qx prog qa x.1 x.2:=(alc vg (alc qoV (alc qgw (alc qyg (alc qj7 (alc qlh aln))))))
noncomputable def yQ:=qe q7F [(55,f55),(110,f110),(111,f111),(112,f112)] [] 0
noncomputable def we:=wT yQ 111 f111 4 q1x q1C
theorem qdv:qk prog qa yQ.nimp (qq prog yQ.iter 111) (z7 f111 4) (qh q1x q1C (qf we)):=gk yQ qc q8 qcg aln (alc (bk func55) (alc (bk func110) (alc (bk func111) (alc (bk func112) aln)))) func111
noncomputable def qfG:=qe q7F [(55,f55),(110,f110),(111,f111),(112,f112)] [((111,4),qh q1x q1C (qf we))] 0
noncomputable def q0Y:=qj qfG 55 f55 true q8A q8y
theorem qlo:qx prog qa 55 (q9 q8A q8y q0Y):=sk qfG qc q8 qcg (alc (lk func111 qdv) aln) (alc (bk func55) (alc (bk func110) (alc (bk func111) (alc (bk func112) aln)))) func55
def q72:FIn:=⟨[(.imm [(.int .i64),(.int .i64)]),(.agg [(.int .i64),(.int .i64)]),(.int .u16)],[]⟩
def q6z:List FOut:=[⟨.bool,[],none⟩]
noncomputable def zN:=qe [(26,q9 qgz qhg q1y),(27,q9 qfQ qgf jS),(29,q9 qb2 qb5 u5),(48,q9 q3W q40 vW),(49,q9 q95 q8Z jF),(54,q9 qeu qeQ q4Z),(55,q9 q8A q8y q0Y)] [(12,f12)] [] 0
noncomputable def kS:=qj zN 12 f12 true q72 q6z
theorem qj1:qx prog qa 12 (q9 q72 q6z kS):=sk zN qc q8 (alc qm2 (alc qhl (alc qhV (alc q5j (alc qg7 (alc qqt (alc qlo aln))))))) aln (b1 func12) func12
end Go.Eng

namespace Go.Eng
abbrev qO8(r t:TR):TR:=.br (okR r) t .fail
abbrev qO9(c:Bool)(t:TR):TR:=.br c t .fail
abbrev qOa(l:List PV):TR:=.leaf (0,l)
variable (a0 a1 a2 a3 a4 a5 a6 a7 a8 a9 a10 a11 a12 a13 a14 a15 a17 a24 a26 a27 a29:R)
variable (c0 c1 c2 c3 c4 c5 c6 c7 c8 c9 c10 c11 c12 c13 c15 c16 c18 c19 c20 c21 c22 c23:Int)
variable (d0 d1 d2 d3 d4 d5 d6 d7 d8 d10 d11 d14 d25:Bool)
variable (e0 e1 e2 e3 e4 e5 e6 e7 e8 e9 e10 e11 e12 e13 e14 e28:qOb)
theorem qqv:kp [.r a0]=(.br (ile (qg a0) 6) (qOa [.b true]) (.br (ilt 64 (qg a0)) (qOa [.b (ilt (qg a0) 128)]) (qOa [.b false]))):=by kernel_rfl
theorem qpW:yt [.i c0,.r a1,.r a2]=(let r0:=kp [.r a1];qO8 r0 (.br (gB r0 0) (let r1:=kp [.r a2];qO8 r1 (qOa [.b (gB r1 0)])) (qOa [.b false]))):=by kernel_rfl
theorem qrK:qU [.i c0]=(.br (ile (-100000) c0) (qOa [.b (ile c0 100000)]) (qOa [.b false])):=by kernel_rfl
theorem quP:yM [.i c0,.i c1,.i c2]=(qO8 (qU [.i c0]) (.br (gB (qU [.i c0]) 0) (qO8 (qU [.i c1]) (.br (gB (qU [.i c1]) 0) (qO8 (qU [.i c2]) (qOa [.b (gB (qU [.i c2]) 0)])) (qOa [.b false]))) (qOa [.b false]))):=by kernel_rfl
theorem q6i:zx [.r a0,.i c1,.i c2]=(.br (ilt c2 c1) (qO9 (inb c2 (qg a0)) (let r0:=yM [.i (cI a0 c2 0),.i (cI a0 c2 1),.i (cI a0 c2 2)];qO8 r0 (.br (not (gB r0 0)) (.leaf (2,[.i 2])) (qOa [.r a0,.i c1,.i (qu .i64 c2 1)])))) (.leaf (1,[]))):=by kernel_rfl
theorem qiy:zu [.r a0]=(let r0:=qf zx [.r a0,.i (qg a0),.i 0];qO8 r0 (.br (jIs r0 0) (qOa [.i 0]) (qOa [.i (gI r0 0)]))):=by kernel_rfl
theorem qdk:wM [.r a0]=(.br (ilt 64 (qg a0)) (qOa [.i 5]) (let r0:=zu [.r a0];qO8 r0 (qOa [.i (gI r0 0)]))):=by kernel_rfl
theorem qlk:wY [.r a0]=(let r0:=wM [.r a0];qO8 r0 (qOa [.i (gI r0 0)])):=by kernel_rfl
theorem qjS:qF [.i c0,.i c1,.i c2,.i c3]=(qO9 (inb c3 3) (qOa [.i (qsm [c0,c1,c2] c3),.i c3])):=by kernel_rfl
theorem q3F:zv [.r a0,.r a1,.i c2,.i c3,.i c4,.i c5,.i c6,.i c7,.i c8]=(let t0:=qF [.i (cI a1 c3 0),.i (cI a1 c3 1),.i (cI a1 c3 2),.i c4];let t1:=qF [.i (cI a0 c7 0),.i (cI a0 c7 1),.i (cI a0 c7 2),.i (gI t0 1)];let t2:=qF [.i (cI a1 c3 0),.i (cI a1 c3 1),.i (cI a1 c3 2),.i (gI t1 1)];let t3:=qF [.i (cI a0 c8 0),.i (cI a0 c8 1),.i (cI a0 c8 2),.i (gI t2 1)];let b0:Bool:=(ilt (gI t3 0) (gI t2 0));let i0:Int:=(gI t3 1);let i1:Int:=(qu .i64 c3 1);let p0:List PV:=[.i c5,.i c6,.i c7,.i c8];(.br (ilt c3 c2) (qO9 (inb c3 (qg a1)) (qO8 t0 (qO9 (inb c7 (qg a0)) (qO8 t1 (.br (ilt (gI t0 0) (gI t1 0)) (qO8 t2 (qO9 (inb c8 (qg a0)) (qO8 t3 (.br b0 (qOa [.r a0,.r a1,.i c2,.i i1,.i i0,.i c5,.i c6,.i c3,.i c3]) (qOa [.r a0,.r a1,.i c2,.i i1,.i i0,.i c5,.i c6,.i c3,.i c8]))))) (qO8 t2 (qO9 (inb c8 (qg a0)) (qO8 t3 (.br b0 (qOa [.r a0,.r a1,.i c2,.i i1,.i i0,.i c5,.i c6,.i c7,.i c3]) (qOa ((.r a0)::(.r a1)::(.i c2)::(.i i1)::(.i i0)::p0))))))))))) (.leaf (1,((.i c4)::p0))))):=by kernel_rfl
theorem qfa:vb [.r a0,.i c1]=(let r0:=qf zv [.r a0,.r a0,.i (qg a0),.i 0,.i c1,.i 0,.i 0,.i 0,.i 0];qO8 r0 (qOa [.i (gI r0 3),.i (gI r0 4),.i (gI r0 0)])):=by kernel_rfl
theorem qn2:zn [.r a0,.i c1]=(let r0:=vb [.r a0,.i c1];qO8 r0 (qO9 (inb (gI r0 0) (qg a0)) (let r1:=qF [.i (cI a0 (gI r0 0) 0),.i (cI a0 (gI r0 0) 1),.i (cI a0 (gI r0 0) 2),.i (gI r0 2)];qO8 r1 (qO9 (inb (gI r0 1) (qg a0)) (let r2:=qF [.i (cI a0 (gI r0 1) 0),.i (cI a0 (gI r0 1) 1),.i (cI a0 (gI r0 1) 2),.i (gI r1 1)];qO8 r2 (qOa [.i (gI r1 0),.i (gI r2 0)])))))):=by kernel_rfl
theorem qiQ:jD [.r a0,.r a1,.i c2,.i c3,.r a4,.r a5]=(.br (ilt c2 2) (.br (ieq c2 0) (.br (ieq (qg a0) 0) (.leaf (2,[.i 13])) (let r0:=wY [.r a0];qO8 r0 (.br (ine (gI r0 0) 0) (.leaf (2,[.i (gI r0 0)])) (qOa [.r a0,.r a1,.i (qu .i64 c2 1),.i c3,.r a4,.r a5])))) (qO9 (ieq c2 1) (.br (ieq (qg a1) 0) (.leaf (2,[.i 13])) (let r0:=wY [.r a1];qO8 r0 (.br (ine (gI r0 0) 0) (.leaf (2,[.i (gI r0 0)])) (qOa [.r a0,.r a1,.i (qu .i64 c2 1),.i c3,.r a4,.r a5])))))) (.leaf (1,[.i c3,.r a4,.r a5]))):=by kernel_rfl
theorem qya:jN [.i c0,.r a1,.r a2]=(.br (ilt c0 0) (qOa [.i 1]) (.br (ile 3 c0) (qOa [.i 1]) (let r0:=qf jD [.r a1,.r a2,.i 0,.i c0,.r a1,.r a2];qO8 r0 (.br (jIs r0 0) (let r1:=zn [.r (gR r0 1),.i (gI r0 0)];qO8 r1 (let r2:=zn [.r (gR r0 2),.i (gI r0 0)];qO8 r2 (.br (ile (gI r2 0) (gI r1 1)) (qOa [.i 9]) (qOa [.i 0])))) (qOa [.i (gI r0 0)]))))):=by kernel_rfl
theorem qvk:yX [.i c0,.r a1,.r a2]=(let r0:=zn [.r a1,.i c0];qO8 r0 (let r1:=zn [.r a2,.i c0];qO8 r1 (qOa [.i (yC .i64 (gI r1 0) (gI r0 1)),.i (yC .i64 (gI r1 1) (gI r0 0))]))):=by kernel_rfl
theorem qve:yP [.i c0,.r a1,.r a2,.b d3]=(let p0:List PV:=[.i c0,.r a1,.r a2];let t0:=yX p0;(qO8 (jN p0) (.br (ine (gI (jN p0) 0) 0) (qOa [.i 0,.i (gI (jN p0) 0)]) (.br d3 (qO8 t0 (qOa [.i (gI t0 0),.i 0])) (qO8 t0 (qOa [.i (gI t0 1),.i 0])))))):=by kernel_rfl
theorem quV:q7p [.i c0,.r a1,.r a2]=(let r0:=jN [.i c0,.r a1,.r a2];qO8 r0 (.br (ine (gI r0 0) 0) (qOa [.i 0,.i 0,.i (gI r0 0)]) (let r1:=yX [.i c0,.r a1,.r a2];qO8 r1 (qOa [.i (gI r1 0),.i (gI r1 1),.i 0])))):=by kernel_rfl
theorem qBP:za [.i c0]=(qO8 (q4Q [.i c0]) (qOa [.s (gS (q4Q [.i c0]) 0)])):=by kernel_rfl
theorem qvQ:qw [.i c0]=(qO8 (za [.i c0]) (qOa [.s (gS (za [.i c0]) 0)])):=by kernel_rfl
theorem qvo:jB [.i c0,.i c1]=(qO8 (qU [.i c0]) (.br (gB (qU [.i c0]) 0) (qO8 (qU [.i c1]) (qOa [.b (gB (qU [.i c1]) 0)])) (qOa [.b false]))):=by kernel_rfl
theorem q4G:zk [.r a0,.i c1,.i c2]=(.br (ilt c2 c1) (qO9 (inb c2 (qg a0)) (let r0:=jB [.i (cI a0 c2 0),.i (cI a0 c2 1)];qO8 r0 (.br (not (gB r0 0)) (.leaf (2,[.i 2])) (qOa [.r a0,.i c1,.i (qu .i64 c2 1)])))) (.leaf (1,[]))):=by kernel_rfl
theorem qhw:qM [.r a0]=(let r0:=qf zk [.r a0,.i (qg a0),.i 0];qO8 r0 (.br (jIs r0 0) (qOa [.i 0]) (qOa [.i (gI r0 0)]))):=by kernel_rfl
theorem qbY:wo [.r a0]=(.br (ilt 64 (qg a0)) (qOa [.i 5]) (let r0:=qM [.r a0];qO8 r0 (qOa [.i (gI r0 0)]))):=by kernel_rfl
theorem qt7:qI [.r a0]=(let r0:=wo [.r a0];qO8 r0 (qOa [.i (gI r0 0)])):=by kernel_rfl
theorem que:q55 [.i c0]=(.br (ieq c0 0) (qOa [.i 13]) (qOa [.i 0])):=by kernel_rfl
theorem qt9:q4O [.r a0]=(let r0:=qI [.r a0];qO8 r0 (.br (ine (gI r0 0) 0) (qOa [.i (gI r0 0)]) (let r1:=q55 [.i (qg a0)];qO8 r1 (qOa [.i (gI r1 0)])))):=by kernel_rfl
theorem q7B:wH [.r a0]=(qO9 (ile (qg a0) 17592186044416) (qOa [.r a0])):=by kernel_rfl
theorem q6S:qD [.s e0,.s e1]=(.br (ile (jc e1) (jc e0)) (qO9 (qf8 (jc e1) (jc e0)) (qO9 (qf8 0 (jc e1)) (qOa [.b (seq (qpx e0 0 (jc e1)) e1)]))) (qOa [.b false])):=by kernel_rfl
theorem q6n:zc [.s e0,.s e1]=(let r0:=qD [.s e0,.s e1];qO8 r0 (.br (gB r0 0) (qO9 (qf8 (jc e0) (jc e0)) (qO9 (qf8 (jc e1) (jc e0)) (qOa [.s (qpx e0 (jc e1) (jc e0))]))) (qOa [.s e0]))):=by kernel_rfl
theorem qjk:qX [.s e0,.s e1]=(let r0:=zc [.s e0,.s e1];qO8 r0 (qOa [.s (gS r0 0)])):=by kernel_rfl
theorem qv7:qG [.s e0]=(let t0:=qX [.s e0,.s [45]];let s0:List UInt8:=(gS t0 0);let t1:TR:=(qOa [.i 3]);let t2:=q8W [.s s0,.s [48,49,50,51,52,53,54,55,56,57]];let t3:TR:=(.br (ilt 1024 (jc s0)) (qOa [.i 11]) (qOa [.i 0]));(qO8 t0 (.br (seq s0 []) t1 (qO8 t2 (.br (not (seq (gS t2 0) [])) t1 (qO9 (inb 0 (jc s0)) (.br (ieq (sat s0 0) 48) (.br (not (seq e0 [48])) t1 t3) t3))))))):=by kernel_rfl
theorem qm8:q6E [.r a0,.i c1,.i c2]=(.br (ilt c2 c1) (qO9 (inb c2 (qg a0)) (let r0:=qG [.s (cS a0 c2 0)];qO8 r0 (.br (ine (gI r0 0) 0) (.leaf (2,[.i (gI r0 0)])) (qOa [.r a0,.i c1,.i (qu .i64 c2 1)])))) (.leaf (1,[]))):=by kernel_rfl
theorem qyK:wy [.r a0]=(let r0:=qf q6E [.r a0,.i (qg a0),.i 0];qO8 r0 (.br (jIs r0 0) (qOa [.i 0]) (qOa [.i (gI r0 0)]))):=by kernel_rfl
theorem qvx:yN [.s e0,.s e1]=(.br (ilt 9 (jc e0)) (qOa [.i 0,.i 0,.b false]) (.br (ilt 9 (jc e1)) (qOa [.i 0,.i 0,.b false]) (qO8 (jJ [.s e0]) (qO8 (jJ [.s e1]) (qOa [.i (gI (jJ [.s e0]) 0),.i (gI (jJ [.s e1]) 0),.b true]))))):=by kernel_rfl
theorem qur:q0d [.i c0]=(qO8 (za [.i c0]) (qOa [.s (gS (za [.i c0]) 0),.i 0])):=by kernel_rfl
theorem qhb:jk [.b d0,.i c1,.r a2]=(let i0:Int:=(yC .i64 c1 1);let t0:TR:=(.leaf (1,[.b d0,.i c1,.r a2]));(.br (ilt 0 c1) (qO9 (inb i0 232) (qO9 (inb i0 232) (.br (ieq (cI a2 i0 0) 0) (qOa [.b d0,.i i0,.r a2]) t0))) t0)):=by kernel_rfl
theorem qjW:qO [.b d0,.i c1,.r a2]=(let r0:=qf jk [.b d0,.i c1,.r a2];qO8 r0 (qOa [.b (gB r0 0),.i (gI r0 1),.r (gR r0 2)])):=by kernel_rfl
theorem qtx:q58 [.s e0,.b d1,.i c2,.r a3]=(let i0:Int:=(jc e0);let i1:Int:=(qiL 0 (yC .i64 i0 9));let t0:=jJ [.s (qpx e0 i1 i0)];(.br (ilt 0 i0) (qO9 (qf8 i0 i0) (qO9 (qf8 i1 i0) (qO8 t0 (qO9 (inb c2 232) (qO9 (inb c2 232) (qO9 (qf8 i1 i0) (qO9 (qf8 0 i1) (qOa [.s (qpx e0 0 i1),.b d1,.i (qu .i64 c2 1),.r (qlU a3 c2 0 [.i (gI t0 0)])])))))))) (.leaf (1,[.b d1,.i c2,.r a3])))):=by kernel_rfl
theorem qxF:wE [.s e0]=(qO9 (inb 0 (jc e0)) (let r0:=qX [.s e0,.s [45]];qO8 r0 (let r1:=qf q58 [.s (gS r0 0),.b (ieq (sat e0 0) 45),.i 0,.r (q8i 232 [.i 0])];qO8 r1 (let r2:=qO [.b (gB r1 0),.i (gI r1 1),.r (gR r1 2)];qO8 r2 (qOa [.b (gB r2 0),.i (gI r2 1),.r (gR r2 2)]))))):=by kernel_rfl
theorem q9z:j9 [.i c0,.i c1,.i c2,.i c3,.b d4,.i c5,.r a6,.b d7,.i c8,.r a9]=(let i0:Int:=(qu .i64 c3 c1);let b0:Bool:=(inb i0 232);let i1:Int:=(qu .i64 (cI a6 i0 0) c2);let i2:Int:=(qu .i64 i1 (zw .i64 c0 (cI a9 c3 0)));let i3:Int:=(qdo .i64 i2 1000000000);let i4:Int:=(yC .i64 i2 (zw .i64 i3 1000000000));let p0:List PV:=[.b d7,.i c8,.r a9];let i5:Int:=(qiL c5 (qu .i64 i0 1));let i6:Int:=(qu .i64 c3 1);let i7:Int:=(qdo .i64 i1 1000000000);let i8:Int:=(yC .i64 i1 (zw .i64 i7 1000000000));let t0:TR:=(qO9 b0 (qO9 b0 (.br (ilt c3 c8) (qO9 (inb c3 232) (qO9 (inb c3 232) (.br (ilt i4 0) (qO9 b0 (qO9 b0 (qOa ((.i c0)::(.i c1)::(.i (yC .i64 i3 1))::(.i i6)::(.b d4)::(.i i5)::(.r (qlU a6 i0 0 [.i (qu .i64 i4 1000000000)]))::p0)))) (qO9 b0 (qO9 b0 (qOa ((.i c0)::(.i c1)::(.i i3)::(.i i6)::(.b d4)::(.i i5)::(.r (qlU a6 i0 0 [.i i4]))::p0))))))) (.br (ilt i8 0) (qO9 b0 (qO9 b0 (qOa ((.i c0)::(.i c1)::(.i (yC .i64 i7 1))::(.i i6)::(.b d4)::(.i i5)::(.r (qlU a6 i0 0 [.i (qu .i64 i8 1000000000)]))::p0)))) (qO9 b0 (qO9 b0 (qOa ((.i c0)::(.i c1)::(.i i7)::(.i i6)::(.b d4)::(.i i5)::(.r (qlU a6 i0 0 [.i i8]))::p0))))))));(.br (ilt c3 c8) t0 (.br (ine c2 0) t0 (.leaf (1,((.b d4)::(.i c5)::(.r a6)::p0)))))):=by kernel_rfl
theorem qmo:qT [.i c0,.i c1,.b d2,.i c3,.r a4,.b d5,.i c6,.r a7]=(let r0:=qf j9 [.i c0,.i c1,.i 0,.i 0,.b d2,.i c3,.r a4,.b d5,.i c6,.r a7];qO8 r0 (let r1:=qO [.b (gB r0 0),.i (gI r0 1),.r (gR r0 2)];qO8 r1 (qOa [.b (gB r1 0),.i (gI r1 1),.r (gR r1 2),.b (gB r0 3),.i (gI r0 4),.r (gR r0 5)]))):=by kernel_rfl
theorem qjn:yE [.i c0,.i c1,.b d2,.i c3,.r a4,.b d5,.i c6,.r a7,.b d8,.i c9,.r a10]=(.br (ilt c1 c0) (qO9 (inb c1 232) (qO9 (inb c1 232) (let r0:=qT [.i (cI a7 c1 0),.i c1,.b d8,.i c9,.r a10,.b d2,.i c3,.r a4];qO8 r0 (qOa [.i c0,.i (qu .i64 c1 1),.b (gB r0 3),.i (gI r0 4),.r (gR r0 5),.b d5,.i c6,.r a7,.b (gB r0 0),.i (gI r0 1),.r (gR r0 2)])))) (.leaf (1,[.b d2,.i c3,.r a4,.b d5,.i c6,.r a7,.b d8,.i c9,.r a10]))):=by kernel_rfl
theorem qn0:kB [.b d0,.i c1,.r a2,.b d3,.i c4,.r a5]=(let r0:=qf yE [.i c4,.i 0,.b d0,.i c1,.r a2,.b d3,.i c4,.r a5,.b (not (beq d0 d3)),.i 0,.r (q8i 232 [.i 0])];qO8 r0 (qOa [.b (gB r0 0),.i (gI r0 1),.r (gR r0 2),.b (gB r0 3),.i (gI r0 4),.r (gR r0 5),.b (gB r0 6),.i (gI r0 7),.r (gR r0 8)])):=by kernel_rfl
theorem qk2:wz [.b d0,.i c1,.r a2]=(let r0:=zm [.b d0,.i c1,.r a2];qO8 r0 (let r1:=qG [.s (gS r0 0)];qO8 r1 (.br (ine (gI r1 0) 0) (qOa [.s [],.i (gI r1 0),.b (gB r0 1),.i (gI r0 2),.r (gR r0 3)]) (qOa [.s (gS r0 0),.i 0,.b (gB r0 1),.i (gI r0 2),.r (gR r0 3)])))):=by kernel_rfl
theorem qz0:q1j [.s e0,.s e1]=(let r0:=wy [.r [[.s e0],[.s e1]]];qO8 r0 (.br (ine (gI r0 0) 0) (qOa [.s [],.i (gI r0 0)]) (let r1:=yN [.s e0,.s e1];qO8 r1 (.br (gB r1 2) (let r2:=q0d [.i (zw .i64 (gI r1 0) (gI r1 1))];qO8 r2 (qOa [.s (gS r2 0),.i (gI r2 1)])) (let r2:=wE [.s e0];qO8 r2 (let r3:=wE [.s e1];qO8 r3 (let r4:=kB [.b (gB r2 0),.i (gI r2 1),.r (gR r2 2),.b (gB r3 0),.i (gI r3 1),.r (gR r3 2)];qO8 r4 (let r5:=wz [.b (gB r4 6),.i (gI r4 7),.r (gR r4 8)];qO8 r5 (qOa [.s (gS r5 0),.i (gI r5 1)]))))))))):=by kernel_rfl
theorem qdr:zF [.s e0,.s e1,.i c2]=(.br (ine c2 0) (qOa [.s [48],.i c2]) (let r0:=q1j [.s e0,.s e1];qO8 r0 (.br (ine (gI r0 1) 0) (qOa [.s [48],.i (gI r0 1)]) (qOa [.s (gS r0 0),.i (gI r0 1)])))):=by kernel_rfl
theorem qdh:ye [.s e0,.r a1,.i c2,.i c3,.i c4]=(.br (ilt c3 c2) (qO9 (inb c3 (qg a1)) (let r0:=zF [.s e0,.s (cS a1 c3 0),.i c4];qO8 r0 (qOa [.s (gS r0 0),.r a1,.i c2,.i (qu .i64 c3 1),.i (gI r0 1)]))) (.leaf (1,[.s e0,.i c4]))):=by kernel_rfl
theorem qpT:qo [.r a0,.i c1]=(let r0:=qf ye [.s [49],.r a0,.i (qg a0),.i 0,.i c1];qO8 r0 (qOa [.s (gS r0 0),.i (gI r0 1)])):=by kernel_rfl
theorem qiH:jP [.i c0,.b d1,.i c2,.r a3,.b d4,.i c5,.r a6]=(let b0:Bool:=(inb c0 232);let p0:List PV:=[.b d1,.i c2,.r a3,.b d4,.i c5,.r a6];(.br (ile 0 c0) (qO9 b0 (qO9 b0 (qO9 b0 (qO9 b0 (.br (ine (cI a3 c0 0) (cI a6 c0 0)) (qO9 b0 (qO9 b0 (qO9 b0 (qO9 b0 (.leaf (2,((.i (yC .i64 (cI a3 c0 0) (cI a6 c0 0)))::p0))))))) (qOa ((.i (yC .i64 c0 1))::p0))))))) (.leaf (1,p0)))):=by kernel_rfl
theorem qlf:wZ [.b d0,.i c1,.r a2,.b d3,.i c4,.r a5]=(.br (ine c1 c4) (qOa [.i (yC .i64 c1 c4),.b d0,.i c1,.r a2,.b d3,.i c4,.r a5]) (let r0:=qf jP [.i (yC .i64 c1 1),.b d0,.i c1,.r a2,.b d3,.i c4,.r a5];qO8 r0 (.br (jIs r0 0) (qOa [.i 0,.b (gB r0 0),.i (gI r0 1),.r (gR r0 2),.b (gB r0 3),.i (gI r0 4),.r (gR r0 5)]) (qOa [.i (gI r0 0),.b (gB r0 1),.i (gI r0 2),.r (gR r0 3),.b (gB r0 4),.i (gI r0 5),.r (gR r0 6)])))):=by kernel_rfl
theorem qoo:vu [.b d0,.i c1,.r a2,.b d3,.i c4,.r a5]=(.br (beq d0 d3) (let r0:=qT [.i 1,.i 0,.b d0,.i c1,.r a2,.b d3,.i c4,.r a5];qO8 r0 (qOa [.b (gB r0 0),.i (gI r0 1),.r (gR r0 2),.b (gB r0 3),.i (gI r0 4),.r (gR r0 5)])) (let r0:=wZ [.b d0,.i c1,.r a2,.b d3,.i c4,.r a5];qO8 r0 (.br (ile 0 (gI r0 0)) (let r1:=qT [.i (-1),.i 0,.b (gB r0 1),.i (gI r0 2),.r (gR r0 3),.b (gB r0 4),.i (gI r0 5),.r (gR r0 6)];qO8 r1 (qOa [.b (gB r1 0),.i (gI r1 1),.r (gR r1 2),.b (gB r1 3),.i (gI r1 4),.r (gR r1 5)])) (let r1:=qT [.i (-1),.i 0,.b (gB r0 4),.i (gI r0 5),.r (gR r0 6),.b (gB r0 1),.i (gI r0 2),.r (gR r0 3)];qO8 r1 (qOa [.b (gB r1 0),.i (gI r1 1),.r (gR r1 2),.b (gB r0 4),.i (gI r0 5),.r (gR r0 6)]))))):=by kernel_rfl
theorem qeW:q7S [.r a0,.i c1,.i c2,.b d3,.i c4,.r a5]=(.br (ilt c2 c1) (qO9 (inb c2 (qg a0)) (let r0:=wE [.s (cS a0 c2 0)];qO8 r0 (let r1:=vu [.b d3,.i c4,.r a5,.b (gB r0 0),.i (gI r0 1),.r (gR r0 2)];qO8 r1 (qOa [.r a0,.i c1,.i (qu .i64 c2 1),.b (gB r1 0),.i (gI r1 1),.r (gR r1 2)])))) (.leaf (1,[.b d3,.i c4,.r a5]))):=by kernel_rfl
theorem qzv:qd1 [.r a0]=(let r0:=qf q7S [.r a0,.i (qg a0),.i 0,.b false,.i 0,.r (q8i 232 [.i 0])];qO8 r0 (let r1:=wz [.b (gB r0 0),.i (gI r0 1),.r (gR r0 2)];qO8 r1 (qOa [.s (gS r1 0),.i (gI r1 1)]))):=by kernel_rfl
theorem qzY:q34 [.s e0,.s e1]=(let r0:=wy [.r [[.s e0],[.s e1]]];qO8 r0 (.br (ine (gI r0 0) 0) (qOa [.s [],.i (gI r0 0)]) (let r1:=yN [.s e0,.s e1];qO8 r1 (.br (gB r1 2) (let r2:=q0d [.i (qu .i64 (gI r1 0) (gI r1 1))];qO8 r2 (qOa [.s (gS r2 0),.i (gI r2 1)])) (let r2:=qd1 [.r [[.s e0],[.s e1]]];qO8 r2 (qOa [.s (gS r2 0),.i (gI r2 1)])))))):=by kernel_rfl
theorem qxo:ub [.s e0]=(.br (seq e0 [48]) (qOa [.i 0]) (qO9 (inb 0 (jc e0)) (.br (ieq (sat e0 0) 45) (qOa [.i (-1)]) (qOa [.i 1])))):=by kernel_rfl
theorem qq6:q1V [.s e0]=(let r0:=ub [.s e0];qO8 r0 (.br (ieq (gI r0 0) 0) (qOa [.s e0]) (.br (ieq (gI r0 0) 1) (qO9 (ile ((jc [45])+(jc e0)) 140737488355328) (qOa [.s (qyH [45] e0)])) (qO9 (qf8 (jc e0) (jc e0)) (qO9 (qf8 1 (jc e0)) (qOa [.s (qpx e0 1 (jc e0))])))))):=by kernel_rfl
theorem qzx:q8G [.s e0,.s e1]=(let r0:=wy [.r [[.s e0],[.s e1]]];qO8 r0 (.br (ine (gI r0 0) 0) (qOa [.s [],.i (gI r0 0)]) (let r1:=q1V [.s e1];qO8 r1 (let r2:=q34 [.s e0,.s (gS r1 0)];qO8 r2 (qOa [.s (gS r2 0),.i (gI r2 1)]))))):=by kernel_rfl
theorem qdl:wS [.s e0,.s e1,.i c2]=(.br (ine c2 0) (qOa [.s [48],.i c2]) (let r0:=q8G [.s e0,.s e1];qO8 r0 (.br (ine (gI r0 1) 0) (qOa [.s [48],.i (gI r0 1)]) (qOa [.s (gS r0 0),.i (gI r0 1)])))):=by kernel_rfl
theorem qpz:jh [.s e0,.s e1,.i c2]=(let r0:=wS [.s e0,.s e1,.i c2];qO8 r0 (qOa [.s (gS r0 0),.i (gI r0 1)])):=by kernel_rfl
theorem qvl:q3M [.s e0,.s e1,.s e2,.s e3,.i c4]=(let r0:=qo [.r [[.s e0],[.s e3]],.i c4];qO8 r0 (let r1:=qo [.r [[.s e2],[.s e1]],.i (gI r0 1)];qO8 r1 (let r2:=jh [.s (gS r0 0),.s (gS r1 0),.i (gI r1 1)];qO8 r2 (let r3:=qo [.r [[.s e1],[.s e3]],.i (gI r2 1)];qO8 r3 (qOa [.s (gS r2 0),.s (gS r3 0),.i (gI r3 1)]))))):=by kernel_rfl
theorem qcL:wt [.s e0,.s e1]=(let r0:=vA [.s e0,.s e1];qO8 r0 (.br (ile 0 (gI r0 0)) (qO9 (qf8 (gI r0 0) (jc e0)) (qO9 (qf8 0 (gI r0 0)) (qO9 (qf8 (jc e0) (jc e0)) (qO9 (qf8 (qu .i64 (gI r0 0) (jc e1)) (jc e0)) (qOa [.s (qpx e0 0 (gI r0 0)),.s (qpx e0 (qu .i64 (gI r0 0) (jc e1)) (jc e0)),.b true]))))) (qOa [.s e0,.s [],.b false]))):=by kernel_rfl
theorem qv2:q7z [.s e0,.s e1]=(let r0:=wt [.s e0,.s e1];qO8 r0 (qOa [.s (gS r0 0),.s (gS r0 1),.b (gB r0 2)])):=by kernel_rfl
theorem qA6:qW [.s e0]=(let r0:=q7z [.s e0,.s [47]];qO8 r0 (.br (not (gB r0 2)) (qOa [.s (gS r0 0),.s [49],.b (gB r0 2)]) (qOa [.s (gS r0 0),.s (gS r0 1),.b (gB r0 2)]))):=by kernel_rfl
theorem quY:q6t [.s e0,.s e1]=(.br (ine (jc e0) (jc e1)) (.br (ilt (jc e0) (jc e1)) (qOa [.i (-1)]) (qOa [.i 1])) (let r0:=q3J [.s e0,.s e1];qO8 r0 (qOa [.i (gI r0 0)]))):=by kernel_rfl
theorem qrW:uD [.s e0,.s e1]=(let r0:=wy [.r [[.s e0],[.s e1]]];qO8 r0 (.br (ine (gI r0 0) 0) (qOa [.i 0,.i (gI r0 0)]) (let r1:=ub [.s e0];qO8 r1 (let r2:=ub [.s e1];qO8 r2 (.br (ilt (gI r1 0) (gI r2 0)) (qOa [.i (-1),.i 0]) (qO8 r2 (.br (ilt (gI r2 0) (gI r1 0)) (qOa [.i 1,.i 0]) (let r3:=qX [.s e0,.s [45]];qO8 r3 (let r4:=qX [.s e1,.s [45]];qO8 r4 (let r5:=q6t [.s (gS r3 0),.s (gS r4 0)];qO8 r5 (qOa [.i (zw .i64 (gI r1 0) (gI r5 0)),.i 0]))))))))))):=by kernel_rfl
theorem qqG:q25 [.b d0,.i c1,.r a2,.b d3,.i c4,.r a5]=(let i0:Int:=(yC .i64 c4 1);let b0:Bool:=(ilt i0 0);let b1:Bool:=(ilt 1 c4);let p0:List PV:=[.b d0,.i c1,.r a2,.b d3,.i c4,.r a5];let t0:TR:=(qOa ((.i 1)::p0));let b2:Bool:=(ile c4 i0);let b3:Bool:=(inb i0 232);let i1:Int:=(cI a5 i0 0);let i2:Int:=(qu .i64 i1 1);let b4:Bool:=(ine i2 0);let b5:Bool:=(ine i1 0);let t1:TR:=(.br b0 (qO9 b1 t0) (.br b2 (qO9 b1 t0) (qO9 b3 (qO9 b3 (.br b1 (qO9 b4 (.br (ilt 0 (qdo .i64 0 i2)) (qOa ((.i (qaS (qdo .i64 0 i2) 999999999))::p0)) t0)) (qO9 b5 (.br (ilt 0 (qdo .i64 0 i1)) (qOa ((.i (qaS (qdo .i64 0 i1) 999999999))::p0)) t0)))))));let i3:Int:=(qu .i64 0 (cI a2 i0 0));let t2:TR:=(qO9 b1 (.br (ilt 0 (qdo .i64 i3 1)) (qOa ((.i (qaS (qdo .i64 i3 1) 999999999))::p0)) t0));let t3:TR:=(.br b0 t1 (.br (ile c1 i0) t1 (qO9 b3 (qO9 b3 (.br b0 t2 (.br b2 t2 (qO9 b3 (qO9 b3 (.br b1 (qO9 b4 (.br (ilt 0 (qdo .i64 i3 i2)) (qOa ((.i (qaS (qdo .i64 i3 i2) 999999999))::p0)) t0)) (qO9 b5 (.br (ilt 0 (qdo .i64 i3 i1)) (qOa ((.i (qaS (qdo .i64 i3 i1) 999999999))::p0)) t0)))))))))));let i4:Int:=(zw .i64 (cI a2 c4 0) 1000000000);let i5:Int:=(qu .i64 i4 0);let t4:TR:=(qO9 b1 (.br (ilt 0 (qdo .i64 i5 1)) (qOa ((.i (qaS (qdo .i64 i5 1) 999999999))::p0)) t0));let t5:TR:=(.br b0 t4 (.br b2 t4 (qO9 b3 (qO9 b3 (.br b1 (qO9 b4 (.br (ilt 0 (qdo .i64 i5 i2)) (qOa ((.i (qaS (qdo .i64 i5 i2) 999999999))::p0)) t0)) (qO9 b5 (.br (ilt 0 (qdo .i64 i5 i1)) (qOa ((.i (qaS (qdo .i64 i5 i1) 999999999))::p0)) t0)))))));let i6:Int:=(qu .i64 i4 (cI a2 i0 0));let t6:TR:=(qO9 b1 (.br (ilt 0 (qdo .i64 i6 1)) (qOa ((.i (qaS (qdo .i64 i6 1) 999999999))::p0)) t0));(.br (ilt c4 0) t3 (.br (ile c1 c4) t3 (qO9 (inb c4 232) (qO9 (inb c4 232) (.br b0 t5 (.br (ile c1 i0) t5 (qO9 b3 (qO9 b3 (.br b0 t6 (.br b2 t6 (qO9 b3 (qO9 b3 (.br b1 (qO9 b4 (.br (ilt 0 (qdo .i64 i6 i2)) (qOa ((.i (qaS (qdo .i64 i6 i2) 999999999))::p0)) t0)) (qO9 b5 (.br (ilt 0 (qdo .i64 i6 i1)) (qOa ((.i (qaS (qdo .i64 i6 i1) 999999999))::p0)) t0)))))))))))))))):=by kernel_rfl
theorem qmC:yh [.i c0,.i c1,.b d2,.i c3,.r a4,.b d5,.i c6,.r a7,.b d8,.i c9,.r a10,.b d11,.i c12,.r a13]=(let r0:=wZ [.b d11,.i c12,.r a13,.b d5,.i c6,.r a7];qO8 r0 (.br (ile 0 (gI r0 0)) (let r1:=q25 [.b (gB r0 1),.i (gI r0 2),.r (gR r0 3),.b (gB r0 4),.i (gI r0 5),.r (gR r0 6)];qO8 r1 (let r2:=qT [.i (yC .i64 0 (gI r1 0)),.i 0,.b (gB r1 1),.i (gI r1 2),.r (gR r1 3),.b (gB r1 4),.i (gI r1 5),.r (gR r1 6)];qO8 r2 (qOa [.i c0,.i (qu .i64 c1 (gI r1 0)),.b d2,.i c3,.r a4,.b (gB r2 3),.i (gI r2 4),.r (gR r2 5),.b d8,.i c9,.r a10,.b (gB r2 0),.i (gI r2 1),.r (gR r2 2)]))) (.leaf (1,[.i c0,.i c1,.b d2,.i c3,.r a4,.b (gB r0 4),.i (gI r0 5),.r (gR r0 6),.b d8,.i c9,.r a10,.b (gB r0 1),.i (gI r0 2),.r (gR r0 3)])))):=by kernel_rfl
theorem qpk:q0X [.i c0,.b d1,.i c2,.r a3,.b d4,.i c5,.r a6,.b d7,.i c8,.r a9,.b d10,.i c11,.r a12]=(.br (ile 0 c0) (qO9 (qf8 232 232) (qO9 (qf8 1 232) (qO9 (qf8 c11 232) (qO9 (qf8 0 c11) (qO9 (inb c0 232) (qO9 (inb c0 232) (let r0:=qO [.b d10,.i (qu .i64 c11 1),.r (qlU (qpb a12 1 a12 0 (qaS (qEx c11 0) (qEx 232 1))) 0 0 [.i (cI a3 c0 0)])];qO8 r0 (let r1:=qf yh [.i c0,.i 0,.b d1,.i c2,.r a3,.b d4,.i c5,.r a6,.b d7,.i c8,.r a9,.b (gB r0 0),.i (gI r0 1),.r (gR r0 2)];qO8 r1 (qO9 (inb (gI r1 0) 232) (qO9 (inb (gI r1 0) 232) (qOa [.i (yC .i64 (gI r1 0) 1),.b (gB r1 2),.i (gI r1 3),.r (gR r1 4),.b (gB r1 5),.i (gI r1 6),.r (gR r1 7),.b (gB r1 8),.i (qiL (gI r1 9) (qu .i64 (gI r1 0) 1)),.r (qlU (gR r1 10) (gI r1 0) 0 [.i (gI r1 1)]),.b (gB r1 11),.i (gI r1 12),.r (gR r1 13)]))))))))))) (.leaf (1,[.b d1,.i c2,.r a3,.b d4,.i c5,.r a6,.b d7,.i c8,.r a9,.b d10,.i c11,.r a12]))):=by kernel_rfl
theorem qrP:uv [.b d0,.i c1,.r a2,.b d3,.i c4,.r a5]=(let r0:=qf q0X [.i (yC .i64 c1 1),.b d0,.i c1,.r a2,.b d3,.i c4,.r a5,.b false,.i 0,.r (q8i 232 [.i 0]),.b false,.i 0,.r (q8i 232 [.i 0])];qO8 r0 (let r1:=qO [.b (gB r0 6),.i (gI r0 7),.r (gR r0 8)];qO8 r1 (qOa [.b (gB r0 0),.i (gI r0 1),.r (gR r0 2),.b (gB r0 3),.i (gI r0 4),.r (gR r0 5),.b (gB r1 0),.i (gI r1 1),.r (gR r1 2),.b (gB r0 9),.i (gI r0 10),.r (gR r0 11)]))):=by kernel_rfl
theorem qsn:q2h [.i c0,.i c1]=(.br (ine c1 0) (qO9 (ine c1 0) (qOa [.i c1,.i (qs2 c0 c1)])) (.leaf (1,[.i c0]))):=by kernel_rfl
theorem quZ:q7q [.b d0,.i c1,.r a2,.b d3,.i c4,.r a5]=(let t0:=qf q2h [.i (cI a2 0 0),.i (cI a5 0 0)];let t1:=za [.i (gI t0 0)];let t2:=uv [.b d0,.i c1,.r a2,.b d3,.i c4,.r a5];let t3:TR:=(qO8 t2 (qOa [.b (gB t2 3),.i (gI t2 4),.r (gR t2 5),.b (gB t2 9),.i (gI t2 10),.r (gR t2 11)]));(.br (ilt 0 c4) (.br (ile c1 1) (.br (ile c4 1) (qO8 t0 (qO8 t1 (.leaf (2,[.s (gS t1 0),.i 0])))) t3) t3) (.leaf (1,[.b d0,.i c1,.r a2])))):=by kernel_rfl
theorem qzy:q3B [.s e0,.s e1]=(let r0:=wy [.r [[.s e0],[.s e1]]];qO8 r0 (.br (ine (gI r0 0) 0) (qOa [.s [],.i (gI r0 0)]) (let r1:=wE [.s e0];qO8 r1 (let r2:=wE [.s e1];qO8 r2 (let r3:=qf q7q [.b (gB r1 0),.i (gI r1 1),.r (gR r1 2),.b (gB r2 0),.i (gI r2 1),.r (gR r2 2)];qO8 r3 (.br (jIs r3 0) (let r4:=zm [.b false,.i (gI r3 1),.r (gR r3 2)];qO8 r4 (qOa [.s (gS r4 0),.i 0])) (qOa [.s (gS r3 0),.i (gI r3 1)]))))))):=by kernel_rfl
theorem qvq:qQ [.s e0]=(let t0:=qW [.s e0];let t1:=qG [.s (gS t0 0)];let p0:List PV:=[.s (gS t0 1)];let t2:TR:=(qOa [.i 3]);let i0:Int:=(gI (qG p0) 0);let t3:TR:=(qOa [.i (qiL (gI t1 0) i0)]);let t4:TR:=(qOa [.i 0]);let t5:=uD [.s (gS t0 1),.s [49]];let t6:=q3B ((.s (gS t0 0))::p0);(qO8 t0 (qO8 t1 (qO8 (qG p0) (.br (ieq (gI t1 0) 3) t2 (.br (ieq i0 3) t2 (.br (ine (gI t1 0) 0) t3 (.br (ine i0 0) t3 (.br (not (gB t0 2)) t4 (qO8 t5 (qO8 t6 (.br (ine (gI t5 1) 0) t2 (.br (ine (gI t6 1) 0) t2 (.br (ile (gI t5 0) 0) t2 (.br (not (seq (gS t6 0) [49])) t2 t4))))))))))))))):=by kernel_rfl
theorem qfV:q20 [.r a0,.i c1,.i c2]=(.br (ilt c2 c1) (qO9 (inb c2 (qg a0)) (let r0:=qQ [.s (cS a0 c2 0)];qO8 r0 (.br (ine (gI r0 0) 0) (.leaf (2,[.i (gI r0 0)])) (qOa [.r a0,.i c1,.i (qu .i64 c2 1)])))) (.leaf (1,[]))):=by kernel_rfl
theorem qtB:qA [.r a0]=(let r0:=qf q20 [.r a0,.i (qg a0),.i 0];qO8 r0 (.br (jIs r0 0) (qOa [.i 0]) (qOa [.i (gI r0 0)]))):=by kernel_rfl
theorem qlg:uw [.s e0,.s e1]=(let r0:=qD [.s e0,.s e1];qO8 r0 (qOa [.b (gB r0 0)])):=by kernel_rfl
theorem qsE:q2k [.s e0,.s e1]=(.br (seq e1 [49]) (qOa [.s e0]) (qO9 (ile ((jc e0)+(jc [47])) 140737488355328) (qO9 (ile ((jc (qyH e0 [47]))+(jc e1)) 140737488355328) (qOa [.s (qyH (qyH e0 [47]) e1)])))):=by kernel_rfl
theorem qsQ:q52 [.s e0,.s e1]=(let t0:=wy [.r [[.s e0],[.s e1]]];let t1:=yN [.s e0,.s e1];let i0:Int:=(gI t1 1);let i1:Int:=(qs2 (gI t1 0) i0);let i2:Int:=(qdo .i64 (gI t1 0) i0);let t2:=za [.i (yC .i64 i2 1)];let t3:=za [.i (qu .i64 i1 i0)];let t4:TR:=(qO8 (za [.i i2]) (qO8 (za [.i i1]) (qOa [.s (gS (za [.i i2]) 0),.s (gS (za [.i i1]) 0),.i 0])));let t5:=wE [.s e0];let t6:=wE [.s e1];let t7:=uv [.b (gB t5 0),.i (gI t5 1),.r (gR t5 2),.b (gB t6 0),.i (gI t6 1),.r (gR t6 2)];let b0:Bool:=(not (beq (gB t7 0) (gB t7 3)));let t8:=vu [.b true,.i (gI t7 7),.r (gR t7 8),.b true,.i 1,.r (qlU (q8i 232 [.i 0]) 0 0 [.i 1])];let t9:=vu [.b (gB t7 0),.i (gI t7 10),.r (gR t7 11),.b (gB t7 3),.i (gI t7 4),.r (gR t7 5)];let t10:=zm [.b (gB t8 0),.i (gI t8 1),.r (gR t8 2)];let t11:=zm [.b (gB t9 0),.i (gI t9 1),.r (gR t9 2)];let t12:=zm [.b b0,.i (gI t7 7),.r (gR t7 8)];let t13:=zm [.b (gB t7 0),.i (gI t7 10),.r (gR t7 11)];let t14:TR:=(qO8 t12 (qO8 t13 (qOa [.s (gS t12 0),.s (gS t13 0),.i 0])));(qO8 t0 (.br (ine (gI t0 0) 0) (qOa [.s [],.s [],.i (gI t0 0)]) (.br (seq e1 [48]) (qOa [.s [],.s [],.i 10]) (qO8 t1 (.br (gB t1 2) (qO9 (ine i0 0) (qO9 (ine i0 0) (.br (ine i1 0) (.br (not (beq (ilt i1 0) (ilt i0 0))) (qO8 t2 (qO8 t3 (qOa [.s (gS t2 0),.s (gS t3 0),.i 0]))) t4) t4))) (qO8 t5 (qO8 t6 (qO8 t7 (.br (ilt 0 (gI t7 10)) (.br b0 (qO8 t8 (qO8 t9 (qO8 t10 (qO8 t11 (qOa [.s (gS t10 0),.s (gS t11 0),.i 0]))))) t14) t14)))))))))):=by kernel_rfl
theorem qyz:q8j [.s e0,.s e1]=(let r0:=q52 [.s e0,.s e1];qO8 r0 (.br (ine (gI r0 2) 0) (qOa [.s [],.i (gI r0 2)]) (let r1:=qG [.s (gS r0 0)];qO8 r1 (.br (ine (gI r1 0) 0) (qOa [.s [],.i (gI r1 0)]) (qOa [.s (gS r0 0),.i 0]))))):=by kernel_rfl
theorem qds:wU [.s e0,.s e1,.i c2]=(.br (ine c2 0) (qOa [.s [48],.i c2]) (let r0:=q3B [.s e0,.s e1];qO8 r0 (.br (ine (gI r0 1) 0) (qOa [.s [48],.i (gI r0 1)]) (qOa [.s (gS r0 0),.i (gI r0 1)])))):=by kernel_rfl
theorem qdp:qS [.s e0,.s e1,.i c2]=(.br (ine c2 0) (qOa [.s [48],.i c2]) (let r0:=q8j [.s e0,.s e1];qO8 r0 (.br (ine (gI r0 1) 0) (qOa [.s [48],.i (gI r0 1)]) (qOa [.s (gS r0 0),.i (gI r0 1)])))):=by kernel_rfl
theorem qlj:qB [.s e0,.s e1,.i c2]=(let r0:=wU [.s e0,.s e1,.i c2];qO8 r0 (let r1:=uw [.s e1,.s [45]];qO8 r1 (.br (gB r1 0) (let r2:=jh [.s [48],.s (gS r0 0),.i (gI r0 1)];qO8 r2 (.br (ine (gI r2 1) 0) (qOa [.s [],.i (gI r2 1)]) (let r3:=qS [.s e0,.s (gS r2 0),.i (gI r2 1)];qO8 r3 (let r4:=qS [.s e1,.s (gS r2 0),.i (gI r3 1)];qO8 r4 (let r5:=q2k [.s (gS r3 0),.s (gS r4 0)];qO8 r5 (qOa [.s (gS r5 0),.i (gI r4 1)])))))) (.br (ine (gI r0 1) 0) (qOa [.s [],.i (gI r0 1)]) (let r2:=qS [.s e0,.s (gS r0 0),.i (gI r0 1)];qO8 r2 (let r3:=qS [.s e1,.s (gS r0 0),.i (gI r2 1)];qO8 r3 (let r4:=q2k [.s (gS r2 0),.s (gS r3 0)];qO8 r4 (qOa [.s (gS r4 0),.i (gI r3 1)])))))))):=by kernel_rfl
theorem qeL:vj [.s e0,.s e1]=(let r0:=qA [.r [[.s e0],[.s e1]]];qO8 r0 (.br (ine (gI r0 0) 0) (qOa [.s [],.i (gI r0 0)]) (let r1:=qW [.s e0];qO8 r1 (let r2:=qW [.s e1];qO8 r2 (let r3:=q3M [.s (gS r1 0),.s (gS r1 1),.s (gS r2 0),.s (gS r2 1),.i 0];qO8 r3 (.br (ine (gI r3 2) 0) (qOa [.s [],.i (gI r3 2)]) (.br (seq (gS r3 1) [48]) (qOa [.s [],.i 10]) (let r4:=qB [.s (gS r3 0),.s (gS r3 1),.i (gI r3 2)];qO8 r4 (qOa [.s (gS r4 0),.i (gI r4 1)]))))))))):=by kernel_rfl
theorem qzK:zJ [.s e0,.s e1]=(let r0:=vj [.s e0,.s e1];qO8 r0 (qOa [.s (gS r0 0),.i (gI r0 1)])):=by kernel_rfl
theorem qix:qC [.i c0,.i c1,.i c2]=(qOa [.i c0,.i c1,.i c2]):=by kernel_rfl
theorem qiq:q0B [.i c0,.i c1,.i c2,.i c3,.i c4,.i c5,.i c6,.i c7,.i c8,.i c9,.i c10]=(let b0:Bool:=(ieq c1 2);let p0:List PV:=[.i (qu .i64 c1 1),.i c2,.i c3,.i c4,.i c5,.i c6,.i c7,.i c8,.i c9,.i c10];let i0:Int:=(yC .i64 c7 c4);let i1:Int:=(yC .i64 c10 c4);let b1:Bool:=(ieq c1 1);let i2:Int:=(yC .i64 c10 c3);let b2:Bool:=(ieq c1 0);let i3:Int:=(yC .i64 c10 c2);let i4:Int:=(yC .i64 c9 c4);let i5:Int:=(yC .i64 c9 c3);let i6:Int:=(yC .i64 c9 c2);let i7:Int:=(yC .i64 c8 c4);let i8:Int:=(yC .i64 c8 c3);let i9:Int:=(yC .i64 c8 c2);let i10:Int:=(yC .i64 c7 c3);let i11:Int:=(yC .i64 c7 c2);let i12:Int:=(yC .i64 c6 c4);let i13:Int:=(yC .i64 c6 c3);let i14:Int:=(yC .i64 c6 c2);let i15:Int:=(yC .i64 c5 c4);let i16:Int:=(yC .i64 c5 c3);let i17:Int:=(yC .i64 c5 c2);(.br (ilt c1 3) (.br b0 (.br b0 (.br b0 (.br b0 (qOa ((.i (qu .i64 c0 (zw .i64 i0 i1)))::p0)) (.br b1 (qOa ((.i (qu .i64 c0 (zw .i64 i0 i2)))::p0)) (qO9 b2 (qOa ((.i (qu .i64 c0 (zw .i64 i0 i3)))::p0))))) (.br b1 (.br b0 (qOa ((.i (qu .i64 c0 (zw .i64 i0 i4)))::p0)) (.br b1 (qOa ((.i (qu .i64 c0 (zw .i64 i0 i5)))::p0)) (qO9 b2 (qOa ((.i (qu .i64 c0 (zw .i64 i0 i6)))::p0))))) (qO9 b2 (.br b0 (qOa ((.i (qu .i64 c0 (zw .i64 i0 i7)))::p0)) (.br b1 (qOa ((.i (qu .i64 c0 (zw .i64 i0 i8)))::p0)) (qO9 b2 (qOa ((.i (qu .i64 c0 (zw .i64 i0 i9)))::p0)))))))) (.br b1 (.br b0 (.br b0 (qOa ((.i (qu .i64 c0 (zw .i64 i10 i1)))::p0)) (.br b1 (qOa ((.i (qu .i64 c0 (zw .i64 i10 i2)))::p0)) (qO9 b2 (qOa ((.i (qu .i64 c0 (zw .i64 i10 i3)))::p0))))) (.br b1 (.br b0 (qOa ((.i (qu .i64 c0 (zw .i64 i10 i4)))::p0)) (.br b1 (qOa ((.i (qu .i64 c0 (zw .i64 i10 i5)))::p0)) (qO9 b2 (qOa ((.i (qu .i64 c0 (zw .i64 i10 i6)))::p0))))) (qO9 b2 (.br b0 (qOa ((.i (qu .i64 c0 (zw .i64 i10 i7)))::p0)) (.br b1 (qOa ((.i (qu .i64 c0 (zw .i64 i10 i8)))::p0)) (qO9 b2 (qOa ((.i (qu .i64 c0 (zw .i64 i10 i9)))::p0)))))))) (qO9 b2 (.br b0 (.br b0 (qOa ((.i (qu .i64 c0 (zw .i64 i11 i1)))::p0)) (.br b1 (qOa ((.i (qu .i64 c0 (zw .i64 i11 i2)))::p0)) (qO9 b2 (qOa ((.i (qu .i64 c0 (zw .i64 i11 i3)))::p0))))) (.br b1 (.br b0 (qOa ((.i (qu .i64 c0 (zw .i64 i11 i4)))::p0)) (.br b1 (qOa ((.i (qu .i64 c0 (zw .i64 i11 i5)))::p0)) (qO9 b2 (qOa ((.i (qu .i64 c0 (zw .i64 i11 i6)))::p0))))) (qO9 b2 (.br b0 (qOa ((.i (qu .i64 c0 (zw .i64 i11 i7)))::p0)) (.br b1 (qOa ((.i (qu .i64 c0 (zw .i64 i11 i8)))::p0)) (qO9 b2 (qOa ((.i (qu .i64 c0 (zw .i64 i11 i9)))::p0))))))))))) (.br b1 (.br b0 (.br b0 (.br b0 (qOa ((.i (qu .i64 c0 (zw .i64 i12 i1)))::p0)) (.br b1 (qOa ((.i (qu .i64 c0 (zw .i64 i12 i2)))::p0)) (qO9 b2 (qOa ((.i (qu .i64 c0 (zw .i64 i12 i3)))::p0))))) (.br b1 (.br b0 (qOa ((.i (qu .i64 c0 (zw .i64 i12 i4)))::p0)) (.br b1 (qOa ((.i (qu .i64 c0 (zw .i64 i12 i5)))::p0)) (qO9 b2 (qOa ((.i (qu .i64 c0 (zw .i64 i12 i6)))::p0))))) (qO9 b2 (.br b0 (qOa ((.i (qu .i64 c0 (zw .i64 i12 i7)))::p0)) (.br b1 (qOa ((.i (qu .i64 c0 (zw .i64 i12 i8)))::p0)) (qO9 b2 (qOa ((.i (qu .i64 c0 (zw .i64 i12 i9)))::p0)))))))) (.br b1 (.br b0 (.br b0 (qOa ((.i (qu .i64 c0 (zw .i64 i13 i1)))::p0)) (.br b1 (qOa ((.i (qu .i64 c0 (zw .i64 i13 i2)))::p0)) (qO9 b2 (qOa ((.i (qu .i64 c0 (zw .i64 i13 i3)))::p0))))) (.br b1 (.br b0 (qOa ((.i (qu .i64 c0 (zw .i64 i13 i4)))::p0)) (.br b1 (qOa ((.i (qu .i64 c0 (zw .i64 i13 i5)))::p0)) (qO9 b2 (qOa ((.i (qu .i64 c0 (zw .i64 i13 i6)))::p0))))) (qO9 b2 (.br b0 (qOa ((.i (qu .i64 c0 (zw .i64 i13 i7)))::p0)) (.br b1 (qOa ((.i (qu .i64 c0 (zw .i64 i13 i8)))::p0)) (qO9 b2 (qOa ((.i (qu .i64 c0 (zw .i64 i13 i9)))::p0)))))))) (qO9 b2 (.br b0 (.br b0 (qOa ((.i (qu .i64 c0 (zw .i64 i14 i1)))::p0)) (.br b1 (qOa ((.i (qu .i64 c0 (zw .i64 i14 i2)))::p0)) (qO9 b2 (qOa ((.i (qu .i64 c0 (zw .i64 i14 i3)))::p0))))) (.br b1 (.br b0 (qOa ((.i (qu .i64 c0 (zw .i64 i14 i4)))::p0)) (.br b1 (qOa ((.i (qu .i64 c0 (zw .i64 i14 i5)))::p0)) (qO9 b2 (qOa ((.i (qu .i64 c0 (zw .i64 i14 i6)))::p0))))) (qO9 b2 (.br b0 (qOa ((.i (qu .i64 c0 (zw .i64 i14 i7)))::p0)) (.br b1 (qOa ((.i (qu .i64 c0 (zw .i64 i14 i8)))::p0)) (qO9 b2 (qOa ((.i (qu .i64 c0 (zw .i64 i14 i9)))::p0))))))))))) (qO9 b2 (.br b0 (.br b0 (.br b0 (qOa ((.i (qu .i64 c0 (zw .i64 i15 i1)))::p0)) (.br b1 (qOa ((.i (qu .i64 c0 (zw .i64 i15 i2)))::p0)) (qO9 b2 (qOa ((.i (qu .i64 c0 (zw .i64 i15 i3)))::p0))))) (.br b1 (.br b0 (qOa ((.i (qu .i64 c0 (zw .i64 i15 i4)))::p0)) (.br b1 (qOa ((.i (qu .i64 c0 (zw .i64 i15 i5)))::p0)) (qO9 b2 (qOa ((.i (qu .i64 c0 (zw .i64 i15 i6)))::p0))))) (qO9 b2 (.br b0 (qOa ((.i (qu .i64 c0 (zw .i64 i15 i7)))::p0)) (.br b1 (qOa ((.i (qu .i64 c0 (zw .i64 i15 i8)))::p0)) (qO9 b2 (qOa ((.i (qu .i64 c0 (zw .i64 i15 i9)))::p0)))))))) (.br b1 (.br b0 (.br b0 (qOa ((.i (qu .i64 c0 (zw .i64 i16 i1)))::p0)) (.br b1 (qOa ((.i (qu .i64 c0 (zw .i64 i16 i2)))::p0)) (qO9 b2 (qOa ((.i (qu .i64 c0 (zw .i64 i16 i3)))::p0))))) (.br b1 (.br b0 (qOa ((.i (qu .i64 c0 (zw .i64 i16 i4)))::p0)) (.br b1 (qOa ((.i (qu .i64 c0 (zw .i64 i16 i5)))::p0)) (qO9 b2 (qOa ((.i (qu .i64 c0 (zw .i64 i16 i6)))::p0))))) (qO9 b2 (.br b0 (qOa ((.i (qu .i64 c0 (zw .i64 i16 i7)))::p0)) (.br b1 (qOa ((.i (qu .i64 c0 (zw .i64 i16 i8)))::p0)) (qO9 b2 (qOa ((.i (qu .i64 c0 (zw .i64 i16 i9)))::p0)))))))) (qO9 b2 (.br b0 (.br b0 (qOa ((.i (qu .i64 c0 (zw .i64 i17 i1)))::p0)) (.br b1 (qOa ((.i (qu .i64 c0 (zw .i64 i17 i2)))::p0)) (qO9 b2 (qOa ((.i (qu .i64 c0 (zw .i64 i17 i3)))::p0))))) (.br b1 (.br b0 (qOa ((.i (qu .i64 c0 (zw .i64 i17 i4)))::p0)) (.br b1 (qOa ((.i (qu .i64 c0 (zw .i64 i17 i5)))::p0)) (qO9 b2 (qOa ((.i (qu .i64 c0 (zw .i64 i17 i6)))::p0))))) (qO9 b2 (.br b0 (qOa ((.i (qu .i64 c0 (zw .i64 i17 i7)))::p0)) (.br b1 (qOa ((.i (qu .i64 c0 (zw .i64 i17 i8)))::p0)) (qO9 b2 (qOa ((.i (qu .i64 c0 (zw .i64 i17 i9)))::p0)))))))))))))) (.leaf (1,[.i c0])))):=by kernel_rfl
theorem qvG:q1k [.i c0,.i c1,.i c2,.i c3,.i c4,.i c5,.i c6,.i c7,.i c8]=(let r0:=qC [.i c0,.i c1,.i c2];qO8 r0 (let r1:=qC [.i c3,.i c4,.i c5];qO8 r1 (let r2:=qC [.i c6,.i c7,.i c8];qO8 r2 (let r3:=qf q0B [.i 0,.i 0,.i (gI r0 0),.i (gI r0 1),.i (gI r0 2),.i (gI r1 0),.i (gI r1 1),.i (gI r1 2),.i (gI r2 0),.i (gI r2 1),.i (gI r2 2)];qO8 r3 (qOa [.i (gI r3 0)]))))):=by kernel_rfl
theorem qvd:j7 [.i c0]=(.br (ile 0 c0) (qOa [.b (ile c0 16)]) (qOa [.b false])):=by kernel_rfl
theorem qvn:kz [.i c0,.i c1,.r a2,.i c3]=(qO9 (inb (qu .i64 (zw .i64 c0 c3) c1) (qg a2)) (let r0:=qw [.i (cI a2 (qu .i64 (zw .i64 c0 c3) c1) 0)];qO8 r0 (qOa [.s (gS r0 0),.r a2,.i c3]))):=by kernel_rfl
theorem qg2:kj [.i c0,.i c1,.i c2,.i c3,.i c4,.i c5,.r a6,.i c7,.i c8,.i c9,.i c10,.i c11,.r a12]=(.br (ilt c5 c4) (let r0:=kz [.i c1,.i c5,.r a6,.i c7];qO8 r0 (qO9 (ile ((qg a12)+(qg [[.s (gS r0 0)]])) 8796093022208) (qOa [.i c0,.i c1,.i c2,.i c3,.i c4,.i (qu .i64 c5 1),.r (gR r0 1),.i (gI r0 2),.i c8,.i c9,.i c10,.i c11,.r (yB a12 [[.s (gS r0 0)]])]))) (.leaf (1,[.i c0,.i c2,.i c3,.r a6,.i c7,.i c8,.i c9,.i c10,.i c11,.r a12]))):=by kernel_rfl
theorem qhO:q0L [.i c0,.i c1,.i c2,.r a3,.i c4,.i c5,.i c6,.i c7,.i c8,.r a9]=(.br (ilt c2 c1) (let r0:=qf kj [.i c0,.i c2,.i c1,.i c2,.i c0,.i 0,.r a3,.i c4,.i c5,.i c6,.i c7,.i c8,.r a9];qO8 r0 (qOa [.i (gI r0 0),.i (gI r0 1),.i (qu .i64 (gI r0 2) 1),.r (gR r0 3),.i (gI r0 4),.i (gI r0 5),.i (gI r0 6),.i (gI r0 7),.i (gI r0 8),.r (gR r0 9)])) (.leaf (1,[.r a3,.i c4,.i c5,.i c6,.i c7,.i c8,.r a9]))):=by kernel_rfl
theorem qvJ:q7g [.i c0,.i c1,.r a2,.i c3]=(let r0:=qf q0L [.i c1,.i c0,.i 0,.r a2,.i c3,.i 0,.i 0,.i c0,.i c1,.r []];qO8 r0 (qOa [.i (gI r0 4),.i (gI r0 5),.r (gR r0 6),.r (gR r0 0),.i (gI r0 1)])):=by kernel_rfl
theorem qzo:qcn [.i c0,.i c1,.r a2]=(let r0:=j7 [.i c0];qO8 r0 (.br (not (gB r0 0)) (qOa [.i 0,.i 0,.r [],.i 2]) (let r1:=j7 [.i c1];qO8 r1 (.br (not (gB r1 0)) (qOa [.i 0,.i 0,.r [],.i 2]) (.br (ine (qg a2) (zw .i64 c0 c1)) (qOa [.i 0,.i 0,.r [],.i 8]) (let r2:=q7g [.i c0,.i c1,.r a2,.i c1];qO8 r2 (qOa [.i (gI r2 0),.i (gI r2 1),.r (gR r2 2),.i 0]))))))):=by kernel_rfl
theorem qd6:yd [.r a0,.i c1,.i c2]=(.br (ilt c2 c1) (qO9 (inb c2 (qg a0)) (let r0:=qQ [.s (cS a0 c2 0)];qO8 r0 (.br (ine (gI r0 0) 0) (.leaf (2,[.i (gI r0 0)])) (qOa [.r a0,.i c1,.i (qu .i64 c2 1)])))) (.leaf (1,[]))):=by kernel_rfl
theorem qpS:jg [.r a0]=(let r0:=qf yd [.r a0,.i (qg a0),.i 0];qO8 r0 (.br (jIs r0 0) (qOa [.i 0]) (qOa [.i (gI r0 0)]))):=by kernel_rfl
theorem qsS:jL [.i c0,.i c1,.r a2]=(qO8 (j7 [.i c0]) (.br (not (gB (j7 [.i c0]) 0)) (qOa [.i 2]) (qO8 (j7 [.i c1]) (.br (not (gB (j7 [.i c1]) 0)) (qOa [.i 2]) (.br (ine (qg a2) (zw .i64 c0 c1)) (qOa [.i 8]) (qO8 (jg [.r a2]) (qOa [.i (gI (jg [.r a2]) 0)]))))))):=by kernel_rfl
theorem qv9:q47 [.s e0,.s e1,.s e2,.s e3,.i c4]=(let r0:=qo [.r [[.s e0],[.s e2]],.i c4];qO8 r0 (let r1:=qo [.r [[.s e1],[.s e3]],.i (gI r0 1)];qO8 r1 (qOa [.s (gS r0 0),.s (gS r1 0),.i (gI r1 1)]))):=by kernel_rfl
theorem qf5:vw [.s e0,.s e1]=(let r0:=qA [.r [[.s e0],[.s e1]]];qO8 r0 (.br (ine (gI r0 0) 0) (qOa [.s [],.i (gI r0 0)]) (let r1:=qW [.s e0];qO8 r1 (let r2:=qW [.s e1];qO8 r2 (let r3:=q47 [.s (gS r1 0),.s (gS r1 1),.s (gS r2 0),.s (gS r2 1),.i 0];qO8 r3 (.br (ine (gI r3 2) 0) (qOa [.s [],.i (gI r3 2)]) (.br (seq (gS r3 1) [48]) (qOa [.s [],.i 10]) (let r4:=qB [.s (gS r3 0),.s (gS r3 1),.i (gI r3 2)];qO8 r4 (qOa [.s (gS r4 0),.i (gI r4 1)]))))))))):=by kernel_rfl
theorem qA4:wv [.s e0,.s e1]=(let r0:=vw [.s e0,.s e1];qO8 r0 (qOa [.s (gS r0 0),.i (gI r0 1)])):=by kernel_rfl
theorem qv4:q41 [.s e0,.s e1,.s e2,.s e3,.i c4]=(let r0:=qo [.r [[.s e0],[.s e3]],.i c4];qO8 r0 (let r1:=qo [.r [[.s e1],[.s e2]],.i (gI r0 1)];qO8 r1 (qOa [.s (gS r0 0),.s (gS r1 0),.i (gI r1 1)]))):=by kernel_rfl
theorem qfs:vl [.s e0,.s e1]=(let r0:=qA [.r [[.s e0],[.s e1]]];qO8 r0 (.br (ine (gI r0 0) 0) (qOa [.s [],.i (gI r0 0)]) (let r1:=qW [.s e0];qO8 r1 (let r2:=qW [.s e1];qO8 r2 (let r3:=q41 [.s (gS r1 0),.s (gS r1 1),.s (gS r2 0),.s (gS r2 1),.i 0];qO8 r3 (.br (ine (gI r3 2) 0) (qOa [.s [],.i (gI r3 2)]) (.br (seq (gS r3 1) [48]) (qOa [.s [],.i 10]) (let r4:=qB [.s (gS r3 0),.s (gS r3 1),.i (gI r3 2)];qO8 r4 (qOa [.s (gS r4 0),.i (gI r4 1)]))))))))):=by kernel_rfl
theorem qzU:q5P [.s e0,.s e1]=(let r0:=qA [.r [[.s e0],[.s e1]]];qO8 r0 (.br (ine (gI r0 0) 0) (qOa [.s [],.i (gI r0 0)]) (.br (seq e1 [48]) (qOa [.s [],.i 10]) (let r1:=vl [.s e0,.s e1];qO8 r1 (qOa [.s (gS r1 0),.i (gI r1 1)]))))):=by kernel_rfl
theorem qdn:wV [.s e0,.s e1,.i c2]=(.br (ine c2 0) (qOa [.s [48],.i c2]) (let r0:=q34 [.s e0,.s e1];qO8 r0 (.br (ine (gI r0 1) 0) (qOa [.s [48],.i (gI r0 1)]) (qOa [.s (gS r0 0),.i (gI r0 1)])))):=by kernel_rfl
theorem qqC:q1X [.s e0,.s e1,.i c2]=(let r0:=wV [.s e0,.s e1,.i c2];qO8 r0 (qOa [.s (gS r0 0),.i (gI r0 1)])):=by kernel_rfl
theorem qvF:q3G [.s e0,.s e1,.s e2,.s e3,.i c4]=(let r0:=qo [.r [[.s e0],[.s e3]],.i c4];qO8 r0 (let r1:=qo [.r [[.s e2],[.s e1]],.i (gI r0 1)];qO8 r1 (let r2:=q1X [.s (gS r0 0),.s (gS r1 0),.i (gI r1 1)];qO8 r2 (let r3:=qo [.r [[.s e1],[.s e3]],.i (gI r2 1)];qO8 r3 (qOa [.s (gS r2 0),.s (gS r3 0),.i (gI r3 1)]))))):=by kernel_rfl
theorem qey:ve [.s e0,.s e1]=(let r0:=qA [.r [[.s e0],[.s e1]]];qO8 r0 (.br (ine (gI r0 0) 0) (qOa [.s [],.i (gI r0 0)]) (let r1:=qW [.s e0];qO8 r1 (let r2:=qW [.s e1];qO8 r2 (let r3:=q3G [.s (gS r1 0),.s (gS r1 1),.s (gS r2 0),.s (gS r2 1),.i 0];qO8 r3 (.br (ine (gI r3 2) 0) (qOa [.s [],.i (gI r3 2)]) (.br (seq (gS r3 1) [48]) (qOa [.s [],.i 10]) (let r4:=qB [.s (gS r3 0),.s (gS r3 1),.i (gI r3 2)];qO8 r4 (qOa [.s (gS r4 0),.i (gI r4 1)]))))))))):=by kernel_rfl
theorem qze:jn [.s e0,.s e1]=(let r0:=ve [.s e0,.s e1];qO8 r0 (qOa [.s (gS r0 0),.i (gI r0 1)])):=by kernel_rfl
theorem qlc:v7 [.s e0,.i c1,.i c2]=(let t0:TR:=(.br (ine c2 0) (qOa [.s [48],.i c2]) (qOa [.s e0,.i c2]));(.br (ine c1 0) (.br (ieq c2 0) (.br (ine c1 0) (qOa [.s [48],.i c1]) (qOa [.s e0,.i c1])) t0) t0)):=by kernel_rfl
theorem qnz:kO [.s e0,.s e1,.i c2]=(let r0:=jn [.s e0,.s e1];qO8 r0 (let r1:=v7 [.s (gS r0 0),.i (gI r0 1),.i c2];qO8 r1 (qOa [.s (gS r1 0),.i (gI r1 1)]))):=by kernel_rfl
theorem qnc:kJ [.s e0,.s e1,.i c2]=(let r0:=wv [.s e0,.s e1];qO8 r0 (let r1:=v7 [.s (gS r0 0),.i (gI r0 1),.i c2];qO8 r1 (qOa [.s (gS r1 0),.i (gI r1 1)]))):=by kernel_rfl
theorem quH:q4J [.i c0,.i c1,.r a2,.i c3,.i c4]=(qO9 (inb (qu .i64 (zw .i64 c3 c1) c4) (qg a2)) (qOa [.s (cS a2 (qu .i64 (zw .i64 c3 c1) c4) 0)])):=by kernel_rfl
theorem qdC:uk [.r a0,.i c1,.s e2,.i c3,.i c4,.r a5,.i c6,.i c7,.i c8,.i c9,.r a10,.i c11,.r a12]=(.br (ilt c7 c6) (qO9 (inb c7 (qg a5)) (let r0:=q4J [.i c8,.i c9,.r a10,.i c1,.i c7];qO8 r0 (let r1:=kJ [.s (gS r0 0),.s (cS a5 c7 0),.i c11];qO8 r1 (let r2:=kO [.s e2,.s (gS r1 0),.i (gI r1 1)];qO8 r2 (qOa [.r a0,.i c1,.s (gS r2 0),.i c3,.i c4,.r a5,.i c6,.i (qu .i64 c7 1),.i c8,.i c9,.r a10,.i (gI r2 1),.r a12]))))) (.leaf (1,[.r a0,.s e2,.i c3,.i c4,.i c8,.i c9,.r a10,.i c11,.r a12]))):=by kernel_rfl
theorem qdY:ug [.r a0,.i c1,.i c2,.i c3,.i c4,.r a5,.i c6,.r a7]=(.br (ilt c2 c1) (let r0:=qf uk [.r a0,.i c2,.s [48],.i c1,.i c2,.r a0,.i (qg a0),.i 0,.i c3,.i c4,.r a5,.i c6,.r a7];qO8 r0 (qO9 (ile ((qg (gR r0 8))+(qg [[.s (gS r0 1)]])) 8796093022208) (qOa [.r (gR r0 0),.i (gI r0 2),.i (qu .i64 (gI r0 3) 1),.i (gI r0 4),.i (gI r0 5),.r (gR r0 6),.i (gI r0 7),.r (yB (gR r0 8) [[.s (gS r0 1)]])]))) (.leaf (1,[.i c6,.r a7]))):=by kernel_rfl
theorem qsC:q4P [.i c0,.i c1,.r a2,.r a3]=(let r0:=jL [.i c0,.i c1,.r a2];qO8 r0 (.br (ine (gI r0 0) 0) (qOa [.r [],.i (gI r0 0)]) (.br (ine (qg a3) c1) (qOa [.r [],.i 8]) (let r1:=jg [.r a3];qO8 r1 (.br (ine (gI r1 0) 0) (qOa [.r [],.i (gI r1 0)]) (let r2:=qf ug [.r a3,.i c0,.i 0,.i c0,.i c1,.r a2,.i 0,.r []];qO8 r2 (.br (ine (gI r2 0) 0) (qOa [.r [],.i (gI r2 0)]) (qOa [.r (gR r2 1),.i 0])))))))):=by kernel_rfl
theorem qjs:q27 [.s e0,.r a1,.i c2,.i c3]=(.br (ilt c3 c2) (qO9 (inb c3 (qg a1)) (let r0:=jn [.s e0,.s (cS a1 c3 0)];qO8 r0 (.br (ine (gI r0 1) 0) (.leaf (2,[.s [],.i (gI r0 1)])) (qOa [.s (gS r0 0),.r a1,.i c2,.i (qu .i64 c3 1)])))) (.leaf (1,[.s e0]))):=by kernel_rfl
theorem qzE:qcq [.r a0]=(.br (ilt 4096 (qg a0)) (qOa [.s [],.i 5]) (let r0:=qA [.r a0];qO8 r0 (.br (ine (gI r0 0) 0) (qOa [.s [],.i (gI r0 0)]) (let r1:=qf q27 [.s [48],.r a0,.i (qg a0),.i 0];qO8 r1 (.br (jIs r1 0) (qOa [.s (gS r1 0),.i 0]) (qOa [.s (gS r1 0),.i (gI r1 1)])))))):=by kernel_rfl
theorem uX:qK [.r a0,.s e1,.r a2,.i c3,.i c4]=(.br (ilt c4 c3) (qO9 (inb c4 (qg a2)) (qO9 (inb c4 (qg a0)) (let r0:=wv [.s (cS a2 c4 0),.s (cS a0 c4 0)];qO8 r0 (.br (ine (gI r0 1) 0) (.leaf (2,[.s [],.i (gI r0 1)])) (let r1:=jn [.s e1,.s (gS r0 0)];qO8 r1 (.br (ine (gI r1 1) 0) (.leaf (2,[.s [],.i (gI r1 1)])) (qOa [.r a0,.s (gS r1 0),.r a2,.i c3,.i (qu .i64 c4 1)]))))))) (.leaf (1,[.s e1]))):=by kernel_rfl
theorem q7X:qy [.r a0,.r a1]=(let r0:=qf qK [.r a1,.s [48],.r a0,.i (qg a0),.i 0];qO8 r0 (.br (jIs r0 0) (qOa [.s (gS r0 0),.i 0]) (qOa [.s (gS r0 0),.i (gI r0 1)]))):=by kernel_rfl
theorem qfW:km [.i c0,.i c1,.i c2,.i c3,.s e4,.s e5,.s e6,.r a7]=(let t0:=qw [.i (qsm [c0,c1,c2] c3)];let p0:List PV:=[.s (gS t0 0)];let t1:=zJ ((.s e6)::p0);let i0:Int:=(qu .i64 c3 1);let t2:=zJ ((.s e5)::p0);let t3:=zJ ((.s e4)::p0);(.br (ilt c3 3) (qO9 (inb c3 3) (.br (ieq c3 2) (qO8 t0 (qO8 t1 (.br (ine (gI t1 1) 0) (.leaf (2,[.s [],.i (gI t1 1)])) (qO9 (ile ((qg a7)+(qg [[.s (gS t1 0)]])) 8796093022208) (qOa [.i c0,.i c1,.i c2,.i i0,.s e4,.s e5,.s e6,.r (yB a7 [[.s (gS t1 0)]])]))))) (.br (ieq c3 1) (qO8 t0 (qO8 t2 (.br (ine (gI t2 1) 0) (.leaf (2,[.s [],.i (gI t2 1)])) (qO9 (ile ((qg a7)+(qg [[.s (gS t2 0)]])) 8796093022208) (qOa [.i c0,.i c1,.i c2,.i i0,.s e4,.s e5,.s e6,.r (yB a7 [[.s (gS t2 0)]])]))))) (qO9 (ieq c3 0) (qO8 t0 (qO8 t3 (.br (ine (gI t3 1) 0) (.leaf (2,[.s [],.i (gI t3 1)])) (qO9 (ile ((qg a7)+(qg [[.s (gS t3 0)]])) 8796093022208) (qOa [.i c0,.i c1,.i c2,.i i0,.s e4,.s e5,.s e6,.r (yB a7 [[.s (gS t3 0)]])]))))))))) (.leaf (1,[.r a7])))):=by kernel_rfl
theorem qth:vN [.s e0,.s e1,.s e2,.i c3,.i c4,.i c5]=(let r0:=qC [.i c3,.i c4,.i c5];qO8 r0 (let r1:=qf km [.i (gI r0 0),.i (gI r0 1),.i (gI r0 2),.i 0,.s e0,.s e1,.s e2,.r []];qO8 r1 (.br (jIs r1 0) (let r2:=qy [.r (gR r1 0),.r (gR r1 0)];qO8 r2 (qOa [.s (gS r2 0),.i (gI r2 1)])) (qOa [.s (gS r1 0),.i (gI r1 1)])))):=by kernel_rfl
theorem qaK:jr [.r a0,.i c1,.i c2,.i c3,.i c4,.i c5,.i c6,.s e7,.s e8,.s e9,.s e10,.r a11,.r a12]=(.br (ilt c6 c5) (qO9 (inb 0 (qg a0)) (qO9 (inb (qu .i64 c2 1) (qg a0)) (qO9 (inb (qu .i64 c6 1) (qg a0)) (let r0:=q1k [.i (cI a0 0 0),.i (cI a0 0 1),.i (cI a0 0 2),.i (cI a0 (qu .i64 c2 1) 0),.i (cI a0 (qu .i64 c2 1) 1),.i (cI a0 (qu .i64 c2 1) 2),.i (cI a0 (qu .i64 c6 1) 0),.i (cI a0 (qu .i64 c6 1) 1),.i (cI a0 (qu .i64 c6 1) 2)];qO8 r0 (qO9 (ile ((qg a11)+(qg [[.i (zw .i64 2 (gI r0 0))]])) 17592186044416) (qOa [.r a0,.i c1,.i c2,.i c3,.i c4,.i c5,.i (qu .i64 c6 1),.s e7,.s e8,.s e9,.s e10,.r (yB a11 [[.i (zw .i64 2 (gI r0 0))]]),.r a12])))))) (.leaf (1,[.r a0,.i c1,.i c2,.i c3,.i c4,.s e7,.s e8,.s e9,.s e10,.r a11,.r a12]))):=by kernel_rfl
theorem qbV:jW [.r a0,.i c1,.i c2,.i c3,.s e4,.s e5,.s e6,.s e7,.r a8,.r a9]=(let p0:List PV:=[.s e4,.s e5,.s e6,.s e7,.r a8,.r a9];let t0:=qf jr ((.r a0)::(.i c1)::(.i c3)::(.i c2)::(.i c3)::(.i c1)::(.i 0)::p0);let l0:R:=(gR t0 0);let i0:Int:=(qu .i64 (gI t0 2) 1);let t1:=q1k [.i (cI l0 0 0),.i (cI l0 0 1),.i (cI l0 0 2),.i (cI l0 i0 0),.i (cI l0 i0 1),.i (cI l0 i0 2),.i (cI l0 i0 0),.i (cI l0 i0 1),.i (cI l0 i0 2)];let t2:=qw [.i (gI t1 0)];(.br (ilt c3 c2) (qO8 t0 (qO9 (inb 0 (qg l0)) (qO9 (inb i0 (qg l0)) (qO9 (inb i0 (qg l0)) (qO8 t1 (qO8 t2 (qO9 (ile ((qg (gR t0 10))+(qg [[.s (gS t2 0)]])) 8796093022208) (qOa [.r l0,.i (gI t0 1),.i (gI t0 3),.i (qu .i64 (gI t0 4) 1),.s (gS t0 5),.s (gS t0 6),.s (gS t0 7),.s (gS t0 8),.r (gR t0 9),.r (yB (gR t0 10) [[.s (gS t2 0)]])])))))))) (.leaf (1,((.r a0)::(.i c1)::p0))))):=by kernel_rfl
theorem qaP:jp [.r a0,.i c1,.i c2,.r a3,.i c4,.i c5,.s e6,.s e7,.s e8,.s e9,.r a10,.s e11,.s e12,.s e13,.s e14,.r a15]=(.br (ilt c5 c4) (qO9 (inb c5 (qg a3)) (let r0:=qC [.i (cI a3 c5 0),.i (cI a3 c5 1),.i (cI a3 c5 2)];qO8 r0 (qO9 (inb c1 3) (let r1:=qw [.i (qsm [(gI r0 0),(gI r0 1),(gI r0 2)] c1)];qO8 r1 (qO9 (ile ((qg a15)+(qg [[.s (gS r1 0)]])) 8796093022208) (qOa [.r a0,.i c1,.i c2,.r a3,.i c4,.i (qu .i64 c5 1),.s e6,.s e7,.s e8,.s e9,.r a10,.s e11,.s e12,.s e13,.s e14,.r (yB a15 [[.s (gS r1 0)]])])))))) (.leaf (1,[.r a0,.i c1,.i c2,.s e6,.s e7,.s e8,.s e9,.r a10,.s e11,.s e12,.s e13,.s e14,.r a15]))):=by kernel_rfl
theorem qaY:jt [.r a0,.i c1,.s e2,.s e3,.s e4,.s e5,.r a6,.s e7,.s e8,.s e9,.s e10]=(let t0:=qf jp [.r a0,.i c1,.i c1,.r a0,.i (qg a0),.i 0,.s e2,.s e3,.s e4,.s e5,.r a6,.s e7,.s e8,.s e9,.s e10,.r []];let l0:R:=(gR t0 7);let t1:=qy [.r l0,.r (gR t0 12)];let b0:Bool:=(ine (gI t1 1) 0);let t2:TR:=(.leaf (2,[.b false,.i (gI t1 1),.s [],.s [],.s [],.s []]));let i0:Int:=(qu .i64 (gI t0 2) 1);let p0:List PV:=[.s (gS t0 10),.s (gS t0 11)];(.br (ilt c1 3) (qO8 t0 (qO8 t1 (.br (ieq (gI t0 1) 2) (.br b0 t2 (qOa [.r (gR t0 0),.i i0,.s (gS t0 3),.s (gS t0 4),.s (gS t0 5),.s (gS t0 6),.r l0,.s (gS t0 8),.s (gS t0 9),.s (gS t1 0),.s (gS t0 11)])) (.br (ieq (gI t0 1) 1) (.br b0 t2 (qOa ((.r (gR t0 0))::(.i i0)::(.s (gS t0 3))::(.s (gS t0 4))::(.s (gS t0 5))::(.s (gS t0 6))::(.r l0)::(.s (gS t0 8))::(.s (gS t1 0))::p0))) (qO9 (ieq (gI t0 1) 0) (.br b0 t2 (qOa ((.r (gR t0 0))::(.i i0)::(.s (gS t0 3))::(.s (gS t0 4))::(.s (gS t0 5))::(.s (gS t0 6))::(.r l0)::(.s (gS t1 0))::(.s (gS t0 9))::p0)))))))) (.leaf (1,[.r a0,.s e2,.s e3,.s e4,.s e5,.r a6,.s e7,.s e8,.s e9,.s e10])))):=by kernel_rfl
theorem qfO:ku [.r a0]=(let r0:=qf jW [.r a0,.i (yC .i64 (qg a0) 1),.i (yC .i64 (qg a0) 1),.i 0,.s [],.s [],.s [],.s [],.r [],.r []];qO8 r0 (let r1:=qcn [.i (gI r0 1),.i (gI r0 1),.r (gR r0 6)];qO8 r1 (.br (ine (gI r1 3) 0) (qOa [.s [],.s [],.s [],.s [],.r [],.b false,.i (gI r1 3)]) (let r2:=yo [.i (gI r1 0),.i (gI r1 1),.r (gR r1 2)];qO8 r2 (.br (ieq (gI r2 3) 14) (qOa [.s [],.s [],.s [],.s [],.r [],.b false,.i 0]) (.br (ine (gI r2 3) 0) (qOa [.s [],.s [],.s [],.s [],.r [],.b false,.i (gI r2 3)]) (let r3:=q4P [.i (gI r2 0),.i (gI r2 1),.r (gR r2 2),.r (gR r0 7)];qO8 r3 (.br (ine (gI r3 1) 0) (qOa [.s [],.s [],.s [],.s [],.r [],.b false,.i (gI r3 1)]) (let r4:=qcq [.r (gR r3 0)];qO8 r4 (.br (ine (gI r4 1) 0) (qOa [.s [],.s [],.s [],.s [],.r [],.b false,.i (gI r4 1)]) (let r5:=zJ [.s [49],.s (gS r4 0)];qO8 r5 (.br (ine (gI r5 1) 0) (qOa [.s [],.s [],.s [],.s [],.r [],.b false,.i (gI r5 1)]) (qO9 (ile ((qg [[.s (gS r5 0)]])+(qg (gR r3 0))) 8796093022208) (let r6:=qf jt [.r (gR r0 0),.i 0,.s (gS r0 2),.s (gS r0 3),.s (gS r0 4),.s (gS r0 5),.r (yB [[.s (gS r5 0)]] (gR r3 0)),.s [],.s [],.s [],.s []];qO8 r6 (.br (jIs r6 0) (qO9 (inb 0 (qg (gR r6 0))) (let r7:=vN [.s (gS r6 6),.s (gS r6 7),.s (gS r6 8),.i (cI (gR r6 0) 0 0),.i (cI (gR r6 0) 0 1),.i (cI (gR r6 0) 0 2)];qO8 r7 (qOa [.s (gS r6 6),.s (gS r6 7),.s (gS r6 8),.s (gS r7 0),.r (gR r6 5),.b true,.i (gI r7 1)]))) (qOa [.s (gS r6 2),.s (gS r6 3),.s (gS r6 4),.s (gS r6 5),.r [],.b (gB r6 0),.i (gI r6 1)])))))))))))))))):=by kernel_rfl
theorem qcu:jU [.r a0,.r a1,.i c2,.i c3,.r a4]=(.br (ilt c3 c2) (qO9 (inb c3 (qg a1)) (qO9 (inb (cI a1 c3 0) (qg a0)) (qO9 (ile ((qg a4)+(qg [[.i (cI a0 (cI a1 c3 0) 0),.i (cI a0 (cI a1 c3 0) 1),.i (cI a0 (cI a1 c3 0) 2)]])) 5864062014805) (qOa [.r a0,.r a1,.i c2,.i (qu .i64 c3 1),.r (yB a4 [[.i (cI a0 (cI a1 c3 0) 0),.i (cI a0 (cI a1 c3 0) 1),.i (cI a0 (cI a1 c3 0) 2)]])])))) (.leaf (1,[.r a4]))):=by kernel_rfl
theorem qpV:q1S [.r a0,.r a1]=(let r0:=qf jU [.r a0,.r a1,.i (qg a1),.i 0,.r []];qO8 r0 (qOa [.r (gR r0 0)])):=by kernel_rfl
theorem qvK:q7u [.s e0]=(let r0:=qQ [.s e0];qO8 r0 (.br (ine (gI r0 0) 0) (qOa [.s [],.s [],.i (gI r0 0)]) (let r1:=qW [.s e0];qO8 r1 (qOa [.s (gS r1 0),.s (gS r1 1),.i 0])))):=by kernel_rfl
theorem qxg:q9t [.s e0]=(let r0:=qG [.s e0];qO8 r0 (.br (ine (gI r0 0) 0) (qOa [.i 0,.i (gI r0 0)]) (let r1:=ub [.s e0];qO8 r1 (qOa [.i (gI r1 0),.i 0])))):=by kernel_rfl
theorem qwN:q67 [.s e0]=(let r0:=q7u [.s e0];qO8 r0 (.br (ine (gI r0 2) 0) (qOa [.i 0,.i (gI r0 2)]) (let r1:=q9t [.s (gS r0 0)];qO8 r1 (qOa [.i (gI r1 0),.i (gI r1 1)])))):=by kernel_rfl
theorem qdq:qR [.s e0]=(qO8 (q67 [.s e0]) (qOa [.b (ilt (gI (q67 [.s e0]) 0) 0)])):=by kernel_rfl
theorem wA:qv [.r a0,.i c1,.i c2]=(.br (ilt c2 c1) (qO9 (inb c2 (qg a0)) (let r0:=qR [.s (cS a0 c2 0)];qO8 r0 (.br (gB r0 0) (.leaf (2,[.i c2])) (qOa [.r a0,.i c1,.i (qu .i64 c2 1)])))) (.leaf (1,[]))):=by kernel_rfl
theorem uF:qJ [.r a0]=(let r0:=qf qv [.r a0,.i (qg a0),.i 0];qO8 r0 (.br (jIs r0 0) (qOa [.i (-1)]) (qOa [.i (gI r0 0)]))):=by kernel_rfl
theorem q4b:qN [.r a0]=(let r0:=qJ [.r a0];qO8 r0 (qOa [.b (ile 0 (gI r0 0))])):=by kernel_rfl
theorem qgn:j3 [.s e0,.s e1,.s e2,.s e3,.r a4]=(let r0:=qN [.r a4];qO8 r0 (qOa [.b (not (gB r0 0))])):=by kernel_rfl
theorem qrw:qP [.s e0,.s e1]=(let r0:=qA [.r [[.s e0],[.s e1]]];qO8 r0 (.br (ine (gI r0 0) 0) (qOa [.i 0,.i (gI r0 0)]) (let r1:=qW [.s e0];qO8 r1 (let r2:=qW [.s e1];qO8 r2 (let r3:=qo [.r [[.s (gS r1 0)],[.s (gS r2 1)]],.i 0];qO8 r3 (let r4:=qo [.r [[.s (gS r2 0)],[.s (gS r1 1)]],.i (gI r3 1)];qO8 r4 (.br (ine (gI r4 1) 0) (qOa [.i 0,.i (gI r4 1)]) (let r5:=uD [.s (gS r3 0),.s (gS r4 0)];qO8 r5 (qOa [.i (gI r5 0),.i (gI r5 1)]))))))))):=by kernel_rfl
theorem u9:qV [.r a0,.i c1,.i c2,.s e3,.s e4,.s e5,.s e6,.r a7]=(.br (ilt c2 c1) (qO9 (inb c2 (qg a0)) (let r0:=vN [.s e3,.s e4,.s e5,.i (cI a0 c2 0),.i (cI a0 c2 1),.i (cI a0 c2 2)];qO8 r0 (.br (ine (gI r0 1) 0) (.leaf (2,[.b false,.i (gI r0 1)])) (let r1:=qP [.s (gS r0 0),.s e6];qO8 r1 (.br (ine (gI r1 1) 0) (.leaf (2,[.b false,.i (gI r1 1)])) (.br (ilt 0 (gI r1 0)) (.leaf (2,[.b false,.i (gI r1 1)])) (qOa [.r a0,.i c1,.i (qu .i64 c2 1),.s e3,.s e4,.s e5,.s e6,.r a7]))))))) (.leaf (1,[]))):=by kernel_rfl
theorem qdw:wQ [.s e0,.s e1,.s e2,.s e3,.r a4,.r a5]=(let r0:=qf qV [.r a5,.i (qg a5),.i 0,.s e0,.s e1,.s e2,.s e3,.r a4];qO8 r0 (.br (jIs r0 0) (qOa [.b true,.i 0]) (qOa [.b (gB r0 0),.i (gI r0 1)]))):=by kernel_rfl
theorem qaU:zW [.r a0,.r a1]=(let t0:=q1S [.r a0,.r a1];let t1:=ku [.r (gR t0 0)];let t2:TR:=(qOa [.s [],.s [],.s [],.s [],.r [],.b false,.i (gI t1 6)]);let t3:=j3 [.s (gS t1 0),.s (gS t1 1),.s (gS t1 2),.s (gS t1 3),.r (gR t1 4)];let t4:=wQ [.s (gS t1 0),.s (gS t1 1),.s (gS t1 2),.s (gS t1 3),.r (gR t1 4),.r a0];(qO8 t0 (qO8 t1 (.br (ine (gI t1 6) 0) t2 (.br (not (gB t1 5)) t2 (qO8 t3 (.br (not (gB t3 0)) t2 (qO8 t4 (qOa [.s (gS t1 0),.s (gS t1 1),.s (gS t1 2),.s (gS t1 3),.r (gR t1 4),.b (gB t4 0),.i (gI t4 1)]))))))))):=by kernel_rfl
theorem q1L:qE [.r a0,.i c1,.i c2,.i c3,.i c4,.i c5,.r a6,.s e7,.s e8,.s e9,.s e10,.i c11,.i c12,.i c13,.r a14,.r a15]=(.br (ilt c1 c12) (let r0:=wH [.r a0];qO8 r0 (qO9 (ile ((qg (gR r0 0))+(qg [[.i c1]])) 17592186044416) (qO9 (ile ((qg a15)+(qg [[.l (yB (gR r0 0) [[.i c1]])]])) 5864062014805) (let r1:=zW [.r a6,.r (yB (gR r0 0) [[.i c1]])];qO8 r1 (.br (ine (gI r1 6) 0) .fail (.br (gB r1 5) (.leaf (2,[.r a6,.s (gS r1 0),.s (gS r1 1),.s (gS r1 2),.s (gS r1 3),.r (gR r1 4),.i 0,.i c12,.i c13,.r (yB (gR r0 0) [[.i c1]])])) (qOa [.r a0,.i (qu .i64 c1 1),.i c2,.i c3,.i c4,.i c5,.r a6,.s e7,.s e8,.s e9,.s e10,.i c11,.i c12,.i c13,.r a14,.r (yB a15 [[.l (yB (gR r0 0) [[.i c1]])]])]))))))) (.leaf (1,[.i c2,.i c3,.i c4,.i c5,.r a6,.s e7,.s e8,.s e9,.s e10,.i c11,.i c12,.i c13,.r a14,.r a15]))):=by kernel_rfl
theorem q2y:vr [.i c0,.i c1,.i c2,.i c3,.r a4,.s e5,.s e6,.s e7,.s e8,.i c9,.i c10,.i c11,.r a12,.r a13]=(let l0:R:=(cR a12 c3 0);let i0:Int:=(qg l0);let p0:List PV:=[.i c0,.i c1,.i c2,.i c3,.r a4,.s e5,.s e6,.s e7,.s e8,.i c9,.i c10,.i c11,.r a12,.r a13];let t0:=qf qE ((.r l0)::(.i (qu .i64 (cI l0 (yC .i64 i0 1) 0) 1))::p0);let t1:=qf qE ((.r l0)::(.i 0)::p0);(.br (ilt c3 c2) (qO9 (inb c3 (qg a12)) (.br (ilt 0 i0) (qO9 (inb (yC .i64 i0 1) i0) (qO8 t0 (.br (jIs t0 0) (qOa [.i (gI t0 0),.i (gI t0 1),.i (gI t0 2),.i (qu .i64 (gI t0 3) 1),.r (gR t0 4),.s (gS t0 5),.s (gS t0 6),.s (gS t0 7),.s (gS t0 8),.i (gI t0 9),.i (gI t0 10),.i (gI t0 11),.r (gR t0 12),.r (gR t0 13)]) (.leaf (2,[.r (gR t0 0),.s (gS t0 1),.s (gS t0 2),.s (gS t0 3),.s (gS t0 4),.r (gR t0 5),.i (gI t0 6),.i (gI t0 7),.i (gI t0 8),.r (gR t0 9)]))))) (qO8 t1 (.br (jIs t1 0) (qOa [.i (gI t1 0),.i (gI t1 1),.i (gI t1 2),.i (qu .i64 (gI t1 3) 1),.r (gR t1 4),.s (gS t1 5),.s (gS t1 6),.s (gS t1 7),.s (gS t1 8),.i (gI t1 9),.i (gI t1 10),.i (gI t1 11),.r (gR t1 12),.r (gR t1 13)]) (.leaf (2,[.r (gR t1 0),.s (gS t1 1),.s (gS t1 2),.s (gS t1 3),.s (gS t1 4),.r (gR t1 5),.i (gI t1 6),.i (gI t1 7),.i (gI t1 8),.r (gR t1 9)])))))) (.leaf (1,[.i c0,.i c1,.r a4,.s e5,.s e6,.s e7,.s e8,.i c9,.i c10,.i c11,.r a13])))):=by kernel_rfl
theorem q2u:vd [.i c0,.i c1,.r a2,.s e3,.s e4,.s e5,.s e6,.i c7,.i c8,.i c9,.r a10]=(.br (ilt c1 c0) (let r0:=qf vr [.i c0,.i c1,.i (qg a10),.i 0,.r a2,.s e3,.s e4,.s e5,.s e6,.i c7,.i c8,.i c9,.r a10,.r []];qO8 r0 (.br (jIs r0 0) (qOa [.i (gI r0 0),.i (qu .i64 (gI r0 1) 1),.r (gR r0 2),.s (gS r0 3),.s (gS r0 4),.s (gS r0 5),.s (gS r0 6),.i (gI r0 7),.i (gI r0 8),.i (gI r0 9),.r (gR r0 10)]) (.leaf (2,[.r (gR r0 0),.s (gS r0 1),.s (gS r0 2),.s (gS r0 3),.s (gS r0 4),.r (gR r0 5),.i (gI r0 6),.i (gI r0 7),.i (gI r0 8),.r (gR r0 9)])))) (.leaf (1,[.r a2,.s e3,.s e4,.s e5,.s e6,.i c7,.i c8,.i c9]))):=by kernel_rfl
theorem qrJ:q15 [.r a0,.i c1]=(let r0:=qf vd [.i c1,.i 0,.r a0,.s [],.s [],.s [],.s [],.i 0,.i (qg a0),.i c1,.r [[.l []]]];qO8 r0 (.br (jIs r0 0) (qOa [.s [],.s [],.s [],.s [],.r [],.r [],.i 6]) (qOa [.s (gS r0 1),.s (gS r0 2),.s (gS r0 3),.s (gS r0 4),.r (gR r0 5),.r (gR r0 9),.i (gI r0 6)]))):=by kernel_rfl
theorem qcI:yf [.r a0,.i c1,.i c2,.r a3]=(.br (ilt c2 c1) (qO9 (inb c2 (qg a0)) (qO9 (ile ((qg a3)+(qg [[.i (cI a0 c2 0),.i (cI a0 c2 1),.i 0]])) 5864062014805) (qOa [.r a0,.i c1,.i (qu .i64 c2 1),.r (yB a3 [[.i (cI a0 c2 0),.i (cI a0 c2 1),.i 0]])]))) (.leaf (1,[.r a3]))):=by kernel_rfl
theorem qq9:q1Z [.r a0]=(let r0:=qf yf [.r a0,.i (qg a0),.i 0,.r []];qO8 r0 (qOa [.r (gR r0 0)])):=by kernel_rfl
theorem qgA:uP [.s e0,.s e1,.s e2,.s e3,.r a4]=(qOa [.s e0,.s e1]):=by kernel_rfl
theorem qpF:kr [.r a0]=(let r0:=q4O [.r a0];qO8 r0 (.br (ine (gI r0 0) 0) (qOa [.s [],.s [],.s [],.r [],.i (gI r0 0)]) (let r1:=q1Z [.r a0];qO8 r1 (let r2:=q15 [.r (gR r1 0),.i 3];qO8 r2 (.br (ine (gI r2 6) 0) (qOa [.s [],.s [],.s [],.r [],.i (gI r2 6)]) (let r3:=uP [.s (gS r2 0),.s (gS r2 1),.s (gS r2 2),.s (gS r2 3),.r (gR r2 4)];qO8 r3 (qOa [.s (gS r3 0),.s (gS r3 1),.s (gS r2 3),.r (gR r2 5),.i 0]))))))):=by kernel_rfl
theorem qAh:jS [.r a0,.i c1]=(let r0:=kr [.r a0];qO8 r0 (.br (ine (gI r0 4) 0) (qOa [.b false,.i (gI r0 4)]) (.br (ilt c1 0) (qOa [.b false,.i 2]) (.br (ilt 100000 c1) (qOa [.b false,.i 2]) (let r1:=wv [.s [52],.s (gS r0 2)];qO8 r1 (.br (ine (gI r1 1) 0) (qOa [.b false,.i (gI r1 1)]) (let r2:=qw [.i (zw .i64 c1 c1)];qO8 r2 (let r3:=qP [.s (gS r1 0),.s (gS r2 0)];qO8 r3 (.br (ieq (gI r3 1) 0) (qOa [.b (ile (gI r3 0) 0),.i (gI r3 1)]) (qOa [.b false,.i (gI r3 1)])))))))))):=by kernel_rfl
theorem qsA:q97 [.i c0,.i c1,.i c2,.i c3,.i c4,.i c5]=(qOa [.i (yC .i64 c3 c0),.i (yC .i64 c4 c1),.i (yC .i64 c5 c2)]):=by kernel_rfl
theorem qon:q3V [.i c0,.i c1,.i c2,.i c3,.i c4,.i c5]=(qOa [.i (qu .i64 (qu .i64 (zw .i64 c0 c3) (zw .i64 c1 c4)) (zw .i64 c2 c5))]):=by kernel_rfl
theorem qj4:ja [.i c0,.i c1,.i c2,.i c3,.i c4,.i c5]=(let r0:=zu [.r [[.i c0,.i c1,.i c2],[.i c3,.i c4,.i c5]]];qO8 r0 (.br (ine (gI r0 0) 0) (qOa [.i 0,.i (gI r0 0)]) (let r1:=q97 [.i c0,.i c1,.i c2,.i c3,.i c4,.i c5];qO8 r1 (let r2:=q3V [.i (gI r1 0),.i (gI r1 1),.i (gI r1 2),.i (gI r1 0),.i (gI r1 1),.i (gI r1 2)];qO8 r2 (qOa [.i (gI r2 0),.i 0]))))):=by kernel_rfl
theorem qah:q0F [.r a0,.i c1,.i c2,.r a3]=(.br (ilt c2 c1) (qO9 (inb c2 (qg a0)) (let r0:=ja [.i (cI a0 c2 0),.i (cI a0 c2 1),.i (cI a0 c2 2),.i (cI a0 c2 3),.i (cI a0 c2 4),.i (cI a0 c2 5)];qO8 r0 (.br (ine (gI r0 1) 0) (.leaf (2,[.i (gI r0 1)])) (qO9 (ile ((qg a3)+(qg [[.i (gI r0 0)]])) 17592186044416) (qOa [.r a0,.i c1,.i (qu .i64 c2 1),.r (yB a3 [[.i (gI r0 0)]])]))))) (.leaf (1,[.r a3]))):=by kernel_rfl
theorem quU:j5 [.r a0]=(.br (ilt 64 (qg a0)) (qOa [.r [],.i 5]) (let r0:=qf q0F [.r a0,.i (qg a0),.i 0,.r []];qO8 r0 (.br (jIs r0 0) (qOa [.r (gR r0 0),.i 0]) (qOa [.r [],.i (gI r0 0)])))):=by kernel_rfl
theorem qnn:wF [.i c0]=(.br (ile (-100000) c0) (qOa [.b (ile c0 100000)]) (qOa [.b false])):=by kernel_rfl
theorem qnT:q0H [.i c0,.i c1]=(qO8 (wF [.i c0]) (.br (not (gB (wF [.i c0]) 0)) (qOa [.i 2]) (qO8 (wF [.i c1]) (.br (not (gB (wF [.i c1]) 0)) (qOa [.i 2]) (.br (ilt c1 c0) (qOa [.i 9]) (qOa [.i 0])))))):=by kernel_rfl
theorem qvH:q1z [.i c0,.i c1]=(let r0:=q0H [.i c0,.i c1];qO8 r0 (.br (ine (gI r0 0) 0) (qOa [.i (gI r0 0)]) (.br (ilt c0 0) (qOa [.i 2]) (qOa [.i 0])))):=by kernel_rfl
theorem qd4:q2c [.i c0,.i c1,.i c2]=(.br (ilt c0 (zw .i64 c1 c1)) (qOa [.b true,.i c1,.i c2]) (qOa [.b (ilt (zw .i64 c2 c2) c0),.i c1,.i c2])):=by kernel_rfl
theorem yv:ze [.r a0,.i c1,.i c2,.i c3,.i c4]=(.br (ilt c2 c1) (qO9 (inb c2 (qg a0)) (let r0:=q2c [.i (cI a0 c2 0),.i c3,.i c4];qO8 r0 (.br (gB r0 0) (.leaf (2,[.i c2,.i (gI r0 1),.i (gI r0 2)])) (qOa [.r a0,.i c1,.i (qu .i64 c2 1),.i (gI r0 1),.i (gI r0 2)])))) (.leaf (1,[.i c3,.i c4]))):=by kernel_rfl
theorem qcH:wn [.r a0,.i c1,.i c2]=(let r0:=qf ze [.r a0,.i (qg a0),.i 0,.i c1,.i c2];qO8 r0 (.br (jIs r0 0) (qOa [.i (-1),.i (gI r0 0),.i (gI r0 1)]) (qOa [.i (gI r0 0),.i (gI r0 1),.i (gI r0 2)]))):=by kernel_rfl
theorem qy4:q17 [.r a0,.i c1,.i c2]=(let r0:=j5 [.r a0];qO8 r0 (.br (ine (gI r0 1) 0) (qOa [.b false,.i 0,.i (gI r0 1)]) (let r1:=q1z [.i c1,.i c2];qO8 r1 (.br (ine (gI r1 0) 0) (qOa [.b false,.i 0,.i (gI r1 0)]) (let r2:=wn [.r (gR r0 0),.i c1,.i c2];qO8 r2 (.br (ile 0 (gI r2 0)) (qOa [.b false,.i (gI r2 0),.i 0]) (qOa [.b true,.i (qg (gR r0 0)),.i 0]))))))):=by kernel_rfl
theorem q51:zQ [.r a0,.r a1,.i c2,.i c3]=(.br (ilt c3 c2) (qO9 (inb c3 (qg a0)) (qO9 (inb c3 (qg a1)) (.br (ine (cI a0 c3 0) (cI a1 c3 0)) (.leaf (2,[.b false])) (qOa [.r a0,.r a1,.i c2,.i (qu .i64 c3 1)])))) (.leaf (1,[]))):=by kernel_rfl
theorem qhn:zI [.r a0,.r a1]=(.br (ine (qg a0) (qg a1)) (qOa [.b false]) (let r0:=qf zQ [.r a0,.r a1,.i (qg a0),.i 0];qO8 r0 (.br (jIs r0 0) (qOa [.b true]) (qOa [.b (gB r0 0)])))):=by kernel_rfl
theorem qxj  : qee []=(qOa [.i 0,.r [[.i 0,.i 0,.i 0],[.i 1,.i 5,.i 0]],.r [[.i 10,.i 0,.i 0],[.i 12,.i 5,.i 0]]]):=by kernel_rfl
theorem qvm  : wW []=(let t0:=j5 [.r [[.i 0,.i 0,.i 0,.i 3,.i 4,.i 0]]];let t1:=q17 [.r [[.i 0,.i 0,.i 0,.i 3,.i 4,.i 0]],.i 4,.i 5];let t2:=q17 [.r [[.i 0,.i 0,.i 0,.i 3,.i 4,.i 0]],.i 6,.i 7];let t3:=qee [];let t4:=yP [.i (gI t3 0),.r (gR t3 1),.r (gR t3 2),.b true];let t5:=yP [.i (gI t3 0),.r (gR t3 1),.r (gR t3 2),.b false];let t6:=q7p [.i (gI t3 0),.r (gR t3 1),.r (gR t3 2)];let t7:=jS [.r [[.i 0,.i 0],[.i 6,.i 0],[.i 3,.i 1]],.i 6];let t8:=jS [.r [[.i 0,.i 0],[.i 6,.i 0],[.i 3,.i 1]],.i 5];let t9:=zI [.r (gR t0 0),.r [[.i 25]]];let t10:TR:=(qOa [.b false]);(qO8 t0 (qO8 t1 (qO8 t2 (qO8 t3 (qO8 t4 (qO8 t3 (qO8 t5 (qO8 t3 (qO8 t6 (qO8 t7 (qO8 t8 (.br (ieq (qu .i64 (qu .i64 (qu .i64 (qu .i64 (qu .i64 (qu .i64 (qu .i64 (gI t0 1) (gI t1 2)) (gI t2 2)) (gI t4 1)) (gI t5 1)) (gI t6 2)) (gI t7 1)) (gI t8 1)) 0) (qO8 t9 (.br (gB t9 0) (.br (gB t1 0) (.br (ieq (gI t1 1) 1) (.br (not (gB t2 0)) (.br (ieq (gI t4 0) 9) (.br (ieq (gI t5 0) 12) (.br (qwO (ieq (gI t6 0) 9) (qwO (ieq (gI t6 1) 12) true)) (.br (gB t7 0) (qOa [.b (not (gB t8 0))]) t10) t10) t10) t10) t10) t10) t10) t10)) t10))))))))))))):=by kernel_rfl
theorem qlp:uK [.i c0,.i c1,.i c2]=(qOa [.i c0,.i c1,.i c2]):=by kernel_rfl
theorem qi2:q0N [.r a0,.i c1,.i c2,.r a3]=(.br (ilt c2 (qg a0)) (qO9 (inb c2 (qg a0)) (let r0:=uK [.i (cI a0 c2 0),.i (cI a0 c2 1),.i (cI a0 c2 2)];qO8 r0 (qO9 (inb c1 3) (qO9 (ile ((qg a3)+(qg [[.i (qsm [(gI r0 0),(gI r0 1),(gI r0 2)] c1)]])) 17592186044416) (qOa [.r a0,.i c1,.i (qu .i64 c2 1),.r (yB a3 [[.i (qsm [(gI r0 0),(gI r0 1),(gI r0 2)] c1)]])]))))) (.leaf (1,[.r a3]))):=by kernel_rfl
theorem qvg:vZ [.r a0,.i c1]=(let r0:=qf q0N [.r a0,.i c1,.i 0,.r []];qO8 r0 (qOa [.r (gR r0 0)])):=by kernel_rfl
theorem qfI:ko [.r a0,.r a1,.i c2,.i c3,.r a4]=(.br (ilt c3 (qg a1)) (qO9 (inb c3 (qg a1)) (qO9 (inb c2 (qg a0)) (qO9 (ile ((qg a4)+(qg [[.i (yC .i64 (cI a1 c3 0) (cI a0 c2 0))]])) 17592186044416) (qOa [.r a0,.r a1,.i c2,.i (qu .i64 c3 1),.r (yB a4 [[.i (yC .i64 (cI a1 c3 0) (cI a0 c2 0))]])])))) (.leaf (1,[.r a0,.r a1,.i c2,.r a4]))):=by kernel_rfl
theorem qhY:q0K [.r a0,.r a1,.i c2,.r a3]=(.br (ilt c2 (qg a0)) (let r0:=qf ko [.r a0,.r a1,.i c2,.i 0,.r a3];qO8 r0 (qOa [.r (gR r0 0),.r (gR r0 1),.i (qu .i64 (gI r0 2) 1),.r (gR r0 3)])) (.leaf (1,[.r a3]))):=by kernel_rfl
theorem qvc:q1i [.i c0,.r a1,.r a2]=(let r0:=vZ [.r a1,.i c0];qO8 r0 (let r1:=vZ [.r a2,.i c0];qO8 r1 (let r2:=qf q0K [.r (gR r0 0),.r (gR r1 0),.i 0,.r []];qO8 r2 (qOa [.r (gR r2 0)])))):=by kernel_rfl
theorem qxK:q9F [.i c0]=(.br (ilt c0 0) (qOa [.i 1]) (.br (ile 3 c0) (qOa [.i 1]) (qOa [.i 0]))):=by kernel_rfl
theorem qAv:ju [.i c0]=(.br (ile (-100000) c0) (qOa [.b (ile c0 100000)]) (qOa [.b false])):=by kernel_rfl
theorem qp5:zE [.i c0,.i c1,.i c2]=(qO8 (ju [.i c0]) (.br (gB (ju [.i c0]) 0) (qO8 (ju [.i c1]) (.br (gB (ju [.i c1]) 0) (qO8 (ju [.i c2]) (qOa [.b (gB (ju [.i c2]) 0)])) (qOa [.b false]))) (qOa [.b false]))):=by kernel_rfl
theorem q9s:wB [.r a0,.i c1]=(.br (ilt c1 (qg a0)) (qO9 (inb c1 (qg a0)) (let r0:=zE [.i (cI a0 c1 0),.i (cI a0 c1 1),.i (cI a0 c1 2)];qO8 r0 (.br (not (gB r0 0)) (.leaf (2,[.i 2])) (qOa [.r a0,.i (qu .i64 c1 1)])))) (.leaf (1,[]))):=by kernel_rfl
theorem qnb:jT [.r a0]=(.br (ilt 64 (qg a0)) (qOa [.i 5]) (let r0:=qf wB [.r a0,.i 0];qO8 r0 (.br (jIs r0 0) (qOa [.i 0]) (qOa [.i (gI r0 0)])))):=by kernel_rfl
theorem qyi:q60 [.r a0]=(.br (ieq (qg a0) 0) (qOa [.i 13]) (qO8 (jT [.r a0]) (qOa [.i (gI (jT [.r a0]) 0)]))):=by kernel_rfl
theorem qgk:yp [.r a0,.i c1]=(.br (ilt c1 (qg a0)) (qO9 (inb c1 (qg a0)) (.br (ile (cI a0 c1 0) 0) (.leaf (2,[.i 9])) (qOa [.r a0,.i (qu .i64 c1 1)]))) (.leaf (1,[]))):=by kernel_rfl
theorem qvi:q1F [.i c0,.r a1,.r a2]=(let r0:=q9F [.i c0];qO8 r0 (.br (ine (gI r0 0) 0) (qOa [.i (gI r0 0)]) (let r1:=q60 [.r a1];qO8 r1 (.br (ine (gI r1 0) 0) (qOa [.i (gI r1 0)]) (let r2:=q60 [.r a2];qO8 r2 (.br (ine (gI r2 0) 0) (qOa [.i (gI r2 0)]) (let r3:=q1i [.i c0,.r a1,.r a2];qO8 r3 (let r4:=qf yp [.r (gR r3 0),.i 0];qO8 r4 (.br (jIs r4 0) (qOa [.i 0]) (qOa [.i (gI r4 0)])))))))))):=by kernel_rfl
theorem qjX:q2a [.r a0,.i c1,.i c2,.i c3]=(.br (ilt c3 (qg a0)) (qO9 (inb c3 (qg a0)) (qO9 (inb c3 (qg a0)) (qOa [.r a0,.i (qaS c1 (cI a0 c3 0)),.i (qiL c2 (cI a0 c3 0)),.i (qu .i64 c3 1)]))) (.leaf (1,[.i c1,.i c2]))):=by kernel_rfl
theorem qxQ:uc [.r a0]=(qO9 (inb 0 (qg a0)) (qO9 (inb 0 (qg a0)) (let r0:=qf q2a [.r a0,.i (cI a0 0 0),.i (cI a0 0 0),.i 1];qO8 r0 (qOa [.i (gI r0 0),.i (gI r0 1)])))):=by kernel_rfl
theorem qva:q43 [.i c0,.r a1,.r a2,.b d3]=(let r0:=vZ [.r a1,.i c0];qO8 r0 (let r1:=uc [.r (gR r0 0)];qO8 r1 (let r2:=vZ [.r a2,.i c0];qO8 r2 (let r3:=uc [.r (gR r2 0)];qO8 r3 (.br d3 (qOa [.i (yC .i64 (gI r3 0) (gI r1 1))]) (qOa [.i (yC .i64 (gI r3 1) (gI r1 0))])))))):=by kernel_rfl
theorem qz9:q1y [.r a0]=(.br (ile (qg a0) 8) (qOa [.b true]) (.br (ilt 64 (qg a0)) (qOa [.b (ilt (qg a0) 128)]) (qOa [.b false]))):=by kernel_rfl
theorem qv1:vW [.i c0,.i c1]=(qO8 (ju [.i c0]) (.br (gB (ju [.i c0]) 0) (qO8 (ju [.i c1]) (qOa [.b (gB (ju [.i c1]) 0)])) (qOa [.b false]))):=by kernel_rfl
theorem qhH:uG [.r a0,.i c1]=(.br (ilt c1 (qg a0)) (qO9 (inb c1 (qg a0)) (let r0:=vW [.i (cI a0 c1 0),.i (cI a0 c1 1)];qO8 r0 (.br (not (gB r0 0)) (.leaf (2,[.i 2])) (qOa [.r a0,.i (qu .i64 c1 1)])))) (.leaf (1,[]))):=by kernel_rfl
theorem quR:u5 [.r a0]=(.br (ilt 64 (qg a0)) (qOa [.i 5]) (let r0:=qf uG [.r a0,.i 0];qO8 r0 (.br (jIs r0 0) (qOa [.i 0]) (qOa [.i (gI r0 0)])))):=by kernel_rfl
theorem qnu:q2S [.i c0,.i c1,.i c2,.i c3,.i c4,.i c5]=(qOa [.i (qu .i64 (qu .i64 (zw .i64 c0 c3) (zw .i64 c1 c4)) (zw .i64 c2 c5))]):=by kernel_rfl
theorem qxA:qdA [.i c0,.i c1,.i c2,.i c3,.i c4,.i c5]=(qOa [.i (yC .i64 c0 c3),.i (yC .i64 c1 c4),.i (yC .i64 c2 c5)]):=by kernel_rfl
theorem qzL:yA [.i c0,.i c1,.i c2,.i c3]=(qOa [.i (yC .i64 c2 c0),.i (yC .i64 c3 c1)]):=by kernel_rfl
theorem qnl:zq [.i c0,.i c1,.i c2,.i c3]=(qOa [.i (qu .i64 (zw .i64 c0 c2) (zw .i64 c1 c3))]):=by kernel_rfl
theorem qyC:qd5 [.r a0]=(.br (ile (qg a0) 10) (qOa [.b true]) (.br (ilt 64 (qg a0)) (qOa [.b (ilt (qg a0) 128)]) (qOa [.b false]))):=by kernel_rfl
theorem qlJ:q3Y [.r a0,.i c1,.i c2,.r a3]=(.br (ilt c2 c1) (qO9 (inb c2 (qg a0)) (qO9 (ile ((qg a3)+(qg [[.i (cI a0 c2 0),.i (cI a0 c2 1),.i (cI a0 c2 2),.i (cI a0 c2 3),.i (cI a0 c2 4),.i (cI a0 c2 5)]])) 2932031007402) (qOa [.r a0,.i c1,.i (qu .i64 c2 1),.r (yB a3 [[.i (cI a0 c2 0),.i (cI a0 c2 1),.i (cI a0 c2 2),.i (cI a0 c2 3),.i (cI a0 c2 4),.i (cI a0 c2 5)]])]))) (.leaf (1,[.r a3]))):=by kernel_rfl
theorem qA5:qdi [.r a0]=(let r0:=qf q3Y [.r a0,.i (qg a0),.i 0,.r []];qO8 r0 (qOa [.r (gR r0 0)])):=by kernel_rfl
theorem qhT:uq [.r a0,.i c1]=(.br (ilt c1 (qg a0)) (qO9 (inb c1 (qg a0)) (let r0:=zE [.i (cI a0 c1 0),.i (cI a0 c1 1),.i (cI a0 c1 2)];qO8 r0 (.br (not (gB r0 0)) (.leaf (2,[.i 2])) (qO9 (inb c1 (qg a0)) (let r1:=zE [.i (cI a0 c1 3),.i (cI a0 c1 4),.i (cI a0 c1 5)];qO8 r1 (.br (not (gB r1 0)) (.leaf (2,[.i 2])) (qOa [.r a0,.i (qu .i64 c1 1)]))))))) (.leaf (1,[]))):=by kernel_rfl
theorem quX:q3Z [.r a0]=(.br (ilt 64 (qg a0)) (qOa [.i 5]) (let r0:=qf uq [.r a0,.i 0];qO8 r0 (.br (jIs r0 0) (qOa [.i 0]) (qOa [.i (gI r0 0)])))):=by kernel_rfl
theorem qq3:kv [.i c0,.i c1,.i c2,.i c3,.i c4,.i c5]=(let r0:=qdA [.i c0,.i c1,.i c2,.i c3,.i c4,.i c5];qO8 r0 (qO8 r0 (let r1:=q2S [.i (gI r0 0),.i (gI r0 1),.i (gI r0 2),.i (gI r0 0),.i (gI r0 1),.i (gI r0 2)];qO8 r1 (qOa [.i (gI r1 0)])))):=by kernel_rfl
theorem qgc:kq [.r a0,.i c1,.r a2]=(.br (ilt c1 (qg a0)) (qO9 (inb c1 (qg a0)) (qO9 (inb c1 (qg a0)) (let r0:=kv [.i (cI a0 c1 0),.i (cI a0 c1 1),.i (cI a0 c1 2),.i (cI a0 c1 3),.i (cI a0 c1 4),.i (cI a0 c1 5)];qO8 r0 (qO9 (ile ((qg a2)+(qg [[.i (gI r0 0)]])) 17592186044416) (qOa [.r a0,.i (qu .i64 c1 1),.r (yB a2 [[.i (gI r0 0)]])]))))) (.leaf (1,[.r a2]))):=by kernel_rfl
theorem qsy:wP [.r a0]=(let r0:=q3Z [.r a0];qO8 r0 (.br (ine (gI r0 0) 0) (qOa [.r [],.i (gI r0 0)]) (let r1:=qf kq [.r a0,.i 0,.r []];qO8 r1 (qOa [.r (gR r1 0),.i 0])))):=by kernel_rfl
theorem q2V:vq [.i c0]=(qOa [.i c0]):=by kernel_rfl
theorem q82:vk [.r a0,.r a1,.i c2,.i c3,.i c4,.i c5,.i c6,.i c7]=(let t0:=vq [.i (cI a1 c3 0)];let t1:=vq [.i (cI a0 c6 0)];let t2:=vq [.i (cI a0 c7 0)];let b0:Bool:=(ilt (gI t2 0) (gI t0 0));let i0:Int:=(qu .i64 c3 1);let p0:List PV:=[.i c4,.i c5,.i c6,.i c7];(.br (ilt c3 c2) (qO9 (inb c3 (qg a1)) (qO8 t0 (qO9 (inb c6 (qg a0)) (qO8 t1 (.br (ilt (gI t0 0) (gI t1 0)) (qO8 t0 (qO9 (inb c7 (qg a0)) (qO8 t2 (.br b0 (qOa [.r a0,.r a1,.i c2,.i i0,.i c4,.i c5,.i c3,.i c3]) (qOa [.r a0,.r a1,.i c2,.i i0,.i c4,.i c5,.i c3,.i c7]))))) (qO8 t0 (qO9 (inb c7 (qg a0)) (qO8 t2 (.br b0 (qOa [.r a0,.r a1,.i c2,.i i0,.i c4,.i c5,.i c6,.i c3]) (qOa ((.r a0)::(.r a1)::(.i c2)::(.i i0)::p0))))))))))) (.leaf (1,p0)))):=by kernel_rfl
theorem qlb:uC [.r a0]=(let r0:=qf vk [.r a0,.r a0,.i (qg a0),.i 0,.i 0,.i 0,.i 0,.i 0];qO8 r0 (qOa [.i (gI r0 2),.i (gI r0 3)])):=by kernel_rfl
theorem qav:q3x [.r a0]=(let r0:=j5 [.r a0];qO8 r0 (.br (ine (gI r0 1) 0) (qOa [.i 0,.i 0,.i (gI r0 1)]) (.br (ieq (qg (gR r0 0)) 0) (qOa [.i 0,.i 0,.i 13]) (let r1:=uC [.r (gR r0 0)];qO8 r1 (qOa [.i (gI r1 0),.i (gI r1 1),.i 0]))))):=by kernel_rfl
theorem qaM:js [.r a0,.i c1,.i c2,.i c3]=(.br (ilt c3 (qg a0)) (qO9 (inb c3 (qg a0)) (qO9 (inb c1 (qg a0)) (.br (ilt (cI a0 c3 0) (cI a0 c1 0)) (qO9 (inb c3 (qg a0)) (qO9 (inb c2 (qg a0)) (.br (ilt (cI a0 c2 0) (cI a0 c3 0)) (qOa [.r a0,.i c3,.i c3,.i (qu .i64 c3 1)]) (qOa [.r a0,.i c3,.i c2,.i (qu .i64 c3 1)])))) (qO9 (inb c3 (qg a0)) (qO9 (inb c2 (qg a0)) (.br (ilt (cI a0 c2 0) (cI a0 c3 0)) (qOa [.r a0,.i c1,.i c3,.i (qu .i64 c3 1)]) (qOa [.r a0,.i c1,.i c2,.i (qu .i64 c3 1)]))))))) (.leaf (1,[.i c1,.i c2]))):=by kernel_rfl
theorem q0M:yu [.r a0]=(let r0:=wP [.r a0];qO8 r0 (.br (ine (gI r0 1) 0) (qOa [.i 0,.i 0,.i (gI r0 1)]) (.br (ieq (qg a0) 0) (qOa [.i 0,.i 0,.i 13]) (let r1:=qf js [.r (gR r0 0),.i 0,.i 0,.i 1];qO8 r1 (qOa [.i (gI r1 0),.i (gI r1 1),.i 0]))))):=by kernel_rfl
theorem qAC:q64 [.i c0]=(.br (ile (-100000) c0) (qOa [.b (ile c0 100000)]) (qOa [.b false])):=by kernel_rfl
theorem qvv:q7s [.i c0,.i c1]=(qO8 (q64 [.i c0]) (.br (not (gB (q64 [.i c0]) 0)) (qOa [.i 2]) (qO8 (q64 [.i c1]) (.br (not (gB (q64 [.i c1]) 0)) (qOa [.i 2]) (.br (ilt c1 c0) (qOa [.i 9]) (qOa [.i 0])))))):=by kernel_rfl
theorem qx8:q19 [.i c0,.i c1]=(let r0:=q7s [.i c0,.i c1];qO8 r0 (.br (ine (gI r0 0) 0) (qOa [.i (gI r0 0)]) (.br (ilt c0 0) (qOa [.i 2]) (qOa [.i 0])))):=by kernel_rfl
theorem q8q:kn [.r a0,.r a1,.i c2,.i c3,.i c4]=(.br (ilt c2 (qg a1)) (qO9 (inb c2 (qg a1)) (.br (ilt (cI a1 c2 0) (zw .i64 c3 c3)) (.leaf (2,[.b false,.i c2,.i 0])) (qO9 (inb c2 (qg a1)) (.br (ilt (zw .i64 c4 c4) (cI a1 c2 0)) (.leaf (2,[.b false,.i c2,.i 0])) (qOa [.r a0,.r a1,.i (qu .i64 c2 1),.i c3,.i c4]))))) (.leaf (1,[.r a0]))):=by kernel_rfl
theorem qvy:q6V [.r a0,.i c1,.i c2]=(let r0:=wP [.r a0];qO8 r0 (.br (ine (gI r0 1) 0) (qOa [.b false,.i 0,.i (gI r0 1)]) (let r1:=q19 [.i c1,.i c2];qO8 r1 (.br (ine (gI r1 0) 0) (qOa [.b false,.i 0,.i (gI r1 0)]) (let r2:=qf kn [.r a0,.r (gR r0 0),.i 0,.i c1,.i c2];qO8 r2 (.br (jIs r2 0) (qOa [.b true,.i (qg (gR r2 0)),.i 0]) (qOa [.b (gB r2 0),.i (gI r2 1),.i (gI r2 2)]))))))):=by kernel_rfl
theorem qmm:kT [.r a0,.i c1,.i c2]=(let r0:=qdi [.r a0];qO8 r0 (let r1:=qd5 [.r (gR r0 0)];qO8 r1 (.br (not (gB r1 0)) (let r2:=wW [];qO8 r2 (qOa [.b (gB r2 0)])) (let r2:=j5 [.r a0];qO8 r2 (qO8 r0 (let r3:=wP [.r (gR r0 0)];qO8 r3 (let r4:=q3x [.r a0];qO8 r4 (qO8 r0 (let r5:=yu [.r (gR r0 0)];qO8 r5 (let r6:=q17 [.r a0,.i c1,.i c2];qO8 r6 (qO8 r0 (let r7:=q6V [.r (gR r0 0),.i c1,.i c2];qO8 r7 (let r8:=wW [];qO8 r8 (.br (gB r8 0) (let r9:=zI [.r (gR r2 0),.r (gR r3 0)];qO8 r9 (.br (gB r9 0) (.br (ieq (gI r2 1) (gI r3 1)) (.br (ieq (gI r4 0) (gI r5 0)) (.br (ieq (gI r4 1) (gI r5 1)) (.br (ieq (gI r4 2) (gI r5 2)) (.br (beq (gB r6 0) (gB r7 0)) (.br (ieq (gI r6 1) (gI r7 1)) (qOa [.b (ieq (gI r6 2) (gI r7 2))]) (qOa [.b false])) (qOa [.b false])) (qOa [.b false])) (qOa [.b false])) (qOa [.b false])) (qOa [.b false])) (qOa [.b false]))) (qOa [.b false]))))))))))))))):=by kernel_rfl
theorem qrI:q3y [.i c0,.r a1,.r a2,.b d3,.i c4,.i c5]=(let r0:=jN [.i c0,.r a1,.r a2];qO8 r0 (.br (ine (gI r0 0) 0) (qOa [.b false,.i (gI r0 0)]) (let r1:=q1z [.i c4,.i c5];qO8 r1 (.br (ine (gI r1 0) 0) (qOa [.b false,.i (gI r1 0)]) (let r2:=yX [.i c0,.r a1,.r a2];qO8 r2 (.br (ile c4 (gI r2 0)) (qOa [.b (ile (gI r2 1) c5),.i 0]) (qOa [.b false,.i 0]))))))):=by kernel_rfl
theorem qqx:q24 [.i c0,.r a1,.r a2,.b d3,.i c4,.i c5]=(let r0:=q1F [.i c0,.r a1,.r a2];qO8 r0 (.br (ine (gI r0 0) 0) (qOa [.b false,.i (gI r0 0)]) (let r1:=q19 [.i c4,.i c5];qO8 r1 (.br (ine (gI r1 0) 0) (qOa [.b false,.i (gI r1 0)]) (let r2:=q1i [.i c0,.r a1,.r a2];qO8 r2 (let r3:=uc [.r (gR r2 0)];qO8 r3 (.br d3 (let r4:=q43 [.i c0,.r a1,.r a2,.b true];qO8 r4 (.br (ile c4 (gI r4 0)) (qOa [.b (ile (gI r3 1) c5),.i 0]) (qOa [.b false,.i 0]))) (let r4:=q43 [.i c0,.r a1,.r a2,.b false];qO8 r4 (.br (ile (gI r4 0) c5) (qOa [.b (ile c4 (gI r3 0)),.i 0]) (qOa [.b false,.i 0])))))))))):=by kernel_rfl
theorem qiG:jO [.i c0,.r a1,.r a2,.b d3,.i c4,.i c5]=(let r0:=yt [.i c0,.r a1,.r a2];qO8 r0 (.br (not (gB r0 0)) (let r1:=wW [];qO8 r1 (qOa [.b (gB r1 0)])) (let r1:=q3y [.i c0,.r a1,.r a2,.b d3,.i c4,.i c5];qO8 r1 (let r2:=q24 [.i c0,.r a1,.r a2,.b d3,.i c4,.i c5];qO8 r2 (let r3:=wW [];qO8 r3 (.br (gB r3 0) (.br (beq (gB r1 0) (gB r2 0)) (qOa [.b (ieq (gI r1 1) (gI r2 1))]) (qOa [.b false])) (qOa [.b false]))))))):=by kernel_rfl
theorem qvI:q3U [.i c0,.r a1,.r a2]=(let r0:=yt [.i c0,.r a1,.r a2];qO8 r0 (.br (gB r0 0) (let r1:=q1F [.i c0,.r a1,.r a2];qO8 r1 (qOa [.b (ieq (gI r1 0) 0)])) (qOa [.b false]))):=by kernel_rfl
theorem q7r:wJ [.r a0,.i c1,.r a2,.i c3,.i c4,.r a5]=(.br (ilt c4 c3) (qO9 (inb c4 (qg a2)) (qO9 (inb (cI a0 c1 0) 3) (qO9 (ile ((qg a5)+(qg [[.i (qsm [(cI a2 c4 0),(cI a2 c4 1),(cI a2 c4 2)] (cI a0 c1 0))]])) 17592186044416) (qOa [.r a0,.i c1,.r a2,.i c3,.i (qu .i64 c4 1),.r (yB a5 [[.i (qsm [(cI a2 c4 0),(cI a2 c4 1),(cI a2 c4 2)] (cI a0 c1 0))]])])))) (.leaf (1,[.r a5]))):=by kernel_rfl
theorem qjZ:qY [.r a0,.r a1,.i c2]=(let r0:=qf wJ [.r a1,.i c2,.r a0,.i (qg a0),.i 0,.r []];qO8 r0 (qOa [.r (gR r0 0)])):=by kernel_rfl
theorem u6:zg [.r a0,.i c1,.i c2]=(.br (ilt c2 (qg a0)) (qO9 (inb c2 (qg a0)) (qOa [.r a0,.i (qiL c1 (cI a0 c2 0)),.i (qu .i64 c2 1)])) (.leaf (1,[.i c1]))):=by kernel_rfl
theorem q9C:qZ [.r a0]=(.br (ilt (qg a0) 1) .fail (qO9 (inb 0 (qg a0)) (let r0:=qf zg [.r a0,.i (cI a0 0 0),.i 1];qO8 r0 (qOa [.i (gI r0 0)])))):=by kernel_rfl
theorem yS:zh [.r a0,.i c1,.i c2]=(.br (ilt c2 (qg a0)) (qO9 (inb c2 (qg a0)) (qOa [.r a0,.i (qaS c1 (cI a0 c2 0)),.i (qu .i64 c2 1)])) (.leaf (1,[.i c1]))):=by kernel_rfl
theorem q9K:z6 [.r a0]=(.br (ilt (qg a0) 1) .fail (qO9 (inb 0 (qg a0)) (let r0:=qf zh [.r a0,.i (cI a0 0 0),.i 1];qO8 r0 (qOa [.i (gI r0 0)])))):=by kernel_rfl
theorem qmM:kI [.i c0,.r a1,.r a2,.i c3,.r a4,.r a5]=(let t0:=q3U [.i c0,.r a1,.r a2];let t1:TR:=(qO8 (wW []) (qOa [.b (gB (wW []) 0)]));let t2:=q3U [.i c3,.r a4,.r a5];let t3:=yP [.i c0,.r a1,.r a2,.b true];let t4:=yP [.i c3,.r a4,.r a5,.b false];let t5:TR:=(qOa [.b false]);let p0:List PV:=[.r [[.i c0,.l a1,.l a2]],.i 0];let t6:=qY ((.r (cR [[.i c0,.l a1,.l a2]] 0 1))::p0);let t7:=qZ [.r (gR t6 0)];let t8:=z6 [.r (gR (qY ((.r a4)::p0)) 0)];let t9:=qZ [.r (gR (qY ((.r a5)::p0)) 0)];let t10:=qY ((.r (cR [[.i c0,.l a1,.l a2]] 0 2))::p0);let t11:=z6 [.r (gR t10 0)];(qO8 t0 (.br (not (gB t0 0)) t1 (qO8 t2 (.br (not (gB t2 0)) t1 (.br (ine c0 c3) t1 (qO8 t3 (qO8 t4 (.br (ine (qu .i64 (gI t3 1) (gI t4 1)) 0) t5 (qO8 t6 (qO8 t7 (qO8 (qY ((.r a4)::p0)) (qO8 t8 (qO8 (qY ((.r a5)::p0)) (qO8 t9 (qO8 t10 (qO8 t11 (.br (beq (ile (qu .i64 (gI t9 0) (yC .i64 (gI t7 0) (gI t8 0))) (gI t11 0)) (ile (gI t4 0) (gI t3 0))) t1 t5)))))))))))))))))):=by kernel_rfl
theorem quI:kY [.i c0,.i c1]=(let r0:=qI [.r [[.i c0,.i c1]]];qO8 r0 (qOa [.b (ieq (gI r0 0) 0)])):=by kernel_rfl
theorem qqD:kl [.i c0,.r a1,.b d2,.r a3,.i c4]=(let t0:TR:=(qOa [.i 2]);let t1:TR:=(.br (ieq (qg a1) 0) (qOa [.i 13]) (qO8 (qI [.r a1]) (qOa [.i (gI (qI [.r a1]) 0)])));(.br (ilt c0 (-100000)) t0 (.br (ilt 100000 c0) t0 (.br d2 (qO9 d2 (.br (ile c0 (cI a3 c4 0)) (qOa [.i 9]) t1)) t1)))):=by kernel_rfl
theorem q9d:ww [.b d0,.r a1,.i c2,.i c3,.i c4,.i c5,.r a6]=(.br (ilt c4 c3) (qO9 (inb c4 (qg a6)) (let r0:=kl [.i (cI a6 c4 0),.r (cR a6 c4 1),.b d0,.r a1,.i c2];qO8 r0 (.br (ine (gI r0 0) 0) (.leaf (2,[.i (gI r0 0),.r a6])) (qO9 (inb c4 (qg a6)) (qOa [.b true,.r a6,.i c4,.i c3,.i (qu .i64 c4 1),.i c5,.r a6]))))) (.leaf (1,[.i c5,.r a6]))):=by kernel_rfl
theorem quk:q56 [.r a0]=(.br (ieq (qg a0) 0) (qOa [.i 13]) (.br (ilt 32 (qg a0)) (qOa [.i 5]) (let r0:=qf ww [.b false,.r [],.i 0,.i (qg a0),.i 0,.i 0,.r a0];qO8 r0 (.br (jIs r0 0) (qOa [.i 0]) (qOa [.i (gI r0 0)]))))):=by kernel_rfl
theorem qtU:jI [.r a0,.i c1,.i c2]=(let r0:=q56 [.r a0];qO8 r0 (.br (ine (gI r0 0) 0) (qOa [.i (gI r0 0)]) (let r1:=kY [.i c1,.i c2];qO8 r1 (.br (not (gB r1 0)) (qOa [.i 2]) (qOa [.i 0]))))):=by kernel_rfl
theorem qtL:q2b [.i c0,.i c1]=(let i0:Int:=(qdo .i64 c0 1048576);let i1:Int:=(qdo .i64 c1 1048576);let i2:Int:=(qu .i64 (zw .i64 i0 (qs2 c1 1048576)) (zw .i64 (qs2 c0 1048576) i1));let i3:Int:=(qu .i64 (zw .i64 (qs2 c0 1048576) (qs2 c1 1048576)) (zw .i64 (qs2 i2 1048576) 1048576));(qOa [.i (qu .i64 (qu .i64 (zw .i64 i0 i1) (qdo .i64 i2 1048576)) (qdo .i64 i3 1099511627776)),.i (qs2 i3 1099511627776)])):=by kernel_rfl
theorem qmx:kH [.i c0,.i c1,.i c2,.i c3]=(.br (ilt c0 c2) (qOa [.b true]) (.br (ieq c0 c2) (qOa [.b (ile c1 c3)]) (qOa [.b false]))):=by kernel_rfl
theorem qvj:yZ [.i c0,.i c1,.i c2]=(let i0:Int:=(yC .i64 (yC .i64 c1 c0) (zw .i64 c2 c2));let i1:Int:=(zw .i64 (zw .i64 4 c2) c2);let t0:TR:=(qOa [.b false]);let t1:=q2b [.i i0,.i i0];let t2:=q2b [.i i1,.i c0];let t3:=kH [.i (gI t1 0),.i (gI t1 1),.i (gI t2 0),.i (gI t2 1)];(.br (ile i0 0) (qOa [.b true]) (.br (ieq i1 0) t0 (.br (ieq c0 0) t0 (qO8 t1 (qO8 t2 (qO8 t3 (qOa [.b (gB t3 0)])))))))):=by kernel_rfl
theorem qe9:uh [.r a0,.i c1,.i c2,.r a3,.i c4,.i c5,.i c6,.i c7,.r a8]=(let i0:Int:=(yC .i64 (cI a3 c5 0) c6);let i1:Int:=(yC .i64 (cI a3 c5 1) c7);let i2:Int:=(qu .i64 (zw .i64 i0 i0) (zw .i64 i1 i1));(.br (ilt c5 c4) (qO9 (inb c5 (qg a3)) (qO9 (ile ((qg a8)+(qg [[.i i2]])) 17592186044416) (qOa [.r a0,.i c1,.i c2,.r a3,.i c4,.i (qu .i64 c5 1),.i c6,.i c7,.r (yB a8 [[.i i2]])]))) (.leaf (1,[.r a0,.i c1,.i c2,.i c6,.i c7,.r a8])))):=by kernel_rfl
theorem qfR:kt [.r a0,.i c1,.i c2,.i c3,.i c4,.r a5]=(.br (ilt c2 c1) (qO9 (inb c2 (qg a0)) (let r0:=qf uh [.r a0,.i c1,.i c2,.r (cR a0 c2 0),.i (qg (cR a0 c2 0)),.i 0,.i c3,.i c4,.r a5];qO8 r0 (qOa [.r (gR r0 0),.i (gI r0 1),.i (qu .i64 (gI r0 2) 1),.i (gI r0 3),.i (gI r0 4),.r (gR r0 5)]))) (.leaf (1,[.r a5]))):=by kernel_rfl
theorem qtK:wR [.i c0,.i c1,.r a2]=(let r0:=qf kt [.r a2,.i (qg a2),.i 0,.i c0,.i c1,.r []];qO8 r0 (let r1:=z6 [.r (gR r0 0)];qO8 r1 (let r2:=qZ [.r (gR r0 0)];qO8 r2 (qOa [.i (gI r1 0),.i (gI r2 0)])))):=by kernel_rfl
theorem qij:q0O [.r a0,.i c1,.i c2,.i c3,.i c4,.r a5]=(.br (ilt c2 c1) (qO9 (inb c2 (qg a0)) (qO9 (ile ((qg a5)+(qg [[.l (cR a0 c2 1)]])) 5864062014805) (qOa [.r a0,.i c1,.i (qu .i64 c2 1),.i c3,.i c4,.r (yB a5 [[.l (cR a0 c2 1)]])]))) (.leaf (1,[.i c3,.i c4,.r a5]))):=by kernel_rfl
theorem qvf:q1c [.r a0,.i c1,.i c2]=(let r0:=qf q0O [.r a0,.i (qg a0),.i 0,.i c1,.i c2,.r []];qO8 r0 (let r1:=wR [.i (gI r0 0),.i (gI r0 1),.r (gR r0 2)];qO8 r1 (qOa [.i (gI r1 0),.i (gI r1 1)]))):=by kernel_rfl
theorem q8x:wX [.i c0,.i c1,.i c2,.i c3]=(let i0:Int:=(qdo .i64 (qu .i64 c2 c3) 2);let t0:=yZ [.i c0,.i c1,.i i0];(.br (ilt c2 c3) (qO8 t0 (.br (gB t0 0) (qOa [.i c0,.i c1,.i c2,.i i0]) (qOa [.i c0,.i c1,.i (qu .i64 i0 1),.i c3]))) (.leaf (1,[.i c2])))):=by kernel_rfl
theorem qu1:q2g [.r a0,.i c1,.i c2]=(let r0:=jI [.r a0,.i c1,.i c2];qO8 r0 (.br (ine (gI r0 0) 0) (qOa [.i 0,.i (gI r0 0)]) (let r1:=q1c [.r a0,.i c1,.i c2];qO8 r1 (let r2:=qf wX [.i (gI r1 0),.i (gI r1 1),.i 0,.i 400000];qO8 r2 (qOa [.i (gI r2 0),.i 0]))))):=by kernel_rfl
theorem qsY  : jF []=(let r0:=q2g [.r [[.i 0,.l [[.i 3,.i 0],[.i 0,.i 5]]]],.i 0,.i 0];qO8 r0 (let r1:=jS [.r [[.i 3,.i 0],[.i (-3),.i 0]],.i 6];qO8 r1 (.br (ieq (qu .i64 (gI r0 1) (gI r1 1)) 0) (.br (ieq (gI r0 0) 2) (qOa [.b (gB r1 0)]) (qOa [.b false])) (qOa [.b false])))):=by kernel_rfl
theorem qnq:vX [.i c0]=(.br (ile 0 c0) (qOa [.b (ile c0 100000)]) (qOa [.b false])):=by kernel_rfl
theorem q3g:zH [.r a0,.i c1,.r a2,.i c3,.i c4,.i c5,.i c6]=(.br (ilt c4 c3) (qO9 (inb c4 (qg a2)) (let r0:=wR [.i c5,.i c6,.r [[.l (cR a2 c4 1)]]];qO8 r0 (let r1:=yZ [.i (gI r0 0),.i (gI r0 1),.i c1];qO8 r1 (.br (not (gB r1 0)) (.leaf (2,[.b false,.i c4,.i 0])) (qOa [.r a0,.i c1,.r a2,.i c3,.i (qu .i64 c4 1),.i c5,.i c6]))))) (.leaf (1,[.r a0]))):=by kernel_rfl
theorem qoe:jq [.r a0,.i c1,.i c2,.i c3]=(let r0:=jI [.r a0,.i c1,.i c2];qO8 r0 (.br (ine (gI r0 0) 0) (qOa [.b false,.i 0,.i (gI r0 0)]) (let r1:=vX [.i c3];qO8 r1 (.br (not (gB r1 0)) (qOa [.b false,.i 0,.i 2]) (let r2:=qf zH [.r a0,.i c3,.r a0,.i (qg a0),.i 0,.i c1,.i c2];qO8 r2 (.br (jIs r2 0) (qOa [.b true,.i (qg (gR r2 0)),.i 0]) (qOa [.b (gB r2 0),.i (gI r2 1),.i (gI r2 2)]))))))):=by kernel_rfl
theorem qsL:q09 [.r a0,.i c1,.i c2,.i c3]=(let r0:=jI [.r a0,.i c1,.i c2];qO8 r0 (.br (ine (gI r0 0) 0) (qOa [.b false,.i (gI r0 0)]) (let r1:=vX [.i c3];qO8 r1 (.br (not (gB r1 0)) (qOa [.b false,.i 2]) (let r2:=q1c [.r a0,.i c1,.i c2];qO8 r2 (let r3:=yZ [.i (gI r2 0),.i (gI r2 1),.i c3];qO8 r3 (qOa [.b (gB r3 0),.i 0]))))))):=by kernel_rfl
theorem qy6:q9f [.r a0]=(let r0:=qI [.r a0];qO8 r0 (.br (ine (gI r0 0) 0) (qOa [.i (gI r0 0)]) (.br (ieq (qg a0) 0) (qOa [.i 13]) (qOa [.i 0])))):=by kernel_rfl
theorem qg0:kw [.r a0,.i c1,.i c2]=(.br (ilt c2 c1) (qO9 (inb c2 (qg a0)) (let r0:=qQ [.s (cS a0 c2 0)];qO8 r0 (.br (ine (gI r0 0) 0) (.leaf (2,[.i (gI r0 0)])) (qOa [.r a0,.i c1,.i (qu .i64 c2 1)])))) (.leaf (1,[]))):=by kernel_rfl
theorem qsX:q4Y [.r a0]=(let r0:=qf kw [.r a0,.i (qg a0),.i 0];qO8 r0 (.br (jIs r0 0) (qOa [.i 0]) (qOa [.i (gI r0 0)]))):=by kernel_rfl
theorem qus:wL [.s e0,.i c1,.i c2]=(.br (ieq c2 0) (.br (ine c1 0) (qOa [.s [48],.i c1]) (qOa [.s e0,.i c1])) (.br (ine c2 0) (qOa [.s [48],.i c2]) (qOa [.s e0,.i c2]))):=by kernel_rfl
theorem qqM:z8 [.s e0,.s e1,.i c2]=(let r0:=qP [.s e0,.s e1];qO8 r0 (let r1:=wL [.s [48],.i (gI r0 1),.i c2];qO8 r1 (qOa [.b (ilt (gI r0 0) 0),.i (gI r1 1)]))):=by kernel_rfl
theorem qrQ:vQ [.s e0,.s e1,.i c2]=(let r0:=zJ [.s e0,.s e1];qO8 r0 (let r1:=wL [.s (gS r0 0),.i (gI r0 1),.i c2];qO8 r1 (qOa [.s (gS r1 0),.i (gI r1 1)]))):=by kernel_rfl
theorem qrU:zU [.s e0,.s e1,.i c2]=(let r0:=wv [.s e0,.s e1];qO8 r0 (let r1:=wL [.s (gS r0 0),.i (gI r0 1),.i c2];qO8 r1 (qOa [.s (gS r1 0),.i (gI r1 1)]))):=by kernel_rfl
theorem qrV:q3n [.s e0,.s e1,.i c2]=(let r0:=jn [.s e0,.s e1];qO8 r0 (let r1:=wL [.s (gS r0 0),.i (gI r0 1),.i c2];qO8 r1 (qOa [.s (gS r1 0),.i (gI r1 1)]))):=by kernel_rfl
theorem qmr:jV [.i c0,.i c1,.s e2,.s e3,.i c4]=(let r0:=qw [.i c0];qO8 r0 (let r1:=vQ [.s (gS r0 0),.s e2,.i c4];qO8 r1 (let r2:=qw [.i c1];qO8 r2 (let r3:=vQ [.s (gS r2 0),.s e3,.i (gI r1 1)];qO8 r3 (let r4:=zU [.s (gS r1 0),.s (gS r1 0),.i (gI r3 1)];qO8 r4 (let r5:=zU [.s (gS r3 0),.s (gS r3 0),.i (gI r4 1)];qO8 r5 (let r6:=q3n [.s (gS r4 0),.s (gS r5 0),.i (gI r5 1)];qO8 r6 (qOa [.s (gS r6 0),.i (gI r6 1)])))))))):=by kernel_rfl
theorem qr2:q8r [.r a0,.i c1,.i c2,.s e3,.s e4,.s e5,.s e6,.s e7,.s e8,.i c9,.s e10,.s e11,.s e12,.s e13]=(.br (ilt c2 c1) (qO9 (inb c2 (qg a0)) (let r0:=jV [.i (cI a0 c2 0),.i (cI a0 c2 1),.s e3,.s e4,.i c9];qO8 r0 (.br (ieq c2 0) (.br (ieq c2 0) (qOa [.r a0,.i c1,.i (qu .i64 c2 1),.s e3,.s e4,.s e5,.s e6,.s e7,.s e8,.i (gI r0 1),.s e10,.s e11,.s (gS r0 0),.s (gS r0 0)]) (let r1:=z8 [.s e13,.s (gS r0 0),.i (gI r0 1)];qO8 r1 (.br (gB r1 0) (qOa [.r a0,.i c1,.i (qu .i64 c2 1),.s e3,.s e4,.s e5,.s e6,.s e7,.s e8,.i (gI r1 1),.s e10,.s e11,.s (gS r0 0),.s (gS r0 0)]) (qOa [.r a0,.i c1,.i (qu .i64 c2 1),.s e3,.s e4,.s e5,.s e6,.s e7,.s e8,.i (gI r1 1),.s e10,.s e11,.s (gS r0 0),.s e13])))) (let r1:=z8 [.s (gS r0 0),.s e12,.i (gI r0 1)];qO8 r1 (.br (gB r1 0) (.br (ieq c2 0) (qOa [.r a0,.i c1,.i (qu .i64 c2 1),.s e3,.s e4,.s e5,.s e6,.s e7,.s e8,.i (gI r1 1),.s e10,.s e11,.s (gS r0 0),.s (gS r0 0)]) (let r2:=z8 [.s e13,.s (gS r0 0),.i (gI r1 1)];qO8 r2 (.br (gB r2 0) (qOa [.r a0,.i c1,.i (qu .i64 c2 1),.s e3,.s e4,.s e5,.s e6,.s e7,.s e8,.i (gI r2 1),.s e10,.s e11,.s (gS r0 0),.s (gS r0 0)]) (qOa [.r a0,.i c1,.i (qu .i64 c2 1),.s e3,.s e4,.s e5,.s e6,.s e7,.s e8,.i (gI r2 1),.s e10,.s e11,.s (gS r0 0),.s e13])))) (.br (ieq c2 0) (qOa [.r a0,.i c1,.i (qu .i64 c2 1),.s e3,.s e4,.s e5,.s e6,.s e7,.s e8,.i (gI r1 1),.s e10,.s e11,.s e12,.s (gS r0 0)]) (let r2:=z8 [.s e13,.s (gS r0 0),.i (gI r1 1)];qO8 r2 (.br (gB r2 0) (qOa [.r a0,.i c1,.i (qu .i64 c2 1),.s e3,.s e4,.s e5,.s e6,.s e7,.s e8,.i (gI r2 1),.s e10,.s e11,.s e12,.s (gS r0 0)]) (qOa [.r a0,.i c1,.i (qu .i64 c2 1),.s e3,.s e4,.s e5,.s e6,.s e7,.s e8,.i (gI r2 1),.s e10,.s e11,.s e12,.s e13]))))))))) (.leaf (1,[.s e5,.s e6,.s e7,.s e8,.i c9,.s e10,.s e11,.s e12,.s e13]))):=by kernel_rfl
theorem qDR:qkx [.r a0,.s e1,.s e2]=(let r0:=qf q8r [.r a0,.i (qg a0),.i 0,.s e1,.s e2,.s [],.s [],.s [],.s [],.i 0,.s e1,.s e2,.s [],.s []];qO8 r0 (.br (ine (gI r0 4) 0) (qOa [.s [],.s [],.s [],.s [],.i (gI r0 4)]) (qOa [.s (gS r0 5),.s (gS r0 6),.s (gS r0 7),.s (gS r0 8),.i 0]))):=by kernel_rfl
theorem qEv:qjx [.r a0,.s e1,.s e2]=(let r0:=q9f [.r a0];qO8 r0 (.br (ine (gI r0 0) 0) (qOa [.s [],.s [],.s [],.s [],.i (gI r0 0)]) (let r1:=q4Y [.r [[.s e1],[.s e2]]];qO8 r1 (.br (ine (gI r1 0) 0) (qOa [.s [],.s [],.s [],.s [],.i (gI r1 0)]) (let r2:=qkx [.r a0,.s e1,.s e2];qO8 r2 (qOa [.s (gS r2 0),.s (gS r2 1),.s (gS r2 2),.s (gS r2 3),.i (gI r2 4)])))))):=by kernel_rfl
theorem qv8:q7t [.s e0,.s e1,.s e2,.s e3,.i c4]=(.br (ilt c4 0) (qOa [.b false,.i 2]) (.br (ilt 100000 c4) (qOa [.b false,.i 2]) (let r0:=qw [.i (zw .i64 c4 c4)];qO8 r0 (let r1:=vQ [.s e3,.s e2,.i 0];qO8 r1 (let r2:=vQ [.s (gS r1 0),.s (gS r0 0),.i (gI r1 1)];qO8 r2 (let r3:=z8 [.s [48],.s (gS r2 0),.i (gI r2 1)];qO8 r3 (.br (not (gB r3 0)) (qOa [.b (ieq (gI r3 1) 0),.i (gI r3 1)]) (let r4:=zU [.s [52],.s (gS r0 0),.i (gI r3 1)];qO8 r4 (let r5:=zU [.s (gS r4 0),.s e2,.i (gI r4 1)];qO8 r5 (let r6:=zU [.s (gS r2 0),.s (gS r2 0),.i (gI r5 1)];qO8 r6 (let r7:=z8 [.s (gS r5 0),.s (gS r6 0),.i (gI r6 1)];qO8 r7 (.br (not (gB r7 0)) (qOa [.b (ieq (gI r7 1) 0),.i (gI r7 1)]) (qOa [.b false,.i (gI r7 1)]))))))))))))):=by kernel_rfl
theorem qwV:q9L [.r a0,.s e1,.s e2,.i c3]=(let r0:=qjx [.r a0,.s e1,.s e2];qO8 r0 (.br (ine (gI r0 4) 0) (qOa [.b false,.i (gI r0 4)]) (let r1:=q7t [.s (gS r0 0),.s (gS r0 1),.s (gS r0 2),.s (gS r0 3),.i c3];qO8 r1 (qOa [.b (gB r1 0),.i (gI r1 1)])))):=by kernel_rfl
theorem ql6:uI [.r a0,.i c1,.i c2,.i c3]=(let t0:TR:=(qO8 (jF []) (qOa [.b (gB (jF []) 0)]));let t1:=vW [.i c1,.i c2];let p0:List PV:=[.r [[.i 0,.l a0]],.i c1,.i c2,.i (qy8 .i64 c3)];let t2:=q9L [.r a0,.s (gS (qw [.i c1]) 0),.s (gS (qw [.i c2]) 0),.i (qy8 .i64 c3)];let t3:TR:=(qOa [.b false]);(qO8 (q1y [.r a0]) (.br (not (gB (q1y [.r a0]) 0)) t0 (qO8 (u5 [.r a0]) (.br (ine (gI (u5 [.r a0]) 0) 0) t0 (.br (ieq (qg a0) 0) t0 (qO8 t1 (.br (not (gB t1 0)) t0 (qO8 (jq p0) (qO8 (q09 p0) (qO8 (qw [.i c1]) (qO8 (qw [.i c2]) (qO8 t2 (.br (ieq (qu .i64 (qu .i64 (gI (jq p0) 2) (gI (q09 p0) 1)) (gI t2 1)) 0) (.br (beq (gB (jq p0) 0) (gB t2 0)) (.br (beq (gB (q09 p0) 0) (gB t2 0)) t0 t3) t3) t3)))))))))))))):=by kernel_rfl
theorem qu4:q4Z [.r a0,.i c1,.i c2]=(let r0:=qI [.r a0];qO8 r0 (.br (ine (gI r0 0) 0) (qOa [.i 0,.i 0,.i (gI r0 0)]) (.br (ieq (qg a0) 0) (qOa [.i 0,.i 0,.i 13]) (let r1:=kY [.i c1,.i c2];qO8 r1 (.br (not (gB r1 0)) (qOa [.i 0,.i 0,.i 2]) (let r2:=wR [.i c1,.i c2,.r [[.l a0]]];qO8 r2 (qOa [.i (gI r2 0),.i (gI r2 1),.i 0]))))))):=by kernel_rfl
theorem q2A:vn [.r a0,.i c1,.i c2,.i c3,.r a4,.b d5]=(let i0:Int:=(qu .i64 c2 1);let i1:Int:=(qg a4);let p0:List PV:=[.i c3,.r a4,.b d5];let i2:Int:=(qs2 i0 i1);let t0:TR:=(qO9 (ine i1 0) (qO9 (inb i2 i1) (.br (qwO (ieq (cI a0 c2 0) (cI a4 i2 0)) (qwO (ieq (cI a0 c2 1) (cI a4 i2 1)) true)) (.leaf (2,[.i 7,.r a4,.b d5])) (qOa ((.r a0)::(.i c1)::(.i i0)::p0)))));(.br (ilt c2 c1) (qO9 (inb c2 (qg a0)) (.br (ieq i0 i1) (.br (not d5) (.leaf (3,p0)) t0) t0)) (.leaf (1,p0)))):=by kernel_rfl
theorem qrC:q3j [.r a0,.b d1]=(let t0:=qI [.r a0];let t1:TR:=(qOa [.i 13]);let t2:=qf vn [.r a0,.i (qg a0),.i 0,.i 0,.r a0,.b d1];let t3:TR:=(qOa [.i 0]);let t4:TR:=(qO8 t2 (.br (jIs t2 0) t3 (.br (jIs t2 1) (qOa [.i (gI t2 0)]) t3)));(qO8 t0 (.br (ine (gI t0 0) 0) (qOa [.i (gI t0 0)]) (.br (ilt (qg a0) 2) t1 (.br d1 (.br (ilt (qg a0) 3) t1 t4) t4))))):=by kernel_rfl
theorem q7D:wG [.r a0,.i c1,.i c2]=(.br (ilt c2 c1) (qO9 (inb c2 (qg a0)) (.br (ilt (cI a0 c2 0) 0) (.leaf (2,[.i 2])) (.br (ilt 100000 (cI a0 c2 0)) (.leaf (2,[.i 2])) (qOa [.r a0,.i c1,.i (qu .i64 c2 1)])))) (.leaf (1,[]))):=by kernel_rfl
theorem qkt:yK [.r a0]=(let r0:=qf wG [.r a0,.i (qg a0),.i 0];qO8 r0 (.br (jIs r0 0) (qOa [.i 0]) (qOa [.i (gI r0 0)]))):=by kernel_rfl
theorem qiP:q29 [.s e0,.s e1,.i c2,.i c3,.r a4]=(.br (ilt c3 c2) (qO9 (inb c3 (qg a4)) (let r0:=qG [.s (cS a4 c3 0)];qO8 r0 (.br (ine (gI r0 0) 0) (.leaf (2,[.s [],.i (gI r0 0)])) (qOa [.s e0,.s e1,.i c2,.i (qu .i64 c3 1),.r a4])))) (.leaf (1,[.s e0,.s e1]))):=by kernel_rfl
theorem qx7:q3w [.s e0,.s e1]=(let r0:=qf q29 [.s e0,.s e1,.i (qg [[.s e0],[.s e1]]),.i 0,.r [[.s e0],[.s e1]]];qO8 r0 (.br (jIs r0 0) (.br (seq (gS r0 1) [48]) (qOa [.s [],.i 10]) (let r1:=qB [.s (gS r0 0),.s (gS r0 1),.i 0];qO8 r1 (.br (ine (gI r1 1) 0) (qOa [.s [],.i (gI r1 1)]) (qOa [.s (gS r1 0),.i 0])))) (qOa [.s (gS r0 0),.i (gI r0 1)]))):=by kernel_rfl
theorem qB9:qbN [.i c0,.i c1]=(let r0:=za [.i c0];qO8 r0 (let r1:=za [.i c1];qO8 r1 (let r2:=q3w [.s (gS r0 0),.s (gS r1 0)];qO8 r2 (qOa [.s (gS r2 0),.i (gI r2 1)])))):=by kernel_rfl
theorem qrz:jQ [.s e0,.s e1]=(let r0:=qP [.s e0,.s e1];qO8 r0 (qOa [.i (gI r0 0)])):=by kernel_rfl
theorem qnw:kL [.s e0,.s e1]=(let r0:=jQ [.s e0,.s e1];qO8 r0 (qOa [.b (ilt 0 (gI r0 0)),.s e1])):=by kernel_rfl
theorem qpy:q21 [.i c0,.s e1]=(let r0:=za [.i c0];qO8 r0 (let r1:=q1j [.s (gS r0 0),.s (gS r0 0)];qO8 r1 (.br (ine (gI r1 1) 0) (qOa [.s [],.i (gI r1 1)]) (let r2:=q3w [.s (gS r1 0),.s e1];qO8 r2 (qOa [.s (gS r2 0),.i (gI r2 1)]))))):=by kernel_rfl
theorem qld:uA [.i c0,.i c1,.i c2,.i c3]=(qOa [.i (yC .i64 (zw .i64 c0 c3) (zw .i64 c1 c2))]):=by kernel_rfl
theorem qsH:q4T [.i c0,.i c1,.i c2,.i c3,.i c4,.i c5]=(let r0:=yA [.i c0,.i c1,.i c2,.i c3];qO8 r0 (let r1:=yA [.i c0,.i c1,.i c4,.i c5];qO8 r1 (let r2:=uA [.i (gI r0 0),.i (gI r0 1),.i (gI r1 0),.i (gI r1 1)];qO8 r2 (qOa [.i (gI r2 0)])))):=by kernel_rfl
theorem qs5:q3E [.i c0,.i c1,.i c2,.i c3,.i c4,.i c5]=(let r0:=qM [.r [[.i c0,.i c1],[.i c2,.i c3],[.i c4,.i c5]]];qO8 r0 (.br (ine (gI r0 0) 0) (qOa [.s [],.i (gI r0 0)]) (.br (qwO (ieq c2 c4) (qwO (ieq c3 c5) true)) (qOa [.s [],.i 10]) (let r1:=yA [.i c2,.i c3,.i c4,.i c5];qO8 r1 (let r2:=q4T [.i c2,.i c3,.i c4,.i c5,.i c0,.i c1];qO8 r2 (let r3:=zq [.i (gI r1 0),.i (gI r1 1),.i (gI r1 0),.i (gI r1 1)];qO8 r3 (let r4:=za [.i (gI r3 0)];qO8 r4 (let r5:=q21 [.i (gI r2 0),.s (gS r4 0)];qO8 r5 (qOa [.s (gS r5 0),.i (gI r5 1)]))))))))):=by kernel_rfl
theorem qn6:jX [.i c0,.i c1,.i c2,.i c3,.i c4,.i c5]=(let t0:=qM [.r [[.i c0,.i c1],[.i c2,.i c3],[.i c4,.i c5]]];let p0:List PV:=[.i c2,.i c3,.i c4,.i c5];let t1:=yA p0;let t2:=yA [.i c4,.i c5,.i c0,.i c1];let p1:List PV:=[.i (gI t2 0),.i (gI t2 1)];let t3:=zq ((.i (gI t1 0))::(.i (gI t1 1))::p1);let t4:=yA [.i c2,.i c3,.i c0,.i c1];let p2:List PV:=[.i (gI t4 0),.i (gI t4 1)];let t5:=zq ((.i (gI t1 0))::(.i (gI t1 1))::p2);let t6:=zq ((.i (gI t2 0))::(.i (gI t2 1))::p1);let t7:=qw [.i (gI t6 0)];let t8:TR:=(qO8 t2 (qO8 t6 (qO8 t7 (qOa [.s (gS t7 0),.i 0]))));let t9:=q3E ((.i c0)::(.i c1)::p0);let t10:TR:=(qO8 t9 (qOa [.s (gS t9 0),.i (gI t9 1)]));let t11:=zq ((.i (gI t4 0))::(.i (gI t4 1))::p2);let t12:=qw [.i (gI t11 0)];let t13:TR:=(qO8 t4 (qO8 t11 (qO8 t12 (qOa [.s (gS t12 0),.i 0]))));(qO8 t0 (.br (ine (gI t0 0) 0) (qOa [.s [],.i (gI t0 0)]) (qO8 t1 (qO8 t2 (qO8 t3 (.br (ilt 0 (gI t3 0)) (qO8 t4 (qO8 t5 (.br (ile (gI t5 0) 0) t8 (.br (qwO (ieq c4 c4) (qwO (ieq c5 c5) true)) t8 t10)))) (qO8 t4 (qO8 t5 (.br (ile (gI t5 0) 0) t13 (.br (qwO (ieq c2 c4) (qwO (ieq c3 c5) true)) t13 t10))))))))))):=by kernel_rfl
theorem q6l:wi [.r a0,.i c1,.i c2,.i c3,.i c4,.s e5,.i c6,.i c7,.s e8,.i c9,.r a10,.b d11]=(let i0:Int:=(qu .i64 c2 1);let i1:Int:=(qg a10);let p0:List PV:=[.r a10,.b d11];let p1:List PV:=((.i c3)::(.i c4)::(.s e5)::(.i c6)::(.i c7)::(.s e8)::(.i c9)::p0);let i2:Int:=(qs2 i0 i1);let t0:=jX [.i c3,.i c4,.i (cI a0 c2 0),.i (cI a0 c2 1),.i (cI a10 i2 0),.i (cI a10 i2 1)];let t1:TR:=(qOa ((.r a0)::(.i c1)::(.i i0)::(.i c3)::(.i c4)::(.s e5)::(.i c6)::(.i c7)::(.s (gS t0 0))::(.i c2)::p0));let t2:=jQ [.s (gS t0 0),.s e8];let t3:TR:=(qO9 (ine i1 0) (qO9 (inb i2 i1) (qO8 t0 (.br (ine (gI t0 1) 0) (.leaf (2,((.i c3)::(.i c4)::(.s [])::(.i 0)::(.i (gI t0 1))::(.s e8)::(.i c9)::p0))) (.br (seq e8 []) t1 (qO8 t2 (.br (ilt (gI t2 0) 0) t1 (qOa ((.r a0)::(.i c1)::(.i i0)::p1)))))))));(.br (ilt c2 c1) (qO9 (inb c2 (qg a0)) (.br (ieq i0 i1) (.br (not d11) (.leaf (3,p1)) t3) t3)) (.leaf (1,p1)))):=by kernel_rfl
theorem qo1:q0I [.r a0,.b d1,.i c2,.i c3]=(let r0:=qf wi [.r a0,.i (qg a0),.i 0,.i c2,.i c3,.s [],.i 0,.i 0,.s [],.i 0,.r a0,.b d1];qO8 r0 (.br (jIs r0 0) (qOa [.s (gS r0 5),.i (gI r0 6),.i 0]) (.br (jIs r0 1) (qOa [.s (gS r0 2),.i (gI r0 3),.i (gI r0 4)]) (qOa [.s (gS r0 5),.i (gI r0 6),.i 0])))):=by kernel_rfl
theorem q6g:we [.r a0,.b d1,.r a2,.i c3,.i c4,.r a5,.b d6,.r a7,.i c8,.i c9,.i c10,.i c11,.i c12,.r a13,.b d14,.i c15,.i c16,.r a17,.i c18,.i c19,.i c20,.i c21,.i c22,.i c23,.r a24,.b d25,.r a26,.r a27,.s e28,.r a29]=(.br (ilt c4 c3) (qO9 (inb c4 (qg a2)) (let r0:=q0I [.r a0,.b d1,.i (cI a2 c4 0),.i (cI a2 c4 1)];qO8 r0 (.br (ine (gI r0 2) 0) (.leaf (2,[.i (gI r0 2),.r a5,.b d6,.r a7,.i c8,.i c9,.i c10,.i c11,.i c12,.r a13,.b d14,.i c15,.i c16,.r a17,.i c18,.i c19,.i c20,.i c21,.i c22,.i c23,.r a24,.b d25,.r a26,.r a27,.s e28])) (let r1:=kL [.s (gS r0 0),.s e28];qO8 r1 (.br (gB r1 0) (qO9 (ile ((qg a29)+(qg [[.i c4]])) 17592186044416) (qOa [.r a0,.b d1,.r a2,.i c3,.i (qu .i64 c4 1),.r a5,.b d6,.r a7,.i c8,.i c9,.i c10,.i c11,.i c12,.r a13,.b d14,.i c15,.i c16,.r a17,.i c18,.i c19,.i c20,.i c21,.i c22,.i c23,.r a24,.b d25,.r a26,.r a27,.s (gS r1 1),.r (yB a29 [[.i c4]])])) (qOa [.r a0,.b d1,.r a2,.i c3,.i (qu .i64 c4 1),.r a5,.b d6,.r a7,.i c8,.i c9,.i c10,.i c11,.i c12,.r a13,.b d14,.i c15,.i c16,.r a17,.i c18,.i c19,.i c20,.i c21,.i c22,.i c23,.r a24,.b d25,.r a26,.r a27,.s (gS r1 1),.r a29])))))) (.leaf (1,[.r a5,.b d6,.r a7,.i c8,.i c9,.i c10,.i c11,.i c12,.r a13,.b d14,.i c15,.i c16,.r a17,.i c18,.i c19,.i c20,.i c21,.i c22,.i c23,.r a24,.b d25,.r a26,.r a27,.s e28,.r a29]))):=by kernel_rfl
theorem qoM:q0Y [.r a0,.b d1,.r a2,.i c3]=(let r0:=q3j [.r a0,.b d1];qO8 r0 (.br (ine (gI r0 0) 0) (qOa [.r [],.i (gI r0 0)]) (let r1:=qI [.r a2];qO8 r1 (.br (ine (gI r1 0) 0) (qOa [.r [],.i (gI r1 0)]) (let r2:=yK [.r [[.i c3]]];qO8 r2 (.br (ine (gI r2 0) 0) (qOa [.r [],.i (gI r2 0)]) (let r3:=qbN [.i (zw .i64 c3 c3),.i 4];qO8 r3 (let r4:=qf we [.r a0,.b d1,.r a2,.i (qg a2),.i 0,.r a0,.b d1,.r a2,.i c3,.i 0,.i (gI r0 0),.i (gI r1 0),.i (gI r2 0),.r a0,.b d1,.i (gI r0 0),.i (gI r0 0),.r a2,.i (gI r1 0),.i (gI r1 0),.i c3,.i (gI r2 0),.i (gI r2 0),.i c3,.r a0,.b d1,.r a2,.r [[.i c3]],.s (gS r3 0),.r []];qO8 r4 (.br (jIs r4 0) (qOa [.r (gR r4 24),.i 0]) (qOa [.r [],.i (gI r4 0)])))))))))):=by kernel_rfl
theorem qmh:kS [.r a0,.i c1,.i c2,.i c3]=(let t0:TR:=(qO8 (jF []) (qOa [.b (gB (jF []) 0)]));let p0:List PV:=[.i c1,.i c2];let t1:=q4Z ((.r a0)::p0);let i0:Int:=(qy8 .i64 c3);let t2:=jS [.r a0,.i i0];let t3:TR:=(qOa [.b false]);let t4:=q0Y [.r a0,.b false,.r a0,.i 0];let t5:TR:=(qO8 t4 (.br (ine (gI t4 1) 0) t0 (.br (ieq (qg (gR t4 0)) 0) t0 t3)));(qO8 (q1y [.r a0]) (.br (not (gB (q1y [.r a0]) 0)) t0 (qO8 (u5 [.r a0]) (.br (ine (gI (u5 [.r a0]) 0) 0) t0 (.br (ieq (qg a0) 0) t0 (qO8 (vW p0) (.br (not (gB (vW p0) 0)) t0 (qO8 t1 (qO8 t2 (.br (ine (qu .i64 (gI t1 2) (gI t2 1)) 0) t3 (.br (ile (zw .i64 4 (gI t1 1)) (zw .i64 i0 i0)) (.br (not (gB t2 0)) t3 t5) t5)))))))))))):=by kernel_rfl
end Go.Eng

namespace Go.Eng
variable {n:Nat}
theorem qMP {α:Type}(b:Bool)(t e:Tree α):(Tree.br b t e).run=if b=true then t.run else e.run:=by cases b<;>rfl
theorem qI6 {α:Type}(a:α):(Tree.leaf a).run=some a:=rfl
theorem qID {α:Type}:(Tree.fail:Tree α).run=none:=rfl
theorem zt {x y:Int}(h:-9223372036854775808<=x+y/\x+y<=9223372036854775807):qu .i64 x y=x+y:=by unfold qu IntKind.wrap;simp[IntKind.signed,IntKind.bits];omega
theorem zP {x y:Int}(h:-9223372036854775808<=x-y/\x-y<=9223372036854775807):yC .i64 x y=x-y:=by unfold yC IntKind.wrap;simp[IntKind.signed,IntKind.bits];omega
theorem zV {x y:Int}(h:-9223372036854775808<=x*y/\x*y<=9223372036854775807):zw .i64 x y=x*y:=by unfold zw IntKind.wrap;simp[IntKind.signed,IntKind.bits];omega
theorem qHc (x y:Int):(ieq x y=true)=(x=y):=by simp[ieq]
theorem qKC (x y:Int):(ine x y=true)=(x≠y):=by simp[ine]
theorem qLi (x y:Int):(ilt x y=true)=(x<y):=by simp[ilt]
theorem qF0 (x y:Int):(ile x y=true)=(x<=y):=by simp[ile]
theorem qLu (x y:Bool):(Go.Eng.beq x y=true)=(x=y):=by simp[Go.Eng.beq]
theorem qAa {a b A B:Int}(h1:-A<=a)(h2:a<=A)(h3:-B<=b)(h4:b<=B):-(A*B)<=a*b/\a*b<=A*B:=by have e1:=qOY (show 0<=A-a by omega) (show 0<=B-b by omega);have e2:=qOY (show 0<=A+a by omega) (show 0<=B+b by omega);have e3:=qOY (show 0<=A-a by omega) (show 0<=B+b by omega);have e4:=qOY (show 0<=A+a by omega) (show 0<=B-b by omega);simp only[Int.sub_mul,Int.mul_sub,Int.add_mul,Int.mul_add] at e1 e2 e3 e4;omega
theorem qKs {x:Int}(h:-9223372036854775807<=x/\x<=9223372036854775807):yC .i64 0 x=-x:=by rw[zP (by omega)];omega
theorem qD7 {x:Int}(h:-9223372036854775808<=x/\x<=9223372036854775807):qy8 .i64 x=x:=by unfold qy8 IntKind.wrap;simp[IntKind.signed,IntKind.bits];omega
theorem qIF (b:Bool):((!b)=true)=¬(b=true):=by cases b<;>simp
theorem qIi (x y:Bool):(qwO x y=true)=(x=true/\y=true):=by simp[qwO]
theorem qN4 (i n:Int):(inb i n=true)=(0<=i/\i<n):=by simp[inb]
theorem qLz (i n:Int):(qf8 i n=true)=(0<=i/\i<=n):=by simp[qf8]
theorem STD:(∀(α:Type) (b:Bool) (t e:Tree α),(Tree.br b t e).run=if b=true then t.run else e.run)/\(∀(α:Type) (a:α),(Tree.leaf a).run=some a)/\(∀(α:Type),(Tree.fail:Tree α).run=none) /\(∀R:TR,okR R=R.run.isSome)/\(∀(α:Type) (a:α),(some a).isSome=true)/\(∀(R:TR) (i:Nat),gI R i=(pR R i).toI)/\(∀(R:TR) (i:Nat),gB R i=(pR R i).toB)/\(∀(R:TR) (i:Nat),gS R i=(pR R i).toS)/\(∀(R:TR) (i:Nat),gR R i=(pR R i).toR) /\(∀(R:TR) (i:Nat),pR R i=R.run.elim (.i 0) fun r=>r.2.getD i (.i 0))/\(∀(α β:Type) (b:β) (f:α->β) (a:α),(some a).elim b f=f a) /\(∀(a:PV) (l:List PV) (d:PV),(a::l).getD 0 d=a)/\(∀(a:PV) (l:List PV) (d:PV) (n:Nat),(a::l).getD (n+1) d=l.getD n d) /\(∀n,(PV.i n).toI=n)/\(∀b,(PV.b b).toB=b)/\(∀s,(PV.s s).toS=s)/\(∀l,(PV.r l).toR=l) /\(∀(α:Type) (h:Decidable True) (a b:α),@ite α True h a b=a)/\(∀(α:Type) (h:Decidable False) (a b:α),@ite α False h a b=b)/\((false=true)=False)/\((true=false)=False)/\((true=true)=True) /\(∀x y,(ieq x y=true)=(x=y))/\(∀x y,(ine x y=true)=(x≠y))/\(∀x y,(ilt x y=true)=(x<y))/\(∀x y,(ile x y=true)=(x<=y))/\(∀x y,(Go.Eng.beq x y=true)=(x=y)) /\(∀x y,(qwO x y=true)=(x=true/\y=true))/\(∀b:Bool,((!b)=true)=¬(b=true))/\(∀i n,(inb i n=true)=(0<=i/\i<n))/\(∀i n,(qf8 i n=true)=(0<=i/\i<=n)) /\(∀(p:Prop) (_:Decidable p),(decide p=true)=p)/\(∀(α:Type) (a b:α),(a≠b)=¬(a=b))/\(¬True)=False/\(¬False)=True:=
 ⟨fun _=>qMP,fun _=>qI6,fun _=>qID,fun _=>rfl,fun _ _=>rfl,fun _ _=>rfl,fun _ _=>rfl,fun _ _=>rfl,fun _ _=>rfl,fun R i=>by unfold pR;cases R.run<;>rfl,fun _ _ _ _ _=>rfl,
  fun _ _ _=>rfl,fun _ _ _ _=>rfl,fun _=>rfl,fun _=>rfl,fun _=>rfl,fun _=>rfl,fun _ _ _ _=>by simp,fun _ _ _ _=>by simp,by simp,by simp,by simp,qHc,qKC,qLi,qF0,qLu,
  qIi,qIF,qN4,qLz,fun _ _=>by simp,fun _ _ _=>rfl,by simp,by simp⟩
theorem zf {R:TR}{j:Nat}{ps:List PV}(h:R.run=some (j,ps))(i:Nat):(jIs R i=true)=(j=i):=by simp[jIs,jR,h]
theorem run_bind {α β:Type}(t:Tree α)(f:α->Tree β):(t.bind f).run=t.run.bind fun a=>(f a).run:=by
 induction t with
 | leaf a=>rfl
 | br b t e iht ihe=>cases b<;>simp[Tree.bind,Tree.run,iht,ihe]
 | fail=>rfl
theorem qnN {S:List PV->TR}{ps qs:List PV}(h:(S ps).run=some (0,qs)):(qms S (n+1) ps).run=(qms S n qs).run:=by simp[qms,run_bind,h]
theorem qjt {S:List PV->TR}{n j:Nat}{ps qs:List PV}(h:(S ps).run=some (j+1,qs)):(qms S (n+1) ps).run=some (j,qs):=by simp[qms,run_bind,h,Tree.run]
def q80{α:Type}(f:Nat->Option α):Nat->Nat->Option α
 | _,0=>none
 | i,k+1=>match f i with
  | some a=>some a
  | none=>q80 f (i+1) k
theorem qw1{S:List PV->TR}(st:Nat->List PV)(f:Nat->Option (Nat×List PV))(fin:Nat×List PV)(n:Nat)
  (h1:∀i,i<n->f i=none->(S (st i)).run=some (0,st (i+1))) (h2:∀i r,i<n->f i=some r->(S (st i)).run=some (r.1+1,r.2))
  (h3:(S (st n)).run=some (fin.1+1,fin.2)):∀(k i m:Nat),i+k=n->k<m->(qms S m (st i)).run=some ((q80 f i k).getD fin)
 | 0,i,m,hi,hm=>by
  obtain⟨m,rfl⟩:∃m',m=m'+1:=⟨m-1,by omega⟩;have:i=n:=by omega
  subst this;rw[qjt h3];rfl
 | k+1,i,m,hi,hm=>by
  obtain⟨m,rfl⟩:∃m',m=m'+1:=⟨m-1,by omega⟩;cases hf:f i with
  | none=>
   rw[qnN (h1 i (by omega) hf),qw1 st f fin n h1 h2 h3 k (i+1) m (by omega) (by omega)];simp[q80,hf]
  | some r=>
   rw[qjt (h2 i r (by omega) hf)];simp[q80,hf]
theorem q23 {S:List PV->TR}(st:Nat->List PV)(f:Nat->Option (Nat×List PV))(fin:Nat×List PV)(n:Nat)(hn:n<9223372036854775808)(h1:∀i,i<n->f i=none->(S (st i)).run=some (0,st (i+1))) (h2:∀i r,i<n->f i=some r->(S (st i)).run=some (r.1+1,r.2))(h3:(S (st n)).run=some (fin.1+1,fin.2)):(qf S (st 0)).run=some ((q80 f 0 n).getD fin):=qw1 st f fin n h1 h2 h3 n 0 qls (by omega) (Nat.lt_trans hn (by unfold qls;decide))
theorem qp {S:List PV->TR}(st:Nat->List PV)(fin:Nat×List PV)(n:Nat)(hn:n<9223372036854775808)(h1:∀i,i<n->(S (st i)).run=some (0,st (i+1))) (h3:(S (st n)).run=some (fin.1+1,fin.2)):(qf S (st 0)).run=some fin:=by
 have h:=q23 st (fun _=>none) fin n hn (fun i hi _=>h1 i hi) (fun i r _ h=>by cases h) h3;have e:∀k i,q80 (fun _=>(none:Option (Nat×List PV))) i k=none:=by
  intro k;induction k with
  | zero=>intro i;rfl
  | succ k ih=>intro i;simp[q80,ih]
 rw[e] at h;exact h
theorem qcG{α:Type}{f:Nat->Option α}:∀{k i:Nat},q80 f i k=none->∀j,i<=j->j<i+k->f j=none
 | 0,i,_,j,h1,h2=>by omega
 | k+1,i,h,j,h1,h2=>by
  simp only[q80] at h;cases hf:f i with
  | some a=>rw[hf] at h;cases h
  | none=>
   rw[hf] at h;rcases qPF h1 with rfl|h1
   ·exact hf
   ·exact qcG h j h1 (by omega)
theorem qgh{α:Type}{f g:Nat->Option α}:∀{k i:Nat},(∀j,i<=j->j<i+k->f j=g j)->q80 f i k=q80 g i k
 | 0,i,_=>rfl
 | k+1,i,h=>by
  simp only[q80];rw[h i (by omega) (by omega),qgh (fun j h1 h2=>h j (by omega) (by omega))]
theorem qxP{α β:Type}(g:α->β){f:Nat->Option α}:∀{k i:Nat},q80 (fun j=>(f j).map g) i k=(q80 f i k).map g
 | 0,i=>rfl
 | k+1,i=>by
  simp only[q80];cases f i with
  | some a=>rfl
  | none=>exact qxP g
theorem jd {i n:Nat}(h:i<n)(hn:n<9223372036854775808):qu .i64 (i:Int) 1=((i+1:Nat):Int):=by rw[zt (by omega)];omega
theorem qsJ {α:Type}(n:Nat):∀i,q80 (fun _=>(none:Option α)) i n=none:=by
 induction n with
 | zero=>intro i;rfl
 | succ n ih=>intro i;simp[q80,ih]
def pick(p:Nat->Bool):Nat->R
 | 0=>[]
 | n+1=>if p n then yB (pick p n) [[.i (n:Int)]] else pick p n
def q8D(f:Nat->Int)(i:Nat):Option Int:=if f i=0 then none else some (f i)
theorem qF4 {f:Nat->Int}(h:q80 (q8D f) 0 n=none)(i:Nat)(hi:i<n):f i=0:=by
 have:=qcG h i (by omega) (by omega);unfold q8D at this;split at this
 ·assumption
 ·cases this
theorem qwR{f:Nat->Int}:∀{k i:Nat} {e:Int},q80 (q8D f) i k=some e->e≠0
 | 0,i,e,h=>by cases h
 | k+1,i,e,h=>by
  simp only[q80] at h;unfold q8D at h;by_cases h0:f i=0
  ·rw[if_pos h0] at h;exact qwR h
  ·rw[if_neg h0] at h;simp at h;omega
def jZ(e:Nat->Int)(n:Nat):Int:=(q80 (q8D e) 0 n).getD 0
theorem q5R {e:Nat->Int}(h:jZ e n=0)(i:Nat)(hi:i<n):e i=0:=by
 unfold jZ at h;cases hs:q80 (q8D e) 0 n with
 | none=>exact qF4 hs i hi
 | some x=>rw[hs] at h;exact absurd h (qwR hs)
theorem qnZ {e:Nat->Int}(h:∀i,i<n->e i=0):jZ e n=0:=by unfold jZ;rw[qgh (g:=fun _=>none) (fun j _ hj=>by unfold q8D;rw[if_pos (h j (by omega))]),qsJ];rfl
theorem qyP {e f:Nat->Int}(h:∀i,i<n->e i=f i):jZ e n=jZ f n:=by unfold jZ;rw[qgh (g:=q8D f) (fun j _ hj=>by unfold q8D;rw[h j (by omega)])]
theorem qe7 {S:List PV->TR}(st:Nat->List PV)(e:Nat->Int)(caps fin:List PV)(n:Nat)(hn:n<9223372036854775808)(h:∀i,i<n->(S (st i)).run=if e i=0 then some (0,st (i+1)) else some (2,.i (e i)::caps)) (h3:(S (st n)).run=some (1,fin)) :(qf S (st 0)).run=some (if jZ e n=0 then (0,fin) else (1,.i (jZ e n)::caps)):=by
 have key:=q23 st (fun i=>(q8D e i).map fun x=>(1,PV.i x::caps)) (0,fin) n hn (fun i hi hf=>by
  rw[h i hi];unfold q8D at hf;split at hf
  ·rename_i h0;rw[if_pos h0]
  ·simp at hf) (fun i r hi hf=>by
  rw[h i hi];unfold q8D at hf;split at hf
  ·simp at hf
  ·rename_i h0;simp at hf;rw[if_neg h0,<-hf]) h3
 rw[key,qxP];unfold jZ;cases hs:q80 (q8D e) 0 n with
 | none=>simp
 | some x=>simp[qwR hs]
def qzX(g:Nat->List U)(n:Nat):R:=(List.range n).map g
theorem qEC (g:Nat->List U)(n:Nat):yB (qzX g n) [g n]=qzX g (n+1):=by simp[yB,qzX,qP6]
theorem qsb (g:Nat->List U)(n:Nat):(qzX g n).length=n:=by simp[qzX]
theorem qF8 (g:Nat->List U)(n:Nat):qg (qzX g n)=n:=by simp[qg,qzX]
theorem qDl (g:Nat->List U){n i:Nat}(h:i<n)(j:Nat):zZ (qzX g n) (i:Int) j=(g i).getD j (.i 0):=by unfold zZ qzX;simp[h]
theorem qKm (g:Nat->List U){n i:Nat}(h:i<n)(j:Nat):cR (qzX g n) (i:Int) j=((g i).getD j (.i 0)).toR:=by unfold cR;rw[qDl g h]
theorem qG4 {g:Nat->List U}{i n:Nat}{K:Int}(hi:i<n)(hn:(n:Int)<=K)(a:List U):qg (qzX g i)+qg [a]<=K:=by rw[qF8];show (i:Int)+1<=_;omega
theorem qib {l:R}{i:Nat}(h:i<l.length):(i:Int)<qg l:=by unfold qg;omega
theorem q7U (l:R):¬((l.length:Int)<qg l):=by unfold qg;omega
theorem q9A (i:Nat):(0:Int)<=(i:Int):=by omega
theorem qJx (a:List U):qg [a]=1:=rfl
end Go.Eng

namespace Go.Eng
variable {n:Nat}
def dch(d:Nat):UInt8:=UInt8.ofNat (48+d)
def dv(c:UInt8):Nat:=c.toNat-48
def qhQ(s:qOb):Prop:=∀c,c∈s->48<=c.toNat/\c.toNat<=57
def val(s:qOb):Nat:=s.foldl (fun a c=>10*a+dv c) 0
def tNf:Nat->Nat->List UInt8
 | 0,_=>[]
 | f+1,n=>if n<10 then [dch n] else tNf f (n/10)++[dch (n%10)]
def tN(n:Nat):List UInt8:=tNf (n+1) n
def tI(n:Int):List UInt8:=if n<0 then 45::tN n.natAbs else tN n.natAbs
theorem qoF {d:Nat}(h:d<10):(dch d).toNat=48+d:=by unfold dch;rw[UInt8.toNat_ofNat'];omega
theorem qJW {d:Nat}(h:d<10):dv (dch d)=d:=by unfold dv;rw[qoF h];omega
theorem qK1 {c:UInt8}(h1:48<=c.toNat)(h2:c.toNat<=57):dch (dv c)=c:=by apply UInt8.toNat_inj.1;rw[qoF (by unfold dv;omega)];unfold dv;omega
theorem qCT (s:qOb)(c:UInt8):val (s++[c])=10*val s+dv c:=by simp[val,List.foldl_append]
theorem qtf:∀(t:qOb) (a:Nat),t.foldl (fun a c=>10*a+dv c) a=a*10^t.length+val t
 | [],a=>by simp[val]
 | c::t,a=>by
  have h1:=qtf t (10*a+dv c);have h2:=qtf t (10*0+dv c);have h3:val (c::t)=t.foldl (fun a c=>10*a+dv c) (10*0+dv c):=rfl;rw[h3,h2,qPH,h1,qON,qPQ];grind
theorem qyo (s t:qOb):val (s++t)=val s*10^t.length+val t:=by
 have h:val (s++t)=t.foldl (fun a c=>10*a+dv c) (val s):=by simp[val,List.foldl_append]
 rw[h,qtf]
theorem qe8 (c:UInt8)(t:qOb):val (c::t)=dv c*10^t.length+val t:=by have:=qyo [c] t;simpa[val] using this
theorem qyk:val []=0:=rfl
theorem qBB (c:UInt8):val [c]=dv c:=by simp[val]
theorem qJ3:qhQ []:=fun c h=>by cases h
theorem q4L {c:UInt8}{s:qOb}:qhQ (c::s)↔(48<=c.toNat/\c.toNat<=57)/\qhQ s:=by unfold qhQ;simp
theorem qoz {s t:qOb}:qhQ (s++t)↔qhQ s/\qhQ t:=by unfold qhQ;simp only[qOB];exact⟨fun h=>⟨fun c hc=>h c (.inl hc),fun c hc=>h c (.inr hc)⟩,fun h c hc=>hc.elim (h.1 c) (h.2 c)⟩
theorem qKv {c:UInt8}(h:48<=c.toNat/\c.toNat<=57):dv c<10:=by unfold dv;omega
theorem qj5:∀{s:qOb},qhQ s->val s<10^s.length
 | [],_=>by simp[val]
 | c::s,h=>by
  obtain⟨h1,h2⟩:=q4L.1 h;have ih:=qj5 h2;have hd:=qKv h1;rw[qe8,qON,qPQ];have:dv c*10^s.length<=9*10^s.length:=qOE _ (by omega);omega
theorem qCG {d:Nat}(h:d<10):qhQ [dch d]:=by intro c hc;simp at hc;subst hc;rw[qoF h];omega
theorem qKf:∀(f g n:Nat),n<f->n<g->tNf f n=tNf g n
 | 0,_,n,h,_=>by omega
 | _,0,n,_,h=>by omega
 | f+1,g+1,n,h1,h2=>by
  unfold tNf;by_cases h:n<10
  ·rw[if_pos h,if_pos h]
  ·rw[if_neg h,if_neg h,qKf f g (n/10) (by omega) (by omega)]
theorem qAl (h:n<10):tN n=[dch n]:=by unfold tN tNf;rw[if_pos h]
theorem qDN (h:10<=n):tN n=tN (n/10)++[dch (n%10)]:=by
 have:tN n=tNf n (n/10)++[dch (n%10)]:=by show tNf (n+1) n=_;rw[tNf,if_neg (by omega)]
 rw[this,qKf n (n/10+1) (n/10) (by omega) (by omega)];rfl
theorem qy9 (n:Nat):qhQ (tN n)/\tN n≠[]/\val (tN n)=n:=by
 induction n using Nat.strongRecOn with
 | _ n ih=>
  by_cases h:n<10
  ·rw[qAl h];exact⟨qCG h,by simp,by rw[qBB,qJW h]⟩
  ·rw[qDN (by omega)];obtain⟨h1,h2,h3⟩:=ih (n/10) (by omega);refine⟨qoz.2 ⟨h1,qCG (by omega)⟩,by simp,?_⟩;rw[qCT,h3,qJW (by omega)];omega
theorem yR (n:Nat):qhQ (tN n):=(qy9 n).1
theorem qrT (n:Nat):tN n≠[]:=(qy9 n).2.1
theorem q88 (n:Nat):val (tN n)=n:=(qy9 n).2.2
theorem quy (n:Nat):0<(tN n).length:=qPJ.2 (qrT n)
theorem q9e:∀(k n:Nat),n<10^(k+1)->(tN n).length<=k+1
 | 0,n,h=>by rw[qAl (by simpa using h)];simp
 | k+1,n,h=>by
  by_cases h10:n<10
  ·rw[qAl h10];simp
  ·rw[qDN (by omega),qOz];have:=q9e k (n/10) (by rw[qPQ] at h;omega);simp;omega
theorem qzf:∀(k n:Nat),10^k<=n->k<(tN n).length
 | 0,n,_=>quy n
 | k+1,n,h=>by
  have hp:0<10^k:=Nat.pow_pos (by omega);rw[qPQ] at h;rw[qDN (by omega),qOz];have:=qzf k (n/10) (by omega);simp;omega
theorem qoQ {k n:Nat}(h:(tN n).length<=k):n<10^k:=by have:=qj5 (yR n);rw[q88] at this;exact qPr this (qQa (by omega) h)
def lead(s:qOb):Prop:=s.length=1\/s.getD 0 0≠48
theorem qCv {s:qOb}(hd:qhQ s)(hn:s≠[])(h:s.getD 0 0≠48):10^(s.length-1)<=val s:=by
 cases s with
 | nil=>exact absurd rfl hn
 | cons c s=>
  obtain⟨h1,h2⟩:=q4L.1 hd;simp at h;have hc:1<=dv c:=by unfold dv;have:c.toNat≠48:=fun e=>h (UInt8.toNat_inj.1 (by simpa using e));omega
  rw[qe8,qON,Nat.add_sub_cancel];have:1*10^s.length<=dv c*10^s.length:=qOE _ hc;omega
theorem qJK:∀(n:Nat) {s:qOb},s.length=n+1->qhQ s->lead s->tN (val s)=s
 | 0,s,hl,hd,_=>by
  match s,hl with
  | [c],_=>
   have h1:=(q4L.1 hd).1;rw[qBB,qAl (qKv h1),qK1 h1.1 h1.2]
 | n+1,s,hl,hd,hz=>by
  obtain⟨i,c,rfl⟩:∃i c,s=i++[c]:=⟨s.dropLast,s.getLast (by intro h;simp[h] at hl),(List.dropLast_concat_getLast _).symm⟩;have hil:i.length=n+1:=by simpa using hl
  obtain⟨h1,h2⟩:=qoz.1 hd;have hc:=(q4L.1 h2).1;have hi:i≠[]:=by intro h;simp[h] at hil
  have hz0:i.getD 0 0≠48:=by
   rcases hz with hz|hz
   ·exact absurd (by simpa using hz) hi
   ·cases i with
    | nil=>exact absurd rfl hi
    | cons a i=>simpa using hz
  have hv:1<=val i:=qOh (Nat.one_le_pow _ _ (by omega)) (qCv h1 hi hz0);have hd10:=qKv hc;rw[qCT,qDN (n:=10*val i+dv c) (by omega),show (10*val i+dv c)/10=val i by omega,show (10*val i+dv c)%10=dv c by omega,qK1 hc.1 hc.2,qJK n hil h1 (.inr hz0)]
theorem qAt {s:qOb}(hd:qhQ s)(hn:s≠[])(hz:lead s):s=tN (val s):=(qJK (s.length-1) (by have:=qPJ.2 hn;omega) hd hz).symm
theorem qCf {m n:Nat}(h:tN m=tN n):m=n:=by rw[<-q88 m,h,q88]
theorem qHe (n:Nat):lead (tN n):=by
 induction n using Nat.strongRecOn with
 | _ n ih=>
  by_cases h:n<10
  ·rw[qAl h];exact .inl rfl
  ·rw[qDN (by omega)];right;by_cases h2:n/10<10
   ·rw[qAl h2];intro e;have:(dch (n/10)).toNat=48:=by
     have e':dch (n/10)=48:=by simpa using e
     rw[e'];rfl
    rw[qoF h2] at this;omega
   ·have h3:(tN (n/10)).length≠1:=by have:=qzf 1 (n/10) (by omega);omega
    rcases ih (n/10) (by omega) with h4|h4
    ·exact absurd h4 h3
    ·cases hq:tN (n/10) with
     | nil=>exact absurd hq (qrT _)
     | cons a i=>rw[hq] at h4;simpa using h4
theorem qKK (t:qOb):slt [] t=!t.isEmpty:=by cases t<;>rfl
theorem qIg (a b:UInt8)(s t:qOb):slt (a::s) (b::t)=(decide (a<b)||(a==b&&slt s t)):=by unfold slt;simp only[Op.bytesLess]
theorem qAY:∀{s t:qOb},qhQ s->qhQ t->s.length=t.length->((slt s t=true)=(val s<val t))
 | [],[],_,_,_=>by simp[qKK,qyk]
 | a::s,b::t,h1,h2,hl=>by
  obtain⟨ha,hs⟩:=q4L.1 h1;obtain⟨hb,ht⟩:=q4L.1 h2;have hl':s.length=t.length:=by simpa using hl
  have ih:=qAY hs ht hl';have v1:=qj5 hs;have v2:=qj5 ht;rw[qIg,qe8,qe8,hl'];rw[hl'] at v1;have hab:(a<b)=(dv a<dv b):=by unfold dv;rw[UInt8.lt_iff_toNat_lt];simp only[eq_iff_iff];omega
  have hab2:(a=b)=(dv a=dv b):=by unfold dv;rw[<-UInt8.toNat_inj];simp only[eq_iff_iff];omega
  simp only[qPw,decide_eq_true_eq,qOr,beq_iff_eq,eq_iff_iff,ih,hab,hab2];generalize 10^t.length=p at *;generalize dv a=x at *;generalize dv b=y at *;constructor
  ·rintro (h|⟨rfl,h⟩)
   ·have:=qOE p (show x+1<=y by omega);rw[qOy] at this;omega
   ·omega
  ·intro h;rcases Nat.lt_trichotomy x y with h3|h3|h3
   ·exact .inl h3
   ·subst h3;exact .inr ⟨rfl,by omega⟩
   ·have:=qOE p (show y+1<=x by omega);rw[qOy] at this;omega
theorem qgy {m n:Nat}(h:m<=n):(tN m).length<=(tN n).length:=by
 rcases qOj (tN n).length (tN m).length with h1|h1
 ·have h2:=qoQ (qOe (tN n).length);have h3:0<(tN n).length:=quy n;have:=q9e ((tN n).length-1) m (by rw[Nat.sub_add_cancel h3];omega);omega
 ·exact h1
theorem qGz (m n:Nat):((tN m).length<(tN n).length\/(tN m).length=(tN n).length/\slt (tN m) (tN n)=true)↔m<n:=by
 constructor
 ·rintro (h|⟨h1,h2⟩)
  ·rcases qOj m n with h3|h3
   ·exact h3
   ·have:=qgy h3;omega
  ·rw[qAY (yR m) (yR n) h1,q88,q88] at h2;exact h2
 ·intro h;have h1:=qgy (Nat.le_of_lt h);rcases qOj (tN m).length (tN n).length with h3|h3
  ·exact .inl h3
  ·have h4:(tN m).length=(tN n).length:=by omega
   exact .inr ⟨h4,by rw[qAY (yR m) (yR n) h4,q88,q88];exact h⟩
theorem qHX (s:qOb):val (48::s)=val s:=by rw[qe8];simp[dv]
theorem qEY (n:Nat)(s:qOb):val (List.replicate n 48++s)=val s:=by
 induction n with
 | zero=>rfl
 | succ n ih=>rw[qPI,qPv,qHX,ih]
theorem qDT (n:Nat):qhQ (List.replicate n 48):=by intro c hc;rw[(List.mem_replicate.1 hc).2];decide
def rI(l:List Int):R:=l.map fun v=>[.i v]
theorem qCy (l:List Int):qg (rI l)=l.length:=by simp[qg,rI]
theorem qFX (l:List Int):(rI l).length=l.length:=by simp[rI]
theorem qGV (l:List Int)(i:Int):cI (rI l) i 0=l.getD i.toNat 0:=by unfold cI zZ rI;simp only[qOd,qOo];cases l[i.toNat]?<;>rfl
theorem qEb (x v:U):qzj [x] 0 [v]=[v]:=rfl
theorem qM2 (l:List Int)(i v:Int):qlU (rI l) i 0 [.i v]=rI (l.set i.toNat v):=by
 unfold qlU rI;apply qP2;intro j;by_cases hj:j=i.toNat
 ·subst hj;by_cases hl:i.toNat<l.length
  ·simp[hl,qEb]
  ·rw[qOA (by simp;omega),qOA (by simp;omega)]
 ·rw[qOf (qOD hj),qOo,qOo,qOf (qOD hj)]
theorem qxS (n v:Int):q8i n [.i v]=rI (List.replicate n.toNat v):=by simp[q8i,rI]
theorem qL8 {s:qOb}{i:Nat}(h:i<s.length):sat s (i:Int)=(s[i].toNat:Int):=by unfold sat;simp[h]
theorem yk (s t:qOb):(seq s t=true)=(s=t):=by simp[seq]
theorem qCM (a b:Nat):qs2 (a:Int) (b:Int)=((a%b:Nat):Int):=by unfold qs2;rw[Int.tmod_eq_emod_of_nonneg (by omega)];rfl
theorem qbd {S:List PV->TR}(I Q:Nat->List PV->Prop)(hn:n<9223372036854775808)(h:∀k ps,k<=n->I k ps->(∃k' qs,k'<k/\(S ps).run=some (0,qs)/\I k' qs)\/∃j qs,(S ps).run=some (j+1,qs)/\Q j qs) {ps:List PV} (h0:I n ps):∃j qs,(qf S ps).run=some (j,qs)/\Q j qs:=by
 have key:∀m k ps,k<=n->k<m->I k ps->∃j qs,(qms S m ps).run=some (j,qs)/\Q j qs:=by
  intro m;induction m with
  | zero=>intro k ps _ h;omega
  | succ m ih=>
   intro k ps hk hm hI;rcases h k ps hk hI with⟨k',qs,h1,h2,h3⟩|⟨j,qs,h1,h2⟩
   ·obtain⟨j,rs,g1,g2⟩:=ih k' qs (by omega) (by omega) h3;exact⟨j,rs,by rw[qnN h2];exact g1,g2⟩
   ·exact⟨j,qs,qjt h1,h2⟩
 exact key qls n ps (qOe _) (Nat.lt_trans hn (by unfold qls;decide)) h0
end Go.Eng

namespace Go.Eng
theorem qif{m:Int}(h:m<0):tI m=45::tN m.natAbs:=by unfold tI;rw[if_pos h]
theorem qoD{m:Int}(h:¬m<0):tI m=tN m.natAbs:=by unfold tI;rw[if_neg h]
theorem qo0(n:Nat):tI (n:Int)=tN n:=by rw[qoD (by omega)];rfl
theorem ql2{s:qOb}(hd:qhQ s)(hn:s≠[]):∃c t,s=c::t/\48<=c.toNat/\c.toNat<=57:=by
 cases s with
 | nil=>exact absurd rfl hn
 | cons c t=>exact⟨c,t,rfl,(q4L.1 hd).1⟩
theorem qJN(m:Int):(tI m).length<=(tN m.natAbs).length+1:=by unfold tI;split<;>simp
theorem qGN(m:Int):0<(tI m).length:=by have:=quy m.natAbs;unfold tI;split<;>simp<;>omega
theorem qCV{m n:Int}(h:tI m=tI n):m=n:=by
 have key:∀{m n:Int},m<0->¬n<0->tI m≠tI n:=by intro m n h1 h2 e;rw[qif h1,qoD h2] at e;obtain⟨c,t,hc,h3,h4⟩:=ql2 (yR n.natAbs) (qrT _);rw[hc] at e;have:=(List.cons.inj e).1;rw[<-this] at h3;exact absurd h3 (by decide)
 by_cases h1:m<0<;>by_cases h2:n<0
 ·rw[qif h1,qif h2] at h;have:=qCf (List.cons.inj h).2;omega
 ·exact absurd h (key h1 h2)
 ·exact absurd h.symm (key h2 h1)
 ·rw[qoD h1,qoD h2] at h;have:=qCf h;omega
theorem qKc(m:Int):(sat (tI m) 0=45)=(m<0):=by
 by_cases h:m<0
 ·rw[qif h];simp[sat,h]
 ·rw[qoD h];obtain⟨c,t,hc,h3,h4⟩:=ql2 (yR m.natAbs) (qrT _);rw[hc];simp[sat,h];omega
theorem qEP{s:qOb}(h:qhQ s)(i:Nat):qhQ (s.take i):=fun c hc=>h c (qPW hc)
theorem qGk{s:qOb}(h:qhQ s)(i:Nat):qhQ (s.drop i):=fun c hc=>h c (qQc hc)
theorem qC2(a b:Nat):qiL (a:Int) (b:Int)=((max a b:Nat):Int):=by unfold qiL;split<;>omega
theorem qKW(m n:Nat):(tN (m+n)).length<=max (tN m).length (tN n).length+1:=by have h1:=qj5 (yR m);have h2:=qj5 (yR n);rw[q88] at h1 h2;have p1:10^(tN m).length<=10^(max (tN m).length (tN n).length):=qQa (by omega) (by omega);have p2:10^(tN n).length<=10^(max (tN m).length (tN n).length):=qQa (by omega) (by omega);exact q9e _ _ (by rw[qPQ];omega)
theorem qB7(m n:Nat):(tN (m*n)).length<=(tN m).length+(tN n).length:=by
 have h1:=qj5 (yR m);have h2:=qj5 (yR n);rw[q88] at h1 h2;have h3:=quy m;have h4:=quy n;have:m*n<10^((tN m).length+(tN n).length):=by rw[Nat.pow_add];exact Nat.mul_lt_mul'' h1 h2
 have:=q9e ((tN m).length+(tN n).length-1) (m*n) (by rwa [show (tN m).length+(tN n).length-1+1=(tN m).length+(tN n).length by omega]);omega
def nl(m:Int):Nat:=(tN m.natAbs).length
theorem qtj(m:Int):0<nl m:=quy _
theorem qHg(m:Int):nl (-m)=nl m:=by unfold nl;rw[Int.natAbs_neg]
theorem qGZ(m n:Int):nl (m+n)<=max (nl m) (nl n)+1:=by unfold nl;exact qOh (qgy (Int.natAbs_add_le m n)) (qKW _ _)
theorem q9D(m n:Int):nl (m*n)<=nl m+nl n:=by unfold nl;rw[qPt];exact qB7 _ _
theorem qNH{m:Int}{k:Nat}(h:nl m<=k):m.natAbs<10^k:=qoQ h
def sgn(n:Int):Int:=if n<0 then -1 else if n=0 then 0 else 1
theorem yO{l:List Int}{j:Nat}(h:j<l.length):l.getD j 0=l[j]:=by simp[h]
theorem qEh(m:Int){n:Int}(hn:n≠0):n*m.tdiv n+qs2 m n=m/\(qs2 m n).natAbs<n.natAbs/\(0<=m->0<=qs2 m n)/\(m<=0->qs2 m n<=0):=by
 unfold qs2;refine⟨Int.mul_tdiv_add_tmod m n,?_,fun h=>Int.tmod_nonneg n h,fun h=>?_⟩
 ·rw[Int.natAbs_tmod];exact Nat.mod_lt _ (by omega)
 ·have:=Int.tmod_nonneg n (show 0<=-m by omega);rw[Int.neg_tmod] at this;omega
theorem qDv{n t:Int}(hn:n≠0)(h:-9223372036854775808<=t/\t<=9223372036854775807):qdo .i64 (n*t) n=t:=by unfold qdo;rw[Int.mul_tdiv_cancel_left _ hn];unfold IntKind.wrap;simp[IntKind.signed,IntKind.bits];omega
theorem qMO:tI 1=[49]:=rfl
def eM(a b:Nat):Nat:=if b=0 then 0 else Nat.log2 (a*b)+1+if a<b then 1 else 0
theorem qFa{m n:Nat}(h:m<=n):Nat.log2 m<=Nat.log2 n:=by
 by_cases hm:m=0
 ·subst hm;simp
 ·rcases qOj (Nat.log2 n) (Nat.log2 m) with h1|h1
  ·have:=(Nat.log2_lt (show n≠0 by omega)).1 h1;have h2:=Nat.log2_self_le hm;omega
  ·exact h1
theorem qLy{a b:Nat}(hb:b≠0):eM b (a%b)<eM a b:=by
 have hlt:=Nat.mod_lt a (show 0<b by omega);unfold eM;rw[if_neg hb];by_cases hr:a%b=0
 ·rw[if_pos hr];omega
 ·rw[if_neg hr,if_neg (show ¬b<a%b by omega)];by_cases hab:a<b
  ·rw[if_pos hab,Nat.mod_eq_of_lt hab,Nat.mul_comm b a];omega
  ·rw[if_neg hab];have hd:=Nat.div_add_mod a b;have hq:1<=a/b:=(Nat.le_div_iff_mul_le (by omega)).2 (by omega);have h1:b*1<=b*(a/b):=Nat.mul_le_mul_left _ hq;have h2:2*(b*(a%b))<=a*b:=by
    have:2*(a%b)<=a:=by omega
    have:=qOE b this;rw[Nat.mul_assoc,Nat.mul_comm (a%b) b] at this;exact this
   have h3:=qFa h2;have h4:Nat.log2 (2*(b*(a%b)))=Nat.log2 (b*(a%b))+1:=by apply Nat.log2_two_mul;exact Nat.mul_ne_zero hb hr
   omega
theorem qGW{x k j:Nat}(h:(tN x).length<=k)(hj:4*k=j):x<2^j:=by
 have h3:x<10^k:=qoQ h;have h4:(10:Nat)^k<=16^k:=Nat.pow_le_pow_left (by omega) _;have h5:(16:Nat)^k=2^j:=by rw[show (16:Nat)=2^4 from rfl,<-Nat.pow_mul,hj]
 rw[h5] at h4;exact qPr h3 h4
theorem qJa{a b:Nat}(ha:(tN a).length<=400000)(hb:(tN b).length<=400000):eM a b<9223372036854775808:=by
 unfold eM;have h1:=qB7 a b;by_cases h0:a*b=0
 ·rw[h0];simp;split<;>(try split)<;>omega
 ·obtain⟨j,hj⟩:∃j,j=3200000:=⟨_,rfl⟩;have h2:a*b<2^j:=qGW (k:=800000) (by omega) (by omega);have:=(Nat.log2_lt h0).2 h2;split<;>(try split)<;>omega
def mag(s:qOb):List UInt8:=if s.getD 0 0=45 then s.drop 1 else s
theorem qz1(m:Int):mag (tI m)=tN m.natAbs:=by
 unfold mag;by_cases h:m<0
 ·rw[qif h];simp
 ·rw[qoD h];obtain⟨c,t,e,h1,h2⟩:=ql2 (yR m.natAbs) (qrT _);rw[e];simp only[List.getD_cons_zero];rw[if_neg];intro hc;subst hc;revert h1;decide
theorem qF5(s:qOb):(∃m:Int,s=tI m)↔mag s≠[]/\qhQ (mag s)/\((mag s).getD 0 0=48->s.length=1):=by
 constructor
 ·rintro ⟨m,rfl⟩;rw[qz1];refine⟨qrT _,yR _,fun h=>?_⟩;rcases qHe m.natAbs with h1|h1
  ·have h2:=qy9 m.natAbs;have hv:m.natAbs=0:=by obtain⟨c,e⟩:∃c,tN m.natAbs=[c]:=List.length_eq_one_iff.1 h1;rw[e] at h;simp at h;have:=q88 m.natAbs;rw[e,h] at this;simpa[val,dv] using this.symm
   have hm0:m=0:=by omega
   rw[hm0];rfl
  ·exact absurd h h1
 ·rintro ⟨h1,h2,h3⟩;by_cases h45:s.getD 0 0=45
  ·have hm:mag s=s.drop 1:=by unfold mag;rw[if_pos h45]
   obtain⟨c,t,rfl⟩:∃c t,s=c::t:=by
    cases s with
    | nil=>simp at h45
    | cons c t=>exact⟨c,t,rfl⟩
   simp at h45;subst h45;rw[hm] at h1 h2 h3;simp only[List.drop_succ_cons,List.drop_zero] at h1 h2 h3;have h4:t.getD 0 0≠48:=fun h=>by have:=h3 h;simp at this;exact h1 this
   have hv:=qCv h2 h1 h4;have hp:0<10^(t.length-1):=Nat.pow_pos (by omega);refine⟨-((val t:Nat):Int),?_⟩;rw[qif (by omega)];simp only[Int.natAbs_neg,Int.natAbs_natCast];rw[<-qAt h2 h1 (.inr h4)]
  ·have hm:mag s=s:=by unfold mag;rw[if_neg h45]
   rw[hm] at h1 h2 h3;refine⟨((val s:Nat):Int),?_⟩;rw[qo0];refine qAt h2 h1 ?_;by_cases h4:s.getD 0 0=48
   ·exact .inl (h3 h4)
   ·exact .inr h4
open Classical in
noncomputable def qCr(s:qOb):Int:=if ∃m:Int,s=tI m then (if (mag s).length<=1024 then 0 else 11) else 3
end Go.Eng

namespace Go.Eng
def tQ(q:Rat):List UInt8:=if q.den=1 then tI q.num else tI q.num++47::tN q.den
def dl(n:Nat):Nat:=(tN n).length
def qn(q:Rat):Nat:=nl q.num
def qd(q:Rat):Nat:=dl q.den
theorem qEO{s:qOb}(h:qhQ s):∀c,c∈s->c≠47:=fun c hc e=>by have:=h c hc;rw[e] at this;revert this;decide
theorem quQ(m:Int):∀c,c∈tI m->c≠47:=by
 intro c hc;unfold tI at hc;split at hc
 ·rcases qOp.1 hc with rfl|hc
  ·decide
  ·exact qEO (yR _) c hc
 ·exact qEO (yR _) c hc
theorem qC9:∀{s s' t t':qOb},(∀c,c∈s->c≠47)->(∀c,c∈s'->c≠47)->s++47::t=s'++47::t'->s=s'/\t=t'
 | [],[],t,t',_,_,h=>⟨rfl,by simpa using h⟩
 | [],c::s',t,t',_,h2,h=>by
  simp only[qPY,qPv,qPx] at h;exact absurd h.1.symm (h2 c qOx)
 | c::s,[],t,t',h1,_,h=>by
  simp only[qPY,qPv,qPx] at h;exact absurd h.1 (h1 c qOx)
 | c::s,c'::s',t,t',h1,h2,h=>by
  simp only[qPv,qPx] at h;obtain⟨e1,e2⟩:=qC9 (fun c hc=>h1 c (qOu _ hc)) (fun c hc=>h2 c (qOu _ hc)) h.2;exact⟨by rw[h.1,e1],e2⟩
theorem qk5{q:Rat}(h:q.den=1):tQ q=tI q.num:=by unfold tQ;rw[if_pos h]
theorem qfy{q:Rat}(h:q.den≠1):tQ q=tI q.num++47::tN q.den:=by unfold tQ;rw[if_neg h]
theorem qM5{a b:Rat}(h:tQ a=tQ b):a=b:=by
 by_cases ha:a.den=1<;>by_cases hb:b.den=1
 ·rw[qk5 ha,qk5 hb] at h;exact Rat.ext (qCV h) (ha.trans hb.symm)
 ·rw[qk5 ha,qfy hb] at h;exact absurd rfl (quQ a.num 47 (by rw[h];simp))
 ·rw[qfy ha,qk5 hb] at h;exact absurd rfl (quQ b.num 47 (by rw[<-h];simp))
 ·rw[qfy ha,qfy hb] at h;obtain⟨e1,e2⟩:=qC9 (quQ _) (quQ _) h;exact Rat.ext (qCV e1) (qCf e2)
theorem qDc(a b:Rat):(tQ a=tQ b)=(a=b):=propext ⟨qM5,fun h=>by rw[h]⟩
theorem qKx(m:Int):tQ (m:Rat)=tI m:=qk5 (by simp)
theorem qsM{m n:Int}(h:m.natAbs<=n.natAbs):nl m<=nl n:=qgy h
theorem qKP{m n:Nat}(h:m<=n):dl m<=dl n:=qgy h
theorem qGS(n:Nat):nl (n:Int)=dl n:=rfl
theorem qFt(m n:Nat):dl (m*n)<=dl m+dl n:=qB7 m n
theorem qHz(m n:Int):nl (m-n)<=max (nl m) (nl n)+1:=by
 rw[Int.sub_eq_add_neg];have:=qGZ m (-n)
 rwa [qHg] at this
theorem qkS(N:Int)(D:Nat):nl (mkRat N D).num<=nl N/\dl (mkRat N D).den<=dl D:=by
 rw[Rat.num_mkRat,Rat.den_mkRat];by_cases h:D=0
 ·rw[if_pos h,if_pos h,h];exact⟨qsM (by simp),by decide⟩
 ·rw[if_neg h,if_neg h];exact⟨qsM (Int.natAbs_ediv_le_natAbs _ _),qKP (Nat.div_le_self _ _)⟩
theorem qJU(a b:Rat):qn (a*b)<=qn a+qn b:=by unfold qn;rw[Rat.mul_def'];exact qOh (qkS _ _).1 (q9D _ _)
theorem qJJ(a b:Rat):qd (a*b)<=qd a+qd b:=by unfold qd;rw[Rat.mul_def'];exact qOh (qkS _ _).2 (qFt _ _)
theorem qMz(a b:Rat):qn (a+b)<=max (qn a+qd b) (qn b+qd a)+1:=by unfold qn qd;rw[Rat.add_def'];have h1:=(qkS (a.num*b.den+b.num*a.den) (a.den*b.den)).1;have h2:=qGZ (a.num*b.den) (b.num*a.den);have h3:=q9D a.num b.den;have h4:=q9D b.num a.den;rw[qGS] at h3 h4;omega
theorem qMi(a b:Rat):qd (a+b)<=qd a+qd b:=by unfold qd;rw[Rat.add_def'];exact qOh (qkS _ _).2 (qFt _ _)
theorem qMh(a b:Rat):qn (a-b)<=max (qn a+qd b) (qn b+qd a)+1:=by unfold qn qd;rw[Rat.sub_def'];have h1:=(qkS (a.num*b.den-b.num*a.den) (a.den*b.den)).1;have h2:=qHz (a.num*b.den) (b.num*a.den);have h3:=q9D a.num b.den;have h4:=q9D b.num a.den;rw[qGS] at h3 h4;omega
theorem qN8(a b:Rat):qd (a-b)<=qd a+qd b:=by unfold qd;rw[Rat.sub_def'];exact qOh (qkS _ _).2 (qFt _ _)
theorem qMc(a:Rat):qn (-a)=qn a:=by unfold qn;rw[Rat.neg_num,qHg]
theorem qwm(a:Rat):0<qn a:=qtj _
theorem qwv(a:Rat):0<qd a:=quy _
theorem qM6{a:Rat}(h:a≠0):qn a⁻¹<=qd a:=by unfold qn qd;rw[Rat.num_inv,<-qGS];apply qsM;rw[qPt,Int.natAbs_sign_of_ne_zero (by rwa [Ne,Rat.num_eq_zero])];simp
theorem qMZ{a:Rat}(h:a≠0):qd a⁻¹<=qn a:=by unfold qn qd;rw[Rat.den_inv,if_neg (by rwa [Rat.num_eq_zero])];exact qOe _
theorem qMr(a:Rat){b:Rat}(h:b≠0):qn (a/b)<=qn a+qd b:=by rw[Rat.div_def];exact qOh (qJU _ _) (Nat.add_le_add_left (qM6 h) _)
theorem qMG(a:Rat){b:Rat}(h:b≠0):qd (a/b)<=qd a+qn b:=by rw[Rat.div_def];exact qOh (qJJ _ _) (Nat.add_le_add_left (qMZ h) _)
def sP(s:qOb):Nat:=s.findIdx (·==47)
def spn(s:qOb):List UInt8:=s.take (sP s)
def spd(s:qOb):List UInt8:=if sP s<s.length then s.drop (sP s+1) else [49]
theorem qMD(s:qOb):sP s<=s.length:=List.findIdx_le_length
theorem qMo{s:qOb}{i:Nat}(h:i<s.length)(h1:s[i]=47)(h2:∀j (hj:j<i),s[j]≠47):sP s=i:=by unfold sP;rw[List.findIdx_eq h];exact⟨by simp[h1],fun j hj=>by simp[h2 j hj]⟩
theorem qBg{s:qOb}(h:∀c,c∈s->c≠47):sP s=s.length:=by unfold sP;rw[List.findIdx_eq_length];intro x hx;simpa using h x hx
theorem qFT{s t:qOb}(h:∀c,c∈s->c≠47):sP (s++47::t)=s.length:=by
 apply qMo (by simp)
 ·simp
 ·intro j hj;rw[List.getElem_append_left hj];exact h _ (qOZ hj)
theorem qJV(q:Rat):spn (tQ q)=tI q.num:=by
 unfold spn;by_cases h:q.den=1
 ·rw[qk5 h,qBg (quQ _),qPB]
 ·rw[qfy h,qFT (quQ _)];simp
theorem qJT(q:Rat):spd (tQ q)=tN q.den:=by
 unfold spd;by_cases h:q.den=1
 ·rw[qk5 h,qBg (quQ _),if_neg (Nat.lt_irrefl _),h];rfl
 ·rw[qfy h,qFT (quQ _),if_pos (by simp)];simp
theorem qMb(q:Rat):(tQ q).length<=qn q+qd q+2:=by
 have h1:=qJN q.num;unfold qn qd nl dl;by_cases h:q.den=1
 ·rw[qk5 h];omega
 ·rw[qfy h];simp;omega
theorem ql0(n:Nat):(tN n=[49])=(n=1):=by have:tN 1=[49]:=rfl;rw[<-this];exact propext ⟨fun h=>qCf h,fun h=>by rw[h]⟩
def sm(K:Nat)(q:Rat):Prop:=qn q<=K/\qd q<=K
theorem qNT(a:Rat):(0:Int)<(a.den:Int):=by have:=a.den_nz;omega
variable {n:Nat}
def mv:List Int->Int
 | []=>0
 | x::l=>x+1000000000*mv l
def pB(n:Nat):Int:=1000000000^n
theorem q76:pB 0=1:=rfl
theorem qd7 (n:Nat):pB (n+1)=pB n*1000000000:=Int.pow_succ _ _
theorem qef:∀n,0<pB n
 | 0=>by decide
 | n+1=>by rw[qd7];have:=qef n;omega
theorem qLT (m n:Nat):pB (m+n)=pB m*pB n:=Int.pow_add _ _ _
theorem qf6 {m n:Nat}(h:m<=n):pB m<=pB n:=by
 obtain⟨k,rfl⟩:∃k,n=m+k:=⟨n-m,by omega⟩;induction k with
 | zero=>simp
 | succ k ih=>
  have h1:=ih (by omega);rw[show m+(k+1)=(m+k)+1 by omega,qd7];have:=qef (m+k);omega
def dgs(l:List Int):Prop:=∀x,x∈l->0<=x/\x<1000000000
theorem qD3:∀(l:List Int) (j:Nat) (h:j<l.length) (y:Int),mv (l.set j y)=mv l+(y-l[j])*pB j
 | [],j,h,_=>by simp at h
 | x::l,0,_,y=>by simp only[qOs,mv,List.getElem_cons_zero,q76];omega
 | x::l,j+1,h,y=>by
  have ih:=qD3 l j (by simpa using h) y;simp only[qOt,mv,List.getElem_cons_succ,qd7];rw[ih];grind
theorem qDj:∀(l:List Int) (n:Nat),dgs l->(∀i,n<=i->l.getD i 0=0)->0<=mv l/\mv l<pB n
 | [],n,_,_=>⟨qOX _,qef n⟩
 | x::l,0,hd,hz=>by
  have ih:=qDj l 0 (fun y hy=>hd y (qOu _ hy)) (fun i _=>by have:=hz (i+1) (by omega);simpa using this);have hx:x=0:=by simpa using hz 0 (by omega)
  rw[q76] at ih ⊢;simp only[mv];omega
 | x::l,n+1,hd,hz=>by
  have ih:=qDj l n (fun y hy=>hd y (qOu _ hy)) (fun i hi=>by have:=hz (i+1) (by omega);simpa using this);have hx:=hd x qOx;rw[qd7];simp only[mv];generalize pB n=p at *;omega
theorem qN5:∀(l:List Int) (j:Nat) (h:j<l.length),dgs l->l[j]≠0->pB j<=mv l
 | [],j,h,_,_=>by simp at h
 | x::l,0,_,hd,hx=>by
  have h1:=hd x qOx;have h2:=(qDj l l.length (fun y hy=>hd y (qOu _ hy)) (fun i hi=>by simp[hi])).1;simp only[List.getElem_cons_zero] at hx;simp only[mv,q76];omega
 | x::l,j+1,h,hd,hx=>by
  have ih:=qN5 l j (by simpa using h) (fun y hy=>hd y (qOu _ hy)) (by simpa using hx);have h1:=hd x qOx;rw[qd7];simp only[mv];omega
theorem qBS:∀(s t:List Int),mv (s++t)=mv s+pB s.length*mv t
 | [],t=>by simp[mv,q76]
 | x::s,t=>by
  simp only[qPv,mv,qON,qd7];rw[qBS s t];grind
theorem qha (n:Nat):mv (List.replicate n 0)=0:=by
 induction n with
 | zero=>rfl
 | succ n ih=>simp[qPI,mv,ih]
theorem qfo {l:List Int}{i:Nat}(h:i<l.length):mv (l.drop i)=l[i]+1000000000*mv (l.drop (i+1)):=by rw[List.drop_eq_getElem_cons h];rfl
theorem va {l:List Int}{n i:Nat}(hd:dgs l)(hz:∀i,n<=i->l.getD i 0=0)(hi:n<=i):mv (l.drop i)=0:=by have:=qDj (l.drop i) 0 (fun x hx=>hd x (qQc hx)) (fun j _=>by have:=hz (i+j) (by omega);simpa[qOd] using this);rw[q76] at this;omega
structure WOK (n:Nat) (l:List Int):Prop where
 len:l.length=232
 le:n<=232
 dig:dgs l
 z:∀i,n<=i->l.getD i 0=0
def nrm(n:Nat)(l:List Int):Prop:=n=0\/l.getD (n-1) 0≠0
theorem WOK.bd {l:List Int}(h:WOK n l):0<=mv l/\mv l<pB n:=qDj l n h.dig h.z
theorem WOK.lo {l:List Int}(h:WOK n l)(hn:nrm n l)(h0:n≠0):pB (n-1)<=mv l:=by
 have h1:=h.le;have h2:=h.len;rcases hn with hn|hn
 ·exact absurd hn h0
 ·refine qN5 l (n-1) (by omega) h.dig ?_
  rwa [yO (by omega)] at hn
theorem qza (N i:Nat):(List.replicate N (0:Int)).getD i 0=0:=by rw[qOd,List.getElem?_replicate];split<;>rfl
theorem qGU (N:Nat):dgs (List.replicate N 0):=fun x hx=>by have:=(List.mem_replicate.1 hx).2;omega
theorem WOK.zero:WOK 0 (List.replicate 232 0):=⟨List.length_replicate,by omega,qGU 232,fun i _=>qza 232 i⟩
theorem WOK.get {l:List Int}(h:WOK n l)(i:Nat):0<=l.getD i 0/\l.getD i 0<1000000000:=by
 rcases qOj i l.length with hi|hi
 ·rw[yO hi];exact h.dig _ (qOZ hi)
 ·simp[hi]
theorem WOK.setW {l:List Int}(h:WOK n l){j:Nat}{y:Int}(hj:j<232)(hy:0<=y/\y<1000000000):WOK (max n (j+1)) (l.set j y):=by
 have h1:=h.le;refine⟨by simp[h.len],by omega,fun x hx=>?_,fun i hi=>?_⟩
 ·rcases qQi hx with hx|rfl
  ·exact h.dig x hx
  ·exact hy
 ·have:=h.z i (by omega);rw[qOd,qOf (by omega),<-qOd];exact this
theorem q63 (l:List Int)(i:Nat):cI (rI l) (i:Int) 0=l.getD i 0:=by rw[qGV,qOw]
theorem qmJ (l:List Int)(i:Nat)(v:Int):qlU (rI l) (i:Int) 0 [.i v]=rI (l.set i v):=by rw[qM2,qOw]
theorem qou {l:List Int}(h:WOK n l)(b:Bool):∃m,(qO [.b b,.i (n:Int),.r (rI l)]).run=some (0,[.b b,.i ((m:Nat):Int),.r (rI l)])/\WOK m l/\nrm m l:=by
 rw[qjW];have h232:=h.le;obtain⟨j,qs,h1,rfl,m,rfl,h3,h4⟩:=qbd (S:=jk) (fun k ps=>ps=[.b b,.i (k:Int),.r (rI l)]/\WOK k l)
  (fun j qs=>j=0/\∃m:Nat,qs=[.b b,.i (m:Int),.r (rI l)]/\WOK m l/\nrm m l) (n:=n) (by omega) (fun k ps hk ⟨hps,hw⟩=>by
  subst hps;rw[qhb];have hk2:=hw.le;by_cases h0:k=0
  ·right;refine⟨0,_,?_,rfl,k,rfl,hw,.inl h0⟩;simp only[STD,h0];rfl
  ·have hs:yC .i64 (k:Int) 1=((k-1:Nat):Int):=by rw[zP (by omega)];omega
   have a1:(0:Int)<(k:Int):=by omega
   have a2:(0:Int)<=((k-1:Nat):Int)/\((k-1:Nat):Int)<232:=by omega
   by_cases hz:l.getD (k-1) 0=0
   ·left;refine⟨k-1,[.b b,.i ((k-1:Nat):Int),.r (rI l)],by omega,?_,rfl,hw.len,by omega,hw.dig,fun i hi=>?_⟩
    ·simp only[STD,a1,hs,a2,q63,hz,and_self]
    ·rcases qPF hi with e|e
     ·rw[<-e];exact hz
     ·exact hw.z i (by omega)
   ·right;refine⟨0,[.b b,.i (k:Int),.r (rI l)],?_,rfl,k,rfl,hw,.inr hz⟩;simp only[STD,a1,hs,a2,q63,hz,and_self]) (ps:=[.b b,.i (n:Int),.r (rI l)]) ⟨rfl,h⟩
 exact⟨m,by simp only[STD,h1],h3,h4⟩
theorem qNf (s:Int):∃q r:Int,s.tdiv 1000000000=q/\s=q*1000000000+r/\(0<=s->0<=r)/\(s<=0->r<=0)/\-1000000000<r/\r<1000000000:=by obtain⟨h1,h2,h3,h4⟩:=qEh s (show (1000000000:Int)≠0 by decide);refine⟨_,qs2 s 1000000000,rfl,by omega,h3,h4,by omega,by omega⟩
theorem qDA {f up rest:Int}{i n j:Nat}{l ly:List Int}{bx b2:Bool}{ny:Nat}{S:Int}(hj:((j:Nat):Int)=qu .i64 (i:Int) up)(hj2:j<232)(hw:WOK n l)(hin:i<233)(hS:S=if i<ny then l.getD j 0+rest+f*ly.getD i 0 else l.getD j 0+rest) (hr:-1000000000<=rest/\rest<=1000000000) (hfy:-999999999999999999<=f*ly.getD i 0/\f*ly.getD i 0<=999999999999999999) (hny:ny<=232)(hgo:i<ny\/rest≠0) :∃q s:Int,S=q*1000000000+s/\0<=s/\s<1000000000 /\(j9 [.i f,.i up,.i rest,.i (i:Int),.b bx,.i (n:Int),.r (rI l),.b b2,.i (ny:Int),.r (rI ly)]).run=some (0,[.i f,.i up,.i q,.i ((i+1:Nat):Int),.b bx,.i ((max n (j+1):Nat):Int),.r (rI (l.set j s)),.b b2,.i (ny:Int),.r (rI ly)]):=by
 have hg:=hw.get j;obtain⟨q,r,e1,e2,e3,e4,e5,e6⟩:=qNf S;have hSb:-1000000000999999999<=S/\S<=1000000001999999998:=by rw[hS];split<;>omega
 have w1:qdo .i64 S 1000000000=q:=by unfold qdo;rw[e1];unfold IntKind.wrap;simp[IntKind.signed,IntKind.bits];omega
 have w2:zw .i64 q 1000000000=q*1000000000:=zV (by omega);have w3:yC .i64 S (q*1000000000)=r:=by rw[zP (by omega)];omega
 have w4:qu .i64 (l.getD j 0) rest=l.getD j 0+rest:=zt (by omega);have w5:qu .i64 (i:Int) 1=((i+1:Nat):Int):=by rw[zt (by omega)];omega
 have w6:qu .i64 (j:Int) 1=((j+1:Nat):Int):=by rw[zt (by omega)];omega
 have w7:qiL (n:Int) ((j+1:Nat):Int)=((max n (j+1):Nat):Int):=qC2 _ _;have a1:(0:Int)<=(j:Int)/\(j:Int)<232:=by omega
 have hw8:r<0->qu .i64 r 1000000000=r+1000000000:=fun _=>zt (by omega);have hw9:r<0->yC .i64 q 1=q-1:=fun _=>zP (by omega);rw[q9z];by_cases hi:i<ny
 ·rw[if_pos hi] at hS;have a2:(i:Int)<(ny:Int):=by omega
  have a3:(0:Int)<=(i:Int)/\(i:Int)<232:=by omega
  have w10:zw .i64 f (ly.getD i 0)=f*ly.getD i 0:=zV (by omega);have w11:qu .i64 (l.getD j 0+rest) (f*ly.getD i 0)=S:=by rw[zt (by omega),hS]
  by_cases hneg:r<0
  ·refine⟨q-1,r+1000000000,by omega,by omega,by omega,?_⟩;simp only[STD,a2,<-hj,a1,a3,q63,w4,w10,w11,w1,w2,w3,hneg,hw8 hneg,hw9 hneg,w5,w6,w7,qmJ,and_self]
  ·refine⟨q,r,by omega,by omega,by omega,?_⟩;simp only[STD,a2,<-hj,a1,a3,q63,w4,w10,w11,w1,w2,w3,hneg,w5,w6,w7,qmJ,and_self]
 ·rw[if_neg hi] at hS;have hr0:rest≠0:=hgo.resolve_left hi;have a2:¬(i:Int)<(ny:Int):=by omega
  rw[<-hS] at w4;by_cases hneg:r<0
  ·refine⟨q-1,r+1000000000,by omega,by omega,by omega,?_⟩;simp only[STD,a2,hr0,<-hj,a1,q63,w4,w1,w2,w3,hneg,hw8 hneg,hw9 hneg,w5,w6,w7,qmJ,and_self]
  ·refine⟨q,r,by omega,by omega,by omega,?_⟩;simp only[STD,a2,hr0,<-hj,a1,q63,w4,w1,w2,w3,hneg,w5,w6,w7,qmJ,and_self]
theorem qt6 {f:Int}{up nx ny:Nat}{lx ly:List Int}(hx:WOK nx lx)(hy:WOK ny ly)(hf:-999999999<=f/\f<=999999999)(hup:ny+up<=232){T:Int}(hT:T=mv lx+f*mv ly*pB up)(h0:0<=T)(h1:T<pB 232)(bx b2:Bool) :∃(n:Nat) (l:List Int),(qT [.i f,.i (up:Int),.b bx,.i (nx:Int),.r (rI lx),.b b2,.i (ny:Int),.r (rI ly)]).run=some (0,[.b bx,.i (n:Int),.r (rI l),.b b2,.i (ny:Int),.r (rI ly)])/\WOK n l/\nrm n l/\mv l=T:=by
 rw[qmo];have hny:=hy.le;obtain⟨j,qs,g1,rfl,n,l,rfl,g3,g4⟩:=qbd (S:=j9) (fun k ps=>∃(i n:Nat) (rest:Int) (l:List Int),ps=[.i f,.i (up:Int),.i rest,.i (i:Int),.b bx,.i (n:Int),.r (rI l),.b b2,.i (ny:Int),.r (rI ly)] /\
   i+k=300/\i<=232/\WOK n l/\-1000000000<=rest/\rest<=1000000000/\mv l+rest*pB (i+up)+f*mv (ly.drop i)*pB (i+up)=T)
  (fun j qs=>j=0/\∃(n:Nat) (l:List Int),qs=[.b bx,.i (n:Int),.r (rI l),.b b2,.i (ny:Int),.r (rI ly)]/\WOK n l/\mv l=T) (n:=300) (by omega) (fun k ps hk ⟨i,n,rest,l,hps,hik,hi,hw,hr1,hr2,hv⟩=>by
  subst hps;have hg:=hy.get i;have hfy:=qAa (A:=999999999) (B:=999999999) hf.1 hf.2 (show -(999999999:Int)<=ly.getD i 0 by omega) (show ly.getD i 0<=999999999 by omega);have hbd:=hw.bd;have hn232:=hw.le;by_cases hgo:i<ny\/rest≠0
  ·left;have hj:i+up<232:=by
    rcases qOj i ny with h|h
    ·omega
    ·rcases qOj (i+up) 232 with h2|h2
     ·exact h2
     ·exfalso;have hr0:=hgo.resolve_left (by omega);rw[va hy.dig hy.z h] at hv;have hP:=qf6 h2;have hlt:=qf6 hn232;simp only[qQ2,Int.zero_mul,Int.add_zero] at hv;generalize pB (i+up)=P at *;rcases Int.lt_or_lt_of_ne hr0 with h3|h3
      ·have:rest*P<=-1*P:=qPS (by omega) (by have:=qef 232;omega);omega
      ·have:1*P<=rest*P:=qPS (by omega) (by have:=qef 232;omega);omega
   have hjw:(((i+up:Nat)):Int)=qu .i64 (i:Int) (up:Int):=by rw[zt (by omega)];omega
   obtain⟨q,s,s1,s2,s3,s4⟩:=qDA (bx:=bx) (b2:=b2) (f:=f) (ly:=ly) hjw hj hw (by omega) rfl ⟨hr1,hr2⟩ (by omega) hny hgo;refine⟨k-1,_,by omega,s4,i+1,_,q,_,rfl,by omega,by omega,hw.setW hj ⟨s2,s3⟩,?_,?_,?_⟩
   ·have hgl:=hw.get (i+up);split at s1<;>omega
   ·have hgl:=hw.get (i+up);split at s1<;>omega
   ·have hjl:i+up<l.length:=by rw[hw.len];exact hj
    rw[qD3 l (i+up) hjl,<-hv,show i+1+up=(i+up)+1 by omega,qd7];rw[yO hjl] at s1;have hil:i<ly.length:=by rw[hy.len];omega
    rw[qfo hil];rw[yO hil] at s1;generalize pB (i+up)=P at *;generalize l[i+up]=d at *;by_cases hiny:i<ny
    ·rw[if_pos hiny] at s1;generalize ly[i]=y at *;generalize mv (ly.drop (i+1))=m at *;grind
    ·rw[if_neg hiny] at s1;have z1:ly[i]=0:=by rw[<-yO hil];exact hy.z i (by omega)
     rw[z1,va hy.dig hy.z (show ny<=i+1 by omega)];grind
  ·right;have c1:¬i<ny:=fun h=>hgo (.inl h);have c2:rest=0:=Decidable.byContradiction fun h=>hgo (.inr h);refine⟨0,[.b bx,.i (n:Int),.r (rI l),.b b2,.i (ny:Int),.r (rI ly)],?_,rfl,n,l,rfl,hw,?_⟩
   ·rw[q9z];have a2:¬(i:Int)<(ny:Int):=by omega
    simp only[STD,a2,c2]
   ·rw[va hy.dig hy.z (by omega),c2] at hv;simp only[qQ2,Int.zero_mul,Int.add_zero] at hv;exact hv) (ps:=[.i f,.i (up:Int),.i 0,.i 0,.b bx,.i (nx:Int),.r (rI lx),.b b2,.i (ny:Int),.r (rI ly)])
  ⟨0,nx,0,lx,rfl,by omega,by omega,hx,by omega,by omega,by simp[hT]⟩
 obtain⟨m,t1,t2,t3⟩:=qou g3 bx;exact⟨m,l,by simp only[STD,g1,t1],t2,t3,g4⟩
end Go.Eng

namespace Go.Eng
theorem qe0(l:List Int)(j:Nat)(h:j<=l.length):mv l=mv (l.take j)+pB j*mv (l.drop j):=by have:=qBS (l.take j) (l.drop j);rw[qQd,qPi,qPk h] at this;exact this
theorem qI8{l:List Int}(h:dgs l)(j:Nat):dgs (l.take j):=fun x hx=>h x (qPW hx)
theorem qbL{l:List Int}(h:dgs l)(j:Nat):0<=mv (l.take j)/\mv (l.take j)<pB j:=
 qDj (l.take j) j (qI8 h j) fun i hi=>by rw[qOd,qOA (by simp;omega)];rfl
theorem qrb{l:List Int}{i:Nat}(h:i<l.length):mv (l.take (i+1))=mv (l.take i)+l[i]*pB i:=by rw[List.take_succ_eq_append_getElem h,qBS,qPi,qPk (by omega)];simp only[mv];grind
theorem WOK.mono{n m:Nat}{l:List Int}(h:WOK n l)(hm:n<=m)(h2:m<=232):WOK m l:=⟨h.len,h2,h.dig,fun i hi=>h.z i (by omega)⟩
theorem qos{n:Nat}{l:List Int}(h:WOK n l)(hn:nrm n l):(n=0)=(mv l=0):=by
 apply propext;constructor
 ·intro h0;have:=h.bd;rw[h0,q76] at this;omega
 ·intro h0;rcases qPo n with h1|h1
  ·exact h1
  ·have:=h.lo hn (by omega);have:=qef (n-1);omega
theorem qNI{n m:Nat}{l k:List Int}(h:WOK n l)(hn:nrm n l)(h2:WOK m k)(hle:mv l<=mv k):n<=m:=by
 rcases qOj m n with h3|h3
 ·exfalso;have h4:=h.lo hn (by omega);have h5:=h2.bd.2;have h6:=qf6 (show m<=n-1 by omega);omega
 ·exact h3
theorem qCn{nx ny:Nat}{lx ly:List Int}(hx:WOK nx lx)(hnx:nrm nx lx)(hy:WOK ny ly)(hny:nrm ny ly)(bx b2:Bool) :∃r:Int,(wZ [.b bx,.i (nx:Int),.r (rI lx),.b b2,.i (ny:Int),.r (rI ly)]).run=some (0,[.i r,.b bx,.i (nx:Int),.r (rI lx),.b b2,.i (ny:Int),.r (rI ly)])/\((0<=r)=(mv ly<=mv lx)):=by
 rw[qlf];have h1:=hx.le;have h2:=hy.le;by_cases hne:nx=ny
 ·subst hne;have hs:yC .i64 (nx:Int) 1=(nx:Int)-1:=zP (by omega);obtain⟨j,qs,g1,g2⟩:=qbd (S:=jP) (fun k ps=>ps=[.i ((k:Int)-1),.b bx,.i (nx:Int),.r (rI lx),.b b2,.i (nx:Int),.r (rI ly)]/\k<=nx/\mv (lx.drop k)=mv (ly.drop k))
   (fun j qs=>(j=0/\qs=[.b bx,.i (nx:Int),.r (rI lx),.b b2,.i (nx:Int),.r (rI ly)]/\mv lx=mv ly)\/(j=1/\∃r:Int,qs=[.i r,.b bx,.i (nx:Int),.r (rI lx),.b b2,.i (nx:Int),.r (rI ly)]/\((0<=r)=(mv ly<=mv lx)))) (n:=nx) (by omega) (fun k ps hk ⟨hps,hkn,hd⟩=>by
   subst hps;rw[qiH];by_cases h0:k=0
   ·right;refine⟨0,_,?_,.inl ⟨rfl,rfl,?_⟩⟩
    ·have a:¬(0:Int)<=(k:Int)-1:=by omega
     simp only[STD,a]
    ·rw[h0] at hd;simpa using hd
   ·obtain⟨i,rfl⟩:∃i,k=i+1:=⟨k-1,by omega⟩;have e:(((i+1:Nat):Int)-1)=(i:Int):=by omega
    rw[e];have a1:(0:Int)<=(i:Int):=by omega
    have a2:(i:Int)<232:=by omega
    have gx:=hx.get i;have gy:=hy.get i;have hxl:i<lx.length:=by rw[hx.len];omega
    have hyl:i<ly.length:=by rw[hy.len];omega
    by_cases hc:lx.getD i 0=ly.getD i 0
    ·left;refine⟨i,[.i ((i:Int)-1),.b bx,.i (nx:Int),.r (rI lx),.b b2,.i (nx:Int),.r (rI ly)],by omega,?_,rfl,by omega,?_⟩
     ·have w:yC .i64 (i:Int) 1=(i:Int)-1:=zP (by omega);simp only[STD,a1,a2,and_self,q63,hc,w]
     ·rw[qfo hxl,qfo hyl,hd];rw[yO hxl,yO hyl] at hc;rw[hc]
    ·right;have w:yC .i64 (lx.getD i 0) (ly.getD i 0)=lx.getD i 0-ly.getD i 0:=zP (by omega);refine⟨1,[.i (lx.getD i 0-ly.getD i 0),.b bx,.i (nx:Int),.r (rI lx),.b b2,.i (nx:Int),.r (rI ly)],?_,.inr ⟨rfl,_,rfl,?_⟩⟩
     ·simp only[STD,a1,a2,and_self,q63,hc,w]
     ·have sx:=qe0 lx i (by omega);have sy:=qe0 ly i (by omega);rw[qfo hxl] at sx;rw[qfo hyl] at sy;have tx:=qbL hx.dig i;have ty:=qbL hy.dig i;rw[yO hxl,yO hyl] at hc ⊢;rw[hd] at sx;have hp:=qef i;generalize pB i=P at *;generalize lx[i]=u at *;generalize ly[i]=v at *;generalize mv (ly.drop (i+1))=w at *;have e1:P*(u+1000000000*w)=P*u+P*(1000000000*w):=Int.mul_add _ _ _;have e2:P*(v+1000000000*w)=P*v+P*(1000000000*w):=Int.mul_add _ _ _;have e3:P*(u-v)=P*u-P*v:=Int.mul_sub _ _ _;apply propext;rcases Int.lt_or_lt_of_ne (show u-v≠0 by omega) with h|h
      ·have:P*(u-v)<=P*(-1):=qQj (by omega) (by omega);constructor
       ·intro;omega
       ·intro;omega
      ·have:P*1<=P*(u-v):=qQj (by omega) (by omega);constructor
       ·intro;omega
       ·intro;omega) (ps:=[.i ((nx:Int)-1),.b bx,.i (nx:Int),.r (rI lx),.b b2,.i (nx:Int),.r (rI ly)])
   ⟨rfl,qOe _,by rw[va hx.dig hx.z (qOe _),va hy.dig hy.z (qOe _)]⟩
  rcases g2 with⟨rfl,rfl,g2⟩|⟨rfl,r,rfl,g2⟩
  ·refine⟨0,?_,?_⟩
   ·simp only[STD,hs,g1,zf g1]
   ·apply propext;simp;omega
  ·refine⟨r,?_,g2⟩;simp only[STD,hs,g1,zf g1,show ¬(1=0) by omega]
 ·have hs:yC .i64 (nx:Int) (ny:Int)=(nx:Int)-(ny:Int):=zP (by omega);refine⟨(nx:Int)-(ny:Int),?_,?_⟩
  ·have a:¬(nx:Int)=(ny:Int):=by omega
   simp only[STD,a,hs]
  ·apply propext;have b1:=hx.bd;have b2:=hy.bd;rcases Nat.lt_or_gt_of_ne hne with h|h
   ·have:=hy.lo hny (by omega);have:=qf6 (show nx<=ny-1 by omega);constructor
    ·intro;omega
    ·intro;omega
   ·have:=hx.lo hnx (by omega);have:=qf6 (show ny<=nx-1 by omega);constructor
    ·intro;omega
    ·intro;omega
def sv(b:Bool)(l:List Int):Int:=if b then -mv l else mv l
theorem qK5{nx ny:Nat}{lx ly:List Int}(hx:WOK nx lx)(hnx:nrm nx lx)(hy:WOK ny ly)(hny:nrm ny ly)(hb:mv lx+mv ly<pB 232)(bx b2:Bool) :∃(b:Bool) (n:Nat) (l:List Int),(vu [.b bx,.i (nx:Int),.r (rI lx),.b b2,.i (ny:Int),.r (rI ly)]).run=some (0,[.b b,.i (n:Int),.r (rI l),.b b2,.i (ny:Int),.r (rI ly)])/\WOK n l/\nrm n l/\sv b l=sv bx lx+sv b2 ly:=by
 rw[qoo];have h1:=hx.bd;have h2:=hy.bd;have l1:=hx.le;have l2:=hy.le;by_cases hs:bx=b2
 ·subst hs;obtain⟨n,l,g1,g2,g3,g4⟩:=qt6 (f:=1) (up:=0) hx hy (by omega) (by omega) (T:=mv lx+mv ly) (by rw[q76];omega) (by omega) hb bx bx;refine⟨bx,n,l,?_,g2,g3,?_⟩
  ·simp only[STD,show ((0:Nat):Int)=0 from rfl] at g1 ⊢;simp only[STD,g1]
  ·unfold sv;rw[g4];cases bx<;>simp<;>omega
 ·obtain⟨r,r1,r2⟩:=qCn hx hnx hy hny bx b2;by_cases hr:mv ly<=mv lx
  ·have hr':0<=r:=by rw[r2];exact hr
   obtain⟨n,l,g1,g2,g3,g4⟩:=qt6 (f:=-1) (up:=0) hx hy (by omega) (by omega) (T:=mv lx-mv ly) (by rw[q76];omega) (by omega) (by omega) bx b2;refine⟨bx,n,l,?_,g2,g3,?_⟩
   ·simp only[show ((0:Nat):Int)=0 from rfl] at g1;simp only[STD,hs,r1,hr',g1]
   ·unfold sv;rw[g4];cases bx<;>cases b2<;>simp_all<;>omega
  ·have hr':¬0<=r:=by rw[r2];exact hr
   obtain⟨n,l,g1,g2,g3,g4⟩:=qt6 (f:=-1) (up:=0) hy hx (by omega) (by omega) (T:=mv ly-mv lx) (by rw[q76];omega) (by omega) (by omega) b2 bx;refine⟨b2,n,l,?_,g2,g3,?_⟩
   ·simp only[show ((0:Nat):Int)=0 from rfl] at g1;simp only[STD,hs,r1,hr',g1]
   ·unfold sv;rw[g4];cases bx<;>cases b2<;>simp_all<;>omega
theorem qGe{x y:Int}{m n:Nat}(h0:0<=x)(h1:x<pB m)(h2:0<=y)(h3:y<=pB n):x*y<pB (m+n)\/y=0:=by
 rcases Int.lt_or_eq_of_le h2 with h|h
 ·left;rw[qLT];have e1:x*y<pB m*y:=Int.mul_lt_mul_of_pos_right h1 h;have e2:pB m*y<=pB m*pB n:=qQj h3 (by omega);omega
 ·exact .inr h.symm
theorem qKy{nx ny:Nat}{lx ly:List Int}(hx:WOK nx lx)(hy:WOK ny ly)(hb:nx+ny<=232)(bx b2:Bool) :∃(n:Nat) (l:List Int),(kB [.b bx,.i (nx:Int),.r (rI lx),.b b2,.i (ny:Int),.r (rI ly)]).run=some (0,[.b bx,.i (nx:Int),.r (rI lx),.b b2,.i (ny:Int),.r (rI ly),.b (!(Go.Eng.beq bx b2)),.i (n:Int),.r (rI l)])/\WOK n l/\nrm n l/\mv l=mv lx*mv ly:=by
 rw[qn0];have hbx:=hx.bd;have e0:q8i 232 [.i 0]=rI (List.replicate 232 0):=qxS 232 0;obtain⟨j,qs,g1,rfl,n,l,rfl,g2,g3,g4⟩:=qbd (S:=yE) (fun k ps=>∃(i n:Nat) (l:List Int),ps=[.i (ny:Int),.i (i:Int),.b bx,.i (nx:Int),.r (rI lx),.b b2,.i (ny:Int),.r (rI ly),.b (!(Go.Eng.beq bx b2)),.i (n:Int),.r (rI l)] /\
   i+k=ny/\WOK n l/\nrm n l/\mv l=mv lx*mv (ly.take i))
  (fun j qs=>j=0/\∃(n:Nat) (l:List Int),qs=[.b bx,.i (nx:Int),.r (rI lx),.b b2,.i (ny:Int),.r (rI ly),.b (!(Go.Eng.beq bx b2)),.i (n:Int),.r (rI l)]/\WOK n l/\nrm n l/\mv l=mv lx*mv ly) (n:=ny) (by omega) (fun k ps hk ⟨i,n,l,hps,hik,hw,hn,hv⟩=>by
  subst hps;rw[qjn];by_cases hi:i<ny
  ·left;have hil:i<ly.length:=by rw[hy.len];omega
   have gy:=hy.get i;have tb:=qbL hy.dig i;have tb2:=qbL hy.dig (i+1);have hT:mv lx*mv (ly.take (i+1))=mv l+ly.getD i 0*mv lx*pB i:=by rw[qrb hil,hv,yO hil];grind
   have hlt:mv lx*mv (ly.take (i+1))<pB 232:=by
    rcases qGe (n:=i+1) hbx.1 hbx.2 tb2.1 (by omega) with h|h
    ·exact Int.lt_of_lt_of_le h (qf6 (by omega))
    ·rw[h,qQ2];exact qef _
   obtain⟨n',l',c1,c2,c3,c4⟩:=qt6 (f:=ly.getD i 0) (up:=i) hw hx (by omega) (by omega) hT (qOY hbx.1 tb2.1) hlt (!(Go.Eng.beq bx b2)) bx;have w:qu .i64 (i:Int) 1=((i+1:Nat):Int):=by rw[zt (by omega)];omega
   refine⟨k-1,_,by omega,?_,i+1,n',l',rfl,by omega,c2,c3,c4⟩;have a1:(i:Int)<(ny:Int):=by omega
   have a2:(0:Int)<=(i:Int)/\(i:Int)<232:=by omega
   simp only[STD,a1,a2,and_self,q63,c1,w]
  ·right;have hi2:i=ny:=by omega
   have a1:¬(i:Int)<(ny:Int):=by omega
   refine⟨0,[.b bx,.i (nx:Int),.r (rI lx),.b b2,.i (ny:Int),.r (rI ly),.b (!(Go.Eng.beq bx b2)),.i (n:Int),.r (rI l)],?_,rfl,n,l,rfl,hw,hn,?_⟩
   ·simp only[STD,a1]
   ·have:=qe0 ly ny (by rw[hy.len];exact hy.le);rw[va hy.dig hy.z (qOe _),qQ2,Int.add_zero] at this;rw[hv,hi2,<-this])
  (ps:=[.i (ny:Int),.i 0,.b bx,.i (nx:Int),.r (rI lx),.b b2,.i (ny:Int),.r (rI ly),.b (!(Go.Eng.beq bx b2)),.i 0,.r (rI (List.replicate 232 0))])
  ⟨0,0,_,rfl,by omega,WOK.zero,.inl rfl,by rw[qha];simp[mv]⟩
 refine⟨n,l,?_,g2,g3,g4⟩;simp only[e0];simp only[STD,g1]
theorem qEd{nx ny:Nat}{lx ly:List Int}(hx:WOK nx lx)(hnx:nrm nx lx)(hy:WOK ny ly)(hny:nrm ny ly)(h0:ny≠0)(hle:mv ly<=mv lx)(hlt:mv lx<pB (ny+1))(hn231:ny<=231)(bx b2:Bool) :∃k:Int,(q25 [.b bx,.i (nx:Int),.r (rI lx),.b b2,.i (ny:Int),.r (rI ly)]).run=some (0,[.i k,.b bx,.i (nx:Int),.r (rI lx),.b b2,.i (ny:Int),.r (rI ly)])/\1<=k/\k<=999999999/\k*mv ly<=mv lx:=by
 rw[qqG];obtain⟨m,rfl⟩:∃m,ny=m+1:=⟨ny-1,by omega⟩;have hxl:=hx.len;have hyl:=hy.len;have hnx1:m+1<=nx:=qNI hy hny hx hle;have hnx2:nx<=m+2:=by
  rcases qOj (m+2) nx with h|h
  ·exfalso;have h1:=hx.lo hnx (by omega);have h2:=qf6 (show m+1+1<=nx-1 by omega);omega
  ·exact h
 have gx1:=hx.get m;have gx2:=hx.get (m+1);have gy:=hy.get m;have sx:=qe0 lx m (by omega);have sy:=qe0 ly m (by omega);rw[qfo (show m<lx.length by omega),qfo (show m+1<lx.length by omega),va hx.dig hx.z (show nx<=m+1+1 by omega)] at sx;rw[qfo (show m<ly.length by omega),va hy.dig hy.z (qOe _)] at sy;have tx:=qbL hx.dig m;have ty:=qbL hy.dig m;have hyn:ly.getD m 0≠0:=by
  rcases hny with h|h
  ·omega
  ·simpa using h
 have w1:yC .i64 ((m+1:Nat):Int) 1=(m:Int):=by rw[zP (by omega)];omega
 have c1:¬((m+1:Nat):Int)<0:=by omega
 have c2:¬(nx:Int)<=(m:Int):=by omega
 have c3:¬(m:Int)<0:=by omega
 have c4:¬((m+1:Nat):Int)<=(m:Int):=by omega
 have c5:(0:Int)<=(m:Int)/\(m:Int)<232:=by omega
 have c6:(0:Int)<=((m+1:Nat):Int)/\((m+1:Nat):Int)<232:=by omega
 have gex:lx[m]'(by omega)=lx.getD m 0:=(yO (by omega)).symm;have gex1:lx[m+1]'(by omega)=lx.getD (m+1) 0:=(yO (by omega)).symm;have gey:ly[m]'(by omega)=ly.getD m 0:=(yO (by omega)).symm;rw[gex,gex1] at sx;rw[gey] at sy;have hp:=qef m;have key:∀a b:Int,a=lx.getD m 0+1000000000*lx.getD (m+1) 0->0<b->mv ly<=b*pB m->∀k,k=a/b->k*mv ly<=mv lx/\qaS k 999999999*mv ly<=mv lx:=by
  intro a b ha hb hbY k hk;have hk0:0<=k:=by rw[hk];exact Int.ediv_nonneg (by omega) (by omega)
  have hkb:k*b<=a:=by rw[hk];exact Int.ediv_mul_le a (by omega)
  have hY:=(hy.bd).1;have f1:k*mv ly<=k*(b*pB m):=qQj hbY hk0;have f2:k*b*pB m<=a*pB m:=qPS hkb (by omega);have f3:k*(b*pB m)=k*b*pB m:=(Int.mul_assoc _ _ _).symm;have f4:a*pB m=pB m*(lx.getD m 0+1000000000*(lx.getD (m+1) 0+1000000000*0)):=by rw[ha];grind
  have f5:k*mv ly<=mv lx:=by omega
  refine⟨f5,?_⟩;have:qaS k 999999999<=k:=by unfold qaS;split<;>omega
  have:=qPS this hY;omega
 have wq:∀a b:Int,0<=a->a<1000000000000000000->0<b->qdo .i64 a b=a/b:=by intro a b h1 h2 h3;unfold qdo;rw[Int.tdiv_eq_ediv_of_nonneg h1];have q1:0<=a/b:=Int.ediv_nonneg h1 (by omega);have q2:a/b<=a:=Int.ediv_le_self _ h1;generalize a/b=q at *;unfold IntKind.wrap;simp[IntKind.signed,IntKind.bits];omega
 have fin:∀k:Int,(0<k->k*mv ly<=mv lx/\qaS k 999999999*mv ly<=mv lx)->∃k':Int,(if 0<k then qaS k 999999999 else 1)=k'/\1<=k'/\k'<=999999999/\k'*mv ly<=mv lx:=by
  intro k hk;by_cases h:0<k
  ·rw[if_pos h];refine⟨_,rfl,?_,?_,(hk h).2⟩
   ·unfold qaS;split<;>omega
   ·unfold qaS;split<;>omega
  ·rw[if_neg h];exact⟨1,rfl,by omega,by omega,by omega⟩
 by_cases hcase:nx<=m+1
 ·have c7:(nx:Int)<=((m+1:Nat):Int):=by omega
  have z1:lx.getD (m+1) 0=0:=hx.z _ (by omega);have wa:qu .i64 0 (lx.getD m 0)=lx.getD m 0:=by rw[zt (by omega)];omega
  by_cases hm:m=0
  ·subst hm;have c8:¬(1:Int)<((0+1:Nat):Int):=by omega
   have hq:=wq (lx.getD 0 0) (ly.getD 0 0) (by omega) (by omega) (by omega);have hbY:mv ly<=ly.getD 0 0*pB 0:=by rw[q76] at sy ty ⊢;omega
   obtain⟨k',f1,f2,f3,f4⟩:=fin (lx.getD 0 0/ly.getD 0 0) (fun _=>key _ _ (by rw[z1];omega) (by omega) hbY _ rfl);refine⟨k',?_,f2,f3,f4⟩;rw[<-f1];simp only[STD,c1,w1,c2,c3,c4,c5,c6,c7,c8,and_self,q63,wa,hyn,hq];split<;>rfl
  ·have c8:(1:Int)<((m+1:Nat):Int):=by omega
   have wb:qu .i64 (ly.getD m 0) 1=ly.getD m 0+1:=zt (by omega);have hq:=wq (lx.getD m 0) (ly.getD m 0+1) (by omega) (by omega) (by omega);have hbY:mv ly<=(ly.getD m 0+1)*pB m:=by
    have:(ly.getD m 0+1)*pB m=pB m*(ly.getD m 0+1000000000*0)+pB m:=by grind
    omega
   obtain⟨k',f1,f2,f3,f4⟩:=fin (lx.getD m 0/(ly.getD m 0+1)) (fun _=>key _ _ (by rw[z1];omega) (by omega) hbY _ rfl);refine⟨k',?_,f2,f3,f4⟩;rw[<-f1];have hne:¬ly.getD m 0+1=0:=by omega
   simp only[STD,c1,w1,c2,c3,c4,c5,c6,c7,c8,and_self,q63,wa,wb,hne,hq];split<;>rfl
 ·have c7:¬(nx:Int)<=((m+1:Nat):Int):=by omega
  have wm:zw .i64 (lx.getD (m+1) 0) 1000000000=lx.getD (m+1) 0*1000000000:=zV (by omega);have wa:qu .i64 (lx.getD (m+1) 0*1000000000) (lx.getD m 0)=lx.getD (m+1) 0*1000000000+lx.getD m 0:=zt (by omega);by_cases hm:m=0
  ·subst hm;have c8:¬(1:Int)<((0+1:Nat):Int):=by omega
   have hq:=wq (lx.getD (0+1) 0*1000000000+lx.getD 0 0) (ly.getD 0 0) (by omega) (by omega) (by omega);have hbY:mv ly<=ly.getD 0 0*pB 0:=by rw[q76] at sy ty ⊢;omega
   obtain⟨k',f1,f2,f3,f4⟩:=fin ((lx.getD (0+1) 0*1000000000+lx.getD 0 0)/ly.getD 0 0) (fun _=>key _ _ (by omega) (by omega) hbY _ rfl);refine⟨k',?_,f2,f3,f4⟩;rw[<-f1];simp only[STD,c1,w1,c2,c3,c4,c5,c6,c7,c8,and_self,q63,wm,wa,hyn,hq];split<;>rfl
  ·have c8:(1:Int)<((m+1:Nat):Int):=by omega
   have wb:qu .i64 (ly.getD m 0) 1=ly.getD m 0+1:=zt (by omega);have hq:=wq (lx.getD (m+1) 0*1000000000+lx.getD m 0) (ly.getD m 0+1) (by omega) (by omega) (by omega);have hbY:mv ly<=(ly.getD m 0+1)*pB m:=by
    have:(ly.getD m 0+1)*pB m=pB m*(ly.getD m 0+1000000000*0)+pB m:=by grind
    omega
   obtain⟨k',f1,f2,f3,f4⟩:=fin ((lx.getD (m+1) 0*1000000000+lx.getD m 0)/(ly.getD m 0+1)) (fun _=>key _ _ (by omega) (by omega) hbY _ rfl);refine⟨k',?_,f2,f3,f4⟩;rw[<-f1];have hne:¬ly.getD m 0+1=0:=by omega
   simp only[STD,c1,w1,c2,c3,c4,c5,c6,c7,c8,and_self,q63,wm,wa,wb,hne,hq];split<;>rfl
theorem qJC(u:Nat):Lib.decDigits u=tN u:=by
 induction u using Nat.strongRecOn with
 | _ u ih=>
  rw[Lib.decDigits];split
  ·rename_i h;rw[qAl h];rfl
  ·rename_i h;rw[ih (u/10) (by omega)];exact(qDN (n:=u) (by omega)).symm
theorem qAQ(n:Int):Lib.itoa n=tI n:=by
 unfold Lib.itoa;by_cases h:n<0
 ·rw[if_pos h,qJC,qif h]
 ·rw[if_neg h,qJC,qoD h];congr 1;omega
theorem qN7(n:Int)(h:-9223372036854775808<=n/\n<=9223372036854775807):(q4Q [.i n]).run=some (0,[.s (tI n)]):=by show (qFL [.i n]).run=_;unfold qFL;simp only;rw[if_pos h,qAQ];rfl
theorem qyO{c:UInt8}(h:48<=c.toNat/\c.toNat<=57):Lib.digitVal c=some (dv c):=by
 unfold Lib.digitVal dv
 simp_all
theorem qtc:∀{s:qOb} (a:Nat),qhQ s->Lib.decFrom a s=some (a*10^s.length+val s)
 | [],a,_=>by simp[Lib.decFrom,val]
 | c::s,a,h=>by
  obtain⟨h1,h2⟩:=q4L.1 h;rw[Lib.decFrom,qyO h1];simp only;rw[qtc _ h2,qe8,qON,qPQ];congr 1;grind
theorem qvT{s:qOb}(h:qhQ s)(hn:s≠[]):Lib.decNat s=some (val s):=by unfold Lib.decNat;rw[if_neg (by simpa using hn),qtc 0 h];simp
theorem qyJ{s:qOb}(h:qhQ s)(hn:s≠[]):Lib.atoi s=some (val s:Int):=by
 obtain⟨c,t,e,h1,h2⟩:=ql2 h hn;rw[e] at h ⊢;have n1:(c==45)=false:=by rw[beq_eq_false_iff_ne];intro hc;subst hc;revert h1;decide
 have n2:(c==43)=false:=by rw[beq_eq_false_iff_ne];intro hc;subst hc;revert h1;decide
 unfold Lib.atoi;simp only[n1,n2,qPh,if_false];rw[qvT h (by simp)];rfl
theorem qFl(m:Int):Lib.atoi (tI m)=some m:=by
 by_cases h:m<0
 ·rw[qif h];unfold Lib.atoi;simp only[beq_self_eq_true,if_true];rw[qvT (yR _) (qrT _),q88];simp;omega
 ·rw[qoD h,qyJ (yR _) (qrT _),q88];congr 1;omega
theorem qHr{s:qOb}{n:Int}(hl:s.length<=18)(h:Lib.atoi s=some n):(jJ [.s s]).run=some (0,[.i n]):=by show (qGH [.s s]).run=_;unfold qGH;simp only;rw[if_pos hl,h];rfl
theorem qCR:∀s:List UInt8,Lib.indexByte s 47=if sP s<s.length then (sP s:Int) else -1
 | []=>by simp[Lib.indexByte,sP]
 | c::s=>by
  have ih:=qCR s;have hle:=qMD s;unfold Lib.indexByte;by_cases h:c=47
  ·subst h;have:sP (47::s)=0:=qMo (by simp) (by simp) (fun j hj=>by omega);rw[this];simp
  ·have hc:(c==47)=false:=by simpa using h
   have e:sP (c::s)=sP s+1:=by unfold sP;rw[List.findIdx_cons,hc];rfl
   rw[e];generalize sP s=k at *;have el:(c::s).length=s.length+1:=rfl;simp only[hc,el,ih,qPh,if_false];grind
theorem qLA(s:qOb):(vA [.s s,.s [47]]).run=some (0,[.i (if sP s<s.length then (sP s:Int) else -1)]):=by show (qzO [.s s,.s [47]]).run=_;unfold qzO;simp only;rw[<-qCR];rfl
theorem qCe:∀{s t:qOb},qhQ s->qhQ t->s.length=t.length->Lib.compareBytes s t=sgn ((val s:Int)-(val t:Int))
 | [],[],_,_,_=>by simp[Lib.compareBytes,val,sgn]
 | [],_::_,_,_,h=>by simp at h
 | _::_,[],_,_,h=>by simp at h
 | a::s,b::t,hs,ht,h=>by
  obtain⟨h1,h2⟩:=q4L.1 hs;obtain⟨h3,h4⟩:=q4L.1 ht;have hl:s.length=t.length:=by simpa using h
  have ih:=qCe h2 h4 hl;have v1:=qj5 h2;have v2:=qj5 h4;unfold Lib.compareBytes;rw[qe8,qe8,hl];rw[hl] at v1;have hp:0<10^t.length:=Nat.pow_pos (by omega);generalize 10^t.length=P at *;unfold dv;by_cases c1:a.toNat<b.toNat
  ·rw[if_pos (show a<b from c1)];have:(a.toNat-48+1)*P<=(b.toNat-48)*P:=qOE _ (by omega);rw[qOy,qPX] at this;unfold sgn;rw[if_pos (by omega)]
  ·rw[if_neg (show ¬a<b from c1)];by_cases c2:b.toNat<a.toNat
   ·rw[if_pos (show b<a from c2)];have:(b.toNat-48+1)*P<=(a.toNat-48)*P:=qOE _ (by omega);rw[qOy,qPX] at this;unfold sgn;rw[if_neg (by omega),if_neg (by omega)]
   ·rw[if_neg (show ¬b<a from c2),ih];have:a.toNat=b.toNat:=by omega
    rw[this];congr 1;omega
theorem qDg{s t:qOb}(hs:qhQ s)(ht:qhQ t)(h:s.length=t.length):(q3J [.s s,.s t]).run=some (0,[.i (sgn ((val s:Int)-(val t:Int)))]):=by show (qs6 [.s s,.s t]).run=_;unfold qs6;simp only;rw[qCe hs ht h];rfl
def qHn:List UInt8:=[48,49,50,51,52,53,54,55,56,57]
theorem qC3(c:UInt8):(qHn.contains c=true)↔(48<=c.toNat/\c.toNat<=57):=by
 constructor
 ·intro h;simp only[qHn,List.contains_eq_mem,qOp,List.not_mem_nil,or_false,decide_eq_true_eq] at h;rcases h with rfl|rfl|rfl|rfl|rfl|rfl|rfl|rfl|rfl|rfl<;>decide
 ·rintro ⟨h1,h2⟩;have hk:∃k,c=UInt8.ofNat k/\48<=k/\k<=57:=⟨c.toNat,by simp,h1,h2⟩;obtain⟨k,rfl,k1,k2⟩:=hk;have:k=48\/k=49\/k=50\/k=51\/k=52\/k=53\/k=54\/k=55\/k=56\/k=57:=by omega
  rcases this with rfl|rfl|rfl|rfl|rfl|rfl|rfl|rfl|rfl|rfl<;>decide
theorem qbA{p:UInt8->Bool}:∀{l:qOb},l.dropWhile p=[]↔∀x,x∈l->p x=true
 | []=>by simp
 | a::l=>by
  rw[List.dropWhile_cons];by_cases h:p a=true
  ·rw[if_pos h,qbA];simp[h]
  ·rw[if_neg h];simp[h]
theorem qkW(s:qOb):(Lib.trimS s qHn=[])=qhQ s:=by
 apply propext;unfold Lib.trimS Lib.trimLeftS Lib.trimRightS;constructor
 ·intro h;have h1:∀c,c∈(s.reverse.dropWhile (qHn.contains ·)).reverse->qHn.contains c=true:=by intro c hc;have:=qbA.1 h c hc;simpa using this
  have h2:s.reverse.dropWhile (qHn.contains ·)=[]:=by
   cases hd:s.reverse.dropWhile (qHn.contains ·) with
   | nil=>rfl
   | cons c t=>
    exfalso;have h3:=List.head_dropWhile_not (p:=(qHn.contains ·)) (l:=s.reverse) (by rw[hd];simp);simp only[hd,List.head_cons] at h3;have:=h1 c (by rw[hd];simp);rw[this] at h3;cases h3
  intro c hc;have:=qbA.1 h2 c (by simpa using hc);exact(qC3 c).1 (by simpa using this)
 ·intro h;have h2:s.reverse.dropWhile (qHn.contains ·)=[]:=by rw[qbA];intro c hc;exact(qC3 c).2 (h c (by simpa using hc))
  rw[h2];rfl
theorem qLV(s:qOb)(hl:s.length<=9223372036854775807):(q8W [.s s,.s [48,49,50,51,52,53,54,55,56,57]]).run=some (0,[.s (Lib.trimS s qHn)]):=by show (qEK [.s s,.s qHn]).run=_;unfold qEK;simp only;rw[if_pos ⟨hl,by decide,by decide⟩];rfl
variable {n:Nat}
theorem qGr (n:Nat):pB n=((10^(9*n):Nat):Int):=by unfold pB;rw[Nat.pow_mul];simp
theorem qDY:∀k:Nat,k<=9->qpx [48,48,48,48,48,48,48,48,48] (k:Int) 9=List.replicate (9-k) 48
 | 0,_=>rfl
 | 1,_=>rfl
 | 2,_=>rfl
 | 3,_=>rfl
 | 4,_=>rfl
 | 5,_=>rfl
 | 6,_=>rfl
 | 7,_=>rfl
 | 8,_=>rfl
 | 9,_=>rfl
 | n+10,h=>by omega
theorem qKH {v:Nat}(h:v<1000000000):qhQ (qGf (tN v))/\(qGf (tN v)).length=9/\val (qGf (tN v))=v:=by
 have hl:(tN v).length<=9:=q9e 8 v (by omega);have e:qGf (tN v)=List.replicate (9-(tN v).length) 48++tN v:=by unfold qGf qyH;rw[show jc (tN v)=((tN v).length:Int) from rfl,qDY _ hl]
 rw[e];refine⟨qoz.2 ⟨qDT _,yR v⟩,by simp;omega,by rw[qEY,q88]⟩
theorem qw8{l:List Int}(hl:l.length=232)(hd:dgs l):∀i:Nat,i<=232->qhQ (qp7 (rI l) i)/\(qp7 (rI l) i).length=9*i/\((val (qp7 (rI l) i):Nat):Int)=mv (l.take i)
 | 0,_=>⟨qJ3,rfl,by simp[qp7,qyk,mv]⟩
 | i+1,h=>by
  obtain⟨h1,h2,h3⟩:=qw8 hl hd i (by omega);have hil:i<l.length:=by omega
  have hg:=hd _ (qOZ hil);have e:cI (rI l) (i:Int) 0=l[i]:=by rw[q63,yO hil]
  have e2:Lib.itoa l[i]=tN l[i].toNat:=by rw[qAQ,qoD (by omega)];congr 1;omega
  obtain⟨p1,p2,p3⟩:=qKH (v:=l[i].toNat) (by omega);unfold qp7;rw[e,e2];refine⟨qoz.2 ⟨p1,h1⟩,by rw[qOz,p2,h2];omega,?_⟩;rw[qyo,p3,h2,qrb hil,qGr];simp only[Int.natCast_add,qPC,h3];rw[qPM hg.1];omega
theorem qIw {l:List Int}(h:WOK n l)(hn:nrm n l)(b:Bool):qHI b (n:Int) (rI l)=tI (sv b l):=by
 unfold qHI;by_cases h0:n=0
 ·have h1:mv l=0:=by rw[<-qos h hn];exact h0
  rw[if_pos (by omega)];unfold sv;rw[h1];cases b<;>rfl
 ·rw[if_neg (by omega)];obtain⟨m,rfl⟩:∃m,n=m+1:=⟨n-1,by omega⟩;have hle:=h.le;have hml:m<l.length:=by rw[h.len];omega
  have e1:(((m+1:Nat):Int)-1)=(m:Int):=by omega
  rw[e1,qOw,q63,yO hml];have hg:=h.dig _ (qOZ hml);have e2:Lib.itoa l[m]=tN l[m].toNat:=by rw[qAQ,qoD (by omega)];congr 1;omega
  obtain⟨t1,t2,t3⟩:=qw8 h.len h.dig m (by omega);have hnz:l[m]≠0:=by
   rcases hn with hn|hn
   ·omega
   ·rw[Nat.add_sub_cancel,yO hml] at hn;exact hn
  have hlo:=h.lo hn h0;have hp:=qef m;simp only[Nat.add_sub_cancel] at hlo;have hv:((val (tN l[m].toNat++qp7 (rI l) m):Nat):Int)=mv l:=by rw[qyo,q88,t2,qe0 l m (by omega),qfo hml,va h.dig h.z (qOe _),qGr];simp only[Int.natCast_add,qPC,t3];rw[qPM hg.1];grind
  have hT:tN l[m].toNat++qp7 (rI l) m=tN (mv l).toNat:=by
   have hd:qhQ (tN l[m].toNat++qp7 (rI l) m):=qoz.2 ⟨yR _,t1⟩;have hne:tN l[m].toNat++qp7 (rI l) m≠[]:=by simp[qrT]
   have hz:(tN l[m].toNat++qp7 (rI l) m).getD 0 0≠48:=by
    have hv0:=q88 l[m].toNat;have hd0:=yR l[m].toNat;rcases qHe l[m].toNat with h1|h1
    ·obtain⟨c,e⟩:=List.length_eq_one_iff.1 h1;rw[e] at hv0 ⊢;simp only[qPv,List.getD_cons_zero];intro hc;subst hc;rw[qBB] at hv0;simp[dv] at hv0;omega
    ·obtain⟨c,t,e,_⟩:=ql2 hd0 (qrT _);rw[e] at h1 ⊢;simpa using h1
   have:=qAt hd hne (.inr hz);rw[this];congr 1;omega
  rw[e2,qOL,hT];unfold sv;cases b
  ·rw[if_neg (by simp),if_neg (by simp),qoD (by omega)];simp;congr 1;omega
  ·rw[if_pos rfl,if_pos rfl,qif (by omega)];simp;congr 1;omega
theorem qEk {l:List Int}(h:WOK n l):qxc (n:Int) (rI l)=true:=by unfold qxc;have:=h.le;simp only[qOr,decide_eq_true_eq,qOI,qOV];refine⟨⟨by omega,by omega⟩,fun i _=>?_⟩;have:=h.get i;rw[q63];exact this
theorem qD1 {l:List Int}(h:WOK n l)(hn:nrm n l)(b:Bool):(zm [.b b,.i (n:Int),.r (rI l)]).run=some (0,[.s (tI (sv b l)),.b b,.i (n:Int),.r (rI l)]):=by show (qFr [.b b,.i (n:Int),.r (rI l)]).run=_;unfold qFr;simp only;rw[if_pos (qEk h),qIw h hn];rfl
end Go.Eng

namespace Go.Eng
theorem qIX{nr ny:Nat}{lr ly:List Int}(hr:WOK nr lr)(hnr:nrm nr lr)(hy:WOK ny ly)(hny:nrm ny ly)(h0:ny≠0)(hy231:ny<=231)(hlt:mv lr<mv ly*1000000000)(y0:Int)(xb:Bool)(xi:Int)(xr:R)(b2 qb:Bool)(qi:Int)(qr:R)(br:Bool) :∃(d:Int) (n:Nat) (l:List Int),(qf yh [.i y0,.i 0,.b xb,.i xi,.r xr,.b b2,.i (ny:Int),.r (rI ly),.b qb,.i qi,.r qr,.b br,.i (nr:Int),.r (rI lr)]).run = some (0,[.i y0,.i d,.b xb,.i xi,.r xr,.b b2,.i (ny:Int),.r (rI ly),.b qb,.i qi,.r qr,.b br,.i (n:Int),.r (rI l)])/\WOK n l/\nrm n l/\0<=d/\d<1000000000/\mv lr=d*mv ly+mv l/\mv l<mv ly:=by
 have hyp:0<mv ly:=by have:=hy.lo hny h0;have:=qef (ny-1);omega
 have hyb:=hy.bd;obtain⟨j,qs,g1,rfl,d,n,l,rfl,g2⟩:=qbd (S:=yh) (fun k ps=>∃(d:Int) (n:Nat) (l:List Int),ps=[.i y0,.i d,.b xb,.i xi,.r xr,.b b2,.i (ny:Int),.r (rI ly),.b qb,.i qi,.r qr,.b br,.i (n:Int),.r (rI l)] /\
   WOK n l/\nrm n l/\0<=d/\d+k=1000000000/\mv lr=d*mv ly+mv l)
  (fun j qs=>j=0/\∃(d:Int) (n:Nat) (l:List Int),qs=[.i y0,.i d,.b xb,.i xi,.r xr,.b b2,.i (ny:Int),.r (rI ly),.b qb,.i qi,.r qr,.b br,.i (n:Int),.r (rI l)]/\WOK n l/\nrm n l/\0<=d/\d<1000000000/\mv lr=d*mv ly+mv l/\mv l<mv ly) (n:=1000000000) (by omega)
  (fun k ps hk ⟨d,n,l,hps,hw,hn,hd0,hdk,hv⟩=>by
   subst hps;have hlb:=hw.bd;have hdlt:d<1000000000:=by
    rcases Int.lt_or_le d 1000000000 with h|h
    ·exact h
    ·have:=qPS h (show 0<=mv ly by omega);rw[qPN (mv ly)] at hlt;omega
   rw[qmC];obtain⟨r,r1,r2⟩:=qCn hw hn hy hny br b2;by_cases hle:mv ly<=mv l
   ·left;have hr0:0<=r:=by rw[r2];exact hle
    have hdm:=qOY hd0 (show 0<=mv ly by omega);have hl9:mv l<pB (ny+1):=by rw[qd7];omega
    obtain⟨q,e1,e2,e3,e4⟩:=qEd hw hn hy hny h0 hle hl9 hy231 br b2;obtain⟨n',l',c1,c2,c3,c4⟩:=qt6 (f:=-q) (up:=0) hw hy (by omega) (by omega) (T:=mv l-q*mv ly) (by rw[q76,Int.mul_one,Int.neg_mul];omega) (by omega)
     (by have:=hlb.2;have:=qf6 hw.le;have:=qOY (show 0<=q by omega) (show 0<=mv ly by omega);omega) br b2
    have hq2:(d+q)*mv ly+(mv l-q*mv ly)=d*mv ly+mv l:=by rw[Int.add_mul];omega
    have hdq:d+q<1000000000:=by
     rcases Int.lt_or_le (d+q) 1000000000 with h|h
     ·exact h
     ·have:=qPS h (show 0<=mv ly by omega);rw[qPN (mv ly)] at hlt;omega
    have w1:yC .i64 0 q=-q:=qKs (by omega);have w2:qu .i64 d q=d+q:=zt (by omega);simp only[show ((0:Nat):Int)=0 from rfl] at c1;refine⟨(1000000000-(d+q)).toNat,[.i y0,.i (d+q),.b xb,.i xi,.r xr,.b b2,.i (ny:Int),.r (rI ly),.b qb,.i qi,.r qr,.b br,.i (n':Int),.r (rI l')],by omega,?_,d+q,n',l',rfl,c2,c3,by omega,by omega,by rw[c4];omega⟩;simp only[STD,r1,hr0,e1,w1,w2,c1]
   ·right;have hr0:¬0<=r:=by rw[r2];exact hle
    refine⟨0,_,?_,rfl,d,n,l,rfl,hw,hn,hd0,hdlt,hv,by omega⟩;simp only[STD,r1,hr0]) (ps:=[.i y0,.i 0,.b xb,.i xi,.r xr,.b b2,.i (ny:Int),.r (rI ly),.b qb,.i qi,.r qr,.b br,.i (nr:Int),.r (rI lr)]) ⟨0,nr,lr,rfl,hr,hnr,by omega,by omega,by omega⟩
 exact⟨d,n,l,g1,g2⟩
theorem qIK{n:Nat}{l:List Int}{d:Int}(h:WOK n l)(hn:n<=231)(hd:0<=d/\d<1000000000) :qlU (qpb (rI l) 1 (rI l) 0 (qaS (qEx (n:Int) 0) (qEx 232 1))) 0 0 [.i d]=rI (d::(l.take n++l.drop (1+n)))/\WOK (n+1) (d::(l.take n++l.drop (1+n)))/\mv (d::(l.take n++l.drop (1+n)))=d+1000000000*mv l:=by
 have hlen:=h.len;have e1:qaS (qEx (n:Int) 0) (qEx 232 1)=(n:Int):=by unfold qaS qEx;split<;>omega
 obtain⟨x,t,rfl⟩:∃x t,l=x::t:=by
  cases l with
  | nil=>simp at hlen
  | cons x t=>exact⟨x,t,rfl⟩
 refine⟨?_,⟨by simp;simp at hlen;omega,by omega,?_,?_⟩,?_⟩
 ·rw[e1];unfold qpb;have:(rI (x::t)).take (1:Int).toNat++((rI (x::t)).drop (0:Int).toNat).take (n:Int).toNat++(rI (x::t)).drop ((1:Int).toNat+(n:Int).toNat)=rI (x::((x::t).take n++(x::t).drop (1+n))):=by rw[qOw];simp[rI,List.map_take,List.map_drop]
  rw[this,show (0:Int)=((0:Nat):Int) from rfl,qmJ];rfl
 ·intro y hy;rcases qOp.1 hy with rfl|hy
  ·exact hd
  ·rcases qOB.1 hy with hy|hy
   ·exact h.dig _ (qPW hy)
   ·exact h.dig _ (qQc hy)
 ·intro i hi;obtain⟨j,rfl⟩:∃j,i=j+1:=⟨i-1,by omega⟩;have hz:=h.z (j+1) (by omega);rw[qOd] at hz ⊢;rw[qP5,qOv (by simp;omega)];rw[qP9,qPi,qPk (by omega)];rw[show 1+n+(j-n)=j+1 by omega];exact hz
 ·show d+1000000000*mv _=_;rw[qBS,qPi,qPk (by omega),va h.dig h.z (show n<=1+n by omega)];have:=qe0 (x::t) n (by omega);rw[va h.dig h.z (qOe n)] at this;omega
theorem qjK{nx ny:Nat}{lx ly:List Int}(hx:WOK nx lx)(hy:WOK ny ly)(hny:nrm ny ly)(h0:ny≠0)(hy231:ny<=231)(bx b2:Bool) :∃(nq:Nat) (lq:List Int) (nr:Nat) (lr:List Int),(uv [.b bx,.i (nx:Int),.r (rI lx),.b b2,.i (ny:Int),.r (rI ly)]).run = some (0,[.b bx,.i (nx:Int),.r (rI lx),.b b2,.i (ny:Int),.r (rI ly),.b false,.i (nq:Int),.r (rI lq),.b false,.i (nr:Int),.r (rI lr)])/\WOK nq lq/\nrm nq lq/\WOK nr lr/\nrm nr lr/\mv lx=mv lq*mv ly+mv lr/\mv lr<mv ly:=by
 rw[qrP];have hyp:0<mv ly:=by have:=hy.lo hny h0;have:=qef (ny-1);omega
 have hx232:=hx.le;have e0:q8i 232 [.i 0]=rI (List.replicate 232 0):=qxS 232 0;have hxl:=hx.len;obtain⟨j,qs,g1,rfl,nq,lq,nr,lr,rfl,g2,g3,g4,g5,g6⟩:=qbd (S:=q0X) (fun k ps=>∃(Q:Int) (nq:Nat) (lq:List Int) (nr:Nat) (lr:List Int),
   ps=[.i ((k:Int)-1),.b bx,.i (nx:Int),.r (rI lx),.b b2,.i (ny:Int),.r (rI ly),.b false,.i (nq:Int),.r (rI lq),.b false,.i (nr:Int),.r (rI lr)]/\k<=nx/\WOK nq lq/\WOK nr lr/\nrm nr lr/\mv (lx.drop k)=Q*mv ly+mv lr/\mv lr<mv ly/\mv lq=pB k*Q/\∀i,i<k->lq.getD i 0=0)
  (fun j qs=>j=0/\∃(nq:Nat) (lq:List Int) (nr:Nat) (lr:List Int),qs=[.b bx,.i (nx:Int),.r (rI lx),.b b2,.i (ny:Int),.r (rI ly),.b false,.i (nq:Int),.r (rI lq),.b false,.i (nr:Int),.r (rI lr)]/\WOK nq lq/\WOK nr lr/\nrm nr lr/\mv lx=mv lq*mv ly+mv lr/\mv lr<mv ly) (n:=nx) (by omega)
  (fun k ps hk ⟨Q,nq,lq,nr,lr,hps,hkn,hwq,hwr,hnr,hv,hlt,hq,hz⟩=>by
   subst hps;rw[qpk];rcases qPo k with rfl|hk0
   ·right;have a1:¬(0:Int)<=((0:Nat):Int)-1:=by omega
    refine⟨0,[.b bx,.i (nx:Int),.r (rI lx),.b b2,.i (ny:Int),.r (rI ly),.b false,.i (nq:Int),.r (rI lq),.b false,.i (nr:Int),.r (rI lr)],?_,rfl,nq,lq,nr,lr,rfl,hwq,hwr,hnr,?_,hlt⟩
    ·simp only[STD,a1]
    ·rw[hq,q76,qQ1,<-hv,List.drop_zero]
   ·left;obtain⟨i,rfl⟩:∃i,k=i+1:=⟨k-1,by omega⟩;have e:(((i+1:Nat):Int)-1)=(i:Int):=by omega
    rw[e];have hnr231:nr<=231:=qOh (qNI hwr hnr hy (by omega)) hy231;have hil:i<lx.length:=by omega
    have gx:=hx.get i;obtain⟨s1,s2,s3⟩:=qIK hwr hnr231 (d:=lx.getD i 0) gx;obtain⟨m,t1,t2,t3⟩:=qou s2 false;have hX:mv (lx.drop i)=lx.getD i 0+1000000000*(Q*mv ly+mv lr):=by rw[qfo hil,<-hv,yO hil]
    have hlt2:mv (lx.getD i 0::(lr.take nr++lr.drop (1+nr)))<mv ly*1000000000:=by rw[s3];omega
    obtain⟨d,n',l',d1,d2,d3,d4,d5,d6,d7⟩:=qIX t2 t3 hy hny h0 hy231 hlt2 (i:Int) bx (nx:Int) (rI lx) b2 false (nq:Int) (rI lq) false;rw[s3] at d6;have a1:(0:Int)<=(i:Int):=by omega
    have a2:(i:Int)<232:=by omega
    have a3:(0:Int)<=232/\(232:Int)<=232:=by omega
    have a4:(0:Int)<=1/\(1:Int)<=232:=by omega
    have a5:(0:Int)<=(nr:Int)/\(nr:Int)<=232:=by omega
    have a6:(0:Int)<=0/\(0:Int)<=(nr:Int):=by omega
    have w1:qu .i64 (nr:Int) 1=((nr+1:Nat):Int):=by rw[zt (by omega)];omega
    have w2:qu .i64 (i:Int) 1=((i+1:Nat):Int):=by rw[zt (by omega)];omega
    have w3:yC .i64 (i:Int) 1=(i:Int)-1:=zP (by omega);have w4:qiL (nq:Int) ((i+1:Nat):Int)=((max nq (i+1):Nat):Int):=qC2 _ _;have hiq:i<lq.length:=by rw[hwq.len];omega
    have hzi:lq[i]=0:=by rw[<-yO hiq];exact hz i (by omega)
    refine⟨i,[.i ((i:Int)-1),.b bx,.i (nx:Int),.r (rI lx),.b b2,.i (ny:Int),.r (rI ly),.b false,.i ((max nq (i+1):Nat):Int),.r (rI (lq.set i d)),.b false,.i (n':Int),.r (rI l')],by omega,?_,Q*1000000000+d,_,_,_,_,rfl,by omega,hwq.setW (by omega) ⟨d4,d5⟩,d2,d3,?_,d7,?_,?_⟩
    ·simp only[q63,s1,w1];simp only[STD,a1,a2,a3,a4,a5,a6,and_self,t1,d1,w2,w3,w4,qmJ]
    ·rw[hX,Int.add_mul,Int.mul_add];have:Q*1000000000*mv ly=1000000000*(Q*mv ly):=by grind
     omega
    ·rw[qD3 lq i hiq,hzi,hq,qd7];grind
    ·intro a ha;rw[qOd,qOf (by omega),<-qOd];exact hz a (by omega))
  (ps:=[.i ((nx:Int)-1),.b bx,.i (nx:Int),.r (rI lx),.b b2,.i (ny:Int),.r (rI ly),.b false,.i 0,.r (rI (List.replicate 232 0)),.b false,.i 0,.r (rI (List.replicate 232 0))])
  ⟨0,0,_,0,_,rfl,qOe _,WOK.zero,WOK.zero,.inl rfl,by rw[va hx.dig hx.z (qOe _),qha];omega,by rw[qha];exact hyp,by rw[qha,qQ2],fun i _=>qza 232 i⟩
 obtain⟨m,t1,t2,t3⟩:=qou g2 false;refine⟨m,lq,nr,lr,?_,t2,t3,g3,g4,g5,g6⟩;have hs:yC .i64 (nx:Int) 1=(nx:Int)-1:=zP (by omega);simp only[e0,hs];simp only[STD,g1,t1]
variable {m:Int}
theorem qNj {c:UInt8}{t:qOb}:qpx (c::t) 0 1=[c]:=by simp[qpx]
theorem qGx (s:qOb):(qD [.s s,.s [45]]).run=some (0,[.b (decide (s.getD 0 0=45))]):=by
 rw[q6S];have h1:jc [45]=1:=rfl;cases s with
 | nil=>
  have a:¬(1:Int)<=jc []:=by decide
  simp only[STD,h1,a];rfl
 | cons c t=>
  have a:(1:Int)<=jc (c::t):=by unfold jc;simp only[qON];omega
  simp only[STD,h1,a,show (0:Int)<=1 by omega,show (0:Int)<=0 by omega,and_self,qNj];have e:seq [c] [45]=decide ((c::t).getD 0 0=45):=by rw[Bool.eq_iff_iff,yk];simp
  rw[e]
theorem qxm (s:qOb):(qX [.s s,.s [45]]).run=some (0,[.s (mag s)]):=by
 rw[qjk];have h:(zc [.s s,.s [45]]).run=some (0,[.s (mag s)]):=by
  rw[q6n];have h1:jc [45]=1:=rfl;unfold mag;by_cases h:s.getD 0 0=45
  ·rw[if_pos h];have a:(1:Int)<=jc s:=by
    cases s with
    | nil=>simp at h
    | cons c t=>unfold jc;simp only[qON];omega
   have e:qpx s 1 (jc s)=s.drop 1:=by unfold qpx jc;simp
   simp only[STD,qGx,h,h1,a,and_self,qOX,show (0:Int)<=jc s by omega,show (0:Int)<=1 by omega,e]
  ·rw[if_neg h];simp only[STD,qGx,h]
 simp only[STD,h]
theorem qgO (s:qOb)(hl:s.length<=1000000000):(qG [.s s]).run=some (0,[.i (qCr s)]):=by
 rw[qv7];have hT:=qxm s;have hml:(mag s).length<=s.length:=by unfold mag;split<;>simp
 have hR:=qLV (mag s) (by omega);have hcan:=qF5 s;unfold qCr;have hl3:(1024<jc (mag s))=¬((mag s).length<=1024):=by unfold jc;simp only[eq_iff_iff];omega
 by_cases hne:mag s=[]
 ·rw[if_neg (fun h=>(hcan.1 h).1 hne)];simp only[STD,hT,yk,hne]
 ·have hp:0<(mag s).length:=qPJ.2 hne;have a1:(0:Int)<jc (mag s):=by unfold jc;omega
  have hs:sat (mag s) 0=((mag s)[0].toNat:Int):=qL8 (i:=0) hp;have h48:((mag s)[0].toNat:Int)=48↔(mag s).getD 0 0=48:=by
   have:(mag s).getD 0 0=(mag s)[0]:=by simp[hp]
   rw[this];exact⟨fun h=>UInt8.toNat_inj.1 (by show (mag s)[0].toNat=48;omega),fun h=>by rw[h];rfl⟩
  by_cases hd:qhQ (mag s)
  ·have hs1:((mag s).getD 0 0=48->s.length=1)↔(((mag s)[0].toNat:Int)=48->s=[48]):=by
    rw[h48];constructor
    ·intro h h2;obtain⟨c,e⟩:=List.length_eq_one_iff.1 (h h2);subst e;by_cases hc:c=45
     ·subst hc;exact absurd rfl hne
     ·have:mag [c]=[c]:=by unfold mag;rw[if_neg (by simpa using hc)]
      rw[this] at h2;simp at h2;rw[h2]
    ·intro h h2;rw[h h2];rfl
   by_cases hz:((mag s)[0].toNat:Int)=48
   ·by_cases h0:s=[48]
    ·rw[if_pos (hcan.2 ⟨hne,hd,hs1.2 fun _=>h0⟩)];by_cases hL:(mag s).length<=1024
     ·simp only[STD,hT,hR,yk,hne,qkW,hd,a1,hs,hz,hl3,hL,qOX,and_self];simp only[STD,h0]
     ·simp only[STD,hT,hR,yk,hne,qkW,hd,a1,hs,hz,hl3,hL,qOX,and_self];simp only[STD,h0]
    ·rw[if_neg (fun h=>h0 (hs1.1 (hcan.1 h).2.2 hz))];simp only[STD,hT,hR,yk,hne,qkW,hd,a1,hs,hz,h0,qOX,and_self]
   ·rw[if_pos (hcan.2 ⟨hne,hd,fun h=>absurd (h48.2 h) hz⟩)];by_cases hL:(mag s).length<=1024
    ·simp only[STD,hT,hR,yk,hne,qkW,hd,a1,hs,hz,hl3,hL,qOX,and_self]
    ·simp only[STD,hT,hR,yk,hne,qkW,hd,a1,hs,hz,hl3,hL,qOX,and_self]
  ·rw[if_neg (fun h=>hd (hcan.1 h).2.1)];simp only[STD,hT,hR,yk,hne,qkW,hd]
def okL(m:Int):Prop:=nl m<=1024
theorem qBF (h:okL m):qCr (tI m)=0:=by unfold qCr;rw[if_pos ⟨m,rfl⟩,qz1,if_pos (show (tN m.natAbs).length<=1024 from h)]
theorem qBD (h:okL m):(tI m).length<=1025:=by have:=qJN m;unfold okL nl at h;omega
theorem qhc (h:okL m):(qG [.s (tI m)]).run=some (0,[.i 0]):=by have:=qBD h;rw[qgO _ (by omega),qBF h]
def rS(l:List (List UInt8)):R:=l.map fun s=>[.s s]
theorem qvV (l:List (List UInt8)):qg (rS l)=l.length:=by simp[rS,qg]
theorem qHJ {l:List (List UInt8)}{i:Nat}(h:i<l.length):cS (rS l) (i:Int) 0=l[i]:=by simp[cS,zZ,rS,h,U.toS]
theorem qM9 {l:List (List UInt8)}(hn:l.length<1000000)(h:∀s,s∈l->(qG [.s s]).run=some (0,[.i 0])):(wy [.r (rS l)]).run=some (0,[.i 0]):=by
 rw[qyK,qvV];have key:=qp (S:=q6E) (fun i=>[.r (rS l),.i (l.length:Int),.i (i:Int)]) (0,[]) l.length (by omega) (fun i hi=>by
  rw[qm8,qHJ hi];have a1:(i:Int)<(l.length:Int):=by omega
  have a2:(i:Int)<qg (rS l):=by rw[qvV];exact a1
  simp only[STD,a1,a2,q9A,and_self,h _ (qOZ hi),jd hi (show l.length<9223372036854775808 by omega)]) (by
  rw[qm8];have a1:¬(l.length:Int)<(l.length:Int):=by omega
  simp only[STD,a1])
 simp only[show (((0:Nat)):Int)=0 from rfl] at key;simp only[STD,key,zf key]
theorem qhR {m n:Int}(hm:okL m)(hn:okL n):(wy [.r [[.s (tI m)],[.s (tI n)]]]).run=some (0,[.i 0]):=by
 have:=qM9 (l:=[tI m,tI n]) (by simp) (fun s hs=>by
  simp only[qOp,List.not_mem_nil,or_false] at hs;rcases hs with rfl|rfl
  ·exact qhc hm
  ·exact qhc hn)
 exact this
theorem q2m (n:Int)(h:-9223372036854775808<=n/\n<=9223372036854775807):(za [.i n]).run=some (0,[.s (tI n)]):=by rw[qBP];simp only[STD,qN7 n h]
theorem q8b (m:Int):(tI m=[48])=(m=0):=propext ⟨fun h=>qCV (n:=0) h,fun h=>by rw[h];rfl⟩
theorem q3C (m:Int):(ub [.s (tI m)]).run=some (0,[.i (sgn m)]):=by
 rw[qxo];have a1:(0:Int)<jc (tI m):=by have:=qGN m;unfold jc;omega
 have hs:(sat (tI m) 0=45)=(m<0):=qKc m;unfold sgn;by_cases h0:m=0
 ·simp only[STD,yk,q8b,h0];rfl
 ·by_cases h1:m<0
  ·simp only[STD,yk,q8b,h0,a1,hs,h1,qOX,and_self]
  ·simp only[STD,yk,q8b,h0,a1,hs,h1,qOX,and_self]
theorem qzP (h:okL m):(q9t [.s (tI m)]).run=some (0,[.i (sgn m),.i 0]):=by rw[qxg];simp only[STD,qhc h,q3C]
theorem qKJ (m n:Nat):(q6t [.s (tN m),.s (tN n)]).run=some (0,[.i (sgn ((m:Int)-(n:Int)))]):=by
 rw[quY];have hl:(jc (tN m)=jc (tN n))=((tN m).length=(tN n).length):=by unfold jc;simp only[eq_iff_iff];omega
 have hl2:(jc (tN m)<jc (tN n))=((tN m).length<(tN n).length):=by unfold jc;simp only[eq_iff_iff];omega
 by_cases he:(tN m).length=(tN n).length
 ·have h:=qDg (yR m) (yR n) he;rw[q88,q88] at h;simp only[STD,hl,he,h]
 ·by_cases hlt:(tN m).length<(tN n).length
  ·have h:=(qGz m n).1 (.inl hlt);simp only[STD,hl,hl2,he,hlt];unfold sgn;rw[if_pos (by omega)]
  ·have h:=(qGz n m).1 (.inl (by omega));simp only[STD,hl,hl2,he,hlt];unfold sgn;rw[if_neg (by omega),if_neg (by omega)]
theorem qg8 (m:Int):(m<0/\sgn m=-1)\/(m=0/\sgn m=0)\/(0<m/\sgn m=1):=by
 unfold sgn;rcases qPT m 0 with h|h|h
 ·rw[if_pos h];omega
 ·subst h;simp
 ·rw[if_neg (by omega),if_neg (by omega)];omega
theorem qEN (m:Int):-1<=sgn m/\sgn m<=1:=by rcases qg8 m with⟨_,e⟩|⟨_,e⟩|⟨_,e⟩<;>omega
theorem qKY (m n:Int):(if sgn m<sgn n then -1 else if sgn n<sgn m then 1 else sgn m*sgn ((m.natAbs:Int)-(n.natAbs:Int)))=sgn (m-n):=by
 rcases qg8 m with⟨a,ea⟩|⟨a,ea⟩|⟨a,ea⟩<;>rcases qg8 n with⟨b,eb⟩|⟨b,eb⟩|⟨b,eb⟩<;>rw[ea,eb]<;>simp only[Int.reduceLT,Int.reduceNeg,if_true,if_false] <;>
  rcases qg8 (m-n) with⟨c,ec⟩|⟨c,ec⟩|⟨c,ec⟩<;>rcases qg8 ((m.natAbs:Int)-(n.natAbs:Int)) with⟨d,ed⟩|⟨d,ed⟩|⟨d,ed⟩<;>omega
theorem qj8 {m n:Int}(hm:okL m)(hn:okL n):(uD [.s (tI m),.s (tI n)]).run=some (0,[.i (sgn (m-n)),.i 0]):=by
 rw[qrW];have h1:=qxm (tI m);have h2:=qxm (tI n);rw[qz1] at h1 h2;have h3:=qKJ m.natAbs n.natAbs;have hw:∀a b:Int,-1<=a/\a<=1->-1<=b/\b<=1->zw .i64 a b=a*b:=fun a b ha hb=>zV (by have:=qAa (A:=1) (B:=1) ha.1 ha.2 hb.1 hb.2;omega);have ba:=qEN m;have bb:=qEN n;have bc:=qEN ((m.natAbs:Int)-(n.natAbs:Int));have e:=qKY m n;by_cases c1:sgn m<sgn n
 ·rw[if_pos c1] at e;simp only[STD,qhR hm hn,q3C,h1,h2,h3,c1,<-e]
 ·rw[if_neg c1] at e;by_cases c2:sgn n<sgn m
  ·rw[if_pos c2] at e;simp only[STD,qhR hm hn,q3C,h1,h2,h3,c1,c2,<-e]
  ·rw[if_neg c2] at e;simp only[STD,qhR hm hn,q3C,h1,h2,h3,c1,c2,hw _ _ ba bc,<-e]
theorem qre (m:Int)(hm:nl m<=2000):∃(n:Nat) (l:List Int),(wE [.s (tI m)]).run=some (0,[.b (decide (m<0)),.i (n:Int),.r (rI l)])/\WOK n l/\nrm n l/\mv l=m.natAbs/\9*n<=nl m+8:=by
 rw[qxF];have h1:=qxm (tI m);rw[qz1] at h1;have a1:(0:Int)<jc (tI m):=by have:=qGN m;unfold jc;omega
 have hb:ieq (sat (tI m) 0) 45=decide (m<0):=by rw[Bool.eq_iff_iff,qHc,qKc];simp
 have e0:q8i 232 [.i 0]=rI (List.replicate 232 0):=qxS 232 0;have hL:(tN m.natAbs).length<=2000:=hm;obtain⟨j,qs,g1,rfl,n,l,rfl,g2,g3,g4⟩:=qbd (S:=q58) (fun k ps=>∃(n:Nat) (l:List Int),ps=[.s ((tN m.natAbs).take k),.b (decide (m<0)),.i (n:Int),.r (rI l)]/\k<=(tN m.natAbs).length/\WOK n l /\
   (k=0/\9*n<=(tN m.natAbs).length+8\/k+9*n=(tN m.natAbs).length)/\((val (tN m.natAbs):Nat):Int)=((val ((tN m.natAbs).take k):Nat):Int)*pB n+mv l)
  (fun j qs=>j=0/\∃(n:Nat) (l:List Int),qs=[.b (decide (m<0)),.i (n:Int),.r (rI l)]/\WOK n l/\mv l=m.natAbs/\9*n<=(tN m.natAbs).length+8) (n:=(tN m.natAbs).length) (by omega)
  (fun k ps hk ⟨n,l,hps,hkl,hw,hkn,hv⟩=>by
   subst hps;rw[qtx];have hlk:jc ((tN m.natAbs).take k)=(k:Int):=by unfold jc;rw[qPi,qPk hkl]
   rcases qPo k with rfl|hk0
   ·right;refine⟨0,[.b (decide (m<0)),.i (n:Int),.r (rI l)],?_,rfl,n,l,rfl,hw,?_,by omega⟩
    ·have a:¬(0:Int)<jc ((tN m.natAbs).take 0):=by rw[hlk];omega
     simp only[STD,a]
    ·rw[q88,List.take_zero,qyk] at hv;simp at hv;omega
   ·left;have hn231:n<=231:=by omega
    obtain⟨q,hq,hq9⟩:∃q:Nat,qiL 0 (yC .i64 (k:Int) 9)=(q:Int)/\q=k-9:=by refine⟨k-9,?_,rfl⟩;rw[zP (by omega)];unfold qiL;split<;>omega
    have hqk:q<=k:=by omega
    have hsub:qpx ((tN m.natAbs).take k) (q:Int) (k:Int)=((tN m.natAbs).take k).drop q:=by unfold qpx;simp[List.take_take]
    have hsub2:qpx ((tN m.natAbs).take k) 0 (q:Int)=(tN m.natAbs).take q:=by unfold qpx;simp[List.take_take,qPk hqk]
    have hdg:qhQ (((tN m.natAbs).take k).drop q):=qGk (qEP (yR _) k) q;have hdl:(((tN m.natAbs).take k).drop q).length=k-q:=by rw[List.length_drop,qPi,qPk hkl]
    have hdn:((tN m.natAbs).take k).drop q≠[]:=by intro h;rw[h] at hdl;simp at hdl;omega
    have hA:=qHr (s:=((tN m.natAbs).take k).drop q) (by omega) (qyJ hdg hdn);have hvl:=qj5 hdg;rw[hdl] at hvl;have hv9:val (((tN m.natAbs).take k).drop q)<1000000000:=qPr hvl (by have:(10:Nat)^(k-q)<=10^9:=qQa (by omega) (by omega);simpa using this);have b1:(0:Int)<(k:Int):=by omega
    have b2:(0:Int)<=(q:Int)/\(q:Int)<=(k:Int):=by omega
    have b3:(0:Int)<=(k:Int)/\(k:Int)<=(k:Int):=by omega
    have b4:(0:Int)<=(n:Int)/\(n:Int)<232:=by omega
    have b5:(0:Int)<=0/\(0:Int)<=(q:Int):=by omega
    have w1:qu .i64 (n:Int) 1=((n+1:Nat):Int):=by rw[zt (by omega)];omega
    have hnl:n<l.length:=by rw[hw.len];omega
    have hz:l[n]=0:=by rw[<-yO hnl];exact hw.z n (qOe _)
    have hW:=hw.setW (j:=n) (y:=((val (((tN m.natAbs).take k).drop q):Nat):Int)) (by omega) (by omega);rw[Nat.max_eq_right (by omega)] at hW;refine⟨q,[.s ((tN m.natAbs).take q),.b (decide (m<0)),.i ((n+1:Nat):Int),.r (rI (l.set n ((val (((tN m.natAbs).take k).drop q):Nat):Int)))],by omega,?_,n+1,_,rfl,by omega,hW,by omega,?_⟩
    ·simp only[STD,hlk,b1,hq,b2,b3,b4,b5,and_self,hsub,hsub2,hA,w1,qmJ]
    ·rw[qD3 l n hnl,hz,hv];have hsp:val ((tN m.natAbs).take k)=val ((tN m.natAbs).take q)*10^(k-q)+val (((tN m.natAbs).take k).drop q):=by
      have h1:(tN m.natAbs).take k=((tN m.natAbs).take k).take q++((tN m.natAbs).take k).drop q:=(qQd q _).symm;have h2:((tN m.natAbs).take k).take q=(tN m.natAbs).take q:=by rw[List.take_take,qPk hqk]
      rw[h2] at h1;generalize ((tN m.natAbs).take k).drop q=D at *;rw[h1,qyo,hdl]
     rw[hsp,qd7];rcases qOj k 9 with h9|h9
     ·have:q=0:=by omega
      subst this;rw[List.take_zero,qyk];simp;omega
     ·have:k-q=9:=by omega
      rw[this];simp only[Int.natCast_add,qPC];have e9:(((10:Nat)^9:Nat):Int)=1000000000:=by simp
      rw[e9];grind) (ps:=[.s ((tN m.natAbs).take (tN m.natAbs).length),.b (decide (m<0)),.i 0,.r (rI (List.replicate 232 0))])
  ⟨0,_,rfl,qOe _,WOK.zero,.inr (by omega),by rw[q76,qPB,qha];simp⟩
 rw[qPB] at g1;obtain⟨n2,t1,t2,t3⟩:=qou g2 (decide (m<0));refine⟨n2,l,?_,t2,t3,g3,?_⟩
 ·simp only[STD,e0,hb,h1,a1,qOX,and_self,g1,t1]
 ·have:=qNI t2 t3 g2 (qOX _);unfold nl;omega
end Go.Eng

namespace Go.Eng
variable {m:Int}{n:Nat}
theorem qL7 {k n:Nat}(h:nl m<=k)(hk:k<=9*n):(m.natAbs:Int)<pB n:=by rw[qGr];have h1:=qNH h;have h2:(10:Nat)^k<=10^(9*n):=qQa (by omega) hk;omega
theorem qwB (h:okL m):(m.natAbs:Int)<pB 114:=qL7 (k:=1024) h (by omega)
theorem qyt (h:okL m):okL (-m):=by unfold okL;rw[qHg];exact h
theorem qFP:pB n+pB n<=pB (n+1):=by rw[qd7];have:=qef n;omega
theorem qMa {b:Bool}{l:List Int}(h:0<=mv l):((sv b l).natAbs:Int)=mv l:=by unfold sv;cases b<;>simp<;>omega
theorem qA3 {l:List Int}(h:WOK n l)(hn:nrm n l)(b:Bool)(hk:okL (sv b l)):(wz [.b b,.i (n:Int),.r (rI l)]).run=some (0,[.s (tI (sv b l)),.i 0,.b b,.i (n:Int),.r (rI l)]):=by rw[qk2];simp only[STD,qD1 h hn,qhc hk]
theorem qBt (m n:Int):(yN [.s (tI m),.s (tI n)]).run=some (0,if (tI m).length<=9/\(tI n).length<=9 then [.i m,.i n,.b true] else [.i 0,.i 0,.b false]):=by
 rw[qvx];have h1:(9<jc (tI m))=¬(tI m).length<=9:=by unfold jc;simp only[eq_iff_iff];omega
 have h2:(9<jc (tI n))=¬(tI n).length<=9:=by unfold jc;simp only[eq_iff_iff];omega
 by_cases a:(tI m).length<=9
 ·by_cases b:(tI n).length<=9
  ·simp only[STD,h1,h2,a,b,and_self,qHr (s:=tI m) (by omega) (qFl m),qHr (s:=tI n) (by omega) (qFl n)]
  ·simp only[STD,h1,h2,a,b,and_false]
 ·simp only[STD,h1,a,false_and]
theorem qkK (h:(tI m).length<=9):m.natAbs<1000000000:=by
 have:(tN m.natAbs).length<=9:=by
  unfold tI at h;split at h
  ·simp at h;omega
  ·exact h
 exact qPr (qoQ this) (by simp)
theorem qBV (n:Int)(h:-9223372036854775808<=n/\n<=9223372036854775807):(q0d [.i n]).run=some (0,[.s (tI n),.i 0]):=by rw[qur];simp only[STD,q2m n h]
theorem qGX {l:List Int}(h:mv l=m.natAbs):sv (decide (m<0)) l=m:=by
 unfold sv;by_cases hm:m<0
 ·rw[decide_eq_true hm,if_pos rfl];omega
 ·rw[decide_eq_false hm,if_neg (by simp)];omega
theorem qN1 {m n:Int}(hm:okL m)(hn:okL n)(hs:okL (m+n)):(qd1 [.r [[.s (tI m)],[.s (tI n)]]]).run=some (0,[.s (tI (m+n)),.i 0]):=by
 rw[qzv];have e0:q8i 232 [.i 0]=rI (List.replicate 232 0):=qxS 232 0;have lm:=qwB hm;have ln:=qwB hn;obtain⟨q1,l1,r1,w1,n1,v1,_⟩:=qre m (by unfold okL at hm;omega);obtain⟨q2,l2,r2,w2,n2,v2,_⟩:=qre n (by unfold okL at hn;omega);have hb2:=qf6 (show 115<=232 by omega);have hb1:pB 114+pB 114<=pB 115:=qFP;have hb0:=qef 114;obtain⟨b1,k1,m1,a1,a2,a3,a4⟩:=qK5 (lx:=List.replicate 232 0) (nx:=0) WOK.zero (.inl rfl) w1 n1 (by rw[qha,v1];omega) false (decide (m<0));rw[qGX v1] at a4;have a5:sv b1 m1=m:=by
  have:sv false (List.replicate 232 0)=0:=by unfold sv;rw[if_neg (by simp),qha]
  rw[a4,this];omega
 obtain⟨b2,k2,m2,c1,c2,c3,c4⟩:=qK5 a2 a3 w2 n2 (by rw[<-qMa (b:=b1) a2.bd.1,a5,v2];omega) b1 (decide (n<0));rw[qGX v2,a5] at c4;have key:=qp (S:=q7S) (fun i=>match i with
  | 0=>[.r [[.s (tI m)],[.s (tI n)]],.i 2,.i 0,.b false,.i 0,.r (rI (List.replicate 232 0))]
  | 1=>[.r [[.s (tI m)],[.s (tI n)]],.i 2,.i 1,.b b1,.i (k1:Int),.r (rI m1)]
  | _=>[.r [[.s (tI m)],[.s (tI n)]],.i 2,.i 2,.b b2,.i (k2:Int),.r (rI m2)]) (0,[.b b2,.i (k2:Int),.r (rI m2)]) 2 (by omega) (fun i hi=>by
   have:i=0\/i=1:=by omega
   have d0:cS [[.s (tI m)],[.s (tI n)]] 0 0=tI m:=rfl;have d1:cS [[.s (tI m)],[.s (tI n)]] 1 0=tI n:=rfl;have d2:qg [[U.s (tI m)],[U.s (tI n)]]=2:=rfl;rcases this with rfl|rfl
   ·simp only;rw[qeW,d0,d2];simp only[show ((0:Nat):Int)=0 from rfl] at a1;have w:qu .i64 0 1=1:=by decide
    simp only[STD,r1,a1,w,show (0:Int)<2 by omega,show (0:Int)<=0 by omega,and_self]
   ·simp only;rw[qeW,d1,d2];have w:qu .i64 1 1=2:=by decide
    simp only[STD,r2,c1,w,show (1:Int)<2 by omega,show (0:Int)<=1 by omega,and_self]) (by
   simp only;rw[qeW];simp only[STD,show ¬(2:Int)<2 by omega])
 simp only at key;have hL:=qA3 c2 c3 b2 (by rw[c4];exact hs);rw[c4] at hL;have d2:qg [[U.s (tI m)],[U.s (tI n)]]=2:=rfl;simp only[e0,d2];simp only[STD,key,hL]
theorem qMm {m n:Int}(hm:okL m)(hn:okL n)(hs:okL (m+n)):(q34 [.s (tI m),.s (tI n)]).run=some (0,[.s (tI (m+n)),.i 0]):=by
 rw[qzY];have h:=qBt m n;by_cases hc:(tI m).length<=9/\(tI n).length<=9
 ·rw[if_pos hc] at h;have b1:=qkK hc.1;have b2:=qkK hc.2;have w:qu .i64 m n=m+n:=zt (by omega);simp only[STD,qhR hm hn,h,w,qBV (m+n) (by omega)]
 ·rw[if_neg hc] at h;simp only[STD,qhR hm hn,h,qN1 hm hn hs]
theorem qE7 (hm:okL m):(q1V [.s (tI m)]).run=some (0,[.s (tI (-m))]):=by
 rw[qq6];have hl:=qBD hm;have hp:=qGN m;rcases qg8 m with⟨h,e⟩|⟨h,e⟩|⟨h,e⟩
 ·have a1:(0:Int)<=jc (tI m)/\jc (tI m)<=jc (tI m):=by unfold jc;omega
  have a2:(0:Int)<=1/\1<=jc (tI m):=by unfold jc;omega
  have a3:qpx (tI m) 1 (jc (tI m))=tI (-m):=by unfold qpx jc;rw[qif h,qoD (m:=-m) (by omega),Int.natAbs_neg];simp
  simp only[STD,q3C,e,a1,a2,a3,and_self,show ¬((-1:Int)=0) by omega,show ¬((-1:Int)=1) by omega]
 ·simp only[STD,q3C,e];rw[h];rfl
 ·have a1:jc [45]+jc (tI m)<=140737488355328:=by unfold jc;simp;omega
  have a3:qyH [45] (tI m)=tI (-m):=by unfold qyH;rw[qif (m:=-m) (by omega),qoD (m:=m) (by omega),Int.natAbs_neg];rfl
  simp only[STD,q3C,e,a1,a3,show ¬((1:Int)=0) by omega]
theorem qNz {m n:Int}(hm:okL m)(hn:okL n)(hs:okL (m-n)):(q8G [.s (tI m),.s (tI n)]).run=some (0,[.s (tI (m-n)),.i 0]):=by rw[qzx];have h:=qMm hm (qyt hn) (by rwa [<-Int.sub_eq_add_neg]);rw[<-Int.sub_eq_add_neg] at h;simp only[STD,qhR hm hn,qE7 hn,h]
theorem qLW {m n:Int}(hm:okL m)(hn:okL n)(hs:okL (m*n)):(q1j [.s (tI m),.s (tI n)]).run=some (0,[.s (tI (m*n)),.i 0]):=by
 rw[qz0];have h:=qBt m n;by_cases hc:(tI m).length<=9/\(tI n).length<=9
 ·rw[if_pos hc] at h;have b1:=qkK hc.1;have b2:=qkK hc.2;have b3:=qAa (A:=999999999) (B:=999999999) (a:=m) (b:=n) (by omega) (by omega) (by omega) (by omega);have w:zw .i64 m n=m*n:=zV (by omega);simp only[STD,qhR hm hn,h,w,qBV (m*n) (by omega)]
 ·rw[if_neg hc] at h;unfold okL at hm hn;obtain⟨q1,l1,r1,w1,n1,v1,z1⟩:=qre m (by omega);obtain⟨q2,l2,r2,w2,n2,v2,z2⟩:=qre n (by omega);obtain⟨k,l,t1,t2,t3,t4⟩:=qKy w1 w2 (by omega) (decide (m<0)) (decide (n<0));have hv:sv (!(Go.Eng.beq (decide (m<0)) (decide (n<0)))) l=m*n:=by
   unfold sv;rw[t4,v1,v2];have e:((m.natAbs:Int)*(n.natAbs:Int))=(((m*n).natAbs:Nat):Int):=by rw[qPt];simp
   rw[e];unfold Go.Eng.beq;rcases qPT m 0 with a|a|a
   ·rcases qPT n 0 with b|b|b
    ·have:=Int.mul_pos_of_neg_of_neg a b;simp[a,b];omega
    ·subst b;simp
    ·have:=Int.mul_neg_of_neg_of_pos a b;have b':¬n<0:=by omega
     simp[a,b'];omega
   ·subst a;simp
   ·have a':¬m<0:=by omega
    rcases qPT n 0 with b|b|b
    ·have:=Int.mul_neg_of_pos_of_neg a b;simp[a',b];omega
    ·subst b;simp
    ·have:=Int.mul_pos a b;have b':¬n<0:=by omega
     simp[a',b'];omega
  have hL:=qA3 t2 t3 (!(Go.Eng.beq (decide (m<0)) (decide (n<0)))) (by rw[hv];exact hs);rw[hv] at hL;simp only[STD,qhR hm hn,h,r1,r2,t1,hL]
theorem qEG {l:List Int}(h:WOK n l)(hn:nrm n l){k:Nat}(hl:mv l<pB k):n<=k:=by
 rcases qOj k n with h1|h1
 ·have:=h.lo hn (by omega);have:=qf6 (show k<=n-1 by omega);omega
 ·exact h1
theorem qIU {k n:Int}(h0:n≠0)(hm:okL (k*n))(hn:okL n):(q52 [.s (tI (k*n)),.s (tI n)]).run=some (0,[.s (tI k),.s (tI 0),.i 0]):=by
 rw[qsQ];have h:=qBt (k*n) n;have hz:¬tI n=[48]:=by rw[q8b];exact h0
 by_cases hc:(tI (k*n)).length<=9/\(tI n).length<=9
 ·rw[if_pos hc] at h;have b1:=qkK hc.1;have b2:=qkK hc.2;have hk:k.natAbs<=(k*n).natAbs:=by rw[qPt];have:k.natAbs*1<=k.natAbs*n.natAbs:=Nat.mul_le_mul_left _ (by omega);omega
  have w1:qs2 (k*n) n=0:=by unfold qs2;exact Int.mul_tmod_left k n
  have w2:qdo .i64 (k*n) n=k:=by rw[qPN];exact qDv h0 (by omega)
  simp only[STD,qhR hm hn,yk,hz,h,h0,w1,w2,q2m k (by omega),q2m 0 (by omega)]
 ·rw[if_neg hc] at h;have lm:=qwB hm;have ln:=qwB hn;obtain⟨q1,l1,r1,w1,n1,v1,z1⟩:=qre (k*n) (by unfold okL at hm;omega);obtain⟨q2,l2,r2,w2,n2,v2,z2⟩:=qre n (by unfold okL at hn;omega);have hq2:q2<=114:=qEG w2 n2 (by omega);have hq0:q2≠0:=fun h=>by rw[qos w2 n2] at h;omega
  obtain⟨nq,lq,nr,lr,d1,d2,d3,d4,d5,d6,d7⟩:=qjK w1 w2 n2 hq0 (by omega) (decide (k*n<0)) (decide (n<0));have e1:((k*n).natAbs:Int)=(k.natAbs:Int)*(n.natAbs:Int):=by rw[qPt];simp
  rw[v1,v2,e1] at d6;rw[v2] at d7;have b4:=d4.bd.1;have hr0:mv lr=0/\mv lq=k.natAbs:=by
   have hn0:(0:Int)<(n.natAbs:Int):=by omega
   have e2:((k.natAbs:Int)-mv lq)*(n.natAbs:Int)=mv lr:=by rw[Int.sub_mul];omega
   rcases qPT ((k.natAbs:Int)-mv lq) 0 with a|a|a
   ·have:=Int.mul_neg_of_neg_of_pos a hn0;omega
   ·rw[a,Int.zero_mul] at e2;omega
   ·have:=qPS (show 1<=(k.natAbs:Int)-mv lq by omega) (show 0<=(n.natAbs:Int) by omega);omega
  have hnr:nr=0:=by rw[qos d4 d5];exact hr0.1
  have hv:sv (!(Go.Eng.beq (decide (k*n<0)) (decide (n<0)))) lq=k:=by
   unfold sv;rw[hr0.2];unfold Go.Eng.beq;rcases qPT k 0 with a|a|a
   ·rcases qPT n 0 with b|b|b
    ·have:=Int.mul_pos_of_neg_of_neg a b;have c:¬k*n<0:=by omega
     simp[b,c];omega
    ·exact absurd b h0
    ·have c:=Int.mul_neg_of_neg_of_pos a b;have b':¬n<0:=by omega
     simp[b',c];omega
   ·subst a;simp
   ·rcases qPT n 0 with b|b|b
    ·have c:=Int.mul_neg_of_pos_of_neg a b;simp[b,c];omega
    ·exact absurd b h0
    ·have:=Int.mul_pos a b;have c:¬k*n<0:=by omega
     have b':¬n<0:=by omega
     simp[b',c];omega
  have hT:=qD1 d2 d3 (!(Go.Eng.beq (decide (k*n<0)) (decide (n<0))));rw[hv] at hT;have hT2:=qD1 d4 d5 (decide (k*n<0));have hv0:sv (decide (k*n<0)) lr=0:=by unfold sv;rw[hr0.1];split<;>rfl
  rw[hv0] at hT2;have hnr':¬(0:Int)<(nr:Int):=by omega
  simp only[STD,qhR hm hn,yk,hz,h,r1,r2,d1,hnr',hT,hT2]
theorem qJB {m n:Int}(h:m.natAbs<=n.natAbs)(hn:okL n):okL m:=qOh (qgy h) hn
theorem qNr {k n:Int}(h0:n≠0)(hm:okL (k*n))(hn:okL n):(q8j [.s (tI (k*n)),.s (tI n)]).run=some (0,[.s (tI k),.i 0]):=by rw[qyz];have hk:okL k:=qJB (by rw[qPt];have:k.natAbs*1<=k.natAbs*n.natAbs:=Nat.mul_le_mul_left _ (by omega);omega) hm;simp only[STD,qIU h0 hm hn,qhc hk]
theorem qGM (a b:Nat)(hb:b<9223372036854775808):(qf q2h [.i (a:Int),.i (b:Int)]).run=some (0,[.i ((Nat.gcd a b:Nat):Int)]):=by
 obtain⟨j,qs,h1,rfl,rfl⟩:=qbd (S:=q2h) (fun k ps=>∃x y:Nat,ps=[.i (x:Int),.i (y:Int)]/\y=k/\Nat.gcd x y=Nat.gcd a b)
  (fun j qs=>j=0/\qs=[.i ((Nat.gcd a b:Nat):Int)]) (n:=b) hb (fun k ps hk ⟨x,y,hps,hy,hg⟩=>by
  subst hps;rw[qsn];by_cases h0:y=0
  ·right;refine⟨0,[.i (x:Int)],?_,rfl,?_⟩
   ·simp only[STD,h0];simp[]
   ·rw[<-hg,h0,Nat.gcd_zero_right]
  ·left;refine⟨x%y,[.i (y:Int),.i ((x%y:Nat):Int)],by rw[<-hy];exact Nat.mod_lt _ (by omega),?_,y,x%y,rfl,rfl,?_⟩
   ·simp only[STD,show ¬((y:Int)=0) by omega,qCM]
   ·rw[<-hg,Nat.gcd_comm y,<-Nat.gcd_rec,Nat.gcd_comm]) (ps:=[.i (a:Int),.i (b:Int)]) ⟨a,b,rfl,rfl,rfl⟩
 exact h1
theorem qJR {l:List Int}(h:WOK n l)(hn:n<=1):mv l=l.getD 0 0:=by
 have:=qe0 l 1 (by rw[h.len];omega);rw[va h.dig h.z hn,qQ2,Int.add_zero] at this;have hl:=h.len;obtain⟨x,t,rfl⟩:∃x t,l=x::t:=by
  cases l with
  | nil=>simp at hl
  | cons x t=>exact⟨x,t,rfl⟩
 rw[this];simp[mv]
theorem qMC {m n:Int}(hm:okL m)(hn:okL n):(q3B [.s (tI m),.s (tI n)]).run=some (0,[.s (tN (Nat.gcd m.natAbs n.natAbs)),.i 0]):=by
 rw[qzy];have lm:=qwB hm;have ln:=qwB hn;obtain⟨q1,l1,r1,w1,n1,v1,_⟩:=qre m (by unfold okL at hm;omega);obtain⟨q2,l2,r2,w2,n2,v2,_⟩:=qre n (by unfold okL at hn;omega);have hm':(tN m.natAbs).length<=1024:=hm;have hn':(tN n.natAbs).length<=1024:=hn;obtain⟨j,qs,g1,g2⟩:=qbd (S:=q7q) (fun k ps=>∃(x y:Nat) (b1 b2:Bool) (nx ny:Nat) (lx ly:List Int),ps=[.b b1,.i (nx:Int),.r (rI lx),.b b2,.i (ny:Int),.r (rI ly)] /\
   WOK nx lx/\nrm nx lx/\WOK ny ly/\nrm ny ly/\mv lx=x/\mv ly=y/\eM x y=k/\Nat.gcd x y=Nat.gcd m.natAbs n.natAbs/\(x:Int)<pB 114/\(y:Int)<pB 114)
  (fun j qs=>(j=0/\∃(b:Bool) (n':Nat) (l:List Int),qs=[.b b,.i (n':Int),.r (rI l)]/\WOK n' l/\nrm n' l/\mv l=((Nat.gcd m.natAbs n.natAbs:Nat):Int))\/(j=1/\qs=[.s (tN (Nat.gcd m.natAbs n.natAbs)),.i 0])) (n:=eM m.natAbs n.natAbs) (qJa (by omega) (by omega))
  (fun k ps hk ⟨x,y,b1,b2,nx,ny,lx,ly,hps,hw,hnw,hw2,hn2,hx,hy,he,hg,lx1,ly1⟩=>by
  subst hps;rw[quZ];have hxl:=hw.len;have hyl:=hw2.len;by_cases h0:ny=0
  ·right;have hy0:mv ly=0:=by rw[<-qos hw2 hn2];exact h0
   have hy0':y=0:=by omega
   refine⟨0,[.b b1,.i (nx:Int),.r (rI lx)],?_,.inl ⟨rfl,b1,nx,lx,rfl,hw,hnw,?_⟩⟩
   ·simp only[STD,h0,show ¬(0:Int)<((0:Nat):Int) by omega]
   ·rw[hx,<-hg,hy0',Nat.gcd_zero_right]
  ·have a0:(0:Int)<(ny:Int):=by omega
   have hy0:y≠0:=fun h=>h0 (by rw[qos hw2 hn2];omega);by_cases hc:nx<=1/\ny<=1
   ·right;have e1:=qJR hw hc.1;have e2:=qJR hw2 hc.2;have d1:cI (rI lx) 0 0=(x:Int):=by rw[show (0:Int)=((0:Nat):Int) from rfl,q63,<-e1,hx]
    have d2:cI (rI ly) 0 0=(y:Int):=by rw[show (0:Int)=((0:Nat):Int) from rfl,q63,<-e2,hy]
    have hy9:=hw2.get 0;rw[<-e2,hy] at hy9;have hE:=qGM x y (by omega);have hgl:Nat.gcd x y<=y:=Nat.gcd_le_right _ (by omega);have hO:=q2m ((Nat.gcd x y:Nat):Int) (by omega);rw[qo0] at hO;have c1:(nx:Int)<=1:=by omega
    have c2:(ny:Int)<=1:=by omega
    refine⟨1,[.s (tN (Nat.gcd x y)),.i 0],?_,.inr ⟨rfl,by rw[hg]⟩⟩;simp only[STD,a0,c1,c2,d1,d2,hE,hO]
   ·left;have hny:ny<=114:=qEG hw2 hn2 (by omega);obtain⟨nq,lq,nr,lr,d1,d2,d3,d4,d5,d6,d7⟩:=qjK hw hw2 hn2 h0 (by omega) b1 b2;have hr:mv lr=((x%y:Nat):Int):=by
     have b4:=d4.bd.1;rw[hx,hy] at d6;rw[hy] at d7;have hy1:(0:Int)<(y:Int):=by omega
     have:=(Int.ediv_emod_unique hy1 (a:=(x:Int)) (r:=mv lr) (q:=mv lq)).2 ⟨by rw[qPN];omega,b4,d7⟩;rw[<-this.2];simp
    refine⟨eM y (x%y),[.b b2,.i (ny:Int),.r (rI ly),.b false,.i (nr:Int),.r (rI lr)],by rw[<-he];exact qLy hy0,?_,y,x%y,b2,false,ny,nr,ly,lr,rfl,hw2,hn2,d4,d5,hy,hr,rfl,?_,ly1,?_⟩
    ·by_cases c1:nx<=1
     ·have c2:¬(ny:Int)<=1:=by omega
      have c1':(nx:Int)<=1:=by omega
      simp only[STD,a0,c1',c2,d1]
     ·have c1':¬(nx:Int)<=1:=by omega
      simp only[STD,a0,c1',d1]
    ·rw[<-hg,Nat.gcd_comm y,<-Nat.gcd_rec,Nat.gcd_comm]
    ·have:=Nat.mod_lt x (show 0<y by omega);omega) (ps:=[.b (decide (m<0)),.i (q1:Int),.r (rI l1),.b (decide (n<0)),.i (q2:Int),.r (rI l2)])
  ⟨m.natAbs,n.natAbs,_,_,q1,q2,l1,l2,rfl,w1,n1,w2,n2,v1,v2,rfl,rfl,lm,ln⟩
 rcases g2 with⟨rfl,b,n',l,rfl,a1,a2,a3⟩|⟨rfl,rfl⟩
 ·have hT:=qD1 a1 a2 false;have hv:sv false l=((Nat.gcd m.natAbs n.natAbs:Nat):Int):=by unfold sv;rw[a3];rfl
  rw[hv,qo0] at hT;simp only[STD,qhR hm hn,r1,r2,g1,zf g1,hT]
 ·simp only[STD,qhR hm hn,r1,r2,g1,zf g1,show ¬(1=0) by omega]
end Go.Eng

namespace Go.Eng
variable {q:Rat}
theorem qG8:okL 1:=by show nl 1<=1024;decide
theorem qIP:okL 0:=by show nl 0<=1024;decide
theorem qM0 (s:qOb)(hl:s.length<=1000000000):(q7z [.s s,.s [47]]).run=some (0,if sP s<s.length then [.s (s.take (sP s)),.s (s.drop (sP s+1)),.b true] else [.s s,.s [],.b false]):=by
 rw[qv2];have h:(wt [.s s,.s [47]]).run=some (0,if sP s<s.length then [.s (s.take (sP s)),.s (s.drop (sP s+1)),.b true] else [.s s,.s [],.b false]):=by
  rw[qcL];have hI:=qLA s;by_cases hc:sP s<s.length
  ·rw[if_pos hc] at hI ⊢;have w:qu .i64 (sP s:Int) (jc [47])=((sP s+1:Nat):Int):=by show qu .i64 (sP s:Int) 1=_;rw[zt (by omega)];omega
   have a1:(0:Int)<=(sP s:Int)/\(sP s:Int)<=jc s:=by unfold jc;omega
   have a2:(0:Int)<=0/\(0:Int)<=(sP s:Int):=by omega
   have a3:(0:Int)<=jc s/\jc s<=jc s:=by unfold jc;omega
   have a4:(0:Int)<=((sP s+1:Nat):Int)/\((sP s+1:Nat):Int)<=jc s:=by unfold jc;omega
   have e1:qpx s 0 (sP s:Int)=s.take (sP s):=by unfold qpx;simp
   have e2:qpx s ((sP s+1:Nat):Int) (jc s)=s.drop (sP s+1):=by unfold qpx jc;simp only[qOw];rw[qPB]
   simp only[STD,hI,a1.1,a1.2,a2,a3,a4,and_self,w,e1,e2]
  ·rw[if_neg hc] at hI ⊢;have a:¬(0:Int)<=-1:=by omega
   simp only[STD,hI,a]
 by_cases hc:sP s<s.length
 ·rw[if_pos hc] at h ⊢;simp only[STD,h]
 ·rw[if_neg hc] at h ⊢;simp only[STD,h]
theorem qMf (s:qOb)(hl:s.length<=1000000000):(qW [.s s]).run=some (0,[.s (spn s),.s (spd s),.b (decide (sP s<s.length))]):=by
 rw[qA6];have h:=qM0 s hl;unfold spn spd;by_cases hc:sP s<s.length
 ·rw[if_pos hc] at h ⊢;rw[decide_eq_true hc];simp only[STD,h]
 ·rw[if_neg hc] at h ⊢;have:sP s=s.length:=by have:=qMD s;omega
  rw[decide_eq_false hc,this,qPB];simp only[STD,h]
theorem qMW (q:Rat):(sP (tQ q)<(tQ q).length)=(q.den≠1):=by
 by_cases h:q.den=1
 ·rw[qk5 h,qBg (quQ _)];simp[h]
 ·rw[qfy h,qFT (quQ _)];simp[h]
def okQ(q:Rat):Prop:=qn q<=1024/\qd q<=1024
theorem q8C (h:okQ q):okL q.num:=h.1
theorem q5J (h:okQ q):okL (q.den:Int):=h.2
theorem qGm (h:okQ q):(tQ q).length<=3000:=by have:=qMb q;have:=h.1;have:=h.2;omega
theorem qiT (h:okQ q):(qW [.s (tQ q)]).run=some (0,[.s (tI q.num),.s (tI (q.den:Int)),.b (decide (q.den≠1))]):=by have:=qGm h;rw[qMf _ (by omega),qJV,qJT,qo0];simp only[qMW]
open Classical in
noncomputable def vI(s:qOb):Int:=if h:∃m:Int,s=tI m then h.choose else 0
theorem qKl (m:Int):vI (tI m)=m:=by unfold vI;have h:∃k:Int,tI m=tI k:=⟨m,rfl⟩;rw[dif_pos h];exact(qCV h.choose_spec).symm
theorem qGb {s:qOb}(h:qCr s=0):∃m:Int,s=tI m/\okL m:=by
 unfold qCr at h;split at h
 ·rename_i hm;obtain⟨m,rfl⟩:=hm;rw[qz1] at h;split at h
  ·rename_i hl;exact⟨m,rfl,hl⟩
  ·omega
 ·omega
theorem qA8 (s:qOb):qCr s=0\/qCr s=3\/qCr s=11:=by
 unfold qCr;split
 ·split<;>simp
 ·simp
noncomputable def qNm(s:qOb):Int:=
 if qCr (spn s)=3 then 3 else if qCr (spd s)=3 then 3 else if qCr (spn s)≠0 then 11 else if qCr (spd s)≠0 then 11
 else if sP s<s.length then (if sgn (vI (spd s)-1)<=0 then 3 else if Nat.gcd (vI (spn s)).natAbs (vI (spd s)).natAbs=1 then 0 else 3) else 0
theorem qML (s:qOb):(spn s).length<=s.length:=by unfold spn;rw[qPi];omega
theorem qLX (s:qOb):(spd s).length<=s.length+1:=by unfold spd;split<;>simp<;>omega
theorem qwX (s:qOb)(hl:s.length<=100000000):(qQ [.s s]).run=some (0,[.i (qNm s)]):=by
 rw[qvq];have hn:=qML s;have hd:=qLX s;have h1:=qgO (spn s) (by omega);have h2:=qgO (spd s) (by omega);have hc:=qMf s (by omega);have mx:qiL 11 0=11/\qiL 11 11=11/\qiL 0 11=11:=by decide
 unfold qNm;rcases qA8 (spn s) with a|a|a<;>rcases qA8 (spd s) with b|b|b<;>rw[a] at h1 ⊢<;>rw[b] at h2 ⊢
 ·obtain⟨m,em,om⟩:=qGb a;obtain⟨n,en,on⟩:=qGb b;rw[em] at h1 hc ⊢;rw[en] at h2 hc ⊢;have hC:=qj8 on (n:=1) qG8;rw[qMO] at hC;have hG:=qMC om on;rw[qKl,qKl];by_cases hs:sP s<s.length
  ·by_cases ho:sgn (n-1)<=0
   ·simp only[STD,hc,h1,h2,hs,hC,hG,ho,show ¬((0:Int)=3) by omega,show ¬((0:Int)≠0) by omega]
   ·by_cases hg:Nat.gcd m.natAbs n.natAbs=1
    ·simp only[STD,hc,h1,h2,hs,hC,hG,ho,hg,yk,ql0,show ¬((0:Int)=3) by omega,show ¬((0:Int)≠0) by omega]
    ·simp only[STD,hc,h1,h2,hs,hC,hG,ho,hg,yk,ql0,show ¬((0:Int)=3) by omega,show ¬((0:Int)≠0) by omega]
  ·simp only[STD,hc,h1,h2,hs,show ¬((0:Int)=3) by omega,show ¬((0:Int)≠0) by omega]
 all_goals simp only[STD,hc,h1,h2,mx,show ¬((0:Int)=3) by omega,show ¬((11:Int)=3) by omega,show ¬((11:Int)=0) by omega,show ¬((3:Int)=0) by omega]
theorem qLE (h:okQ q):qNm (tQ q)=0:=by
 unfold qNm;have e1:spd (tQ q)=tI (q.den:Int):=by rw[qJT,qo0]
 rw[qJV,e1,qBF (q8C h),qBF (q5J h)];simp only[qKl,qMW];by_cases hd:q.den=1
 ·simp[hd]
 ·have:=q.den_nz;have hs:¬sgn ((q.den:Int)-1)<=0:=by unfold sgn;rw[if_neg (by omega),if_neg (by omega)];omega
  have hr:Nat.gcd q.num.natAbs q.den=1:=q.reduced;simp[hd,hs,hr]
theorem quA {l:List (List UInt8)}(hn:l.length<1000000)(h:∀s,s∈l->(qQ [.s s]).run=some (0,[.i 0])):(qA [.r (rS l)]).run=some (0,[.i 0]):=by
 rw[qtB,qvV];have key:=qp (S:=q20) (fun i=>[.r (rS l),.i (l.length:Int),.i (i:Int)]) (0,[]) l.length (by omega) (fun i hi=>by
  rw[qfV,qHJ hi];have a1:(i:Int)<(l.length:Int):=by omega
  have a2:(i:Int)<qg (rS l):=by rw[qvV];exact a1
  simp only[STD,a1,a2,q9A,and_self,h _ (qOZ hi),jd hi (show l.length<9223372036854775808 by omega)]) (by
  rw[qfV];have a1:¬(l.length:Int)<(l.length:Int):=by omega
  simp only[STD,a1])
 simp only[show (((0:Nat)):Int)=0 from rfl] at key;simp only[STD,key,zf key]
theorem q6T (h:okQ q):(qQ [.s (tQ q)]).run=some (0,[.i 0]):=by have:=qGm h;rw[qwX _ (by omega),qLE h]
theorem qkr {a b:Rat}(ha:okQ a)(hb:okQ b):(qA [.r [[.s (tQ a)],[.s (tQ b)]]]).run=some (0,[.i 0]):=by
 exact quA (l:=[tQ a,tQ b]) (by simp) (fun s hs=>by
  simp only[qOp,List.not_mem_nil,or_false] at hs;rcases hs with rfl|rfl
  ·exact q6T ha
  ·exact q6T hb)
theorem qKi {m n:Int}(hm:okL m)(hn:okL n)(h:okL (m+n)):(q1X [.s (tI m),.s (tI n),.i 0]).run=some (0,[.s (tI (m+n)),.i 0]):=by
 rw[qqC];have:(wV [.s (tI m),.s (tI n),.i 0]).run=some (0,[.s (tI (m+n)),.i 0]):=by rw[qdn];simp only[STD,qMm hm hn h]
 simp only[STD,this]
theorem qHd {m n:Int}(hm:okL m)(hn:okL n)(h:okL (m-n)):(jh [.s (tI m),.s (tI n),.i 0]).run=some (0,[.s (tI (m-n)),.i 0]):=by
 rw[qpz];have:(wS [.s (tI m),.s (tI n),.i 0]).run=some (0,[.s (tI (m-n)),.i 0]):=by rw[qdl];simp only[STD,qNz hm hn h]
 simp only[STD,this]
theorem qLh {m n:Int}(hm:okL m)(hn:okL n)(h:okL (m*n)):(zF [.s (tI m),.s (tI n),.i 0]).run=some (0,[.s (tI (m*n)),.i 0]):=by rw[qdr];simp only[STD,qLW hm hn h]
theorem qKZ {m n:Int}(hm:okL m)(hn:okL n):(wU [.s (tI m),.s (tI n),.i 0]).run=some (0,[.s (tN (Nat.gcd m.natAbs n.natAbs)),.i 0]):=by rw[qds];simp only[STD,qMC hm hn]
theorem qy1 {k n:Int}(h0:n≠0)(hm:okL (k*n))(hn:okL n):(qS [.s (tI (k*n)),.s (tI n),.i 0]).run=some (0,[.s (tI k),.i 0]):=by rw[qdp];simp only[STD,qNr h0 hm hn]
def prd:Int->List Int->Int
 | a,[]=>a
 | a,m::l=>prd (a*m) l
def qLc:Int->List Int->Prop
 | a,[]=>okL a
 | a,m::l=>okL a/\okL m/\qLc (a*m) l
theorem qEZ:∀(l:List Int) (pre:List Int) (a:Int),qLc a l->pre.length+l.length<1000->∀f,l.length<f ->
  (qms ye f [.s (tI a),.r (rS ((pre++l).map tI)),.i ((pre++l).length:Int),.i (pre.length:Int),.i 0]).run=some (0,[.s (tI (prd a l)),.i 0])
 | [],pre,a,h,hl,f,hf=>by
  obtain⟨f,rfl⟩:∃g,f=g+1:=⟨f-1,by simp at hf;omega⟩;refine qjt ?_;rw[qdh,qPf];have a1:¬(pre.length:Int)<(pre.length:Int):=by omega
  simp only[STD,a1];rfl
 | m::l,pre,a,h,hl,f,hf=>by
  obtain⟨f,rfl⟩:∃g,f=g+1:=⟨f-1,by simp at hf;omega⟩;obtain⟨h1,h2,h3⟩:=h;have hlt:pre.length<(pre++m::l).length:=by simp
  have ih:=qEZ l (pre++[m]) (a*m) h3 (by simp at hl ⊢;omega) f (by simp at hf;omega);rw[qOL,List.singleton_append] at ih;have hok:okL (a*m):=by
   cases l with
   | nil=>exact h3
   | cons x l=>exact h3.1
  rw[qnN (qs:=[.s (tI (a*m)),.r (rS ((pre++m::l).map tI)),.i ((pre++m::l).length:Int),.i ((pre++[m]).length:Int),.i 0])]
  ·exact ih
  ·rw[qdh];have hlt2:pre.length<((pre++m::l).map tI).length:=by simp
   rw[qHJ hlt2];have e:((pre++m::l).map tI)[pre.length]=tI m:=by simp
   rw[e];have a1:(pre.length:Int)<((pre++m::l).length:Int):=by omega
   have a2:(pre.length:Int)<qg (rS ((pre++m::l).map tI)):=by rw[qvV];omega
   have w:qu .i64 (pre.length:Int) 1=((pre++[m]).length:Int):=by rw[zt (by omega)];simp
   simp only[STD,a1,a2,q9A,and_self,qLh h1 h2 hok,w]
theorem qMd (l:List Int)(h:qLc 1 l)(hl:l.length<1000):(qo [.r (rS (l.map tI)),.i 0]).run=some (0,[.s (tI (prd 1 l)),.i 0]):=by
 rw[qpT,qvV];have h1:=qEZ l [] 1 h (by simp;omega) qls (by unfold qls;omega);simp only[qPY,qPb] at h1;have e:(qf ye [.s [49],.r (rS (l.map tI)),.i ((l.map tI).length:Int),.i 0,.i 0]).run=some (0,[.s (tI (prd 1 l)),.i 0]):=by rw[qOm];exact h1
 simp only[STD,e]
theorem qhI {m n:Int}(hm:okL m)(hn:okL n)(h:okL (m*n)):(qo [.r [[.s (tI m)],[.s (tI n)]],.i 0]).run=some (0,[.s (tI (m*n)),.i 0]):=by have:=qMd [m,n] ⟨qG8,hm,by rw[qQ1];exact hm,hn,by rw[qQ1];exact h⟩ (by simp);simp only[prd,qQ1] at this;exact this
theorem qyX (h:okQ q):(q2k [.s (tI q.num),.s (tI (q.den:Int))]).run=some (0,[.s (tQ q)]):=by
 rw[qsE,qo0];have l1:=qBD (q8C h);have l2:(tN q.den).length<=1024:=h.2;have a1:jc (tI q.num)+jc [47]<=140737488355328:=by unfold jc;simp;omega
 have a2:jc (qyH (tI q.num) [47])+jc (tN q.den)<=140737488355328:=by unfold jc qyH;simp;omega
 by_cases h1:q.den=1
 ·simp only[STD,yk,ql0,h1,qk5 h1]
 ·simp only[STD,yk,ql0,h1,qfy h1,a1,a2];simp[qyH]
theorem qJl (s:qOb):(uw [.s s,.s [45]]).run=some (0,[.b (decide (s.getD 0 0=45))]):=by rw[qlg];simp only[STD,qGx]
theorem qMK (n:Int):((tI n).getD 0 0=45)=(n<0):=by
 by_cases h:n<0
 ·rw[qif h];simp[h]
 ·rw[qoD h];obtain⟨c,t,e,h1,h2⟩:=ql2 (yR n.natAbs) (qrT _);rw[e];simp only[List.getD_cons_zero,h,eq_iff_iff,iff_false];intro hc;subst hc;revert h1;decide
theorem qpe {m n:Int}(hn0:n≠0)(hm:okL m)(hn:okL n):(qB [.s (tI m),.s (tI n),.i 0]).run=some (0,[.s (tQ (Rat.divInt m n)),.i 0])/\okQ (Rat.divInt m n):=by
 have hG:=qKZ hm hn;have hg0:0<Nat.gcd m.natAbs n.natAbs:=Nat.gcd_pos_of_pos_right _ (by omega);have hgn:Nat.gcd m.natAbs n.natAbs<=n.natAbs:=Nat.gcd_le_right _ (by omega);have hnum:=Rat.num_divInt m n;have hden:=Rat.den_divInt m n;rw[if_neg hn0] at hden;have hgc:Int.gcd n m=Nat.gcd m.natAbs n.natAbs:=by unfold Int.gcd;exact Nat.gcd_comm _ _
 rw[hgc] at hnum hden;obtain⟨k,hk⟩:((Nat.gcd m.natAbs n.natAbs:Nat):Int) ∣ m:=Int.ofNat_dvd_left.2 (Nat.gcd_dvd_left _ _);obtain⟨l,hl⟩:((Nat.gcd m.natAbs n.natAbs:Nat):Int) ∣ n:=Int.ofNat_dvd_left.2 (Nat.gcd_dvd_right _ _);generalize Nat.gcd m.natAbs n.natAbs=g at *;generalize Rat.divInt m n=q at *;have hgok:okL (g:Int):=qJB (by simpa using hgn) hn;have hm2:k*(g:Int)=m:=by rw[qPN];exact hk.symm
 have hn2:l*(g:Int)=n:=by rw[qPN];exact hl.symm
 have hgz:(g:Int)≠0:=by omega
 have hok:okQ q:=by
  constructor
  ·refine qOh (qsM ?_) hm;rw[hnum];refine qOh (Int.natAbs_ediv_le_natAbs _ _) ?_;rw[qPt,Int.natAbs_sign_of_ne_zero hn0];omega
  ·refine qOh (qgy ?_) hn;rw[hden];exact Nat.div_le_self _ _
 refine⟨?_,hok⟩;rw[qlj];have hP:=qJl (tI n);simp only[qMK] at hP;by_cases hneg:n<0
 ·have e1:-k=q.num:=by rw[hnum,Int.sign_eq_neg_one_of_neg hneg,<-hm2];rw[show (-1:Int)*(k*(g:Int))=(-k)*(g:Int) by rw[Int.neg_mul,qQ1,Int.neg_mul]];exact(Int.mul_ediv_cancel _ hgz).symm
  have e2:-l=(q.den:Int):=by
   rw[hden];have h3:(n.natAbs:Int)=(-l)*(g:Int):=by rw[Int.neg_mul];omega
   rw[Int.natCast_ediv,h3,Int.mul_ediv_cancel _ hgz]
  have hS:=qHd (m:=0) (n:=(g:Int)) qIP hgok (by rw[Int.zero_sub];exact qyt hgok);rw[Int.zero_sub,qo0] at hS;have Q1:=qy1 (k:=-k) (n:=-(g:Int)) (by omega) (by rw[qPn,hm2];exact hm) (qyt hgok);have Q2:=qy1 (k:=-l) (n:=-(g:Int)) (by omega) (by rw[qPn,hn2];exact hn) (qyt hgok);rw[qPn,hm2,e1] at Q1;rw[qPn,hn2,e2] at Q2;have hS':(jh [.s [48],.s (tN g),.i 0]).run=some (0,[.s (tI (-(g:Int))),.i 0]):=hS;simp only[STD,hG,hP,hneg,hS',Q1,Q2,qyX hok]
 ·have e1:k=q.num:=by rw[hnum,Int.sign_eq_one_of_pos (by omega),qQ1,<-hm2];exact(Int.mul_ediv_cancel _ hgz).symm
  have e2:l=(q.den:Int):=by
   rw[hden];have h3:(n.natAbs:Int)=l*(g:Int):=by omega
   rw[Int.natCast_ediv,h3,Int.mul_ediv_cancel _ hgz]
  have Q1:=qy1 (k:=k) (n:=(g:Int)) hgz (by rw[hm2];exact hm) hgok;have Q2:=qy1 (k:=l) (n:=(g:Int)) hgz (by rw[hn2];exact hn) hgok;rw[hm2,e1,qo0] at Q1;rw[hn2,e2,qo0] at Q2;simp only[STD,hG,hP,hneg,Q1,Q2,qyX hok]
end Go.Eng

namespace Go.Eng
variable {q:Rat}
theorem qDJ (a b:Rat):Rat.divInt (a.num*b.den+b.num*a.den) ((a.den:Int)*(b.den:Int))=a+b:=by rw[Rat.add_def',<-Rat.divInt_ofNat];simp
theorem qDk (a b:Rat):Rat.divInt (a.num*b.den-b.num*a.den) ((a.den:Int)*(b.den:Int))=a-b:=by rw[Rat.sub_def',<-Rat.divInt_ofNat];simp
theorem qDU (a b:Rat):Rat.divInt (a.num*b.num) ((a.den:Int)*(b.den:Int))=a*b:=by rw[Rat.mul_def',<-Rat.divInt_ofNat];simp
theorem qDn (a b:Rat):Rat.divInt (a.num*b.den) ((a.den:Int)*b.num)=a/b:=by rw[Rat.div_def,Rat.inv_def,<-Rat.divInt_mul_divInt,Rat.num_divInt_den]
theorem qqs (a b:Rat):(a.den:Int)*(b.den:Int)≠0:=by have:=Int.mul_pos (qNT a) (qNT b);omega
theorem qNl {m:Int}(h:m≠0):¬tI m=[48]:=by rw[q8b];exact h
def bnd(N D:Nat)(q:Rat):Prop:=qn q<=N/\qd q<=D
theorem bnd.ok {N D:Nat}(h:bnd N D q)(hN:N<=1024)(hD:D<=1024):okQ q:=⟨qOh h.1 hN,qOh h.2 hD⟩
theorem bnd.sm {N D K:Nat}(h:bnd N D q)(hN:N<=K)(hD:D<=K):sm K q:=⟨qOh h.1 hN,qOh h.2 hD⟩
theorem bnd.mono {N D N' D':Nat}(h:bnd N D q)(hN:N<=N')(hD:D<=D'):bnd N' D' q:=⟨qOh h.1 hN,qOh h.2 hD⟩
theorem bnd.mul {N D N' D':Nat}{a b:Rat}(ha:bnd N D a)(hb:bnd N' D' b):bnd (N+N') (D+D') (a*b):=⟨qOh (qJU a b) (Nat.add_le_add ha.1 hb.1),qOh (qJJ a b) (Nat.add_le_add ha.2 hb.2)⟩
theorem bnd.add {N D N' D' K:Nat}{a b:Rat}(ha:bnd N D a)(hb:bnd N' D' b)(h1:N+D'+1<=K)(h2:N'+D+1<=K):bnd K (D+D') (a+b):=⟨by have:=qMz a b;have:=ha.1;have:=ha.2;have:=hb.1;have:=hb.2;omega,by have:=qMi a b;have:=ha.2;have:=hb.2;omega⟩
theorem bnd.sub {N D N' D' K:Nat}{a b:Rat}(ha:bnd N D a)(hb:bnd N' D' b)(h1:N+D'+1<=K)(h2:N'+D+1<=K):bnd K (D+D') (a-b):=⟨by have:=qMh a b;have:=ha.1;have:=ha.2;have:=hb.1;have:=hb.2;omega,by have:=qN8 a b;have:=ha.2;have:=hb.2;omega⟩
theorem bnd.div {N D N' D':Nat}{a b:Rat}(h0:b≠0)(ha:bnd N D a)(hb:bnd N' D' b):bnd (N+D') (D+N') (a/b):=⟨by have:=qMr a h0;have:=ha.1;have:=hb.2;omega,by have:=qMG a h0;have:=ha.2;have:=hb.1;omega⟩
theorem bnd.neg {N D:Nat}{a:Rat}(h:bnd N D a):bnd N D (-a):=⟨by rw[qMc];exact h.1,h.2⟩
theorem qhE:bnd 1 1 0:=⟨by decide,by decide⟩
theorem qAU:bnd 1 1 1:=⟨by decide,by decide⟩
theorem qaH {m n:Int}{N M:Nat}(hm:nl m<=N)(hn:nl n<=M)(h:N+M<=1024):okL (m*n):=by have:=q9D m n;unfold okL;omega
theorem qdf {N D N' D':Nat}{a b:Rat}(ha:bnd N D a)(hb:bnd N' D' b)(h1:N+N'<=1024)(h2:D+D'<=1024):(wv [.s (tQ a),.s (tQ b)]).run=some (0,[.s (tQ (a*b)),.i 0]):=by
 have oa:=ha.ok (by omega) (by omega);have ob:=hb.ok (by omega) (by omega);have k1:okL (a.num*b.num):=qaH ha.1 hb.1 h1;have k2:okL ((a.den:Int)*(b.den:Int)):=qaH ha.2 hb.2 h2;have m1:=qhI (q8C oa) (q8C ob) k1;have m2:=qhI (q5J oa) (q5J ob) k2;have hL:=(qpe (qqs a b) k1 k2).1;rw[qDU] at hL;rw[qA4];have key:(vw [.s (tQ a),.s (tQ b)]).run=some (0,[.s (tQ (a*b)),.i 0]):=by
  rw[qf5];have h1:(q47 [.s (tI a.num),.s (tI (a.den:Int)),.s (tI b.num),.s (tI (b.den:Int)),.i 0]).run=some (0,[.s (tI (a.num*b.num)),.s (tI ((a.den:Int)*(b.den:Int))),.i 0]):=by rw[qv9];simp only[STD,m1,m2]
  simp only[STD,qkr oa ob,qiT oa,qiT ob,h1,yk,qNl (qqs a b),hL]
 simp only[STD,key]
theorem qhm {N D N' D':Nat}{a b:Rat}(ha:bnd N D a)(hb:bnd N' D' b)(h1:N+D'<=1023)(h2:N'+D<=1023)(h3:D+D'<=1024):(jn [.s (tQ a),.s (tQ b)]).run=some (0,[.s (tQ (a+b)),.i 0]):=by
 have p1:=qwm a;have p2:=qwm b;have p3:=qwv a;have p4:=qwv b;have oa:okQ a:=⟨by have:=ha.1;have:=hb.2;omega,by have:=ha.2;have:=hb.2;omega⟩;have ob:okQ b:=⟨by have:=hb.1;have:=ha.2;omega,by have:=ha.2;have:=hb.2;omega⟩;have k1:okL (a.num*(b.den:Int)):=qaH ha.1 hb.2 (by omega);have k2:okL (b.num*(a.den:Int)):=qaH hb.1 ha.2 (by omega);have k3:okL ((a.den:Int)*(b.den:Int)):=qaH ha.2 hb.2 h3;have k4:okL (a.num*(b.den:Int)+b.num*(a.den:Int)):=by have q1:=qGZ (a.num*(b.den:Int)) (b.num*(a.den:Int));have q2:=q9D a.num (b.den:Int);have q3:=q9D b.num (a.den:Int);have q4:nl a.num<=N:=ha.1;have q5:nl (b.den:Int)<=D':=hb.2;have q6:nl b.num<=N':=hb.1;have q7:nl (a.den:Int)<=D:=ha.2;unfold okL;omega
 have m1:=qhI (q8C oa) (q5J ob) k1;have m2:=qhI (q8C ob) (q5J oa) k2;have m3:=qhI (q5J oa) (q5J ob) k3;have hL:=(qpe (qqs a b) k4 k3).1;rw[qDJ] at hL;rw[qze];have key:(ve [.s (tQ a),.s (tQ b)]).run=some (0,[.s (tQ (a+b)),.i 0]):=by
  rw[qey];have h1:(q3G [.s (tI a.num),.s (tI (a.den:Int)),.s (tI b.num),.s (tI (b.den:Int)),.i 0]).run=some (0,[.s (tI (a.num*b.den+b.num*a.den)),.s (tI ((a.den:Int)*(b.den:Int))),.i 0]):=by rw[qvF];simp only[STD,m1,m2,m3,qKi k1 k2 k4]
  simp only[STD,qkr oa ob,qiT oa,qiT ob,h1,yk,qNl (qqs a b),hL]
 simp only[STD,key]
theorem q8g {N D N' D':Nat}{a b:Rat}(ha:bnd N D a)(hb:bnd N' D' b)(h1:N+D'<=1023)(h2:N'+D<=1023)(h3:D+D'<=1024):(zJ [.s (tQ a),.s (tQ b)]).run=some (0,[.s (tQ (a-b)),.i 0]):=by
 have p1:=qwm a;have p2:=qwm b;have p3:=qwv a;have p4:=qwv b;have oa:okQ a:=⟨by have:=ha.1;have:=hb.2;omega,by have:=ha.2;have:=hb.2;omega⟩;have ob:okQ b:=⟨by have:=hb.1;have:=ha.2;omega,by have:=ha.2;have:=hb.2;omega⟩;have k1:okL (a.num*(b.den:Int)):=qaH ha.1 hb.2 (by omega);have k2:okL (b.num*(a.den:Int)):=qaH hb.1 ha.2 (by omega);have k3:okL ((a.den:Int)*(b.den:Int)):=qaH ha.2 hb.2 h3;have k4:okL (a.num*(b.den:Int)-b.num*(a.den:Int)):=by have q1:=qHz (a.num*(b.den:Int)) (b.num*(a.den:Int));have q2:=q9D a.num (b.den:Int);have q3:=q9D b.num (a.den:Int);have q4:nl a.num<=N:=ha.1;have q5:nl (b.den:Int)<=D':=hb.2;have q6:nl b.num<=N':=hb.1;have q7:nl (a.den:Int)<=D:=ha.2;unfold okL;omega
 have m1:=qhI (q8C oa) (q5J ob) k1;have m2:=qhI (q8C ob) (q5J oa) k2;have m3:=qhI (q5J oa) (q5J ob) k3;have hL:=(qpe (qqs a b) k4 k3).1;rw[qDk] at hL;rw[qzK];have key:(vj [.s (tQ a),.s (tQ b)]).run=some (0,[.s (tQ (a-b)),.i 0]):=by
  rw[qeL];have h1:(q3M [.s (tI a.num),.s (tI (a.den:Int)),.s (tI b.num),.s (tI (b.den:Int)),.i 0]).run=some (0,[.s (tI (a.num*b.den-b.num*a.den)),.s (tI ((a.den:Int)*(b.den:Int))),.i 0]):=by rw[qvl];simp only[STD,m1,m2,m3,qHd k1 k2 k4]
  simp only[STD,qkr oa ob,qiT oa,qiT ob,h1,yk,qNl (qqs a b),hL]
 simp only[STD,key]
theorem qn3 (q:Rat):(tQ q=[48])=(q=0):=by have:([48]:qOb)=tQ 0:=rfl;rw[this,qDc]
theorem qAN {N D N' D':Nat}{a b:Rat}(hb0:b≠0)(ha:bnd N D a)(hb:bnd N' D' b)(h1:N+D'<=1024)(h2:D+N'<=1024):(q5P [.s (tQ a),.s (tQ b)]).run=some (0,[.s (tQ (a/b)),.i 0]):=by
 have oa:okQ a:=⟨by have:=ha.1;omega,by have:=ha.2;omega⟩;have ob:okQ b:=⟨by have:=hb.1;omega,by have:=hb.2;omega⟩;have k1:okL (a.num*(b.den:Int)):=qaH ha.1 hb.2 h1;have k2:okL ((a.den:Int)*b.num):=qaH ha.2 hb.1 h2;have hbn:b.num≠0:=fun h=>hb0 (Rat.num_eq_zero.1 h);have hz:(a.den:Int)*b.num≠0:=by have:=qNT a;exact Int.mul_ne_zero (by omega) hbn
 have m1:=qhI (q8C oa) (q5J ob) k1;have m2:=qhI (q5J oa) (q8C ob) k2;have hL:=(qpe hz k1 k2).1;rw[qDn] at hL;rw[qzU];have key:(vl [.s (tQ a),.s (tQ b)]).run=some (0,[.s (tQ (a/b)),.i 0]):=by
  rw[qfs];have h1:(q41 [.s (tI a.num),.s (tI (a.den:Int)),.s (tI b.num),.s (tI (b.den:Int)),.i 0]).run=some (0,[.s (tI (a.num*b.den)),.s (tI ((a.den:Int)*b.num)),.i 0]):=by rw[qv4];simp only[STD,m1,m2]
  simp only[STD,qkr oa ob,qiT oa,qiT ob,h1,yk,qNl hz,hL]
 simp only[STD,qkr oa ob,yk,qn3,hb0,key]
def rX(a b c:Rat):Int:=a.num*b.den*c.den
def rY(a b:Rat):Int:=b.num*a.den
def rR(c:Rat):Int:=c.num*c.den
structure RootOk (a b c:Rat):Prop where
 oa:okQ a
 ob:okQ b
 oc:okQ c
 x1:okL (a.num*b.den)
 x:okL (rX a b c)
 y:okL (rY a b)
 r:okL (rR c)
 xx:okL (rX a b c*rX a b c)
 yy:okL (rY a b*rY a b)
 yr:okL (rY a b*rY a b*rR c)
 d:okL (rX a b c*rX a b c-rY a b*rY a b*rR c)
theorem RootOk.of {N D N' D' R E:Nat}{a b c:Rat}(ha:bnd N D a)(hb:bnd N' D' b)(hc:bnd R E c)(h1:2*(N+D'+E)<=1023)(h2:2*(N'+D)+R+E<=1023):RootOk a b c:=by have q1:nl a.num<=N:=ha.1;have q2:nl (a.den:Int)<=D:=ha.2;have q3:nl b.num<=N':=hb.1;have q4:nl (b.den:Int)<=D':=hb.2;have q5:nl c.num<=R:=hc.1;have q6:nl (c.den:Int)<=E:=hc.2;have x1:=q9D a.num b.den;have x2:=q9D (a.num*b.den) c.den;have y1:=q9D b.num a.den;have r1:=q9D c.num c.den;have xx:=q9D (rX a b c) (rX a b c);have yy:=q9D (rY a b) (rY a b);have yr:=q9D (rY a b*rY a b) (rR c);have dd:=qHz (rX a b c*rX a b c) (rY a b*rY a b*rR c);have e1:nl (rX a b c)=nl (a.num*b.den*c.den):=rfl;have e2:nl (rY a b)=nl (b.num*a.den):=rfl;have e3:nl (rR c)=nl (c.num*c.den):=rfl;have p1:=qtj a.num;have p2:=qtj b.num;have p3:=qtj c.num;have p4:=qtj (a.den:Int);have p5:=qtj (b.den:Int);have p6:=qtj (c.den:Int);exact { oa:=⟨by show nl a.num<=1024;omega,by show nl (a.den:Int)<=1024;omega⟩,ob:=⟨by show nl b.num<=1024;omega,by show nl (b.den:Int)<=1024;omega⟩,oc:=⟨by show nl c.num<=1024;omega,by show nl (c.den:Int)<=1024;omega⟩,x1:=by unfold okL;omega,x:=by unfold okL;omega,y:=by unfold okL;omega,r:=by unfold okL;omega,xx:=by unfold okL;omega,yy:=by unfold okL;omega,yr:=by unfold okL;omega,d:=by unfold okL;omega }
end Go.Eng

namespace Go.Eng
variable {m:Int}
theorem zj (hm:-999999999999999<=m/\m<=999999999999999):(qw [.i m]).run=some (0,[.s (tQ (m:Rat))]):=by rw[qvQ,qKx];simp only[STD,q2m m (by omega)]
def co(x:Int):Prop:=-100000<=x/\x<=100000
theorem qkD {x:Int}(h:co x):-999999999999999<=x/\x<=999999999999999:=by unfold co at h;omega
def qKG(l:R)(i:Nat):Prop:=co (cI l i 0)/\co (cI l i 1)/\co (cI l i 2)
def q3h(l:R):Prop:=l.length<=64/\∀i,i<l.length->qKG l i
theorem qtd {k:Nat}(h:nl m<=k)(_:0<k):bnd k 1 (m:Rat):=by
 refine⟨?_,?_⟩
 ·unfold qn;rw[Rat.num_intCast];exact h
 ·unfold qd;rw[Rat.den_intCast];decide
theorem qLJ {k:Nat}(h:m.natAbs<10^k)(hk:0<k):nl m<=k:=by obtain⟨j,rfl⟩:∃j,k=j+1:=⟨k-1,by omega⟩;exact q9e j _ h
theorem qtQ {x:Int}(h:co x):bnd 6 1 (x:Rat):=qtd (qLJ (by unfold co at h;omega) (by omega)) (by omega)
end Go.Eng

namespace Go.Eng
structure RelM (Z:Mx) (N C:Nat) (M:Nat->Nat->Rat):Prop where
 dim:Dim Z N C
 ok:∀i j,i<N->j<C->q90 Z i j=tQ (M i j)
theorem RelM.congr{Z:Mx}{N C:Nat}{M M':Nat->Nat->Rat}(h:RelM Z N C M)(e:∀i j,i<N->j<C->M i j=M' i j):RelM Z N C M':=⟨h.dim,fun i j hi hj=>by rw[h.ok i j hi hj,e i j hi hj]⟩
theorem qFw{Z:Mx}{N C i c:Nat}(h:Dim Z N C)(hi:i<N)(hc:c<C)(v:Bs)(a b:Nat):q90 (qDz Z i c v) a b=if a=i/\b=c then v else q90 Z a b:=by
 unfold q90 qDz;by_cases ha:a=i
 ·subst ha;have hl:(Z.getD a []).length=C:=h.row hi;have h1:((Z.set a ((Z.getD a []).set c v)).getD a [])=(Z.getD a []).set c v:=by rw[qOd,qOq (by rw[h.n];exact hi)];rfl
  rw[h1];by_cases hb:b=c
  ·subst hb;rw[if_pos ⟨rfl,rfl⟩,qOd,qOq (by omega)];rfl
  ·rw[if_neg (fun x=>hb x.2),qOd,qOf (fun e=>hb e.symm),<-qOd]
 ·rw[if_neg (fun x=>ha x.1)];have h1:((Z.set i ((Z.getD i []).set c v)).getD a [])=Z.getD a []:=by rw[qOd,qOf (fun e=>ha e.symm),qOd]
  rw[h1]
theorem qDq{Z:Mx}{N C i j:Nat}(h:Dim Z N C)(hi:i<N)(hj:j<N)(a b:Nat):q90 (qdm Z i j) a b=q90 Z (swI j i a) b:=by
 unfold q90 qdm swI;have hn:=h.n;have g:∀(L:Mx) (x y:Nat) (r:List Bs),L.length=N->x<N->(L.set x r).getD y []=if y=x then r else L.getD y []:=fun L x y r hL hx=>by
  by_cases e:y=x
  ·subst e;rw[if_pos rfl,qOd,qOq (by omega)];rfl
  ·rw[if_neg e,qOd,qOf (fun z=>e z.symm),qOd]
 rw[g _ j a _ (by rw[qPy,hn]) hj];by_cases e1:a=j
 ·rw[if_pos e1,if_pos e1]
 ·rw[if_neg e1,if_neg e1,g _ i a _ hn hi];by_cases e2:a=i
  ·rw[if_pos e2,if_pos e2]
  ·rw[if_neg e2,if_neg e2]
theorem RelM.set{Z:Mx}{N C:Nat}{M:Nat->Nat->Rat}(h:RelM Z N C M){i c:Nat}(hi:i<N)(hc:c<C)(q:Rat):RelM (qDz Z i c (tQ q)) N C (fun a b=>if a=i/\b=c then q else M a b):=
 ⟨h.dim.set hi _,fun a b ha hb=>by
  rw[qFw h.dim hi hc];split
  ·rfl
  ·exact h.ok a b ha hb⟩
theorem RelM.swap{Z:Mx}{N C:Nat}{M:Nat->Nat->Rat}(h:RelM Z N C M){i j:Nat}(hi:i<N)(hj:j<N):RelM (qdm Z i j) N C (fun a b=>M (swI j i a) b):=⟨h.dim.swap hi hj,fun a b ha hb=>by rw[qDq h.dim hi hj];exact h.ok _ b (qA0 hj hi ha) hb⟩
theorem qGd{dv:Op2}{N C p:Nat}{M:Nat->Nat->Rat}{f:Rat}(hp:p<N)(hd:∀j,j<C->dv (tQ (M p j)) (tQ f)=some (tQ (M p j/f))) :
  ∀(g m:Nat),m+g=C->∀Z,RelM Z N C (fun i j=>if i=p/\j<m then M p j/f else M i j)->∃Z',qvC dv p (tQ f) C g Z=some Z'/\RelM Z' N C (fun i j=>if i=p then M p j/f else M i j)
 | 0,m,hm,Z,hZ=>⟨Z,rfl,hZ.congr fun i j hi hj=>by
   by_cases e:i=p
   ·rw[if_pos ⟨e,by omega⟩,if_pos e]
   ·rw[if_neg (fun x=>e x.1),if_neg e]⟩
 | g+1,m,hm,Z,hZ=>by
  have h1:C-(g+1)=m:=by omega
  have h2:q90 Z p m=tQ (M p m):=by rw[hZ.ok p m hp (by omega),if_neg (by omega)]
  unfold qvC;rw[h1,h2,hd m (by omega),qOC];exact qGd hp hd g (m+1) (by omega) _ ((hZ.set hp (show m<C by omega) (M p m/f)).congr fun i j hi hj=>by
   by_cases e:i=p
   ·subst e;by_cases e2:j=m
    ·subst e2;rw[if_pos ⟨rfl,rfl⟩,if_pos ⟨rfl,by omega⟩]
    ·rw[if_neg (fun x=>e2 x.2)];by_cases e3:j<m
     ·rw[if_pos ⟨rfl,e3⟩,if_pos ⟨rfl,by omega⟩]
     ·rw[if_neg (fun x=>e3 x.2),if_neg (fun x=>e3 (by omega))]
   ·rw[if_neg (fun x=>e x.1),if_neg (fun x=>e x.1),if_neg (fun x=>e x.1)])
theorem qww{ml sb:Op2}{N C p i:Nat}{M:Nat->Nat->Rat}{t:Rat}(hp:p<N)(hi:i<N)(hip:i≠p)(h1:∀j,j<C->ml (tQ t) (tQ (M p j))=some (tQ (t*M p j)))(h2:∀j,j<C->sb (tQ (M i j)) (tQ (t*M p j))=some (tQ (M i j-t*M p j))) :
  ∀(g m:Nat),m+g=C->∀Z,RelM Z N C (fun a j=>if a=i/\j<m then M i j-t*M p j else M a j)->∃Z',qgR ml sb i p (tQ t) C g Z=some Z'/\RelM Z' N C (fun a j=>if a=i then M i j-t*M p j else M a j)
 | 0,m,hm,Z,hZ=>⟨Z,rfl,hZ.congr fun a j ha hj=>by
   by_cases e:a=i
   ·rw[if_pos ⟨e,by omega⟩,if_pos e]
   ·rw[if_neg (fun x=>e x.1),if_neg e]⟩
 | g+1,m,hm,Z,hZ=>by
  have e1:C-(g+1)=m:=by omega
  have q1:q90 Z p m=tQ (M p m):=by rw[hZ.ok p m hp (by omega),if_neg (fun x=>hip x.1.symm)]
  have q2:q90 Z i m=tQ (M i m):=by rw[hZ.ok i m hi (by omega),if_neg (by omega)]
  unfold qgR;rw[e1,q1,h1 m (by omega),qOC,q2,h2 m (by omega),qOC];exact qww hp hi hip h1 h2 g (m+1) (by omega) _ ((hZ.set hi (show m<C by omega) (M i m-t*M p m)).congr fun a j ha hj=>by
   by_cases e:a=i
   ·subst e;by_cases e2:j=m
    ·subst e2;rw[if_pos ⟨rfl,rfl⟩,if_pos ⟨rfl,by omega⟩]
    ·rw[if_neg (fun x=>e2 x.2)];by_cases e3:j<m
     ·rw[if_pos ⟨rfl,e3⟩,if_pos ⟨rfl,by omega⟩]
     ·rw[if_neg (fun x=>e3 x.2),if_neg (fun x=>e3 (by omega))]
   ·rw[if_neg (fun x=>e x.1),if_neg (fun x=>e x.1),if_neg (fun x=>e x.1)])
theorem qwZ{ml sb:Op2}{N C p k:Nat}{M:Nat->Nat->Rat}(hp:p<N)(hk:k<C)(h1:∀i j,i<N->i≠p->j<C->ml (tQ (M i k)) (tQ (M p j))=some (tQ (M i k*M p j)))
  (h2:∀i j,i<N->i≠p->j<C->sb (tQ (M i j)) (tQ (M i k*M p j))=some (tQ (M i j-M i k*M p j))) :
  ∀(g m:Nat),m+g=N->∀Z,RelM Z N C (fun i j=>if i<m/\i≠p then M i j-M i k*M p j else M i j)->∃Z',qs4 ml sb p k N C g Z=some Z'/\RelM Z' N C (fun i j=>if i≠p then M i j-M i k*M p j else M i j)
 | 0,m,hm,Z,hZ=>⟨Z,rfl,hZ.congr fun i j hi hj=>by
   by_cases e:i≠p
   ·rw[if_pos ⟨by omega,e⟩,if_pos e]
   ·rw[if_neg (fun x=>e x.2),if_neg e]⟩
 | g+1,m,hm,Z,hZ=>by
  have e1:N-(g+1)=m:=by omega
  have q1:q90 Z m k=tQ (M m k):=by rw[hZ.ok m k (by omega) hk,if_neg (by omega)]
  unfold qs4;rw[e1,q1];have zi:=qn3 (M m k);have skip:(m=p\/M m k=0)->RelM Z N C (fun i j=>if i<m+1/\i≠p then M i j-M i k*M p j else M i j):=fun h=>hZ.congr fun i j hi hj=>by
   by_cases e:i=m
   ·subst e;rw[if_neg (by omega)];rcases h with h|h
    ·rw[if_neg (fun x=>x.2 h)]
    ·by_cases e2:i=p
     ·rw[if_neg (fun x=>x.2 e2)]
     ·rw[if_pos ⟨by omega,e2⟩,h];grind
   ·by_cases e2:i<m/\i≠p
    ·rw[if_pos e2,if_pos ⟨by omega,e2.2⟩]
    ·rw[if_neg e2,if_neg (fun x=>e2 ⟨by omega,x.2⟩)]
  by_cases hc:m=p\/M m k=0
  ·rw[if_pos (by rw[zi];exact hc)];exact qwZ hp hk h1 h2 g (m+1) (by omega) Z (skip hc)
  ·rw[if_neg (by rw[zi];exact hc)];rw[not_or] at hc;obtain⟨Z1,r1,r2⟩:=qww (ml:=ml) (sb:=sb) (M:=fun i j=>if i<m/\i≠p then M i j-M i k*M p j else M i j) (t:=M m k) hp (show m<N by omega) hc.1
    (fun j hj=>by rw[if_neg (by omega)];exact h1 m j (by omega) hc.1 hj) (fun j hj=>by rw[if_neg (by omega),if_neg (by omega)];exact h2 m j (by omega) hc.1 hj) C 0 (by omega) Z (hZ.congr fun i j hi hj=>by rw[if_neg (show ¬(i=m/\j<0) by omega)])
   rw[r1,qOC];exact qwZ hp hk h1 h2 g (m+1) (by omega) Z1 (r2.congr fun i j hi hj=>by
    by_cases e:i=m
    ·subst e;rw[if_pos rfl,if_neg (by omega),if_neg (by omega),if_pos ⟨by omega,hc.1⟩]
    ·rw[if_neg e];by_cases e2:i<m/\i≠p
     ·rw[if_pos e2,if_pos ⟨by omega,e2.2⟩]
     ·rw[if_neg e2,if_neg (fun x=>e2 ⟨by omega,x.2⟩)])
def pvI(M:Nat->Nat->Rat)(k N:Nat):Nat->Nat
 | 0=>N
 | g+1=>if M (N-(g+1)) k=0 then pvI M k N g else N-(g+1)
theorem qnX(M:Nat->Nat->Rat)(k N:Nat):∀g,g<=N->(pvI M k N g=N/\∀i,N-g<=i->i<N->M i k=0)\/(N-g<=pvI M k N g/\pvI M k N g<N/\M (pvI M k N g) k≠0)
 | 0,_=>.inl ⟨rfl,fun i h1 h2=>by omega⟩
 | g+1,h=>by
  unfold pvI;by_cases e:M (N-(g+1)) k=0
  ·rw[if_pos e];rcases qnX M k N g (by omega) with⟨h1,h2⟩|⟨h1,h2,h3⟩
   ·refine .inl ⟨h1,fun i a b=>?_⟩;by_cases q:i=N-(g+1)
    ·rw[q];exact e
    ·exact h2 i (by omega) b
   ·exact .inr ⟨by omega,h2,h3⟩
  ·rw[if_neg e];exact .inr ⟨qOe _,by omega,e⟩
theorem qD4{Z:Mx}{N C k:Nat}{M:Nat->Nat->Rat}(h:RelM Z N C M)(hk:k<C):∀g,g<=N->qhd Z k N g=pvI M k N g
 | 0,_=>rfl
 | g+1,hg=>by
  unfold qhd pvI;rw[h.ok (N-(g+1)) k (by omega) hk,qD4 h hk g (by omega)];have zi:=qn3 (M (N-(g+1)) k);by_cases e:M (N-(g+1)) k=0
  ·rw[if_pos e,if_pos (by rw[zi];exact e)]
  ·rw[if_neg e,if_neg (by rw[zi];exact e)]
def pvQ(N c:Nat)(M:Nat->Nat->Rat):Option Nat:=if pvI M c N (N-c)=N then none else some (pvI M c N (N-c))
theorem qHv(N:Nat):Pivots N (pvQ N) where
 some:=fun c M i hc h=>by
  unfold pvQ at h;rcases qnX M c N (N-c) (by omega) with⟨h1,_⟩|⟨h1,h2,h3⟩
  ·rw[if_pos h1] at h;cases h
  ·rw[if_neg (by omega)] at h;cases h;exact⟨by omega,h2,h3⟩
 none:=fun c M i h hci hi=>by
  unfold pvQ at h;rcases qnX M c N (N-c) (by omega) with⟨_,h2⟩|⟨h1,h2,h3⟩
  ·exact h2 i (by omega) hi
  ·rw[if_neg (by omega)] at h;cases h
def gsP(k p i0:Nat)(M:Nat->Nat->Rat):Nat->Nat->Rat:=fun i j=>if i=p then M i0 j/M i0 k else M (swI p i0 i) j-M (swI p i0 i) k*(M i0 j/M i0 k)
theorem qLR(c i0:Nat)(M:Nat->Nat->Rat):gsP c c i0 M=gs c i0 M:=by funext i j;unfold gsP gs;simp only[Rat.div_def]
def BM(N C a b:Nat)(M:Nat->Nat->Rat):Prop:=∀i j,i<N->j<C->bnd a b (M i j)
structure OpsQ (ml dv sb:Op2):Prop where
 ml:∀{a b:Rat} {N D N' D':Nat},bnd N D a->bnd N' D' b->N+N'<=1024->D+D'<=1024->ml (tQ a) (tQ b)=some (tQ (a*b))
 dv:∀{a b:Rat} {N D N' D':Nat},b≠0->bnd N D a->bnd N' D' b->N+D'<=1024->D+N'<=1024->dv (tQ a) (tQ b)=some (tQ (a/b))
 sb:∀{a b:Rat} {N D N' D':Nat},bnd N D a->bnd N' D' b->N+D'<=1023->N'+D<=1023->D+D'<=1024->sb (tQ a) (tQ b)=some (tQ (a-b))
theorem qO7:OpsQ (opF wv) (opF q5P) (opF zJ) where
 ml:=fun ha hb h1 h2=>by unfold opF;rw[qdf ha hb h1 h2];rfl
 dv:=fun h0 ha hb h1 h2=>by unfold opF;rw[qAN h0 ha hb h1 h2];rfl
 sb:=fun ha hb h1 h2 h3=>by unfold opF;rw[q8g ha hb h1 h2 h3];rfl
theorem qLa{ml dv sb:Op2}(ops:OpsQ ml dv sb){N C k p i0 a b u v:Nat}{s:RS}{M:Nat->Nat->Rat}{d:Rat}(hs:RelM s.Z N C M)(hb:BM N C a b M)(hd:s.det=tQ d)(hdb:bnd u v d)(hp:s.p=p)(hpN:p<N)(hk:k<C)(hi:i0<N) (hpi:p<=i0) (h0:M i0 k≠0) (hf:qhd s.Z k N (N-s.p)=i0) (c1:2*a+2*b<=1023) (c2:a+3*b<=1024) (c3:u+v+2+a<=1023) (c4:v+1+b<=1023) :∃s',qmP ml dv sb k N C s=some s'/\RelM s'.Z N C (gsP k p i0 M)/\BM N C (2*a+2*b+1) (a+3*b) (gsP k p i0 M)/\(∃d',s'.det=tQ d'/\bnd (u+v+2+a) (v+1+b) d')/\s'.p=p+1/\s'.lead=s.lead++[k]:=by
 subst hp;unfold qmP;rw[hf,if_neg (by omega)];have bi:∀j,j<C->bnd a b (M i0 j):=fun j hj=>hb i0 j hi hj;obtain⟨dd,e1,e2⟩:∃dd,(if i0=s.p then some s.det else sb [48] s.det)=some (tQ dd)/\bnd (u+v+2) (v+1) dd:=by
  by_cases e:i0=s.p
  ·exact⟨d,by rw[if_pos e,hd],hdb.mono (by omega) (by omega)⟩
  ·refine⟨0-d,?_,?_⟩
   ·rw[if_neg e,hd];have:([48]:Bs)=tQ 0:=by decide
    rw[this];exact ops.sb qhE hdb (by omega) (by omega) (by omega)
   ·have:=qhE.sub hdb (K:=u+v+2) (by omega) (by omega);exact this.mono (qOe _) (by omega)
 rw[e1,qOC];have h1:=hs.swap hi hpN;have hpv:q90 (qdm s.Z i0 s.p) s.p k=tQ (M i0 k):=by
  rw[h1.ok s.p k hpN hk];have:swI s.p i0 s.p=i0:=by unfold swI;rw[if_pos rfl]
  rw[this]
 rw[hpv,ops.ml e2 (bi k hk) (by omega) (by omega),qOC];have eq_p:∀j,M (swI s.p i0 s.p) j=M i0 j:=fun j=>by
  have:swI s.p i0 s.p=i0:=by unfold swI;rw[if_pos rfl]
  rw[this]
 obtain⟨Z1,q1,q2⟩:=qGd (dv:=dv) (M:=fun i j=>M (swI s.p i0 i) j) (f:=M i0 k) hpN (fun j hj=>by rw[eq_p];exact ops.dv h0 (bi j hj) (bi k hk) (by omega) (by omega)) C 0 (by omega) _ (h1.congr fun i j _ _=>by rw[if_neg (by omega)]);rw[q1,qOC];have yb:∀j,j<C->bnd (a+b) (b+a) (M i0 j/M i0 k):=fun j hj=>(bi j hj).div h0 (bi k hk);have sb':∀i j,i<N->j<C->bnd a b (M (swI s.p i0 i) j):=fun i j hi' hj=>hb _ j (qA0 hpN hi hi') hj;obtain⟨Z2,q3,q4⟩:=qwZ (ml:=ml) (sb:=sb) (p:=s.p) (k:=k) (M:=fun i j=>if i=s.p then M i0 j/M i0 k else M (swI s.p i0 i) j) hpN hk
  (fun i j hi' e hj=>by rw[if_pos rfl,if_neg e];exact ops.ml (sb' i k hi' hk) (yb j hj) (by omega) (by omega))
  (fun i j hi' e hj=>by rw[if_pos rfl,if_neg e,if_neg e];exact ops.sb (sb' i j hi' hj) ((sb' i k hi' hk).mul (yb j hj)) (by omega) (by omega) (by omega)) N 0 (by omega) Z1
  (q2.congr fun i j _ _=>by
   rw[if_neg (show ¬(i<0/\i≠s.p) by omega)];by_cases e:i=s.p
   ·rw[if_pos e,if_pos e,eq_p]
   ·rw[if_neg e,if_neg e])
 rw[q3,qOC];refine⟨_,rfl,q4.congr fun i j _ _=>?_,fun i j hi' hj=>?_,⟨_,rfl,e2.mul (bi k hk)⟩,rfl,rfl⟩
 ·unfold gsP;by_cases e:i=s.p
  ·rw[if_pos e,if_neg (fun z=>z e),if_pos e]
  ·rw[if_neg e,if_pos e,if_neg e,if_neg e,if_pos rfl]
 ·unfold gsP;by_cases e:i=s.p
  ·rw[if_pos e];exact(yb j hj).mono (by omega) (by omega)
  ·rw[if_neg e];have:=(sb' i j hi' hj).sub ((sb' i k hi' hk).mul (yb j hj)) (K:=2*a+2*b+1) (by omega) (by omega);exact this.mono (qOe _) (by omega)
def bs:Nat->Nat×Nat
 | 0=>(13,1)
 | k+1=>(2*(bs k).1+2*(bs k).2+1,(bs k).1+3*(bs k).2)
def ds:Nat->Nat×Nat
 | 0=>(1,1)
 | k+1=>((ds k).1+(ds k).2+2+(bs k).1,(ds k).2+1+(bs k).2)
theorem qNR(k:Nat)(h:k<3):2*(bs k).1+2*(bs k).2<=1023/\(bs k).1+3*(bs k).2<=1024/\(ds k).1+(ds k).2+2+(bs k).1<=1023/\(ds k).2+1+(bs k).2<=1023:=by
 match k,h with
 | 0,_=>decide
 | 1,_=>decide
 | 2,_=>decide
theorem BM.mono{N C a b a' b':Nat}{M:Nat->Nat->Rat}(h:BM N C a b M)(h1:a<=a')(h2:b<=b'):BM N C a' b' M:=fun i j hi hj=>(h i j hi hj).mono h1 h2
theorem qKB(k:Nat):(bs k).1<=(bs (k+1)).1/\(bs k).2<=(bs (k+1)).2/\(ds k).1<=(ds (k+1)).1/\(ds k).2<=(ds (k+1)).2:=by simp only[bs,ds];omega
theorem qHh{ml dv sb:Op2}(ops:OpsQ ml dv sb){N C:Nat}(hN:N<=3)(hC:N<=C):∀(g k:Nat),k+g=N->∀(s:RS) (M:Nat->Nat->Rat) (d:Rat),RelM s.Z N C M->BM N C (bs k).1 (bs k).2 M->s.det=tQ d->bnd (ds k).1 (ds k).2 d->s.p<=k->s.lead.length=s.p ->
  ∃fin M',qyw ml dv sb N N C g s=some fin/\RelM fin.Z N C M'/\BM N C (bs N).1 (bs N).2 M'/\fin.lead.length<=s.p+g/\(s.p=k->(qgi N (pvQ N) g k M=some M'/\fin.lead.length=N)\/(qgi N (pvQ N) g k M=none/\fin.lead.length<N))
 | 0,k,hk,s,M,d,hs,hb,hd,hdb,hp,hl=>by
  have:k=N:=by omega
  subst this;exact⟨s,M,rfl,hs,hb,by omega,fun h=>.inl ⟨rfl,by omega⟩⟩
 | g+1,k,hk,s,M,d,hs,hb,hd,hdb,hp,hl=>by
  have hkN:N-(g+1)=k:=by omega
  obtain⟨m1,m2,m3,m4⟩:=qKB k;obtain⟨o1,o2,o3,o4⟩:=qNR k (by omega);unfold qyw;rw[hkN];have hf:=qD4 hs (show k<C by omega) (N-s.p) (by omega);rcases qnX M k N (N-s.p) (by omega) with⟨h1,h2⟩|⟨h1,h2,h3⟩
  ·have e:qmP ml dv sb k N C s=some s:=by unfold qmP;rw[if_pos (by rw[hf];exact h1)]
   rw[e,qOC];obtain⟨fin,M',r1,r2,r3,r4,r5⟩:=qHh ops hN hC g (k+1) (by omega) s M d hs (hb.mono m1 m2) hd (hdb.mono m3 m4) (by omega) hl;refine⟨fin,M',r1,r2,r3,by omega,fun hpk=>.inr ⟨?_,by omega⟩⟩;subst hpk;unfold qgi pvQ;rw[if_pos h1]
  ·obtain⟨s',q1,q2,q3,⟨d',q4,q5⟩,q6,q7⟩:=qLa ops hs hb hd hdb rfl (show s.p<N by omega) (show k<C by omega) h2 (by omega) h3 hf o1 o2 o3 o4;rw[q1,qOC];obtain⟨fin,M',r1,r2,r3,r4,r5⟩:=qHh ops hN hC g (k+1) (by omega) s' _ d' q2 q3 q4 q5 (by omega) (by rw[q7,q6,qOz,hl];rfl);refine⟨fin,M',r1,r2,r3,by omega,fun hpk=>?_⟩;have hg:qgi N (pvQ N) (g+1) k M=qgi N (pvQ N) g (k+1) (gsP k s.p (pvI M k N (N-s.p)) M):=by subst hpk;rw[qLR];show (match pvQ N s.p M with|none=>none|some i0=>qgi N (pvQ N) g (s.p+1) (gs s.p i0 M))=_;unfold pvQ;rw[if_neg (by omega)]
   rw[hg];exact r5 (by omega)
end Go.Eng

