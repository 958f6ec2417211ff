/- Texts of the proof, merged: what the code computes, and plain laws. No statement stands here. -/
import Derived.BigRegion
import Derived.Lib.Hide
import Derived.Deep.Light
import Derived.Deep.Cut
import Derived.Deep.CutRange
import Derived.Deep.RegionLaw
import Derived.Deep.RegionHeld3
import Derived.Test.YtcngjnijbegcmaaGreatDoorE3
namespace Go.Eng
open Go.RowKit Go.Proofs
open Tryz
variable {w:World}
def qIH(B S K N C:Nat)(w0 w:World)(vR vL:Value)(H:List Value)(Z:Mx)(det:Bs)(lead:List Nat):Prop:=Sch B S 227 68 30 3 N C (.int .i64 0) (.int .i64 K) w vR vL H Z det lead/\Below B w0 w
def qJT(B S K N C:Nat)(w0 w:World)(s:RS):Prop:=∃vR vL H,Sch B S 227 68 30 3 N C (.int .i64 0) (.int .i64 K) w vR vL H s.Z s.det s.lead/\Below B w0 w
theorem qLk {G P:Prop}(h:G)(k:G->P):P:=k h
theorem qt3 {l r:List Oper}{i:Nat}{o:Oper}(h:l.drop i=o::r):l.toArray[i]?=some o:=by
 have:(l.drop i)[0]?=some o:=by rw[h];rfl
 rw[qMy] at this;simpa using this
theorem tk {P:Program}{md:Region.Mode}{l r:List Oper}{Q:Exit->Act->World->Prop}{S:World->Prop}{fuel:Nat}{listed:Array Bool}{a:Act}(i:Nat){oi:Oper}{v:Value}(hi:l.drop i=oi::r)(hc:(Region.noSelect l.toArray&&(Region.free md l.toArray listed i&&(Region.ready md l.toArray listed).contains i))=true) (hS:S w) (hy:YieldsIf P l.toArray S oi v a)(h:wpAnyH P md l.toArray (NoPanic Q) S fuel (listed.setIfInBounds i true) (a.put oi.dst v) w):wpAnyH P md l.toArray (NoPanic Q) S (fuel+1) listed a w:=by simp only[qLN] at hc;exact wpAnyH_take (qt3 hi) hc.1 hc.2.1 hc.2.2 (fun _ _ _ h=>h) hy hS h
theorem csD {P:Program}{md:Region.Mode}{l r:List Oper}{Q:Exit->Act->World->Prop}{S:World->Prop}{fuel:Nat}{listed:Array Bool}{a:Act}(i:Nat){o:Oper}{rs:List Nat}(hi:l.drop i=o::r)(h:∀K':Act->World->Prop,Shut (∀a w,S w->(S w->wpAnyH P md l.toArray Q S fuel (listed.setIfInBounds i true) a w)->K' a w)->if Region.wanted o (yielded l.toArray a.tmps)=true then Oper.wp P o a w K' Q else K' (a.put o.dst undef) w)(hs:AllReadyH P md l.toArray Q S fuel listed a w rs):AllReadyH P md l.toArray Q S fuel listed a w (i::rs):=.cons (qt3 hi) h hs
theorem qza {O S o o':Nat}{u:Value}(h:S≠O):(w.setCell ⟨O,o,none⟩ u).drew.cell? ⟨S,o',none⟩=w.cell? ⟨S,o',none⟩:=qMu (heap_setCell_other w ⟨O,o,none⟩ S u h)
theorem qzP {O S o o' p:Nat}{u v:Value}(h:S≠O):((w.setCell ⟨O,o,none⟩ u).setCell ⟨O,p,none⟩ v).drew.cell? ⟨S,o',none⟩=w.cell? ⟨S,o',none⟩:=(qMu (heap_setCell_other (w.setCell ⟨O,o,none⟩ u) ⟨O,p,none⟩ S v h)).trans (qMu (heap_setCell_other w ⟨O,o,none⟩ S u h))
set_option maxHeartbeats 4000000 in
set_option maxRecDepth 1000000 in
noncomputable def mxD (B S K N C:Nat)(w:World)(ml dv sb:Op2)(gl:World->Prop)(hgl:∀w',Below B w w'->gl w')(hml:qB2 prog gl 124 ml)(hdv:qB2 prog gl 142 dv)(hsb:qB2 prog gl 115 sb)(hB0:B<=w.heap.size)(hK:K<=N) (hC0:K=0\/K<C) (hN:N<=1000) (hCC:C<=1000) (s0 fin:RS):PSigma fun G0:Prop=>w.cell? ⟨S,2,none⟩=some (.int .i64 K)->Hid (qvq ml dv sb K N C K s0=some fin/\s0.p=0/\s0.lead=[])->Hid (qJT B S K N C w w s0)->Hid G0->(Calls prog 209 #[.pointer (some ⟨S,0,none⟩)] w fun e w'=>e=.returned (.tuple #[])/\qJT B S K N C w w' fin):=⟨_,fun h2 Hf HI HG=>by
  go_enter func209,ntmps209
  go_wp2
  go_loopg [2,17] K (fun g p k wr=>∃(kk:Nat) (s:RS),kk<=K/\g=K-kk/\k=.int .i64 kk/\p=.int .i64 s.p/\s.p<=N/\s.lead.length=s.p/\qJT B S K N C w wr s/\qvq ml dv sb K N C (K-kk) s=some fin)
  case atStart=>exact⟨0,s0,by omega,by omega,rfl,by rw[Hf.out.2.1];rfl,by rw[Hf.out.2.1];omega,by rw[Hf.out.2.1,Hf.out.2.2];rfl,HI,Hf.out.1⟩
  case round =>
    clear Hf HI;obtain⟨kk,s,hk,rfl,rfl,rfl,hpN,hl,hI,hf⟩:=hrel;have hlead:=Lib.hid hl;clear hl;obtain⟨vR,vL,H,hS,hB⟩:=hI;have Hf:Hid (qvq ml dv sb K N C (K-kk) s=some fin):=hf;clear hf;by_cases hlt:kk<K
    · have hC : K < C := by omega
      obtain⟨O,cO,rfl,bO,ltO,rO,fO,tO⟩:=hS.rows (by omega);have c1:=hS.cell.2.1;have row:=fun i (hi:i<N)=>hS.head hi (show 0<C by omega)
      go_wp2
      go_loopg [4] (N-s.p) (fun g i wx=>wx=wr/\∃ii:Nat,s.p<=ii/\ii<=N/\g=N-ii/\i=.int .i64 ii/\qf5 s.Z kk N (N-s.p)=qf5 s.Z kk N (N-ii))
      case atStart=>exact⟨rfl,s.p,qLs _,hpN,rfl,rfl,rfl⟩
      case round =>
        obtain⟨rfl,ii,h1,h2,rfl,rfl,hfi⟩:=hrel;have Hfi:Hid (qf5 s.Z kk N (N-s.p)=qf5 s.Z kk N (N-ii)):=hfi;clear hfi;by_cases hii:ii<N
        · obtain⟨G,cG,eH,bG,ltG,zG,fG,tG⟩:=row ii hii
          have c2:=rO ii _ eH;have c3:=zG kk (by omega);by_cases hz:q8c s.Z ii kk=[48]
          ·
            rw[hz] at c3;unfold q0s at c3;clear row rO zG fO fG eH
            go_wp2
            go_roundg (N-(ii+1))
            case measure=>go_light;omega
            case rel =>
              go_light
              refine⟨rfl,ii+1,by omega,by omega,rfl,by go_num,?_⟩;rw[Hfi.out,qt7 hii,if_pos hz]
          · have hzb : (q8c s.Z ii kk == [48]) = false := by simpa using hz
            have hfN:qf5 s.Z kk N (N-s.p)=ii:=by rw[Hfi.out,qt7 hii,if_neg hz]
            obtain⟨d,d',Z',Z'',e1,e2,e3,e4,e5⟩:=qEd hlt Hf.out hfN hii;clear Hf Hfi hfN;have E:Hid ((if ii=s.p then some s.det else sb [48] s.det)=some d/\ml d (q8c (qbX s.Z ii s.p) s.p kk)=some d'/\qsx dv s.p (q8c (qbX s.Z ii s.p) s.p kk) C C (qbX s.Z ii s.p)=some Z' /\
              qoS ml sb s.p kk N C N Z'=some Z''/\qvq ml dv sb K N C (K-(kk+1)) ⟨Z'',d',s.lead++[kk],s.p+1⟩=some fin):=⟨e1,e2,e3,e4,e5⟩
            clear e1 e2 e3 e4 e5;unfold q0s at c3;have RO:=Lib.hid rO;have RW:=Lib.hid row;clear rO row zG
            go_upto_if 52 with (fail)
            go_cut [2,3,4] from 18 to 209 (fun x2 x3 x4 wx=>x2=.int .i64 s.p/\x3=.int .i64 kk/\x4=.int .i64 ii/\qJT B S K N C w wx ⟨qbX s.Z ii s.p,d,s.lead,s.p⟩)
            case first =>
              rename_i qQ _ _ _ _ _ _ _ _ _ _ _ _ _ _ _ _ _ _ _ _ _ _ p1 p2 x1 x2 p4 x3 p5 q1 q2 x4 x5 q4 x6 q5 q6 x7 q7 q8 q9 qa;clear x1 x2 x3 x4 x5 x6 x7
              revert qQ u3 u4 u5 u6 u7 u8 u9 u10 u11 u12 u18 u19 u20 u21 u22 u23 u24 u25 u26 u27 u28 u29 u30 u31 u32 u33 u34 u35 u36 u37 u38 u39 u40 u41 u42 u43 u44 u45 u46 u47 u48 u49 u50 u51 u52 u53 u54 u55 u56 u57 u58 u59 u60 u61 u62 u63 u64 u65 u66 u67 u68 u69 u70 u71 u72 u73 u74 u75 u76 u77 u78 u79 u80 u81 u82 u83 u84 u85 u86 u87 u88 u89 u90 u91 u92 u93 u94 u95 u96 u97 u98 u99 u100 u101 u102 u103 u104 u105 u106 u107 u108 u109 u110 u111 u112 u113 u114 u115 u116 u117 u118 u119 u120 u121 u122 u123 u124 u125 u126 u127 u128 u129 u130 u131 u132 u133 u134 u135 u136 u137 u138 u139 u140 u141 u142 u143 u144 u145 u146 u147 u148 u149 u150 u151 u152 u153 u154 u155 u156 u157 u158 u159 u160 u161 u162 u163 u164 u165 u166 u167 u168 u169 u170 u171 u172 u173 u174 u175 u176 u177 u178 u179 u180 u181 u182 u183 u184 u185 u186 u187 u188 u189 u190 u191 u192 u193 u194 u195 u196 u197 u198 u199 u200 u201 u202 u203 u204 u205 u206 u207 u208 u209 p2 kk s hlead vL H hC O cO p4 wr ii G cG d d' Z' Z'' q7 q8;exact HG.out
            case rest =>
              obtain⟨rfl,rfl,rfl,vR1,vL1,H1,hS1,hB1⟩:=hcut;obtain⟨_,e2,e3,e4,e5⟩:=E.out;clear E RO RW c1 c2 c3 fO fG hS hB hzb;generalize qbX s.Z ii s.p=Z1 at *;have hpN2:s.p<N:=by omega
              obtain⟨O1,cO1,rfl,bO1,ltO1,rO1,fO1,tO1⟩:=hS1.rows (by omega);obtain⟨G1,cG1,eH1,bG1,ltG1,zG1,fG1,tG1⟩:=hS1.head hpN2 (by omega);have c1:=hS1.cell.2.1;have c2:=rO1 s.p _ eH1;have c3:=zG1 kk (by omega);have d4:=hS1.cell.2.2.2.2;have key:=qGI gl ml hml S d (q8c Z1 s.p kk) d' wc.drew (hgl _ hB1.drew) e2 hS1.lt hS1.cell.1;have SW3:=Lib.hid (hS1.grow (Below.refl _ _).drew);have E:=Lib.hid (And.intro e3 (And.intro e4 e5));have EH:=Lib.hid eH1;clear rO1 zG1 fO1 fG1 eH1 e2 e3 e4 e5;unfold q0s at c3 d4 key
              go_wp2_with fail
              go_region_with (go_at_call 180;refine key.mono ?_;rintro e w1 ⟨rfl,hb⟩;have S4:=Lib.hid (SW3.out.grow hb);have k4:=S4.out.cell.2.2.2.2;have k5:=S4.out.free 4;unfold q0s at k4)
              have SW4:=S4.out.setDet d';have SB4:Below B w (w1.setCell ⟨S,4,none⟩ (.string ⟨d'.toArray⟩)):=(hB1.drew.trans (hb.mono (by have:=hB1.size;show B<=wc.heap.size;omega))).setCell hS1.bs _;clear S4 k4 k5 hb key SW3 c1 c2 c3 d4 hS1 hB1;unfold q0s at SW4;generalize w1.setCell ⟨S,4,none⟩ (.string ⟨d'.toArray⟩)=W2 at SW4 SB4 ⊢;obtain⟨O2,cO2,hO2,bO2,ltO2,rO2,fO2,tO2⟩:=SW4.rows (by omega);cases hO2;obtain⟨G2,cG2,eH2,bG2,ltG2,zG2,fG2,tG2⟩:=SW4.head hpN2 (by omega);obtain⟨rfl,rfl⟩:G2=G1/\cG2=cG1:=by have:=EH.out;rw[eH2] at this;cases this;exact⟨rfl,rfl⟩
              have c1:=SW4.cell.2.1;have c2:=rO2 s.p _ eH2;clear rO2 zG2 fO2 fG2 eH2;obtain⟨f,hfdef⟩:∃f,f=q8c Z1 s.p kk:=⟨_,rfl⟩;rw[<-hfdef] at E ⊢;clear hfdef;have SI:Hid (qIH B S K N C w W2 (.slice (some ⟨O1,0,none⟩) N cO1) vL1 H1 Z1 d' s.lead):=⟨SW4,SB4⟩;clear SW4 SB4
              go_wp2_with fail
              go_loopg [120] C (fun g i wx=>∃(n:Nat) (Zx:Mx),n<=C/\g=C-n/\i=.int .i64 n/\qIH B S K N C w wx (.slice (some ⟨O1,0,none⟩) N cO1) vL1 H1 Zx d' s.lead/\qsx dv s.p f C (C-n) Zx=some Z')
              case atStart=>exact⟨0,Z1,qMY _,rfl,rfl,SI,E.out.1⟩
              case round =>
                obtain⟨n,Zx,hn,rfl,rfl,hSx,hnf⟩:=hrel;have HN:=Lib.hid hnf;clear hnf SI c1 c2;by_cases hnC:n<C
                ·
                  obtain⟨v,q1,q2⟩:=qBG hnC HN.out;obtain⟨hS,hB⟩:=hSx;obtain⟨c1,c2,c3,c4,bG⟩:=hS.reads EH.out;have c5:=c3 n hnC;have bG:=bG (by omega);have key:=qJ2 gl dv hdv S (q8c Zx s.p n) f v wr.drew (hgl _ hB.drew) q1 hS.lt hS.cell.1;have SW3:=Lib.hid (hS.grow (Below.refl _ _).drew);have Q2:=Lib.hid q2;clear c3 c4 q1 q2 HN;unfold q0s at c5 key
                  go_wp2_with fail
                  go_region_with (go_at_call 230;refine key.mono ?_;rintro e w1 ⟨rfl,hb⟩;have S4:=Lib.hid (SW3.out.grow hb);obtain⟨k1,k2,k3,k5,_⟩:=S4.out.reads EH.out;have k6:=k3 n hnC;have k7:=k5 n;clear k3 k5;unfold q0s at k6)
                  all_goals
                    have SW4:=Lib.hid (S4.out.put (o:=n) EH.out v);have SB4:=Lib.hid ((hB.drew.trans (hb.mono (by have:=hB.size;show B<=wr.heap.size;omega))).setCell (p:=⟨_,n,none⟩) bG (q0s v));clear k1 k2 k6 k7
                    go_wp2_with fail
                    go_roundg (C-(n+1))
                    case measure=>go_light;omega
                    case rel =>
                      go_light
                      exact⟨n+1,qBI Zx s.p n v,by omega,rfl,by go_num,⟨SW4.out,SB4.out⟩,Q2.out⟩
                · have hnE:n=C:=by omega
                  subst n;have hZx:Zx=Z':=by have:=HN.out;rw[qMb] at this;cases this;rfl
                  subst hZx;have c1:=hSx.1.cell.2.1;have SI:=Lib.hid hSx;have e4:=E.out.2.1;have e5:=Lib.hid E.out.2.2;clear E HN hSx;have E4:=Lib.hid e4;clear e4
                  go_wp2_with fail
                  go_loopg [146] N (fun g i wx=>∃(m:Nat) (Zy:Mx),m<=N/\g=N-m/\i=.int .i64 m/\qIH B S K N C w wx (.slice (some ⟨O1,0,none⟩) N cO1) vL1 H1 Zy d' s.lead/\qoS ml sb s.p kk N C (N-m) Zy=some Z'')
                  case atStart=>exact⟨0,Zx,qMY _,rfl,rfl,SI.out,E4.out⟩
                  case round =>
                    obtain⟨m,Zy,hm,rfl,rfl,hSy,hef⟩:=hrel;have HE:=Lib.hid hef;clear hef SI E4 c1;by_cases hmN:m<N
                    · obtain⟨hS,hB⟩:=hSy
                      obtain⟨G3,cG3,eH3,bG3,ltG3,_,_,_⟩:=hS.head hmN (by omega);obtain⟨c1,c2,c3,c4,_⟩:=hS.reads eH3;have c5:=c3 kk (by omega);have EM:=Lib.hid eH3;clear c3 c4 eH3;rcases qBC hmN HE.out with⟨hc,he⟩|⟨hmp,hz0,Z2,he1,he2⟩
                      · have HE2:=Lib.hid he
                        have HSy:Hid (qIH B S K N C w wr (.slice (some ⟨O1,0,none⟩) N cO1) vL1 H1 Zy d' s.lead):=⟨hS,hB⟩;clear he HE hS hB;by_cases hmp:m=s.p
                        · subst hmp
                          clear hc
                          go_wp2_with fail
                          go_roundg (N-(s.p+1))
                          case measure=>go_light;omega
                          case rel =>
                            go_light
                            exact⟨s.p+1,Zy,by omega,rfl,by go_num,HSy.out,HE2.out⟩
                        · have hz0:q8c Zy m kk=[48]:=hc.resolve_left hmp
                          have hb1:((m:Int)==(s.p:Int))=false:=by simp;omega
                          rw[hz0] at c5;unfold q0s at c5;clear hc hz0
                          go_wp2_with fail
                          go_roundg (N-(m+1))
                          case measure=>go_light;omega
                          case rel =>
                            go_light
                            exact⟨m+1,Zy,by omega,rfl,by go_num,HSy.out,HE2.out⟩
                      · have hb1:((m:Int)==(s.p:Int))=false:=by simp;omega
                        have hzb:(q8c Zy m kk==[48])=false:=by simpa using hz0
                        have HE1:=Lib.hid (And.intro he1 he2);have HSy:Hid (qIH B S K N C w wr (.slice (some ⟨O1,0,none⟩) N cO1) vL1 H1 Zy d' s.lead):=⟨hS,hB⟩;clear he1 he2 HE hS hB hz0;unfold q0s at c5;obtain⟨t,ht⟩:∃t,t=q8c Zy m kk:=⟨_,rfl⟩;rw[<-ht] at c5 hzb HE1;clear ht
                        go_wp2_with fail
                        clear c1 c2 c5 hzb
                        go_loopg [167] C (fun g i wx=>∃(n:Nat) (Zv:Mx),n<=C/\g=C-n/\i=.int .i64 n/\qIH B S K N C w wx (.slice (some ⟨O1,0,none⟩) N cO1) vL1 H1 Zv d' s.lead/\qfl ml sb m s.p t C (C-n) Zv=some Z2)
                        case atStart=>exact⟨0,Zy,qMY _,rfl,rfl,HSy.out,HE1.out.1⟩
                        case round =>
                          obtain⟨n,Zv,hn,rfl,rfl,hSv,her⟩:=hrel;have HR:=Lib.hid her;clear her HSy;by_cases hnC:n<C
                          · obtain⟨y,v,q1,q2,q3⟩:=qvQ hnC HR.out
                            obtain⟨hS,hB⟩:=hSv;obtain⟨c1,c2,c3,c4,_⟩:=hS.reads EH.out;obtain⟨_,c6,c7,c8,bG⟩:=hS.reads EM.out;have c5:=c3 n hnC;have c9:=c7 n hnC;have bG:=bG (by omega);have key1:=qGI gl ml hml S t (q8c Zv s.p n) y wr.drew (hgl _ hB.drew) q1 hS.lt hS.cell.1;have SW3:=Lib.hid (hS.grow (Below.refl _ _).drew);have hBs:B<=wr.drew.heap.size:=by have:=hB.size;show B<=wr.heap.size;omega
                            have key2:∀w1,Below wr.drew.heap.size wr.drew w1->Calls prog 229 #[.pointer (some ⟨S,0,none⟩),q0s (q8c Zv m n),q0s y] w1 fun e w'=>e=.returned (.string ⟨v.toArray⟩)/\Below w1.heap.size w1 w':=fun w1 hb =>
                              qH1 gl sb hsb S (q8c Zv m n) y v w1 (hgl _ (hB.drew.trans (hb.mono hBs))) q2 (SW3.out.grow hb).lt (SW3.out.grow hb).cell.1
                            have Q3:=Lib.hid q3;have K2:=Lib.hid key2;clear c3 c4 c6 c7 c8 q1 q2 q3 HR key2;unfold q0s at c5 c9 key1
                            go_wp2_with fail
                            go_region_with (first|(go_at_call 180;refine key1.mono ?_;rintro e w1 ⟨rfl,hb1⟩;have S4:=Lib.hid (SW3.out.grow hb1))|(go_at_call 229;refine(K2.out _ hb1).mono ?_;rintro e w2 ⟨rfl,hb2⟩;have S5:=Lib.hid (S4.out.grow hb2);obtain⟨_,_,k3,k5,_⟩:=S5.out.reads EM.out;have k6:=k3 n hnC;have k7:=k5 n;clear k3 k5;unfold q0s at k6))
                            all_goals
                              have SW4:=Lib.hid (S5.out.put (o:=n) EM.out v);have SB4:=Lib.hid (((hB.drew.trans (hb1.mono hBs)).trans (hb2.mono (by have:=hb1.size;omega))).setCell (p:=⟨_,n,none⟩) bG (q0s v));clear k6 k7
                              go_wp2_with fail
                              go_roundg (C-(n+1))
                              case measure=>go_light;omega
                              case rel =>
                                go_light
                                exact⟨n+1,qBI Zv m n v,by omega,rfl,by go_num,⟨SW4.out,SB4.out⟩,Q3.out⟩
                          · have hnE:n=C:=by omega
                            subst n;have hZv:Zv=Z2:=by have:=HR.out;rw[qMb] at this;cases this;rfl
                            subst hZv;have SI:=Lib.hid hSv;have HE2:=Lib.hid HE1.out.2;clear HR hSv HE1
                            go_wp2_with fail
                            go_roundg (N-(m+1))
                            case measure=>go_light;omega
                            case rel =>
                              go_light
                              exact⟨m+1,Zv,by omega,rfl,by go_num,SI.out,HE2.out⟩
                    · have hmE:m=N:=by omega
                      subst m;have hZy:Zy=Z'':=by have:=HE.out;rw[qMb] at this;cases this;rfl
                      subst hZy;obtain⟨hS,hB⟩:=hSy;have c3:=hS.cell.2.2.2.1;have f3:=hS.free 3;have hown:=hS.own;have hld:s.lead.length<=1000:=by rw[hlead.out];omega
                      obtain⟨i0,hi,hz0,hz1,hz2⟩:=info_parts (show (prog.info? 3).map (fun i=>(i.zero,i.size,i.bytes))=some (some (.int .i64 0),1,8) by kernel_rfl);have SI:=Lib.hid hS;clear HE hS
                      go_wp2_with (at_builtin;refine wpList_append_own _ rfl _ _ 33 rfl B 3 i0 (.int .i64 0) 1 8 underlying33 hi hz0 hz1 hz2 rfl (by decide) _ _ _ rfl (hown.alloc _) ⟨wr.heap.size,0,none⟩ 1 1 [.int .i64 kk] rfl rfl ?c1 ?c2 ?c3 ?c4 ?c5 ?_)
                      case c1 =>
                        intro j u hj
                        match j,hj with
                        | 0,hj=>simp at hj;subst hj;simp[Addr.add]
                      case c2=>intro u hu;simp at hu;subst hu;rfl
                      case c3=>unfold maxLen;omega
                      case c4=>omega
                      case c5=>have:=hB.size;simp;omega
                      intro v' w2 hown' hgrow _;have SA:=SI.out.grow ((Below.refl _ wr).alloc (qLs _) (.cells #[.int .i64 kk] 3));obtain⟨c4,c5⟩:=SA.leadCell hgrow;have SL:=Lib.hid (SA.setLead (vL':=v') (lead':=s.lead++[kk]) hgrow (by rw[qLR,qM0];exact hown'));have BL:=Lib.hid ((((hB.alloc (by have:=hB.size;omega) (.cells #[.int .i64 kk] 3)).grown hgrow (by have:=hB.size;simp;omega) (fun k hk=>(hown.lt k hk).1)).setCell (p:=⟨S,3,none⟩) SA.bs v'));clear hown' hgrow SA hown c3 f3;obtain⟨ao,n',cap,rfl⟩:∃ao n' cap,v'=.slice ao n' cap:=by
                        rcases SL.out.own.2 with⟨hv,_⟩|⟨g,cap,cur,hv,_⟩
                        · exact⟨_,_,_,hv⟩
                        · exact⟨_,_,_,hv⟩
                      go_wp2_with fail
                      go_roundg (K-(kk+1))
                      case measure=>go_light;omega
                      case rel =>
                        go_light
                        exact⟨kk+1,⟨Zy,d',s.lead++[kk],s.p+1⟩,by omega,rfl,by go_num,by go_num,by show s.p+1<=N;omega,by show (s.lead++[kk]).length=s.p+1;rw[qLR,hlead.out];rfl,⟨_,_,_,SL.out,BL.out⟩,e5.out⟩
        · have hiE:ii=N:=by omega
          subst ii;have HS:=Lib.hid (And.intro hS hB);clear row rO fO hS hB
          go_wp2
          go_roundg (K-(kk+1))
          case measure=>go_light;omega
          case rel =>
            go_light
            exact⟨kk+1,s,by omega,rfl,by go_num,rfl,hpN,hlead.out,⟨_,_,_,HS.out⟩,qEl hlt Hf.out (by rw[Hfi.out,qMb];rfl)⟩
    · have hkE:kk=K:=by omega
      subst kk;have hfin:s=fin:=by have:=Hf.out;rw[qMb] at this;cases this;rfl
      subst hfin;have HS:=Lib.hid (And.intro hS hB);clear hS hB Hf
      go_wp2
      go_end0
      exact⟨rfl,_,_,_,HS.out⟩⟩
set_option maxHeartbeats 4000000 in
set_option maxRecDepth 1000000 in
theorem mxF (B S K N C:Nat)(w:World)(ml dv sb:Op2)(gl:World->Prop)(hgl:∀w',Below B w w'->gl w')(hml:qB2 prog gl 124 ml)(hdv:qB2 prog gl 142 dv)(hsb:qB2 prog gl 115 sb)(hB0:B<=w.heap.size)(hK:K<=N) (hC0:K=0\/K<C) (hN:N<=1000) (hCC:C<=1000) (s0 fin:RS):(mxD B S K N C w ml dv sb gl hgl hml hdv hsb hB0 hK hC0 hN hCC s0 fin).1:=by
  intro qQ;intros;rename_i p2 kk s hk hpN hlead vL H hlt hC O cO bO p4 wr _ _ _ _ _ _ _ _ _ _ _ _ _ _ _ _ _ _ _ _ _ _ hB hS ltO fO tO c1 ii h1 h2 hii G cG eH bG ltG fG tG c2 c3 hz hzb d d' Z' Z'' E RO RW q5 q7 q8 q9 qa
  by_cases hip:ii=s.p
  · subst hip
    go_wp2_with fail
    go_meet
    go_light
    refine⟨rfl,rfl,rfl,?_⟩;have hd:=E.out.1;simp only[if_true] at hd;cases hd;rw[qAP];exact⟨_,_,_,hS,hB⟩
  · have hpN2:s.p<N:=by omega
    have hne:((ii:Int)==(s.p:Int))=false:=by simp;omega
    obtain⟨G2,cG2,eH2,bG2,ltG2,zG2,fG2,tG2⟩:=RW.out s.p hpN2;have q2:=RO.out s.p _ eH2;have f1:=fO ii;have f2:=fO s.p;have SW:=Lib.hid (hS.swap hii hpN2 hip rfl eH eH2);have EH:=Lib.hid (And.intro eH eH2);clear fO zG2 fG2 eH eH2;have hx:=fun u v=>cell?_setCell_some (w:=wr.drew) (p:=(⟨O,ii,none⟩:Addr)) (x:=u) (q:=⟨O,s.p,none⟩) (v:=v);have hSO:S≠O:=by obtain⟨cur,hcur⟩:=tO;exact qca hS.st hcur hS.ne.1
    go_wp2_with fail
    refine qLk (G:=?GG) ?hh ?kk
    case kk =>
      intro hG;refine wp_region_noPanic (wp_region_held_drew (S:=fun w'=>w'.cell? ⟨S,1,none⟩=some (.slice (some ⟨O,0,none⟩) N cO)) (by kernel_rfl) c1 (fun hHeld=>?_));refine tk (v:=?_) 0 rfl (by kernel_rfl) hHeld (.inl ⟨by rfl,?_⟩) ?_
      rotate_left
      · intro w hSw;(try dsimp only at hSw);go_simp;try with_reducible rfl
      try simp only[Act.put,List.setIfInBounds_toArray,qLI,qLM]
      refine tk (v:=?_) 1 rfl (by kernel_rfl) hHeld (.inl ⟨by rfl,?_⟩) ?_
      rotate_left
      · intro w hSw;(try dsimp only at hSw);go_simp;try with_reducible rfl
      try simp only[Act.put,List.setIfInBounds_toArray,qLI,qLM]
      refine tk (v:=?_) 2 rfl (by kernel_rfl) hHeld (.inl ⟨by rfl,?_⟩) ?_
      rotate_left
      · intro w hSw;(try dsimp only at hSw);go_simp;try with_reducible rfl
      try simp only[Act.put,List.setIfInBounds_toArray,qLI,qLM]
      refine tk (v:=?_) 3 rfl (by kernel_rfl) hHeld (.inl ⟨by rfl,?_⟩) ?_
      rotate_left
      · intro w hSw;(try dsimp only at hSw);go_simp;try with_reducible rfl
      try simp only[Act.put,List.setIfInBounds_toArray,qLI,qLM]
      refine tk (v:=?_) 4 rfl (by kernel_rfl) hHeld (.inl ⟨by rfl,?_⟩) ?_
      rotate_left
      · intro w hSw;(try dsimp only at hSw);go_simp;try with_reducible rfl
      try simp only[Act.put,List.setIfInBounds_toArray,qLI,qLM]
      refine tk (v:=?_) 5 rfl (by kernel_rfl) hHeld (.inl ⟨by rfl,?_⟩) ?_
      rotate_left
      · intro w hSw;(try dsimp only at hSw);go_simp;try with_reducible rfl
      try simp only[Act.put,List.setIfInBounds_toArray,qLI,qLM]
      refine tk (v:=?_) 6 rfl (by kernel_rfl) hHeld (.inl ⟨by rfl,?_⟩) ?_
      rotate_left
      · intro w hSw;(try dsimp only at hSw);go_simp;try with_reducible rfl
      try simp only[Act.put,List.setIfInBounds_toArray,qLI,qLM]
      refine tk (v:=?_) 7 rfl (by kernel_rfl) hHeld (.inl ⟨by rfl,?_⟩) ?_
      rotate_left
      · intro w hSw;(try dsimp only at hSw);go_simp;try with_reducible rfl
      try simp only[Act.put,List.setIfInBounds_toArray,qLI,qLM]
      refine tk (v:=?_) 8 rfl (by kernel_rfl) hHeld (.inl ⟨by rfl,?_⟩) ?_
      rotate_left
      · intro w hSw;(try dsimp only at hSw);go_simp;try with_reducible rfl
      try simp only[Act.put,List.setIfInBounds_toArray,qLI,qLM]
      refine tk (v:=?_) 9 rfl (by kernel_rfl) hHeld (.inl ⟨by rfl,?_⟩) ?_
      rotate_left
      · intro w hSw;(try dsimp only at hSw);go_simp;try with_reducible rfl
      try simp only[Act.put,List.setIfInBounds_toArray,qLI,qLM]
      refine tk (v:=?_) 10 rfl (by kernel_rfl) hHeld (.inl ⟨by rfl,?_⟩) ?_
      rotate_left
      · intro w hSw;(try dsimp only at hSw);go_simp;try with_reducible rfl
      try simp only[Act.put,List.setIfInBounds_toArray,qLI,qLM]
      refine tk (v:=?_) 11 rfl (by kernel_rfl) hHeld (.inl ⟨by rfl,?_⟩) ?_
      rotate_left
      · intro w hSw;(try dsimp only at hSw);go_simp;try with_reducible rfl
      try simp only[Act.put,List.setIfInBounds_toArray,qLI,qLM]
      refine tk (v:=?_) 12 rfl (by kernel_rfl) hHeld (.inl ⟨by rfl,?_⟩) ?_
      rotate_left
      · intro w hSw;(try dsimp only at hSw);go_simp;try with_reducible rfl
      try simp only[Act.put,List.setIfInBounds_toArray,qLI,qLM]
      refine tk (v:=?_) 13 rfl (by kernel_rfl) hHeld (.inl ⟨by rfl,?_⟩) ?_
      rotate_left
      · intro w hSw;(try dsimp only at hSw);go_simp;try with_reducible rfl
      try simp only[Act.put,List.setIfInBounds_toArray,qLI,qLM]
      refine tk (v:=?_) 14 rfl (by kernel_rfl) hHeld (.inl ⟨by rfl,?_⟩) ?_
      rotate_left
      · intro w hSw;(try dsimp only at hSw);go_simp;try with_reducible rfl
      try simp only[Act.put,List.setIfInBounds_toArray,qLI,qLM]
      refine tk (v:=?_) 15 rfl (by kernel_rfl) hHeld (.inl ⟨by rfl,?_⟩) ?_
      rotate_left
      · intro w hSw;(try dsimp only at hSw);go_simp;try with_reducible rfl
      try simp only[Act.put,List.setIfInBounds_toArray,qLI,qLM]
      refine tk (v:=?_) 17 rfl (by kernel_rfl) hHeld (.inl ⟨by rfl,?_⟩) ?_
      rotate_left
      · intro w hSw;(try dsimp only at hSw);go_simp;try with_reducible rfl
      try simp only[Act.put,List.setIfInBounds_toArray,qLI,qLM]
      refine tk (v:=?_) 18 rfl (by kernel_rfl) hHeld (.inl ⟨by rfl,?_⟩) ?_
      rotate_left
      · intro w hSw;(try dsimp only at hSw);go_simp;try with_reducible rfl
      try simp only[Act.put,List.setIfInBounds_toArray,qLI,qLM]
      refine tk (v:=?_) 19 rfl (by kernel_rfl) hHeld (.inl ⟨by rfl,?_⟩) ?_
      rotate_left
      · intro w hSw;(try dsimp only at hSw);go_simp;try with_reducible rfl
      try simp only[Act.put,List.setIfInBounds_toArray,qLI,qLM]
      refine tk (v:=?_) 20 rfl (by kernel_rfl) hHeld (.inl ⟨by rfl,?_⟩) ?_
      rotate_left
      · intro w hSw;(try dsimp only at hSw);go_simp;try with_reducible rfl
      try simp only[Act.put,List.setIfInBounds_toArray,qLI,qLM]
      refine tk (v:=?_) 21 rfl (by kernel_rfl) hHeld (.inl ⟨by rfl,?_⟩) ?_
      rotate_left
      · intro w hSw;(try dsimp only at hSw);go_simp;try with_reducible rfl
      try simp only[Act.put,List.setIfInBounds_toArray,qLI,qLM]
      refine tk (v:=?_) 22 rfl (by kernel_rfl) hHeld (.inl ⟨by rfl,?_⟩) ?_
      rotate_left
      · intro w hSw;(try dsimp only at hSw);go_simp;try with_reducible rfl
      try simp only[Act.put,List.setIfInBounds_toArray,qLI,qLM]
      refine wpAnyH_ready (rs:=[16,23]) (by kernel_rfl) (by simp) (csD 16 rfl (fun K hK=>?_) (csD 23 rfl (fun K hK=>?_) .nil))<;>go_simp<;>refine hK.out _ _ hHeld (fun hh=>?_)<;>clear hh hK K
      all_goals try simp only[Act.put,List.setIfInBounds_toArray,qLI,qLM]
      · refine wpAnyH_ready (rs:=[23]) (by kernel_rfl) (by simp) (csD 23 rfl (fun K hK=>?_) .nil)
        go_simp
        refine hK.out _ _ (hHeld) (fun hHeld=>?_);clear hK K
        try simp only[Act.put,List.setIfInBounds_toArray,qLI,qLM]
        refine tk (v:=?_) 24 rfl (by kernel_rfl) hHeld (.inl ⟨by rfl,?_⟩) ?_
        rotate_left
        · intro w hSw;(try dsimp only at hSw);go_simp;try with_reducible rfl
        try simp only[Act.put,List.setIfInBounds_toArray,qLI,qLM]
        refine wpAnyH_ready (rs:=[25]) (by kernel_rfl) (by simp) (csD 25 rfl (fun K hK=>?_) .nil)
        go_simp
        refine hK.out _ _ ((qza hSO).trans c1) (fun hHeld=>?_);clear hK K
        try simp only[Act.put,List.setIfInBounds_toArray,qLI,qLM]
        refine tk (v:=?_) 26 rfl (by kernel_rfl) hHeld (.inl ⟨by rfl,?_⟩) ?_
        rotate_left
        · intro w hSw;(try dsimp only at hSw);go_simp;try with_reducible rfl
        try simp only[Act.put,List.setIfInBounds_toArray,qLI,qLM]
        refine wpAnyH_ready (rs:=[27]) (by kernel_rfl) (by simp) (csD 27 rfl (fun K hK=>?_) .nil)
        go_simp
        refine hK.out _ _ ((qzP hSO).trans c1) (fun hHeld=>?_);clear hK K
        try simp only[Act.put,List.setIfInBounds_toArray,qLI,qLM]
        refine wpAnyH_done (by kernel_rfl) (NoPanic.normal ?_) _;exact hG
      · refine wpAnyH_ready (rs:=[16]) (by kernel_rfl) (by simp) (csD 16 rfl (fun K hK=>?_) .nil)
        go_simp
        refine hK.out _ _ (hHeld) (fun hHeld=>?_);clear hK K
        try simp only[Act.put,List.setIfInBounds_toArray,qLI,qLM]
        refine tk (v:=?_) 24 rfl (by kernel_rfl) hHeld (.inl ⟨by rfl,?_⟩) ?_
        rotate_left
        · intro w hSw;(try dsimp only at hSw);go_simp;try with_reducible rfl
        try simp only[Act.put,List.setIfInBounds_toArray,qLI,qLM]
        refine wpAnyH_ready (rs:=[25]) (by kernel_rfl) (by simp) (csD 25 rfl (fun K hK=>?_) .nil)
        go_simp
        refine hK.out _ _ ((qza hSO).trans c1) (fun hHeld=>?_);clear hK K
        try simp only[Act.put,List.setIfInBounds_toArray,qLI,qLM]
        refine tk (v:=?_) 26 rfl (by kernel_rfl) hHeld (.inl ⟨by rfl,?_⟩) ?_
        rotate_left
        · intro w hSw;(try dsimp only at hSw);go_simp;try with_reducible rfl
        try simp only[Act.put,List.setIfInBounds_toArray,qLI,qLM]
        refine wpAnyH_ready (rs:=[27]) (by kernel_rfl) (by simp) (csD 27 rfl (fun K hK=>?_) .nil)
        go_simp
        refine hK.out _ _ ((qzP hSO).trans c1) (fun hHeld=>?_);clear hK K
        try simp only[Act.put,List.setIfInBounds_toArray,qLI,qLM]
        refine wpAnyH_done (by kernel_rfl) (NoPanic.normal ?_) _;exact hG
    case hh =>
      have SW2:=SW.out.grow (Below.refl _ _).drew;have SB2:Below B w ((wr.setCell ⟨O,ii,none⟩ (.slice (some ⟨G2,0,none⟩) C cG2)).setCell ⟨O,s.p,none⟩ (.slice (some ⟨G,0,none⟩) C cG)).drew:=((hB.setCell bO _).setCell bO _).drew;generalize ((wr.setCell ⟨O,ii,none⟩ (.slice (some ⟨G2,0,none⟩) C cG2)).setCell ⟨O,s.p,none⟩ (.slice (some ⟨G,0,none⟩) C cG)).drew=W at SW2 SB2 ⊢;have hd:=E.out.1;rw[if_neg hip] at hd;have d0:=SW2.cell.1;have d4:=SW2.cell.2.2.2.2;have key:=qH1 gl sb hsb S [48] s.det d W.drew (hgl _ SB2.drew) hd SW2.lt d0;unfold q0s at key d4;clear q2 c1 c2 c3 f1 f2 hx hd hB;have SW3:=Lib.hid (SW2.grow (Below.refl _ _).drew);clear SW2 SW
      go_wp2_with fail
      go_region_with (go_at_call 229;refine key.mono ?_;rintro e w1 ⟨rfl,hb⟩;have S4:=Lib.hid (SW3.out.grow hb);have k4:=S4.out.cell.2.2.2.2;have k5:=S4.out.free 4;unfold q0s at k4)
      go_wp2
      go_meet
      go_light
      refine⟨rfl,rfl,rfl,_,_,_,S4.out.setDet d,(SB2.drew.trans (hb.mono ?_)).setCell hS.bs _⟩;have:=SB2.size;show B<=W.heap.size;omega
theorem qJF (B S K N C:Nat)(w:World)(ml dv sb:Op2)(gl:World->Prop)(hgl:∀w',Below B w w'->gl w')(hml:qB2 prog gl 124 ml)(hdv:qB2 prog gl 142 dv)(hsb:qB2 prog gl 115 sb)(hB0:B<=w.heap.size)(hK:K<=N) (hC0:K=0\/K<C) (hN:N<=1000) (hCC:C<=1000) (s0 fin:RS) (hI:qJT B S K N C w w s0) (hp0:s0.p=0) (hl0:s0.lead=[]) (hf:qvq ml dv sb K N C K s0=some fin):Calls prog 209 #[.pointer (some ⟨S,0,none⟩)] w fun e w'=>e=.returned (.tuple #[])/\qJT B S K N C w w' fin:=(mxD B S K N C w ml dv sb gl hgl hml hdv hsb hB0 hK hC0 hN hCC s0 fin).2 (by obtain⟨_,_,_,h,_⟩:=hI;exact h.cell.2.2.1) (Lib.hid ⟨hf,hp0,hl0⟩) (Lib.hid hI) (Lib.hid (mxF B S K N C w ml dv sb gl hgl hml hdv hsb hB0 hK hC0 hN hCC s0 fin))
end Go.Eng

