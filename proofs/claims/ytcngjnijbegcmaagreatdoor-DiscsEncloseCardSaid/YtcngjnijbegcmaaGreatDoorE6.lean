/- Texts of the proof, merged: what the code computes, and plain laws. No statement stands here. -/
import Derived.Test.YtcngjnijbegcmaaGreatDoorE5
namespace Go.Eng
abbrev qLm(r t:TR):TR:=.br (okR r) t .fail
abbrev qLn(c:Bool)(t:TR):TR:=.br c t .fail
abbrev qLo(l:List PV):TR:=.leaf (0,l)
variable (a0 a1 a2 a3 a4 a5 a6 a7 a8 a9 a10 a11 a12 a13 a14 a15 a16 a33:R)
variable (c0 c1 c2 c3 c4 c5 c6 c7 c8 c9 c10 c11 c12 c13 c14 c17 c18 c19 c34 c35 c36 c37:Int)
variable (d0 d1 d2 d3 d4 d5 d7 d8 d9 d10 d11 d15 d25 d31 d32:Bool)
variable (e0 e1 e2 e3 e4 e5 e6 e7 e8 e9 e10 e11 e12 e13 e14 e20 e21 e22 e23 e24 e26 e27 e28 e29 e30 e38 e39 e40 e41 e42:qLp)
theorem qyq:q5V [.i c0]=(.br (ile (-100000) c0) (qLo [.b (ile c0 100000)]) (qLo [.b false])):=by kernel_rfl
theorem qsD:q3P [.i c0,.i c1]=(qLm (q5V [.i c0]) (.br (gB (q5V [.i c0]) 0) (qLm (q5V [.i c1]) (qLo [.b (gB (q5V [.i c1]) 0)])) (qLo [.b false]))):=by kernel_rfl
theorem qgG:uH [.r a0,.i c1]=(.br (ilt c1 (qm a0)) (qLn (inb c1 (qm a0)) (let r0:=q3P [.i (cI a0 c1 0),.i (cI a0 c1 1)];qLm r0 (.br (not (gB r0 0)) (.leaf (2,[.i 2])) (qLo [.r a0,.i (qC .i64 c1 1)])))) (.leaf (1,[]))):=by kernel_rfl
theorem qsJ:q1y [.r a0]=(.br (ilt 64 (qm a0)) (qLo [.i 5]) (let r0:=qh uH [.r a0,.i 0];qLm r0 (.br (jIs r0 0) (qLo [.i 0]) (qLo [.i (gI r0 0)])))):=by kernel_rfl
theorem qs0:q69 [.i c0,.i c1,.i c2,.i c3]=(qLo [.i (qC .i64 (vd .i64 c0 c2) (vd .i64 c1 c3))]):=by kernel_rfl
theorem qs7:q75 [.i c0,.i c1,.i c2,.i c3]=(qLo [.i (yF .i64 c0 c2),.i (yF .i64 c1 c3)]):=by kernel_rfl
theorem qwv:qbq [.i c0,.i c1,.i c2,.i c3]=(let r0:=q75 [.i c0,.i c1,.i c2,.i c3];qLm r0 (qLm r0 (let r1:=q69 [.i (gI r0 0),.i (gI r0 1),.i (gI r0 0),.i (gI r0 1)];qLm r1 (qLo [.i (gI r1 0)])))):=by kernel_rfl
theorem qf3:zv [.i c0,.i c1]=(let r0:=qbq [.i c0,.i c1,.i 0,.i 0];qLm r0 (qLo [.b (ilt 10000 (gI r0 0))])):=by kernel_rfl
theorem qmk:zI [.s e0,.s e1,.s e2]=(qLo [.s e0,.s e1,.s e2]):=by kernel_rfl
theorem qbD:wz [.s e0,.s e1]=(let r0:=vT [.s e0,.s e1];qLm r0 (.br (ile 0 (gI r0 0)) (qLn (q7e (gI r0 0) (qw e0)) (qLn (q7e 0 (gI r0 0)) (qLn (q7e (qw e0) (qw e0)) (qLn (q7e (qC .i64 (gI r0 0) (qw e1)) (qw e0)) (qLo [.s (qcE e0 0 (gI r0 0)),.s (qcE e0 (qC .i64 (gI r0 0) (qw e1)) (qw e0)),.b true]))))) (qLo [.s e0,.s [],.b false]))):=by kernel_rfl
theorem qs6:q6q [.s e0,.s e1]=(let r0:=wz [.s e0,.s e1];qLm r0 (qLo [.s (gS r0 0),.s (gS r0 1),.b (gB r0 2)])):=by kernel_rfl
theorem qvU:qL [.s e0]=(let r0:=q6q [.s e0,.s [47]];qLm r0 (.br (not (gB r0 2)) (qLo [.s (gS r0 0),.s [49],.b (gB r0 2)]) (qLo [.s (gS r0 0),.s (gS r0 1),.b (gB r0 2)]))):=by kernel_rfl
theorem q6Y:qO [.s e0,.s e1]=(.br (ile (qw e1) (qw e0)) (qLn (q7e (qw e1) (qw e0)) (qLn (q7e 0 (qw e1)) (qLo [.b (seq (qcE e0 0 (qw e1)) e1)]))) (qLo [.b false])):=by kernel_rfl
theorem q60:zq [.s e0,.s e1]=(let r0:=qO [.s e0,.s e1];qLm r0 (.br (gB r0 0) (qLn (q7e (qw e0) (qw e0)) (qLn (q7e (qw e1) (qw e0)) (qLo [.s (qcE e0 (qw e1) (qw e0))]))) (qLo [.s e0]))):=by kernel_rfl
theorem qh4:zl [.s e0,.s e1]=(let r0:=zq [.s e0,.s e1];qLm r0 (qLo [.s (gS r0 0)])):=by kernel_rfl
theorem qrU:zh [.s e0]=(let t0:=zl [.s e0,.s [45]];let s0:List UInt8:=(gS t0 0);let t1:TR:=(qLo [.i 3]);let t2:=q8j [.s s0,.s [48,49,50,51,52,53,54,55,56,57]];let t3:TR:=(.br (ilt 1024 (qw s0)) (qLo [.i 11]) (qLo [.i 0]));(qLm t0 (.br (seq s0 []) t1 (qLm t2 (.br (not (seq (gS t2 0) [])) t1 (qLn (inb 0 (qw s0)) (.br (ieq (sat s0 0) 48) (.br (not (seq e0 [48])) t1 t3) t3))))))):=by kernel_rfl
theorem qjK:q6L [.r a0,.i c1,.i c2]=(.br (ilt c2 c1) (qLn (inb c2 (qm a0)) (let r0:=zh [.s (cS a0 c2 0)];qLm r0 (.br (ine (gI r0 0) 0) (.leaf (2,[.i (gI r0 0)])) (qLo [.r a0,.i c1,.i (qC .i64 c2 1)])))) (.leaf (1,[]))):=by kernel_rfl
theorem qwu:wH [.r a0]=(let r0:=qh q6L [.r a0,.i (qm a0),.i 0];qLm r0 (.br (jIs r0 0) (qLo [.i 0]) (qLo [.i (gI r0 0)]))):=by kernel_rfl
theorem quV:ug [.s e0]=(.br (seq e0 [48]) (qLo [.i 0]) (qLn (inb 0 (qw e0)) (.br (ieq (sat e0 0) 45) (qLo [.i (-1)]) (qLo [.i 1])))):=by kernel_rfl
theorem qsr:q6n [.s e0,.s e1]=(.br (ine (qw e0) (qw e1)) (.br (ilt (qw e0) (qw e1)) (qLo [.i (-1)]) (qLo [.i 1])) (let r0:=q3J [.s e0,.s e1];qLm r0 (qLo [.i (gI r0 0)]))):=by kernel_rfl
theorem qpe:uA [.s e0,.s e1]=(let r0:=wH [.r [[.s e0],[.s e1]]];qLm r0 (.br (ine (gI r0 0) 0) (qLo [.i 0,.i (gI r0 0)]) (let r1:=ug [.s e0];qLm r1 (let r2:=ug [.s e1];qLm r2 (.br (ilt (gI r1 0) (gI r2 0)) (qLo [.i (-1),.i 0]) (qLm r2 (.br (ilt (gI r2 0) (gI r1 0)) (qLo [.i 1,.i 0]) (let r3:=zl [.s e0,.s [45]];qLm r3 (let r4:=zl [.s e1,.s [45]];qLm r4 (let r5:=q6n [.s (gS r3 0),.s (gS r4 0)];qLm r5 (qLo [.i (vd .i64 (gI r1 0) (gI r5 0)),.i 0]))))))))))):=by kernel_rfl
theorem qf9:ju [.b d0,.i c1,.r a2]=(let i0:Int:=(yF .i64 c1 1);let t0:TR:=(.leaf (1,[.b d0,.i c1,.r a2]));(.br (ilt 0 c1) (qLn (inb i0 232) (qLn (inb i0 232) (.br (ieq (cI a2 i0 0) 0) (qLo [.b d0,.i i0,.r a2]) t0))) t0)):=by kernel_rfl
theorem qhn:qZ [.b d0,.i c1,.r a2]=(let r0:=qh ju [.b d0,.i c1,.r a2];qLm r0 (qLo [.b (gB r0 0),.i (gI r0 1),.r (gR r0 2)])):=by kernel_rfl
theorem qqY:q4r [.s e0,.b d1,.i c2,.r a3]=(let i0:Int:=(qw e0);let i1:Int:=(qvr 0 (yF .i64 i0 9));let t0:=jU [.s (qcE e0 i1 i0)];(.br (ilt 0 i0) (qLn (q7e i0 i0) (qLn (q7e i1 i0) (qLm t0 (qLn (inb c2 232) (qLn (inb c2 232) (qLn (q7e i1 i0) (qLn (q7e 0 i1) (qLo [.s (qcE e0 0 i1),.b d1,.i (qC .i64 c2 1),.r (qgZ a3 c2 0 [.i (gI t0 0)])])))))))) (.leaf (1,[.b d1,.i c2,.r a3])))):=by kernel_rfl
theorem quU:wL [.s e0]=(qLn (inb 0 (qw e0)) (let r0:=zl [.s e0,.s [45]];qLm r0 (let r1:=qh q4r [.s (gS r0 0),.b (ieq (sat e0 0) 45),.i 0,.r (q4f 232 [.i 0])];qLm r1 (let r2:=qZ [.b (gB r1 0),.i (gI r1 1),.r (gR r1 2)];qLm r2 (qLo [.b (gB r2 0),.i (gI r2 1),.r (gR r2 2)]))))):=by kernel_rfl
theorem qyO:wP [.i c0]=(qLm (q4p [.i c0]) (qLo [.s (gS (q4p [.i c0]) 0)])):=by kernel_rfl
theorem qgR:yg [.i c0,.b d1,.i c2,.r a3,.b d4,.i c5,.r a6]=(let b0:Bool:=(inb c0 232);let p0:List PV:=[.b d1,.i c2,.r a3,.b d4,.i c5,.r a6];(.br (ile 0 c0) (qLn b0 (qLn b0 (qLn b0 (qLn b0 (.br (ine (cI a3 c0 0) (cI a6 c0 0)) (qLn b0 (qLn b0 (qLn b0 (qLn b0 (.leaf (2,((.i (yF .i64 (cI a3 c0 0) (cI a6 c0 0)))::p0))))))) (qLo ((.i (yF .i64 c0 1))::p0))))))) (.leaf (1,p0)))):=by kernel_rfl
theorem qiT:vn [.b d0,.i c1,.r a2,.b d3,.i c4,.r a5]=(.br (ine c1 c4) (qLo [.i (yF .i64 c1 c4),.b d0,.i c1,.r a2,.b d3,.i c4,.r a5]) (let r0:=qh yg [.i (yF .i64 c1 1),.b d0,.i c1,.r a2,.b d3,.i c4,.r a5];qLm r0 (.br (jIs r0 0) (qLo [.i 0,.b (gB r0 0),.i (gI r0 1),.r (gR r0 2),.b (gB r0 3),.i (gI r0 4),.r (gR r0 5)]) (qLo [.i (gI r0 0),.b (gB r0 1),.i (gI r0 2),.r (gR r0 3),.b (gB r0 4),.i (gI r0 5),.r (gR r0 6)])))):=by kernel_rfl
theorem qn0:q1R [.b d0,.i c1,.r a2,.b d3,.i c4,.r a5]=(let i0:Int:=(yF .i64 c4 1);let b0:Bool:=(ilt i0 0);let b1:Bool:=(ilt 1 c4);let p0:List PV:=[.b d0,.i c1,.r a2,.b d3,.i c4,.r a5];let t0:TR:=(qLo ((.i 1)::p0));let b2:Bool:=(ile c4 i0);let b3:Bool:=(inb i0 232);let i1:Int:=(cI a5 i0 0);let i2:Int:=(qC .i64 i1 1);let b4:Bool:=(ine i2 0);let b5:Bool:=(ine i1 0);let t1:TR:=(.br b0 (qLn b1 t0) (.br b2 (qLn b1 t0) (qLn b3 (qLn b3 (.br b1 (qLn b4 (.br (ilt 0 (qcK .i64 0 i2)) (qLo ((.i (qkU (qcK .i64 0 i2) 999999999))::p0)) t0)) (qLn b5 (.br (ilt 0 (qcK .i64 0 i1)) (qLo ((.i (qkU (qcK .i64 0 i1) 999999999))::p0)) t0)))))));let i3:Int:=(qC .i64 0 (cI a2 i0 0));let t2:TR:=(qLn b1 (.br (ilt 0 (qcK .i64 i3 1)) (qLo ((.i (qkU (qcK .i64 i3 1) 999999999))::p0)) t0));let t3:TR:=(.br b0 t1 (.br (ile c1 i0) t1 (qLn b3 (qLn b3 (.br b0 t2 (.br b2 t2 (qLn b3 (qLn b3 (.br b1 (qLn b4 (.br (ilt 0 (qcK .i64 i3 i2)) (qLo ((.i (qkU (qcK .i64 i3 i2) 999999999))::p0)) t0)) (qLn b5 (.br (ilt 0 (qcK .i64 i3 i1)) (qLo ((.i (qkU (qcK .i64 i3 i1) 999999999))::p0)) t0)))))))))));let i4:Int:=(vd .i64 (cI a2 c4 0) 1000000000);let i5:Int:=(qC .i64 i4 0);let t4:TR:=(qLn b1 (.br (ilt 0 (qcK .i64 i5 1)) (qLo ((.i (qkU (qcK .i64 i5 1) 999999999))::p0)) t0));let t5:TR:=(.br b0 t4 (.br b2 t4 (qLn b3 (qLn b3 (.br b1 (qLn b4 (.br (ilt 0 (qcK .i64 i5 i2)) (qLo ((.i (qkU (qcK .i64 i5 i2) 999999999))::p0)) t0)) (qLn b5 (.br (ilt 0 (qcK .i64 i5 i1)) (qLo ((.i (qkU (qcK .i64 i5 i1) 999999999))::p0)) t0)))))));let i6:Int:=(qC .i64 i4 (cI a2 i0 0));let t6:TR:=(qLn b1 (.br (ilt 0 (qcK .i64 i6 1)) (qLo ((.i (qkU (qcK .i64 i6 1) 999999999))::p0)) t0));(.br (ilt c4 0) t3 (.br (ile c1 c4) t3 (qLn (inb c4 232) (qLn (inb c4 232) (.br b0 t5 (.br (ile c1 i0) t5 (qLn b3 (qLn b3 (.br b0 t6 (.br b2 t6 (qLn b3 (qLn b3 (.br b1 (qLn b4 (.br (ilt 0 (qcK .i64 i6 i2)) (qLo ((.i (qkU (qcK .i64 i6 i2) 999999999))::p0)) t0)) (qLn b5 (.br (ilt 0 (qcK .i64 i6 i1)) (qLo ((.i (qkU (qcK .i64 i6 i1) 999999999))::p0)) t0)))))))))))))))):=by kernel_rfl
theorem q8x:jk [.i c0,.i c1,.i c2,.i c3,.b d4,.i c5,.r a6,.b d7,.i c8,.r a9]=(let i0:Int:=(qC .i64 c3 c1);let b0:Bool:=(inb i0 232);let i1:Int:=(qC .i64 (cI a6 i0 0) c2);let i2:Int:=(qC .i64 i1 (vd .i64 c0 (cI a9 c3 0)));let i3:Int:=(qcK .i64 i2 1000000000);let i4:Int:=(yF .i64 i2 (vd .i64 i3 1000000000));let p0:List PV:=[.b d7,.i c8,.r a9];let i5:Int:=(qvr c5 (qC .i64 i0 1));let i6:Int:=(qC .i64 c3 1);let i7:Int:=(qcK .i64 i1 1000000000);let i8:Int:=(yF .i64 i1 (vd .i64 i7 1000000000));let t0:TR:=(qLn b0 (qLn b0 (.br (ilt c3 c8) (qLn (inb c3 232) (qLn (inb c3 232) (.br (ilt i4 0) (qLn b0 (qLn b0 (qLo ((.i c0)::(.i c1)::(.i (yF .i64 i3 1))::(.i i6)::(.b d4)::(.i i5)::(.r (qgZ a6 i0 0 [.i (qC .i64 i4 1000000000)]))::p0)))) (qLn b0 (qLn b0 (qLo ((.i c0)::(.i c1)::(.i i3)::(.i i6)::(.b d4)::(.i i5)::(.r (qgZ a6 i0 0 [.i i4]))::p0))))))) (.br (ilt i8 0) (qLn b0 (qLn b0 (qLo ((.i c0)::(.i c1)::(.i (yF .i64 i7 1))::(.i i6)::(.b d4)::(.i i5)::(.r (qgZ a6 i0 0 [.i (qC .i64 i8 1000000000)]))::p0)))) (qLn b0 (qLn b0 (qLo ((.i c0)::(.i c1)::(.i i7)::(.i i6)::(.b d4)::(.i i5)::(.r (qgZ a6 i0 0 [.i i8]))::p0))))))));(.br (ilt c3 c8) t0 (.br (ine c2 0) t0 (.leaf (1,((.b d4)::(.i c5)::(.r a6)::p0)))))):=by kernel_rfl
theorem qkb:zd [.i c0,.i c1,.b d2,.i c3,.r a4,.b d5,.i c6,.r a7]=(let r0:=qh jk [.i c0,.i c1,.i 0,.i 0,.b d2,.i c3,.r a4,.b d5,.i c6,.r a7];qLm r0 (let r1:=qZ [.b (gB r0 0),.i (gI r0 1),.r (gR r0 2)];qLm r1 (qLo [.b (gB r1 0),.i (gI r1 1),.r (gR r1 2),.b (gB r0 3),.i (gI r0 4),.r (gR r0 5)]))):=by kernel_rfl
theorem qkk:yB [.i c0,.i c1,.b d2,.i c3,.r a4,.b d5,.i c6,.r a7,.b d8,.i c9,.r a10,.b d11,.i c12,.r a13]=(let r0:=vn [.b d11,.i c12,.r a13,.b d5,.i c6,.r a7];qLm r0 (.br (ile 0 (gI r0 0)) (let r1:=q1R [.b (gB r0 1),.i (gI r0 2),.r (gR r0 3),.b (gB r0 4),.i (gI r0 5),.r (gR r0 6)];qLm r1 (let r2:=zd [.i (yF .i64 0 (gI r1 0)),.i 0,.b (gB r1 1),.i (gI r1 2),.r (gR r1 3),.b (gB r1 4),.i (gI r1 5),.r (gR r1 6)];qLm r2 (qLo [.i c0,.i (qC .i64 c1 (gI r1 0)),.b d2,.i c3,.r a4,.b (gB r2 3),.i (gI r2 4),.r (gR r2 5),.b d8,.i c9,.r a10,.b (gB r2 0),.i (gI r2 1),.r (gR r2 2)]))) (.leaf (1,[.i c0,.i c1,.b d2,.i c3,.r a4,.b (gB r0 4),.i (gI r0 5),.r (gR r0 6),.b d8,.i c9,.r a10,.b (gB r0 1),.i (gI r0 2),.r (gR r0 3)])))):=by kernel_rfl
theorem qlI:q10 [.i c0,.b d1,.i c2,.r a3,.b d4,.i c5,.r a6,.b d7,.i c8,.r a9,.b d10,.i c11,.r a12]=(.br (ile 0 c0) (qLn (q7e 232 232) (qLn (q7e 1 232) (qLn (q7e c11 232) (qLn (q7e 0 c11) (qLn (inb c0 232) (qLn (inb c0 232) (let r0:=qZ [.b d10,.i (qC .i64 c11 1),.r (qgZ (qmf a12 1 a12 0 (qkU (qxQ c11 0) (qxQ 232 1))) 0 0 [.i (cI a3 c0 0)])];qLm r0 (let r1:=qh yB [.i c0,.i 0,.b d1,.i c2,.r a3,.b d4,.i c5,.r a6,.b d7,.i c8,.r a9,.b (gB r0 0),.i (gI r0 1),.r (gR r0 2)];qLm r1 (qLn (inb (gI r1 0) 232) (qLn (inb (gI r1 0) 232) (qLo [.i (yF .i64 (gI r1 0) 1),.b (gB r1 2),.i (gI r1 3),.r (gR r1 4),.b (gB r1 5),.i (gI r1 6),.r (gR r1 7),.b (gB r1 8),.i (qvr (gI r1 9) (qC .i64 (gI r1 0) 1)),.r (qgZ (gR r1 10) (gI r1 0) 0 [.i (gI r1 1)]),.b (gB r1 11),.i (gI r1 12),.r (gR r1 13)]))))))))))) (.leaf (1,[.b d1,.i c2,.r a3,.b d4,.i c5,.r a6,.b d7,.i c8,.r a9,.b d10,.i c11,.r a12]))):=by kernel_rfl
theorem qpb:uM [.b d0,.i c1,.r a2,.b d3,.i c4,.r a5]=(let r0:=qh q10 [.i (yF .i64 c1 1),.b d0,.i c1,.r a2,.b d3,.i c4,.r a5,.b false,.i 0,.r (q4f 232 [.i 0]),.b false,.i 0,.r (q4f 232 [.i 0])];qLm r0 (let r1:=qZ [.b (gB r0 6),.i (gI r0 7),.r (gR r0 8)];qLm r1 (qLo [.b (gB r0 0),.i (gI r0 1),.r (gR r0 2),.b (gB r0 3),.i (gI r0 4),.r (gR r0 5),.b (gB r1 0),.i (gI r1 1),.r (gR r1 2),.b (gB r0 9),.i (gI r0 10),.r (gR r0 11)]))):=by kernel_rfl
theorem qqs:q26 [.i c0,.i c1]=(.br (ine c1 0) (qLn (ine c1 0) (qLo [.i c1,.i (qb4 c0 c1)])) (.leaf (1,[.i c0]))):=by kernel_rfl
theorem qsa:q6K [.b d0,.i c1,.r a2,.b d3,.i c4,.r a5]=(let t0:=qh q26 [.i (cI a2 0 0),.i (cI a5 0 0)];let t1:=wP [.i (gI t0 0)];let t2:=uM [.b d0,.i c1,.r a2,.b d3,.i c4,.r a5];let t3:TR:=(qLm t2 (qLo [.b (gB t2 3),.i (gI t2 4),.r (gR t2 5),.b (gB t2 9),.i (gI t2 10),.r (gR t2 11)]));(.br (ilt 0 c4) (.br (ile c1 1) (.br (ile c4 1) (qLm t0 (qLm t1 (.leaf (2,[.s (gS t1 0),.i 0])))) t3) t3) (.leaf (1,[.b d0,.i c1,.r a2])))):=by kernel_rfl
theorem qvE:q2L [.s e0,.s e1]=(let r0:=wH [.r [[.s e0],[.s e1]]];qLm r0 (.br (ine (gI r0 0) 0) (qLo [.s [],.i (gI r0 0)]) (let r1:=wL [.s e0];qLm r1 (let r2:=wL [.s e1];qLm r2 (let r3:=qh q6K [.b (gB r1 0),.i (gI r1 1),.r (gR r1 2),.b (gB r2 0),.i (gI r2 1),.r (gR r2 2)];qLm r3 (.br (jIs r3 0) (let r4:=zB [.b false,.i (gI r3 1),.r (gR r3 2)];qLm r4 (qLo [.s (gS r4 0),.i 0])) (qLo [.s (gS r3 0),.i (gI r3 1)]))))))):=by kernel_rfl
theorem qrM:qP [.s e0]=(let t0:=qL [.s e0];let t1:=zh [.s (gS t0 0)];let p0:List PV:=[.s (gS t0 1)];let t2:TR:=(qLo [.i 3]);let i0:Int:=(gI (zh p0) 0);let t3:TR:=(qLo [.i (qvr (gI t1 0) i0)]);let t4:TR:=(qLo [.i 0]);let t5:=uA [.s (gS t0 1),.s [49]];let t6:=q2L ((.s (gS t0 0))::p0);(qLm t0 (qLm t1 (qLm (zh p0) (.br (ieq (gI t1 0) 3) t2 (.br (ieq i0 3) t2 (.br (ine (gI t1 0) 0) t3 (.br (ine i0 0) t3 (.br (not (gB t0 2)) t4 (qLm t5 (qLm t6 (.br (ine (gI t5 1) 0) t2 (.br (ine (gI t6 1) 0) t2 (.br (ile (gI t5 0) 0) t2 (.br (not (seq (gS t6 0) [49])) t2 t4))))))))))))))):=by kernel_rfl
theorem q55:q38 [.i c0,.i c1,.s e2,.s e3,.s e4,.r a5]=(.br (ilt c1 c0) (qLn (inb c1 (qm a5)) (let r0:=qP [.s (cS a5 c1 0)];qLm r0 (.br (ine (gI r0 0) 0) (.leaf (2,[.i (gI r0 0)])) (qLo [.i c0,.i (qC .i64 c1 1),.s e2,.s e3,.s e4,.r a5])))) (.leaf (1,[.s e2,.s e3,.s e4]))):=by kernel_rfl
theorem qrS:jM [.s e0,.s e1,.s e2]=(let r0:=qh q38 [.i (qm [[.s e0],[.s e1],[.s e2]]),.i 0,.s e0,.s e1,.s e2,.r [[.s e0],[.s e1],[.s e2]]];qLm r0 (.br (jIs r0 0) (qLn (inb 0 (qw (gS r0 2))) (.br (ieq (sat (gS r0 2) 0) 45) (qLo [.i 2]) (qLo [.i 0]))) (qLo [.i (gI r0 0)]))):=by kernel_rfl
theorem qhN:q4j [.r a0,.r a1,.i c2,.i c3]=(.br (ilt c3 c2) (qLn (inb c3 (qm a1)) (let r0:=jM [.s (cS a1 c3 0),.s (cS a1 c3 1),.s (cS a1 c3 2)];qLm r0 (.br (ine (gI r0 0) 0) (.leaf (2,[.i (gI r0 0)])) (qLo [.r a0,.r a1,.i c2,.i (qC .i64 c3 1)])))) (.leaf (1,[.r a0]))):=by kernel_rfl
theorem qtP:q1m [.r a0]=(.br (ilt 64 (qm a0)) (qLo [.i 5]) (let r0:=qh q4j [.r a0,.r a0,.i (qm a0),.i 0];qLm r0 (.br (jIs r0 0) (.br (ieq (qm (gR r0 0)) 0) (qLo [.i 13]) (qLo [.i 0])) (qLo [.i (gI r0 0)])))):=by kernel_rfl
theorem qsA:uc [.s e0,.s e1]=(.br (ilt 9 (qw e0)) (qLo [.i 0,.i 0,.b false]) (.br (ilt 9 (qw e1)) (qLo [.i 0,.i 0,.b false]) (qLm (jU [.s e0]) (qLm (jU [.s e1]) (qLo [.i (gI (jU [.s e0]) 0),.i (gI (jU [.s e1]) 0),.b true]))))):=by kernel_rfl
theorem qqM:q05 [.i c0]=(qLm (wP [.i c0]) (qLo [.s (gS (wP [.i c0]) 0),.i 0])):=by kernel_rfl
theorem qhE:yV [.i c0,.i c1,.b d2,.i c3,.r a4,.b d5,.i c6,.r a7,.b d8,.i c9,.r a10]=(.br (ilt c1 c0) (qLn (inb c1 232) (qLn (inb c1 232) (let r0:=zd [.i (cI a7 c1 0),.i c1,.b d8,.i c9,.r a10,.b d2,.i c3,.r a4];qLm r0 (qLo [.i c0,.i (qC .i64 c1 1),.b (gB r0 3),.i (gI r0 4),.r (gR r0 5),.b d5,.i c6,.r a7,.b (gB r0 0),.i (gI r0 1),.r (gR r0 2)])))) (.leaf (1,[.b d2,.i c3,.r a4,.b d5,.i c6,.r a7,.b d8,.i c9,.r a10]))):=by kernel_rfl
theorem qk4:kz [.b d0,.i c1,.r a2,.b d3,.i c4,.r a5]=(let r0:=qh yV [.i c4,.i 0,.b d0,.i c1,.r a2,.b d3,.i c4,.r a5,.b (not (beq d0 d3)),.i 0,.r (q4f 232 [.i 0])];qLm r0 (qLo [.b (gB r0 0),.i (gI r0 1),.r (gR r0 2),.b (gB r0 3),.i (gI r0 4),.r (gR r0 5),.b (gB r0 6),.i (gI r0 7),.r (gR r0 8)])):=by kernel_rfl
theorem qhh:wC [.b d0,.i c1,.r a2]=(let r0:=zB [.b d0,.i c1,.r a2];qLm r0 (let r1:=zh [.s (gS r0 0)];qLm r1 (.br (ine (gI r1 0) 0) (qLo [.s [],.i (gI r1 0),.b (gB r0 1),.i (gI r0 2),.r (gR r0 3)]) (qLo [.s (gS r0 0),.i 0,.b (gB r0 1),.i (gI r0 2),.r (gR r0 3)])))):=by kernel_rfl
theorem qwg:q5f [.s e0,.s e1]=(let r0:=wH [.r [[.s e0],[.s e1]]];qLm r0 (.br (ine (gI r0 0) 0) (qLo [.s [],.i (gI r0 0)]) (let r1:=uc [.s e0,.s e1];qLm r1 (.br (gB r1 2) (let r2:=q05 [.i (vd .i64 (gI r1 0) (gI r1 1))];qLm r2 (qLo [.s (gS r2 0),.i (gI r2 1)])) (let r2:=wL [.s e0];qLm r2 (let r3:=wL [.s e1];qLm r3 (let r4:=kz [.b (gB r2 0),.i (gI r2 1),.r (gR r2 2),.b (gB r3 0),.i (gI r3 1),.r (gR r3 2)];qLm r4 (let r5:=wC [.b (gB r4 6),.i (gI r4 7),.r (gR r4 8)];qLm r5 (qLo [.s (gS r5 0),.i (gI r5 1)]))))))))):=by kernel_rfl
theorem qbZ:zP [.s e0,.s e1,.i c2]=(.br (ine c2 0) (qLo [.s [48],.i c2]) (let r0:=q5f [.s e0,.s e1];qLm r0 (.br (ine (gI r0 1) 0) (qLo [.s [48],.i (gI r0 1)]) (qLo [.s (gS r0 0),.i (gI r0 1)])))):=by kernel_rfl
theorem qbC:yG [.s e0,.r a1,.i c2,.i c3,.i c4]=(.br (ilt c3 c2) (qLn (inb c3 (qm a1)) (let r0:=zP [.s e0,.s (cS a1 c3 0),.i c4];qLm r0 (qLo [.s (gS r0 0),.r a1,.i c2,.i (qC .i64 c3 1),.i (gI r0 1)]))) (.leaf (1,[.s e0,.i c4]))):=by kernel_rfl
theorem qnv:qg [.r a0,.i c1]=(let r0:=qh yG [.s [49],.r a0,.i (qm a0),.i 0,.i c1];qLm r0 (qLo [.s (gS r0 0),.i (gI r0 1)])):=by kernel_rfl
theorem qme:vH [.b d0,.i c1,.r a2,.b d3,.i c4,.r a5]=(.br (beq d0 d3) (let r0:=zd [.i 1,.i 0,.b d0,.i c1,.r a2,.b d3,.i c4,.r a5];qLm r0 (qLo [.b (gB r0 0),.i (gI r0 1),.r (gR r0 2),.b (gB r0 3),.i (gI r0 4),.r (gR r0 5)])) (let r0:=vn [.b d0,.i c1,.r a2,.b d3,.i c4,.r a5];qLm r0 (.br (ile 0 (gI r0 0)) (let r1:=zd [.i (-1),.i 0,.b (gB r0 1),.i (gI r0 2),.r (gR r0 3),.b (gB r0 4),.i (gI r0 5),.r (gR r0 6)];qLm r1 (qLo [.b (gB r1 0),.i (gI r1 1),.r (gR r1 2),.b (gB r1 3),.i (gI r1 4),.r (gR r1 5)])) (let r1:=zd [.i (-1),.i 0,.b (gB r0 4),.i (gI r0 5),.r (gR r0 6),.b (gB r0 1),.i (gI r0 2),.r (gR r0 3)];qLm r1 (qLo [.b (gB r1 0),.i (gI r1 1),.r (gR r1 2),.b (gB r0 4),.i (gI r0 5),.r (gR r0 6)]))))):=by kernel_rfl
theorem qdx:q6B [.r a0,.i c1,.i c2,.b d3,.i c4,.r a5]=(.br (ilt c2 c1) (qLn (inb c2 (qm a0)) (let r0:=wL [.s (cS a0 c2 0)];qLm r0 (let r1:=vH [.b d3,.i c4,.r a5,.b (gB r0 0),.i (gI r0 1),.r (gR r0 2)];qLm r1 (qLo [.r a0,.i c1,.i (qC .i64 c2 1),.b (gB r1 0),.i (gI r1 1),.r (gR r1 2)])))) (.leaf (1,[.b d3,.i c4,.r a5]))):=by kernel_rfl
theorem qw8:qbJ [.r a0]=(let r0:=qh q6B [.r a0,.i (qm a0),.i 0,.b false,.i 0,.r (q4f 232 [.i 0])];qLm r0 (let r1:=wC [.b (gB r0 0),.i (gI r0 1),.r (gR r0 2)];qLm r1 (qLo [.s (gS r1 0),.i (gI r1 1)]))):=by kernel_rfl
theorem qw5:q2Q [.s e0,.s e1]=(let r0:=wH [.r [[.s e0],[.s e1]]];qLm r0 (.br (ine (gI r0 0) 0) (qLo [.s [],.i (gI r0 0)]) (let r1:=uc [.s e0,.s e1];qLm r1 (.br (gB r1 2) (let r2:=q05 [.i (qC .i64 (gI r1 0) (gI r1 1))];qLm r2 (qLo [.s (gS r2 0),.i (gI r2 1)])) (let r2:=qbJ [.r [[.s e0],[.s e1]]];qLm r2 (qLo [.s (gS r2 0),.i (gI r2 1)])))))):=by kernel_rfl
theorem qn7:q1W [.s e0]=(let r0:=ug [.s e0];qLm r0 (.br (ieq (gI r0 0) 0) (qLo [.s e0]) (.br (ieq (gI r0 0) 1) (qLn (ile ((qw [45])+(qw e0)) 140737488355328) (qLo [.s (qeI [45] e0)])) (qLn (q7e (qw e0) (qw e0)) (qLn (q7e 1 (qw e0)) (qLo [.s (qcE e0 1 (qw e0))])))))):=by kernel_rfl
theorem qx3:q7v [.s e0,.s e1]=(let r0:=wH [.r [[.s e0],[.s e1]]];qLm r0 (.br (ine (gI r0 0) 0) (qLo [.s [],.i (gI r0 0)]) (let r1:=q1W [.s e1];qLm r1 (let r2:=q2Q [.s e0,.s (gS r1 0)];qLm r2 (qLo [.s (gS r2 0),.i (gI r2 1)]))))):=by kernel_rfl
theorem qc8:wT [.s e0,.s e1,.i c2]=(.br (ine c2 0) (qLo [.s [48],.i c2]) (let r0:=q7v [.s e0,.s e1];qLm r0 (.br (ine (gI r0 1) 0) (qLo [.s [48],.i (gI r0 1)]) (qLo [.s (gS r0 0),.i (gI r0 1)])))):=by kernel_rfl
theorem qnW:zx [.s e0,.s e1,.i c2]=(let r0:=wT [.s e0,.s e1,.i c2];qLm r0 (qLo [.s (gS r0 0),.i (gI r0 1)])):=by kernel_rfl
theorem qrX:q3i [.s e0,.s e1,.s e2,.s e3,.i c4]=(let r0:=qg [.r [[.s e0],[.s e3]],.i c4];qLm r0 (let r1:=qg [.r [[.s e2],[.s e1]],.i (gI r0 1)];qLm r1 (let r2:=zx [.s (gS r0 0),.s (gS r1 0),.i (gI r1 1)];qLm r2 (let r3:=qg [.r [[.s e1],[.s e3]],.i (gI r2 1)];qLm r3 (qLo [.s (gS r2 0),.s (gS r3 0),.i (gI r3 1)]))))):=by kernel_rfl
theorem qdZ:q1Y [.r a0,.i c1,.i c2]=(.br (ilt c2 c1) (qLn (inb c2 (qm a0)) (let r0:=qP [.s (cS a0 c2 0)];qLm r0 (.br (ine (gI r0 0) 0) (.leaf (2,[.i (gI r0 0)])) (qLo [.r a0,.i c1,.i (qC .i64 c2 1)])))) (.leaf (1,[]))):=by kernel_rfl
theorem qpA:qE [.r a0]=(let r0:=qh q1Y [.r a0,.i (qm a0),.i 0];qLm r0 (.br (jIs r0 0) (qLo [.i 0]) (qLo [.i (gI r0 0)]))):=by kernel_rfl
theorem qiV:uK [.s e0,.s e1]=(let r0:=qO [.s e0,.s e1];qLm r0 (qLo [.b (gB r0 0)])):=by kernel_rfl
theorem qqN:q29 [.s e0,.s e1]=(.br (seq e1 [49]) (qLo [.s e0]) (qLn (ile ((qw e0)+(qw [47])) 140737488355328) (qLn (ile ((qw (qeI e0 [47]))+(qw e1)) 140737488355328) (qLo [.s (qeI (qeI e0 [47]) e1)])))):=by kernel_rfl
theorem qqy:q4I [.s e0,.s e1]=(let t0:=wH [.r [[.s e0],[.s e1]]];let t1:=uc [.s e0,.s e1];let i0:Int:=(gI t1 1);let i1:Int:=(qb4 (gI t1 0) i0);let i2:Int:=(qcK .i64 (gI t1 0) i0);let t2:=wP [.i (yF .i64 i2 1)];let t3:=wP [.i (qC .i64 i1 i0)];let t4:TR:=(qLm (wP [.i i2]) (qLm (wP [.i i1]) (qLo [.s (gS (wP [.i i2]) 0),.s (gS (wP [.i i1]) 0),.i 0])));let t5:=wL [.s e0];let t6:=wL [.s e1];let t7:=uM [.b (gB t5 0),.i (gI t5 1),.r (gR t5 2),.b (gB t6 0),.i (gI t6 1),.r (gR t6 2)];let b0:Bool:=(not (beq (gB t7 0) (gB t7 3)));let t8:=vH [.b true,.i (gI t7 7),.r (gR t7 8),.b true,.i 1,.r (qgZ (q4f 232 [.i 0]) 0 0 [.i 1])];let t9:=vH [.b (gB t7 0),.i (gI t7 10),.r (gR t7 11),.b (gB t7 3),.i (gI t7 4),.r (gR t7 5)];let t10:=zB [.b (gB t8 0),.i (gI t8 1),.r (gR t8 2)];let t11:=zB [.b (gB t9 0),.i (gI t9 1),.r (gR t9 2)];let t12:=zB [.b b0,.i (gI t7 7),.r (gR t7 8)];let t13:=zB [.b (gB t7 0),.i (gI t7 10),.r (gR t7 11)];let t14:TR:=(qLm t12 (qLm t13 (qLo [.s (gS t12 0),.s (gS t13 0),.i 0])));(qLm t0 (.br (ine (gI t0 0) 0) (qLo [.s [],.s [],.i (gI t0 0)]) (.br (seq e1 [48]) (qLo [.s [],.s [],.i 10]) (qLm t1 (.br (gB t1 2) (qLn (ine i0 0) (qLn (ine i0 0) (.br (ine i1 0) (.br (not (beq (ilt i1 0) (ilt i0 0))) (qLm t2 (qLm t3 (qLo [.s (gS t2 0),.s (gS t3 0),.i 0]))) t4) t4))) (qLm t5 (qLm t6 (qLm t7 (.br (ilt 0 (gI t7 10)) (.br b0 (qLm t8 (qLm t9 (qLm t10 (qLm t11 (qLo [.s (gS t10 0),.s (gS t11 0),.i 0]))))) t14) t14)))))))))):=by kernel_rfl
theorem qvA:q7G [.s e0,.s e1]=(let r0:=q4I [.s e0,.s e1];qLm r0 (.br (ine (gI r0 2) 0) (qLo [.s [],.i (gI r0 2)]) (let r1:=zh [.s (gS r0 0)];qLm r1 (.br (ine (gI r1 0) 0) (qLo [.s [],.i (gI r1 0)]) (qLo [.s (gS r0 0),.i 0]))))):=by kernel_rfl
theorem qc0:wS [.s e0,.s e1,.i c2]=(.br (ine c2 0) (qLo [.s [48],.i c2]) (let r0:=q2L [.s e0,.s e1];qLm r0 (.br (ine (gI r0 1) 0) (qLo [.s [48],.i (gI r0 1)]) (qLo [.s (gS r0 0),.i (gI r0 1)])))):=by kernel_rfl
theorem qc2:z7 [.s e0,.s e1,.i c2]=(.br (ine c2 0) (qLo [.s [48],.i c2]) (let r0:=q7G [.s e0,.s e1];qLm r0 (.br (ine (gI r0 1) 0) (qLo [.s [48],.i (gI r0 1)]) (qLo [.s (gS r0 0),.i (gI r0 1)])))):=by kernel_rfl
theorem qj4:zf [.s e0,.s e1,.i c2]=(let r0:=wS [.s e0,.s e1,.i c2];qLm r0 (let r1:=uK [.s e1,.s [45]];qLm r1 (.br (gB r1 0) (let r2:=zx [.s [48],.s (gS r0 0),.i (gI r0 1)];qLm r2 (.br (ine (gI r2 1) 0) (qLo [.s [],.i (gI r2 1)]) (let r3:=z7 [.s e0,.s (gS r2 0),.i (gI r2 1)];qLm r3 (let r4:=z7 [.s e1,.s (gS r2 0),.i (gI r3 1)];qLm r4 (let r5:=q29 [.s (gS r3 0),.s (gS r4 0)];qLm r5 (qLo [.s (gS r5 0),.i (gI r4 1)])))))) (.br (ine (gI r0 1) 0) (qLo [.s [],.i (gI r0 1)]) (let r2:=z7 [.s e0,.s (gS r0 0),.i (gI r0 1)];qLm r2 (let r3:=z7 [.s e1,.s (gS r0 0),.i (gI r2 1)];qLm r3 (let r4:=q29 [.s (gS r2 0),.s (gS r3 0)];qLm r4 (qLo [.s (gS r4 0),.i (gI r3 1)])))))))):=by kernel_rfl
theorem qdL:vu [.s e0,.s e1]=(let r0:=qE [.r [[.s e0],[.s e1]]];qLm r0 (.br (ine (gI r0 0) 0) (qLo [.s [],.i (gI r0 0)]) (let r1:=qL [.s e0];qLm r1 (let r2:=qL [.s e1];qLm r2 (let r3:=q3i [.s (gS r1 0),.s (gS r1 1),.s (gS r2 0),.s (gS r2 1),.i 0];qLm r3 (.br (ine (gI r3 2) 0) (qLo [.s [],.i (gI r3 2)]) (.br (seq (gS r3 1) [48]) (qLo [.s [],.i 10]) (let r4:=zf [.s (gS r3 0),.s (gS r3 1),.i (gI r3 2)];qLm r4 (qLo [.s (gS r4 0),.i (gI r4 1)]))))))))):=by kernel_rfl
theorem qwC:zJ [.s e0,.s e1]=(let r0:=vu [.s e0,.s e1];qLm r0 (qLo [.s (gS r0 0),.i (gI r0 1)])):=by kernel_rfl
theorem qc9:wU [.s e0,.s e1,.i c2]=(.br (ine c2 0) (qLo [.s [48],.i c2]) (let r0:=zJ [.s e0,.s e1];qLm r0 (.br (ine (gI r0 1) 0) (qLo [.s [48],.i (gI r0 1)]) (qLo [.s (gS r0 0),.i (gI r0 1)])))):=by kernel_rfl
theorem qo1:qN [.s e0,.s e1,.i c2]=(let r0:=wU [.s e0,.s e1,.i c2];qLm r0 (qLo [.s (gS r0 0),.i (gI r0 1)])):=by kernel_rfl
theorem qm8:wk [.s e0,.s e1,.s e2,.s e3,.i c4]=(let r0:=qN [.s e0,.s e2,.i c4];qLm r0 (let r1:=qN [.s e1,.s e3,.i (gI r0 1)];qLm r1 (qLo [.s (gS r0 0),.s (gS r1 0),.i (gI r1 1)]))):=by kernel_rfl
theorem qc6:v6 [.s e0,.s e1,.i c2]=(.br (ine c2 0) (qLo [.s [48],.i c2]) (let r0:=q2Q [.s e0,.s e1];qLm r0 (.br (ine (gI r0 1) 0) (qLo [.s [48],.i (gI r0 1)]) (qLo [.s (gS r0 0),.i (gI r0 1)])))):=by kernel_rfl
theorem qnT:yQ [.s e0,.s e1,.i c2]=(let r0:=v6 [.s e0,.s e1,.i c2];qLm r0 (qLo [.s (gS r0 0),.i (gI r0 1)])):=by kernel_rfl
theorem qs8:q3C [.s e0,.s e1,.s e2,.s e3,.i c4]=(let r0:=qg [.r [[.s e0],[.s e3]],.i c4];qLm r0 (let r1:=qg [.r [[.s e2],[.s e1]],.i (gI r0 1)];qLm r1 (let r2:=yQ [.s (gS r0 0),.s (gS r1 0),.i (gI r1 1)];qLm r2 (let r3:=qg [.r [[.s e1],[.s e3]],.i (gI r2 1)];qLm r3 (qLo [.s (gS r2 0),.s (gS r3 0),.i (gI r3 1)]))))):=by kernel_rfl
theorem qdU:vM [.s e0,.s e1]=(let r0:=qE [.r [[.s e0],[.s e1]]];qLm r0 (.br (ine (gI r0 0) 0) (qLo [.s [],.i (gI r0 0)]) (let r1:=qL [.s e0];qLm r1 (let r2:=qL [.s e1];qLm r2 (let r3:=q3C [.s (gS r1 0),.s (gS r1 1),.s (gS r2 0),.s (gS r2 1),.i 0];qLm r3 (.br (ine (gI r3 2) 0) (qLo [.s [],.i (gI r3 2)]) (.br (seq (gS r3 1) [48]) (qLo [.s [],.i 10]) (let r4:=zf [.s (gS r3 0),.s (gS r3 1),.i (gI r3 2)];qLm r4 (qLo [.s (gS r4 0),.i (gI r4 1)]))))))))):=by kernel_rfl
theorem qwQ:je [.s e0,.s e1]=(let r0:=vM [.s e0,.s e1];qLm r0 (qLo [.s (gS r0 0),.i (gI r0 1)])):=by kernel_rfl
theorem qc7:v7 [.s e0,.s e1,.i c2]=(.br (ine c2 0) (qLo [.s [48],.i c2]) (let r0:=je [.s e0,.s e1];qLm r0 (.br (ine (gI r0 1) 0) (qLo [.s [48],.i (gI r0 1)]) (qLo [.s (gS r0 0),.i (gI r0 1)])))):=by kernel_rfl
theorem qnH:zp [.s e0,.s e1,.i c2]=(let r0:=v7 [.s e0,.s e1,.i c2];qLm r0 (qLo [.s (gS r0 0),.i (gI r0 1)])):=by kernel_rfl
theorem qs3:q3s [.s e0,.s e1,.s e2,.s e3,.i c4]=(let r0:=qg [.r [[.s e0],[.s e2]],.i c4];qLm r0 (let r1:=qg [.r [[.s e1],[.s e3]],.i (gI r0 1)];qLm r1 (qLo [.s (gS r0 0),.s (gS r1 0),.i (gI r1 1)]))):=by kernel_rfl
theorem qdc:vB [.s e0,.s e1]=(let r0:=qE [.r [[.s e0],[.s e1]]];qLm r0 (.br (ine (gI r0 0) 0) (qLo [.s [],.i (gI r0 0)]) (let r1:=qL [.s e0];qLm r1 (let r2:=qL [.s e1];qLm r2 (let r3:=q3s [.s (gS r1 0),.s (gS r1 1),.s (gS r2 0),.s (gS r2 1),.i 0];qLm r3 (.br (ine (gI r3 2) 0) (qLo [.s [],.i (gI r3 2)]) (.br (seq (gS r3 1) [48]) (qLo [.s [],.i 10]) (let r4:=zf [.s (gS r3 0),.s (gS r3 1),.i (gI r3 2)];qLm r4 (qLo [.s (gS r4 0),.i (gI r4 1)]))))))))):=by kernel_rfl
theorem qwm:vt [.s e0,.s e1]=(let r0:=vB [.s e0,.s e1];qLm r0 (qLo [.s (gS r0 0),.i (gI r0 1)])):=by kernel_rfl
theorem qcc:v8 [.s e0,.s e1,.i c2]=(.br (ine c2 0) (qLo [.s [48],.i c2]) (let r0:=vt [.s e0,.s e1];qLm r0 (.br (ine (gI r0 1) 0) (qLo [.s [48],.i (gI r0 1)]) (qLo [.s (gS r0 0),.i (gI r0 1)])))):=by kernel_rfl
theorem qn5:qR [.s e0,.s e1,.i c2]=(let r0:=v8 [.s e0,.s e1,.i c2];qLm r0 (qLo [.s (gS r0 0),.i (gI r0 1)])):=by kernel_rfl
theorem qmQ:zL [.s e0,.s e1,.s e2,.s e3,.i c4]=(let r0:=qR [.s e0,.s e2,.i c4];qLm r0 (let r1:=qR [.s e1,.s e3,.i (gI r0 1)];qLm r1 (let r2:=zp [.s (gS r0 0),.s (gS r1 0),.i (gI r1 1)];qLm r2 (qLo [.s (gS r2 0),.i (gI r2 1)])))):=by kernel_rfl
theorem qsh:q3n [.s e0,.s e1,.s e2,.s e3,.i c4]=(let r0:=qg [.r [[.s e0],[.s e3]],.i c4];qLm r0 (let r1:=qg [.r [[.s e1],[.s e2]],.i (gI r0 1)];qLm r1 (qLo [.s (gS r0 0),.s (gS r1 0),.i (gI r1 1)]))):=by kernel_rfl
theorem qdC:vN [.s e0,.s e1]=(let r0:=qE [.r [[.s e0],[.s e1]]];qLm r0 (.br (ine (gI r0 0) 0) (qLo [.s [],.i (gI r0 0)]) (let r1:=qL [.s e0];qLm r1 (let r2:=qL [.s e1];qLm r2 (let r3:=q3n [.s (gS r1 0),.s (gS r1 1),.s (gS r2 0),.s (gS r2 1),.i 0];qLm r3 (.br (ine (gI r3 2) 0) (qLo [.s [],.i (gI r3 2)]) (.br (seq (gS r3 1) [48]) (qLo [.s [],.i 10]) (let r4:=zf [.s (gS r3 0),.s (gS r3 1),.i (gI r3 2)];qLm r4 (qLo [.s (gS r4 0),.i (gI r4 1)]))))))))):=by kernel_rfl
theorem qvw:kY [.s e0,.s e1]=(let r0:=qE [.r [[.s e0],[.s e1]]];qLm r0 (.br (ine (gI r0 0) 0) (qLo [.s [],.i (gI r0 0)]) (.br (seq e1 [48]) (qLo [.s [],.i 10]) (let r1:=vN [.s e0,.s e1];qLm r1 (qLo [.s (gS r1 0),.i (gI r1 1)]))))):=by kernel_rfl
theorem qbY:zQ [.s e0,.s e1,.i c2]=(.br (ine c2 0) (qLo [.s [48],.i c2]) (let r0:=kY [.s e0,.s e1];qLm r0 (.br (ine (gI r0 1) 0) (qLo [.s [48],.i (gI r0 1)]) (qLo [.s (gS r0 0),.i (gI r0 1)])))):=by kernel_rfl
theorem qkE:jd [.r a0,.i c1,.i c2,.i c3,.i c4]=(let t0:=wk [.s (cS a0 c2 0),.s (cS a0 c2 1),.s (cS a0 c1 0),.s (cS a0 c1 1),.i c4];let s0:List UInt8:=(gS t0 1);let s1:List UInt8:=(gS t0 0);let t1:=zL [.s s1,.s s0,.s s1,.s s0,.i (gI t0 2)];let t2:=zp [.s (gS t1 0),.s (cS a0 c1 2),.i (gI t1 1)];let t3:=qN [.s (gS t2 0),.s (cS a0 c2 2),.i (gI t2 1)];let t4:=qR [.s [50],.s (gS t1 0),.i (gI t3 1)];let t5:=zQ [.s (gS t3 0),.s (gS t4 0),.i (gI t4 1)];let t6:=qR [.s (gS t5 0),.s s1,.i (gI t5 1)];let t7:=zp [.s (cS a0 c1 0),.s (gS t6 0),.i (gI t6 1)];let t8:=qR [.s (gS t5 0),.s s0,.i (gI t7 1)];let t9:=zp [.s (cS a0 c1 1),.s (gS t8 0),.i (gI t8 1)];let t10:=qN [.s [48],.s s0,.i (gI t9 1)];let t11:=zQ [.s (cS a0 c1 2),.s (gS t1 0),.i (gI t10 1)];let t12:=qR [.s (gS t5 0),.s (gS t5 0),.i (gI t11 1)];let t13:=qN [.s (gS t11 0),.s (gS t12 0),.i (gI t12 1)];let p0:List PV:=[.i (gI t13 1)];let t14:=qN ((.s [48])::(.s s1)::p0);let s2:List UInt8:=(gS t13 0);let b0:Bool:=(beq (seq s2 [48]) (ieq c3 0));let t15:TR:=(qLo [.s (gS t7 0),.s (gS t9 0),.s s0,.s (gS t14 0),.s s2,.b false,.i (gI t14 1)]);let t16:TR:=(qLo ((.s (gS t7 0))::(.s (gS t9 0))::(.s (gS t10 0))::(.s s1)::(.s s2)::(.b false)::p0));(qLn (inb c1 (qm a0)) (qLn (inb c2 (qm a0)) (.br (ieq c1 c2) (qLo [.s (cS a0 c1 0),.s (cS a0 c1 1),.s [48],.s [48],.s [48],.b (ieq c3 0),.i c4]) (qLm t0 (qLm t1 (.br (seq (gS t1 0) [48]) (qLo [.s [],.s [],.s [],.s [],.s [],.b false,.i (gI t1 1)]) (qLm t2 (qLm t3 (qLm t4 (qLm t5 (qLm t6 (qLm t7 (qLm t8 (qLm t9 (qLm t10 (qLm t11 (qLm t12 (qLm t13 (.br (ilt c3 0) (qLm t14 (.br (ieq (gI t14 1) 0) (qLn (inb 0 (qw s2)) (.br (ine (sat s2 0) 45) (qLo [.s (gS t7 0),.s (gS t9 0),.s s0,.s (gS t14 0),.s s2,.b b0,.i (gI t14 1)]) t15)) t15)) (.br (ieq (gI t13 1) 0) (qLn (inb 0 (qw s2)) (.br (ine (sat s2 0) 45) (qLo ((.s (gS t7 0))::(.s (gS t9 0))::(.s (gS t10 0))::(.s s1)::(.s s2)::(.b b0)::p0)) t16)) t16))))))))))))))))))))):=by kernel_rfl
theorem qug:q3f [.s e0]=(let r0:=zh [.s e0];qLm r0 (.br (ine (gI r0 0) 0) (qLo [.i 0,.i (gI r0 0)]) (let r1:=ug [.s e0];qLm r1 (qLo [.i (gI r1 0),.i 0])))):=by kernel_rfl
theorem qmr:zD [.s e0,.i c1]=(.br (ine c1 0) (qLo [.i 0,.i c1]) (let r0:=q3f [.s e0];qLm r0 (qLo [.i (gI r0 0),.i (gI r0 1)]))):=by kernel_rfl
theorem qmN:ut [.s e0,.s e1,.s e2,.i c3]=(let r0:=zD [.s e0,.i c3];qLm r0 (let r1:=zD [.s e1,.i (gI r0 1)];qLm r1 (let r2:=zD [.s e2,.i (gI r1 1)];qLm r2 (.br (ile 0 (vd .i64 (gI r0 0) (vd .i64 (gI r1 0) (gI r2 0)))) (.br (ine (gI r0 0) 0) (qLo [.i (gI r0 0),.i (gI r2 1)]) (qLo [.i (vd .i64 (gI r1 0) (gI r2 0)),.i (gI r2 1)])) (let r3:=qg [.r [[.s e0],[.s e0]],.i (gI r2 1)];qLm r3 (let r4:=qg [.r [[.s e1],[.s e1],[.s e2]],.i (gI r3 1)];qLm r4 (let r5:=zx [.s (gS r3 0),.s (gS r4 0),.i (gI r4 1)];qLm r5 (let r6:=zD [.s (gS r5 0),.i (gI r5 1)];qLm r6 (qLo [.i (vd .i64 (gI r0 0) (gI r6 0)),.i (gI r6 1)]))))))))):=by kernel_rfl
theorem qld:q0C [.s e0,.s e1,.s e2,.s e3,.s e4]=(let r0:=qE [.r [[.s e0],[.s e1],[.s e2],[.s e3],[.s e4]]];qLm r0 (.br (ine (gI r0 0) 0) (qLo [.i 0,.i (gI r0 0)]) (qLn (inb 0 (qw e2)) (.br (ieq (sat e2 0) 45) (qLo [.i 0,.i 2]) (qLn (inb 0 (qw e4)) (.br (ieq (sat e4 0) 45) (qLo [.i 0,.i 2]) (let r1:=qL [.s e0];qLm r1 (let r2:=qL [.s e1];qLm r2 (let r3:=qL [.s e2];qLm r3 (let r4:=qL [.s e3];qLm r4 (let r5:=qL [.s e4];qLm r5 (let r6:=qg [.r [[.s (gS r1 0)],[.s (gS r2 1)],[.s (gS r3 1)],[.s (gS r4 1)],[.s (gS r5 1)]],.i 0];qLm r6 (let r7:=qg [.r [[.s (gS r2 0)],[.s (gS r1 1)],[.s (gS r4 1)],[.s (gS r5 1)]],.i (gI r6 1)];qLm r7 (let r8:=qg [.r [[.s (gS r3 0)],[.s (gS r3 1)]],.i (gI r7 1)];qLm r8 (let r9:=qg [.r [[.s (gS r4 0)],[.s (gS r1 1)],[.s (gS r2 1)],[.s (gS r3 1)]],.i (gI r8 1)];qLm r9 (let r10:=qg [.r [[.s (gS r5 0)],[.s (gS r5 1)]],.i (gI r9 1)];qLm r10 (let r11:=ut [.s (gS r6 0),.s (gS r7 0),.s (gS r8 0),.i (gI r10 1)];qLm r11 (let r12:=zD [.s (gS r9 0),.i (gI r11 1)];qLm r12 (let r13:=zD [.s (gS r10 0),.i (gI r12 1)];qLm r13 (.br (ile 0 (vd .i64 (gI r11 0) (vd .i64 (gI r12 0) (gI r13 0)))) (.br (ieq (gI r11 0) 0) (qLo [.i (vd .i64 (gI r12 0) (gI r13 0)),.i (gI r13 1)]) (qLo [.i (gI r11 0),.i (gI r13 1)])) (let r14:=qg [.r [[.s (gS r6 0)],[.s (gS r6 0)]],.i (gI r13 1)];qLm r14 (let r15:=qg [.r [[.s (gS r7 0)],[.s (gS r7 0)],[.s (gS r8 0)]],.i (gI r14 1)];qLm r15 (let r16:=yQ [.s (gS r14 0),.s (gS r15 0),.i (gI r15 1)];qLm r16 (let r17:=qg [.r [[.s (gS r9 0)],[.s (gS r9 0)],[.s (gS r10 0)]],.i (gI r16 1)];qLm r17 (let r18:=zx [.s (gS r16 0),.s (gS r17 0),.i (gI r17 1)];qLm r18 (let r19:=qg [.r [[.s [50]],[.s (gS r6 0)],[.s (gS r7 0)]],.i (gI r18 1)];qLm r19 (let r20:=ut [.s (gS r18 0),.s (gS r19 0),.s (gS r8 0),.i (gI r19 1)];qLm r20 (.br (ine (gI r20 1) 0) (qLo [.i 0,.i (gI r20 1)]) (qLo [.i (vd .i64 (gI r11 0) (gI r20 0)),.i 0]))))))))))))))))))))))))))))):=by kernel_rfl
theorem qnh:q22 [.s e0,.s e1,.s e2]=(let r0:=q0C [.s e0,.s e1,.s e2,.s [48],.s [48]];qLm r0 (qLo [.i (gI r0 0),.i (gI r0 1)])):=by kernel_rfl
theorem qlJ:wi [.s e0,.s e1,.s e2,.i c3]=(.br (ine c3 0) (qLo [.i 0,.i c3]) (let r0:=q22 [.s e0,.s e1,.s e2];qLm r0 (qLo [.i (gI r0 0),.i (gI r0 1)]))):=by kernel_rfl
theorem qjY:yu [.s e0,.s e1,.s e2,.s e3,.s e4,.s e5,.s e6,.s e7,.i c8]=(let r0:=wk [.s e3,.s e4,.s e0,.s e1,.i c8];qLm r0 (let r1:=zL [.s (gS r0 0),.s (gS r0 1),.s (gS r0 0),.s (gS r0 1),.i (gI r0 2)];qLm r1 (let r2:=zL [.s e5,.s e6,.s e5,.s e6,.i (gI r1 1)];qLm r2 (let r3:=qR [.s e7,.s (gS r2 0),.i (gI r2 1)];qLm r3 (let r4:=zp [.s (gS r1 0),.s (gS r3 0),.i (gI r3 1)];qLm r4 (let r5:=qN [.s (gS r4 0),.s e2,.i (gI r4 1)];qLm r5 (let r6:=zL [.s (gS r0 0),.s (gS r0 1),.s e5,.s e6,.i (gI r5 1)];qLm r6 (let r7:=qR [.s [50],.s (gS r6 0),.i (gI r6 1)];qLm r7 (let r8:=wi [.s (gS r5 0),.s (gS r7 0),.s e7,.i (gI r7 1)];qLm r8 (qLo [.b (ile (gI r8 0) 0),.i (gI r8 1)])))))))))):=by kernel_rfl
theorem ka:wZ [.r a0,.i c1,.i c2,.r a3,.r a4,.r a5,.i c6,.i c7,.i c8,.b d9,.s e10,.s e11,.s e12,.s e13,.s e14,.b d15,.r a16,.i c17,.i c18,.i c19,.s e20,.s e21,.s e22,.s e23,.s e24,.b d25,.s e26,.s e27,.s e28,.s e29,.s e30,.b d31,.b d32,.r a33,.i c34,.i c35,.i c36,.i c37,.s e38,.s e39,.s e40,.s e41,.s e42]=(let t0:=yu [.s (cS a0 c2 0),.s (cS a0 c2 1),.s (cS a0 c2 2),.s e38,.s e39,.s e40,.s e41,.s e42,.i c34];let p0:List PV:=[.i c35,.i c36,.i c37,.s e38,.s e39,.s e40,.s e41,.s e42];let p1:List PV:=((.r a3)::(.r a4)::(.r a5)::(.i c6)::(.i c7)::(.i c8)::(.b d9)::(.s e10)::(.s e11)::(.s e12)::(.s e13)::(.s e14)::(.b d15)::(.r a16)::(.i c17)::(.i c18)::(.i c19)::(.s e20)::(.s e21)::(.s e22)::(.s e23)::(.s e24)::(.b d25)::(.s e26)::(.s e27)::(.s e28)::(.s e29)::(.s e30)::(.b d31)::(.b d32)::(.r a33)::(.i (gI t0 1))::p0);(.br (ilt c2 c1) (qLn (inb c2 (qm a0)) (qLm t0 (.br (not (gB t0 0)) (.leaf (2,((.i c2)::p1))) (qLo ((.r a0)::(.i c1)::(.i (qC .i64 c2 1))::p1))))) (.leaf (1,((.r a3)::(.r a4)::(.r a5)::(.i c6)::(.i c7)::(.i c8)::(.b d9)::(.s e10)::(.s e11)::(.s e12)::(.s e13)::(.s e14)::(.b d15)::(.r a16)::(.i c17)::(.i c18)::(.i c19)::(.s e20)::(.s e21)::(.s e22)::(.s e23)::(.s e24)::(.b d25)::(.s e26)::(.s e27)::(.s e28)::(.s e29)::(.s e30)::(.b d31)::(.b d32)::(.r a33)::(.i c34)::p0))))):=by kernel_rfl
theorem qiX:jy [.r a0,.i c1,.i c2,.i c3,.i c4]=(let r0:=jd [.r a0,.i c1,.i c2,.i c3,.i c4];qLm r0 (.br (gB r0 5) (let r1:=qh wZ [.r a0,.i (qm a0),.i 0,.r a0,.r a0,.r a0,.i c1,.i c2,.i c3,.b (gB r0 5),.s (gS r0 0),.s (gS r0 1),.s (gS r0 2),.s (gS r0 3),.s (gS r0 4),.b (gB r0 5),.r a0,.i c1,.i c2,.i c3,.s (gS r0 0),.s (gS r0 1),.s (gS r0 2),.s (gS r0 3),.s (gS r0 4),.b (gB r0 5),.s (gS r0 0),.s (gS r0 1),.s (gS r0 2),.s (gS r0 3),.s (gS r0 4),.b (gB r0 5),.b (gB r0 5),.r a0,.i (gI r0 6),.i c1,.i c2,.i c3,.s (gS r0 0),.s (gS r0 1),.s (gS r0 2),.s (gS r0 3),.s (gS r0 4)];qLm r1 (.br (jIs r1 0) (qLo [.b (ieq (gI r1 31) 0),.i (gI r1 31)]) (.br (not (ile 0 (gI r1 0))) (qLo [.b (ieq (gI r1 32) 0),.i (gI r1 32)]) (qLo [.b false,.i (gI r1 32)])))) (qLo [.b false,.i (gI r0 6)]))):=by kernel_rfl
theorem q4q:vP [.i c0,.i c1,.i c2,.r a3,.i c4,.i c5,.i c6,.b d7,.i c8]=(.br (ilt c1 c0) (let r0:=jy [.r a3,.i c1,.i c1,.i 0,.i c2];qLm r0 (.br (gB r0 0) (.leaf (2,[.i (gI r0 1),.r a3,.i c1,.i c1,.i 0,.b true,.i c8])) (qLo [.i c0,.i (qC .i64 c1 1),.i (gI r0 1),.r a3,.i c4,.i c5,.i c6,.b d7,.i c8]))) (.leaf (1,[.i c2,.r a3,.i c4,.i c5,.i c6,.b d7,.i c8]))):=by kernel_rfl
theorem q3X:vb [.i c0,.i c1,.i c2,.i c3,.i c4,.i c5,.i c6,.r a7,.i c8,.i c9,.i c10,.b d11,.i c12,.r a13]=(.br (ilt c5 c4) (qLn (inb c5 (qm a13)) (let r0:=jy [.r a7,.i c0,.i c1,.i (cI a13 c5 0),.i c6];qLm r0 (.br (gB r0 0) (.leaf (2,[.i (gI r0 1),.r a7,.i c0,.i c1,.i (cI a13 c5 0),.b true,.i c12])) (qLo [.i c0,.i c1,.i c2,.i c3,.i c4,.i (qC .i64 c5 1),.i (gI r0 1),.r a7,.i c8,.i c9,.i c10,.b d11,.i c12,.r a13])))) (.leaf (1,[.i c0,.i c1,.i c2,.i c3,.i c6,.r a7,.i c8,.i c9,.i c10,.b d11,.i c12]))):=by kernel_rfl
theorem q3W:wX [.i c0,.i c1,.i c2,.i c3,.i c4,.r a5,.i c6,.i c7,.i c8,.b d9,.i c10]=(.br (ilt c1 c10) (let r0:=qh vb [.i c0,.i c1,.i c2,.i c3,.i (qm [[.i 0],[.i 1],[.i (-1)]]),.i 0,.i c4,.r a5,.i c6,.i c7,.i c8,.b d9,.i c10,.r [[.i 0],[.i 1],[.i (-1)]]];qLm r0 (.br (jIs r0 0) (qLo [.i (gI r0 0),.i (qC .i64 (gI r0 1) 1),.i (gI r0 2),.i (gI r0 3),.i (gI r0 4),.r (gR r0 5),.i (gI r0 6),.i (gI r0 7),.i (gI r0 8),.b (gB r0 9),.i (gI r0 10)]) (.leaf (2,[.i (gI r0 0),.r (gR r0 1),.i (gI r0 2),.i (gI r0 3),.i (gI r0 4),.b (gB r0 5),.i (gI r0 6)])))) (.leaf (1,[.i c2,.i c3,.i c4,.r a5,.i c6,.i c7,.i c8,.b d9,.i c10]))):=by kernel_rfl
theorem q4g:vO [.i c0,.i c1,.i c2,.r a3,.i c4,.i c5,.i c6,.b d7,.i c8]=(.br (ilt c1 c0) (let r0:=qh wX [.i c1,.i (qC .i64 c1 1),.i c0,.i c1,.i c2,.r a3,.i c4,.i c5,.i c6,.b d7,.i c8];qLm r0 (.br (jIs r0 0) (qLo [.i (gI r0 0),.i (qC .i64 (gI r0 1) 1),.i (gI r0 2),.r (gR r0 3),.i (gI r0 4),.i (gI r0 5),.i (gI r0 6),.b (gB r0 7),.i (gI r0 8)]) (.leaf (2,[.i (gI r0 0),.r (gR r0 1),.i (gI r0 2),.i (gI r0 3),.i (gI r0 4),.b (gB r0 5),.i (gI r0 6)])))) (.leaf (1,[.i c2,.r a3,.i c4,.i c5,.i c6,.b d7,.i c8]))):=by kernel_rfl
theorem qkD:wI [.r a0,.i c1]=(let r0:=qh vP [.i (qm a0),.i 0,.i c1,.r a0,.i 0,.i 0,.i 0,.b false,.i (qm a0)];qLm r0 (.br (jIs r0 0) (let r1:=qh vO [.i (gI r0 6),.i 0,.i (gI r0 0),.r (gR r0 1),.i (gI r0 2),.i (gI r0 3),.i (gI r0 4),.b (gB r0 5),.i (gI r0 6)];qLm r1 (.br (jIs r1 0) (qLo [.i 0,.i 0,.i 0,.b false,.i (gI r1 0)]) (qLo [.i (gI r1 2),.i (gI r1 3),.i (gI r1 4),.b (gB r1 5),.i (gI r1 0)]))) (qLo [.i (gI r0 2),.i (gI r0 3),.i (gI r0 4),.b (gB r0 5),.i (gI r0 0)]))):=by kernel_rfl
theorem qrA:vY [.r a0]=(let r0:=q1m [.r a0];qLm r0 (.br (ine (gI r0 0) 0) (qLo [.b false,.i 0,.i 0,.i 0,.i (gI r0 0)]) (let r1:=wI [.r a0,.i 0];qLm r1 (.br (ine (gI r1 4) 0) (qLo [.b false,.i 0,.i 0,.i 0,.i (gI r1 4)]) (qLo [.b (gB r1 3),.i (gI r1 0),.i (gI r1 1),.i (gI r1 2),.i 0]))))):=by kernel_rfl
theorem q1j:zo [.i c0,.i c1,.i c2,.i c3,.i c4,.i c5,.i c6,.r a7,.i c8,.i c9,.i c10,.r a11,.i c12,.r a13,.r a14]=(.br (ilt c1 c0) (qLn (inb c1 (qm a13)) (qLn (inb (cI a13 c1 0) (qm a11)) (qLn (ile ((qm a14)+(qm [[.s (cS a11 (cI a13 c1 0) 0),.s (cS a11 (cI a13 c1 0) 1),.s (cS a11 (cI a13 c1 0) 2)]])) 2932031007402) (qLo [.i c0,.i (qC .i64 c1 1),.i c2,.i c3,.i c4,.i c5,.i c6,.r a7,.i c8,.i c9,.i c10,.r a11,.i c12,.r a13,.r (kN a14 [[.s (cS a11 (cI a13 c1 0) 0),.s (cS a11 (cI a13 c1 0) 1),.s (cS a11 (cI a13 c1 0) 2)]])])))) (.leaf (1,[.i c2,.i c3,.i c4,.i c5,.i c6,.r a7,.i c8,.i c9,.i c10,.r a11,.i c12,.r a13,.r a14]))):=by kernel_rfl
theorem q4k:vF [.i c0,.i c1,.i c2,.i c3,.r a4,.i c5]=(let t0:=qh zo [.i (qm [[.i c0],[.i c1]]),.i 0,.i c0,.i c1,.i c2,.i c3,.i c1,.r a4,.i (qm a4),.i c0,.i c1,.r a4,.i c5,.r [[.i c0],[.i c1]],.r []];let t1:=wI [.r (gR t0 12),.i (gI t0 10)];let t2:TR:=(qLo [.i (gI t0 0),.i (qC .i64 (gI t0 1) 1),.i (gI t0 2),.i (gI t0 3),.r (gR t0 9),.i (gI t1 4)]);(.br (ilt c1 (qm a4)) (qLm t0 (qLm t1 (.br (not (gB t1 3)) (.br (ieq (gI t1 4) 0) (.leaf (2,[.i 0,.r [[.i (gI t0 0)],[.i (gI t0 1)]]])) t2) t2))) (.leaf (1,[.i c2,.i c3,.r a4,.i c5])))):=by kernel_rfl
theorem q5Y:jc [.i c0,.i c1,.r a2,.i c3]=(.br (ilt c1 c0) (let r0:=qh vF [.i c1,.i (qC .i64 c1 1),.i c0,.i c1,.r a2,.i c3];qLm r0 (.br (jIs r0 0) (qLo [.i (gI r0 0),.i (qC .i64 (gI r0 1) 1),.r (gR r0 2),.i (gI r0 3)]) (.leaf (2,[.i (gI r0 0),.r (gR r0 1)])))) (.leaf (1,[.r a2,.i c3]))):=by kernel_rfl
theorem q1h:zn [.i c0,.i c1,.i c2,.i c3,.i c4,.i c5,.i c6,.i c7,.r a8,.i c9,.i c10,.i c11,.i c12,.r a13,.i c14,.r a15,.r a16]=(.br (ilt c1 c0) (qLn (inb c1 (qm a15)) (qLn (inb (cI a15 c1 0) (qm a13)) (qLn (ile ((qm a16)+(qm [[.s (cS a13 (cI a15 c1 0) 0),.s (cS a13 (cI a15 c1 0) 1),.s (cS a13 (cI a15 c1 0) 2)]])) 2932031007402) (qLo [.i c0,.i (qC .i64 c1 1),.i c2,.i c3,.i c4,.i c5,.i c6,.i c7,.r a8,.i c9,.i c10,.i c11,.i c12,.r a13,.i c14,.r a15,.r (kN a16 [[.s (cS a13 (cI a15 c1 0) 0),.s (cS a13 (cI a15 c1 0) 1),.s (cS a13 (cI a15 c1 0) 2)]])])))) (.leaf (1,[.i c2,.i c3,.i c4,.i c5,.i c6,.i c7,.r a8,.i c9,.i c10,.i c11,.i c12,.r a13,.i c14,.r a15,.r a16]))):=by kernel_rfl
theorem q4t:vG [.i c0,.i c1,.i c2,.i c3,.i c4,.r a5,.i c6]=(let t0:=qh zn [.i (qm [[.i c0],[.i c1],[.i c2]]),.i 0,.i c0,.i c1,.i c2,.i c3,.i c4,.i c2,.r a5,.i (qm a5),.i c0,.i c1,.i c2,.r a5,.i c6,.r [[.i c0],[.i c1],[.i c2]],.r []];let t1:=wI [.r (gR t0 14),.i (gI t0 12)];let t2:TR:=(qLo [.i (gI t0 0),.i (gI t0 1),.i (qC .i64 (gI t0 2) 1),.i (gI t0 3),.i (gI t0 4),.r (gR t0 11),.i (gI t1 4)]);(.br (ilt c2 (qm a5)) (qLm t0 (qLm t1 (.br (not (gB t1 3)) (.br (ieq (gI t1 4) 0) (.leaf (2,[.i 0,.r [[.i (gI t0 0)],[.i (gI t0 1)],[.i (gI t0 2)]]])) t2) t2))) (.leaf (1,[.i c0,.i c1,.i c3,.i c4,.r a5,.i c6])))):=by kernel_rfl
theorem q4z:vE [.i c0,.i c1,.i c2,.i c3,.r a4,.i c5]=(.br (ilt c1 (qm a4)) (let r0:=qh vG [.i c0,.i c1,.i (qC .i64 c1 1),.i c2,.i c3,.r a4,.i c5];qLm r0 (.br (jIs r0 0) (qLo [.i (gI r0 0),.i (qC .i64 (gI r0 1) 1),.i (gI r0 2),.i (gI r0 3),.r (gR r0 4),.i (gI r0 5)]) (.leaf (2,[.i (gI r0 0),.r (gR r0 1)])))) (.leaf (1,[.i c2,.i c3,.r a4,.i c5]))):=by kernel_rfl
theorem q4A:vw [.i c0,.i c1,.r a2,.i c3]=(.br (ilt c1 c0) (let r0:=qh vE [.i c1,.i (qC .i64 c1 1),.i c0,.i c1,.r a2,.i c3];qLm r0 (.br (jIs r0 0) (qLo [.i (gI r0 0),.i (qC .i64 (gI r0 1) 1),.r (gR r0 2),.i (gI r0 3)]) (.leaf (2,[.i (gI r0 0),.r (gR r0 1)])))) (.leaf (1,[.i c3]))):=by kernel_rfl
theorem qgQ:vK [.r a0]=(let r0:=q1m [.r a0];qLm r0 (.br (ine (gI r0 0) 0) (qLo [.r [],.i (gI r0 0)]) (let r1:=qh jc [.i (qm a0),.i 0,.r a0,.i 0];qLm r1 (.br (jIs r1 0) (let r2:=qh vw [.i (qm (gR r1 0)),.i 0,.r (gR r1 0),.i (gI r1 1)];qLm r2 (.br (jIs r2 0) (qLo [.r [],.i (gI r2 0)]) (qLo [.r (gR r2 1),.i (gI r2 0)]))) (qLo [.r (gR r1 1),.i (gI r1 0)]))))):=by kernel_rfl
theorem qkv:jh [.s e0,.s e1,.i c2]=(let r0:=qN [.s e0,.s e1,.i c2];qLm r0 (let r1:=wi [.s (gS r0 0),.s [48],.s [48],.i (gI r0 1)];qLm r1 (qLo [.i (gI r1 0),.i (gI r1 1)]))):=by kernel_rfl
theorem qnm:yO [.s e0,.s e1,.s e2,.s e3,.i c4]=(let r0:=wk [.s e0,.s e1,.s e2,.s e3,.i c4];qLm r0 (let r1:=zL [.s (gS r0 0),.s (gS r0 1),.s (gS r0 0),.s (gS r0 1),.i (gI r0 2)];qLm r1 (qLo [.s (gS r1 0),.i (gI r1 1)]))):=by kernel_rfl
theorem qly:jA [.s e0,.s e1,.s e2,.s e3,.s e4,.s e5,.s e6,.i c7]=(let r0:=yO [.s e0,.s e1,.s e3,.s e4,.i c7];qLm r0 (let r1:=zp [.s e2,.s e5,.i (gI r0 1)];qLm r1 (let r2:=qN [.s (gS r0 0),.s (gS r1 0),.i (gI r1 1)];qLm r2 (let r3:=qR [.s e2,.s e5,.i (gI r2 1)];qLm r3 (let r4:=wi [.s (gS r2 0),.s e6,.s (gS r3 0),.i (gI r3 1)];qLm r4 (qLo [.i (gI r4 0),.i (gI r4 1)])))))):=by kernel_rfl
theorem qj6:jC [.s e0,.s e1,.s e2,.s e3,.s e4,.s e5,.i c6]=(let r0:=jh [.s e2,.s e5,.i c6];qLm r0 (.br (ile (gI r0 0) 0) (let r1:=jA [.s e0,.s e1,.s e2,.s e3,.s e4,.s e5,.s [50],.i (gI r0 1)];qLm r1 (qLo [.b (ile (gI r1 0) 0),.i (gI r1 1)])) (qLo [.b false,.i (gI r0 1)]))):=by kernel_rfl
theorem qef:q1Q [.i c0,.i c1,.s e2,.s e3,.s e4,.s e5,.s e6,.s e7,.r a8]=(.br (ilt c1 c0) (qLn (inb c1 (qm a8)) (let r0:=jM [.s (cS a8 c1 0),.s (cS a8 c1 1),.s (cS a8 c1 2)];qLm r0 (.br (ine (gI r0 0) 0) (.leaf (2,[.i 0,.i (gI r0 0)])) (qLo [.i c0,.i (qC .i64 c1 1),.s e2,.s e3,.s e4,.s e5,.s e6,.s e7,.r a8])))) (.leaf (1,[.s e2,.s e3,.s e4,.s e5,.s e6,.s e7]))):=by kernel_rfl
theorem qrb:q4x [.s e0,.s e1,.s e2,.s e3,.s e4,.s e5]=(let r0:=qh q1Q [.i (qm [[.s e0,.s e1,.s e2],[.s e3,.s e4,.s e5]]),.i 0,.s e0,.s e1,.s e2,.s e3,.s e4,.s e5,.r [[.s e0,.s e1,.s e2],[.s e3,.s e4,.s e5]]];qLm r0 (.br (jIs r0 0) (let r1:=jC [.s (gS r0 0),.s (gS r0 1),.s (gS r0 2),.s (gS r0 3),.s (gS r0 4),.s (gS r0 5),.i 0];qLm r1 (.br (gB r1 0) (.br (ine (gI r1 1) 0) (qLo [.i 0,.i (gI r1 1)]) (qLo [.i 2,.i 0])) (let r2:=jC [.s (gS r0 3),.s (gS r0 4),.s (gS r0 5),.s (gS r0 0),.s (gS r0 1),.s (gS r0 2),.i (gI r1 1)];qLm r2 (.br (gB r2 0) (.br (ine (gI r2 1) 0) (qLo [.i 0,.i (gI r2 1)]) (qLo [.i 3,.i 0])) (let r3:=jA [.s (gS r0 0),.s (gS r0 1),.s (gS r0 2),.s (gS r0 3),.s (gS r0 4),.s (gS r0 5),.s [45,50],.i (gI r2 1)];qLm r3 (.br (ine (gI r3 1) 0) (qLo [.i 0,.i (gI r3 1)]) (qLo [.i (yF .i64 0 (gI r3 0)),.i 0]))))))) (qLo [.i (gI r0 0),.i (gI r0 1)]))):=by kernel_rfl
theorem q4C:vD [.r a0,.r a1,.i c2,.i c3]=(.br (ilt c3 c2) (qLn (inb c3 (qm a0)) (qLn (inb c3 (qm a1)) (.br (ine (cI a0 c3 0) (cI a1 c3 0)) (.leaf (2,[.b false])) (qLo [.r a0,.r a1,.i c2,.i (qC .i64 c3 1)])))) (.leaf (1,[]))):=by kernel_rfl
theorem qeN:wN [.r a0,.r a1]=(.br (ine (qm a0) (qm a1)) (qLo [.b false]) (let r0:=qh vD [.r a0,.r a1,.i (qm a0),.i 0];qLm r0 (.br (jIs r0 0) (qLo [.b true]) (qLo [.b (gB r0 0)])))):=by kernel_rfl
theorem qsI  : q3k []=(let r0:=zI [.s [48],.s [48],.s [52]];qLm r0 (let r1:=zI [.s [52],.s [48],.s [52]];qLm r1 (let r2:=vY [.r [[.s (gS r0 0),.s (gS r0 1),.s (gS r0 2)],[.s (gS r1 0),.s (gS r1 1),.s (gS r1 2)]]];qLm r2 (let r3:=zI [.s [48],.s [48],.s [53]];qLm r3 (let r4:=zI [.s [52],.s [48],.s [53]];qLm r4 (let r5:=vY [.r [[.s (gS r3 0),.s (gS r3 1),.s (gS r3 2)],[.s (gS r4 0),.s (gS r4 1),.s (gS r4 2)]]];qLm r5 (let r6:=zI [.s [48],.s [48],.s [49]];qLm r6 (let r7:=zI [.s [52],.s [48],.s [49]];qLm r7 (let r8:=vK [.r [[.s (gS r6 0),.s (gS r6 1),.s (gS r6 2)],[.s (gS r7 0),.s (gS r7 1),.s (gS r7 2)]]];qLm r8 (qLm r6 (let r9:=zI [.s [50],.s [48],.s [49]];qLm r9 (let r10:=zI [.s [49],.s [53,47,51],.s [49]];qLm r10 (let r11:=vK [.r [[.s (gS r6 0),.s (gS r6 1),.s (gS r6 2)],[.s (gS r9 0),.s (gS r9 1),.s (gS r9 2)],[.s (gS r10 0),.s (gS r10 1),.s (gS r10 2)]]];qLm r11 (qLm r6 (let r12:=zI [.s [49],.s [48],.s [52]];qLm r12 (let r13:=q4x [.s (gS r6 0),.s (gS r6 1),.s (gS r6 2),.s (gS r12 0),.s (gS r12 1),.s (gS r12 2)];qLm r13 (.br (ieq (qC .i64 (qC .i64 (qC .i64 (qC .i64 (gI r2 4) (gI r5 4)) (gI r8 1)) (gI r11 1)) (gI r13 1)) 0) (.br (gB r2 0) (.br (qxG (ieq (gI r2 1) 0) (qxG (ieq (gI r2 2) 1) (qxG (ieq (gI r2 3) 0) true))) (.br (gB r5 0) (.br (qxG (ieq (gI r5 1) 0) (qxG (ieq (gI r5 2) 1) (qxG (ieq (gI r5 3) 1) true))) (let r14:=wN [.r (gR r8 0),.r [[.i 0],[.i 1]]];qLm r14 (.br (gB r14 0) (let r15:=wN [.r (gR r11 0),.r [[.i 0],[.i 1],[.i 2]]];qLm r15 (.br (gB r15 0) (qLo [.b (ieq (gI r13 0) 2)]) (qLo [.b false]))) (qLo [.b false]))) (qLo [.b false])) (qLo [.b false])) (qLo [.b false])) (qLo [.b false])) (qLo [.b false])))))))))))))))))):=by kernel_rfl
theorem qp3:yf [.i c0]=(.br (ile (-100000) c0) (qLo [.b (ile c0 100000)]) (qLo [.b false])):=by kernel_rfl
theorem qsy:kC [.i c0,.i c1]=(qLm (yf [.i c0]) (.br (gB (yf [.i c0]) 0) (qLm (yf [.i c1]) (qLo [.b (gB (yf [.i c1]) 0)])) (qLo [.b false]))):=by kernel_rfl
theorem q4L:zy [.r a0,.i c1,.i c2]=(.br (ilt c2 c1) (qLn (inb c2 (qm a0)) (let r0:=kC [.i (cI a0 c2 0),.i (cI a0 c2 1)];qLm r0 (.br (not (gB r0 0)) (.leaf (2,[.i 2])) (qLo [.r a0,.i c1,.i (qC .i64 c2 1)])))) (.leaf (1,[]))):=by kernel_rfl
theorem qf1:jw [.r a0]=(let r0:=qh zy [.r a0,.i (qm a0),.i 0];qLm r0 (.br (jIs r0 0) (qLo [.i 0]) (qLo [.i (gI r0 0)]))):=by kernel_rfl
theorem qbT:wy [.r a0]=(.br (ilt 64 (qm a0)) (qLo [.i 5]) (let r0:=jw [.r a0];qLm r0 (qLo [.i (gI r0 0)]))):=by kernel_rfl
theorem qrh:q4y [.r a0]=(let r0:=wy [.r a0];qLm r0 (qLo [.i (gI r0 0)])):=by kernel_rfl
theorem qpE:q4h [.i c0]=(.br (ieq c0 0) (qLo [.i 13]) (qLo [.i 0])):=by kernel_rfl
theorem qpX:q4D [.r a0]=(let r0:=q4y [.r a0];qLm r0 (.br (ine (gI r0 0) 0) (qLo [.i (gI r0 0)]) (let r1:=q4h [.i (qm a0)];qLm r1 (qLo [.i (gI r1 0)])))):=by kernel_rfl
theorem q6z:wM [.r a0]=(qLn (ile (qm a0) 17592186044416) (qLo [.r a0])):=by kernel_rfl
theorem qgT:qM [.i c0,.i c1,.i c2]=(qLo [.i c0,.i c1,.i c2]):=by kernel_rfl
theorem qgn:q1b [.i c0,.i c1,.i c2,.i c3,.i c4,.i c5,.i c6,.i c7,.i c8,.i c9,.i c10]=(let b0:Bool:=(ieq c1 2);let p0:List PV:=[.i (qC .i64 c1 1),.i c2,.i c3,.i c4,.i c5,.i c6,.i c7,.i c8,.i c9,.i c10];let i0:Int:=(yF .i64 c7 c4);let i1:Int:=(yF .i64 c10 c4);let b1:Bool:=(ieq c1 1);let i2:Int:=(yF .i64 c10 c3);let b2:Bool:=(ieq c1 0);let i3:Int:=(yF .i64 c10 c2);let i4:Int:=(yF .i64 c9 c4);let i5:Int:=(yF .i64 c9 c3);let i6:Int:=(yF .i64 c9 c2);let i7:Int:=(yF .i64 c8 c4);let i8:Int:=(yF .i64 c8 c3);let i9:Int:=(yF .i64 c8 c2);let i10:Int:=(yF .i64 c7 c3);let i11:Int:=(yF .i64 c7 c2);let i12:Int:=(yF .i64 c6 c4);let i13:Int:=(yF .i64 c6 c3);let i14:Int:=(yF .i64 c6 c2);let i15:Int:=(yF .i64 c5 c4);let i16:Int:=(yF .i64 c5 c3);let i17:Int:=(yF .i64 c5 c2);(.br (ilt c1 3) (.br b0 (.br b0 (.br b0 (.br b0 (qLo ((.i (qC .i64 c0 (vd .i64 i0 i1)))::p0)) (.br b1 (qLo ((.i (qC .i64 c0 (vd .i64 i0 i2)))::p0)) (qLn b2 (qLo ((.i (qC .i64 c0 (vd .i64 i0 i3)))::p0))))) (.br b1 (.br b0 (qLo ((.i (qC .i64 c0 (vd .i64 i0 i4)))::p0)) (.br b1 (qLo ((.i (qC .i64 c0 (vd .i64 i0 i5)))::p0)) (qLn b2 (qLo ((.i (qC .i64 c0 (vd .i64 i0 i6)))::p0))))) (qLn b2 (.br b0 (qLo ((.i (qC .i64 c0 (vd .i64 i0 i7)))::p0)) (.br b1 (qLo ((.i (qC .i64 c0 (vd .i64 i0 i8)))::p0)) (qLn b2 (qLo ((.i (qC .i64 c0 (vd .i64 i0 i9)))::p0)))))))) (.br b1 (.br b0 (.br b0 (qLo ((.i (qC .i64 c0 (vd .i64 i10 i1)))::p0)) (.br b1 (qLo ((.i (qC .i64 c0 (vd .i64 i10 i2)))::p0)) (qLn b2 (qLo ((.i (qC .i64 c0 (vd .i64 i10 i3)))::p0))))) (.br b1 (.br b0 (qLo ((.i (qC .i64 c0 (vd .i64 i10 i4)))::p0)) (.br b1 (qLo ((.i (qC .i64 c0 (vd .i64 i10 i5)))::p0)) (qLn b2 (qLo ((.i (qC .i64 c0 (vd .i64 i10 i6)))::p0))))) (qLn b2 (.br b0 (qLo ((.i (qC .i64 c0 (vd .i64 i10 i7)))::p0)) (.br b1 (qLo ((.i (qC .i64 c0 (vd .i64 i10 i8)))::p0)) (qLn b2 (qLo ((.i (qC .i64 c0 (vd .i64 i10 i9)))::p0)))))))) (qLn b2 (.br b0 (.br b0 (qLo ((.i (qC .i64 c0 (vd .i64 i11 i1)))::p0)) (.br b1 (qLo ((.i (qC .i64 c0 (vd .i64 i11 i2)))::p0)) (qLn b2 (qLo ((.i (qC .i64 c0 (vd .i64 i11 i3)))::p0))))) (.br b1 (.br b0 (qLo ((.i (qC .i64 c0 (vd .i64 i11 i4)))::p0)) (.br b1 (qLo ((.i (qC .i64 c0 (vd .i64 i11 i5)))::p0)) (qLn b2 (qLo ((.i (qC .i64 c0 (vd .i64 i11 i6)))::p0))))) (qLn b2 (.br b0 (qLo ((.i (qC .i64 c0 (vd .i64 i11 i7)))::p0)) (.br b1 (qLo ((.i (qC .i64 c0 (vd .i64 i11 i8)))::p0)) (qLn b2 (qLo ((.i (qC .i64 c0 (vd .i64 i11 i9)))::p0))))))))))) (.br b1 (.br b0 (.br b0 (.br b0 (qLo ((.i (qC .i64 c0 (vd .i64 i12 i1)))::p0)) (.br b1 (qLo ((.i (qC .i64 c0 (vd .i64 i12 i2)))::p0)) (qLn b2 (qLo ((.i (qC .i64 c0 (vd .i64 i12 i3)))::p0))))) (.br b1 (.br b0 (qLo ((.i (qC .i64 c0 (vd .i64 i12 i4)))::p0)) (.br b1 (qLo ((.i (qC .i64 c0 (vd .i64 i12 i5)))::p0)) (qLn b2 (qLo ((.i (qC .i64 c0 (vd .i64 i12 i6)))::p0))))) (qLn b2 (.br b0 (qLo ((.i (qC .i64 c0 (vd .i64 i12 i7)))::p0)) (.br b1 (qLo ((.i (qC .i64 c0 (vd .i64 i12 i8)))::p0)) (qLn b2 (qLo ((.i (qC .i64 c0 (vd .i64 i12 i9)))::p0)))))))) (.br b1 (.br b0 (.br b0 (qLo ((.i (qC .i64 c0 (vd .i64 i13 i1)))::p0)) (.br b1 (qLo ((.i (qC .i64 c0 (vd .i64 i13 i2)))::p0)) (qLn b2 (qLo ((.i (qC .i64 c0 (vd .i64 i13 i3)))::p0))))) (.br b1 (.br b0 (qLo ((.i (qC .i64 c0 (vd .i64 i13 i4)))::p0)) (.br b1 (qLo ((.i (qC .i64 c0 (vd .i64 i13 i5)))::p0)) (qLn b2 (qLo ((.i (qC .i64 c0 (vd .i64 i13 i6)))::p0))))) (qLn b2 (.br b0 (qLo ((.i (qC .i64 c0 (vd .i64 i13 i7)))::p0)) (.br b1 (qLo ((.i (qC .i64 c0 (vd .i64 i13 i8)))::p0)) (qLn b2 (qLo ((.i (qC .i64 c0 (vd .i64 i13 i9)))::p0)))))))) (qLn b2 (.br b0 (.br b0 (qLo ((.i (qC .i64 c0 (vd .i64 i14 i1)))::p0)) (.br b1 (qLo ((.i (qC .i64 c0 (vd .i64 i14 i2)))::p0)) (qLn b2 (qLo ((.i (qC .i64 c0 (vd .i64 i14 i3)))::p0))))) (.br b1 (.br b0 (qLo ((.i (qC .i64 c0 (vd .i64 i14 i4)))::p0)) (.br b1 (qLo ((.i (qC .i64 c0 (vd .i64 i14 i5)))::p0)) (qLn b2 (qLo ((.i (qC .i64 c0 (vd .i64 i14 i6)))::p0))))) (qLn b2 (.br b0 (qLo ((.i (qC .i64 c0 (vd .i64 i14 i7)))::p0)) (.br b1 (qLo ((.i (qC .i64 c0 (vd .i64 i14 i8)))::p0)) (qLn b2 (qLo ((.i (qC .i64 c0 (vd .i64 i14 i9)))::p0))))))))))) (qLn b2 (.br b0 (.br b0 (.br b0 (qLo ((.i (qC .i64 c0 (vd .i64 i15 i1)))::p0)) (.br b1 (qLo ((.i (qC .i64 c0 (vd .i64 i15 i2)))::p0)) (qLn b2 (qLo ((.i (qC .i64 c0 (vd .i64 i15 i3)))::p0))))) (.br b1 (.br b0 (qLo ((.i (qC .i64 c0 (vd .i64 i15 i4)))::p0)) (.br b1 (qLo ((.i (qC .i64 c0 (vd .i64 i15 i5)))::p0)) (qLn b2 (qLo ((.i (qC .i64 c0 (vd .i64 i15 i6)))::p0))))) (qLn b2 (.br b0 (qLo ((.i (qC .i64 c0 (vd .i64 i15 i7)))::p0)) (.br b1 (qLo ((.i (qC .i64 c0 (vd .i64 i15 i8)))::p0)) (qLn b2 (qLo ((.i (qC .i64 c0 (vd .i64 i15 i9)))::p0)))))))) (.br b1 (.br b0 (.br b0 (qLo ((.i (qC .i64 c0 (vd .i64 i16 i1)))::p0)) (.br b1 (qLo ((.i (qC .i64 c0 (vd .i64 i16 i2)))::p0)) (qLn b2 (qLo ((.i (qC .i64 c0 (vd .i64 i16 i3)))::p0))))) (.br b1 (.br b0 (qLo ((.i (qC .i64 c0 (vd .i64 i16 i4)))::p0)) (.br b1 (qLo ((.i (qC .i64 c0 (vd .i64 i16 i5)))::p0)) (qLn b2 (qLo ((.i (qC .i64 c0 (vd .i64 i16 i6)))::p0))))) (qLn b2 (.br b0 (qLo ((.i (qC .i64 c0 (vd .i64 i16 i7)))::p0)) (.br b1 (qLo ((.i (qC .i64 c0 (vd .i64 i16 i8)))::p0)) (qLn b2 (qLo ((.i (qC .i64 c0 (vd .i64 i16 i9)))::p0)))))))) (qLn b2 (.br b0 (.br b0 (qLo ((.i (qC .i64 c0 (vd .i64 i17 i1)))::p0)) (.br b1 (qLo ((.i (qC .i64 c0 (vd .i64 i17 i2)))::p0)) (qLn b2 (qLo ((.i (qC .i64 c0 (vd .i64 i17 i3)))::p0))))) (.br b1 (.br b0 (qLo ((.i (qC .i64 c0 (vd .i64 i17 i4)))::p0)) (.br b1 (qLo ((.i (qC .i64 c0 (vd .i64 i17 i5)))::p0)) (qLn b2 (qLo ((.i (qC .i64 c0 (vd .i64 i17 i6)))::p0))))) (qLn b2 (.br b0 (qLo ((.i (qC .i64 c0 (vd .i64 i17 i7)))::p0)) (.br b1 (qLo ((.i (qC .i64 c0 (vd .i64 i17 i8)))::p0)) (qLn b2 (qLo ((.i (qC .i64 c0 (vd .i64 i17 i9)))::p0)))))))))))))) (.leaf (1,[.i c0])))):=by kernel_rfl
theorem qrR:q1E [.i c0,.i c1,.i c2,.i c3,.i c4,.i c5,.i c6,.i c7,.i c8]=(let r0:=qM [.i c0,.i c1,.i c2];qLm r0 (let r1:=qM [.i c3,.i c4,.i c5];qLm r1 (let r2:=qM [.i c6,.i c7,.i c8];qLm r2 (let r3:=qh q1b [.i 0,.i 0,.i (gI r0 0),.i (gI r0 1),.i (gI r0 2),.i (gI r1 0),.i (gI r1 1),.i (gI r1 2),.i (gI r2 0),.i (gI r2 1),.i (gI r2 2)];qLm r3 (qLo [.i (gI r3 0)]))))):=by kernel_rfl
theorem qsq:jY [.i c0]=(qLm (wP [.i c0]) (qLo [.s (gS (wP [.i c0]) 0)])):=by kernel_rfl
theorem qsj:j8 [.i c0]=(.br (ile 0 c0) (qLo [.b (ile c0 16)]) (qLo [.b false])):=by kernel_rfl
theorem qss:kx [.i c0,.i c1,.r a2,.i c3]=(qLn (inb (qC .i64 (vd .i64 c0 c3) c1) (qm a2)) (let r0:=jY [.i (cI a2 (qC .i64 (vd .i64 c0 c3) c1) 0)];qLm r0 (qLo [.s (gS r0 0),.r a2,.i c3]))):=by kernel_rfl
theorem qeb:km [.i c0,.i c1,.i c2,.i c3,.i c4,.i c5,.r a6,.i c7,.i c8,.i c9,.i c10,.i c11,.r a12]=(.br (ilt c5 c4) (let r0:=kx [.i c1,.i c5,.r a6,.i c7];qLm r0 (qLn (ile ((qm a12)+(qm [[.s (gS r0 0)]])) 8796093022208) (qLo [.i c0,.i c1,.i c2,.i c3,.i c4,.i (qC .i64 c5 1),.r (gR r0 1),.i (gI r0 2),.i c8,.i c9,.i c10,.i c11,.r (kN a12 [[.s (gS r0 0)]])]))) (.leaf (1,[.i c0,.i c2,.i c3,.r a6,.i c7,.i c8,.i c9,.i c10,.i c11,.r a12]))):=by kernel_rfl
theorem qgg:q1g [.i c0,.i c1,.i c2,.r a3,.i c4,.i c5,.i c6,.i c7,.i c8,.r a9]=(.br (ilt c2 c1) (let r0:=qh km [.i c0,.i c2,.i c1,.i c2,.i c0,.i 0,.r a3,.i c4,.i c5,.i c6,.i c7,.i c8,.r a9];qLm r0 (qLo [.i (gI r0 0),.i (gI r0 1),.i (qC .i64 (gI r0 2) 1),.r (gR r0 3),.i (gI r0 4),.i (gI r0 5),.i (gI r0 6),.i (gI r0 7),.i (gI r0 8),.r (gR r0 9)])) (.leaf (1,[.r a3,.i c4,.i c5,.i c6,.i c7,.i c8,.r a9]))):=by kernel_rfl
theorem qsc:q6J [.i c0,.i c1,.r a2,.i c3]=(let r0:=qh q1g [.i c1,.i c0,.i 0,.r a2,.i c3,.i 0,.i 0,.i c0,.i c1,.r []];qLm r0 (qLo [.i (gI r0 4),.i (gI r0 5),.r (gR r0 6),.r (gR r0 0),.i (gI r0 1)])):=by kernel_rfl
theorem qwN:qaX [.i c0,.i c1,.r a2]=(let r0:=j8 [.i c0];qLm r0 (.br (not (gB r0 0)) (qLo [.i 0,.i 0,.r [],.i 2]) (let r1:=j8 [.i c1];qLm r1 (.br (not (gB r1 0)) (qLo [.i 0,.i 0,.r [],.i 2]) (.br (ine (qm a2) (vd .i64 c0 c1)) (qLo [.i 0,.i 0,.r [],.i 8]) (let r2:=q6J [.i c0,.i c1,.r a2,.i c1];qLm r2 (qLo [.i (gI r2 0),.i (gI r2 1),.r (gR r2 2),.i 0]))))))):=by kernel_rfl
theorem qbc:yt [.r a0,.i c1,.i c2]=(.br (ilt c2 c1) (qLn (inb c2 (qm a0)) (let r0:=qP [.s (cS a0 c2 0)];qLm r0 (.br (ine (gI r0 0) 0) (.leaf (2,[.i (gI r0 0)])) (qLo [.r a0,.i c1,.i (qC .i64 c2 1)])))) (.leaf (1,[]))):=by kernel_rfl
theorem qnn:jo [.r a0]=(let r0:=qh yt [.r a0,.i (qm a0),.i 0];qLm r0 (.br (jIs r0 0) (qLo [.i 0]) (qLo [.i (gI r0 0)]))):=by kernel_rfl
theorem qq0:jK [.i c0,.i c1,.r a2]=(qLm (j8 [.i c0]) (.br (not (gB (j8 [.i c0]) 0)) (qLo [.i 2]) (qLm (j8 [.i c1]) (.br (not (gB (j8 [.i c1]) 0)) (qLo [.i 2]) (.br (ine (qm a2) (vd .i64 c0 c1)) (qLo [.i 8]) (qLm (jo [.r a2]) (qLo [.i (gI (jo [.r a2]) 0)]))))))):=by kernel_rfl
theorem qj3:vr [.s e0,.i c1,.i c2]=(let t0:TR:=(.br (ine c2 0) (qLo [.s [48],.i c2]) (qLo [.s e0,.i c2]));(.br (ine c1 0) (.br (ieq c2 0) (.br (ine c1 0) (qLo [.s [48],.i c1]) (qLo [.s e0,.i c1])) t0) t0)):=by kernel_rfl
theorem qki:kL [.s e0,.s e1,.i c2]=(let r0:=je [.s e0,.s e1];qLm r0 (let r1:=vr [.s (gS r0 0),.i (gI r0 1),.i c2];qLm r1 (qLo [.s (gS r1 0),.i (gI r1 1)]))):=by kernel_rfl
theorem qkC:ky [.s e0,.s e1,.i c2]=(let r0:=vt [.s e0,.s e1];qLm r0 (let r1:=vr [.s (gS r0 0),.i (gI r0 1),.i c2];qLm r1 (qLo [.s (gS r1 0),.i (gI r1 1)]))):=by kernel_rfl
theorem qpS:q4K [.i c0,.i c1,.r a2,.i c3,.i c4]=(qLn (inb (qC .i64 (vd .i64 c3 c1) c4) (qm a2)) (qLo [.s (cS a2 (qC .i64 (vd .i64 c3 c1) c4) 0)])):=by kernel_rfl
theorem qcM:uq [.r a0,.i c1,.s e2,.i c3,.i c4,.r a5,.i c6,.i c7,.i c8,.i c9,.r a10,.i c11,.r a12]=(.br (ilt c7 c6) (qLn (inb c7 (qm a5)) (let r0:=q4K [.i c8,.i c9,.r a10,.i c1,.i c7];qLm r0 (let r1:=ky [.s (gS r0 0),.s (cS a5 c7 0),.i c11];qLm r1 (let r2:=kL [.s e2,.s (gS r1 0),.i (gI r1 1)];qLm r2 (qLo [.r a0,.i c1,.s (gS r2 0),.i c3,.i c4,.r a5,.i c6,.i (qC .i64 c7 1),.i c8,.i c9,.r a10,.i (gI r2 1),.r a12]))))) (.leaf (1,[.r a0,.s e2,.i c3,.i c4,.i c8,.i c9,.r a10,.i c11,.r a12]))):=by kernel_rfl
theorem qcO:uv [.r a0,.i c1,.i c2,.i c3,.i c4,.r a5,.i c6,.r a7]=(.br (ilt c2 c1) (let r0:=qh uq [.r a0,.i c2,.s [48],.i c1,.i c2,.r a0,.i (qm a0),.i 0,.i c3,.i c4,.r a5,.i c6,.r a7];qLm r0 (qLn (ile ((qm (gR r0 8))+(qm [[.s (gS r0 1)]])) 8796093022208) (qLo [.r (gR r0 0),.i (gI r0 2),.i (qC .i64 (gI r0 3) 1),.i (gI r0 4),.i (gI r0 5),.r (gR r0 6),.i (gI r0 7),.r (kN (gR r0 8) [[.s (gS r0 1)]])]))) (.leaf (1,[.i c6,.r a7]))):=by kernel_rfl
theorem qq6:q4n [.i c0,.i c1,.r a2,.r a3]=(let r0:=jK [.i c0,.i c1,.r a2];qLm r0 (.br (ine (gI r0 0) 0) (qLo [.r [],.i (gI r0 0)]) (.br (ine (qm a3) c1) (qLo [.r [],.i 8]) (let r1:=jo [.r a3];qLm r1 (.br (ine (gI r1 0) 0) (qLo [.r [],.i (gI r1 0)]) (let r2:=qh uv [.r a3,.i c0,.i 0,.i c0,.i c1,.r a2,.i 0,.r []];qLm r2 (.br (ine (gI r2 0) 0) (qLo [.r [],.i (gI r2 0)]) (qLo [.r (gR r2 1),.i 0])))))))):=by kernel_rfl
theorem qhu:q25 [.s e0,.r a1,.i c2,.i c3]=(.br (ilt c3 c2) (qLn (inb c3 (qm a1)) (let r0:=je [.s e0,.s (cS a1 c3 0)];qLm r0 (.br (ine (gI r0 1) 0) (.leaf (2,[.s [],.i (gI r0 1)])) (qLo [.s (gS r0 0),.r a1,.i c2,.i (qC .i64 c3 1)])))) (.leaf (1,[.s e0]))):=by kernel_rfl
theorem qwI:qbp [.r a0]=(.br (ilt 4096 (qm a0)) (qLo [.s [],.i 5]) (let r0:=qE [.r a0];qLm r0 (.br (ine (gI r0 0) 0) (qLo [.s [],.i (gI r0 0)]) (let r1:=qh q25 [.s [48],.r a0,.i (qm a0),.i 0];qLm r1 (.br (jIs r1 0) (qLo [.s (gS r1 0),.i 0]) (qLo [.s (gS r1 0),.i (gI r1 1)])))))):=by kernel_rfl
theorem uU:qX [.r a0,.s e1,.r a2,.i c3,.i c4]=(.br (ilt c4 c3) (qLn (inb c4 (qm a2)) (qLn (inb c4 (qm a0)) (let r0:=vt [.s (cS a2 c4 0),.s (cS a0 c4 0)];qLm r0 (.br (ine (gI r0 1) 0) (.leaf (2,[.s [],.i (gI r0 1)])) (let r1:=je [.s e1,.s (gS r0 0)];qLm r1 (.br (ine (gI r1 1) 0) (.leaf (2,[.s [],.i (gI r1 1)])) (qLo [.r a0,.s (gS r1 0),.r a2,.i c3,.i (qC .i64 c4 1)]))))))) (.leaf (1,[.s e1]))):=by kernel_rfl
theorem q7i:qJ [.r a0,.r a1]=(let r0:=qh qX [.r a1,.s [48],.r a0,.i (qm a0),.i 0];qLm r0 (.br (jIs r0 0) (qLo [.s (gS r0 0),.i 0]) (qLo [.s (gS r0 0),.i (gI r0 1)]))):=by kernel_rfl
theorem qeg:kg [.i c0,.i c1,.i c2,.i c3,.s e4,.s e5,.s e6,.r a7]=(let t0:=jY [.i (qBJ [c0,c1,c2] c3)];let p0:List PV:=[.s (gS t0 0)];let t1:=zJ ((.s e6)::p0);let i0:Int:=(qC .i64 c3 1);let t2:=zJ ((.s e5)::p0);let t3:=zJ ((.s e4)::p0);(.br (ilt c3 3) (qLn (inb c3 3) (.br (ieq c3 2) (qLm t0 (qLm t1 (.br (ine (gI t1 1) 0) (.leaf (2,[.s [],.i (gI t1 1)])) (qLn (ile ((qm a7)+(qm [[.s (gS t1 0)]])) 8796093022208) (qLo [.i c0,.i c1,.i c2,.i i0,.s e4,.s e5,.s e6,.r (kN a7 [[.s (gS t1 0)]])]))))) (.br (ieq c3 1) (qLm t0 (qLm t2 (.br (ine (gI t2 1) 0) (.leaf (2,[.s [],.i (gI t2 1)])) (qLn (ile ((qm a7)+(qm [[.s (gS t2 0)]])) 8796093022208) (qLo [.i c0,.i c1,.i c2,.i i0,.s e4,.s e5,.s e6,.r (kN a7 [[.s (gS t2 0)]])]))))) (qLn (ieq c3 0) (qLm t0 (qLm t3 (.br (ine (gI t3 1) 0) (.leaf (2,[.s [],.i (gI t3 1)])) (qLn (ile ((qm a7)+(qm [[.s (gS t3 0)]])) 8796093022208) (qLo [.i c0,.i c1,.i c2,.i i0,.s e4,.s e5,.s e6,.r (kN a7 [[.s (gS t3 0)]])]))))))))) (.leaf (1,[.r a7])))):=by kernel_rfl
theorem qpT:j3 [.s e0,.s e1,.s e2,.i c3,.i c4,.i c5]=(let r0:=qM [.i c3,.i c4,.i c5];qLm r0 (let r1:=qh kg [.i (gI r0 0),.i (gI r0 1),.i (gI r0 2),.i 0,.s e0,.s e1,.s e2,.r []];qLm r1 (.br (jIs r1 0) (let r2:=qJ [.r (gR r1 0),.r (gR r1 0)];qLm r2 (qLo [.s (gS r2 0),.i (gI r2 1)])) (qLo [.s (gS r1 0),.i (gI r1 1)])))):=by kernel_rfl
theorem q9z:jB [.r a0,.i c1,.i c2,.i c3,.i c4,.i c5,.i c6,.s e7,.s e8,.s e9,.s e10,.r a11,.r a12]=(.br (ilt c6 c5) (qLn (inb 0 (qm a0)) (qLn (inb (qC .i64 c2 1) (qm a0)) (qLn (inb (qC .i64 c6 1) (qm a0)) (let r0:=q1E [.i (cI a0 0 0),.i (cI a0 0 1),.i (cI a0 0 2),.i (cI a0 (qC .i64 c2 1) 0),.i (cI a0 (qC .i64 c2 1) 1),.i (cI a0 (qC .i64 c2 1) 2),.i (cI a0 (qC .i64 c6 1) 0),.i (cI a0 (qC .i64 c6 1) 1),.i (cI a0 (qC .i64 c6 1) 2)];qLm r0 (qLn (ile ((qm a11)+(qm [[.i (vd .i64 2 (gI r0 0))]])) 17592186044416) (qLo [.r a0,.i c1,.i c2,.i c3,.i c4,.i c5,.i (qC .i64 c6 1),.s e7,.s e8,.s e9,.s e10,.r (kN a11 [[.i (vd .i64 2 (gI r0 0))]]),.r a12])))))) (.leaf (1,[.r a0,.i c1,.i c2,.i c3,.i c4,.s e7,.s e8,.s e9,.s e10,.r a11,.r a12]))):=by kernel_rfl
theorem qbB:ym [.r a0,.i c1,.i c2,.i c3,.s e4,.s e5,.s e6,.s e7,.r a8,.r a9]=(let p0:List PV:=[.s e4,.s e5,.s e6,.s e7,.r a8,.r a9];let t0:=qh jB ((.r a0)::(.i c1)::(.i c3)::(.i c2)::(.i c3)::(.i c1)::(.i 0)::p0);let l0:R:=(gR t0 0);let i0:Int:=(qC .i64 (gI t0 2) 1);let t1:=q1E [.i (cI l0 0 0),.i (cI l0 0 1),.i (cI l0 0 2),.i (cI l0 i0 0),.i (cI l0 i0 1),.i (cI l0 i0 2),.i (cI l0 i0 0),.i (cI l0 i0 1),.i (cI l0 i0 2)];let t2:=jY [.i (gI t1 0)];(.br (ilt c3 c2) (qLm t0 (qLn (inb 0 (qm l0)) (qLn (inb i0 (qm l0)) (qLn (inb i0 (qm l0)) (qLm t1 (qLm t2 (qLn (ile ((qm (gR t0 10))+(qm [[.s (gS t2 0)]])) 8796093022208) (qLo [.r l0,.i (gI t0 1),.i (gI t0 3),.i (qC .i64 (gI t0 4) 1),.s (gS t0 5),.s (gS t0 6),.s (gS t0 7),.s (gS t0 8),.r (gR t0 9),.r (kN (gR t0 10) [[.s (gS t2 0)]])])))))))) (.leaf (1,((.r a0)::(.i c1)::p0))))):=by kernel_rfl
theorem q9x:jH [.r a0,.i c1,.i c2,.r a3,.i c4,.i c5,.s e6,.s e7,.s e8,.s e9,.r a10,.s e11,.s e12,.s e13,.s e14,.r a15]=(.br (ilt c5 c4) (qLn (inb c5 (qm a3)) (let r0:=qM [.i (cI a3 c5 0),.i (cI a3 c5 1),.i (cI a3 c5 2)];qLm r0 (qLn (inb c1 3) (let r1:=jY [.i (qBJ [(gI r0 0),(gI r0 1),(gI r0 2)] c1)];qLm r1 (qLn (ile ((qm a15)+(qm [[.s (gS r1 0)]])) 8796093022208) (qLo [.r a0,.i c1,.i c2,.r a3,.i c4,.i (qC .i64 c5 1),.s e6,.s e7,.s e8,.s e9,.r a10,.s e11,.s e12,.s e13,.s e14,.r (kN a15 [[.s (gS r1 0)]])])))))) (.leaf (1,[.r a0,.i c1,.i c2,.s e6,.s e7,.s e8,.s e9,.r a10,.s e11,.s e12,.s e13,.s e14,.r a15]))):=by kernel_rfl
theorem q9u:jF [.r a0,.i c1,.s e2,.s e3,.s e4,.s e5,.r a6,.s e7,.s e8,.s e9,.s e10]=(let t0:=qh jH [.r a0,.i c1,.i c1,.r a0,.i (qm a0),.i 0,.s e2,.s e3,.s e4,.s e5,.r a6,.s e7,.s e8,.s e9,.s e10,.r []];let l0:R:=(gR t0 7);let t1:=qJ [.r l0,.r (gR t0 12)];let b0:Bool:=(ine (gI t1 1) 0);let t2:TR:=(.leaf (2,[.b false,.i (gI t1 1),.s [],.s [],.s [],.s []]));let i0:Int:=(qC .i64 (gI t0 2) 1);let p0:List PV:=[.s (gS t0 10),.s (gS t0 11)];(.br (ilt c1 3) (qLm t0 (qLm t1 (.br (ieq (gI t0 1) 2) (.br b0 t2 (qLo [.r (gR t0 0),.i i0,.s (gS t0 3),.s (gS t0 4),.s (gS t0 5),.s (gS t0 6),.r l0,.s (gS t0 8),.s (gS t0 9),.s (gS t1 0),.s (gS t0 11)])) (.br (ieq (gI t0 1) 1) (.br b0 t2 (qLo ((.r (gR t0 0))::(.i i0)::(.s (gS t0 3))::(.s (gS t0 4))::(.s (gS t0 5))::(.s (gS t0 6))::(.r l0)::(.s (gS t0 8))::(.s (gS t1 0))::p0))) (qLn (ieq (gI t0 1) 0) (.br b0 t2 (qLo ((.r (gR t0 0))::(.i i0)::(.s (gS t0 3))::(.s (gS t0 4))::(.s (gS t0 5))::(.s (gS t0 6))::(.r l0)::(.s (gS t1 0))::(.s (gS t0 9))::p0)))))))) (.leaf (1,[.r a0,.s e2,.s e3,.s e4,.s e5,.r a6,.s e7,.s e8,.s e9,.s e10])))):=by kernel_rfl
theorem qdY:ki [.r a0]=(let r0:=qh ym [.r a0,.i (yF .i64 (qm a0) 1),.i (yF .i64 (qm a0) 1),.i 0,.s [],.s [],.s [],.s [],.r [],.r []];qLm r0 (let r1:=qaX [.i (gI r0 1),.i (gI r0 1),.r (gR r0 6)];qLm r1 (.br (ine (gI r1 3) 0) (qLo [.s [],.s [],.s [],.s [],.r [],.b false,.i (gI r1 3)]) (let r2:=yJ [.i (gI r1 0),.i (gI r1 1),.r (gR r1 2)];qLm r2 (.br (ieq (gI r2 3) 14) (qLo [.s [],.s [],.s [],.s [],.r [],.b false,.i 0]) (.br (ine (gI r2 3) 0) (qLo [.s [],.s [],.s [],.s [],.r [],.b false,.i (gI r2 3)]) (let r3:=q4n [.i (gI r2 0),.i (gI r2 1),.r (gR r2 2),.r (gR r0 7)];qLm r3 (.br (ine (gI r3 1) 0) (qLo [.s [],.s [],.s [],.s [],.r [],.b false,.i (gI r3 1)]) (let r4:=qbp [.r (gR r3 0)];qLm r4 (.br (ine (gI r4 1) 0) (qLo [.s [],.s [],.s [],.s [],.r [],.b false,.i (gI r4 1)]) (let r5:=zJ [.s [49],.s (gS r4 0)];qLm r5 (.br (ine (gI r5 1) 0) (qLo [.s [],.s [],.s [],.s [],.r [],.b false,.i (gI r5 1)]) (qLn (ile ((qm [[.s (gS r5 0)]])+(qm (gR r3 0))) 8796093022208) (let r6:=qh jF [.r (gR r0 0),.i 0,.s (gS r0 2),.s (gS r0 3),.s (gS r0 4),.s (gS r0 5),.r (kN [[.s (gS r5 0)]] (gR r3 0)),.s [],.s [],.s [],.s []];qLm r6 (.br (jIs r6 0) (qLn (inb 0 (qm (gR r6 0))) (let r7:=j3 [.s (gS r6 6),.s (gS r6 7),.s (gS r6 8),.i (cI (gR r6 0) 0 0),.i (cI (gR r6 0) 0 1),.i (cI (gR r6 0) 0 2)];qLm r7 (qLo [.s (gS r6 6),.s (gS r6 7),.s (gS r6 8),.s (gS r7 0),.r (gR r6 5),.b true,.i (gI r7 1)]))) (qLo [.s (gS r6 2),.s (gS r6 3),.s (gS r6 4),.s (gS r6 5),.r [],.b (gB r6 0),.i (gI r6 1)])))))))))))))))):=by kernel_rfl
theorem qb2:yC [.r a0,.r a1,.i c2,.i c3,.r a4]=(.br (ilt c3 c2) (qLn (inb c3 (qm a1)) (qLn (inb (cI a1 c3 0) (qm a0)) (qLn (ile ((qm a4)+(qm [[.i (cI a0 (cI a1 c3 0) 0),.i (cI a0 (cI a1 c3 0) 1),.i (cI a0 (cI a1 c3 0) 2)]])) 5864062014805) (qLo [.r a0,.r a1,.i c2,.i (qC .i64 c3 1),.r (kN a4 [[.i (cI a0 (cI a1 c3 0) 0),.i (cI a0 (cI a1 c3 0) 1),.i (cI a0 (cI a1 c3 0) 2)]])])))) (.leaf (1,[.r a4]))):=by kernel_rfl
theorem qnf:q1U [.r a0,.r a1]=(let r0:=qh yC [.r a0,.r a1,.i (qm a1),.i 0,.r []];qLm r0 (qLo [.r (gR r0 0)])):=by kernel_rfl
theorem qrY:q6m [.s e0]=(let r0:=qP [.s e0];qLm r0 (.br (ine (gI r0 0) 0) (qLo [.s [],.s [],.i (gI r0 0)]) (let r1:=qL [.s e0];qLm r1 (qLo [.s (gS r1 0),.s (gS r1 1),.i 0])))):=by kernel_rfl
theorem qtM:q5C [.s e0]=(let r0:=q6m [.s e0];qLm r0 (.br (ine (gI r0 2) 0) (qLo [.i 0,.i (gI r0 2)]) (let r1:=q3f [.s (gS r0 0)];qLm r1 (qLo [.i (gI r1 0),.i (gI r1 1)])))):=by kernel_rfl
theorem qcb:z8 [.s e0]=(qLm (q5C [.s e0]) (qLo [.b (ilt (gI (q5C [.s e0]) 0) 0)])):=by kernel_rfl
theorem wB:qH [.r a0,.i c1,.i c2]=(.br (ilt c2 c1) (qLn (inb c2 (qm a0)) (let r0:=z8 [.s (cS a0 c2 0)];qLm r0 (.br (gB r0 0) (.leaf (2,[.i c2])) (qLo [.r a0,.i c1,.i (qC .i64 c2 1)])))) (.leaf (1,[]))):=by kernel_rfl
theorem uD:qU [.r a0]=(let r0:=qh qH [.r a0,.i (qm a0),.i 0];qLm r0 (.br (jIs r0 0) (qLo [.i (-1)]) (qLo [.i (gI r0 0)]))):=by kernel_rfl
theorem q3E:qY [.r a0]=(let r0:=qU [.r a0];qLm r0 (qLo [.b (ile 0 (gI r0 0))])):=by kernel_rfl
theorem qeF:j4 [.s e0,.s e1,.s e2,.s e3,.r a4]=(let r0:=qY [.r a4];qLm r0 (qLo [.b (not (gB r0 0))])):=by kernel_rfl
theorem qoV:uG [.s e0,.s e1]=(let r0:=qE [.r [[.s e0],[.s e1]]];qLm r0 (.br (ine (gI r0 0) 0) (qLo [.i 0,.i (gI r0 0)]) (let r1:=qL [.s e0];qLm r1 (let r2:=qL [.s e1];qLm r2 (let r3:=qg [.r [[.s (gS r1 0)],[.s (gS r2 1)]],.i 0];qLm r3 (let r4:=qg [.r [[.s (gS r2 0)],[.s (gS r1 1)]],.i (gI r3 1)];qLm r4 (.br (ine (gI r4 1) 0) (qLo [.i 0,.i (gI r4 1)]) (let r5:=uA [.s (gS r3 0),.s (gS r4 0)];qLm r5 (qLo [.i (gI r5 0),.i (gI r5 1)]))))))))):=by kernel_rfl
theorem u9:ze [.r a0,.i c1,.i c2,.s e3,.s e4,.s e5,.s e6,.r a7]=(.br (ilt c2 c1) (qLn (inb c2 (qm a0)) (let r0:=j3 [.s e3,.s e4,.s e5,.i (cI a0 c2 0),.i (cI a0 c2 1),.i (cI a0 c2 2)];qLm r0 (.br (ine (gI r0 1) 0) (.leaf (2,[.b false,.i (gI r0 1)])) (let r1:=uG [.s (gS r0 0),.s e6];qLm r1 (.br (ine (gI r1 1) 0) (.leaf (2,[.b false,.i (gI r1 1)])) (.br (ilt 0 (gI r1 0)) (.leaf (2,[.b false,.i (gI r1 1)])) (qLo [.r a0,.i c1,.i (qC .i64 c2 1),.s e3,.s e4,.s e5,.s e6,.r a7]))))))) (.leaf (1,[]))):=by kernel_rfl
theorem qc1:va [.s e0,.s e1,.s e2,.s e3,.r a4,.r a5]=(let r0:=qh ze [.r a5,.i (qm a5),.i 0,.s e0,.s e1,.s e2,.s e3,.r a4];qLm r0 (.br (jIs r0 0) (qLo [.b true,.i 0]) (qLo [.b (gB r0 0),.i (gI r0 1)]))):=by kernel_rfl
theorem q9t:zX [.r a0,.r a1]=(let t0:=q1U [.r a0,.r a1];let t1:=ki [.r (gR t0 0)];let t2:TR:=(qLo [.s [],.s [],.s [],.s [],.r [],.b false,.i (gI t1 6)]);let t3:=j4 [.s (gS t1 0),.s (gS t1 1),.s (gS t1 2),.s (gS t1 3),.r (gR t1 4)];let t4:=va [.s (gS t1 0),.s (gS t1 1),.s (gS t1 2),.s (gS t1 3),.r (gR t1 4),.r a0];(qLm t0 (qLm t1 (.br (ine (gI t1 6) 0) t2 (.br (not (gB t1 5)) t2 (qLm t3 (.br (not (gB t3 0)) t2 (qLm t4 (qLo [.s (gS t1 0),.s (gS t1 1),.s (gS t1 2),.s (gS t1 3),.r (gR t1 4),.b (gB t4 0),.i (gI t4 1)]))))))))):=by kernel_rfl
theorem q2k:qV [.r a0,.i c1,.i c2,.i c3,.i c4,.i c5,.r a6,.s e7,.s e8,.s e9,.s e10,.i c11,.i c12,.i c13,.r a14,.r a15]=(.br (ilt c1 c12) (let r0:=wM [.r a0];qLm r0 (qLn (ile ((qm (gR r0 0))+(qm [[.i c1]])) 17592186044416) (qLn (ile ((qm a15)+(qm [[.l (kN (gR r0 0) [[.i c1]])]])) 5864062014805) (let r1:=zX [.r a6,.r (kN (gR r0 0) [[.i c1]])];qLm r1 (.br (ine (gI r1 6) 0) .fail (.br (gB r1 5) (.leaf (2,[.r a6,.s (gS r1 0),.s (gS r1 1),.s (gS r1 2),.s (gS r1 3),.r (gR r1 4),.i 0,.i c12,.i c13,.r (kN (gR r0 0) [[.i c1]])])) (qLo [.r a0,.i (qC .i64 c1 1),.i c2,.i c3,.i c4,.i c5,.r a6,.s e7,.s e8,.s e9,.s e10,.i c11,.i c12,.i c13,.r a14,.r (kN a15 [[.l (kN (gR r0 0) [[.i c1]])]])]))))))) (.leaf (1,[.i c2,.i c3,.i c4,.i c5,.r a6,.s e7,.s e8,.s e9,.s e10,.i c11,.i c12,.i c13,.r a14,.r a15]))):=by kernel_rfl
theorem q2W:ji [.i c0,.i c1,.i c2,.i c3,.r a4,.s e5,.s e6,.s e7,.s e8,.i c9,.i c10,.i c11,.r a12,.r a13]=(let l0:R:=(cR a12 c3 0);let i0:Int:=(qm l0);let p0:List PV:=[.i c0,.i c1,.i c2,.i c3,.r a4,.s e5,.s e6,.s e7,.s e8,.i c9,.i c10,.i c11,.r a12,.r a13];let t0:=qh qV ((.r l0)::(.i (qC .i64 (cI l0 (yF .i64 i0 1) 0) 1))::p0);let t1:=qh qV ((.r l0)::(.i 0)::p0);(.br (ilt c3 c2) (qLn (inb c3 (qm a12)) (.br (ilt 0 i0) (qLn (inb (yF .i64 i0 1) i0) (qLm t0 (.br (jIs t0 0) (qLo [.i (gI t0 0),.i (gI t0 1),.i (gI t0 2),.i (qC .i64 (gI t0 3) 1),.r (gR t0 4),.s (gS t0 5),.s (gS t0 6),.s (gS t0 7),.s (gS t0 8),.i (gI t0 9),.i (gI t0 10),.i (gI t0 11),.r (gR t0 12),.r (gR t0 13)]) (.leaf (2,[.r (gR t0 0),.s (gS t0 1),.s (gS t0 2),.s (gS t0 3),.s (gS t0 4),.r (gR t0 5),.i (gI t0 6),.i (gI t0 7),.i (gI t0 8),.r (gR t0 9)]))))) (qLm t1 (.br (jIs t1 0) (qLo [.i (gI t1 0),.i (gI t1 1),.i (gI t1 2),.i (qC .i64 (gI t1 3) 1),.r (gR t1 4),.s (gS t1 5),.s (gS t1 6),.s (gS t1 7),.s (gS t1 8),.i (gI t1 9),.i (gI t1 10),.i (gI t1 11),.r (gR t1 12),.r (gR t1 13)]) (.leaf (2,[.r (gR t1 0),.s (gS t1 1),.s (gS t1 2),.s (gS t1 3),.s (gS t1 4),.r (gR t1 5),.i (gI t1 6),.i (gI t1 7),.i (gI t1 8),.r (gR t1 9)])))))) (.leaf (1,[.i c0,.i c1,.r a4,.s e5,.s e6,.s e7,.s e8,.i c9,.i c10,.i c11,.r a13])))):=by kernel_rfl
theorem q2R:jl [.i c0,.i c1,.r a2,.s e3,.s e4,.s e5,.s e6,.i c7,.i c8,.i c9,.r a10]=(.br (ilt c1 c0) (let r0:=qh ji [.i c0,.i c1,.i (qm a10),.i 0,.r a2,.s e3,.s e4,.s e5,.s e6,.i c7,.i c8,.i c9,.r a10,.r []];qLm r0 (.br (jIs r0 0) (qLo [.i (gI r0 0),.i (qC .i64 (gI r0 1) 1),.r (gR r0 2),.s (gS r0 3),.s (gS r0 4),.s (gS r0 5),.s (gS r0 6),.i (gI r0 7),.i (gI r0 8),.i (gI r0 9),.r (gR r0 10)]) (.leaf (2,[.r (gR r0 0),.s (gS r0 1),.s (gS r0 2),.s (gS r0 3),.s (gS r0 4),.r (gR r0 5),.i (gI r0 6),.i (gI r0 7),.i (gI r0 8),.r (gR r0 9)])))) (.leaf (1,[.r a2,.s e3,.s e4,.s e5,.s e6,.i c7,.i c8,.i c9]))):=by kernel_rfl
theorem qoR:q0F [.r a0,.i c1]=(let r0:=qh jl [.i c1,.i 0,.r a0,.s [],.s [],.s [],.s [],.i 0,.i (qm a0),.i c1,.r [[.l []]]];qLm r0 (.br (jIs r0 0) (qLo [.s [],.s [],.s [],.s [],.r [],.r [],.i 6]) (qLo [.s (gS r0 1),.s (gS r0 2),.s (gS r0 3),.s (gS r0 4),.r (gR r0 5),.r (gR r0 9),.i (gI r0 6)]))):=by kernel_rfl
theorem qaA:yp [.r a0,.i c1,.i c2,.r a3]=(.br (ilt c2 c1) (qLn (inb c2 (qm a0)) (qLn (ile ((qm a3)+(qm [[.i (cI a0 c2 0),.i (cI a0 c2 1),.i 0]])) 5864062014805) (qLo [.r a0,.i c1,.i (qC .i64 c2 1),.r (kN a3 [[.i (cI a0 c2 0),.i (cI a0 c2 1),.i 0]])]))) (.leaf (1,[.r a3]))):=by kernel_rfl
theorem qn4:q1Z [.r a0]=(let r0:=qh yp [.r a0,.i (qm a0),.i 0,.r []];qLm r0 (qLo [.r (gR r0 0)])):=by kernel_rfl
theorem qf8:uP [.s e0,.s e1,.s e2,.s e3,.r a4]=(qLo [.s e0,.s e1]):=by kernel_rfl
theorem qnN:q1X [.r a0]=(let r0:=q4D [.r a0];qLm r0 (.br (ine (gI r0 0) 0) (qLo [.s [],.s [],.s [],.r [],.i (gI r0 0)]) (let r1:=q1Z [.r a0];qLm r1 (let r2:=q0F [.r (gR r1 0),.i 3];qLm r2 (.br (ine (gI r2 6) 0) (qLo [.s [],.s [],.s [],.r [],.i (gI r2 6)]) (let r3:=uP [.s (gS r2 0),.s (gS r2 1),.s (gS r2 2),.s (gS r2 3),.r (gR r2 4)];qLm r3 (qLo [.s (gS r3 0),.s (gS r3 1),.s (gS r2 3),.r (gR r2 5),.i 0]))))))):=by kernel_rfl
theorem qp0:q3b [.s e0,.i c1]=(.br (ilt c1 (qw e0)) (qLn (inb c1 (qw e0)) (.br (ieq (sat e0 c1) 47) (.leaf (2,[.i c1])) (qLo [.s e0,.i (qC .i64 c1 1)]))) (.leaf (1,[]))):=by kernel_rfl
theorem qsn:q1D [.s e0]=(let r0:=qh q3b [.s e0,.i 0];qLm r0 (.br (jIs r0 0) (qLo [.i (-1)]) (qLo [.i (gI r0 0)]))):=by kernel_rfl
theorem qsH:ue [.s e0]=(let r0:=q1D [.s e0];qLm r0 (.br (ilt (gI r0 0) 0) (qLo [.s e0,.s [49]]) (qLn (q7e (gI r0 0) (qw e0)) (qLn (q7e 0 (gI r0 0)) (qLn (q7e (qw e0) (qw e0)) (qLn (q7e (qC .i64 (gI r0 0) 1) (qw e0)) (qLo [.s (qcE e0 0 (gI r0 0)),.s (qcE e0 (qC .i64 (gI r0 0) 1) (qw e0))]))))))):=by kernel_rfl
theorem qlK:qx [.s e0]=(.br (not (seq e0 [])) (qLn (inb 0 (qw e0)) (.br (ieq (sat e0 0) 45) (qLn (q7e (qw e0) (qw e0)) (qLn (q7e 1 (qw e0)) (qLo [.s (qcE e0 1 (qw e0))]))) (qLo [.s e0]))) (qLo [.s e0])):=by kernel_rfl
theorem qoK:q3c [.s e0,.i c1]=(.br (ilt c1 (qw e0)) (qLn (inb c1 (qw e0)) (.br (ilt (sat e0 c1) 48) (.leaf (2,[.i 3])) (qLn (inb c1 (qw e0)) (.br (ilt 57 (sat e0 c1)) (.leaf (2,[.i 3])) (qLo [.s e0,.i (qC .i64 c1 1)]))))) (.leaf (1,[.s e0]))):=by kernel_rfl
theorem qsC:q3F [.s e0]=(let s0:List UInt8:=(gS (qx [.s e0]) 0);let t0:TR:=(qLo [.i 3]);let t1:=qh q3c [.s s0,.i 0];let t2:TR:=(qLm t1 (.br (jIs t1 0) (.br (ilt 1024 (qw (gS t1 0))) (qLo [.i 11]) (qLo [.i 0])) (qLo [.i (gI t1 0)])));(qLm (qx [.s e0]) (.br (seq s0 []) t0 (qLn (inb 0 (qw s0)) (.br (ieq (sat s0 0) 48) (.br (ilt 1 (qw s0)) t0 (.br (ilt 1 (qw e0)) t0 t2)) t2))))):=by kernel_rfl
theorem qsw:qI [.s e0]=(qLn (inb 0 (qw e0)) (qLo [.b (ieq (sat e0 0) 45)])):=by kernel_rfl
theorem qrp:zk [.s e0,.b d1]=(.br d1 (.br (not (seq e0 [48])) (qLn (ile ((qw [45])+(qw e0)) 140737488355328) (qLo [.s (qeI [45] e0)])) (qLo [.s e0])) (qLo [.s e0])):=by kernel_rfl
theorem qpC:w8 [.s e0]=(let r0:=qx [.s e0];qLm r0 (let r1:=qI [.s e0];qLm r1 (let r2:=zk [.s (gS r0 0),.b (not (gB r1 0))];qLm r2 (qLo [.s (gS r2 0)])))):=by kernel_rfl
theorem qrO(y0:Int)(y1:qLp):qam [.i y0,.s y1]=(.br (ilt 9 y0) (qLn (ile ((qw (qnA [[.i (q2J .u8 (qC .i64 48 (qb4 y0 10)))]]))+(qw y1)) 140737488355328) (qLo [.i (qcK .i64 y0 10),.s (qeI (qnA [[.i (q2J .u8 (qC .i64 48 (qb4 y0 10)))]]) y1)])) (.leaf (1,[.i y0,.s y1]))):=by kernel_rfl
theorem qws:q5z [.i c0]=(let t0:=qh qam [.i c0,.s []];let s0:List UInt8:=(qnA [[.i (q2J .u8 (qC .i64 48 (gI t0 0)))]]);let t1:TR:=(.br (ilt c0 0) .fail (qLm t0 (qLn (ile ((qw s0)+(qw (gS t0 1))) 140737488355328) (qLo [.s (qeI s0 (gS t0 1))]))));(.br (ieq c0 (yF .i64 0 c0)) (.br (ine c0 0) (qLo [.s [45,57,50,50,51,51,55,50,48,51,54,56,53,52,55,55,53,56,48,56]]) t1) t1)):=by kernel_rfl
theorem qus(y0:Int)(y1:qLp):qch [.i y0,.s y1]=(.br (ilt 9 y0) (qLn (ile ((qw (qnA [[.i (q2J .u8 (qC .i64 48 (qb4 y0 10)))]]))+(qw y1)) 140737488355328) (qLo [.i (qcK .i64 y0 10),.s (qeI (qnA [[.i (q2J .u8 (qC .i64 48 (qb4 y0 10)))]]) y1)])) (.leaf (1,[.i y0,.s y1]))):=by kernel_rfl
theorem qqe:zA [.i c0]=(let i0:Int:=(yF .i64 0 c0);let t0:=w8 [.s (gS (q5z [.i i0]) 0)];let t1:=qh qch [.i c0,.s []];let s0:List UInt8:=(qnA [[.i (q2J .u8 (qC .i64 48 (gI t1 0)))]]);let t2:TR:=(.br (ilt c0 0) (qLm (q5z [.i i0]) (qLm t0 (qLo [.s (gS t0 0)]))) (qLm t1 (qLn (ile ((qw s0)+(qw (gS t1 1))) 140737488355328) (qLo [.s (qeI s0 (gS t1 1))]))));(.br (ieq c0 i0) (.br (ine c0 0) (qLo [.s [45,57,50,50,51,51,55,50,48,51,54,56,53,52,55,55,53,56,48,56]]) t2) t2)):=by kernel_rfl
theorem qeH:kq [.s e0,.i c1,.s e2,.i c3]=(.br (ilt c3 (qw e2)) (qLn (inb c3 (qw e2)) (qLo [.s e0,.i (qC .i64 (vd .i64 10 c1) (q2J .i64 (yF .u8 (sat e2 c3) 48))),.s e2,.i (qC .i64 c3 1)])) (.leaf (1,[.s e0,.i c1]))):=by kernel_rfl
theorem qre:ul [.s e0]=(let r0:=qx [.s e0];qLm r0 (let r1:=qh kq [.s e0,.i 0,.s (gS r0 0),.i 0];qLm r1 (let r2:=qI [.s (gS r1 0)];qLm r2 (.br (gB r2 0) (qLo [.i (yF .i64 0 (gI r1 1))]) (qLo [.i (gI r1 1)]))))):=by kernel_rfl
theorem qsF:j9 [.s e0,.s e1]=(qLm (qx [.s e0]) (.br (ilt 18 (qw (gS (qx [.s e0]) 0))) (qLo [.i 0,.i 0,.b false]) (qLm (qx [.s e1]) (.br (ilt 18 (qw (gS (qx [.s e1]) 0))) (qLo [.i 0,.i 0,.b false]) (qLm (ul [.s e0]) (qLm (ul [.s e1]) (qLo [.i (gI (ul [.s e0]) 0),.i (gI (ul [.s e1]) 0),.b true]))))))):=by kernel_rfl
theorem qpF:q4P [.s e0]=(.br (ilt 1 (qw e0)) (qLn (inb 0 (qw e0)) (.br (ieq (sat e0 0) 48) (qLn (q7e (qw e0) (qw e0)) (qLn (q7e 1 (qw e0)) (qLo [.s (qcE e0 1 (qw e0))]))) (.leaf (1,[.s e0])))) (.leaf (1,[.s e0]))):=by kernel_rfl
theorem qui:uk [.s e0]=(let r0:=qh q4P [.s e0];qLm r0 (qLo [.s (gS r0 0)])):=by kernel_rfl
theorem qh0:q27 [.s e0,.i c1,.i c2,.r a3]=(.br (ilt c2 c1) (qLn (inb c2 (qm a3)) (qLo [.s e0,.i c1,.i (qC .i64 c2 1),.r (qgZ a3 c2 0 [.i 48])])) (.leaf (1,[.s e0,.i c1,.r a3]))):=by kernel_rfl
theorem qu7:q5T [.s e0,.i c1]=(let t0:=qh q27 [.s e0,.i c1,.i 0,.r (q4f c1 [.i 0])];let i0:Int:=(qm (gR t0 2));let i1:Int:=(yF .i64 (gI t0 1) (qw (gS t0 0)));(qLn (ieq c1 c1) (qLn (q7e c1 140737488355328) (qLm t0 (qLn (ilt 0 i0) (qLn (q7e i1 i0) (qLn (ile (qw (gS t0 0)) (qxQ i0 i1)) (qLo [.s (qnA (qxg (gR t0 2) i1 (gS t0 0)))])))))))):=by kernel_rfl
theorem qqg:q4u [.i c0,.i c1,.i c2,.b d3]=(let i0:Int:=(q2J .i64 (yF .u8 c0 48));let i1:Int:=(q2J .i64 (yF .u8 c1 48));let i2:Int:=(qC .i64 (qC .i64 i0 i1) c2);let i3:Int:=(qC .i64 48 i2);let i4:Int:=(yF .i64 (yF .i64 i0 i1) c2);let i5:Int:=(qC .i64 48 i4);(.br d3 (.br (ilt 9 i2) (qLo [.i (q2J .u8 (yF .i64 i3 10)),.i 1]) (.br (ilt i2 0) (qLo [.i (q2J .u8 (qC .i64 i3 10)),.i 1]) (qLo [.i (q2J .u8 i3),.i 0]))) (.br (ilt 9 i4) (qLo [.i (q2J .u8 (yF .i64 i5 10)),.i 1]) (.br (ilt i4 0) (qLo [.i (q2J .u8 (qC .i64 i5 10)),.i 1]) (qLo [.i (q2J .u8 i5),.i 0]))))):=by kernel_rfl
theorem qoM:q0M [.s e0,.s e1,.b d2,.i c3,.i c4,.r a5]=(.br (ile 0 c4) (qLn (inb c4 (qw e0)) (qLn (inb c4 (qw e1)) (let r0:=q4u [.i (sat e0 c4),.i (sat e1 c4),.i c3,.b d2];qLm r0 (qLn (inb c4 (qm a5)) (qLo [.s e0,.s e1,.b d2,.i (gI r0 1),.i (yF .i64 c4 1),.r (qgZ a5 c4 0 [.i (gI r0 0)])]))))) (.leaf (1,[.r a5]))):=by kernel_rfl
theorem qsg:ud [.s e0,.s e1,.b d2]=(let i0:Int:=(qC .i64 (qvr (qw e0) (qw e1)) 1);let t0:=q5T [.s e0,.i i0];let t1:=q5T [.s e1,.i i0];let t2:=qh q0M [.s (gS t0 0),.s (gS t1 0),.b d2,.i 0,.i (yF .i64 i0 1),.r (q4f i0 [.i 0])];let t3:=uk [.s (qnA (gR t2 0))];(qLm t0 (qLm t1 (qLn (ieq i0 i0) (qLn (q7e i0 140737488355328) (qLm t2 (qLm t3 (qLo [.s (gS t3 0)])))))))):=by kernel_rfl
theorem qvi:q2Y [.s e0,.s e1]=(.br (ilt (qw e0) (qw e1)) (qLo [.b true]) (.br (ieq (qw e0) (qw e1)) (qLo [.b (slt e0 e1)]) (qLo [.b false]))):=by kernel_rfl
theorem qu1:q8I [.s e0,.s e1]=(let r0:=j9 [.s e0,.s e1];qLm r0 (.br (gB r0 2) (let r1:=zA [.i (qC .i64 (gI r0 0) (gI r0 1))];qLm r1 (qLo [.s (gS r1 0)])) (let r1:=qx [.s e0];qLm r1 (let r2:=qx [.s e1];qLm r2 (let r3:=qI [.s e0];qLm r3 (let r4:=qI [.s e1];qLm r4 (.br (beq (gB r3 0) (gB r4 0)) (let r5:=ud [.s (gS r1 0),.s (gS r2 0),.b true];qLm r5 (qLm r3 (let r6:=zk [.s (gS r5 0),.b (gB r3 0)];qLm r6 (qLo [.s (gS r6 0)])))) (let r5:=q2Y [.s (gS r1 0),.s (gS r2 0)];qLm r5 (.br (gB r5 0) (let r6:=ud [.s (gS r2 0),.s (gS r1 0),.b false];qLm r6 (qLm r4 (let r7:=zk [.s (gS r6 0),.b (gB r4 0)];qLm r7 (qLo [.s (gS r7 0)])))) (let r6:=ud [.s (gS r1 0),.s (gS r2 0),.b false];qLm r6 (qLm r3 (let r7:=zk [.s (gS r6 0),.b (gB r3 0)];qLm r7 (qLo [.s (gS r7 0)]))))))))))))):=by kernel_rfl
theorem qse:u6 [.s e0,.s e1]=(let r0:=w8 [.s e1];qLm r0 (let r1:=q8I [.s e0,.s (gS r0 0)];qLm r1 (qLo [.s (gS r1 0)]))):=by kernel_rfl
theorem qrW:q6E [.s e0,.s e1]=(let r0:=u6 [.s e0,.s e1];qLm r0 (.br (seq (gS r0 0) [48]) (qLo [.i 0]) (let r1:=qI [.s (gS r0 0)];qLm r1 (.br (gB r1 0) (qLo [.i (-1)]) (qLo [.i 1]))))):=by kernel_rfl
theorem qmD:um [.s e0,.s e1,.i c2,.i c3,.r a4]=(let i0:Int:=(qC .i64 (qC .i64 c2 c3) 1);(.br (ilt c3 (qw e1)) (qLn (inb i0 (qm a4)) (qLn (inb c2 (qw e0)) (qLn (inb c3 (qw e1)) (qLn (inb i0 (qm a4)) (qLo [.s e0,.s e1,.i c2,.i (qC .i64 c3 1),.r (qgZ a4 i0 0 [.i (qC .i64 (cI a4 i0 0) (vd .i64 (q2J .i64 (yF .u8 (sat e0 c2) 48)) (q2J .i64 (yF .u8 (sat e1 c3) 48))))])]))))) (.leaf (1,[.s e0,.s e1,.i c2,.r a4])))):=by kernel_rfl
theorem qlH:uu [.s e0,.s e1,.i c2,.r a3]=(.br (ilt c2 (qw e0)) (let r0:=qh um [.s e0,.s e1,.i c2,.i 0,.r a3];qLm r0 (qLo [.s (gS r0 0),.s (gS r0 1),.i (qC .i64 (gI r0 2) 1),.r (gR r0 3)])) (.leaf (1,[.r a3]))):=by kernel_rfl
theorem qkO:yk [.i c0,.i c1,.r a2,.r a3]=(.br (ile 0 c1) (qLn (inb c1 (qm a2)) (qLn (inb c1 (qm a3)) (qLo [.i (qcK .i64 (qC .i64 c0 (cI a2 c1 0)) 10),.i (yF .i64 c1 1),.r a2,.r (qgZ a3 c1 0 [.i (q2J .u8 (qC .i64 48 (qb4 (qC .i64 c0 (cI a2 c1 0)) 10)))])]))) (.leaf (1,[.r a3]))):=by kernel_rfl
theorem qpg:q36 [.s e0,.s e1]=(let i0:Int:=(qC .i64 (qw e0) (qw e1));let t0:=qh uu [.s e0,.s e1,.i 0,.r (q4f i0 [.i 0])];let i1:Int:=(qm (gR t0 0));let t1:=qh yk [.i 0,.i (yF .i64 i1 1),.r (gR t0 0),.r (q4f i1 [.i 0])];let t2:=uk [.s (qnA (gR t1 0))];(qLn (ieq i0 i0) (qLn (q7e i0 17592186044416) (qLm t0 (qLn (ieq i1 i1) (qLn (q7e i1 140737488355328) (qLm t1 (qLm t2 (qLo [.s (gS t2 0)]))))))))):=by kernel_rfl
theorem qrN:vg [.s e0,.s e1]=(let p0:List PV:=[.s e1];let t0:=j9 ((.s e0)::p0);let t1:=zA [.i (vd .i64 (gI t0 0) (gI t0 1))];let t2:=q36 [.s (gS (qx [.s e0]) 0),.s (gS (qx p0) 0)];let t3:=zk [.s (gS t2 0),.b (not (beq (gB (qI [.s e0]) 0) (gB (qI p0) 0)))];let t4:TR:=(qLm (qx [.s e0]) (qLm (qx p0) (qLm t2 (qLm (qI [.s e0]) (qLm (qI p0) (qLm t3 (qLo [.s (gS t3 0)])))))));(qLm t0 (.br (gB t0 2) (.br (ile (qC .i64 (qw e0) (qw e1)) 18) (qLm t1 (qLo [.s (gS t1 0)])) t4) t4))):=by kernel_rfl
theorem qjX:yD [.s e0,.s e1,.s e2,.s e3,.i c4,.i c5]=(let r0:=q2Y [.s e3,.s e1];qLm r0 (.br (not (gB r0 0)) (let r1:=ud [.s e3,.s e1,.b false];qLm r1 (qLo [.s e0,.s e1,.s e2,.s (gS r1 0),.i c4,.i (qC .u8 c5 1)])) (.leaf (1,[.s e0,.s e1,.s e2,.s e3,.i c4,.i c5])))):=by kernel_rfl
theorem qlq:q18 [.s e0,.s e1,.s e2,.s e3,.i c4]=(.br (ilt c4 (qw e0)) (qLn (q7e (qC .i64 c4 1) (qw e0)) (qLn (q7e c4 (qC .i64 c4 1)) (qLn (ile ((qw e3)+(qw (qcE e0 c4 (qC .i64 c4 1)))) 140737488355328) (let r0:=uk [.s (qeI e3 (qcE e0 c4 (qC .i64 c4 1)))];qLm r0 (let r1:=qh yD [.s e0,.s e1,.s e2,.s (gS r0 0),.i c4,.i 48];qLm r1 (qLn (ile ((qw (gS r1 2))+(qw (qnA [[.i (gI r1 5)]]))) 140737488355328) (qLo [.s (gS r1 0),.s (gS r1 1),.s (qeI (gS r1 2) (qnA [[.i (gI r1 5)]])),.s (gS r1 3),.i (qC .i64 (gI r1 4) 1)]))))))) (.leaf (1,[.s e2,.s e3]))):=by kernel_rfl
theorem qp1:q2S [.s e0,.s e1]=(let r0:=qh q18 [.s e0,.s e1,.s [],.s [48],.i 0];qLm r0 (let r1:=uk [.s (gS r0 0)];qLm r1 (qLo [.s (gS r1 0),.s (gS r0 1)]))):=by kernel_rfl
theorem qri:vZ [.s e0,.s e1]=(let p0:List PV:=[.s e1];let t0:=j9 ((.s e0)::p0);let i0:Int:=(gI t0 1);let i1:Int:=(qb4 (gI t0 0) i0);let i2:Int:=(qC .i64 i1 i0);let t1:=zA [.i (qcK .i64 (yF .i64 (gI t0 0) i2) i0)];let t2:=zA [.i (qcK .i64 (yF .i64 (gI t0 0) i1) i0)];let t3:TR:=(qLn (ine i0 0) (qLm t2 (qLm (zA [.i i1]) (qLo [.s (gS t2 0),.s (gS (zA [.i i1]) 0)]))));let t4:=q2S [.s (gS (qx [.s e0]) 0),.s (gS (qx p0) 0)];let t5:=qI [.s e0];let b0:Bool:=(not (beq (gB t5 0) (gB (qI p0) 0)));let t6:=zk [.s (gS t4 0),.b b0];let t7:=u6 [.s (gS t6 0),.s [49]];let t8:=vg ((.s (gS t7 0))::p0);let t9:=u6 [.s e0,.s (gS t8 0)];let t10:=vg ((.s (gS t6 0))::p0);let t11:=u6 [.s e0,.s (gS t10 0)];let t12:TR:=(qLm t10 (qLm t11 (qLo [.s (gS t6 0),.s (gS t11 0)])));(qLm t0 (.br (gB t0 2) (qLn (ine i0 0) (.br (ine i1 0) (.br (not (beq (ilt i1 0) (ilt i0 0))) (qLn (ine i0 0) (qLm t1 (qLm (zA [.i i2]) (qLo [.s (gS t1 0),.s (gS (zA [.i i2]) 0)])))) t3) t3)) (qLm (qx [.s e0]) (qLm (qx p0) (qLm t4 (qLm t5 (qLm (qI p0) (qLm t6 (.br (not (seq (gS t4 1) [48])) (qLm t5 (qLm (qI p0) (.br b0 (qLm t7 (qLm t8 (qLm t9 (qLo [.s (gS t7 0),.s (gS t9 0)])))) t12))) t12)))))))))):=by kernel_rfl
theorem qmi:ur [.i c0,.i c1]=(.br (ilt 0 c1) (qLn (ine c1 0) (qLo [.i c1,.i (qb4 c0 c1)])) (.leaf (1,[.i c0]))):=by kernel_rfl
theorem qnl:q1V [.s e0,.s e1]=(.br (not (seq e1 [48])) (let r0:=j9 [.s e0,.s e1];qLm r0 (.br (gB r0 2) (let r1:=qh ur [.i (gI r0 0),.i (gI r0 1)];qLm r1 (let r2:=zA [.i (gI r1 0)];qLm r2 (.leaf (2,[.s (gS r2 0)])))) (let r1:=vZ [.s e0,.s e1];qLm r1 (qLo [.s e1,.s (gS r1 1)])))) (.leaf (1,[.s e0]))):=by kernel_rfl
theorem qqb:q09 [.s e0,.s e1]=(let r0:=qx [.s e0];qLm r0 (let r1:=zk [.s (gS r0 0),.b false];qLm r1 (let r2:=qx [.s e1];qLm r2 (let r3:=zk [.s (gS r2 0),.b false];qLm r3 (let r4:=qh q1V [.s (gS r1 0),.s (gS r3 0)];qLm r4 (.br (jIs r4 0) (qLo [.s (gS r4 0)]) (qLo [.s (gS r4 0)]))))))):=by kernel_rfl
theorem qsd:q6t [.s e0]=(let r0:=ue [.s e0];qLm r0 (let r1:=q3F [.s (gS r0 0)];qLm r1 (.br (ieq (gI r1 0) 3) (qLo [.i 3]) (let r2:=q3F [.s (gS r0 1)];qLm r2 (.br (ieq (gI r2 0) 3) (qLo [.i 3]) (qLm r1 (.br (ine (gI r1 0) 0) (qLo [.i 11]) (qLm r2 (.br (ine (gI r2 0) 0) (qLo [.i 11]) (let r3:=q1D [.s e0];qLm r3 (.br (ile 0 (gI r3 0)) (let r4:=q6E [.s (gS r0 1),.s [49]];qLm r4 (.br (ile (gI r4 0) 0) (qLo [.i 3]) (let r5:=q09 [.s (gS r0 0),.s (gS r0 1)];qLm r5 (.br (not (seq (gS r5 0) [49])) (qLo [.i 3]) (qLo [.i 0]))))) (qLo [.i 0])))))))))))):=by kernel_rfl
theorem qoW:q34 [.s e0,.s e1]=(let r0:=ue [.s e0];qLm r0 (let r1:=ue [.s e1];qLm r1 (let r2:=vg [.s (gS r0 0),.s (gS r1 1)];qLm r2 (let r3:=vg [.s (gS r1 0),.s (gS r0 1)];qLm r3 (let r4:=vg [.s (gS r0 1),.s (gS r1 1)];qLm r4 (let r5:=vg [.s (gS r0 0),.s (gS r1 0)];qLm r5 (let r6:=vg [.s (gS r0 1),.s (gS r1 0)];qLm r6 (qLo [.r [[.s (gS r2 0)],[.s (gS r3 0)],[.s (gS r4 0)],[.s (gS r5 0)],[.s (gS r6 0)]]])))))))):=by kernel_rfl
theorem qqu:q08 [.s e0,.s e1]=(let r0:=q09 [.s e0,.s e1];qLm r0 (let r1:=qI [.s e1];qLm r1 (.br (gB r1 0) (let r2:=w8 [.s (gS r0 0)];qLm r2 (let r3:=vZ [.s e0,.s (gS r2 0)];qLm r3 (let r4:=vZ [.s e1,.s (gS r2 0)];qLm r4 (.br (seq (gS r4 0) [49]) (qLo [.s (gS r3 0)]) (qLn (ile ((qw (gS r3 0))+(qw [47])) 140737488355328) (qLn (ile ((qw (qeI (gS r3 0) [47]))+(qw (gS r4 0))) 140737488355328) (qLo [.s (qeI (qeI (gS r3 0) [47]) (gS r4 0))]))))))) (let r2:=vZ [.s e0,.s (gS r0 0)];qLm r2 (let r3:=vZ [.s e1,.s (gS r0 0)];qLm r3 (.br (seq (gS r3 0) [49]) (qLo [.s (gS r2 0)]) (qLn (ile ((qw (gS r2 0))+(qw [47])) 140737488355328) (qLn (ile ((qw (qeI (gS r2 0) [47]))+(qw (gS r3 0))) 140737488355328) (qLo [.s (qeI (qeI (gS r2 0) [47]) (gS r3 0))]))))))))):=by kernel_rfl
theorem qs4:q6d [.s e0,.s e1]=(let r0:=q34 [.s e0,.s e1];qLm r0 (qLn (inb 3 (qm (gR r0 0))) (qLn (inb 2 (qm (gR r0 0))) (let r1:=q08 [.s (cS (gR r0 0) 3 0),.s (cS (gR r0 0) 2 0)];qLm r1 (qLo [.s (gS r1 0)]))))):=by kernel_rfl
theorem quZ:q8H [.i c0,.i c1]=(let r0:=zA [.i c0];qLm r0 (let r1:=zA [.i c1];qLm r1 (let r2:=q08 [.s (gS r0 0),.s (gS r1 0)];qLm r2 (qLo [.s (gS r2 0)])))):=by kernel_rfl
theorem qrQ:q3T [.i c0]=(qLm (zA [.i c0]) (qLo [.s (gS (zA [.i c0]) 0)])):=by kernel_rfl
theorem qbd:kF [.i c0,.i c1,.s e2,.s e3,.s e4,.s e5,.s e6,.r a7]=(.br (ilt c1 c0) (qLn (inb c1 (qm a7)) (let r0:=qP [.s (cS a7 c1 0)];qLm r0 (.br (ine (gI r0 0) 0) (.leaf (2,[.b false,.i (gI r0 0)])) (qLo [.i c0,.i (qC .i64 c1 1),.s e2,.s e3,.s e4,.s e5,.s e6,.r a7])))) (.leaf (1,[.s e2,.s e3,.s e4,.s e5,.s e6]))):=by kernel_rfl
theorem qnJ:kr [.s e0,.s e1,.s e2,.s e3,.s e4]=(let r0:=jM [.s e0,.s e1,.s e2];qLm r0 (.br (ine (gI r0 0) 0) (qLo [.b false,.i (gI r0 0)]) (let r1:=qh kF [.i (qm [[.s e3],[.s e4]]),.i 0,.s e0,.s e1,.s e2,.s e3,.s e4,.r [[.s e3],[.s e4]]];qLm r1 (.br (jIs r1 0) (let r2:=yO [.s (gS r1 0),.s (gS r1 1),.s (gS r1 3),.s (gS r1 4),.i 0];qLm r2 (let r3:=jh [.s (gS r2 0),.s (gS r1 2),.i (gI r2 1)];qLm r3 (.br (ile (gI r3 0) 0) (qLo [.b (ieq (gI r3 1) 0),.i (gI r3 1)]) (qLo [.b false,.i (gI r3 1)])))) (qLo [.b (gB r1 0),.i (gI r1 1)]))))):=by kernel_rfl
theorem qy:qf [.r a0,.i c1,.i c2,.r a3,.r a4]=(.br (ilt c2 c1) (qLn (inb c2 (qm a0)) (let r0:=zv [.i (cI a0 c2 0),.i (cI a0 c2 1)];qLm r0 (.br (gB r0 0) (.leaf (2,[.i c2,.r a3,.r a4])) (qLo [.r a0,.i c1,.i (qC .i64 c2 1),.r a3,.r a4])))) (.leaf (1,[.r a3,.r a4]))):=by kernel_rfl
theorem wG:qj [.r a0]=(let r0:=qh qf [.r a0,.i (qm a0),.i 0,.r a0,.r a0];qLm r0 (.br (jIs r0 0) (qLo [.b false]) (qLo [.b (ile 0 (gI r0 0))]))):=by kernel_rfl
theorem q5X:wg [.s e0,.s e1,.r a2,.i c3,.i c4,.s e5,.s e6,.r a7,.r a8]=(.br (ilt c4 c3) (qLn (inb c4 (qm a2)) (let r0:=q3T [.i (cI a2 c4 0)];qLm r0 (let r1:=q3T [.i (cI a2 c4 1)];qLm r1 (let r2:=zI [.s (gS r0 0),.s (gS r1 0),.s e0];qLm r2 (qLn (ile ((qm a7)+(qm [[.s (gS r2 0),.s (gS r2 1),.s (gS r2 2)]])) 2932031007402) (let r3:=zI [.s (gS r0 0),.s (gS r1 0),.s e1];qLm r3 (qLn (ile ((qm a8)+(qm [[.s (gS r3 0),.s (gS r3 1),.s (gS r3 2)]])) 2932031007402) (qLo [.s e0,.s e1,.r a2,.i c3,.i (qC .i64 c4 1),.s e5,.s e6,.r (kN a7 [[.s (gS r2 0),.s (gS r2 1),.s (gS r2 2)]]),.r (kN a8 [[.s (gS r3 0),.s (gS r3 1),.s (gS r3 2)]])])))))))) (.leaf (1,[.s e0,.s e5,.s e6,.r a7,.r a8]))):=by kernel_rfl
theorem qhM:yW [.r a0,.i c1]=(let t0:TR:=(qLm (q3k []) (qLo [.b (gB (q3k []) 0)]));let p0:List PV:=[.r a0];let t1:=q1X p0;let t2:TR:=(qLo [.b false]);let t3:=q6t [.s (gS t1 2)];let t4:=q8H [.i (q2J .i64 (qb4 c1 50)),.i 50];let t5:=q6d [.s (gS t1 2),.s (gS t4 0)];let t6:=qh wg [.s (gS t1 2),.s (gS t5 0),.r a0,.i (qm a0),.i 0,.s (gS t1 0),.s (gS t1 1),.r [],.r []];let l0:R:=(gR t6 3);let t7:=vY [.r l0];let t8:=vY [.r (gR t6 4)];let t9:=kr [.s (cS l0 0 0),.s (cS l0 0 1),.s (cS l0 0 2),.s (gS t6 1),.s (gS t6 2)];(.br (ieq (qm a0) 0) t0 (.br (ilt 5 (qm a0)) t0 (qLm (q1y p0) (.br (ine (gI (q1y p0) 0) 0) t0 (qLm (qj p0) (.br (gB (qj p0) 0) t0 (qLm t1 (.br (ine (gI t1 4) 0) t2 (qLm t3 (.br (ine (gI t3 0) 0) t2 (qLm t4 (qLm t5 (qLm t6 (qLm t7 (qLm t8 (qLn (inb 0 (qm l0)) (qLm t9 (.br (ieq (qC .i64 (qC .i64 (gI t7 4) (gI t8 4)) (gI t9 1)) 0) (.br (gB t7 0) (.br (gB t9 0) (.br (beq (gB t8 0) (seq (gS t6 0) [48])) t0 t2) t2) t2) t2))))))))))))))))))):=by kernel_rfl
end Go.Eng

namespace Go.Eng
variable {n:Nat}
theorem qJ8 {α:Type}(b:Bool)(t e:Tree α):(Tree.br b t e).run=if b=true then t.run else e.run:=by cases b<;>rfl
theorem qEX {α:Type}(a:α):(Tree.leaf a).run=some a:=rfl
theorem qFy {α:Type}:(Tree.fail:Tree α).run=none:=rfl
theorem zb {x y:Int}(h:-9223372036854775808<=x+y/\x+y<=9223372036854775807):qC .i64 x y=x+y:=by unfold qC IntKind.wrap;simp[IntKind.signed,IntKind.bits];omega
theorem vV {x y:Int}(h:-9223372036854775808<=x-y/\x-y<=9223372036854775807):yF .i64 x y=x-y:=by unfold yF IntKind.wrap;simp[IntKind.signed,IntKind.bits];omega
theorem q35 {x y:Int}(h:-9223372036854775808<=x*y/\x*y<=9223372036854775807):vd .i64 x y=x*y:=by unfold vd IntKind.wrap;simp[IntKind.signed,IntKind.bits];omega
theorem qDG (x y:Int):(ieq x y=true)=(x=y):=by simp[ieq]
theorem qHM (x y:Int):(ine x y=true)=(x≠y):=by simp[ine]
theorem qHd (x y:Int):(ilt x y=true)=(x<y):=by simp[ilt]
theorem qyB (x y:Int):(ile x y=true)=(x<=y):=by simp[ile]
theorem qI8 (x y:Bool):(Go.Eng.beq x y=true)=(x=y):=by simp[Go.Eng.beq]
theorem qBp {a b A B:Int}(h1:-A<=a)(h2:a<=A)(h3:-B<=b)(h4:b<=B):-(A*B)<=a*b/\a*b<=A*B:=by have e1:=qNh (show 0<=A-a by omega) (show 0<=B-b by omega);have e2:=qNh (show 0<=A+a by omega) (show 0<=B+b by omega);have e3:=qNh (show 0<=A-a by omega) (show 0<=B+b by omega);have e4:=qNh (show 0<=A+a by omega) (show 0<=B-b by omega);simp only[Int.sub_mul,Int.mul_sub,Int.add_mul,Int.mul_add] at e1 e2 e3 e4;omega
theorem quB {x:Int}(h:-9223372036854775807<=x/\x<=9223372036854775807):yF .i64 0 x=-x:=by rw[vV (by omega)];omega
theorem qpy {x:Int}(h:-9223372036854775808<=x/\x<=9223372036854775807):q2J .i64 x=x:=by unfold q2J IntKind.wrap;simp[IntKind.signed,IntKind.bits];omega
theorem qES (b:Bool):((!b)=true)=¬(b=true):=by cases b<;>simp
theorem qF7 (x y:Bool):(qxG x y=true)=(x=true/\y=true):=by simp[qxG]
theorem qJm (i n:Int):(inb i n=true)=(0<=i/\i<n):=by simp[inb]
theorem qIe (i n:Int):(q7e i n=true)=(0<=i/\i<=n):=by simp[q7e]
theorem STD:(∀(α:Type) (b:Bool) (t e:Tree α),(Tree.br b t e).run=if b=true then t.run else e.run)/\(∀(α:Type) (a:α),(Tree.leaf a).run=some a)/\(∀(α:Type),(Tree.fail:Tree α).run=none) /\(∀R:TR,okR R=R.run.isSome)/\(∀(α:Type) (a:α),(some a).isSome=true)/\(∀(R:TR) (i:Nat),gI R i=(pR R i).toI)/\(∀(R:TR) (i:Nat),gB R i=(pR R i).toB)/\(∀(R:TR) (i:Nat),gS R i=(pR R i).toS)/\(∀(R:TR) (i:Nat),gR R i=(pR R i).toR) /\(∀(R:TR) (i:Nat),pR R i=R.run.elim (.i 0) fun r=>r.2.getD i (.i 0))/\(∀(α β:Type) (b:β) (f:α->β) (a:α),(some a).elim b f=f a) /\(∀(a:PV) (l:List PV) (d:PV),(a::l).getD 0 d=a)/\(∀(a:PV) (l:List PV) (d:PV) (n:Nat),(a::l).getD (n+1) d=l.getD n d) /\(∀n,(PV.i n).toI=n)/\(∀b,(PV.b b).toB=b)/\(∀s,(PV.s s).toS=s)/\(∀l,(PV.r l).toR=l) /\(∀(α:Type) (h:Decidable True) (a b:α),@ite α True h a b=a)/\(∀(α:Type) (h:Decidable False) (a b:α),@ite α False h a b=b)/\((false=true)=False)/\((true=false)=False)/\((true=true)=True) /\(∀x y,(ieq x y=true)=(x=y))/\(∀x y,(ine x y=true)=(x≠y))/\(∀x y,(ilt x y=true)=(x<y))/\(∀x y,(ile x y=true)=(x<=y))/\(∀x y,(Go.Eng.beq x y=true)=(x=y)) /\(∀x y,(qxG x y=true)=(x=true/\y=true))/\(∀b:Bool,((!b)=true)=¬(b=true))/\(∀i n,(inb i n=true)=(0<=i/\i<n))/\(∀i n,(q7e i n=true)=(0<=i/\i<=n)) /\(∀(p:Prop) (_:Decidable p),(decide p=true)=p)/\(∀(α:Type) (a b:α),(a≠b)=¬(a=b))/\(¬True)=False/\(¬False)=True:=
 ⟨fun _=>qJ8,fun _=>qEX,fun _=>qFy,fun _=>rfl,fun _ _=>rfl,fun _ _=>rfl,fun _ _=>rfl,fun _ _=>rfl,fun _ _=>rfl,fun R i=>by unfold pR;cases R.run<;>rfl,fun _ _ _ _ _=>rfl,
  fun _ _ _=>rfl,fun _ _ _ _=>rfl,fun _=>rfl,fun _=>rfl,fun _=>rfl,fun _=>rfl,fun _ _ _ _=>by simp,fun _ _ _ _=>by simp,by simp,by simp,by simp,qDG,qHM,qHd,qyB,qI8,
  qF7,qES,qJm,qIe,fun _ _=>by simp,fun _ _ _=>rfl,by simp,by simp⟩
theorem qT {R:TR}{j:Nat}{ps:List PV}(h:R.run=some (j,ps))(i:Nat):(jIs R i=true)=(j=i):=by simp[jIs,jR,h]
theorem run_bind {α β:Type}(t:Tree α)(f:α->Tree β):(t.bind f).run=t.run.bind fun a=>(f a).run:=by
 induction t with
 | leaf a=>rfl
 | br b t e iht ihe=>cases b<;>simp[Tree.bind,Tree.run,iht,ihe]
 | fail=>rfl
theorem qit {S:List PV->TR}{ps qs:List PV}(h:(S ps).run=some (0,qs)):(qlV S (n+1) ps).run=(qlV S n qs).run:=by simp[qlV,run_bind,h]
theorem q8z {S:List PV->TR}{n j:Nat}{ps qs:List PV}(h:(S ps).run=some (j+1,qs)):(qlV S (n+1) ps).run=some (j,qs):=by simp[qlV,run_bind,h,Tree.run]
def q0z{α:Type}(f:Nat->Option α):Nat->Nat->Option α
 | _,0=>none
 | i,k+1=>match f i with
  | some a=>some a
  | none=>q0z f (i+1) k
theorem qtg{S:List PV->TR}(st:Nat->List PV)(f:Nat->Option (Nat×List PV))(fin:Nat×List PV)(n:Nat)
  (h1:∀i,i<n->f i=none->(S (st i)).run=some (0,st (i+1))) (h2:∀i r,i<n->f i=some r->(S (st i)).run=some (r.1+1,r.2))
  (h3:(S (st n)).run=some (fin.1+1,fin.2)):∀(k i m:Nat),i+k=n->k<m->(qlV S m (st i)).run=some ((q0z f i k).getD fin)
 | 0,i,m,hi,hm=>by
  obtain⟨m,rfl⟩:∃m',m=m'+1:=⟨m-1,by omega⟩;have:i=n:=by omega
  subst this;rw[q8z h3];rfl
 | k+1,i,m,hi,hm=>by
  obtain⟨m,rfl⟩:∃m',m=m'+1:=⟨m-1,by omega⟩;cases hf:f i with
  | none=>
   rw[qit (h1 i (by omega) hf),qtg st f fin n h1 h2 h3 k (i+1) m (by omega) (by omega)];simp[q0z,hf]
  | some r=>
   rw[q8z (h2 i r (by omega) hf)];simp[q0z,hf]
theorem q4o {S:List PV->TR}(st:Nat->List PV)(f:Nat->Option (Nat×List PV))(fin:Nat×List PV)(n:Nat)(hn:n<9223372036854775808)(h1:∀i,i<n->f i=none->(S (st i)).run=some (0,st (i+1))) (h2:∀i r,i<n->f i=some r->(S (st i)).run=some (r.1+1,r.2))(h3:(S (st n)).run=some (fin.1+1,fin.2)):(qh S (st 0)).run=some ((q0z f 0 n).getD fin):=qtg st f fin n h1 h2 h3 n 0 qhJ (by omega) (Nat.lt_trans hn (by unfold qhJ;decide))
theorem zu {S:List PV->TR}(st:Nat->List PV)(fin:Nat×List PV)(n:Nat)(hn:n<9223372036854775808)(h1:∀i,i<n->(S (st i)).run=some (0,st (i+1))) (h3:(S (st n)).run=some (fin.1+1,fin.2)):(qh S (st 0)).run=some fin:=by
 have h:=q4o st (fun _=>none) fin n hn (fun i hi _=>h1 i hi) (fun i r _ h=>by cases h) h3;have e:∀k i,q0z (fun _=>(none:Option (Nat×List PV))) i k=none:=by
  intro k;induction k with
  | zero=>intro i;rfl
  | succ k ih=>intro i;simp[q0z,ih]
 rw[e] at h;exact h
theorem q6W{α:Type}{f:Nat->Option α}:∀{k i:Nat},q0z f i k=none->∀j,i<=j->j<i+k->f j=none
 | 0,i,_,j,h1,h2=>by omega
 | k+1,i,h,j,h1,h2=>by
  simp only[q0z] at h;cases hf:f i with
  | some a=>rw[hf] at h;cases h
  | none=>
   rw[hf] at h;rcases qN4 h1 with rfl|h1
   ·exact hf
   ·exact q6W h j h1 (by omega)
theorem qtA{α:Type}{f g:Nat->Option α}:∀{k i:Nat},(∀j,i<=j->j<i+k->f j=g j)->q0z f i k=q0z g i k
 | 0,i,_=>rfl
 | k+1,i,h=>by
  simp only[q0z];rw[h i (by omega) (by omega),qtA (fun j h1 h2=>h j (by omega) (by omega))]
theorem qtS{α β:Type}(g:α->β){f:Nat->Option α}:∀{k i:Nat},q0z (fun j=>(f j).map g) i k=(q0z f i k).map g
 | 0,i=>rfl
 | k+1,i=>by
  simp only[q0z];cases f i with
  | some a=>rfl
  | none=>exact qtS g
theorem kD {i n:Nat}(h:i<n)(hn:n<9223372036854775808):qC .i64 (i:Int) 1=((i+1:Nat):Int):=by rw[zb (by omega)];omega
theorem qCQ {α:Type}(n:Nat):∀i,q0z (fun _=>(none:Option α)) i n=none:=by
 induction n with
 | zero=>intro i;rfl
 | succ n ih=>intro i;simp[q0z,ih]
def pick(p:Nat->Bool):Nat->R
 | 0=>[]
 | n+1=>if p n then kN (pick p n) [[.i (n:Int)]] else pick p n
def qqQ(f:Nat->Int)(i:Nat):Option Int:=if f i=0 then none else some (f i)
theorem qDt {f:Nat->Int}(h:q0z (qqQ f) 0 n=none)(i:Nat)(hi:i<n):f i=0:=by
 have:=q6W h i (by omega) (by omega);unfold qqQ at this;split at this
 ·assumption
 ·cases this
theorem qtK{f:Nat->Int}:∀{k i:Nat} {e:Int},q0z (qqQ f) i k=some e->e≠0
 | 0,i,e,h=>by cases h
 | k+1,i,e,h=>by
  simp only[q0z] at h;unfold qqQ at h;by_cases h0:f i=0
  ·rw[if_pos h0] at h;exact qtK h
  ·rw[if_neg h0] at h;simp at h;omega
def qcp(e:Nat->Int)(n:Nat):Int:=(q0z (qqQ e) 0 n).getD 0
theorem qyn {e:Nat->Int}(h:qcp e n=0)(i:Nat)(hi:i<n):e i=0:=by
 unfold qcp at h;cases hs:q0z (qqQ e) 0 n with
 | none=>exact qDt hs i hi
 | some x=>rw[hs] at h;exact absurd h (qtK hs)
theorem qDI {e:Nat->Int}(h:∀i,i<n->e i=0):qcp e n=0:=by unfold qcp;rw[qtA (g:=fun _=>none) (fun j _ hj=>by unfold qqQ;rw[if_pos (h j (by omega))]),qCQ];rfl
theorem qut {S:List PV->TR}(st:Nat->List PV)(e:Nat->Int)(caps fin:List PV)(n:Nat)(hn:n<9223372036854775808)(h:∀i,i<n->(S (st i)).run=if e i=0 then some (0,st (i+1)) else some (2,.i (e i)::caps)) (h3:(S (st n)).run=some (1,fin)) :(qh S (st 0)).run=some (if qcp e n=0 then (0,fin) else (1,.i (qcp e n)::caps)):=by
 have key:=q4o st (fun i=>(qqQ e i).map fun x=>(1,PV.i x::caps)) (0,fin) n hn (fun i hi hf=>by
  rw[h i hi];unfold qqQ at hf;split at hf
  ·rename_i h0;rw[if_pos h0]
  ·simp at hf) (fun i r hi hf=>by
  rw[h i hi];unfold qqQ at hf;split at hf
  ·simp at hf
  ·rename_i h0;simp at hf;rw[if_neg h0,<-hf]) h3
 rw[key,qtS];unfold qcp;cases hs:q0z (qqQ e) 0 n with
 | none=>simp
 | some x=>simp[qtK hs]
theorem qzf {l:R}{i:Nat}(h:i<l.length):(i:Int)<qm l:=by unfold qm;omega
theorem qxC (l:R):¬((l.length:Int)<qm l):=by unfold qm;omega
theorem qbz (i:Nat):(0:Int)<=(i:Int):=by omega
end Go.Eng

namespace Go.Eng
variable {n:Nat}
def dch(d:Nat):UInt8:=UInt8.ofNat (48+d)
def dv(c:UInt8):Nat:=c.toNat-48
def q61(s:qLp):Prop:=∀c,c∈s->48<=c.toNat/\c.toNat<=57
def val(s:qLp):Nat:=s.foldl (fun a c=>10*a+dv c) 0
def tNf:Nat->Nat->List UInt8
 | 0,_=>[]
 | f+1,n=>if n<10 then [dch n] else tNf f (n/10)++[dch (n%10)]
def tN(n:Nat):List UInt8:=tNf (n+1) n
def tI(n:Int):List UInt8:=if n<0 then 45::tN n.natAbs else tN n.natAbs
theorem q30 {d:Nat}(h:d<10):(dch d).toNat=48+d:=by unfold dch;rw[UInt8.toNat_ofNat'];omega
theorem qoo {d:Nat}(h:d<10):dv (dch d)=d:=by unfold dv;rw[q30 h];omega
theorem qGY {c:UInt8}(h1:48<=c.toNat)(h2:c.toNat<=57):dch (dv c)=c:=by apply qN6.1;rw[q30 (by unfold dv;omega)];unfold dv;omega
theorem qmm (s:qLp)(c:UInt8):val (s++[c])=10*val s+dv c:=by simp[val,List.foldl_append]
theorem qrd:∀(t:qLp) (a:Nat),t.foldl (fun a c=>10*a+dv c) a=a*10^t.length+val t
 | [],a=>by simp[val]
 | c::t,a=>by
  have h1:=qrd t (10*a+dv c);have h2:=qrd t (10*0+dv c);have h3:val (c::t)=t.foldl (fun a c=>10*a+dv c) (10*0+dv c):=rfl;rw[h3,h2,qNl,h1,qM5,qN0];grind
theorem qtG (s t:qLp):val (s++t)=val s*10^t.length+val t:=by
 have h:val (s++t)=t.foldl (fun a c=>10*a+dv c) (val s):=by simp[val,List.foldl_append]
 rw[h,qrd]
theorem q68 (c:UInt8)(t:qLp):val (c::t)=dv c*10^t.length+val t:=by have:=qtG [c] t;simpa[val] using this
theorem qeQ:val []=0:=rfl
theorem qy3 (c:UInt8):val [c]=dv c:=by simp[val]
theorem qlU:q61 []:=fun c h=>by cases h
theorem q0U {c:UInt8}{s:qLp}:q61 (c::s)↔(48<=c.toNat/\c.toNat<=57)/\q61 s:=by unfold q61;simp
theorem q8f {s t:qLp}:q61 (s++t)↔q61 s/\q61 t:=by unfold q61;simp only[qLV];exact⟨fun h=>⟨fun c hc=>h c (.inl hc),fun c hc=>h c (.inr hc)⟩,fun h c hc=>hc.elim (h.1 c) (h.2 c)⟩
theorem qBg {c:UInt8}(h:48<=c.toNat/\c.toNat<=57):dv c<10:=by unfold dv;omega
theorem q7n:∀{s:qLp},q61 s->val s<10^s.length
 | [],_=>by simp[val]
 | c::s,h=>by
  obtain⟨h1,h2⟩:=q0U.1 h;have ih:=q7n h2;have hd:=qBg h1;rw[q68,qM5,qN0];have:dv c*10^s.length<=9*10^s.length:=qLT _ (by omega);omega
theorem qvc {d:Nat}(h:d<10):q61 [dch d]:=by intro c hc;simp at hc;subst hc;rw[q30 h];omega
theorem qGL:∀(f g n:Nat),n<f->n<g->tNf f n=tNf g n
 | 0,_,n,h,_=>by omega
 | _,0,n,_,h=>by omega
 | f+1,g+1,n,h1,h2=>by
  unfold tNf;by_cases h:n<10
  ·rw[if_pos h,if_pos h]
  ·rw[if_neg h,if_neg h,qGL f g (n/10) (by omega) (by omega)]
theorem qwV (h:n<10):tN n=[dch n]:=by unfold tN tNf;rw[if_pos h]
theorem qy5 (h:10<=n):tN n=tN (n/10)++[dch (n%10)]:=by
 have:tN n=tNf n (n/10)++[dch (n%10)]:=by show tNf (n+1) n=_;rw[tNf,if_neg (by omega)]
 rw[this,qGL n (n/10+1) (n/10) (by omega) (by omega)];rfl
theorem quG (n:Nat):q61 (tN n)/\tN n≠[]/\val (tN n)=n:=by
 induction n using Nat.strongRecOn with
 | _ n ih=>
  by_cases h:n<10
  ·rw[qwV h];exact⟨qvc h,by simp,by rw[qy3,qoo h]⟩
  ·rw[qy5 (by omega)];obtain⟨h1,h2,h3⟩:=ih (n/10) (by omega);refine⟨q8f.2 ⟨h1,qvc (by omega)⟩,by simp,?_⟩;rw[qmm,h3,qoo (by omega)];omega
theorem zY (n:Nat):q61 (tN n):=(quG n).1
theorem qrE (n:Nat):tN n≠[]:=(quG n).2.1
theorem q0E (n:Nat):val (tN n)=n:=(quG n).2.2
theorem qjg (n:Nat):0<(tN n).length:=qMQ.2 (qrE n)
theorem q21:∀(k n:Nat),n<10^(k+1)->(tN n).length<=k+1
 | 0,n,h=>by rw[qwV (by simpa using h)];simp
 | k+1,n,h=>by
  by_cases h10:n<10
  ·rw[qwV h10];simp
  ·rw[qy5 (by omega),qLR];have:=q21 k (n/10) (by rw[qN0] at h;omega);simp;omega
theorem qw3:∀(k n:Nat),10^k<=n->k<(tN n).length
 | 0,n,_=>qjg n
 | k+1,n,h=>by
  have hp:0<10^k:=Nat.pow_pos (by omega);rw[qN0] at h;rw[qy5 (by omega),qLR];have:=qw3 k (n/10) (by omega);simp;omega
theorem q6a {k n:Nat}(h:(tN n).length<=k):n<10^k:=by have:=q7n (zY n);rw[q0E] at this;exact qMc this (qN1 (by omega) h)
def lead(s:qLp):Prop:=s.length=1\/s.getD 0 0≠48
theorem qz1 {s:qLp}(hd:q61 s)(hn:s≠[])(h:s.getD 0 0≠48):10^(s.length-1)<=val s:=by
 cases s with
 | nil=>exact absurd rfl hn
 | cons c s=>
  obtain⟨h1,h2⟩:=q0U.1 hd;simp at h;have hc:1<=dv c:=by unfold dv;have:c.toNat≠48:=fun e=>h (qN6.1 (by simpa using e));omega
  rw[q68,qM5,qNK];have:1*10^s.length<=dv c*10^s.length:=qLT _ hc;omega
theorem qGJ:∀(n:Nat) {s:qLp},s.length=n+1->q61 s->lead s->tN (val s)=s
 | 0,s,hl,hd,_=>by
  match s,hl with
  | [c],_=>
   have h1:=(q0U.1 hd).1;rw[qy3,qwV (qBg h1),qGY h1.1 h1.2]
 | n+1,s,hl,hd,hz=>by
  obtain⟨i,c,rfl⟩:∃i c,s=i++[c]:=⟨s.dropLast,s.getLast (by intro h;simp[h] at hl),(List.dropLast_concat_getLast _).symm⟩;have hil:i.length=n+1:=by simpa using hl
  obtain⟨h1,h2⟩:=q8f.1 hd;have hc:=(q0U.1 h2).1;have hi:i≠[]:=by intro h;simp[h] at hil
  have hz0:i.getD 0 0≠48:=by
   rcases hz with hz|hz
   ·exact absurd (by simpa using hz) hi
   ·cases i with
    | nil=>exact absurd rfl hi
    | cons a i=>simpa using hz
  have hv:1<=val i:=qLu (Nat.one_le_pow _ _ (by omega)) (qz1 h1 hi hz0);have hd10:=qBg hc;rw[qmm,qy5 (n:=10*val i+dv c) (by omega),show (10*val i+dv c)/10=val i by omega,show (10*val i+dv c)%10=dv c by omega,qGY hc.1 hc.2,qGJ n hil h1 (.inr hz0)]
theorem qqc {s:qLp}(hd:q61 s)(hn:s≠[])(hz:lead s):s=tN (val s):=(qGJ (s.length-1) (by have:=qMQ.2 hn;omega) hd hz).symm
theorem qtb {m n:Nat}(h:tN m=tN n):m=n:=by rw[<-q0E m,h,q0E]
theorem qCi (n:Nat):lead (tN n):=by
 induction n using Nat.strongRecOn with
 | _ n ih=>
  by_cases h:n<10
  ·rw[qwV h];exact .inl rfl
  ·rw[qy5 (by omega)];right;by_cases h2:n/10<10
   ·rw[qwV h2];intro e;have:(dch (n/10)).toNat=48:=by
     have e':dch (n/10)=48:=by simpa using e
     rw[e'];rfl
    rw[q30 h2] at this;omega
   ·have h3:(tN (n/10)).length≠1:=by have:=qw3 1 (n/10) (by omega);omega
    rcases ih (n/10) (by omega) with h4|h4
    ·exact absurd h4 h3
    ·cases hq:tN (n/10) with
     | nil=>exact absurd hq (qrE _)
     | cons a i=>rw[hq] at h4;simpa using h4
theorem qID (t:qLp):slt [] t=!t.isEmpty:=by cases t<;>rfl
theorem qEZ (a b:UInt8)(s t:qLp):slt (a::s) (b::t)=(decide (a<b)||(a==b&&slt s t)):=by unfold slt;simp only[Op.bytesLess]
theorem qyb:∀{s t:qLp},q61 s->q61 t->s.length=t.length->((slt s t=true)=(val s<val t))
 | [],[],_,_,_=>by simp[qID,qeQ]
 | a::s,b::t,h1,h2,hl=>by
  obtain⟨ha,hs⟩:=q0U.1 h1;obtain⟨hb,ht⟩:=q0U.1 h2;have hl':s.length=t.length:=by simpa using hl
  have ih:=qyb hs ht hl';have v1:=q7n hs;have v2:=q7n ht;rw[qEZ,q68,q68,hl'];rw[hl'] at v1;have hab:(a<b)=(dv a<dv b):=by unfold dv;rw[UInt8.lt_iff_toNat_lt];simp only[eq_iff_iff];omega
  have hab2:(a=b)=(dv a=dv b):=by unfold dv;rw[<-qN6];simp only[eq_iff_iff];omega
  simp only[qMW,decide_eq_true_eq,qLN,beq_iff_eq,eq_iff_iff,ih,hab,hab2];generalize 10^t.length=p at *;generalize dv a=x at *;generalize dv b=y at *;constructor
  ·rintro (h|⟨rfl,h⟩)
   ·have:=qLT p (show x+1<=y by omega);rw[qLH] at this;omega
   ·omega
  ·intro h;rcases Nat.lt_trichotomy x y with h3|h3|h3
   ·exact .inl h3
   ·subst h3;exact .inr ⟨rfl,by omega⟩
   ·have:=qLT p (show y+1<=x by omega);rw[qLH] at this;omega
theorem kI {m n:Nat}(h:m<=n):(tN m).length<=(tN n).length:=by
 rcases qLy (tN n).length (tN m).length with h1|h1
 ·have h2:=q6a (qLs (tN n).length);have h3:0<(tN n).length:=qjg n;have:=q21 ((tN n).length-1) m (by rw[Nat.sub_add_cancel h3];omega);omega
 ·exact h1
theorem qyh (m n:Nat):((tN m).length<(tN n).length\/(tN m).length=(tN n).length/\slt (tN m) (tN n)=true)↔m<n:=by
 constructor
 ·rintro (h|⟨h1,h2⟩)
  ·rcases qLy m n with h3|h3
   ·exact h3
   ·have:=kI h3;omega
  ·rw[qyb (zY m) (zY n) h1,q0E,q0E] at h2;exact h2
 ·intro h;have h1:=kI (Nat.le_of_lt h);rcases qLy (tN m).length (tN n).length with h3|h3
  ·exact .inl h3
  ·have h4:(tN m).length=(tN n).length:=by omega
   exact .inr ⟨h4,by rw[qyb (zY m) (zY n) h4,q0E,q0E];exact h⟩
theorem qzx (s:qLp):val (48::s)=val s:=by rw[q68];simp[dv]
theorem qqF (n:Nat)(s:qLp):val (List.replicate n 48++s)=val s:=by
 induction n with
 | zero=>rfl
 | succ n ih=>rw[qMU,qMr,qzx,ih]
theorem qnP (n:Nat):q61 (List.replicate n 48):=by intro c hc;rw[(qNG.1 hc).2];decide
def rI(l:List Int):R:=l.map fun v=>[.i v]
theorem qhy (l:List Int):qm (rI l)=l.length:=by simp[qm,rI]
theorem qD3 (l:List Int)(i:Int):cI (rI l) i 0=l.getD i.toNat 0:=by unfold cI wD rI;simp only[qLr,qLC];cases l[i.toNat]?<;>rfl
theorem qAG (x v:U):qwk [x] 0 [v]=[v]:=rfl
theorem qvX (l:List Int)(i v:Int):qgZ (rI l) i 0 [.i v]=rI (l.set i.toNat v):=by
 unfold qgZ rI;apply qMo;intro j;by_cases hj:j=i.toNat
 ·subst hj;by_cases hl:i.toNat<l.length
  ·simp[hl,qAG]
  ·rw[qLS (by simp;omega),qLS (by simp;omega)]
 ·rw[qLt (qLX hj),qLC,qLC,qLt (qLX hj)]
theorem qky (n v:Int):q4f n [.i v]=rI (List.replicate n.toNat v):=by simp[q4f,rI]
theorem qJQ (l:List Int):qnA (rI l)=l.map fun v=>UInt8.ofNat v.toNat:=by unfold qnA rI;rw[List.map_map];rfl
theorem qJO (l:List Int)(i:Int)(s:qLp):qxg (rI l) i s=rI (l.take i.toNat++s.map (fun c=>(c.toNat:Int))++l.drop (i.toNat+s.length)):=by unfold qxg rI;simp[List.map_take,List.map_drop]
theorem qny (s:qLp):qnA (rI (s.map fun c=>(c.toNat:Int)))=s:=by
 rw[qJQ,List.map_map];have:((fun v:Int=>UInt8.ofNat v.toNat)∘fun c:UInt8=>(c.toNat:Int))=id:=by funext c;simp
 rw[this,List.map_id]
theorem qjU {s:qLp}{i:Nat}(h:i<s.length):sat s (i:Int)=(s[i].toNat:Int):=by unfold sat;simp[h]
theorem zj (s t:qLp):(seq s t=true)=(s=t):=by simp[seq]
theorem qHU {x:Int}(h:48<=x/\x<=255):yF .u8 x 48=x-48:=by unfold yF IntKind.wrap;simp[IntKind.signed,IntKind.bits];omega
theorem qtl {x:Int}(h:0<=x/\x<=255):q2J .u8 x=x:=by unfold q2J IntKind.wrap;simp[IntKind.signed,IntKind.bits];omega
theorem qpu (a b:Nat):qb4 (a:Int) (b:Int)=((a%b:Nat):Int):=by unfold qb4;rw[Int.tmod_eq_emod_of_nonneg (by omega)];rfl
theorem qzL {a b:Nat}(h:a<9223372036854775808):qcK .i64 (a:Int) (b:Int)=((a/b:Nat):Int):=by unfold qcK;rw[Int.tdiv_eq_ediv_of_nonneg (by omega)];have:(a:Int)/(b:Int)=((a/b:Nat):Int):=rfl;have h2:a/b<=a:=qNi a b;rw[this];generalize a/b=q at *;unfold IntKind.wrap;simp[IntKind.signed,IntKind.bits];omega
theorem jQ {S:List PV->TR}(I Q:Nat->List PV->Prop)(hn:n<9223372036854775808)(h:∀k ps,k<=n->I k ps->(∃k' qs,k'<k/\(S ps).run=some (0,qs)/\I k' qs)\/∃j qs,(S ps).run=some (j+1,qs)/\Q j qs) {ps:List PV} (h0:I n ps):∃j qs,(qh S ps).run=some (j,qs)/\Q j qs:=by
 have key:∀m k ps,k<=n->k<m->I k ps->∃j qs,(qlV S m ps).run=some (j,qs)/\Q j qs:=by
  intro m;induction m with
  | zero=>intro k ps _ h;omega
  | succ m ih=>
   intro k ps hk hm hI;rcases h k ps hk hI with⟨k',qs,h1,h2,h3⟩|⟨j,qs,h1,h2⟩
   ·obtain⟨j,rs,g1,g2⟩:=ih k' qs (by omega) (by omega) h3;exact⟨j,rs,by rw[qit h2];exact g1,g2⟩
   ·exact⟨j,qs,q8z h1,h2⟩
 exact key qhJ n ps (qLs _) (Nat.lt_trans hn (by unfold qhJ;decide)) h0
end Go.Eng

namespace Go.Eng
variable {i:Nat}
theorem qcu {m:Int}(h:m<0):tI m=45::tN m.natAbs:=by unfold tI;rw[if_pos h]
theorem qk0 {m:Int}(h:¬m<0):tI m=tN m.natAbs:=by unfold tI;rw[if_neg h]
theorem q0W (n:Nat):tI (n:Int)=tN n:=by rw[qk0 (by omega)];rfl
theorem qy4:tN 0=[48]:=rfl
theorem qis {s:qLp}(hd:q61 s)(hn:s≠[]):∃c t,s=c::t/\48<=c.toNat/\c.toNat<=57:=by
 cases s with
 | nil=>exact absurd rfl hn
 | cons c t=>exact⟨c,t,rfl,(q0U.1 hd).1⟩
theorem qxc (m:Int):(tI m).length<=(tN m.natAbs).length+1:=by unfold tI;split<;>simp
theorem qqt (m:Int):0<(tI m).length:=by have:=qjg m.natAbs;unfold tI;split<;>simp<;>omega
theorem qwf {m n:Int}(h:tI m=tI n):m=n:=by
 have key:∀{m n:Int},m<0->¬n<0->tI m≠tI n:=by intro m n h1 h2 e;rw[qcu h1,qk0 h2] at e;obtain⟨c,t,hc,h3,h4⟩:=qis (zY n.natAbs) (qrE _);rw[hc] at e;have:=(List.cons.inj e).1;rw[<-this] at h3;exact absurd h3 (by decide)
 by_cases h1:m<0<;>by_cases h2:n<0
 ·rw[qcu h1,qcu h2] at h;have:=qtb (List.cons.inj h).2;omega
 ·exact absurd h (key h1 h2)
 ·exact absurd h.symm (key h2 h1)
 ·rw[qk0 h1,qk0 h2] at h;have:=qtb h;omega
theorem qzG (m:Int):(sat (tI m) 0=45)=(m<0):=by
 by_cases h:m<0
 ·rw[qcu h];simp[sat,h]
 ·rw[qk0 h];obtain⟨c,t,hc,h3,h4⟩:=qis (zY m.natAbs) (qrE _);rw[hc];simp[sat,h];omega
theorem wK (m:Int):(qx [.s (tI m)]).run=some (0,[.s (tN m.natAbs)]):=by
 rw[qlK];have hp:=qqt m;have hne:¬tI m=[]:=fun h=>by rw[h] at hp;simp at hp
 have h1:(0:Int)<qw (tI m):=by unfold qw;omega
 have h2:(1:Int)<=qw (tI m):=by omega
 simp only[STD,zj,hne,h1,h2,qzG,qLG,show (0:Int)<=qw (tI m) by omega,and_self,show (0:Int)<=1 by omega];by_cases h:m<0
 ·rw[if_pos h,qcu h];simp[qcE,qw]
 ·rw[if_neg h,qk0 h]
theorem jf (m:Int):(qI [.s (tI m)]).run=some (0,[.b (decide (m<0))]):=by
 rw[qsw];have hp:=qqt m;have h1:(0:Int)<qw (tI m):=by unfold qw;omega
 have h2:ieq (sat (tI m) 0) 45=decide (m<0):=by have:=qzG m;by_cases h:m<0<;>simp[ieq,h] at this ⊢<;>exact this
 simp only[STD,h1,h2,qLG,and_self]
theorem kU (n:Nat)(b:Bool)(hl:(tN n).length<=100000000):(zk [.s (tN n),.b b]).run=some (0,[.s (tI (if b then -(n:Int) else n))]):=by
 rw[qrp];have h1:qw [45]+qw (tN n)<=140737488355328:=by show (1:Int)+((tN n).length:Int)<=_;omega
 have h0:(tN n=[48])=(n=0):=by rw[<-qy4];exact propext ⟨fun h=>qtb h,fun h=>by rw[h]⟩
 simp only[STD,zj,h1,h0];cases b with
 | false=>simp[q0W]
 | true=>
  by_cases hn:n=0
  ·subst hn;simp[tI,qy4]
  ·have:(-(n:Int))<0:=by omega
   simp[hn,qcu this,qeI]
theorem qcZ (m:Int)(hl:(tN m.natAbs).length<=100000000):(w8 [.s (tI m)]).run=some (0,[.s (tI (-m))]):=by
 rw[qpC];simp only[STD,wK,jf,kU _ _ hl];have e:(if ¬m<0 then -(m.natAbs:Int) else (m.natAbs:Int))=-m:=by
  by_cases h:m<0
  ·rw[if_neg (by simp[h])];omega
  ·rw[if_pos (by simp[h])];omega
 rw[e]
theorem q9Z {s:qLp}(h:i<s.length):val (s.take (i+1))=10*val (s.take i)+dv s[i]:=by rw[List.take_add_one,qLz h,Option.toList_some,qmm]
theorem qw2 {s:qLp}(h:q61 s)(i:Nat):q61 (s.take i):=fun c hc=>h c (qND hc)
theorem qD4 {s:qLp}(h:q61 s)(i:Nat):q61 (s.drop i):=fun c hc=>h c (qNE hc)
theorem qiS {s:qLp}(h:q61 s)(hi:i<s.length):48<=s[i].toNat/\s[i].toNat<=57:=h _ (qMg hi)
theorem qxS {s:qLp}(h:q61 s)(hi:i<s.length):q2J .i64 (yF .u8 (sat s (i:Int)) 48)=(dv s[i]:Int)/\dv s[i]<10:=by have hd:=qiS h hi;rw[qjU hi,qHU (by omega),qpy (by omega)];unfold dv;omega
theorem qju (m:Int)(hl:(tN m.natAbs).length<=18):(ul [.s (tI m)]).run=some (0,[.i m]):=by
 rw[qre];have hd:=zY m.natAbs;have k:=zu (S:=kq) (fun i=>[.s (tI m),.i (val ((tN m.natAbs).take i):Int),.s (tN m.natAbs),.i (i:Int)]) (0,[.s (tI m),.i (m.natAbs:Int)]) (tN m.natAbs).length (by omega) (fun i hi=>by
  rw[qeH];obtain⟨e1,e2⟩:=qxS hd hi;have hv:=q7n (qw2 hd i);have hv2:10^((tN m.natAbs).take i).length<=100000000000000000:=qLu (qN1 (n:=10) (by omega) (show _<=17 by rw[qMw];omega)) (by decide);have hv3:=qMc hv hv2;clear hv hv2;have hlt:(i:Int)<qw (tN m.natAbs):=by unfold qw;omega
  have e3:qC .i64 (vd .i64 10 (val ((tN m.natAbs).take i):Int)) (dv (tN m.natAbs)[i]:Int)=((10*val ((tN m.natAbs).take i)+dv (tN m.natAbs)[i]:Nat):Int):=by rw[q35 (by omega),zb (by omega)];omega
  simp only[STD,hlt,qbz,and_self,e1,kD hi (by omega),q9Z hi,e3]) (by
  rw[qeH];have:¬((tN m.natAbs).length:Int)<qw (tN m.natAbs):=by unfold qw;omega
  simp only[STD,this,qML,q0E])
 have k':(qh kq [.s (tI m),.i 0,.s (tN m.natAbs),.i 0]).run=_:=k;have hm:m.natAbs<1000000000000000000:=qMc (q6a hl) (by decide);have hneg:m<0->yF .i64 0 (m.natAbs:Int)=m:=fun h=>by rw[quB (by omega)];omega
 have hpos:¬m<0->(m.natAbs:Int)=m:=fun h=>by omega
 clear hm k hd;simp only[STD,wK,k',jf];by_cases h:m<0
 ·rw[if_pos h,hneg h]
 ·rw[if_neg h,hpos h]
theorem q7d (m n:Int):(j9 [.s (tI m),.s (tI n)]).run=some (0,if (tN m.natAbs).length<=18/\(tN n.natAbs).length<=18 then [.i m,.i n,.b true] else [.i 0,.i 0,.b false]):=by
 rw[qsF];have e:∀t:List UInt8,(18<qw t)=¬(t.length<=18):=fun t=>by unfold qw;simp only[eq_iff_iff];omega
 by_cases h1:(tN m.natAbs).length<=18
 ·by_cases h2:(tN n.natAbs).length<=18
  ·simp only[STD,wK,e,h1,h2,qju m h1,qju n h2,and_self]
  ·simp only[STD,wK,e,h1,h2,and_false]
 ·simp only[STD,wK,e,h1,false_and]
theorem qvm {d:Int}(h0:0<=d)(h:d<10):qnA [[.i (q2J .u8 (qC .i64 48 d))]]=[dch d.toNat]:=by rw[zb (by omega),qtl (by omega)];show [UInt8.ofNat (48+d).toNat]=[UInt8.ofNat (48+d.toNat)];rw[show (48+d).toNat=48+d.toNat by omega]
theorem qDs {S:List PV->TR}(hS:∀(y0:Int) (y1:qLp),S [.i y0,.s y1]=(.br (ilt 9 y0) (.br (ile ((qw (qnA [[(.i (q2J .u8 (qC .i64 48 (qb4 y0 10))))]]))+(qw y1)) 140737488355328) (.leaf (0,[(.i (qcK .i64 y0 10)),(.s (qeI (qnA [[(.i (q2J .u8 (qC .i64 48 (qb4 y0 10))))]]) y1))])) .fail) (.leaf (1,[(.i y0),(.s y1)]))))(n:Nat) (hn:n<9223372036854775808):∃(a:Nat) (r:qLp),(qh S [.i (n:Int),.s []]).run=some (0,[.i (a:Int),.s r])/\a<10/\tN n=tN a++r:=by
 have hlen:(tN n).length<=19:=q21 18 n (by omega);obtain⟨j,qs,h1,h2⟩:=jQ (S:=S) (fun k ps=>∃(r:qLp),ps=[.i (k:Int),.s r]/\tN n=tN k++r) (fun j qs=>∃(a:Nat) (r:qLp),j=0/\qs=[.i (a:Int),.s r]/\a<10/\tN n=tN a++r) hn (fun k ps hk ⟨r,hps,ht⟩=>by
  subst hps;by_cases h9:k<10
  ·right;have:¬(9:Int)<(k:Int):=by omega
   exact⟨0,_,by rw[hS];simp only[STD,this],k,r,rfl,rfl,h9,ht⟩
  ·left;have h9':(9:Int)<(k:Int):=by omega
   have hr:qb4 (k:Int) 10=((k%10:Nat):Int):=qpu k 10;have hq:qcK .i64 (k:Int) 10=((k/10:Nat):Int):=qzL (b:=10) (by omega);have hd:qnA [[(.i (q2J .u8 (qC .i64 48 (qb4 (k:Int) 10))))]]=[dch (k%10)]:=by rw[hr,qvm (by omega) (by omega)];rfl
   have hrl:r.length<=19:=by have:=congrArg List.length ht;rw[qLR] at this;omega
   have hle:qw [dch (k%10)]+qw r<=140737488355328:=by show (1:Int)+(r.length:Int)<=_;omega
   refine⟨k/10,[.i ((k/10:Nat):Int),.s ([dch (k%10)]++r)],by omega,?_,_,rfl,?_⟩
   ·rw[hS];simp only[STD,h9',hd,hq,hle];rfl
   ·rw[ht,qy5 (by omega),qM4]) (ps:=[.i (n:Int),.s []]) ⟨[],rfl,by simp⟩
 obtain⟨a,r,rfl,rfl,h3,h4⟩:=h2;exact⟨a,r,h1,h3,h4⟩
theorem qC6 {a:Nat}{r:qLp}(ha:a<10):qeI (qnA [[(.i (q2J .u8 (qC .i64 48 (a:Int))))]]) r=tN a++r:=by rw[qvm (by omega) (by omega),qwV ha];rfl
theorem of_le {a:Nat}{r:qLp}(ha:a<10)(hr:r.length<=1000):qw (qnA [[(.i (q2J .u8 (qC .i64 48 (a:Int))))]])+qw r<=140737488355328:=by rw[qvm (by omega) (by omega)];show (1:Int)+(r.length:Int)<=_;omega
theorem qH4 {x:Int}(h1:-9223372036854775808<x)(h2:x<=9223372036854775807):yF .i64 0 x=-x:=quB (by omega)
theorem qJH (n:Nat)(hn:n<9223372036854775808):(q5z [.i (n:Int)]).run=some (0,[.s (tN n)])/\(zA [.i (n:Int)]).run=some (0,[.s (tN n)]):=by
 obtain⟨a,r,h1,h2,h3⟩:=qDs qrO n hn;obtain⟨a',r',h1',h2',h3'⟩:=qDs qus n hn;have hlen:(tN n).length<=19:=q21 18 n (by omega);have hr:r.length<=1000:=by have:=congrArg List.length h3;rw[qLR] at this;omega
 have hr':r'.length<=1000:=by have:=congrArg List.length h3';rw[qLR] at this;omega
 have hneg:yF .i64 0 (n:Int)=-(n:Int):=qH4 (by omega) (by omega);have h0:((n:Int)=-(n:Int))=(n=0):=by simp only[eq_iff_iff];omega
 have hlt:¬(n:Int)<0:=by omega
 have hz:((n:Int)=0)=(n=0):=by simp only[eq_iff_iff];omega
 constructor
 ·rw[qws];simp only[STD,hneg,h0,hz,hlt,h1,qC6 h2,of_le h2 hr,<-h3];by_cases h:n=0<;>simp[h]
 ·rw[qqe];simp only[STD,hneg,h0,hz,hlt,h1',qC6 h2',of_le h2' hr',<-h3'];by_cases h:n=0<;>simp[h]
theorem kj (n:Int)(h1:-9223372036854775808<n)(h2:n<=9223372036854775807):(zA [.i n]).run=some (0,[.s (tI n)]):=by
 by_cases h:n<0
 ·obtain⟨a,ha⟩:∃a:Nat,n=-(a:Int):=⟨n.natAbs,by omega⟩;subst ha;have hneg:yF .i64 0 (-(a:Int))=(a:Int):=by rw[qH4 (by omega) (by omega)];omega
  have hlen:(tN a).length<=19:=q21 18 a (by omega);have ht:=qcZ (a:Int) (by simp;omega);rw[q0W] at ht;rw[qqe];have e1:¬(-(a:Int)=(a:Int)):=by omega
  simp only[STD,hneg,h,e1,(qJH a (by omega)).1,ht]
 ·obtain⟨a,rfl⟩:∃a:Nat,n=(a:Int):=⟨n.toNat,by omega⟩;rw[(qJH a (by omega)).2,q0W]
theorem qi8 (m n:Nat):(q2Y [.s (tN m),.s (tN n)]).run=some (0,[.b (decide (m<n))]):=by
 rw[qvi];have h:=qyh m n;have e1:(qw (tN m)<qw (tN n))=((tN m).length<(tN n).length):=by unfold qw;simp only[eq_iff_iff];omega
 have e2:(qw (tN m)=qw (tN n))=((tN m).length=(tN n).length):=by unfold qw;simp only[eq_iff_iff];omega
 simp only[STD,e1,e2];by_cases h1:(tN m).length<(tN n).length
 ·have:m<n:=h.1 (.inl h1);simp[h1,this]
 ·by_cases h2:(tN m).length=(tN n).length
  ·cases hs:slt (tN m) (tN n) with
   | true=>simp[h2,h.1 (.inr ⟨h2,hs⟩)]
   | false=>
    have:¬m<n:=fun hh=>by rcases h.2 hh with h3|⟨_,h3⟩<;>simp_all
    simp[h2,this]
  ·have:¬m<n:=fun hh=>by rcases h.2 hh with h3|⟨h3,_⟩<;>omega
   simp[h1,h2,this]
end Go.Eng

namespace Go.Eng
variable {k:Nat}
theorem qov (s:qLp)(n:Nat)(h0:0<n)(hn:n<=1000000000)(hl:s.length<=n):(q5T [.s s,.i (n:Int)]).run=some (0,[.s (List.replicate (n-s.length) 48++s)]):=by
 rw[qu7];have k:=zu (S:=q27) (fun i=>[.s s,.i (n:Int),.i (i:Int),.r (rI (List.replicate i 48++List.replicate (n-i) 0))]) (0,[.s s,.i (n:Int),.r (rI (List.replicate n 48))]) n (by omega) (fun i hi=>by
  rw[qh0];have h1:(i:Int)<(n:Int):=by omega
  have h2:(i:Int)<qm (rI (List.replicate i 48++List.replicate (n-i) 0)):=by rw[qhy];simp;omega
  have h3:(List.replicate i (48:Int)++List.replicate (n-i) 0).set (i:Int).toNat 48=List.replicate (i+1) 48++List.replicate (n-(i+1)) 0:=by rw[qLD,List.set_append_right _ _ (by simp),List.length_replicate,qMb];rw[show n-i=(n-(i+1))+1 by omega,qMU,qLI,List.replicate_succ'];simp
  simp only[STD,h1,h2,qbz,and_self,kD hi (by omega),qvX,h3]) (by
  rw[qh0];simp only[STD,Int.lt_irrefl,qMb,List.replicate_zero,qMC])
 have k':(qh q27 [.s s,.i (n:Int),.i 0,.r (rI (List.replicate n 0))]).run=some (0,[.s s,.i (n:Int),.r (rI (List.replicate n 48))]):=by simpa using k
 have e1:yF .i64 (n:Int) (qw s)=((n-s.length:Nat):Int):=by rw[vV (by unfold qw;omega)];unfold qw;omega
 have e2:(0:Int)<=(n:Int):=by omega
 have e3:(n:Int)<=140737488355328:=by omega
 have e4:(0:Int)<qm (rI (List.replicate n 48)):=by rw[qhy,List.length_replicate];omega
 have e5:((n-s.length:Nat):Int)<=qm (rI (List.replicate n 48)):=by rw[qhy,List.length_replicate];omega
 have e6:qw s<=qxQ (qm (rI (List.replicate n 48))) ((n-s.length:Nat):Int):=by rw[qhy,List.length_replicate];unfold qxQ qw;omega
 have e7:qnA (rI (List.take ((n-s.length:Nat):Int).toNat (List.replicate n 48)++s.map (fun c=>(c.toNat:Int))++List.drop (((n-s.length:Nat):Int).toNat+s.length) (List.replicate n 48)))=List.replicate (n-s.length) 48++s:=by
  rw[qLD,List.take_replicate,List.drop_replicate,qMI (by omega),show n-(n-s.length+s.length)=0 by omega,List.replicate_zero,qMC];have:List.replicate (n-s.length) (48:Int)=(List.replicate (n-s.length) (48:UInt8)).map fun c=>(c.toNat:Int):=by rw[List.map_replicate];rfl
  rw[this,<-qM0,qny]
 simp only[STD,qky,qLD,e2,e3,and_self,k',e4,e5,e1,qbz,e6,qJO];rw[qLD] at e7;rw[e7]
theorem qcJ {s:qLp}(hd:q61 s)(hn:s≠[])(hl:s.length<=1000000000):(uk [.s s]).run=some (0,[.s (tN (val s))]):=by
 rw[qui];obtain⟨j,qs,h1,h2⟩:=jQ (S:=q4P) (fun k ps=>∃t:List UInt8,ps=[.s t]/\t.length=k/\q61 t/\t≠[]/\val t=val s) (fun j qs=>j=0/\qs=[.s (tN (val s))]) (n:=s.length) (by omega) (fun k ps hk ⟨t,hps,hlk,hdt,hnt,hv⟩=>by
  subst hps;have hp:0<t.length:=qMQ.2 hnt;have hs0:(0:Int)<qw t:=by unfold qw;omega
  rw[qpF];by_cases h1:1<t.length
  ·have hs1:(1:Int)<qw t:=by unfold qw;omega
   obtain⟨c,u,rfl⟩:∃c u,t=c::u:=by
    cases t with
    | nil=>exact absurd rfl hnt
    | cons c u=>exact⟨c,u,rfl⟩
   have hsat:sat (c::u) 0=(c.toNat:Int):=by simp[sat]
   by_cases h48:c=48
   ·left;subst h48;have hu:u≠[]:=by intro h;subst h;simp at h1
    refine⟨u.length,[.s u],by simp at hlk;omega,?_,u,rfl,rfl,(q0U.1 hdt).2,hu,by rw[<-hv,qzx]⟩;have hsub:qcE (48::u) 1 (qw (48::u))=u:=by simp[qcE,qw]
    have h48':(((48:UInt8).toNat:Nat):Int)=48:=rfl;simp only[STD,hs1,hs0,hsat,h48',qLG,and_self,Int.le_of_lt hs1,Int.le_of_lt hs0,show (0:Int)<=1 by omega,hsub]
   ·right;have hne:¬((c.toNat:Int)=48):=fun h=>h48 (qN6.1 (by show c.toNat=48;omega));refine⟨0,[.s (c::u)],?_,rfl,?_⟩
    ·simp only[STD,hs1,hs0,hsat,hne,qLG,and_self]
    ·rw[<-hv,<-qqc hdt hnt (.inr (by simpa using h48))]
  ·right;have hs1:¬(1:Int)<qw t:=by unfold qw;omega
   refine⟨0,[.s t],?_,rfl,?_⟩
   ·simp only[STD,hs1]
   ·rw[<-hv,<-qqc hdt hnt (.inl (by omega))]) (ps:=[.s s]) ⟨s,rfl,rfl,hd,hn,rfl⟩
 obtain⟨rfl,rfl⟩:=h2;simp only[STD,h1]
theorem qFt {x y:UInt8}(hx:48<=x.toNat/\x.toNat<=57)(hy:48<=y.toNat/\y.toNat<=57)(c:Nat)(hc:c<=1)(add:Bool) :∃(d:UInt8) (c':Nat),(48<=d.toNat/\d.toNat<=57)/\c'<=1/\(q4u [.i x.toNat,.i y.toNat,.i (c:Int),.b add]).run=some (0,[.i d.toNat,.i (c':Int)]) /\(if add then dv x+dv y+c=dv d+10*c' else dv x+10*c'=dv y+c+dv d):=by
 have ex:q2J .i64 (yF .u8 (x.toNat:Int) 48)=(dv x:Int):=by rw[qHU (by omega),qpy (by omega)];unfold dv;omega
 have ey:q2J .i64 (yF .u8 (y.toNat:Int) 48)=(dv y:Int):=by rw[qHU (by omega),qpy (by omega)];unfold dv;omega
 have lx:=qBg hx;have ly:=qBg hy;have mk:∀v:Nat,v<10->((dch v).toNat:Int)=48+v:=fun v hv=>by rw[q30 hv];omega
 rw[qqg];simp only[STD,ex,ey];cases add with
 | true=>
  simp only[STD];have e1:qC .i64 (qC .i64 (dv x:Int) (dv y:Int)) (c:Int)=((dv x+dv y+c:Nat):Int):=by rw[zb (x:=(dv x:Int)) (by omega),zb (by omega)];omega
  rw[e1];by_cases h9:9<dv x+dv y+c
  ·have h9':(9:Int)<((dv x+dv y+c:Nat):Int):=by omega
   refine⟨dch (dv x+dv y+c-10),1,by rw[q30 (by omega)];omega,by omega,?_,by rw[qoo (by omega)];omega⟩;rw[if_pos h9',zb (by omega),vV (by omega),qtl (by omega),mk _ (by omega)];rw[show (48:Int)+((dv x+dv y+c:Nat):Int)-10=48+((dv x+dv y+c-10:Nat):Int) by omega];rfl
  ·have h9':¬(9:Int)<((dv x+dv y+c:Nat):Int):=by omega
   have h0:¬((dv x+dv y+c:Nat):Int)<0:=by omega
   refine⟨dch (dv x+dv y+c),0,by rw[q30 (by omega)];omega,by omega,?_,by rw[qoo (by omega)];omega⟩;rw[if_neg h9',if_neg h0,zb (by omega),qtl (by omega),mk _ (by omega)];rfl
 | false=>
  simp only[STD];have e1:yF .i64 (yF .i64 (dv x:Int) (dv y:Int)) (c:Int)=(dv x:Int)-dv y-c:=by rw[vV (x:=(dv x:Int)) (by omega),vV (by omega)]
  rw[e1];have h9':¬(9:Int)<(dv x:Int)-dv y-c:=by omega
  rw[if_neg h9'];by_cases h0:(dv x:Int)-dv y-c<0
  ·refine⟨dch (dv x+10-dv y-c),1,by rw[q30 (by omega)];omega,by omega,?_,?_⟩
   ·rw[if_pos h0,zb (x:=48) (by omega),zb (by omega),qtl (by omega),mk _ (by omega)];rw[show (48:Int)+((dv x:Int)-dv y-c)+10=48+((dv x+10-dv y-c:Nat):Int) by omega];rfl
   ·rw[qoo (by omega)];omega
  ·refine⟨dch (dv x-dv y-c),0,by rw[q30 (by omega)];omega,by omega,?_,?_⟩
   ·rw[if_neg h0,zb (by omega),qtl (by omega),mk _ (by omega)];rw[show (48:Int)+((dv x:Int)-dv y-c)=48+((dv x-dv y-c:Nat):Int) by omega];rfl
   ·rw[qoo (by omega)];omega
theorem qDP {s:qLp}(h:k<s.length):s.drop k=s[k]::s.drop (k+1):=(List.drop_eq_getElem_cons h)
theorem qzk {s:qLp}(h:k<s.length):val (s.drop k)=dv s[k]*10^(s.length-(k+1))+val (s.drop (k+1)):=by rw[qDP h,q68,qNu]
theorem qvO {a b:qLp}{n:Nat}(ha:q61 a)(hb:q61 b)(hla:a.length=n)(hlb:b.length=n)(hn:n<=100000001)(add:Bool) :∃(t:qLp) (c:Nat),(qh q0M [.s a,.s b,.b add,.i 0,.i ((n:Int)-1),.r (rI (List.replicate n 0))]).run=some (0,[.r (rI (t.map fun c=>(c.toNat:Int)))])/\q61 t/\t.length=n /\(if add then val a+val b=val t+c*10^n else val a+c*10^n=val b+val t):=by
 obtain⟨j,qs,h1,h2⟩:=jQ (S:=q0M) (fun k ps=>∃(t:qLp) (c:Nat),ps=[.s a,.s b,.b add,.i (c:Int),.i ((k:Int)-1),.r (rI (List.replicate k 0++t.map fun c=>(c.toNat:Int)))]/\c<=1/\q61 t/\k+t.length=n /\
   (if add then val (a.drop k)+val (b.drop k)=val t+c*10^(n-k) else val (a.drop k)+c*10^(n-k)=val (b.drop k)+val t))
  (fun j qs=>j=0/\∃(t:qLp) (c:Nat),qs=[.r (rI (t.map fun c=>(c.toNat:Int)))]/\q61 t/\t.length=n/\(if add then val a+val b=val t+c*10^n else val a+c*10^n=val b+val t)) (n:=n) (by omega) (fun k ps hk ⟨t,c,hps,hc,hdt,hlt,hrel⟩=>by
  subst hps;rw[qoM];cases k with
  | zero=>
   right;have:¬(0:Int)<=((0:Nat):Int)-1:=by omega
   refine⟨0,[.r (rI (t.map fun c=>(c.toNat:Int)))],?_,rfl,t,c,rfl,hdt,by omega,by simpa using hrel⟩;simp only[STD,this,List.replicate_zero,qMD]
  | succ k=>
   left;have e0:((k+1:Nat):Int)-1=(k:Int):=by omega
   rw[e0];have hka:k<a.length:=by omega
   have hkb:k<b.length:=by omega
   obtain⟨d,c',hd,hc',hrun,hcol⟩:=qFt (qiS ha hka) (qiS hb hkb) c hc add;have h3:(k:Int)<qw a:=by unfold qw;omega
   have h4:(k:Int)<qw b:=by unfold qw;omega
   have h5:(k:Int)<qm (rI (List.replicate (k+1) 0++t.map fun c=>(c.toNat:Int))):=by rw[qhy];simp;omega
   have h6:(List.replicate (k+1) (0:Int)++t.map fun c=>(c.toNat:Int)).set (k:Int).toNat (d.toNat:Int)=List.replicate k 0++(d::t).map fun c=>(c.toNat:Int):=by rw[qLD,List.replicate_succ',qM4,List.set_append_right _ _ (by simp),List.length_replicate,qMb];rfl
   have h7:yF .i64 (k:Int) 1=(k:Int)-1:=vV (by omega);refine⟨k,[.s a,.s b,.b add,.i (c':Int),.i ((k:Int)-1),.r (rI (List.replicate k 0++(d::t).map fun c=>(c.toNat:Int)))],by omega,?_,d::t,c',rfl,hc',q0U.2 ⟨hd,hdt⟩,by simp;omega,?_⟩
   ·simp only[STD,qbz,h3,h4,h5,and_self,qjU hka,qjU hkb,hrun,qvX,h6,h7]
   ·rw[qzk hka,qzk hkb,q68,hla,hlb,show t.length=n-(k+1) by omega,show n-k=(n-(k+1))+1 by omega,qN0];generalize 10^(n-(k+1))=p at *;cases add with
    | true=>
     simp only[↓reduceIte] at hrel hcol ⊢;have:=congrArg (·*p) hcol;simp only[qLH] at this;grind
    | false=>
     simp only[qLQ,↓reduceIte] at hrel hcol ⊢;have:=congrArg (·*p) hcol;simp only[qLH] at this;grind) (ps:=[.s a,.s b,.b add,.i 0,.i ((n:Int)-1),.r (rI (List.replicate n 0))]) ⟨[],0,by simp,by omega,qlU,by simp,by
    rw[qNe (by omega),qNe (by omega)];cases add<;>simp[qeQ]⟩
 obtain⟨rfl,t,c,rfl,h3,h4,h5⟩:=h2;exact⟨t,c,h1,h3,h4,h5⟩
theorem qDx {m n t c p:Nat}{add:Bool}(hm:m<p)(hn:n<p)(ht:t<p*10)(h4:if add then m+n=t+c*(p*10) else m+c*(p*10)=n+t)(hle:add=false->n<=m):t=if add then m+n else m-n:=by
 have hc0:c=0:=by
  rcases qMz c with h|h
  ·exact h
  ·exfalso;have h5:1*(p*10)<=c*(p*10):=qLT (p*10) h;cases add with
   | true=>simp only[↓reduceIte] at h4;omega
   | false=>simp only[qLQ,↓reduceIte] at h4;have:=hle rfl;omega
 subst hc0;cases add with
 | true=>simp only[↓reduceIte] at h4 ⊢;omega
 | false=>simp only[qLQ,↓reduceIte] at h4 ⊢;omega
theorem quY (a b:Nat):qvr (a:Int) (b:Int)=((max a b:Nat):Int):=by unfold qvr;split<;>omega
theorem qan (m n:Nat)(add:Bool)(hm:(tN m).length<=100000000)(hn:(tN n).length<=100000000)(hle:add=false->n<=m) :(ud [.s (tN m),.s (tN n),.b add]).run=some (0,[.s (tN (if add then m+n else m-n))]):=by
 rw[qsg];obtain⟨N,hN⟩:∃N,N=max (tN m).length (tN n).length+1:=⟨_,rfl⟩;have l1:(tN m).length<=N-1:=by omega
 have l2:(tN n).length<=N-1:=by omega
 have l3:N=N-1+1:=by omega
 have p1:10^(tN m).length<=10^(N-1):=qN1 (Nat.succ_pos 9) l1;have p2:10^(tN n).length<=10^(N-1):=qN1 (Nat.succ_pos 9) l2;have p3:10^N=10^(N-1)*10:=(congrArg (10^·) l3).trans (qN0 (n:=10) (m:=N-1));have e0:qC .i64 (qvr (qw (tN m)) (qw (tN n))) 1=(N:Int):=by unfold qw;rw[quY,zb (by omega)];omega
 have e1:yF .i64 (N:Int) 1=(N:Int)-1:=vV (by omega);have e2:(0:Int)<=(N:Int)/\(N:Int)<=140737488355328:=by omega
 have wa:=qov (tN m) N (by omega) (by omega) (by omega);have wb:=qov (tN n) N (by omega) (by omega) (by omega);have hda:q61 (List.replicate (N-(tN m).length) 48++tN m):=q8f.2 ⟨qnP _,zY _⟩;have hdb:q61 (List.replicate (N-(tN n).length) 48++tN n):=q8f.2 ⟨qnP _,zY _⟩;obtain⟨t,c,h1,h2,h3,h4⟩:=qvO (n:=N) hda hdb (by simp;omega) (by simp;omega) (by omega) add;rw[qqF,qqF,q0E,q0E] at h4;have ht:t≠[]:=by intro h;subst h;simp at h3;omega
 have hb:=qcJ h2 ht (by omega);have e3:q4f (N:Int) [.i 0]=rI (List.replicate N 0):=by rw[qky];rfl
 have hvm:=q7n (zY m);have hvn:=q7n (zY n);have hvt:=q7n h2;rw[q0E] at hvm hvn;rw[h3] at hvt;rw[p3] at h4 hvt;have q1:=qMc hvm p1;have q2:=qMc hvn p2;clear hvm hvn p1 p2 p3;have hval:val t=if add then m+n else m-n:=qDx q1 q2 hvt h4 hle
 rw[hval] at hb;simp only[STD,e0,wa,wb,e1,e2,and_self,e3,h1,qny,hb]
theorem qxY (m n:Nat):(tN (m+n)).length<=max (tN m).length (tN n).length+1:=by have h1:=q7n (zY m);have h2:=q7n (zY n);rw[q0E] at h1 h2;have p1:10^(tN m).length<=10^(max (tN m).length (tN n).length):=qN1 (by omega) (by omega);have p2:10^(tN n).length<=10^(max (tN m).length (tN n).length):=qN1 (by omega) (by omega);exact q21 _ _ (by rw[qN0];omega)
theorem qqJ (m n:Nat):(tN (m*n)).length<=(tN m).length+(tN n).length:=by
 have h1:=q7n (zY m);have h2:=q7n (zY n);rw[q0E] at h1 h2;have h3:=qjg m;have h4:=qjg n;have:m*n<10^((tN m).length+(tN n).length):=by rw[Nat.pow_add];exact Nat.mul_lt_mul'' h1 h2
 have:=q21 ((tN m).length+(tN n).length-1) (m*n) (by rwa [show (tN m).length+(tN n).length-1+1=(tN m).length+(tN n).length by omega]);omega
def nl(m:Int):Nat:=(tN m.natAbs).length
theorem qrg (m:Int):0<nl m:=qjg _
theorem qrf (m:Int):nl (-m)=nl m:=by unfold nl;rw[Int.natAbs_neg]
theorem qwi (m n:Int):nl (m+n)<=max (nl m) (nl n)+1:=by unfold nl;exact qLu (kI (Int.natAbs_add_le m n)) (qxY _ _)
theorem q3a (m n:Int):nl (m*n)<=nl m+nl n:=by unfold nl;rw[qMG];exact qqJ _ _
theorem qIO {m:Int}(h:nl m<=k):m.natAbs<10^k:=q6a h
theorem qvL (m n:Int)(hm:nl m<=100000000-1)(hn:nl n<=100000000-1):(q8I [.s (tI m),.s (tI n)]).run=some (0,[.s (tI (m+n))]):=by
 rw[qu1];have hm':(tN m.natAbs).length<=100000000-1:=hm;have hn':(tN n.natAbs).length<=100000000-1:=hn;have lt:=qwi m n;by_cases hb:(tN m.natAbs).length<=18/\(tN n.natAbs).length<=18
 ·have b1:m.natAbs<1000000000000000000:=qMc (q6a hb.1) (by decide);have b2:n.natAbs<1000000000000000000:=qMc (q6a hb.2) (by decide);have e1:qC .i64 m n=m+n:=zb (by omega);have e2:=kj (m+n) (by omega) (by omega);clear b1 b2;have hbr:=q7d m n;rw[if_pos hb] at hbr;simp only[STD,hbr,e1,e2]
 ·have hbr:=q7d m n;rw[if_neg hb] at hbr;have hP:=qan m.natAbs n.natAbs true (by omega) (by omega) (fun h=>by cases h);simp only[↓reduceIte] at hP;simp only[STD,hbr,wK,jf,qi8,decide_eq_decide,hP];have la:=qxY m.natAbs n.natAbs;by_cases hs:(m<0)=(n<0)
  ·have hs':(m<0↔n<0):=by rw[hs]
   rw[if_pos hs'];simp only[kU _ _ (show (tN (m.natAbs+n.natAbs)).length<=100000000 by omega),STD];have e:(if m<0 then -((m.natAbs+n.natAbs:Nat):Int) else ((m.natAbs+n.natAbs:Nat):Int))=m+n:=by
    by_cases h:m<0
    ·rw[if_pos h];have:=hs'.1 h;omega
    ·rw[if_neg h];have:¬n<0:=fun q=>h (hs'.2 q);omega
   rw[e]
  ·have hs':¬(m<0↔n<0):=fun h=>hs (propext h);rw[if_neg hs'];by_cases hlt:m.natAbs<n.natAbs
   ·have hP2:=qan n.natAbs m.natAbs false (by omega) (by omega) (fun _=>by omega);simp only[qLQ,↓reduceIte] at hP2;have ls:(tN (n.natAbs-m.natAbs)).length<=100000000:=qLu (kI (Nat.sub_le _ _)) (by omega);simp only[STD,hlt,hP2,kU _ _ ls];have e:(if n<0 then -((n.natAbs-m.natAbs:Nat):Int) else ((n.natAbs-m.natAbs:Nat):Int))=m+n:=by
     by_cases h:n<0
     ·rw[if_pos h];have:¬m<0:=fun q=>hs' ⟨fun _=>h,fun _=>q⟩;omega
     ·rw[if_neg h];have:m<0:=by
       rcases Decidable.em (m<0) with q|q
       ·exact q
       ·exact absurd ⟨fun x=>absurd x q,fun x=>absurd x h⟩ hs'
      omega
    rw[e]
   ·have hP2:=qan m.natAbs n.natAbs false (by omega) (by omega) (fun _=>by omega);simp only[qLQ,↓reduceIte] at hP2;have ls:(tN (m.natAbs-n.natAbs)).length<=100000000:=qLu (kI (Nat.sub_le _ _)) (by omega);simp only[STD,hlt,hP2,kU _ _ ls];have e:(if m<0 then -((m.natAbs-n.natAbs:Nat):Int) else ((m.natAbs-n.natAbs:Nat):Int))=m+n:=by
     by_cases h:m<0
     ·rw[if_pos h];have:¬n<0:=fun q=>hs' ⟨fun _=>q,fun _=>h⟩;omega
     ·rw[if_neg h];have:n<0:=by
       rcases Decidable.em (n<0) with q|q
       ·exact q
       ·exact absurd ⟨fun x=>absurd x h,fun x=>absurd x q⟩ hs'
      omega
    rw[e]
theorem qfx (m n:Int)(hm:nl m<=100000000-1)(hn:nl n<=100000000-1):(u6 [.s (tI m),.s (tI n)]).run=some (0,[.s (tI (m-n))]):=by rw[qse];have ht:=qcZ n (by have:(tN n.natAbs).length<=100000000-1:=hn;omega);have hp:=qvL m (-n) hm (by rw[qrf];exact hn);rw[<-Int.sub_eq_add_neg] at hp;simp only[STD,ht,hp]
def sgn(n:Int):Int:=if n<0 then -1 else if n=0 then 0 else 1
theorem quA (m n:Int)(hm:nl m<=100000000-1)(hn:nl n<=100000000-1):(q6E [.s (tI m),.s (tI n)]).run=some (0,[.i (sgn (m-n))]):=by
 rw[qrW];have h0:(tI (m-n)=[48])=(m-n=0):=by have:tI 0=[48]:=rfl;rw[<-this];exact propext ⟨fun h=>qwf h,fun h=>by rw[h]⟩
 simp only[STD,qfx m n hm hn,zj,h0,jf];unfold sgn;by_cases h1:m-n=0
 ·rw[if_pos h1,if_neg (by omega),if_pos h1]
 ·rw[if_neg h1];by_cases h2:m-n<0
  ·rw[if_pos h2,if_pos h2]
  ·rw[if_neg h2,if_neg h2,if_neg h1]
end Go.Eng

namespace Go.Eng
def wv(l:List Int):Int:=l.foldl (fun a x=>10*a+x) 0
theorem qtR:∀(t:List Int) (a:Int),t.foldl (fun a x=>10*a+x) a=a*10^t.length+wv t
 | [],a=>by simp[wv]
 | c::t,a=>by
  have h1:=qtR t (10*a+c);have h2:=qtR t (10*0+c);have h3:wv (c::t)=t.foldl (fun a x=>10*a+x) (10*0+c):=rfl;rw[h3,h2,qNl,h1,qM5,Int.pow_succ];grind
theorem qnF(c:Int)(t:List Int):wv (c::t)=c*10^t.length+wv t:=by have h3:wv (c::t)=t.foldl (fun a x=>10*a+x) (10*0+c):=rfl;rw[h3,qtR];grind
theorem qKe:wv []=0:=rfl
theorem qFq(n:Nat):wv (List.replicate n 0)=0:=by
 induction n with
 | zero=>rfl
 | succ n ih=>rw[qMU,qnF,ih];simp
theorem qGW:∀(l:List Int) (j:Nat) (hj:j<l.length) (y:Int),wv (l.set j y)=wv l+(y-l[j])*10^(l.length-(j+1))
 | [],j,hj,y=>by simp at hj
 | c::t,0,hj,y=>by
  rw[qLI,qnF,qnF];simp only[List.getElem_cons_zero,qM5,qNK,qMe];grind
 | c::t,j+1,hj,y=>by
  have hj':j<t.length:=by simpa using hj
  rw[qLM,qnF,qnF,qGW t j hj' y,qMS];simp only[List.getElem_cons_succ,qM5];rw[show t.length+1-(j+1+1)=t.length-(j+1) by omega];grind
theorem qHn{l:List Int}{k:Nat}(h:k<l.length):wv (l.drop k)=l[k]*10^(l.length-(k+1))+wv (l.drop (k+1)):=by rw[List.drop_eq_getElem_cons h,qnF,qNu]
theorem ye{l:List Int}{j:Nat}(h:j<l.length):l.getD j 0=l[j]:=by simp[h]
theorem qrB{n i:Nat}(h:i<n):(10:Int)^(n-i)=10^(n-(i+1))*10:=by rw[<-Int.pow_succ];congr 1;omega
theorem qCB{V A Q B:Int}:V*(Q*10)*B+A*B*Q=(10*V+A)*Q*B:=by grind
theorem qHE{P Q A V y:Int}:A*(10*V+y)*P*Q=A*V*(P*10)*Q+A*y*(P*Q):=by grind
theorem quw{l:List Int}{j:Nat}{y B:Int}(h:∀x,x∈l->0<=x/\x<=B)(hy:0<=y/\y<=B):∀x,x∈l.set j y->0<=x/\x<=B:=by
 intro x hx;rcases qNL hx with h1|h1
 ·exact h x h1
 ·rw[h1];exact hy
theorem qAD{a b:qLp}(ha:q61 a)(hb:q61 b){i:Nat}(hi:i<a.length)(hla:a.length<=1000000)(hlb:b.length<=1000000){cols:List Int}(hc:cols.length=a.length+b.length){C:Nat}(hC:C<=1000000000000)(hB:∀x,x∈cols->0<=x/\x<=81*(C:Int)) :∃cols':List Int,(qh um [.s a,.s b,.i (i:Int),.i 0,.r (rI cols)]).run=some (0,[.s a,.s b,.i (i:Int),.r (rI cols')])/\cols'.length=a.length+b.length /\(∀x,x∈cols'->0<=x/\x<=81*((C+b.length:Nat):Int))/\wv cols'=wv cols+(dv a[i]:Int)*(val b:Int)*10^(a.length-(i+1)):=by
 obtain⟨j,qs,h1,h2⟩:=jQ (S:=um) (fun K ps=>∃(k:Nat) (cs:List Int),K+k=b.length/\ps=[.s a,.s b,.i (i:Int),.i (k:Int),.r (rI cs)]/\cs.length=a.length+b.length /\
   (∀x,x∈cs->0<=x/\x<=81*((C+k:Nat):Int))/\wv cs=wv cols+(dv a[i]:Int)*(val (b.take k):Int)*10^(b.length-k)*10^(a.length-(i+1)))
  (fun j qs=>j=0/\∃cs:List Int,qs=[.s a,.s b,.i (i:Int),.r (rI cs)]/\cs.length=a.length+b.length /\
   (∀x,x∈cs->0<=x/\x<=81*((C+b.length:Nat):Int))/\wv cs=wv cols+(dv a[i]:Int)*(val b:Int)*10^(a.length-(i+1))) (n:=b.length) (by omega) (fun K ps hK ⟨k,cs,hkK,hps,hlen,hbd,hw⟩=>by
  subst hps;rw[qmD];cases K with
  | zero=>
   right;obtain rfl:k=b.length:=by omega
   have:¬(b.length:Int)<qw b:=by unfold qw;omega
   refine⟨0,[.s a,.s b,.i (i:Int),.r (rI cs)],?_,rfl,cs,rfl,hlen,hbd,?_⟩
   ·simp only[STD,this]
   ·rw[hw,qML,qMb];grind
  | succ K=>
   left;have hk:k<b.length:=by omega
   have g1:(k:Int)<qw b:=by unfold qw;omega
   have g2:(i:Int)<qw a:=by unfold qw;omega
   have e1:qC .i64 (qC .i64 (i:Int) (k:Int)) 1=((i+k+1:Nat):Int):=by rw[zb (x:=(i:Int)) (by omega),zb (by omega)];omega
   have hj:i+k+1<cs.length:=by omega
   have g3:((i+k+1:Nat):Int)<qm (rI cs):=by rw[qhy];omega
   obtain⟨da,la⟩:=qxS ha hi;obtain⟨db,lb⟩:=qxS hb hk;have hx:=hbd _ (qMg hj);have hmul:dv a[i]*dv b[k]<=9*9:=qMk (by omega) (by omega);have e2:vd .i64 (dv a[i]:Int) (dv b[k]:Int)=((dv a[i]*dv b[k]:Nat):Int):=by rw[q35 (by rw[<-qMj];omega)];simp
   have e3:qC .i64 cs[i+k+1] ((dv a[i]*dv b[k]:Nat):Int)=cs[i+k+1]+((dv a[i]*dv b[k]:Nat):Int):=zb (by omega);have e4:=kD hk (by omega);refine⟨K,[.s a,.s b,.i (i:Int),.i ((k+1:Nat):Int),.r (rI (cs.set (i+k+1) (cs[i+k+1]+((dv a[i]*dv b[k]:Nat):Int))))],by omega,?_,k+1,_,by omega,rfl,by simpa using hlen,?_,?_⟩
   ·simp only[STD,g1,g2,qbz,and_self,e1,g3,da,db,e2,qD3,qLD,ye hj,e3,e4,qvX]
   ·refine quw (fun x hx=>?_) ?_
    ·have:=hbd x hx;omega
    ·omega
   ·rw[qGW _ _ hj,hw,q9Z hk,hlen];have p1:=qrB hk;have p2:(10:Int)^(a.length+b.length-(i+k+1+1))=10^(b.length-(k+1))*10^(a.length-(i+1)):=by rw[<-Int.pow_add];congr 1;omega
    rw[p1,p2];generalize (10:Int)^(b.length-(k+1))=P;generalize (10:Int)^(a.length-(i+1))=Q;simp only[qNq,qMj];generalize (dv a[i]:Int)=A;generalize (dv b[k]:Int)=y;generalize (val (b.take k):Int)=V;generalize cs[i+k+1]=c;have:=qHE (P:=P) (Q:=Q) (A:=A) (V:=V) (y:=y);grind) (ps:=[.s a,.s b,.i (i:Int),.i 0,.r (rI cols)]) ⟨0,cols,by omega,rfl,hc,by simpa using hB,by simp[qeQ]⟩
 obtain⟨rfl,cs,rfl,h3,h4,h5⟩:=h2;exact⟨cs,h1,h3,h4,h5⟩
theorem qAH{a b:qLp}(ha:q61 a)(hb:q61 b)(hla:a.length<=1000000)(hlb:b.length<=1000000) :∃cols:List Int,(qh uu [.s a,.s b,.i 0,.r (rI (List.replicate (a.length+b.length) 0))]).run=some (0,[.r (rI cols)])/\cols.length=a.length+b.length /\(∀x,x∈cols->0<=x/\x<=81000000000000)/\wv cols=(val a:Int)*(val b:Int):=by
 have hsq:∀i,i<=a.length->i*b.length<=1000000000000:=fun i hi=>by have:=qMk (show i<=1000000 by omega) hlb;omega
 obtain⟨j,qs,h1,h2⟩:=jQ (S:=uu) (fun K ps=>∃(i:Nat) (cs:List Int),K+i=a.length/\ps=[.s a,.s b,.i (i:Int),.r (rI cs)]/\cs.length=a.length+b.length /\
   (∀x,x∈cs->0<=x/\x<=81*((i*b.length:Nat):Int))/\wv cs=(val (a.take i):Int)*10^(a.length-i)*(val b:Int))
  (fun j qs=>j=0/\∃cs:List Int,qs=[.r (rI cs)]/\cs.length=a.length+b.length/\(∀x,x∈cs->0<=x/\x<=81000000000000)/\wv cs=(val a:Int)*(val b:Int)) (n:=a.length) (by omega) (fun K ps hK ⟨i,cs,hiK,hps,hlen,hbd,hw⟩=>by
  subst hps;rw[qlH];have hs:=hsq i (by omega);cases K with
  | zero=>
   right;obtain rfl:i=a.length:=by omega
   have:¬(a.length:Int)<qw a:=by unfold qw;omega
   refine⟨0,[.r (rI cs)],?_,rfl,cs,rfl,hlen,fun x hx=>?_,?_⟩
   ·simp only[STD,this]
   ·have:=hbd x hx;omega
   ·rw[hw,qML,qMb];grind
  | succ K=>
   left;have hi:i<a.length:=by omega
   have g1:(i:Int)<qw a:=by unfold qw;omega
   obtain⟨cs',q1,q2,q3,q4⟩:=qAD ha hb hi hla hlb hlen (C:=i*b.length) hs hbd;have e4:=kD hi (by omega);refine⟨K,[.s a,.s b,.i ((i+1:Nat):Int),.r (rI cs')],by omega,?_,i+1,cs',by omega,rfl,q2,?_,?_⟩
   ·simp only[STD,g1,q1,e4]
   ·rw[qLH,qNa];exact q3
   ·rw[q4,hw,q9Z hi];rw[qrB hi,qNq,qMj];exact qCB) (ps:=[.s a,.s b,.i 0,.r (rI (List.replicate (a.length+b.length) 0))]) ⟨0,List.replicate (a.length+b.length) 0,by omega,rfl,by simp,fun x hx=>by rw[(qNG.1 hx).2];omega,by rw[qFq];simp[qeQ]⟩
 obtain⟨rfl,cs,rfl,h3,h4,h5⟩:=h2;exact⟨cs,h1,h3,h4,h5⟩
theorem qAo{cols:List Int}{N:Nat}(hl:cols.length=N)(hN:N<=2000000)(hB:∀x,x∈cols->0<=x/\x<=81000000000000) :∃(t:qLp) (c:Nat),(qh yk [.i 0,.i ((N:Int)-1),.r (rI cols),.r (rI (List.replicate N 0))]).run=some (0,[.r (rI (t.map fun c=>(c.toNat:Int)))])/\q61 t/\t.length=N/\wv cols=(val t:Int)+(c:Int)*10^N:=by
 obtain⟨j,qs,h1,h2⟩:=jQ (S:=yk) (fun K ps=>∃(t:qLp) (c:Nat),ps=[.i (c:Int),.i ((K:Int)-1),.r (rI cols),.r (rI (List.replicate K 0++t.map fun c=>(c.toNat:Int)))]/\c<=81000000000000/\q61 t/\K+t.length=N /\
   wv (cols.drop K)=(val t:Int)+(c:Int)*10^(N-K))
  (fun j qs=>j=0/\∃(t:qLp) (c:Nat),qs=[.r (rI (t.map fun c=>(c.toNat:Int)))]/\q61 t/\t.length=N/\wv cols=(val t:Int)+(c:Int)*10^N) (n:=N) (by omega) (fun K ps hK ⟨t,c,hps,hc,hdt,hlt,hrel⟩=>by
  subst hps;rw[qkO];cases K with
  | zero=>
   right;have:¬(0:Int)<=((0:Nat):Int)-1:=by omega
   refine⟨0,[.r (rI (t.map fun c=>(c.toNat:Int)))],?_,rfl,t,c,rfl,hdt,by omega,by simpa using hrel⟩;simp only[STD,this,List.replicate_zero,qMD]
  | succ K=>
   left;have e0:((K+1:Nat):Int)-1=(K:Int):=by omega
   rw[e0];have hk:K<cols.length:=by omega
   obtain⟨x,hx⟩:∃x:Nat,cols[K]=(x:Int)/\x<=81000000000000:=by have:=hB _ (qMg hk);exact⟨cols[K].toNat,by omega,by omega⟩
   have e1:qC .i64 (c:Int) (x:Int)=((c+x:Nat):Int):=by rw[zb (by omega)];omega
   have e2:qcK .i64 ((c+x:Nat):Int) 10=(((c+x)/10:Nat):Int):=qzL (b:=10) (by omega);have e3:qb4 ((c+x:Nat):Int) 10=(((c+x)%10:Nat):Int):=qpu _ 10;have e4:q2J .u8 (qC .i64 48 (((c+x)%10:Nat):Int))=((dch ((c+x)%10)).toNat:Int):=by rw[zb (by omega),qtl (by omega),q30 (by omega)];omega
   have h3:(K:Int)<qm (rI cols):=by rw[qhy];omega
   have h5:(K:Int)<qm (rI (List.replicate (K+1) 0++t.map fun c=>(c.toNat:Int))):=by rw[qhy];simp;omega
   have h6:(List.replicate (K+1) (0:Int)++t.map fun c=>(c.toNat:Int)).set K ((dch ((c+x)%10)).toNat:Int)=List.replicate K 0++(dch ((c+x)%10)::t).map fun c=>(c.toNat:Int):=by rw[List.replicate_succ',qM4,List.set_append_right _ _ (by simp),List.length_replicate,qMb];rfl
   have h7:yF .i64 (K:Int) 1=(K:Int)-1:=vV (by omega);refine⟨K,[.i (((c+x)/10:Nat):Int),.i ((K:Int)-1),.r (rI cols),.r (rI (List.replicate K 0++(dch ((c+x)%10)::t).map fun c=>(c.toNat:Int)))],by omega,?_,_,_,rfl,by omega,q0U.2 ⟨by rw[q30 (by omega)];omega,hdt⟩,by simp;omega,?_⟩
   ·simp only[STD,qbz,h3,h5,and_self,qD3,qLD,ye hk,hx.1,e1,e2,e3,e4,qvX,h6,h7]
   ·rw[qHn hk,hrel,q68,hx.1,hl,qoo (by omega),show t.length=N-(K+1) by omega];rw[qrB (show K<N by omega)];have e:((c+x:Nat):Int)=10*(((c+x)/10:Nat):Int)+(((c+x)%10:Nat):Int):=by omega
    simp only[qNq,qMj,Int.natCast_pow] at e ⊢;generalize hP:(10:Int)^(N-(K+1))=P at *;generalize (((c+x)/10:Nat):Int)=q at *;generalize (((c+x)%10:Nat):Int)=r at *;have:(c:Int)=10*q+r-x:=by omega
    rw[this];grind) (ps:=[.i 0,.i ((N:Int)-1),.r (rI cols),.r (rI (List.replicate N 0))]) ⟨[],0,by simp,by omega,qlU,by simp,by
    rw[qNe (by omega)];simp[qeQ,qKe]⟩
 obtain⟨rfl,t,c,rfl,h3,h4,h5⟩:=h2;exact⟨t,c,h1,h3,h4,h5⟩
theorem qr0(m n:Nat)(hm:(tN m).length<=1000000)(hn:(tN n).length<=1000000):(q36 [.s (tN m),.s (tN n)]).run=some (0,[.s (tN (m*n))]):=by
 rw[qpg];obtain⟨cols,c1,c2,c3,c4⟩:=qAH (zY m) (zY n) hm hn;obtain⟨N,hN⟩:∃N,N=(tN m).length+(tN n).length:=⟨_,rfl⟩;have hp:=qjg m;rw[<-hN] at c1 c2;obtain⟨t,c,t1,t2,t3,t4⟩:=qAo c2 (by omega) c3;have ht:t≠[]:=by intro h;subst h;simp at t3;omega
 have hb:=qcJ t2 ht (by omega);have e0:qC .i64 (qw (tN m)) (qw (tN n))=(N:Int):=by unfold qw;rw[zb (by omega)];omega
 have e1:(0:Int)<=(N:Int)/\(N:Int)<=17592186044416:=by omega
 have e1':(0:Int)<=(N:Int)/\(N:Int)<=140737488355328:=by omega
 have e2:q4f (N:Int) [.i 0]=rI (List.replicate N 0):=by rw[qky];rfl
 have e3:qm (rI cols)=(N:Int):=by rw[qhy,c2]
 have e4:yF .i64 (N:Int) 1=(N:Int)-1:=vV (by omega);have hval:val t=m*n:=by
  have v1:=q7n (zY m);have v2:=q7n (zY n);have v3:=q7n t2;rw[t3] at v3;rw[c4,q0E,q0E] at t4;rw[q0E] at v1 v2;have v4:m*n<10^N:=by rw[hN,Nat.pow_add];exact Nat.mul_lt_mul'' v1 v2
  have t5:m*n=val t+c*10^N:=by
   have:((m*n:Nat):Int)=((val t+c*10^N:Nat):Int):=by simpa using t4
   omega
  clear t4 c4 v1 v2;generalize 10^N=P at *;rcases qMz c with h|h
  ·subst h;omega
  ·have:=qLT P h;omega
 rw[hval] at hb;simp only[STD,e0,e1,e1',and_self,e2,c1,e3,e4,t1,qny,hb]
theorem qlL(m n:Int)(hm:nl m<=1000000)(hn:nl n<=1000000):(vg [.s (tI m),.s (tI n)]).run=some (0,[.s (tI (m*n))]):=by
 rw[qrN];have hm':(tN m.natAbs).length<=1000000:=hm;have hn':(tN n.natAbs).length<=1000000:=hn;have hbr:=q7d m n;have hP:=qr0 m.natAbs n.natAbs hm' hn';have lm:=qqJ m.natAbs n.natAbs;have hS:=fun b=>kU (m.natAbs*n.natAbs) b (by omega);have tm:=qxc m;have tn:=qxc n;have e0:qC .i64 (qw (tI m)) (qw (tI n))=(((tI m).length+(tI n).length:Nat):Int):=by unfold qw;rw[zb (by omega)];omega
 have sg:(if (¬((m<0)=(n<0))) then -((m.natAbs*n.natAbs:Nat):Int) else ((m.natAbs*n.natAbs:Nat):Int))=m*n:=by
  by_cases h1:m<0<;>by_cases h2:n<0
  ·simp only[h1,h2,not_true_eq_false,if_false];rw[qMj,show (m.natAbs:Int)=-m by omega,show (n.natAbs:Int)=-n by omega];grind
  ·simp only[h1,h2];rw[if_pos (by simp),qMj,show (m.natAbs:Int)=-m by omega,show (n.natAbs:Int)=n by omega];grind
  ·simp only[h1,h2];rw[if_pos (by simp),qMj,show (m.natAbs:Int)=m by omega,show (n.natAbs:Int)=-n by omega];grind
  ·simp only[h1,h2,not_true_eq_false,if_false];rw[qMj,show (m.natAbs:Int)=m by omega,show (n.natAbs:Int)=n by omega]
 by_cases hb:(tN m.natAbs).length<=18/\(tN n.natAbs).length<=18
 ·rw[if_pos hb] at hbr;by_cases h18:(tI m).length+(tI n).length<=18
  ·have h18':(((tI m).length+(tI n).length:Nat):Int)<=18:=by omega
   have lmn:(tN (m*n).natAbs).length<=18:=by
    rw[qMG];have h3:∀q:Int,(tN q.natAbs).length<=(tI q).length:=fun q=>by unfold tI;split<;>simp
    have:=h3 m;have:=h3 n;omega
   have b1:(m*n).natAbs<1000000000000000000:=qMc (q6a lmn) (by decide);have e1:vd .i64 m n=m*n:=q35 (by omega);have e2:=kj (m*n) (by omega) (by omega);clear b1;simp only[STD,hbr,e0,h18',e1,e2]
  ·have h18':¬(((tI m).length+(tI n).length:Nat):Int)<=18:=by omega
   simp only[STD,hbr,e0,h18',wK,hP,jf,hS,decide_eq_decide];rw[<-sg];simp only[eq_iff_iff]
 ·rw[if_neg hb] at hbr;simp only[STD,hbr,wK,hP,jf,hS,decide_eq_decide];rw[<-sg];simp only[eq_iff_iff]
theorem qIT{x:Int}(h:0<=x/\x<=254):qC .u8 x 1=x+1:=by unfold qC IntKind.wrap;simp[IntKind.signed,IntKind.bits];omega
theorem qxp(a q:qLp)(i:Int){b x0:Nat}(hb:0<b)(hx:x0<10*b)(lb:(tN b).length<=1000000)(lx:(tN x0).length<=1000002) :(qh yD [.s a,.s (tN b),.s q,.s (tN x0),.i i,.i 48]).run=some (0,[.s a,.s (tN b),.s q,.s (tN (x0%b)),.i i,.i (48+((x0/b:Nat):Int))]):=by
 obtain⟨j,qs,h1,h2⟩:=jQ (S:=yD) (fun k ps=>∃x c:Nat,ps=[.s a,.s (tN b),.s q,.s (tN x),.i i,.i (48+(c:Int))]/\x+c*b=x0/\c+k=10/\c<=9)
  (fun j qs=>j=0/\qs=[.s a,.s (tN b),.s q,.s (tN (x0%b)),.i i,.i (48+((x0/b:Nat):Int))]) (n:=10) (by omega) (fun k ps hk ⟨x,c,hps,he,hck,hc⟩=>by
  subst hps;rw[qjX];have hxl:x<=x0:=by rw[<-he];exact Nat.le_add_right _ _
  have hP:=qan x b false (by have:=kI hxl;omega) (by omega);by_cases hlt:x<b
  ·right;refine⟨0,[.s a,.s (tN b),.s q,.s (tN x),.i i,.i (48+(c:Int))],?_,rfl,?_⟩
   ·simp only[STD,qi8,hlt,decide_true]
   ·have e1:x0/b=c:=by rw[<-he,Nat.add_mul_div_right _ _ hb,Nat.div_eq_of_lt hlt,qMe]
    have e2:x0%b=x:=by rw[<-he,Nat.add_mul_mod_self_right,Nat.mod_eq_of_lt hlt]
    rw[e1,e2]
  ·left;have hge:b<=x:=by omega
   have hP:=hP (fun _=>hge);simp only[qLQ,↓reduceIte] at hP;have hc9:c+1<10:=by apply Nat.lt_of_mul_lt_mul_right (a:=b);have:(c+1)*b=c*b+b:=Nat.succ_mul c b;omega
   refine⟨k-1,[.s a,.s (tN b),.s q,.s (tN (x-b)),.i i,.i (48+((c+1:Nat):Int))],by omega,?_,x-b,c+1,rfl,?_,by omega,by omega⟩
   ·simp only[STD,qi8,hlt,decide_false,hP,qIT (show (0:Int)<=48+(c:Int)/\48+(c:Int)<=254 by omega)];rw[show (48+(c:Int)+1)=48+((c+1:Nat):Int) by omega]
   ·have:(c+1)*b=c*b+b:=Nat.succ_mul c b;omega) (ps:=[.s a,.s (tN b),.s q,.s (tN x0),.i i,.i 48]) ⟨x0,0,by simp,by simp,by omega,by omega⟩
 obtain⟨rfl,rfl⟩:=h2;exact h1
theorem qGp{s:qLp}{i:Nat}(h:i<s.length):qcE s (i:Int) (((i+1:Nat):Int))=[s[i]]:=by unfold qcE;simp only[qLD];rw[List.take_succ_eq_append_getElem h,List.drop_append_of_le_length (by simp;omega)];rw[List.drop_of_length_le (by simp;omega)];rfl
theorem qpL{m n:Nat}(hn:0<n)(lm:(tN m).length<=1000000)(ln:(tN n).length<=1000000) :(q2S [.s (tN m),.s (tN n)]).run=some (0,[.s (tN (m/n)),.s (tN (m%n))]):=by
 rw[qp1];have hdm:=zY m;obtain⟨j,qs,h1,rfl,q,h2,h3,h4,h5⟩:=jQ (S:=q18) (fun k ps=>∃(i r:Nat) (q:qLp),ps=[.s (tN m),.s (tN n),.s q,.s (tN r),.i (i:Int)]/\i+k=(tN m).length/\q.length=i/\q61 q/\val q*n+r=val ((tN m).take i)/\r<n)
  (fun j qs=>j=0/\∃q:List UInt8,qs=[.s q,.s (tN (m%n))]/\q.length=(tN m).length/\q61 q/\val q=m/n) (n:=(tN m).length) (by omega) (fun k ps hk ⟨i,r,q,hps,hik,hql,hdq,hv,hr⟩=>by
  subst hps;rw[qlq];by_cases hi:i<(tN m).length
  ·left;have hc:=qiS hdm hi;have hw:qC .i64 (i:Int) 1=((i+1:Nat):Int):=by rw[zb (by omega)];omega
   have hlr:(tN r).length<=(tN n).length:=kI (by omega);have hd10:=qBg hc;have hB:=qcJ (s:=tN r++[(tN m)[i]]) (q8f.2 ⟨zY r,fun c hcc=>by simp at hcc;subst hcc;exact hc⟩) (by simp) (by simp;omega);rw[qmm,q0E] at hB;have lx:(tN (10*r+dv (tN m)[i])).length<=1000002:=by
    have h10:10*r+dv (tN m)[i]<=10*n:=by omega
    have e10:(tN (10*n)).length<=(tN 10).length+(tN n).length:=qqJ 10 n;have e11:(tN 10).length=2:=by decide
    have:=kI h10;omega
   have hI:=qxp (tN m) q (i:Int) hn (x0:=10*r+dv (tN m)[i]) (by omega) ln lx;have hq10:(10*r+dv (tN m)[i])/n<10:=by rw[Nat.div_lt_iff_lt_mul hn];omega
   have hd1:(i:Int)<qw (tN m):=by unfold qw;omega
   have hd2:((i+1:Nat):Int)<=qw (tN m):=by unfold qw;omega
   have hrs:qnA [[.i (48+(((10*r+dv (tN m)[i])/n:Nat):Int))]]=[dch ((10*r+dv (tN m)[i])/n)]:=by simp only[qnA,qMn,List.map_nil,qNo,U.toI,dch];congr 2
   have hl1:qw (tN r)+qw [(tN m)[i]]<=140737488355328:=by unfold qw;simp;omega
   have hl2:qw q+qw [dch ((10*r+dv (tN m)[i])/n)]<=140737488355328:=by unfold qw;simp;omega
   refine⟨k-1,[.s (tN m),.s (tN n),.s (q++[dch ((10*r+dv (tN m)[i])/n)]),.s (tN ((10*r+dv (tN m)[i])%n)),.i ((i+1:Nat):Int)],by omega,?_,i+1,_,_,rfl,by omega,by simp[hql],?_,?_,qMP _ hn⟩
   ·simp only[STD,hw,hd1,hd2,qGp hi,hl1,qeI,hB,hI,hrs,hl2,show (0:Int)<=(i:Int) by omega,show (0:Int)<=((i+1:Nat):Int) by omega,show (i:Int)<=((i+1:Nat):Int) by omega,and_self]
   ·exact q8f.2 ⟨hdq,qvc hq10⟩
   ·rw[qmm,qoo hq10,q9Z hi,<-hv];have hdm:=qNx (10*r+dv (tN m)[i]) n;generalize (10*r+dv (tN m)[i])/n=c at *;generalize (10*r+dv (tN m)[i])%n=e at *;have e1:(10*val q+c)*n=10*(val q*n)+n*c:=by rw[qLH,Nat.mul_assoc,Nat.mul_comm c n]
    omega
  ·right;have hie:i=(tN m).length:=by omega
   have hd1:¬((i:Int)<qw (tN m)):=by unfold qw;omega
   rw[hie,qML,q0E] at hv;have e1:m/n=val q:=by rw[<-hv,Nat.add_comm,Nat.add_mul_div_right _ _ hn,Nat.div_eq_of_lt hr,qMe]
   have e2:m%n=r:=by rw[<-hv,Nat.add_comm,Nat.add_mul_mod_self_right,Nat.mod_eq_of_lt hr]
   refine⟨0,[.s q,.s (tN r)],?_,rfl,q,by rw[e2],by omega,hdq,e1.symm⟩;simp only[STD,hd1]) (ps:=[.s (tN m),.s (tN n),.s [],.s [48],.i 0]) ⟨0,0,[],rfl,by omega,rfl,qlU,by simp[qeQ],hn⟩
 subst h2;have hB:=qcJ (s:=q) h4 (by intro h;subst h;have:=qjg m;simp at h3;omega) (by omega);rw[h5] at hB;simp only[STD,h1,hB]
def fq(m n:Int):Int:=if 0<n then m/n else (-m)/(-n)
theorem qnS{m n q:Int}(h:(0<n/\q*n<=m/\m<q*n+n)\/(n<0/\q*n+n<m/\m<=q*n)):fq m n=q:=by
 unfold fq;rcases h with⟨h0,h1,h2⟩|⟨h0,h1,h2⟩
 ·rw[if_pos h0];exact((Int.ediv_emod_unique (r:=m-q*n) h0).2 ⟨by rw[qMB];omega,by omega,by omega⟩).1
 ·rw[if_neg (by omega)];have e:-n*q=-(q*n):=by rw[Int.neg_mul,qMB]
  exact((Int.ediv_emod_unique (r:=q*n-m) (show 0 < -n by omega)).2 ⟨by omega,by omega,by omega⟩).1
theorem qpm{n q:Int}(h:n≠0):fq (q*n) n=q:=by
 apply qnS;rcases Int.lt_or_lt_of_ne h with h|h
 ·exact .inr ⟨h,by omega,by omega⟩
 ·exact .inl ⟨h,by omega,by omega⟩
theorem qKU(m:Int){n:Int}(_:n≠0):(fq m n).natAbs<=m.natAbs+1:=by
 unfold fq;split
 ·have:=qNr m n;omega
 ·have:=qNr (-m) (-n);omega
theorem qns(m:Int){n:Int}(hn:n≠0):n*m.tdiv n+qb4 m n=m/\(qb4 m n).natAbs<n.natAbs/\(0<=m->0<=qb4 m n)/\(m<=0->qb4 m n<=0):=by
 unfold qb4;refine⟨Int.mul_tdiv_add_tmod m n,?_,fun h=>Int.tmod_nonneg n h,fun h=>?_⟩
 ·rw[Int.natAbs_tmod];exact qMP _ (by omega)
 ·have:=Int.tmod_nonneg n (show 0<=-m by omega);rw[Int.neg_tmod] at this;omega
theorem qG0{m:Int}(h:(tN m.natAbs).length<=18):m.natAbs<1000000000000000000:=qMc (q6a h) (by decide)
theorem qiQ{n t:Int}(hn:n≠0)(h:-9223372036854775808<=t/\t<=9223372036854775807):qcK .i64 (n*t) n=t:=by unfold qcK;rw[Int.mul_tdiv_cancel_left _ hn];unfold IntKind.wrap;simp[IntKind.signed,IntKind.bits];omega
theorem qHc(m n:Int):(m.tdiv n).natAbs<=m.natAbs:=by rw[Int.natAbs_tdiv];exact qNi _ _
theorem qFr{m n:Int}(hn:n≠0) :(qb4 m n≠0/\¬((qb4 m n<0)=(n<0))->fq m n=m.tdiv n-1/\m-fq m n*n=qb4 m n+n)/\(¬(qb4 m n≠0/\¬((qb4 m n<0)=(n<0)))->fq m n=m.tdiv n/\m-fq m n*n=qb4 m n):=by
 obtain⟨h1,h2,h3,h4⟩:=qns m hn;generalize m.tdiv n=t at *;generalize qb4 m n=r at *;have e:n*t=t*n:=qMB _ _;have e2:(t-1)*n=t*n-n:=by rw[Int.sub_mul,qM3]
 constructor
 ·intro⟨c1,c2⟩;have c3:¬(r<0↔n<0):=fun h=>c2 (propext h);have:fq m n=t-1:=by
   apply qnS;rw[e2];rcases Int.lt_or_lt_of_ne hn with h|h
   ·have:¬r<0:=fun q=>c3 ⟨fun _=>h,fun _=>q⟩;exact .inr ⟨h,by omega,by omega⟩
   ·have:r<0:=by
     rcases Decidable.em (r<0) with q|q
     ·exact q
     ·exact absurd ⟨fun x=>by omega,fun x=>by omega⟩ c3
    exact .inl ⟨h,by omega,by omega⟩
  rw[this,e2];exact⟨rfl,by omega⟩
 ·intro c;have c':r=0\/(r<0↔n<0):=by
   rcases Decidable.em (r=0) with q|q
   ·exact .inl q
   ·right;rcases Decidable.em (r<0↔n<0) with q2|q2
    ·exact q2
    ·exact absurd ⟨q,fun h=>q2 (by rw[h])⟩ c
  have:fq m n=t:=by
   apply qnS;rcases Int.lt_or_lt_of_ne hn with h|h
   ·rcases c' with q|q
    ·exact .inr ⟨h,by omega,by omega⟩
    ·have:=q.2 h;exact .inr ⟨h,by omega,by omega⟩
   ·rcases c' with q|q
    ·exact .inl ⟨h,by omega,by omega⟩
    ·have:¬r<0:=fun x=>by have:=q.1 x;omega
     exact .inl ⟨h,by omega,by omega⟩
  rw[this];exact⟨rfl,by omega⟩
theorem qK3{m n:Int}(hn:n≠0) :(m.natAbs%n.natAbs≠0/\¬((m<0)=(n<0))->fq m n=-((m.natAbs/n.natAbs:Nat):Int)-1) /\(¬(m.natAbs%n.natAbs≠0/\¬((m<0)=(n<0)))->fq m n=if ¬((m<0)=(n<0)) then -((m.natAbs/n.natAbs:Nat):Int) else ((m.natAbs/n.natAbs:Nat):Int)):=by
 have hd:=qNx m.natAbs n.natAbs;have hl:=qMP m.natAbs (show 0<n.natAbs by omega);generalize m.natAbs/n.natAbs=q at *;generalize m.natAbs%n.natAbs=r at *;have hq:((n.natAbs*q:Nat):Int)=(n.natAbs:Int)*(q:Int):=by simp
 have e1:n<0->(n.natAbs:Int)*(q:Int)=-((q:Int)*n):=fun h=>by rw[show (n.natAbs:Int)=-n by omega,Int.neg_mul,qMB]
 have e2:0<n->(n.natAbs:Int)*(q:Int)=(q:Int)*n:=fun h=>by rw[show (n.natAbs:Int)=n by omega,qMB]
 have e3:(-(q:Int)-1)*n=-((q:Int)*n)-n:=by rw[Int.sub_mul,Int.neg_mul,qM3]
 have e4:(-(q:Int))*n=-((q:Int)*n):=Int.neg_mul _ _;constructor
 ·intro⟨c1,c2⟩;have c3:¬(m<0↔n<0):=fun h=>c2 (propext h);apply qnS;rw[e3];rcases Int.lt_or_lt_of_ne hn with h|h
  ·have:=e1 h;have:¬m<0:=fun q=>c3 ⟨fun _=>h,fun _=>q⟩;exact .inr ⟨h,by omega,by omega⟩
  ·have:=e2 h;have:m<0:=by
    rcases Decidable.em (m<0) with q|q
    ·exact q
    ·exact absurd ⟨fun x=>by omega,fun x=>by omega⟩ c3
   exact .inl ⟨h,by omega,by omega⟩
 ·intro c;by_cases c2:(m<0)=(n<0)
  ·rw[if_neg (by simpa using c2)];have c3:m<0↔n<0:=by rw[c2]
   apply qnS;rcases Int.lt_or_lt_of_ne hn with h|h
   ·have:=e1 h;have:=c3.2 h;exact .inr ⟨h,by omega,by omega⟩
   ·have:=e2 h;have:¬m<0:=fun x=>by have:=c3.1 x;omega
    exact .inl ⟨h,by omega,by omega⟩
  ·rw[if_pos c2];have hr:r=0:=by
    rcases qMz r with h|h
    ·exact h
    ·exact absurd ⟨by omega,c2⟩ c
   have c3:¬(m<0↔n<0):=fun h=>c2 (propext h);apply qnS;rw[e4];rcases Int.lt_or_lt_of_ne hn with h|h
   ·have:=e1 h;have:¬m<0:=fun q=>c3 ⟨fun _=>h,fun _=>q⟩;exact .inr ⟨h,by omega,by omega⟩
   ·have:=e2 h;have:m<=0:=by
     rcases Decidable.em (m<0) with q|q
     ·omega
     ·exact absurd ⟨fun x=>by omega,fun x=>by omega⟩ c3
    exact .inl ⟨h,by omega,by omega⟩
theorem qEb:tI 1=[49]:=rfl
theorem q5q(n:Nat):(tN n=[48])=(n=0):=by rw[<-qy4];exact propext ⟨fun h=>qtb h,fun h=>by rw[h]⟩
theorem qFF(m:Int){n:Int}(hn:n≠0):nl (fq m n)<=nl m+2:=by have h:=qKU m hn;have h2:=kI h;have h3:=qxY m.natAbs 1;have h4:(tN 1).length=1:=rfl;have:=qjg m.natAbs;unfold nl;omega
theorem q4i(m n:Int)(hn0:n≠0)(hm:nl m<=400000)(hn:nl n<=400000):(vZ [.s (tI m),.s (tI n)]).run=some (0,[.s (tI (fq m n)),.s (tI (m-fq m n*n))]):=by
 rw[qri];have hbr:=q7d m n;by_cases hb:(tN m.natAbs).length<=18/\(tN n.natAbs).length<=18
 ·rw[if_pos hb] at hbr;have b1:=qG0 hb.1;have b2:=qG0 hb.2;obtain⟨h1,h2,h3,h4⟩:=qns m hn0;obtain⟨g1,g2⟩:=qFr (m:=m) hn0;have ht:=qHc m n;by_cases c0:qb4 m n=0
  ·obtain⟨e1,e2⟩:=g2 (fun h=>h.1 c0);rw[e2,e1];have w1:yF .i64 m (qb4 m n)=n*m.tdiv n:=by rw[vV (by omega)];omega
   have w2:=qiQ (t:=m.tdiv n) hn0 (by omega);have o1:=kj (m.tdiv n) (by omega) (by omega);have o2:=kj (qb4 m n) (by omega) (by omega);simp only[STD,hbr,hn0,c0] at w1 o2 ⊢;simp only[STD,w1,w2,o1,o2]
  ·by_cases c1:(qb4 m n<0)=(n<0)
   ·obtain⟨e1,e2⟩:=g2 (fun h=>h.2 c1);rw[e2,e1];have w1:yF .i64 m (qb4 m n)=n*m.tdiv n:=by rw[vV (by omega)];omega
    have w2:=qiQ (t:=m.tdiv n) hn0 (by omega);have o1:=kj (m.tdiv n) (by omega) (by omega);have o2:=kj (qb4 m n) (by omega) (by omega);have hbq:(ilt (qb4 m n) 0=ilt n 0)=True:=by simp only[ilt,decide_eq_decide,eq_iff_iff,iff_true];rw[c1]
    simp only[STD,hbr,hn0,c0,hbq,w1,w2,o1,o2]
   ·obtain⟨e1,e2⟩:=g1 ⟨c0,c1⟩;rw[e2,e1];have w0:qC .i64 (qb4 m n) n=qb4 m n+n:=zb (by omega);have e3:n*(m.tdiv n-1)=n*m.tdiv n-n:=by rw[Int.mul_sub,Int.mul_one]
    have w1:yF .i64 m (qb4 m n+n)=n*(m.tdiv n-1):=by rw[vV (by omega)];omega
    have w2:=qiQ (t:=m.tdiv n-1) hn0 (by omega);have o1:=kj (m.tdiv n-1) (by omega) (by omega);have o2:=kj (qb4 m n+n) (by omega) (by omega);have hbq:(ilt (qb4 m n) 0=ilt n 0)=False:=by simp only[ilt,decide_eq_decide,eq_iff_iff,iff_false];exact fun h=>c1 (propext h)
    simp only[STD,hbr,hn0,c0,hbq,w0,w1,w2,o1,o2]
 ·rw[if_neg hb] at hbr;have hm':(tN m.natAbs).length<=400000:=hm;have hn':(tN n.natAbs).length<=400000:=hn;have hD:=qpL (m:=m.natAbs) (n:=n.natAbs) (by omega) (by omega) (by omega);have lq:(tN (m.natAbs/n.natAbs)).length<=(tN m.natAbs).length:=kI (qNi _ _);have hS:=fun b=>kU (m.natAbs/n.natAbs) b (by omega);have hbq:(decide (m<0)=decide (n<0))=((m<0)=(n<0)):=by simp only[decide_eq_decide,eq_iff_iff]
  have lf:=qFF m hn0;have hT:=qlL (fq m n) n (by omega) (by omega);have lt:=q3a (fq m n) n;have hM:=qfx m (fq m n*n) (by omega) (by omega);obtain⟨g1,g2⟩:=qK3 (m:=m) hn0;by_cases c1:(m<0)=(n<0)
  ·have e1:=g2 (fun h=>h.2 c1);rw[if_neg (by simpa using c1)] at e1;have hS':=hS false;simp only[qLQ,if_false] at hS';rw[<-e1] at hS';have hnb:(!Go.Eng.beq (decide (m<0)) (decide (n<0)))=false:=by simp only[Go.Eng.beq,Bool.not_eq_false',beq_iff_eq];rw[hbq];exact c1
   by_cases c0:m.natAbs%n.natAbs=0
   ·simp only[STD,hbr,wK,hD,jf,hnb,hS',zj,q5q,c0,hT,hM]
   ·simp only[STD,hbr,wK,hD,jf,hnb,hS',zj,q5q,c0,hT,hM]
  ·have hnb:(!Go.Eng.beq (decide (m<0)) (decide (n<0)))=true:=by
    have:¬(decide (m<0)=decide (n<0)):=by rw[hbq];exact c1
    simp only[Go.Eng.beq,qN9,beq_eq_false_iff_ne];exact this
   have hS':=hS true;simp only[if_true] at hS';by_cases c0:m.natAbs%n.natAbs=0
   ·have e1:=g2 (fun h=>h.1 c0);rw[if_pos c1] at e1;rw[<-e1] at hS';simp only[STD,hbr,wK,hD,jf,hnb,hS',zj,q5q,c0,hT,hM]
   ·have e1:=g1 ⟨c0,c1⟩;have hMi:=qfx (-((m.natAbs/n.natAbs:Nat):Int)) 1 (by rw[qrf];show (tN (m.natAbs/n.natAbs)).length<=_;omega) (by decide);rw[qEb,<-e1] at hMi;simp only[STD,hbr,wK,hD,jf,hnb,hS',zj,q5q,c0,hMi,hT,hM]
theorem qJ3(x:Nat){y:Nat}(h:0<y):fq (x:Int) (y:Int)=((x/y:Nat):Int)/\(x:Int)-fq (x:Int) (y:Int)*(y:Int)=((x%y:Nat):Int):=by
 have e:fq (x:Int) (y:Int)=((x/y:Nat):Int):=by unfold fq;rw[if_pos (by omega)];rfl
 refine⟨e,?_⟩;rw[e];have:=qNx x y;have h2:((y*(x/y):Nat):Int)=((x/y:Nat):Int)*(y:Int):=by rw[Nat.mul_comm];simp
 omega
theorem qGh(a b:Nat)(hb:b<9223372036854775808):(qh ur [.i (a:Int),.i (b:Int)]).run=some (0,[.i ((Nat.gcd a b:Nat):Int)]):=by
 obtain⟨j,qs,h1,rfl,rfl⟩:=jQ (S:=ur) (fun k ps=>∃x y:Nat,ps=[.i (x:Int),.i (y:Int)]/\y=k/\Nat.gcd x y=Nat.gcd a b)
  (fun j qs=>j=0/\qs=[.i ((Nat.gcd a b:Nat):Int)]) (n:=b) hb (fun k ps hk ⟨x,y,hps,hy,hg⟩=>by
  subst hps;rw[qmi];by_cases h0:y=0
  ·right;refine⟨0,[.i (x:Int)],?_,rfl,?_⟩
   ·simp only[STD,h0];simp[]
   ·rw[<-hg,h0,Nat.gcd_zero_right]
  ·left;refine⟨x%y,[.i (y:Int),.i ((x%y:Nat):Int)],by rw[<-hy];exact qMP _ (by omega),?_,y,x%y,rfl,rfl,?_⟩
   ·simp only[STD,show (0:Int)<(y:Int) by omega,show ¬((y:Int)=0) by omega,qpu]
   ·rw[<-hg,qN2 y,<-Nat.gcd_rec,qN2]) (ps:=[.i (a:Int),.i (b:Int)]) ⟨a,b,rfl,rfl,rfl⟩
 exact h1
def eM(a b:Nat):Nat:=if b=0 then 0 else Nat.log2 (a*b)+1+if a<b then 1 else 0
theorem qEg{m n:Nat}(h:m<=n):Nat.log2 m<=Nat.log2 n:=by
 by_cases hm:m=0
 ·subst hm;simp
 ·rcases qLy (Nat.log2 n) (Nat.log2 m) with h1|h1
  ·have:=(Nat.log2_lt (show n≠0 by omega)).1 h1;have h2:=Nat.log2_self_le hm;omega
  ·exact h1
theorem qEi{a b:Nat}(hb:b≠0):eM b (a%b)<eM a b:=by
 have hlt:=qMP a (show 0<b by omega);unfold eM;rw[if_neg hb];by_cases hr:a%b=0
 ·rw[if_pos hr];omega
 ·rw[if_neg hr,if_neg (show ¬b<a%b by omega)];by_cases hab:a<b
  ·rw[if_pos hab,Nat.mod_eq_of_lt hab,Nat.mul_comm b a];omega
  ·rw[if_neg hab];have hd:=qNx a b;have hq:1<=a/b:=(Nat.le_div_iff_mul_le (by omega)).2 (by omega);have h1:b*1<=b*(a/b):=Nat.mul_le_mul_left _ hq;have h2:2*(b*(a%b))<=a*b:=by
    have:2*(a%b)<=a:=by omega
    have:=qLT b this;rw[Nat.mul_assoc,Nat.mul_comm (a%b) b] at this;exact this
   have h3:=qEg h2;have h4:Nat.log2 (2*(b*(a%b)))=Nat.log2 (b*(a%b))+1:=by apply Nat.log2_two_mul;exact Nat.mul_ne_zero hb hr
   omega
theorem qCO{x k j:Nat}(h:(tN x).length<=k)(hj:4*k=j):x<2^j:=by
 have h3:x<10^k:=q6a h;have h4:(10:Nat)^k<=16^k:=Nat.pow_le_pow_left (by omega) _;have h5:(16:Nat)^k=2^j:=by rw[show (16:Nat)=2^4 from rfl,<-Nat.pow_mul,hj]
 rw[h5] at h4;exact qMc h3 h4
theorem qzg{a b:Nat}(ha:(tN a).length<=400000)(hb:(tN b).length<=400000):eM a b<9223372036854775808:=by
 unfold eM;have h1:=qqJ a b;by_cases h0:a*b=0
 ·rw[h0];simp;split<;>(try split)<;>omega
 ·obtain⟨j,hj⟩:∃j,j=3200000:=⟨_,rfl⟩;have h2:a*b<2^j:=qCO (k:=800000) (by omega) (by omega);have:=(Nat.log2_lt h0).2 h2;split<;>(try split)<;>omega
theorem qjI(m n:Int)(hm:nl m<=400000)(hn:nl n<=400000):(q09 [.s (tI m),.s (tI n)]).run=some (0,[.s (tN (Nat.gcd m.natAbs n.natAbs))]):=by
 rw[qqb];have hm':(tN m.natAbs).length<=400000:=hm;have hn':(tN n.natAbs).length<=400000:=hn;have hS:=fun x (h:(tN x).length<=400000)=>kU x false (by omega);simp only[qLQ,if_false,q0W] at hS;obtain⟨j,qs,h1,h2,rfl⟩:=jQ (S:=q1V) (fun k ps=>∃x y:Nat,ps=[.s (tN x),.s (tN y)]/\eM x y=k/\Nat.gcd x y=Nat.gcd m.natAbs n.natAbs/\(tN x).length<=400000/\(tN y).length<=400000)
  (fun j qs=>(j=0\/j=1)/\qs=[.s (tN (Nat.gcd m.natAbs n.natAbs))]) (n:=eM m.natAbs n.natAbs) (qzg hm' hn') (fun k ps hk ⟨x,y,hps,hy,hg,lx,ly⟩=>by
  subst hps;rw[qnl];by_cases h0:y=0
  ·right;refine⟨0,[.s (tN x)],?_,.inl rfl,?_⟩
   ·simp only[STD,zj,q5q,h0]
   ·rw[<-hg,h0,Nat.gcd_zero_right]
  ·have hbr:=q7d (x:Int) (y:Int);rw[q0W,q0W] at hbr;simp only[Int.natAbs_natCast] at hbr;by_cases hb:(tN x).length<=18/\(tN y).length<=18
   ·right;rw[if_pos hb] at hbr;have b1:=qG0 (m:=(x:Int)) hb.1;have b2:=qG0 (m:=(y:Int)) hb.2;simp only[Int.natAbs_natCast] at b1 b2;have hE:=qGh x y (by omega);have hgl:Nat.gcd x y<=y:=Nat.gcd_le_right _ (by omega);have hO:=kj ((Nat.gcd x y:Nat):Int) (by omega) (by omega);rw[q0W] at hO;refine⟨1,[.s (tN (Nat.gcd x y))],?_,.inr rfl,by rw[hg]⟩;simp only[STD,zj,q5q,h0,hbr,hE,hO]
   ·left;rw[if_neg hb] at hbr;have hP:=q4i (x:Int) (y:Int) (by omega) (by exact lx) (by exact ly);rw[q0W,q0W,(qJ3 x (show 0<y by omega)).2,q0W] at hP;refine⟨eM y (x%y),[.s (tN y),.s (tN (x%y))],by rw[<-hy];exact qEi h0,?_,y,x%y,rfl,rfl,?_,ly,qLu (kI (Nat.le_of_lt (qMP _ (by omega)))) ly⟩
    ·simp only[STD,zj,q5q,h0,hbr,hP]
    ·rw[<-hg,qN2 y,<-Nat.gcd_rec,qN2]) (ps:=[.s (tN m.natAbs),.s (tN n.natAbs)]) ⟨_,_,rfl,rfl,rfl,hm',hn'⟩
 rcases h2 with rfl|rfl
 ·simp only[STD,wK,hS _ hm',hS _ hn',h1,qT h1,ite_self]
 ·simp only[STD,wK,hS _ hm',hS _ hn',h1,qT h1,ite_self]
def mag(s:qLp):List UInt8:=if s.getD 0 0=45 then s.drop 1 else s
theorem qwl(m:Int):mag (tI m)=tN m.natAbs:=by
 unfold mag;by_cases h:m<0
 ·rw[qcu h];simp
 ·rw[qk0 h];obtain⟨c,t,e,h1,h2⟩:=qis (zY m.natAbs) (qrE _);rw[e];simp only[qNo];rw[if_neg];intro hc;subst hc;revert h1;decide
theorem qwe(s:qLp):(∃m:Int,s=tI m)↔mag s≠[]/\q61 (mag s)/\((mag s).getD 0 0=48->s.length=1):=by
 constructor
 ·rintro ⟨m,rfl⟩;rw[qwl];refine⟨qrE _,zY _,fun h=>?_⟩;rcases qCi m.natAbs with h1|h1
  ·have h2:=quG m.natAbs;have hv:m.natAbs=0:=by obtain⟨c,e⟩:∃c,tN m.natAbs=[c]:=List.length_eq_one_iff.1 h1;rw[e] at h;simp at h;have:=q0E m.natAbs;rw[e,h] at this;simpa[val,dv] using this.symm
   have hm0:m=0:=by omega
   rw[hm0];rfl
  ·exact absurd h h1
 ·rintro ⟨h1,h2,h3⟩;by_cases h45:s.getD 0 0=45
  ·have hm:mag s=s.drop 1:=by unfold mag;rw[if_pos h45]
   obtain⟨c,t,rfl⟩:∃c t,s=c::t:=by
    cases s with
    | nil=>simp at h45
    | cons c t=>exact⟨c,t,rfl⟩
   simp at h45;subst h45;rw[hm] at h1 h2 h3;simp only[List.drop_succ_cons,List.drop_zero] at h1 h2 h3;have h4:t.getD 0 0≠48:=fun h=>by have:=h3 h;simp at this;exact h1 this
   have hv:=qz1 h2 h1 h4;have hp:0<10^(t.length-1):=Nat.pow_pos (by omega);refine⟨-((val t:Nat):Int),?_⟩;rw[qcu (by omega)];simp only[Int.natAbs_neg,Int.natAbs_natCast];rw[<-qqc h2 h1 (.inr h4)]
  ·have hm:mag s=s:=by unfold mag;rw[if_neg h45]
   rw[hm] at h1 h2 h3;refine⟨((val s:Nat):Int),?_⟩;rw[q0W];refine qqc h2 h1 ?_;by_cases h4:s.getD 0 0=48
   ·exact .inl (h3 h4)
   ·exact .inr h4
open Classical in
noncomputable def qxh(s:qLp):Int:=if ∃m:Int,s=tI m then (if (mag s).length<=1024 then 0 else 11) else 3
theorem qJe(s:qLp)(hl:s.length<=9223372036854775807):(qx [.s s]).run=some (0,[.s (mag s)]):=by
 rw[qlK];cases s with
 | nil=>simp only[STD,zj];rfl
 | cons c t=>
  have h1:(0:Int)<qw (c::t):=by unfold qw;simp only[qM5];omega
  have h2:(1:Int)<=qw (c::t):=by omega
  have hs:sat (c::t) 0=(c.toNat:Int):=by simp[sat]
  have hc:((c.toNat:Int)=45)=(c=45):=by simp only[eq_iff_iff];exact⟨fun h=>qN6.1 (by show c.toNat=45;omega),fun h=>by rw[h];rfl⟩
  simp only[STD,zj,show ¬(c::t=[]) by simp,h1,h2,hs,hc,qLG,and_self,show (0:Int)<=qw (c::t) by omega,show (0:Int)<=1 by omega];unfold mag;simp only[qNo];by_cases h:c=45
  ·rw[if_pos h,if_pos h];simp[qcE,qw]
  ·rw[if_neg h,if_neg h]
theorem qlr(s:qLp)(hl:s.length<=1000000000):(q3F [.s s]).run=some (0,[.i (qxh s)]):=by
 rw[qsC];have hsz:=qJe s (by omega);have hml:(mag s).length<=s.length:=by unfold mag;split<;>simp
 obtain⟨j,qs,h1,h2⟩:=jQ (S:=q3c) (fun k ps=>∃i:Nat,ps=[.s (mag s),.i (i:Int)]/\i+k=(mag s).length/\q61 ((mag s).take i))
  (fun j qs=>(q61 (mag s)/\j=0/\qs=[.s (mag s)])\/(¬q61 (mag s)/\j=1/\qs=[.i 3])) (n:=(mag s).length) (by omega) (fun k ps hk ⟨i,hps,hi,hd⟩=>by
  subst hps;rw[qoK];by_cases hlt:i<(mag s).length
  ·have a1:(i:Int)<qw (mag s):=by unfold qw;omega
   have a2:(0:Int)<=(i:Int):=by omega
   have hs:=qjU hlt;have hw:qC .i64 (i:Int) 1=((i+1:Nat):Int):=by rw[zb (by omega)];omega
   by_cases b1:((mag s)[i].toNat:Int)<48
   ·right;refine⟨1,[.i 3],?_,.inr ⟨fun h=>?_,rfl,rfl⟩⟩
    ·simp only[STD,a1,a2,hs,b1,and_self]
    ·have:=(qiS h hlt).1;omega
   ·by_cases b2:(57:Int)<((mag s)[i].toNat:Int)
    ·right;refine⟨1,[.i 3],?_,.inr ⟨fun h=>?_,rfl,rfl⟩⟩
     ·simp only[STD,a1,a2,hs,b1,b2,and_self]
     ·have:=(qiS h hlt).2;omega
    ·left;refine⟨k-1,[.s (mag s),.i ((i+1:Nat):Int)],by omega,?_,i+1,rfl,by omega,?_⟩
     ·simp only[STD,a1,a2,hs,b1,b2,and_self,hw]
     ·rw[List.take_succ_eq_append_getElem hlt];exact q8f.2 ⟨hd,fun c hc=>by simp at hc;subst hc;omega⟩
  ·right;have a1:¬((i:Int)<qw (mag s)):=by unfold qw;omega
   refine⟨0,[.s (mag s)],?_,.inl ⟨?_,rfl,rfl⟩⟩
   ·simp only[STD,a1]
   ·rwa [qNH (by omega)] at hd) (ps:=[.s (mag s),.i 0]) ⟨0,rfl,by omega,by simpa using qlU⟩
 have hcan:=qwe s;unfold qxh;by_cases hne:mag s=[]
 ·rw[if_neg (fun h=>(hcan.1 h).1 hne)];simp only[STD,hsz,zj,hne]
 ·have hp:0<(mag s).length:=qMQ.2 hne;have a1:(0:Int)<qw (mag s):=by unfold qw;omega
  have hs:sat (mag s) 0=((mag s)[0].toNat:Int):=qjU (i:=0) hp;have h48:((mag s)[0].toNat:Int)=48↔(mag s).getD 0 0=48:=by
   have:(mag s).getD 0 0=(mag s)[0]:=by simp[hp]
   rw[this];exact⟨fun h=>qN6.1 (by show (mag s)[0].toNat=48;omega),fun h=>by rw[h];rfl⟩
  have hl1:(1<qw s)=(1<s.length):=by unfold qw;simp only[eq_iff_iff];omega
  have hl2:(1<qw (mag s))=(1<(mag s).length):=by unfold qw;simp only[eq_iff_iff];omega
  have hl3:(1024<qw (mag s))=¬((mag s).length<=1024):=by unfold qw;simp only[eq_iff_iff];omega
  by_cases hz:((mag s)[0].toNat:Int)=48
  ·by_cases hs1:1<s.length
   ·rw[if_neg (fun h=>by have:=(hcan.1 h).2.2 (h48.1 hz);omega)];by_cases hs2:1<(mag s).length
    ·simp only[STD,hsz,zj,hne,a1,hs,hz,hl1,hl2,hs1,hs2,qLG,and_self]
    ·simp only[STD,hsz,zj,hne,a1,hs,hz,hl1,hl2,hs1,hs2,qLG,and_self]
   ·have hs2:¬1<(mag s).length:=by omega
    rcases h2 with⟨hd,rfl,rfl⟩|⟨hd,rfl,rfl⟩
    ·rw[if_pos (hcan.2 ⟨hne,hd,fun _=>by omega⟩)];simp only[STD,hsz,zj,hne,a1,hs,hz,hl1,hl2,hl3,hs1,hs2,qLG,and_self,h1,qT h1];split<;>simp_all
    ·rw[if_neg (fun h=>hd (hcan.1 h).2.1)];simp only[STD,hsz,zj,hne,a1,hs,hz,hl1,hl2,hs1,hs2,qLG,and_self,h1,qT h1,show ¬(1=0) by omega]
  ·rcases h2 with⟨hd,rfl,rfl⟩|⟨hd,rfl,rfl⟩
   ·rw[if_pos (hcan.2 ⟨hne,hd,fun h=>absurd (h48.2 h) hz⟩)];simp only[STD,hsz,zj,hne,a1,hs,hz,hl1,hl2,hl3,qLG,and_self,h1,qT h1];split<;>simp_all
   ·rw[if_neg (fun h=>hd (hcan.1 h).2.1)];simp only[STD,hsz,zj,hne,a1,hs,hz,hl1,hl2,qLG,and_self,h1,qT h1,show ¬(1=0) by omega]
end Go.Eng

namespace Go.Eng
variable {q:Rat}
def tQ(q:Rat):List UInt8:=if q.den=1 then tI q.num else tI q.num++47::tN q.den
def dl(n:Nat):Nat:=(tN n).length
def qn(q:Rat):Nat:=nl q.num
def qd(q:Rat):Nat:=dl q.den
theorem qD5 {s:qLp}(h:q61 s):∀c,c∈s->c≠47:=fun c hc e=>by have:=h c hc;rw[e] at this;revert this;decide
theorem qs9 (m:Int):∀c,c∈tI m->c≠47:=by
 intro c hc;unfold tI at hc;split at hc
 ·rcases qLx.1 hc with rfl|hc
  ·decide
  ·exact qD5 (zY _) c hc
 ·exact qD5 (zY _) c hc
theorem qzz:∀{s s' t t':qLp},(∀c,c∈s->c≠47)->(∀c,c∈s'->c≠47)->s++47::t=s'++47::t'->s=s'/\t=t'
 | [],[],t,t',_,_,h=>⟨rfl,by simpa using h⟩
 | [],c::s',t,t',_,h2,h=>by
  simp only[qMD,qMr,qMX] at h;exact absurd h.1.symm (h2 c qLE)
 | c::s,[],t,t',h1,_,h=>by
  simp only[qMD,qMr,qMX] at h;exact absurd h.1 (h1 c qLE)
 | c::s,c'::s',t,t',h1,h2,h=>by
  simp only[qMr,qMX] at h;obtain⟨e1,e2⟩:=qzz (fun c hc=>h1 c (qLO _ hc)) (fun c hc=>h2 c (qLO _ hc)) h.2;exact⟨by rw[h.1,e1],e2⟩
theorem qbw (h:q.den=1):tQ q=tI q.num:=by unfold tQ;rw[if_pos h]
theorem q6b (h:q.den≠1):tQ q=tI q.num++47::tN q.den:=by unfold tQ;rw[if_neg h]
theorem qK4 {a b:Rat}(h:tQ a=tQ b):a=b:=by
 by_cases ha:a.den=1<;>by_cases hb:b.den=1
 ·rw[qbw ha,qbw hb] at h;exact Rat.ext (qwf h) (ha.trans hb.symm)
 ·rw[qbw ha,q6b hb] at h;exact absurd rfl (qs9 a.num 47 (by rw[h];simp))
 ·rw[q6b ha,qbw hb] at h;exact absurd rfl (qs9 b.num 47 (by rw[<-h];simp))
 ·rw[q6b ha,q6b hb] at h;obtain⟨e1,e2⟩:=qzz (qs9 _) (qs9 _) h;exact Rat.ext (qwf e1) (qtb e2)
theorem qBb (a b:Rat):(tQ a=tQ b)=(a=b):=propext ⟨qK4,fun h=>by rw[h]⟩
theorem qtT (m:Int):tQ (m:Rat)=tI m:=qbw (by simp)
theorem qFg (n:Nat):tQ (OfNat.ofNat n:Rat)=tN n:=by rw[qbw (by simp)];simp only[Rat.num_ofNat];exact q0W n
theorem qkK {m n:Int}(h:m.natAbs<=n.natAbs):nl m<=nl n:=kI h
theorem qBX {m n:Nat}(h:m<=n):dl m<=dl n:=kI h
theorem qvZ (n:Nat):nl (n:Int)=dl n:=rfl
theorem qEJ (m n:Nat):dl (m*n)<=dl m+dl n:=qqJ m n
theorem qDi (m n:Int):nl (m-n)<=max (nl m) (nl n)+1:=by
 rw[Int.sub_eq_add_neg];have:=qwi m (-n)
 rwa [qrf] at this
theorem qiu (N:Int)(D:Nat):nl (mkRat N D).num<=nl N/\dl (mkRat N D).den<=dl D:=by
 rw[Rat.num_mkRat,Rat.den_mkRat];by_cases h:D=0
 ·rw[if_pos h,if_pos h,h];exact⟨qkK (by simp),by decide⟩
 ·rw[if_neg h,if_neg h];exact⟨qkK (qNr _ _),qBX (qNi _ _)⟩
theorem qH0 (a b:Rat):qn (a*b)<=qn a+qn b:=by unfold qn;rw[Rat.mul_def'];exact qLu (qiu _ _).1 (q3a _ _)
theorem qHb (a b:Rat):qd (a*b)<=qd a+qd b:=by unfold qd;rw[Rat.mul_def'];exact qLu (qiu _ _).2 (qEJ _ _)
theorem qJx (a b:Rat):qn (a+b)<=max (qn a+qd b) (qn b+qd a)+1:=by unfold qn qd;rw[Rat.add_def'];have h1:=(qiu (a.num*b.den+b.num*a.den) (a.den*b.den)).1;have h2:=qwi (a.num*b.den) (b.num*a.den);have h3:=q3a a.num b.den;have h4:=q3a b.num a.den;rw[qvZ] at h3 h4;omega
theorem qKh (a b:Rat):qd (a+b)<=qd a+qd b:=by unfold qd;rw[Rat.add_def'];exact qLu (qiu _ _).2 (qEJ _ _)
theorem qIQ (a b:Rat):qn (a-b)<=max (qn a+qd b) (qn b+qd a)+1:=by unfold qn qd;rw[Rat.sub_def'];have h1:=(qiu (a.num*b.den-b.num*a.den) (a.den*b.den)).1;have h2:=qDi (a.num*b.den) (b.num*a.den);have h3:=q3a a.num b.den;have h4:=q3a b.num a.den;rw[qvZ] at h3 h4;omega
theorem qKd (a b:Rat):qd (a-b)<=qd a+qd b:=by unfold qd;rw[Rat.sub_def'];exact qLu (qiu _ _).2 (qEJ _ _)
theorem qJ7 (a:Rat):qn (-a)=qn a:=by unfold qn;rw[Rat.neg_num,qrf]
theorem qlj (a:Rat):0<qn a:=qrg _
theorem qtw (a:Rat):0<qd a:=qjg _
theorem qJW {a:Rat}(h:a≠0):qn a⁻¹<=qd a:=by unfold qn qd;rw[Rat.num_inv,<-qvZ];apply qkK;rw[qMG,qNN (by rwa [Ne,Rat.num_eq_zero])];simp
theorem qIN {a:Rat}(h:a≠0):qd a⁻¹<=qn a:=by unfold qn qd;rw[Rat.den_inv,if_neg (by rwa [Rat.num_eq_zero])];exact qLs _
theorem qJE (a:Rat){b:Rat}(h:b≠0):qn (a/b)<=qn a+qd b:=by rw[Rat.div_def];exact qLu (qH0 _ _) (Nat.add_le_add_left (qJW h) _)
theorem qJy (a:Rat){b:Rat}(h:b≠0):qd (a/b)<=qd a+qn b:=by rw[Rat.div_def];exact qLu (qHb _ _) (Nat.add_le_add_left (qIN h) _)
def sgq(q:Rat):Int:=sgn q.num
theorem qeL {m k:Int}(hk:0<k):sgn (m*k)=sgn m:=by
 unfold sgn;rcases qN3 m 0 with h|h|h
 ·have:=qNO h hk;rw[if_pos h,if_pos this]
 ·subst h;simp
 ·have:=Int.mul_pos h hk;rw[if_neg (by omega),if_neg (by omega),if_neg (by omega),if_neg (by omega)]
theorem qHu (m:Int):sgn (-m)=-sgn m:=by
 unfold sgn;rcases qN3 m 0 with h|h|h
 ·rw[if_pos h,if_neg (by omega),if_neg (by omega)];rfl
 ·subst h;rfl
 ·rw[if_pos (by omega),if_neg (by omega),if_neg (by omega)]
theorem qyD (h:0<q):sgq q=1:=by
 unfold sgq sgn;have h1:0<=q.num:=Rat.num_nonneg.2 (Rat.le_of_lt h);have h2:q.num≠0:=fun e=>by rw[Rat.num_eq_zero] at e;rw[e] at h;exact Rat.lt_irrefl h
 rw[if_neg (by omega),if_neg h2]
theorem qEH (q:Rat):sgq (-q)=-sgq q:=by unfold sgq;rw[Rat.neg_num,qHu]
theorem qGE (h:q<0):sgq q=-1:=by
 have h1:0 < -q:=by grind
 have:=qyD h1;rw[qEH] at this;omega
theorem qen (q:Rat):(q<0/\sgq q=-1)\/(q=0/\sgq q=0)\/(0<q/\sgq q=1):=by
 by_cases h1:q<0
 ·exact .inl ⟨h1,qGE h1⟩
 ·by_cases h2:q=0
  ·exact .inr (.inl ⟨h2,by rw[h2];rfl⟩)
  ·exact .inr (.inr ⟨by grind,qyD (by grind)⟩)
theorem qiK (q:Rat):(sgq q<=0)=(q<=0):=by rcases qen q with⟨h,e⟩|⟨h,e⟩|⟨h,e⟩<;>rw[e]<;>simp<;>grind
end Go.Eng

namespace Go.Eng
def sP(s:qLp):Nat:=s.findIdx (·==47)
def spn(s:qLp):List UInt8:=s.take (sP s)
def spd(s:qLp):List UInt8:=if sP s<s.length then s.drop (sP s+1) else [49]
theorem qF1(s:qLp):sP s<=s.length:=List.findIdx_le_length
theorem qHO{s:qLp}{i:Nat}(h:i<s.length)(h1:s[i]=47)(h2:∀j (hj:j<i),s[j]≠47):sP s=i:=by unfold sP;rw[List.findIdx_eq h];exact⟨by simp[h1],fun j hj=>by simp[h2 j hj]⟩
theorem quI{s:qLp}(h:∀c,c∈s->c≠47):sP s=s.length:=by unfold sP;rw[List.findIdx_eq_length];intro x hx;simpa using h x hx
theorem qDB{s t:qLp}(h:∀c,c∈s->c≠47):sP (s++47::t)=s.length:=by
 apply qHO (by simp)
 ·simp
 ·intro j hj;rw[List.getElem_append_left hj];exact h _ (qMg hj)
theorem qDL(q:Rat):spn (tQ q)=tI q.num:=by
 unfold spn;by_cases h:q.den=1
 ·rw[qbw h,quI (qs9 _),qML]
 ·rw[q6b h,qDB (qs9 _)];simp
theorem qC0(q:Rat):spd (tQ q)=tN q.den:=by
 unfold spd;by_cases h:q.den=1
 ·rw[qbw h,quI (qs9 _),if_neg (Nat.lt_irrefl _),h];rfl
 ·rw[q6b h,qDB (qs9 _),if_pos (by simp)];simp
theorem qDb(s:qLp)(hl:s.length<=9223372036854775807):(q1D [.s s]).run=some (0,[.i (if sP s<s.length then (sP s:Int) else -1)]):=by
 rw[qsn];obtain⟨j,qs,h1,h2⟩:=jQ (S:=q3b) (fun k ps=>∃i:Nat,ps=[.s s,.i (i:Int)]/\i+k=s.length/\∀j (hj:j<i) (hj2:j<s.length),s[j]≠47)
  (fun j qs=>(¬sP s<s.length/\j=0/\qs=[])\/(sP s<s.length/\j=1/\qs=[.i (sP s:Int)])) (n:=s.length) (by omega) (fun k ps hk ⟨i,hps,hi,hd⟩=>by
  subst hps;rw[qp0];by_cases hlt:i<s.length
  ·have a1:(i:Int)<qw s:=by unfold qw;omega
   have a2:(0:Int)<=(i:Int):=by omega
   have hs:=qjU hlt;have hw:qC .i64 (i:Int) 1=((i+1:Nat):Int):=by rw[zb (by omega)];omega
   by_cases b1:s[i]=47
   ·right;have e:=qHO hlt b1 (fun j hj=>hd j hj (by omega));have b2:(s[i].toNat:Int)=47:=by rw[b1];rfl
    refine⟨1,[.i (i:Int)],?_,.inr ⟨by rw[e];exact hlt,rfl,by rw[e]⟩⟩;simp only[STD,a1,a2,hs,b2,and_self]
   ·left;have b2:¬(s[i].toNat:Int)=47:=fun h=>b1 (qN6.1 (by show s[i].toNat=47;omega));refine⟨k-1,[.s s,.i ((i+1:Nat):Int)],by omega,?_,i+1,rfl,by omega,?_⟩
    ·simp only[STD,a1,a2,hs,b2,and_self,hw]
    ·intro j hj hj2;rcases qLy j i with h|h
     ·exact hd j h hj2
     ·obtain rfl:j=i:=by omega
      exact b1
  ·right;have a1:¬((i:Int)<qw s):=by unfold qw;omega
   refine⟨0,[],?_,.inl ⟨?_,rfl,rfl⟩⟩
   ·simp only[STD,a1]
   ·rw[quI]
    ·omega
    ·intro c hc;obtain⟨j,hj,rfl⟩:=List.mem_iff_getElem.1 hc;exact hd j (by omega) hj) (ps:=[.s s,.i 0]) ⟨0,rfl,by omega,fun j hj=>by omega⟩
 rcases h2 with⟨h2,rfl,rfl⟩|⟨h2,rfl,rfl⟩
 ·rw[if_neg h2];simp only[STD,h1,qT h1]
 ·rw[if_pos h2];simp only[STD,h1,qT h1,show ¬(1=0) by omega]
theorem qEm(s:qLp)(hl:s.length<=9223372036854775807):(ue [.s s]).run=some (0,[.s (spn s),.s (spd s)]):=by
 rw[qsH];have hs:=qDb s hl;have hle:=qF1 s;unfold spd spn;by_cases h:sP s<s.length
 ·rw[if_pos h] at hs ⊢;have a1:¬((sP s:Int)<0):=by omega
  have a2:(sP s:Int)<=qw s:=by unfold qw;omega
  have hw:qC .i64 (sP s:Int) 1=((sP s+1:Nat):Int):=by rw[zb (by omega)];omega
  have a3:((sP s+1:Nat):Int)<=qw s:=by unfold qw;omega
  have e1:qcE s 0 (sP s:Int)=s.take (sP s):=by simp[qcE]
  have e2:qcE s ((sP s+1:Nat):Int) (qw s)=s.drop (sP s+1):=by unfold qcE qw;simp only[qLD,qML]
  simp only[STD,hs,a1,a2,hw,a3,e1,e2,show (0:Int)<=(sP s:Int) by omega,show (0:Int)<=((sP s+1:Nat):Int) by omega,show (0:Int)<=qw s by unfold qw;omega,qLG,and_self]
 ·rw[if_neg h] at hs ⊢;have e:s.take (sP s)=s:=qNH (by omega);rw[e];simp only[STD,hs,show (-1:Int)<0 by omega]
theorem qGQ(q:Rat):(tQ q).length<=qn q+qd q+2:=by
 have h1:=qxc q.num;unfold qn qd nl dl;by_cases h:q.den=1
 ·rw[qbw h];omega
 ·rw[q6b h];simp;omega
theorem qzI(q:Rat)(hn:qn q<=400000)(hd:qd q<=400000):(ue [.s (tQ q)]).run=some (0,[.s (tI q.num),.s (tI (q.den:Int))]):=by have:=qGQ q;rw[qEm _ (by omega),qDL,qC0,q0W]
theorem qCh(a b:Rat)(ha:qn a<=400000)(ha':qd a<=400000)(hb:qn b<=400000)(hb':qd b<=400000) :(q34 [.s (tQ a),.s (tQ b)]).run=some (0,[.r [[.s (tI (a.num*b.den))],[.s (tI (b.num*a.den))],[.s (tI (a.den*b.den))],[.s (tI (a.num*b.num))],[.s (tI (a.den*b.num))]]]):=by rw[qoW];have t:=fun (m n:Int) (h1:nl m<=400000) (h2:nl n<=400000)=>qlL m n (by omega) (by omega);simp only[STD,qzI a ha ha',qzI b hb hb',t a.num b.den ha hb',t b.num a.den hb ha',t a.den b.den ha' hb',t a.num b.num ha hb,t a.den b.num ha' hb]
theorem q5J(n:Nat):(tN n=[49])=(n=1):=by have:tN 1=[49]:=rfl;rw[<-this];exact propext ⟨fun h=>qtb h,fun h=>by rw[h]⟩
theorem qzo(m n:Int)(hn:n≠0)(hm':nl m<=400000)(hn':nl n<=400000):(q08 [.s (tI m),.s (tI n)]).run=some (0,[.s (tQ (Rat.divInt m n))]):=by
 rw[qqu];have hS:=qjI m n hm' hn';have hg0:0<Nat.gcd m.natAbs n.natAbs:=Nat.gcd_pos_of_pos_right _ (by omega);have hgn:Nat.gcd m.natAbs n.natAbs<=n.natAbs:=Nat.gcd_le_right _ (by omega);have hgl:(tN (Nat.gcd m.natAbs n.natAbs)).length<=400000:=qLu (kI hgn) hn';have hnum:=Rat.num_divInt m n;have hden:=Rat.den_divInt m n;rw[if_neg hn] at hden;have hgc:Int.gcd n m=Nat.gcd m.natAbs n.natAbs:=by unfold Int.gcd;exact qN2 _ _
 rw[hgc] at hnum hden;obtain⟨k,hk⟩:((Nat.gcd m.natAbs n.natAbs:Nat):Int) ∣ m:=Int.ofNat_dvd_left.2 (Nat.gcd_dvd_left _ _);obtain⟨l,hl⟩:((Nat.gcd m.natAbs n.natAbs:Nat):Int) ∣ n:=Int.ofNat_dvd_left.2 (Nat.gcd_dvd_right _ _);generalize Nat.gcd m.natAbs n.natAbs=g at *;generalize Rat.divInt m n=q at *;have hB:=jf n;have hm2:k*(g:Int)=m:=by rw[qMB];exact hk.symm
 have hn2:l*(g:Int)=n:=by rw[qMB];exact hl.symm
 have hql:nl q.num<=400000:=by refine qLu (qkK ?_) hm';rw[hnum];refine qLu (qNr _ _) ?_;rw[qMG,qNN hn];omega
 have hdl:(tN q.den).length<=400000:=by refine qLu (kI ?_) hn';rw[hden];exact qNi _ _
 have hil:=qxc q.num;have hil2:(tN q.num.natAbs).length<=400000:=hql;have fin:(Tree.br (seq (tI (q.den:Int)) [49]) (Tree.leaf (0,[PV.s (tI q.num)])) (Tree.br (ile (qw (tI q.num)+qw [47]) 140737488355328) (Tree.br (ile (qw (qeI (tI q.num) [47])+qw (tI (q.den:Int))) 140737488355328)
   (Tree.leaf (0,[PV.s (qeI (qeI (tI q.num) [47]) (tI (q.den:Int)))])) Tree.fail) Tree.fail)).run=some (0,[PV.s (tQ q)]):=by
  rw[q0W];have a1:qw (tI q.num)+qw [47]<=140737488355328:=by unfold qw;simp;omega
  have a2:qw (qeI (tI q.num) [47])+qw (tN q.den)<=140737488355328:=by unfold qw qeI;simp;omega
  by_cases h1:q.den=1
  ·simp only[STD,zj,q5J,h1,qbw h1]
  ·simp only[STD,zj,q5J,h1,q6b h1,a1,a2];simp[qeI]
 by_cases hneg:n<0
 ·have hT:=qcZ (g:Int) (by simp only[Int.natAbs_natCast];omega);rw[q0W] at hT;have e1:fq m (-(g:Int))=q.num:=by have:fq ((-k)*(-(g:Int))) (-(g:Int))=-k:=qpm (by omega);rw[show (-k)*(-(g:Int))=m by rw[qN7];exact hm2] at this;rw[this,hnum,Int.sign_eq_neg_one_of_neg hneg,<-hm2];rw[show (-1:Int)*(k*(g:Int))=(-k)*(g:Int) by rw[Int.neg_mul,qM3,Int.neg_mul]];exact(qNj _ (by omega)).symm
  have e2:fq n (-(g:Int))=(q.den:Int):=by
   have:fq ((-l)*(-(g:Int))) (-(g:Int))=-l:=qpm (by omega);rw[show (-l)*(-(g:Int))=n by rw[qN7];exact hn2] at this;rw[this,hden];have h3:(n.natAbs:Int)=(-l)*(g:Int):=by rw[Int.neg_mul];omega
   rw[Int.natCast_ediv,h3,qNj _ (by omega)]
  have P1:=q4i m (-(g:Int)) (by omega) hm' (by rw[qrf];exact hgl);have P2:=q4i n (-(g:Int)) (by omega) hn' (by rw[qrf];exact hgl);rw[e1] at P1;rw[e2] at P2;simp only[STD,hS,hB,hneg,hT,P1,P2] at fin ⊢;exact fin
 ·have e1:fq m (g:Int)=q.num:=by have:fq (k*(g:Int)) (g:Int)=k:=qpm (by omega);rw[hm2] at this;rw[this,hnum,Int.sign_eq_one_of_pos (by omega),qM3,<-hm2];exact(qNj _ (by omega)).symm
  have e2:fq n (g:Int)=(q.den:Int):=by
   have:fq (l*(g:Int)) (g:Int)=l:=qpm (by omega);rw[hn2] at this;rw[this,hden];have h3:(n.natAbs:Int)=l*(g:Int):=by omega
   rw[Int.natCast_ediv,h3,qNj _ (by omega)]
  have P1:=q4i m (g:Int) (by omega) hm' hgl;have P2:=q4i n (g:Int) (by omega) hn' hgl;rw[e1,q0W] at P1;rw[e2,q0W] at P2;simp only[STD,hS,hB,hneg,P1,P2] at fin ⊢;rw[q0W] at fin;exact fin
def sm(K:Nat)(q:Rat):Prop:=qn q<=K/\qd q<=K
theorem qBM(a:Rat):(0:Int)<(a.den:Int):=by have:=a.den_nz;omega
theorem quL{a b:Rat}(ha:sm 100000 a)(hb:sm 100000 b):(q6d [.s (tQ a),.s (tQ b)]).run=some (0,[.s (tQ (a*b))]):=by
 rw[qs4];obtain⟨h1,h2⟩:=ha;obtain⟨h3,h4⟩:=hb;have hc:=qCh a b (by omega) (by omega) (by omega) (by omega);simp only[qn,qd] at h1 h2 h3 h4;have l1:=q3a a.num b.num;have l3:=q3a a.den b.den;rw[qvZ,qvZ] at l3;have hL:=qzo (a.num*b.num) (a.den*b.den) (by have:=Int.mul_pos (qBM a) (qBM b);omega) (by omega) (by omega);have e:Rat.divInt (a.num*b.num) ((a.den:Int)*(b.den:Int))=a*b:=by rw[Rat.mul_def',<-Rat.divInt_ofNat];simp
 rw[e] at hL;simp only[STD,hc,cS,wD,qm,qM5,qMA,U.toS,show (3:Int).toNat=3 from rfl,show (2:Int).toNat=2 from rfl,List.getD_cons_succ,qNo,hL];simp[]
def qeX(a b c:Rat):Int:=if 0<=sgq a*(sgq b*sgq c) then (if sgq a=0 then sgq b*sgq c else sgq a) else sgq a*sgq (a*a-b*b*c)
theorem qhZ(q:Rat):-1<=sgq q/\sgq q<=1:=by rcases qen q with⟨_,e⟩|⟨_,e⟩|⟨_,e⟩<;>rw[e]<;>decide
theorem qJ1{x y:Int}(hx:-1<=x/\x<=1)(hy:-1<=y/\y<=1):-1<=x*y/\x*y<=1:=by have:=qBp (A:=1) (B:=1) hx.1 hx.2 hy.1 hy.2;omega
theorem qo5{x y:Int}(hx:-1<=x/\x<=1)(hy:-1<=y/\y<=1):vd .i64 x y=x*y:=q35 (by have:=qJ1 hx hy;omega)
variable {n:Nat}
def mv:List Int->Int
 | []=>0
 | x::l=>x+1000000000*mv l
def pB(n:Nat):Int:=1000000000^n
theorem q6A:pB 0=1:=rfl
theorem qaO (n:Nat):pB (n+1)=pB n*1000000000:=Int.pow_succ _ _
theorem qcC:∀n,0<pB n
 | 0=>by decide
 | n+1=>by rw[qaO];have:=qcC n;omega
theorem qKk (m n:Nat):pB (m+n)=pB m*pB n:=Int.pow_add _ _ _
theorem qcY {m n:Nat}(h:m<=n):pB m<=pB n:=by
 obtain⟨k,rfl⟩:∃k,n=m+k:=⟨n-m,by omega⟩;induction k with
 | zero=>simp
 | succ k ih=>
  have h1:=ih (by omega);rw[show m+(k+1)=(m+k)+1 by omega,qaO];have:=qcC (m+k);omega
def dgs(l:List Int):Prop:=∀x,x∈l->0<=x/\x<1000000000
theorem qzH:∀(l:List Int) (j:Nat) (h:j<l.length) (y:Int),mv (l.set j y)=mv l+(y-l[j])*pB j
 | [],j,h,_=>by simp at h
 | x::l,0,_,y=>by simp only[qLI,mv,List.getElem_cons_zero,q6A];omega
 | x::l,j+1,h,y=>by
  have ih:=qzH l j (by simpa using h) y;simp only[qLM,mv,List.getElem_cons_succ,qaO];rw[ih];grind
theorem qAB:∀(l:List Int) (n:Nat),dgs l->(∀i,n<=i->l.getD i 0=0)->0<=mv l/\mv l<pB n
 | [],n,_,_=>⟨qLG _,qcC n⟩
 | x::l,0,hd,hz=>by
  have ih:=qAB l 0 (fun y hy=>hd y (qLO _ hy)) (fun i _=>by have:=hz (i+1) (by omega);simpa using this);have hx:x=0:=by simpa using hz 0 (by omega)
  rw[q6A] at ih ⊢;simp only[mv];omega
 | x::l,n+1,hd,hz=>by
  have ih:=qAB l n (fun y hy=>hd y (qLO _ hy)) (fun i hi=>by have:=hz (i+1) (by omega);simpa using this);have hx:=hd x qLE;rw[qaO];simp only[mv];generalize pB n=p at *;omega
theorem qJ9:∀(l:List Int) (j:Nat) (h:j<l.length),dgs l->l[j]≠0->pB j<=mv l
 | [],j,h,_,_=>by simp at h
 | x::l,0,_,hd,hx=>by
  have h1:=hd x qLE;have h2:=(qAB l l.length (fun y hy=>hd y (qLO _ hy)) (fun i hi=>by simp[hi])).1;simp only[List.getElem_cons_zero] at hx;simp only[mv,q6A];omega
 | x::l,j+1,h,hd,hx=>by
  have ih:=qJ9 l j (by simpa using h) (fun y hy=>hd y (qLO _ hy)) (by simpa using hx);have h1:=hd x qLE;rw[qaO];simp only[mv];omega
theorem qzu:∀(s t:List Int),mv (s++t)=mv s+pB s.length*mv t
 | [],t=>by simp[mv,q6A]
 | x::s,t=>by
  simp only[qMr,mv,qM5,qaO];rw[qzu s t];grind
theorem qfc (n:Nat):mv (List.replicate n 0)=0:=by
 induction n with
 | zero=>rfl
 | succ n ih=>simp[qMU,mv,ih]
theorem qds {l:List Int}{i:Nat}(h:i<l.length):mv (l.drop i)=l[i]+1000000000*mv (l.drop (i+1)):=by rw[List.drop_eq_getElem_cons h];rfl
theorem vA {l:List Int}{n i:Nat}(hd:dgs l)(hz:∀i,n<=i->l.getD i 0=0)(hi:n<=i):mv (l.drop i)=0:=by have:=qAB (l.drop i) 0 (fun x hx=>hd x (qNE hx)) (fun j _=>by have:=hz (i+j) (by omega);simpa[qLr] using this);rw[q6A] at this;omega
structure WOK (n:Nat) (l:List Int):Prop where
 len:l.length=232
 le:n<=232
 dig:dgs l
 z:∀i,n<=i->l.getD i 0=0
def nrm(n:Nat)(l:List Int):Prop:=n=0\/l.getD (n-1) 0≠0
theorem WOK.bd {l:List Int}(h:WOK n l):0<=mv l/\mv l<pB n:=qAB l n h.dig h.z
theorem WOK.lo {l:List Int}(h:WOK n l)(hn:nrm n l)(h0:n≠0):pB (n-1)<=mv l:=by
 have h1:=h.le;have h2:=h.len;rcases hn with hn|hn
 ·exact absurd hn h0
 ·refine qJ9 l (n-1) (by omega) h.dig ?_
  rwa [ye (by omega)] at hn
theorem qwB (N i:Nat):(List.replicate N (0:Int)).getD i 0=0:=by rw[qLr,List.getElem?_replicate];split<;>rfl
theorem qDd (N:Nat):dgs (List.replicate N 0):=fun x hx=>by have:=(qNG.1 hx).2;omega
theorem WOK.zero:WOK 0 (List.replicate 232 0):=⟨List.length_replicate,by omega,qDd 232,fun i _=>qwB 232 i⟩
theorem WOK.get {l:List Int}(h:WOK n l)(i:Nat):0<=l.getD i 0/\l.getD i 0<1000000000:=by
 rcases qLy i l.length with hi|hi
 ·rw[ye hi];exact h.dig _ (qMg hi)
 ·simp[hi]
theorem WOK.setW {l:List Int}(h:WOK n l){j:Nat}{y:Int}(hj:j<232)(hy:0<=y/\y<1000000000):WOK (max n (j+1)) (l.set j y):=by
 have h1:=h.le;refine⟨by simp[h.len],by omega,fun x hx=>?_,fun i hi=>?_⟩
 ·rcases qNL hx with hx|rfl
  ·exact h.dig x hx
  ·exact hy
 ·have:=h.z i (by omega);rw[qLr,qLt (by omega),<-qLr];exact this
theorem q5P (l:List Int)(i:Nat):cI (rI l) (i:Int) 0=l.getD i 0:=by rw[qD3,qLD]
theorem qku (l:List Int)(i:Nat)(v:Int):qgZ (rI l) (i:Int) 0 [.i v]=rI (l.set i v):=by rw[qvX,qLD]
theorem qmu {l:List Int}(h:WOK n l)(b:Bool):∃m,(qZ [.b b,.i (n:Int),.r (rI l)]).run=some (0,[.b b,.i ((m:Nat):Int),.r (rI l)])/\WOK m l/\nrm m l:=by
 rw[qhn];have h232:=h.le;obtain⟨j,qs,h1,rfl,m,rfl,h3,h4⟩:=jQ (S:=ju) (fun k ps=>ps=[.b b,.i (k:Int),.r (rI l)]/\WOK k l)
  (fun j qs=>j=0/\∃m:Nat,qs=[.b b,.i (m:Int),.r (rI l)]/\WOK m l/\nrm m l) (n:=n) (by omega) (fun k ps hk ⟨hps,hw⟩=>by
  subst hps;rw[qf9];have hk2:=hw.le;by_cases h0:k=0
  ·right;refine⟨0,_,?_,rfl,k,rfl,hw,.inl h0⟩;simp only[STD,h0];rfl
  ·have hs:yF .i64 (k:Int) 1=((k-1:Nat):Int):=by rw[vV (by omega)];omega
   have a1:(0:Int)<(k:Int):=by omega
   have a2:(0:Int)<=((k-1:Nat):Int)/\((k-1:Nat):Int)<232:=by omega
   by_cases hz:l.getD (k-1) 0=0
   ·left;refine⟨k-1,[.b b,.i ((k-1:Nat):Int),.r (rI l)],by omega,?_,rfl,hw.len,by omega,hw.dig,fun i hi=>?_⟩
    ·simp only[STD,a1,hs,a2,q5P,hz,and_self]
    ·rcases qN4 hi with e|e
     ·rw[<-e];exact hz
     ·exact hw.z i (by omega)
   ·right;refine⟨0,[.b b,.i (k:Int),.r (rI l)],?_,rfl,k,rfl,hw,.inr hz⟩;simp only[STD,a1,hs,a2,q5P,hz,and_self]) (ps:=[.b b,.i (n:Int),.r (rI l)]) ⟨rfl,h⟩
 exact⟨m,by simp only[STD,h1],h3,h4⟩
theorem qIW (s:Int):∃q r:Int,s.tdiv 1000000000=q/\s=q*1000000000+r/\(0<=s->0<=r)/\(s<=0->r<=0)/\-1000000000<r/\r<1000000000:=by obtain⟨h1,h2,h3,h4⟩:=qns s (show (1000000000:Int)≠0 by decide);refine⟨_,qb4 s 1000000000,rfl,by omega,h3,h4,by omega,by omega⟩
theorem qBn {f up rest:Int}{i n j:Nat}{l ly:List Int}{bx b2:Bool}{ny:Nat}{S:Int}(hj:((j:Nat):Int)=qC .i64 (i:Int) up)(hj2:j<232)(hw:WOK n l)(hin:i<233)(hS:S=if i<ny then l.getD j 0+rest+f*ly.getD i 0 else l.getD j 0+rest) (hr:-1000000000<=rest/\rest<=1000000000) (hfy:-999999999999999999<=f*ly.getD i 0/\f*ly.getD i 0<=999999999999999999) (hny:ny<=232)(hgo:i<ny\/rest≠0) :∃q s:Int,S=q*1000000000+s/\0<=s/\s<1000000000 /\(jk [.i f,.i up,.i rest,.i (i:Int),.b bx,.i (n:Int),.r (rI l),.b b2,.i (ny:Int),.r (rI ly)]).run=some (0,[.i f,.i up,.i q,.i ((i+1:Nat):Int),.b bx,.i ((max n (j+1):Nat):Int),.r (rI (l.set j s)),.b b2,.i (ny:Int),.r (rI ly)]):=by
 have hg:=hw.get j;obtain⟨q,r,e1,e2,e3,e4,e5,e6⟩:=qIW S;have hSb:-1000000000999999999<=S/\S<=1000000001999999998:=by rw[hS];split<;>omega
 have w1:qcK .i64 S 1000000000=q:=by unfold qcK;rw[e1];unfold IntKind.wrap;simp[IntKind.signed,IntKind.bits];omega
 have w2:vd .i64 q 1000000000=q*1000000000:=q35 (by omega);have w3:yF .i64 S (q*1000000000)=r:=by rw[vV (by omega)];omega
 have w4:qC .i64 (l.getD j 0) rest=l.getD j 0+rest:=zb (by omega);have w5:qC .i64 (i:Int) 1=((i+1:Nat):Int):=by rw[zb (by omega)];omega
 have w6:qC .i64 (j:Int) 1=((j+1:Nat):Int):=by rw[zb (by omega)];omega
 have w7:qvr (n:Int) ((j+1:Nat):Int)=((max n (j+1):Nat):Int):=quY _ _;have a1:(0:Int)<=(j:Int)/\(j:Int)<232:=by omega
 have hw8:r<0->qC .i64 r 1000000000=r+1000000000:=fun _=>zb (by omega);have hw9:r<0->yF .i64 q 1=q-1:=fun _=>vV (by omega);rw[q8x];by_cases hi:i<ny
 ·rw[if_pos hi] at hS;have a2:(i:Int)<(ny:Int):=by omega
  have a3:(0:Int)<=(i:Int)/\(i:Int)<232:=by omega
  have w10:vd .i64 f (ly.getD i 0)=f*ly.getD i 0:=q35 (by omega);have w11:qC .i64 (l.getD j 0+rest) (f*ly.getD i 0)=S:=by rw[zb (by omega),hS]
  by_cases hneg:r<0
  ·refine⟨q-1,r+1000000000,by omega,by omega,by omega,?_⟩;simp only[STD,a2,<-hj,a1,a3,q5P,w4,w10,w11,w1,w2,w3,hneg,hw8 hneg,hw9 hneg,w5,w6,w7,qku,and_self]
  ·refine⟨q,r,by omega,by omega,by omega,?_⟩;simp only[STD,a2,<-hj,a1,a3,q5P,w4,w10,w11,w1,w2,w3,hneg,w5,w6,w7,qku,and_self]
 ·rw[if_neg hi] at hS;have hr0:rest≠0:=hgo.resolve_left hi;have a2:¬(i:Int)<(ny:Int):=by omega
  rw[<-hS] at w4;by_cases hneg:r<0
  ·refine⟨q-1,r+1000000000,by omega,by omega,by omega,?_⟩;simp only[STD,a2,hr0,<-hj,a1,q5P,w4,w1,w2,w3,hneg,hw8 hneg,hw9 hneg,w5,w6,w7,qku,and_self]
  ·refine⟨q,r,by omega,by omega,by omega,?_⟩;simp only[STD,a2,hr0,<-hj,a1,q5P,w4,w1,w2,w3,hneg,w5,w6,w7,qku,and_self]
theorem qqq {f:Int}{up nx ny:Nat}{lx ly:List Int}(hx:WOK nx lx)(hy:WOK ny ly)(hf:-999999999<=f/\f<=999999999)(hup:ny+up<=232){T:Int}(hT:T=mv lx+f*mv ly*pB up)(h0:0<=T)(h1:T<pB 232)(bx b2:Bool) :∃(n:Nat) (l:List Int),(zd [.i f,.i (up:Int),.b bx,.i (nx:Int),.r (rI lx),.b b2,.i (ny:Int),.r (rI ly)]).run=some (0,[.b bx,.i (n:Int),.r (rI l),.b b2,.i (ny:Int),.r (rI ly)])/\WOK n l/\nrm n l/\mv l=T:=by
 rw[qkb];have hny:=hy.le;obtain⟨j,qs,g1,rfl,n,l,rfl,g3,g4⟩:=jQ (S:=jk) (fun k ps=>∃(i n:Nat) (rest:Int) (l:List Int),ps=[.i f,.i (up:Int),.i rest,.i (i:Int),.b bx,.i (n:Int),.r (rI l),.b b2,.i (ny:Int),.r (rI ly)] /\
   i+k=300/\i<=232/\WOK n l/\-1000000000<=rest/\rest<=1000000000/\mv l+rest*pB (i+up)+f*mv (ly.drop i)*pB (i+up)=T)
  (fun j qs=>j=0/\∃(n:Nat) (l:List Int),qs=[.b bx,.i (n:Int),.r (rI l),.b b2,.i (ny:Int),.r (rI ly)]/\WOK n l/\mv l=T) (n:=300) (by omega) (fun k ps hk ⟨i,n,rest,l,hps,hik,hi,hw,hr1,hr2,hv⟩=>by
  subst hps;have hg:=hy.get i;have hfy:=qBp (A:=999999999) (B:=999999999) hf.1 hf.2 (show -(999999999:Int)<=ly.getD i 0 by omega) (show ly.getD i 0<=999999999 by omega);have hbd:=hw.bd;have hn232:=hw.le;by_cases hgo:i<ny\/rest≠0
  ·left;have hj:i+up<232:=by
    rcases qLy i ny with h|h
    ·omega
    ·rcases qLy (i+up) 232 with h2|h2
     ·exact h2
     ·exfalso;have hr0:=hgo.resolve_left (by omega);rw[vA hy.dig hy.z h] at hv;have hP:=qcY h2;have hlt:=qcY hn232;simp only[qMH,Int.zero_mul,Int.add_zero] at hv;generalize pB (i+up)=P at *;rcases Int.lt_or_lt_of_ne hr0 with h3|h3
      ·have:rest*P<=-1*P:=qNs (by omega) (by have:=qcC 232;omega);omega
      ·have:1*P<=rest*P:=qNs (by omega) (by have:=qcC 232;omega);omega
   have hjw:(((i+up:Nat)):Int)=qC .i64 (i:Int) (up:Int):=by rw[zb (by omega)];omega
   obtain⟨q,s,s1,s2,s3,s4⟩:=qBn (bx:=bx) (b2:=b2) (f:=f) (ly:=ly) hjw hj hw (by omega) rfl ⟨hr1,hr2⟩ (by omega) hny hgo;refine⟨k-1,_,by omega,s4,i+1,_,q,_,rfl,by omega,by omega,hw.setW hj ⟨s2,s3⟩,?_,?_,?_⟩
   ·have hgl:=hw.get (i+up);split at s1<;>omega
   ·have hgl:=hw.get (i+up);split at s1<;>omega
   ·have hjl:i+up<l.length:=by rw[hw.len];exact hj
    rw[qzH l (i+up) hjl,<-hv,show i+1+up=(i+up)+1 by omega,qaO];rw[ye hjl] at s1;have hil:i<ly.length:=by rw[hy.len];omega
    rw[qds hil];rw[ye hil] at s1;generalize pB (i+up)=P at *;generalize l[i+up]=d at *;by_cases hiny:i<ny
    ·rw[if_pos hiny] at s1;generalize ly[i]=y at *;generalize mv (ly.drop (i+1))=m at *;grind
    ·rw[if_neg hiny] at s1;have z1:ly[i]=0:=by rw[<-ye hil];exact hy.z i (by omega)
     rw[z1,vA hy.dig hy.z (show ny<=i+1 by omega)];grind
  ·right;have c1:¬i<ny:=fun h=>hgo (.inl h);have c2:rest=0:=Decidable.byContradiction fun h=>hgo (.inr h);refine⟨0,[.b bx,.i (n:Int),.r (rI l),.b b2,.i (ny:Int),.r (rI ly)],?_,rfl,n,l,rfl,hw,?_⟩
   ·rw[q8x];have a2:¬(i:Int)<(ny:Int):=by omega
    simp only[STD,a2,c2]
   ·rw[vA hy.dig hy.z (by omega),c2] at hv;simp only[qMH,Int.zero_mul,Int.add_zero] at hv;exact hv) (ps:=[.i f,.i (up:Int),.i 0,.i 0,.b bx,.i (nx:Int),.r (rI lx),.b b2,.i (ny:Int),.r (rI ly)])
  ⟨0,nx,0,lx,rfl,by omega,by omega,hx,by omega,by omega,by simp[hT]⟩
 obtain⟨m,t1,t2,t3⟩:=qmu g3 bx;exact⟨m,l,by simp only[STD,g1,t1],t2,t3,g4⟩
end Go.Eng

namespace Go.Eng
theorem qcd(l:List Int)(j:Nat)(h:j<=l.length):mv l=mv (l.take j)+pB j*mv (l.drop j):=by have:=qzu (l.take j) (l.drop j);rw[qNy,qMw,qMI h] at this;exact this
theorem qEY{l:List Int}(h:dgs l)(j:Nat):dgs (l.take j):=fun x hx=>h x (qND hx)
theorem qaz{l:List Int}(h:dgs l)(j:Nat):0<=mv (l.take j)/\mv (l.take j)<pB j:=
 qAB (l.take j) j (qEY h j) fun i hi=>by rw[qLr,qLS (by simp;omega)];rfl
theorem qoe{l:List Int}{i:Nat}(h:i<l.length):mv (l.take (i+1))=mv (l.take i)+l[i]*pB i:=by rw[List.take_succ_eq_append_getElem h,qzu,qMw,qMI (by omega)];simp only[mv];grind
theorem WOK.mono{n m:Nat}{l:List Int}(h:WOK n l)(hm:n<=m)(h2:m<=232):WOK m l:=⟨h.len,h2,h.dig,fun i hi=>h.z i (by omega)⟩
theorem qmj{n:Nat}{l:List Int}(h:WOK n l)(hn:nrm n l):(n=0)=(mv l=0):=by
 apply propext;constructor
 ·intro h0;have:=h.bd;rw[h0,q6A] at this;omega
 ·intro h0;rcases qMz n with h1|h1
  ·exact h1
  ·have:=h.lo hn (by omega);have:=qcC (n-1);omega
theorem qKR{n m:Nat}{l k:List Int}(h:WOK n l)(hn:nrm n l)(h2:WOK m k)(hle:mv l<=mv k):n<=m:=by
 rcases qLy m n with h3|h3
 ·exfalso;have h4:=h.lo hn (by omega);have h5:=h2.bd.2;have h6:=qcY (show m<=n-1 by omega);omega
 ·exact h3
theorem qzQ{nx ny:Nat}{lx ly:List Int}(hx:WOK nx lx)(hnx:nrm nx lx)(hy:WOK ny ly)(hny:nrm ny ly)(bx b2:Bool) :∃r:Int,(vn [.b bx,.i (nx:Int),.r (rI lx),.b b2,.i (ny:Int),.r (rI ly)]).run=some (0,[.i r,.b bx,.i (nx:Int),.r (rI lx),.b b2,.i (ny:Int),.r (rI ly)])/\((0<=r)=(mv ly<=mv lx)):=by
 rw[qiT];have h1:=hx.le;have h2:=hy.le;by_cases hne:nx=ny
 ·subst hne;have hs:yF .i64 (nx:Int) 1=(nx:Int)-1:=vV (by omega);obtain⟨j,qs,g1,g2⟩:=jQ (S:=yg) (fun k ps=>ps=[.i ((k:Int)-1),.b bx,.i (nx:Int),.r (rI lx),.b b2,.i (nx:Int),.r (rI ly)]/\k<=nx/\mv (lx.drop k)=mv (ly.drop k))
   (fun j qs=>(j=0/\qs=[.b bx,.i (nx:Int),.r (rI lx),.b b2,.i (nx:Int),.r (rI ly)]/\mv lx=mv ly)\/(j=1/\∃r:Int,qs=[.i r,.b bx,.i (nx:Int),.r (rI lx),.b b2,.i (nx:Int),.r (rI ly)]/\((0<=r)=(mv ly<=mv lx)))) (n:=nx) (by omega) (fun k ps hk ⟨hps,hkn,hd⟩=>by
   subst hps;rw[qgR];by_cases h0:k=0
   ·right;refine⟨0,_,?_,.inl ⟨rfl,rfl,?_⟩⟩
    ·have a:¬(0:Int)<=(k:Int)-1:=by omega
     simp only[STD,a]
    ·rw[h0] at hd;simpa using hd
   ·obtain⟨i,rfl⟩:∃i,k=i+1:=⟨k-1,by omega⟩;have e:(((i+1:Nat):Int)-1)=(i:Int):=by omega
    rw[e];have a1:(0:Int)<=(i:Int):=by omega
    have a2:(i:Int)<232:=by omega
    have gx:=hx.get i;have gy:=hy.get i;have hxl:i<lx.length:=by rw[hx.len];omega
    have hyl:i<ly.length:=by rw[hy.len];omega
    by_cases hc:lx.getD i 0=ly.getD i 0
    ·left;refine⟨i,[.i ((i:Int)-1),.b bx,.i (nx:Int),.r (rI lx),.b b2,.i (nx:Int),.r (rI ly)],by omega,?_,rfl,by omega,?_⟩
     ·have w:yF .i64 (i:Int) 1=(i:Int)-1:=vV (by omega);simp only[STD,a1,a2,and_self,q5P,hc,w]
     ·rw[qds hxl,qds hyl,hd];rw[ye hxl,ye hyl] at hc;rw[hc]
    ·right;have w:yF .i64 (lx.getD i 0) (ly.getD i 0)=lx.getD i 0-ly.getD i 0:=vV (by omega);refine⟨1,[.i (lx.getD i 0-ly.getD i 0),.b bx,.i (nx:Int),.r (rI lx),.b b2,.i (nx:Int),.r (rI ly)],?_,.inr ⟨rfl,_,rfl,?_⟩⟩
     ·simp only[STD,a1,a2,and_self,q5P,hc,w]
     ·have sx:=qcd lx i (by omega);have sy:=qcd ly i (by omega);rw[qds hxl] at sx;rw[qds hyl] at sy;have tx:=qaz hx.dig i;have ty:=qaz hy.dig i;rw[ye hxl,ye hyl] at hc ⊢;rw[hd] at sx;have hp:=qcC i;generalize pB i=P at *;generalize lx[i]=u at *;generalize ly[i]=v at *;generalize mv (ly.drop (i+1))=w at *;have e1:P*(u+1000000000*w)=P*u+P*(1000000000*w):=Int.mul_add _ _ _;have e2:P*(v+1000000000*w)=P*v+P*(1000000000*w):=Int.mul_add _ _ _;have e3:P*(u-v)=P*u-P*v:=Int.mul_sub _ _ _;apply propext;rcases Int.lt_or_lt_of_ne (show u-v≠0 by omega) with h|h
      ·have:P*(u-v)<=P*(-1):=qNP (by omega) (by omega);constructor
       ·intro;omega
       ·intro;omega
      ·have:P*1<=P*(u-v):=qNP (by omega) (by omega);constructor
       ·intro;omega
       ·intro;omega) (ps:=[.i ((nx:Int)-1),.b bx,.i (nx:Int),.r (rI lx),.b b2,.i (nx:Int),.r (rI ly)])
   ⟨rfl,qLs _,by rw[vA hx.dig hx.z (qLs _),vA hy.dig hy.z (qLs _)]⟩
  rcases g2 with⟨rfl,rfl,g2⟩|⟨rfl,r,rfl,g2⟩
  ·refine⟨0,?_,?_⟩
   ·simp only[STD,hs,g1,qT g1]
   ·apply propext;simp;omega
  ·refine⟨r,?_,g2⟩;simp only[STD,hs,g1,qT g1,show ¬(1=0) by omega]
 ·have hs:yF .i64 (nx:Int) (ny:Int)=(nx:Int)-(ny:Int):=vV (by omega);refine⟨(nx:Int)-(ny:Int),?_,?_⟩
  ·have a:¬(nx:Int)=(ny:Int):=by omega
   simp only[STD,a,hs]
  ·apply propext;have b1:=hx.bd;have b2:=hy.bd;rcases Nat.lt_or_gt_of_ne hne with h|h
   ·have:=hy.lo hny (by omega);have:=qcY (show nx<=ny-1 by omega);constructor
    ·intro;omega
    ·intro;omega
   ·have:=hx.lo hnx (by omega);have:=qcY (show ny<=nx-1 by omega);constructor
    ·intro;omega
    ·intro;omega
def sv(b:Bool)(l:List Int):Int:=if b then -mv l else mv l
theorem qGT{nx ny:Nat}{lx ly:List Int}(hx:WOK nx lx)(hnx:nrm nx lx)(hy:WOK ny ly)(hny:nrm ny ly)(hb:mv lx+mv ly<pB 232)(bx b2:Bool) :∃(b:Bool) (n:Nat) (l:List Int),(vH [.b bx,.i (nx:Int),.r (rI lx),.b b2,.i (ny:Int),.r (rI ly)]).run=some (0,[.b b,.i (n:Int),.r (rI l),.b b2,.i (ny:Int),.r (rI ly)])/\WOK n l/\nrm n l/\sv b l=sv bx lx+sv b2 ly:=by
 rw[qme];have h1:=hx.bd;have h2:=hy.bd;have l1:=hx.le;have l2:=hy.le;by_cases hs:bx=b2
 ·subst hs;obtain⟨n,l,g1,g2,g3,g4⟩:=qqq (f:=1) (up:=0) hx hy (by omega) (by omega) (T:=mv lx+mv ly) (by rw[q6A];omega) (by omega) hb bx bx;refine⟨bx,n,l,?_,g2,g3,?_⟩
  ·simp only[STD,show ((0:Nat):Int)=0 from rfl] at g1 ⊢;simp only[STD,g1]
  ·unfold sv;rw[g4];cases bx<;>simp<;>omega
 ·obtain⟨r,r1,r2⟩:=qzQ hx hnx hy hny bx b2;by_cases hr:mv ly<=mv lx
  ·have hr':0<=r:=by rw[r2];exact hr
   obtain⟨n,l,g1,g2,g3,g4⟩:=qqq (f:=-1) (up:=0) hx hy (by omega) (by omega) (T:=mv lx-mv ly) (by rw[q6A];omega) (by omega) (by omega) bx b2;refine⟨bx,n,l,?_,g2,g3,?_⟩
   ·simp only[show ((0:Nat):Int)=0 from rfl] at g1;simp only[STD,hs,r1,hr',g1]
   ·unfold sv;rw[g4];cases bx<;>cases b2<;>simp_all<;>omega
  ·have hr':¬0<=r:=by rw[r2];exact hr
   obtain⟨n,l,g1,g2,g3,g4⟩:=qqq (f:=-1) (up:=0) hy hx (by omega) (by omega) (T:=mv ly-mv lx) (by rw[q6A];omega) (by omega) (by omega) b2 bx;refine⟨b2,n,l,?_,g2,g3,?_⟩
   ·simp only[show ((0:Nat):Int)=0 from rfl] at g1;simp only[STD,hs,r1,hr',g1]
   ·unfold sv;rw[g4];cases bx<;>cases b2<;>simp_all<;>omega
theorem qEM{x y:Int}{m n:Nat}(h0:0<=x)(h1:x<pB m)(h2:0<=y)(h3:y<=pB n):x*y<pB (m+n)\/y=0:=by
 rcases Int.lt_or_eq_of_le h2 with h|h
 ·left;rw[qKk];have e1:x*y<pB m*y:=Int.mul_lt_mul_of_pos_right h1 h;have e2:pB m*y<=pB m*pB n:=qNP h3 (by omega);omega
 ·exact .inr h.symm
theorem qHw{nx ny:Nat}{lx ly:List Int}(hx:WOK nx lx)(hy:WOK ny ly)(hb:nx+ny<=232)(bx b2:Bool) :∃(n:Nat) (l:List Int),(kz [.b bx,.i (nx:Int),.r (rI lx),.b b2,.i (ny:Int),.r (rI ly)]).run=some (0,[.b bx,.i (nx:Int),.r (rI lx),.b b2,.i (ny:Int),.r (rI ly),.b (!(Go.Eng.beq bx b2)),.i (n:Int),.r (rI l)])/\WOK n l/\nrm n l/\mv l=mv lx*mv ly:=by
 rw[qk4];have hbx:=hx.bd;have e0:q4f 232 [.i 0]=rI (List.replicate 232 0):=qky 232 0;obtain⟨j,qs,g1,rfl,n,l,rfl,g2,g3,g4⟩:=jQ (S:=yV) (fun k ps=>∃(i n:Nat) (l:List Int),ps=[.i (ny:Int),.i (i:Int),.b bx,.i (nx:Int),.r (rI lx),.b b2,.i (ny:Int),.r (rI ly),.b (!(Go.Eng.beq bx b2)),.i (n:Int),.r (rI l)] /\
   i+k=ny/\WOK n l/\nrm n l/\mv l=mv lx*mv (ly.take i))
  (fun j qs=>j=0/\∃(n:Nat) (l:List Int),qs=[.b bx,.i (nx:Int),.r (rI lx),.b b2,.i (ny:Int),.r (rI ly),.b (!(Go.Eng.beq bx b2)),.i (n:Int),.r (rI l)]/\WOK n l/\nrm n l/\mv l=mv lx*mv ly) (n:=ny) (by omega) (fun k ps hk ⟨i,n,l,hps,hik,hw,hn,hv⟩=>by
  subst hps;rw[qhE];by_cases hi:i<ny
  ·left;have hil:i<ly.length:=by rw[hy.len];omega
   have gy:=hy.get i;have tb:=qaz hy.dig i;have tb2:=qaz hy.dig (i+1);have hT:mv lx*mv (ly.take (i+1))=mv l+ly.getD i 0*mv lx*pB i:=by rw[qoe hil,hv,ye hil];grind
   have hlt:mv lx*mv (ly.take (i+1))<pB 232:=by
    rcases qEM (n:=i+1) hbx.1 hbx.2 tb2.1 (by omega) with h|h
    ·exact Int.lt_of_lt_of_le h (qcY (by omega))
    ·rw[h,qMH];exact qcC _
   obtain⟨n',l',c1,c2,c3,c4⟩:=qqq (f:=ly.getD i 0) (up:=i) hw hx (by omega) (by omega) hT (qNh hbx.1 tb2.1) hlt (!(Go.Eng.beq bx b2)) bx;have w:qC .i64 (i:Int) 1=((i+1:Nat):Int):=by rw[zb (by omega)];omega
   refine⟨k-1,_,by omega,?_,i+1,n',l',rfl,by omega,c2,c3,c4⟩;have a1:(i:Int)<(ny:Int):=by omega
   have a2:(0:Int)<=(i:Int)/\(i:Int)<232:=by omega
   simp only[STD,a1,a2,and_self,q5P,c1,w]
  ·right;have hi2:i=ny:=by omega
   have a1:¬(i:Int)<(ny:Int):=by omega
   refine⟨0,[.b bx,.i (nx:Int),.r (rI lx),.b b2,.i (ny:Int),.r (rI ly),.b (!(Go.Eng.beq bx b2)),.i (n:Int),.r (rI l)],?_,rfl,n,l,rfl,hw,hn,?_⟩
   ·simp only[STD,a1]
   ·have:=qcd ly ny (by rw[hy.len];exact hy.le);rw[vA hy.dig hy.z (qLs _),qMH,Int.add_zero] at this;rw[hv,hi2,<-this])
  (ps:=[.i (ny:Int),.i 0,.b bx,.i (nx:Int),.r (rI lx),.b b2,.i (ny:Int),.r (rI ly),.b (!(Go.Eng.beq bx b2)),.i 0,.r (rI (List.replicate 232 0))])
  ⟨0,0,_,rfl,by omega,WOK.zero,.inl rfl,by rw[qfc];simp[mv]⟩
 refine⟨n,l,?_,g2,g3,g4⟩;simp only[e0];simp only[STD,g1]
theorem qAr{nx ny:Nat}{lx ly:List Int}(hx:WOK nx lx)(hnx:nrm nx lx)(hy:WOK ny ly)(hny:nrm ny ly)(h0:ny≠0)(hle:mv ly<=mv lx)(hlt:mv lx<pB (ny+1))(hn231:ny<=231)(bx b2:Bool) :∃k:Int,(q1R [.b bx,.i (nx:Int),.r (rI lx),.b b2,.i (ny:Int),.r (rI ly)]).run=some (0,[.i k,.b bx,.i (nx:Int),.r (rI lx),.b b2,.i (ny:Int),.r (rI ly)])/\1<=k/\k<=999999999/\k*mv ly<=mv lx:=by
 rw[qn0];obtain⟨m,rfl⟩:∃m,ny=m+1:=⟨ny-1,by omega⟩;have hxl:=hx.len;have hyl:=hy.len;have hnx1:m+1<=nx:=qKR hy hny hx hle;have hnx2:nx<=m+2:=by
  rcases qLy (m+2) nx with h|h
  ·exfalso;have h1:=hx.lo hnx (by omega);have h2:=qcY (show m+1+1<=nx-1 by omega);omega
  ·exact h
 have gx1:=hx.get m;have gx2:=hx.get (m+1);have gy:=hy.get m;have sx:=qcd lx m (by omega);have sy:=qcd ly m (by omega);rw[qds (show m<lx.length by omega),qds (show m+1<lx.length by omega),vA hx.dig hx.z (show nx<=m+1+1 by omega)] at sx;rw[qds (show m<ly.length by omega),vA hy.dig hy.z (qLs _)] at sy;have tx:=qaz hx.dig m;have ty:=qaz hy.dig m;have hyn:ly.getD m 0≠0:=by
  rcases hny with h|h
  ·omega
  ·simpa using h
 have w1:yF .i64 ((m+1:Nat):Int) 1=(m:Int):=by rw[vV (by omega)];omega
 have c1:¬((m+1:Nat):Int)<0:=by omega
 have c2:¬(nx:Int)<=(m:Int):=by omega
 have c3:¬(m:Int)<0:=by omega
 have c4:¬((m+1:Nat):Int)<=(m:Int):=by omega
 have c5:(0:Int)<=(m:Int)/\(m:Int)<232:=by omega
 have c6:(0:Int)<=((m+1:Nat):Int)/\((m+1:Nat):Int)<232:=by omega
 have gex:lx[m]'(by omega)=lx.getD m 0:=(ye (by omega)).symm;have gex1:lx[m+1]'(by omega)=lx.getD (m+1) 0:=(ye (by omega)).symm;have gey:ly[m]'(by omega)=ly.getD m 0:=(ye (by omega)).symm;rw[gex,gex1] at sx;rw[gey] at sy;have hp:=qcC m;have key:∀a b:Int,a=lx.getD m 0+1000000000*lx.getD (m+1) 0->0<b->mv ly<=b*pB m->∀k,k=a/b->k*mv ly<=mv lx/\qkU k 999999999*mv ly<=mv lx:=by
  intro a b ha hb hbY k hk;have hk0:0<=k:=by rw[hk];exact Int.ediv_nonneg (by omega) (by omega)
  have hkb:k*b<=a:=by rw[hk];exact Int.ediv_mul_le a (by omega)
  have hY:=(hy.bd).1;have f1:k*mv ly<=k*(b*pB m):=qNP hbY hk0;have f2:k*b*pB m<=a*pB m:=qNs hkb (by omega);have f3:k*(b*pB m)=k*b*pB m:=(Int.mul_assoc _ _ _).symm;have f4:a*pB m=pB m*(lx.getD m 0+1000000000*(lx.getD (m+1) 0+1000000000*0)):=by rw[ha];grind
  have f5:k*mv ly<=mv lx:=by omega
  refine⟨f5,?_⟩;have:qkU k 999999999<=k:=by unfold qkU;split<;>omega
  have:=qNs this hY;omega
 have wq:∀a b:Int,0<=a->a<1000000000000000000->0<b->qcK .i64 a b=a/b:=by intro a b h1 h2 h3;unfold qcK;rw[Int.tdiv_eq_ediv_of_nonneg h1];have q1:0<=a/b:=Int.ediv_nonneg h1 (by omega);have q2:a/b<=a:=Int.ediv_le_self _ h1;generalize a/b=q at *;unfold IntKind.wrap;simp[IntKind.signed,IntKind.bits];omega
 have fin:∀k:Int,(0<k->k*mv ly<=mv lx/\qkU k 999999999*mv ly<=mv lx)->∃k':Int,(if 0<k then qkU k 999999999 else 1)=k'/\1<=k'/\k'<=999999999/\k'*mv ly<=mv lx:=by
  intro k hk;by_cases h:0<k
  ·rw[if_pos h];refine⟨_,rfl,?_,?_,(hk h).2⟩
   ·unfold qkU;split<;>omega
   ·unfold qkU;split<;>omega
  ·rw[if_neg h];exact⟨1,rfl,by omega,by omega,by omega⟩
 by_cases hcase:nx<=m+1
 ·have c7:(nx:Int)<=((m+1:Nat):Int):=by omega
  have z1:lx.getD (m+1) 0=0:=hx.z _ (by omega);have wa:qC .i64 0 (lx.getD m 0)=lx.getD m 0:=by rw[zb (by omega)];omega
  by_cases hm:m=0
  ·subst hm;have c8:¬(1:Int)<((0+1:Nat):Int):=by omega
   have hq:=wq (lx.getD 0 0) (ly.getD 0 0) (by omega) (by omega) (by omega);have hbY:mv ly<=ly.getD 0 0*pB 0:=by rw[q6A] at sy ty ⊢;omega
   obtain⟨k',f1,f2,f3,f4⟩:=fin (lx.getD 0 0/ly.getD 0 0) (fun _=>key _ _ (by rw[z1];omega) (by omega) hbY _ rfl);refine⟨k',?_,f2,f3,f4⟩;rw[<-f1];simp only[STD,c1,w1,c2,c3,c4,c5,c6,c7,c8,and_self,q5P,wa,hyn,hq];split<;>rfl
  ·have c8:(1:Int)<((m+1:Nat):Int):=by omega
   have wb:qC .i64 (ly.getD m 0) 1=ly.getD m 0+1:=zb (by omega);have hq:=wq (lx.getD m 0) (ly.getD m 0+1) (by omega) (by omega) (by omega);have hbY:mv ly<=(ly.getD m 0+1)*pB m:=by
    have:(ly.getD m 0+1)*pB m=pB m*(ly.getD m 0+1000000000*0)+pB m:=by grind
    omega
   obtain⟨k',f1,f2,f3,f4⟩:=fin (lx.getD m 0/(ly.getD m 0+1)) (fun _=>key _ _ (by rw[z1];omega) (by omega) hbY _ rfl);refine⟨k',?_,f2,f3,f4⟩;rw[<-f1];have hne:¬ly.getD m 0+1=0:=by omega
   simp only[STD,c1,w1,c2,c3,c4,c5,c6,c7,c8,and_self,q5P,wa,wb,hne,hq];split<;>rfl
 ·have c7:¬(nx:Int)<=((m+1:Nat):Int):=by omega
  have wm:vd .i64 (lx.getD (m+1) 0) 1000000000=lx.getD (m+1) 0*1000000000:=q35 (by omega);have wa:qC .i64 (lx.getD (m+1) 0*1000000000) (lx.getD m 0)=lx.getD (m+1) 0*1000000000+lx.getD m 0:=zb (by omega);by_cases hm:m=0
  ·subst hm;have c8:¬(1:Int)<((0+1:Nat):Int):=by omega
   have hq:=wq (lx.getD (0+1) 0*1000000000+lx.getD 0 0) (ly.getD 0 0) (by omega) (by omega) (by omega);have hbY:mv ly<=ly.getD 0 0*pB 0:=by rw[q6A] at sy ty ⊢;omega
   obtain⟨k',f1,f2,f3,f4⟩:=fin ((lx.getD (0+1) 0*1000000000+lx.getD 0 0)/ly.getD 0 0) (fun _=>key _ _ (by omega) (by omega) hbY _ rfl);refine⟨k',?_,f2,f3,f4⟩;rw[<-f1];simp only[STD,c1,w1,c2,c3,c4,c5,c6,c7,c8,and_self,q5P,wm,wa,hyn,hq];split<;>rfl
  ·have c8:(1:Int)<((m+1:Nat):Int):=by omega
   have wb:qC .i64 (ly.getD m 0) 1=ly.getD m 0+1:=zb (by omega);have hq:=wq (lx.getD (m+1) 0*1000000000+lx.getD m 0) (ly.getD m 0+1) (by omega) (by omega) (by omega);have hbY:mv ly<=(ly.getD m 0+1)*pB m:=by
    have:(ly.getD m 0+1)*pB m=pB m*(ly.getD m 0+1000000000*0)+pB m:=by grind
    omega
   obtain⟨k',f1,f2,f3,f4⟩:=fin ((lx.getD (m+1) 0*1000000000+lx.getD m 0)/(ly.getD m 0+1)) (fun _=>key _ _ (by omega) (by omega) hbY _ rfl);refine⟨k',?_,f2,f3,f4⟩;rw[<-f1];have hne:¬ly.getD m 0+1=0:=by omega
   simp only[STD,c1,w1,c2,c3,c4,c5,c6,c7,c8,and_self,q5P,wm,wa,wb,hne,hq];split<;>rfl
theorem qHa(u:Nat):Lib.decDigits u=tN u:=by
 induction u using Nat.strongRecOn with
 | _ u ih=>
  rw[Lib.decDigits];split
  ·rename_i h;rw[qwV h];rfl
  ·rename_i h;rw[ih (u/10) (by omega)];exact(qy5 (n:=u) (by omega)).symm
theorem qyu(n:Int):Lib.itoa n=tI n:=by
 unfold Lib.itoa;by_cases h:n<0
 ·rw[if_pos h,qHa,qcu h]
 ·rw[if_neg h,qHa,qk0 h];congr 1;omega
theorem qJq(n:Int)(h:-9223372036854775808<=n/\n<=9223372036854775807):(q4p [.i n]).run=some (0,[.s (tI n)]):=by show (qEh [.i n]).run=_;unfold qEh;simp only;rw[if_pos h,qyu];rfl
theorem qwK{c:UInt8}(h:48<=c.toNat/\c.toNat<=57):Lib.digitVal c=some (dv c):=by
 unfold Lib.digitVal dv
 simp_all
theorem qpJ:∀{s:qLp} (a:Nat),q61 s->Lib.decFrom a s=some (a*10^s.length+val s)
 | [],a,_=>by simp[Lib.decFrom,val]
 | c::s,a,h=>by
  obtain⟨h1,h2⟩:=q0U.1 h;rw[Lib.decFrom,qwK h1];simp only;rw[qpJ _ h2,q68,qM5,qN0];congr 1;grind
theorem qsP{s:qLp}(h:q61 s)(hn:s≠[]):Lib.decNat s=some (val s):=by unfold Lib.decNat;rw[if_neg (by simpa using hn),qpJ 0 h];simp
theorem qvH{s:qLp}(h:q61 s)(hn:s≠[]):Lib.atoi s=some (val s:Int):=by
 obtain⟨c,t,e,h1,h2⟩:=qis h hn;rw[e] at h ⊢;have n1:(c==45)=false:=by rw[beq_eq_false_iff_ne];intro hc;subst hc;revert h1;decide
 have n2:(c==43)=false:=by rw[beq_eq_false_iff_ne];intro hc;subst hc;revert h1;decide
 unfold Lib.atoi;simp only[n1,n2,qLQ,if_false];rw[qsP h (by simp)];rfl
theorem qC8(m:Int):Lib.atoi (tI m)=some m:=by
 by_cases h:m<0
 ·rw[qcu h];unfold Lib.atoi;simp only[beq_self_eq_true,if_true];rw[qsP (zY _) (qrE _),q0E];simp;omega
 ·rw[qk0 h,qvH (zY _) (qrE _),q0E];congr 1;omega
theorem qCs{s:qLp}{n:Int}(hl:s.length<=18)(h:Lib.atoi s=some n):(jU [.s s]).run=some (0,[.i n]):=by show (qE6 [.s s]).run=_;unfold qE6;simp only;rw[if_pos hl,h];rfl
theorem qzV:∀s:List UInt8,Lib.indexByte s 47=if sP s<s.length then (sP s:Int) else -1
 | []=>by simp[Lib.indexByte,sP]
 | c::s=>by
  have ih:=qzV s;have hle:=qF1 s;unfold Lib.indexByte;by_cases h:c=47
  ·subst h;have:sP (47::s)=0:=qHO (by simp) (by simp) (fun j hj=>by omega);rw[this];simp
  ·have hc:(c==47)=false:=by simpa using h
   have e:sP (c::s)=sP s+1:=by unfold sP;rw[List.findIdx_cons,hc];rfl
   rw[e];generalize sP s=k at *;have el:(c::s).length=s.length+1:=rfl;simp only[hc,el,ih,qLQ,if_false];grind
theorem qIn(s:qLp):(vT [.s s,.s [47]]).run=some (0,[.i (if sP s<s.length then (sP s:Int) else -1)]):=by show (qwA [.s s,.s [47]]).run=_;unfold qwA;simp only;rw[<-qzV];rfl
theorem qzB:∀{s t:qLp},q61 s->q61 t->s.length=t.length->Lib.compareBytes s t=sgn ((val s:Int)-(val t:Int))
 | [],[],_,_,_=>by simp[Lib.compareBytes,val,sgn]
 | [],_::_,_,_,h=>by simp at h
 | _::_,[],_,_,h=>by simp at h
 | a::s,b::t,hs,ht,h=>by
  obtain⟨h1,h2⟩:=q0U.1 hs;obtain⟨h3,h4⟩:=q0U.1 ht;have hl:s.length=t.length:=by simpa using h
  have ih:=qzB h2 h4 hl;have v1:=q7n h2;have v2:=q7n h4;unfold Lib.compareBytes;rw[q68,q68,hl];rw[hl] at v1;have hp:0<10^t.length:=Nat.pow_pos (by omega);generalize 10^t.length=P at *;unfold dv;by_cases c1:a.toNat<b.toNat
  ·rw[if_pos (show a<b from c1)];have:(a.toNat-48+1)*P<=(b.toNat-48)*P:=qLT _ (by omega);rw[qLH,qNa] at this;unfold sgn;rw[if_pos (by omega)]
  ·rw[if_neg (show ¬a<b from c1)];by_cases c2:b.toNat<a.toNat
   ·rw[if_pos (show b<a from c2)];have:(b.toNat-48+1)*P<=(a.toNat-48)*P:=qLT _ (by omega);rw[qLH,qNa] at this;unfold sgn;rw[if_neg (by omega),if_neg (by omega)]
   ·rw[if_neg (show ¬b<a from c2),ih];have:a.toNat=b.toNat:=by omega
    rw[this];congr 1;omega
theorem qBr{s t:qLp}(hs:q61 s)(ht:q61 t)(h:s.length=t.length):(q3J [.s s,.s t]).run=some (0,[.i (sgn ((val s:Int)-(val t:Int)))]):=by show (qpw [.s s,.s t]).run=_;unfold qpw;simp only;rw[qzB hs ht h];rfl
def qCj:List UInt8:=[48,49,50,51,52,53,54,55,56,57]
theorem qz8(c:UInt8):(qCj.contains c=true)↔(48<=c.toNat/\c.toNat<=57):=by
 constructor
 ·intro h;simp only[qCj,List.contains_eq_mem,qLx,qNt,or_false,decide_eq_true_eq] at h;rcases h with rfl|rfl|rfl|rfl|rfl|rfl|rfl|rfl|rfl|rfl<;>decide
 ·rintro ⟨h1,h2⟩;have hk:∃k,c=UInt8.ofNat k/\48<=k/\k<=57:=⟨c.toNat,by simp,h1,h2⟩;obtain⟨k,rfl,k1,k2⟩:=hk;have:k=48\/k=49\/k=50\/k=51\/k=52\/k=53\/k=54\/k=55\/k=56\/k=57:=by omega
  rcases this with rfl|rfl|rfl|rfl|rfl|rfl|rfl|rfl|rfl|rfl<;>decide
theorem q9R{p:UInt8->Bool}:∀{l:qLp},l.dropWhile p=[]↔∀x,x∈l->p x=true
 | []=>by simp
 | a::l=>by
  rw[List.dropWhile_cons];by_cases h:p a=true
  ·rw[if_pos h,q9R];simp[h]
  ·rw[if_neg h];simp[h]
theorem qiy(s:qLp):(Lib.trimS s qCj=[])=q61 s:=by
 apply propext;unfold Lib.trimS Lib.trimLeftS Lib.trimRightS;constructor
 ·intro h;have h1:∀c,c∈(s.reverse.dropWhile (qCj.contains ·)).reverse->qCj.contains c=true:=by intro c hc;have:=q9R.1 h c hc;simpa using this
  have h2:s.reverse.dropWhile (qCj.contains ·)=[]:=by
   cases hd:s.reverse.dropWhile (qCj.contains ·) with
   | nil=>rfl
   | cons c t=>
    exfalso;have h3:=List.head_dropWhile_not (p:=(qCj.contains ·)) (l:=s.reverse) (by rw[hd];simp);simp only[hd,List.head_cons] at h3;have:=h1 c (by rw[hd];simp);rw[this] at h3;cases h3
  intro c hc;have:=q9R.1 h2 c (by simpa using hc);exact(qz8 c).1 (by simpa using this)
 ·intro h;have h2:s.reverse.dropWhile (qCj.contains ·)=[]:=by rw[q9R];intro c hc;exact(qz8 c).2 (h c (by simpa using hc))
  rw[h2];rfl
theorem qIS(s:qLp)(hl:s.length<=9223372036854775807):(q8j [.s s,.s [48,49,50,51,52,53,54,55,56,57]]).run=some (0,[.s (Lib.trimS s qCj)]):=by show (qC7 [.s s,.s qCj]).run=_;unfold qC7;simp only;rw[if_pos ⟨hl,by decide,by decide⟩];rfl
variable {n:Nat}
theorem qCC (n:Nat):pB n=((10^(9*n):Nat):Int):=by unfold pB;rw[Nat.pow_mul];simp
theorem qBa:∀k:Nat,k<=9->qcE [48,48,48,48,48,48,48,48,48] (k:Int) 9=List.replicate (9-k) 48
 | 0,_=>rfl
 | 1,_=>rfl
 | 2,_=>rfl
 | 3,_=>rfl
 | 4,_=>rfl
 | 5,_=>rfl
 | 6,_=>rfl
 | 7,_=>rfl
 | 8,_=>rfl
 | 9,_=>rfl
 | n+10,h=>by omega
theorem qHt {v:Nat}(h:v<1000000000):q61 (qDT (tN v))/\(qDT (tN v)).length=9/\val (qDT (tN v))=v:=by
 have hl:(tN v).length<=9:=q21 8 v (by omega);have e:qDT (tN v)=List.replicate (9-(tN v).length) 48++tN v:=by unfold qDT qeI;rw[show qw (tN v)=((tN v).length:Int) from rfl,qBa _ hl]
 rw[e];refine⟨q8f.2 ⟨qnP _,zY v⟩,by simp;omega,by rw[qqF,q0E]⟩
theorem qsM{l:List Int}(hl:l.length=232)(hd:dgs l):∀i:Nat,i<=232->q61 (qmq (rI l) i)/\(qmq (rI l) i).length=9*i/\((val (qmq (rI l) i):Nat):Int)=mv (l.take i)
 | 0,_=>⟨qlU,rfl,by simp[qmq,qeQ,mv]⟩
 | i+1,h=>by
  obtain⟨h1,h2,h3⟩:=qsM hl hd i (by omega);have hil:i<l.length:=by omega
  have hg:=hd _ (qMg hil);have e:cI (rI l) (i:Int) 0=l[i]:=by rw[q5P,ye hil]
  have e2:Lib.itoa l[i]=tN l[i].toNat:=by rw[qyu,qk0 (by omega)];congr 1;omega
  obtain⟨p1,p2,p3⟩:=qHt (v:=l[i].toNat) (by omega);unfold qmq;rw[e,e2];refine⟨q8f.2 ⟨p1,h1⟩,by rw[qLR,p2,h2];omega,?_⟩;rw[qtG,p3,h2,qoe hil,qCC];simp only[qNq,qMj,h3];rw[qNm hg.1];omega
theorem qF5 {l:List Int}(h:WOK n l)(hn:nrm n l)(b:Bool):qCm b (n:Int) (rI l)=tI (sv b l):=by
 unfold qCm;by_cases h0:n=0
 ·have h1:mv l=0:=by rw[<-qmj h hn];exact h0
  rw[if_pos (by omega)];unfold sv;rw[h1];cases b<;>rfl
 ·rw[if_neg (by omega)];obtain⟨m,rfl⟩:∃m,n=m+1:=⟨n-1,by omega⟩;have hle:=h.le;have hml:m<l.length:=by rw[h.len];omega
  have e1:(((m+1:Nat):Int)-1)=(m:Int):=by omega
  rw[e1,qLD,q5P,ye hml];have hg:=h.dig _ (qMg hml);have e2:Lib.itoa l[m]=tN l[m].toNat:=by rw[qyu,qk0 (by omega)];congr 1;omega
  obtain⟨t1,t2,t3⟩:=qsM h.len h.dig m (by omega);have hnz:l[m]≠0:=by
   rcases hn with hn|hn
   ·omega
   ·rw[qNK,ye hml] at hn;exact hn
  have hlo:=h.lo hn h0;have hp:=qcC m;simp only[qNK] at hlo;have hv:((val (tN l[m].toNat++qmq (rI l) m):Nat):Int)=mv l:=by rw[qtG,q0E,t2,qcd l m (by omega),qds hml,vA h.dig h.z (qLs _),qCC];simp only[qNq,qMj,t3];rw[qNm hg.1];grind
  have hT:tN l[m].toNat++qmq (rI l) m=tN (mv l).toNat:=by
   have hd:q61 (tN l[m].toNat++qmq (rI l) m):=q8f.2 ⟨zY _,t1⟩;have hne:tN l[m].toNat++qmq (rI l) m≠[]:=by simp[qrE]
   have hz:(tN l[m].toNat++qmq (rI l) m).getD 0 0≠48:=by
    have hv0:=q0E l[m].toNat;have hd0:=zY l[m].toNat;rcases qCi l[m].toNat with h1|h1
    ·obtain⟨c,e⟩:=List.length_eq_one_iff.1 h1;rw[e] at hv0 ⊢;simp only[qMr,qNo];intro hc;subst hc;rw[qy3] at hv0;simp[dv] at hv0;omega
    ·obtain⟨c,t,e,_⟩:=qis hd0 (qrE _);rw[e] at h1 ⊢;simpa using h1
   have:=qqc hd hne (.inr hz);rw[this];congr 1;omega
  rw[e2,qM4,hT];unfold sv;cases b
  ·rw[if_neg (by simp),if_neg (by simp),qk0 (by omega)];simp;congr 1;omega
  ·rw[if_pos rfl,if_pos rfl,qcu (by omega)];simp;congr 1;omega
theorem qB9 {l:List Int}(h:WOK n l):quS (n:Int) (rI l)=true:=by unfold quS;have:=h.le;simp only[qLN,decide_eq_true_eq,qLZ,qMK];refine⟨⟨by omega,by omega⟩,fun i _=>?_⟩;have:=h.get i;rw[q5P];exact this
theorem qzC {l:List Int}(h:WOK n l)(hn:nrm n l)(b:Bool):(zB [.b b,.i (n:Int),.r (rI l)]).run=some (0,[.s (tI (sv b l)),.b b,.i (n:Int),.r (rI l)]):=by show (qEo [.b b,.i (n:Int),.r (rI l)]).run=_;unfold qEo;simp only;rw[if_pos (qB9 h),qF5 h hn];rfl
end Go.Eng

namespace Go.Eng
theorem qFW{nr ny:Nat}{lr ly:List Int}(hr:WOK nr lr)(hnr:nrm nr lr)(hy:WOK ny ly)(hny:nrm ny ly)(h0:ny≠0)(hy231:ny<=231)(hlt:mv lr<mv ly*1000000000)(y0:Int)(xb:Bool)(xi:Int)(xr:R)(b2 qb:Bool)(qi:Int)(qr:R)(br:Bool) :∃(d:Int) (n:Nat) (l:List Int),(qh yB [.i y0,.i 0,.b xb,.i xi,.r xr,.b b2,.i (ny:Int),.r (rI ly),.b qb,.i qi,.r qr,.b br,.i (nr:Int),.r (rI lr)]).run = some (0,[.i y0,.i d,.b xb,.i xi,.r xr,.b b2,.i (ny:Int),.r (rI ly),.b qb,.i qi,.r qr,.b br,.i (n:Int),.r (rI l)])/\WOK n l/\nrm n l/\0<=d/\d<1000000000/\mv lr=d*mv ly+mv l/\mv l<mv ly:=by
 have hyp:0<mv ly:=by have:=hy.lo hny h0;have:=qcC (ny-1);omega
 have hyb:=hy.bd;obtain⟨j,qs,g1,rfl,d,n,l,rfl,g2⟩:=jQ (S:=yB) (fun k ps=>∃(d:Int) (n:Nat) (l:List Int),ps=[.i y0,.i d,.b xb,.i xi,.r xr,.b b2,.i (ny:Int),.r (rI ly),.b qb,.i qi,.r qr,.b br,.i (n:Int),.r (rI l)] /\
   WOK n l/\nrm n l/\0<=d/\d+k=1000000000/\mv lr=d*mv ly+mv l)
  (fun j qs=>j=0/\∃(d:Int) (n:Nat) (l:List Int),qs=[.i y0,.i d,.b xb,.i xi,.r xr,.b b2,.i (ny:Int),.r (rI ly),.b qb,.i qi,.r qr,.b br,.i (n:Int),.r (rI l)]/\WOK n l/\nrm n l/\0<=d/\d<1000000000/\mv lr=d*mv ly+mv l/\mv l<mv ly) (n:=1000000000) (by omega)
  (fun k ps hk ⟨d,n,l,hps,hw,hn,hd0,hdk,hv⟩=>by
   subst hps;have hlb:=hw.bd;have hdlt:d<1000000000:=by
    rcases Int.lt_or_le d 1000000000 with h|h
    ·exact h
    ·have:=qNs h (show 0<=mv ly by omega);rw[qMB (mv ly)] at hlt;omega
   rw[qkk];obtain⟨r,r1,r2⟩:=qzQ hw hn hy hny br b2;by_cases hle:mv ly<=mv l
   ·left;have hr0:0<=r:=by rw[r2];exact hle
    have hdm:=qNh hd0 (show 0<=mv ly by omega);have hl9:mv l<pB (ny+1):=by rw[qaO];omega
    obtain⟨q,e1,e2,e3,e4⟩:=qAr hw hn hy hny h0 hle hl9 hy231 br b2;obtain⟨n',l',c1,c2,c3,c4⟩:=qqq (f:=-q) (up:=0) hw hy (by omega) (by omega) (T:=mv l-q*mv ly) (by rw[q6A,Int.mul_one,Int.neg_mul];omega) (by omega)
     (by have:=hlb.2;have:=qcY hw.le;have:=qNh (show 0<=q by omega) (show 0<=mv ly by omega);omega) br b2
    have hq2:(d+q)*mv ly+(mv l-q*mv ly)=d*mv ly+mv l:=by rw[Int.add_mul];omega
    have hdq:d+q<1000000000:=by
     rcases Int.lt_or_le (d+q) 1000000000 with h|h
     ·exact h
     ·have:=qNs h (show 0<=mv ly by omega);rw[qMB (mv ly)] at hlt;omega
    have w1:yF .i64 0 q=-q:=quB (by omega);have w2:qC .i64 d q=d+q:=zb (by omega);simp only[show ((0:Nat):Int)=0 from rfl] at c1;refine⟨(1000000000-(d+q)).toNat,[.i y0,.i (d+q),.b xb,.i xi,.r xr,.b b2,.i (ny:Int),.r (rI ly),.b qb,.i qi,.r qr,.b br,.i (n':Int),.r (rI l')],by omega,?_,d+q,n',l',rfl,c2,c3,by omega,by omega,by rw[c4];omega⟩;simp only[STD,r1,hr0,e1,w1,w2,c1]
   ·right;have hr0:¬0<=r:=by rw[r2];exact hle
    refine⟨0,_,?_,rfl,d,n,l,rfl,hw,hn,hd0,hdlt,hv,by omega⟩;simp only[STD,r1,hr0]) (ps:=[.i y0,.i 0,.b xb,.i xi,.r xr,.b b2,.i (ny:Int),.r (rI ly),.b qb,.i qi,.r qr,.b br,.i (nr:Int),.r (rI lr)]) ⟨0,nr,lr,rfl,hr,hnr,by omega,by omega,by omega⟩
 exact⟨d,n,l,g1,g2⟩
theorem qGb{n:Nat}{l:List Int}{d:Int}(h:WOK n l)(hn:n<=231)(hd:0<=d/\d<1000000000) :qgZ (qmf (rI l) 1 (rI l) 0 (qkU (qxQ (n:Int) 0) (qxQ 232 1))) 0 0 [.i d]=rI (d::(l.take n++l.drop (1+n)))/\WOK (n+1) (d::(l.take n++l.drop (1+n)))/\mv (d::(l.take n++l.drop (1+n)))=d+1000000000*mv l:=by
 have hlen:=h.len;have e1:qkU (qxQ (n:Int) 0) (qxQ 232 1)=(n:Int):=by unfold qkU qxQ;split<;>omega
 obtain⟨x,t,rfl⟩:∃x t,l=x::t:=by
  cases l with
  | nil=>simp at hlen
  | cons x t=>exact⟨x,t,rfl⟩
 refine⟨?_,⟨by simp;simp at hlen;omega,by omega,?_,?_⟩,?_⟩
 ·rw[e1];unfold qmf;have:(rI (x::t)).take (1:Int).toNat++((rI (x::t)).drop (0:Int).toNat).take (n:Int).toNat++(rI (x::t)).drop ((1:Int).toNat+(n:Int).toNat)=rI (x::((x::t).take n++(x::t).drop (1+n))):=by rw[qLD];simp[rI,List.map_take,List.map_drop]
  rw[this,show (0:Int)=((0:Nat):Int) from rfl,qku];rfl
 ·intro y hy;rcases qLx.1 hy with rfl|hy
  ·exact hd
  ·rcases qLV.1 hy with hy|hy
   ·exact h.dig _ (qND hy)
   ·exact h.dig _ (qNE hy)
 ·intro i hi;obtain⟨j,rfl⟩:∃j,i=j+1:=⟨i-1,by omega⟩;have hz:=h.z (j+1) (by omega);rw[qLr] at hz ⊢;rw[qMt,qLP (by simp;omega)];rw[qMy,qMw,qMI (by omega)];rw[show 1+n+(j-n)=j+1 by omega];exact hz
 ·show d+1000000000*mv _=_;rw[qzu,qMw,qMI (by omega),vA h.dig h.z (show n<=1+n by omega)];have:=qcd (x::t) n (by omega);rw[vA h.dig h.z (qLs n)] at this;omega
theorem qi6{nx ny:Nat}{lx ly:List Int}(hx:WOK nx lx)(hy:WOK ny ly)(hny:nrm ny ly)(h0:ny≠0)(hy231:ny<=231)(bx b2:Bool) :∃(nq:Nat) (lq:List Int) (nr:Nat) (lr:List Int),(uM [.b bx,.i (nx:Int),.r (rI lx),.b b2,.i (ny:Int),.r (rI ly)]).run = some (0,[.b bx,.i (nx:Int),.r (rI lx),.b b2,.i (ny:Int),.r (rI ly),.b false,.i (nq:Int),.r (rI lq),.b false,.i (nr:Int),.r (rI lr)])/\WOK nq lq/\nrm nq lq/\WOK nr lr/\nrm nr lr/\mv lx=mv lq*mv ly+mv lr/\mv lr<mv ly:=by
 rw[qpb];have hyp:0<mv ly:=by have:=hy.lo hny h0;have:=qcC (ny-1);omega
 have hx232:=hx.le;have e0:q4f 232 [.i 0]=rI (List.replicate 232 0):=qky 232 0;have hxl:=hx.len;obtain⟨j,qs,g1,rfl,nq,lq,nr,lr,rfl,g2,g3,g4,g5,g6⟩:=jQ (S:=q10) (fun k ps=>∃(Q:Int) (nq:Nat) (lq:List Int) (nr:Nat) (lr:List Int),
   ps=[.i ((k:Int)-1),.b bx,.i (nx:Int),.r (rI lx),.b b2,.i (ny:Int),.r (rI ly),.b false,.i (nq:Int),.r (rI lq),.b false,.i (nr:Int),.r (rI lr)]/\k<=nx/\WOK nq lq/\WOK nr lr/\nrm nr lr/\mv (lx.drop k)=Q*mv ly+mv lr/\mv lr<mv ly/\mv lq=pB k*Q/\∀i,i<k->lq.getD i 0=0)
  (fun j qs=>j=0/\∃(nq:Nat) (lq:List Int) (nr:Nat) (lr:List Int),qs=[.b bx,.i (nx:Int),.r (rI lx),.b b2,.i (ny:Int),.r (rI ly),.b false,.i (nq:Int),.r (rI lq),.b false,.i (nr:Int),.r (rI lr)]/\WOK nq lq/\WOK nr lr/\nrm nr lr/\mv lx=mv lq*mv ly+mv lr/\mv lr<mv ly) (n:=nx) (by omega)
  (fun k ps hk ⟨Q,nq,lq,nr,lr,hps,hkn,hwq,hwr,hnr,hv,hlt,hq,hz⟩=>by
   subst hps;rw[qlI];rcases qMz k with rfl|hk0
   ·right;have a1:¬(0:Int)<=((0:Nat):Int)-1:=by omega
    refine⟨0,[.b bx,.i (nx:Int),.r (rI lx),.b b2,.i (ny:Int),.r (rI ly),.b false,.i (nq:Int),.r (rI lq),.b false,.i (nr:Int),.r (rI lr)],?_,rfl,nq,lq,nr,lr,rfl,hwq,hwr,hnr,?_,hlt⟩
    ·simp only[STD,a1]
    ·rw[hq,q6A,qM3,<-hv,List.drop_zero]
   ·left;obtain⟨i,rfl⟩:∃i,k=i+1:=⟨k-1,by omega⟩;have e:(((i+1:Nat):Int)-1)=(i:Int):=by omega
    rw[e];have hnr231:nr<=231:=qLu (qKR hwr hnr hy (by omega)) hy231;have hil:i<lx.length:=by omega
    have gx:=hx.get i;obtain⟨s1,s2,s3⟩:=qGb hwr hnr231 (d:=lx.getD i 0) gx;obtain⟨m,t1,t2,t3⟩:=qmu s2 false;have hX:mv (lx.drop i)=lx.getD i 0+1000000000*(Q*mv ly+mv lr):=by rw[qds hil,<-hv,ye hil]
    have hlt2:mv (lx.getD i 0::(lr.take nr++lr.drop (1+nr)))<mv ly*1000000000:=by rw[s3];omega
    obtain⟨d,n',l',d1,d2,d3,d4,d5,d6,d7⟩:=qFW t2 t3 hy hny h0 hy231 hlt2 (i:Int) bx (nx:Int) (rI lx) b2 false (nq:Int) (rI lq) false;rw[s3] at d6;have a1:(0:Int)<=(i:Int):=by omega
    have a2:(i:Int)<232:=by omega
    have a3:(0:Int)<=232/\(232:Int)<=232:=by omega
    have a4:(0:Int)<=1/\(1:Int)<=232:=by omega
    have a5:(0:Int)<=(nr:Int)/\(nr:Int)<=232:=by omega
    have a6:(0:Int)<=0/\(0:Int)<=(nr:Int):=by omega
    have w1:qC .i64 (nr:Int) 1=((nr+1:Nat):Int):=by rw[zb (by omega)];omega
    have w2:qC .i64 (i:Int) 1=((i+1:Nat):Int):=by rw[zb (by omega)];omega
    have w3:yF .i64 (i:Int) 1=(i:Int)-1:=vV (by omega);have w4:qvr (nq:Int) ((i+1:Nat):Int)=((max nq (i+1):Nat):Int):=quY _ _;have hiq:i<lq.length:=by rw[hwq.len];omega
    have hzi:lq[i]=0:=by rw[<-ye hiq];exact hz i (by omega)
    refine⟨i,[.i ((i:Int)-1),.b bx,.i (nx:Int),.r (rI lx),.b b2,.i (ny:Int),.r (rI ly),.b false,.i ((max nq (i+1):Nat):Int),.r (rI (lq.set i d)),.b false,.i (n':Int),.r (rI l')],by omega,?_,Q*1000000000+d,_,_,_,_,rfl,by omega,hwq.setW (by omega) ⟨d4,d5⟩,d2,d3,?_,d7,?_,?_⟩
    ·simp only[q5P,s1,w1];simp only[STD,a1,a2,a3,a4,a5,a6,and_self,t1,d1,w2,w3,w4,qku]
    ·rw[hX,Int.add_mul,Int.mul_add];have:Q*1000000000*mv ly=1000000000*(Q*mv ly):=by grind
     omega
    ·rw[qzH lq i hiq,hzi,hq,qaO];grind
    ·intro a ha;rw[qLr,qLt (by omega),<-qLr];exact hz a (by omega))
  (ps:=[.i ((nx:Int)-1),.b bx,.i (nx:Int),.r (rI lx),.b b2,.i (ny:Int),.r (rI ly),.b false,.i 0,.r (rI (List.replicate 232 0)),.b false,.i 0,.r (rI (List.replicate 232 0))])
  ⟨0,0,_,0,_,rfl,qLs _,WOK.zero,WOK.zero,.inl rfl,by rw[vA hx.dig hx.z (qLs _),qfc];omega,by rw[qfc];exact hyp,by rw[qfc,qMH],fun i _=>qwB 232 i⟩
 obtain⟨m,t1,t2,t3⟩:=qmu g2 false;refine⟨m,lq,nr,lr,?_,t2,t3,g3,g4,g5,g6⟩;have hs:yF .i64 (nx:Int) 1=(nx:Int)-1:=vV (by omega);simp only[e0,hs];simp only[STD,g1,t1]
variable {m:Int}
theorem qJP {c:UInt8}{t:qLp}:qcE (c::t) 0 1=[c]:=by simp[qcE]
theorem qDZ (s:qLp):(qO [.s s,.s [45]]).run=some (0,[.b (decide (s.getD 0 0=45))]):=by
 rw[q6Y];have h1:qw [45]=1:=rfl;cases s with
 | nil=>
  have a:¬(1:Int)<=qw []:=by decide
  simp only[STD,h1,a];rfl
 | cons c t=>
  have a:(1:Int)<=qw (c::t):=by unfold qw;simp only[qM5];omega
  simp only[STD,h1,a,show (0:Int)<=1 by omega,show (0:Int)<=0 by omega,and_self,qJP];have e:seq [c] [45]=decide ((c::t).getD 0 0=45):=by rw[Bool.eq_iff_iff,zj];simp
  rw[e]
theorem qu5 (s:qLp):(zl [.s s,.s [45]]).run=some (0,[.s (mag s)]):=by
 rw[qh4];have h:(zq [.s s,.s [45]]).run=some (0,[.s (mag s)]):=by
  rw[q60];have h1:qw [45]=1:=rfl;unfold mag;by_cases h:s.getD 0 0=45
  ·rw[if_pos h];have a:(1:Int)<=qw s:=by
    cases s with
    | nil=>simp at h
    | cons c t=>unfold qw;simp only[qM5];omega
   have e:qcE s 1 (qw s)=s.drop 1:=by unfold qcE qw;simp
   simp only[STD,qDZ,h,h1,a,and_self,qLG,show (0:Int)<=qw s by omega,show (0:Int)<=1 by omega,e]
  ·rw[if_neg h];simp only[STD,qDZ,h]
 simp only[STD,h]
theorem qfW (s:qLp)(hl:s.length<=1000000000):(zh [.s s]).run=some (0,[.i (qxh s)]):=by
 rw[qrU];have hT:=qu5 s;have hml:(mag s).length<=s.length:=by unfold mag;split<;>simp
 have hR:=qIS (mag s) (by omega);have hcan:=qwe s;unfold qxh;have hl3:(1024<qw (mag s))=¬((mag s).length<=1024):=by unfold qw;simp only[eq_iff_iff];omega
 by_cases hne:mag s=[]
 ·rw[if_neg (fun h=>(hcan.1 h).1 hne)];simp only[STD,hT,zj,hne]
 ·have hp:0<(mag s).length:=qMQ.2 hne;have a1:(0:Int)<qw (mag s):=by unfold qw;omega
  have hs:sat (mag s) 0=((mag s)[0].toNat:Int):=qjU (i:=0) hp;have h48:((mag s)[0].toNat:Int)=48↔(mag s).getD 0 0=48:=by
   have:(mag s).getD 0 0=(mag s)[0]:=by simp[hp]
   rw[this];exact⟨fun h=>qN6.1 (by show (mag s)[0].toNat=48;omega),fun h=>by rw[h];rfl⟩
  by_cases hd:q61 (mag s)
  ·have hs1:((mag s).getD 0 0=48->s.length=1)↔(((mag s)[0].toNat:Int)=48->s=[48]):=by
    rw[h48];constructor
    ·intro h h2;obtain⟨c,e⟩:=List.length_eq_one_iff.1 (h h2);subst e;by_cases hc:c=45
     ·subst hc;exact absurd rfl hne
     ·have:mag [c]=[c]:=by unfold mag;rw[if_neg (by simpa using hc)]
      rw[this] at h2;simp at h2;rw[h2]
    ·intro h h2;rw[h h2];rfl
   by_cases hz:((mag s)[0].toNat:Int)=48
   ·by_cases h0:s=[48]
    ·rw[if_pos (hcan.2 ⟨hne,hd,hs1.2 fun _=>h0⟩)];by_cases hL:(mag s).length<=1024
     ·simp only[STD,hT,hR,zj,hne,qiy,hd,a1,hs,hz,hl3,hL,qLG,and_self];simp only[STD,h0]
     ·simp only[STD,hT,hR,zj,hne,qiy,hd,a1,hs,hz,hl3,hL,qLG,and_self];simp only[STD,h0]
    ·rw[if_neg (fun h=>h0 (hs1.1 (hcan.1 h).2.2 hz))];simp only[STD,hT,hR,zj,hne,qiy,hd,a1,hs,hz,h0,qLG,and_self]
   ·rw[if_pos (hcan.2 ⟨hne,hd,fun h=>absurd (h48.2 h) hz⟩)];by_cases hL:(mag s).length<=1024
    ·simp only[STD,hT,hR,zj,hne,qiy,hd,a1,hs,hz,hl3,hL,qLG,and_self]
    ·simp only[STD,hT,hR,zj,hne,qiy,hd,a1,hs,hz,hl3,hL,qLG,and_self]
  ·rw[if_neg (fun h=>hd (hcan.1 h).2.1)];simp only[STD,hT,hR,zj,hne,qiy,hd]
def okL(m:Int):Prop:=nl m<=1024
theorem qxy (h:okL m):qxh (tI m)=0:=by unfold qxh;rw[if_pos ⟨m,rfl⟩,qwl,if_pos (show (tN m.natAbs).length<=1024 from h)]
theorem qxB (h:okL m):(tI m).length<=1025:=by have:=qxc m;unfold okL nl at h;omega
theorem qmM (h:okL m):(zh [.s (tI m)]).run=some (0,[.i 0]):=by have:=qxB h;rw[qfW _ (by omega),qxy h]
def rS(l:List (List UInt8)):R:=l.map fun s=>[.s s]
theorem qto (l:List (List UInt8)):qm (rS l)=l.length:=by simp[rS,qm]
theorem qD1 {l:List (List UInt8)}{i:Nat}(h:i<l.length):cS (rS l) (i:Int) 0=l[i]:=by simp[cS,wD,rS,h,U.toS]
theorem qIX {l:List (List UInt8)}(hn:l.length<1000000)(h:∀s,s∈l->(zh [.s s]).run=some (0,[.i 0])):(wH [.r (rS l)]).run=some (0,[.i 0]):=by
 rw[qwu,qto];have key:=zu (S:=q6L) (fun i=>[.r (rS l),.i (l.length:Int),.i (i:Int)]) (0,[]) l.length (by omega) (fun i hi=>by
  rw[qjK,qD1 hi];have a1:(i:Int)<(l.length:Int):=by omega
  have a2:(i:Int)<qm (rS l):=by rw[qto];exact a1
  simp only[STD,a1,a2,qbz,and_self,h _ (qMg hi),kD hi (show l.length<9223372036854775808 by omega)]) (by
  rw[qjK];have a1:¬(l.length:Int)<(l.length:Int):=by omega
  simp only[STD,a1])
 simp only[show (((0:Nat)):Int)=0 from rfl] at key;simp only[STD,key,qT key]
theorem qgs {m n:Int}(hm:okL m)(hn:okL n):(wH [.r [[.s (tI m)],[.s (tI n)]]]).run=some (0,[.i 0]):=by
 have:=qIX (l:=[tI m,tI n]) (by simp) (fun s hs=>by
  simp only[qLx,qNt,or_false] at hs;rcases hs with rfl|rfl
  ·exact qmM hm
  ·exact qmM hn)
 exact this
theorem qek (n:Int)(h:-9223372036854775808<=n/\n<=9223372036854775807):(wP [.i n]).run=some (0,[.s (tI n)]):=by rw[qyO];simp only[STD,qJq n h]
theorem qbh (m:Int):(tI m=[48])=(m=0):=propext ⟨fun h=>qwf (n:=0) h,fun h=>by rw[h];rfl⟩
theorem q31 (m:Int):(ug [.s (tI m)]).run=some (0,[.i (sgn m)]):=by
 rw[quV];have a1:(0:Int)<qw (tI m):=by have:=qqt m;unfold qw;omega
 have hs:(sat (tI m) 0=45)=(m<0):=qzG m;unfold sgn;by_cases h0:m=0
 ·simp only[STD,zj,qbh,h0];rfl
 ·by_cases h1:m<0
  ·simp only[STD,zj,qbh,h0,a1,hs,h1,qLG,and_self]
  ·simp only[STD,zj,qbh,h0,a1,hs,h1,qLG,and_self]
theorem qoi (h:okL m):(q3f [.s (tI m)]).run=some (0,[.i (sgn m),.i 0]):=by rw[qug];simp only[STD,qmM h,q31]
theorem qHW (m n:Nat):(q6n [.s (tN m),.s (tN n)]).run=some (0,[.i (sgn ((m:Int)-(n:Int)))]):=by
 rw[qsr];have hl:(qw (tN m)=qw (tN n))=((tN m).length=(tN n).length):=by unfold qw;simp only[eq_iff_iff];omega
 have hl2:(qw (tN m)<qw (tN n))=((tN m).length<(tN n).length):=by unfold qw;simp only[eq_iff_iff];omega
 by_cases he:(tN m).length=(tN n).length
 ·have h:=qBr (zY m) (zY n) he;rw[q0E,q0E] at h;simp only[STD,hl,he,h]
 ·by_cases hlt:(tN m).length<(tN n).length
  ·have h:=(qyh m n).1 (.inl hlt);simp only[STD,hl,hl2,he,hlt];unfold sgn;rw[if_pos (by omega)]
  ·have h:=(qyh n m).1 (.inl (by omega));simp only[STD,hl,hl2,he,hlt];unfold sgn;rw[if_neg (by omega),if_neg (by omega)]
theorem qec (m:Int):(m<0/\sgn m=-1)\/(m=0/\sgn m=0)\/(0<m/\sgn m=1):=by
 unfold sgn;rcases qN3 m 0 with h|h|h
 ·rw[if_pos h];omega
 ·subst h;simp
 ·rw[if_neg (by omega),if_neg (by omega)];omega
theorem qqO (m:Int):-1<=sgn m/\sgn m<=1:=by rcases qec m with⟨_,e⟩|⟨_,e⟩|⟨_,e⟩<;>omega
theorem qIa (m n:Int):(if sgn m<sgn n then -1 else if sgn n<sgn m then 1 else sgn m*sgn ((m.natAbs:Int)-(n.natAbs:Int)))=sgn (m-n):=by
 rcases qec m with⟨a,ea⟩|⟨a,ea⟩|⟨a,ea⟩<;>rcases qec n with⟨b,eb⟩|⟨b,eb⟩|⟨b,eb⟩<;>rw[ea,eb]<;>simp only[Int.reduceLT,Int.reduceNeg,if_true,if_false] <;>
  rcases qec (m-n) with⟨c,ec⟩|⟨c,ec⟩|⟨c,ec⟩<;>rcases qec ((m.natAbs:Int)-(n.natAbs:Int)) with⟨d,ed⟩|⟨d,ed⟩|⟨d,ed⟩<;>omega
theorem qh5 {m n:Int}(hm:okL m)(hn:okL n):(uA [.s (tI m),.s (tI n)]).run=some (0,[.i (sgn (m-n)),.i 0]):=by
 rw[qpe];have h1:=qu5 (tI m);have h2:=qu5 (tI n);rw[qwl] at h1 h2;have h3:=qHW m.natAbs n.natAbs;have hw:∀a b:Int,-1<=a/\a<=1->-1<=b/\b<=1->vd .i64 a b=a*b:=fun a b ha hb=>q35 (by have:=qBp (A:=1) (B:=1) ha.1 ha.2 hb.1 hb.2;omega);have ba:=qqO m;have bb:=qqO n;have bc:=qqO ((m.natAbs:Int)-(n.natAbs:Int));have e:=qIa m n;by_cases c1:sgn m<sgn n
 ·rw[if_pos c1] at e;simp only[STD,qgs hm hn,q31,h1,h2,h3,c1,<-e]
 ·rw[if_neg c1] at e;by_cases c2:sgn n<sgn m
  ·rw[if_pos c2] at e;simp only[STD,qgs hm hn,q31,h1,h2,h3,c1,c2,<-e]
  ·rw[if_neg c2] at e;simp only[STD,qgs hm hn,q31,h1,h2,h3,c1,c2,hw _ _ ba bc,<-e]
theorem qok (m:Int)(hm:nl m<=2000):∃(n:Nat) (l:List Int),(wL [.s (tI m)]).run=some (0,[.b (decide (m<0)),.i (n:Int),.r (rI l)])/\WOK n l/\nrm n l/\mv l=m.natAbs/\9*n<=nl m+8:=by
 rw[quU];have h1:=qu5 (tI m);rw[qwl] at h1;have a1:(0:Int)<qw (tI m):=by have:=qqt m;unfold qw;omega
 have hb:ieq (sat (tI m) 0) 45=decide (m<0):=by rw[Bool.eq_iff_iff,qDG,qzG];simp
 have e0:q4f 232 [.i 0]=rI (List.replicate 232 0):=qky 232 0;have hL:(tN m.natAbs).length<=2000:=hm;obtain⟨j,qs,g1,rfl,n,l,rfl,g2,g3,g4⟩:=jQ (S:=q4r) (fun k ps=>∃(n:Nat) (l:List Int),ps=[.s ((tN m.natAbs).take k),.b (decide (m<0)),.i (n:Int),.r (rI l)]/\k<=(tN m.natAbs).length/\WOK n l /\
   (k=0/\9*n<=(tN m.natAbs).length+8\/k+9*n=(tN m.natAbs).length)/\((val (tN m.natAbs):Nat):Int)=((val ((tN m.natAbs).take k):Nat):Int)*pB n+mv l)
  (fun j qs=>j=0/\∃(n:Nat) (l:List Int),qs=[.b (decide (m<0)),.i (n:Int),.r (rI l)]/\WOK n l/\mv l=m.natAbs/\9*n<=(tN m.natAbs).length+8) (n:=(tN m.natAbs).length) (by omega)
  (fun k ps hk ⟨n,l,hps,hkl,hw,hkn,hv⟩=>by
   subst hps;rw[qqY];have hlk:qw ((tN m.natAbs).take k)=(k:Int):=by unfold qw;rw[qMw,qMI hkl]
   rcases qMz k with rfl|hk0
   ·right;refine⟨0,[.b (decide (m<0)),.i (n:Int),.r (rI l)],?_,rfl,n,l,rfl,hw,?_,by omega⟩
    ·have a:¬(0:Int)<qw ((tN m.natAbs).take 0):=by rw[hlk];omega
     simp only[STD,a]
    ·rw[q0E,List.take_zero,qeQ] at hv;simp at hv;omega
   ·left;have hn231:n<=231:=by omega
    obtain⟨q,hq,hq9⟩:∃q:Nat,qvr 0 (yF .i64 (k:Int) 9)=(q:Int)/\q=k-9:=by refine⟨k-9,?_,rfl⟩;rw[vV (by omega)];unfold qvr;split<;>omega
    have hqk:q<=k:=by omega
    have hsub:qcE ((tN m.natAbs).take k) (q:Int) (k:Int)=((tN m.natAbs).take k).drop q:=by unfold qcE;simp[List.take_take]
    have hsub2:qcE ((tN m.natAbs).take k) 0 (q:Int)=(tN m.natAbs).take q:=by unfold qcE;simp[List.take_take,qMI hqk]
    have hdg:q61 (((tN m.natAbs).take k).drop q):=qD4 (qw2 (zY _) k) q;have hdl:(((tN m.natAbs).take k).drop q).length=k-q:=by rw[qNu,qMw,qMI hkl]
    have hdn:((tN m.natAbs).take k).drop q≠[]:=by intro h;rw[h] at hdl;simp at hdl;omega
    have hA:=qCs (s:=((tN m.natAbs).take k).drop q) (by omega) (qvH hdg hdn);have hvl:=q7n hdg;rw[hdl] at hvl;have hv9:val (((tN m.natAbs).take k).drop q)<1000000000:=qMc hvl (by have:(10:Nat)^(k-q)<=10^9:=qN1 (by omega) (by omega);simpa using this);have b1:(0:Int)<(k:Int):=by omega
    have b2:(0:Int)<=(q:Int)/\(q:Int)<=(k:Int):=by omega
    have b3:(0:Int)<=(k:Int)/\(k:Int)<=(k:Int):=by omega
    have b4:(0:Int)<=(n:Int)/\(n:Int)<232:=by omega
    have b5:(0:Int)<=0/\(0:Int)<=(q:Int):=by omega
    have w1:qC .i64 (n:Int) 1=((n+1:Nat):Int):=by rw[zb (by omega)];omega
    have hnl:n<l.length:=by rw[hw.len];omega
    have hz:l[n]=0:=by rw[<-ye hnl];exact hw.z n (qLs _)
    have hW:=hw.setW (j:=n) (y:=((val (((tN m.natAbs).take k).drop q):Nat):Int)) (by omega) (by omega);rw[Nat.max_eq_right (by omega)] at hW;refine⟨q,[.s ((tN m.natAbs).take q),.b (decide (m<0)),.i ((n+1:Nat):Int),.r (rI (l.set n ((val (((tN m.natAbs).take k).drop q):Nat):Int)))],by omega,?_,n+1,_,rfl,by omega,hW,by omega,?_⟩
    ·simp only[STD,hlk,b1,hq,b2,b3,b4,b5,and_self,hsub,hsub2,hA,w1,qku]
    ·rw[qzH l n hnl,hz,hv];have hsp:val ((tN m.natAbs).take k)=val ((tN m.natAbs).take q)*10^(k-q)+val (((tN m.natAbs).take k).drop q):=by
      have h1:(tN m.natAbs).take k=((tN m.natAbs).take k).take q++((tN m.natAbs).take k).drop q:=(qNy q _).symm;have h2:((tN m.natAbs).take k).take q=(tN m.natAbs).take q:=by rw[List.take_take,qMI hqk]
      rw[h2] at h1;generalize ((tN m.natAbs).take k).drop q=D at *;rw[h1,qtG,hdl]
     rw[hsp,qaO];rcases qLy k 9 with h9|h9
     ·have:q=0:=by omega
      subst this;rw[List.take_zero,qeQ];simp;omega
     ·have:k-q=9:=by omega
      rw[this];simp only[qNq,qMj];have e9:(((10:Nat)^9:Nat):Int)=1000000000:=by simp
      rw[e9];grind) (ps:=[.s ((tN m.natAbs).take (tN m.natAbs).length),.b (decide (m<0)),.i 0,.r (rI (List.replicate 232 0))])
  ⟨0,_,rfl,qLs _,WOK.zero,.inr (by omega),by rw[q6A,qML,qfc];simp⟩
 rw[qML] at g1;obtain⟨n2,t1,t2,t3⟩:=qmu g2 (decide (m<0));refine⟨n2,l,?_,t2,t3,g3,?_⟩
 ·simp only[STD,e0,hb,h1,a1,qLG,and_self,g1,t1]
 ·have:=qKR t2 t3 g2 (qLG _);unfold nl;omega
end Go.Eng

namespace Go.Eng
variable {m:Int}{n:Nat}
theorem qHk {k n:Nat}(h:nl m<=k)(hk:k<=9*n):(m.natAbs:Int)<pB n:=by rw[qCC];have h1:=qIO h;have h2:(10:Nat)^k<=10^(9*n):=qN1 (by omega) hk;omega
theorem qsR (h:okL m):(m.natAbs:Int)<pB 114:=qHk (k:=1024) h (by omega)
theorem quc (h:okL m):okL (-m):=by unfold okL;rw[qrf];exact h
theorem qEs:pB n+pB n<=pB (n+1):=by rw[qaO];have:=qcC n;omega
theorem qJk {b:Bool}{l:List Int}(h:0<=mv l):((sv b l).natAbs:Int)=mv l:=by unfold sv;cases b<;>simp<;>omega
theorem qvy {l:List Int}(h:WOK n l)(hn:nrm n l)(b:Bool)(hk:okL (sv b l)):(wC [.b b,.i (n:Int),.r (rI l)]).run=some (0,[.s (tI (sv b l)),.i 0,.b b,.i (n:Int),.r (rI l)]):=by rw[qhh];simp only[STD,qzC h hn,qmM hk]
theorem qyC (m n:Int):(uc [.s (tI m),.s (tI n)]).run=some (0,if (tI m).length<=9/\(tI n).length<=9 then [.i m,.i n,.b true] else [.i 0,.i 0,.b false]):=by
 rw[qsA];have h1:(9<qw (tI m))=¬(tI m).length<=9:=by unfold qw;simp only[eq_iff_iff];omega
 have h2:(9<qw (tI n))=¬(tI n).length<=9:=by unfold qw;simp only[eq_iff_iff];omega
 by_cases a:(tI m).length<=9
 ·by_cases b:(tI n).length<=9
  ·simp only[STD,h1,h2,a,b,and_self,qCs (s:=tI m) (by omega) (qC8 m),qCs (s:=tI n) (by omega) (qC8 n)]
  ·simp only[STD,h1,h2,a,b,and_false]
 ·simp only[STD,h1,a,false_and]
theorem qiB (h:(tI m).length<=9):m.natAbs<1000000000:=by
 have:(tN m.natAbs).length<=9:=by
  unfold tI at h;split at h
  ·simp at h;omega
  ·exact h
 exact qMc (q6a this) (by simp)
theorem qA0 (n:Int)(h:-9223372036854775808<=n/\n<=9223372036854775807):(q05 [.i n]).run=some (0,[.s (tI n),.i 0]):=by rw[qqM];simp only[STD,qek n h]
theorem qDK {l:List Int}(h:mv l=m.natAbs):sv (decide (m<0)) l=m:=by
 unfold sv;by_cases hm:m<0
 ·rw[decide_eq_true hm,if_pos rfl];omega
 ·rw[decide_eq_false hm,if_neg (by simp)];omega
theorem qJR {m n:Int}(hm:okL m)(hn:okL n)(hs:okL (m+n)):(qbJ [.r [[.s (tI m)],[.s (tI n)]]]).run=some (0,[.s (tI (m+n)),.i 0]):=by
 rw[qw8];have e0:q4f 232 [.i 0]=rI (List.replicate 232 0):=qky 232 0;have lm:=qsR hm;have ln:=qsR hn;obtain⟨q1,l1,r1,w1,n1,v1,_⟩:=qok m (by unfold okL at hm;omega);obtain⟨q2,l2,r2,w2,n2,v2,_⟩:=qok n (by unfold okL at hn;omega);have hb2:=qcY (show 115<=232 by omega);have hb1:pB 114+pB 114<=pB 115:=qEs;have hb0:=qcC 114;obtain⟨b1,k1,m1,a1,a2,a3,a4⟩:=qGT (lx:=List.replicate 232 0) (nx:=0) WOK.zero (.inl rfl) w1 n1 (by rw[qfc,v1];omega) false (decide (m<0));rw[qDK v1] at a4;have a5:sv b1 m1=m:=by
  have:sv false (List.replicate 232 0)=0:=by unfold sv;rw[if_neg (by simp),qfc]
  rw[a4,this];omega
 obtain⟨b2,k2,m2,c1,c2,c3,c4⟩:=qGT a2 a3 w2 n2 (by rw[<-qJk (b:=b1) a2.bd.1,a5,v2];omega) b1 (decide (n<0));rw[qDK v2,a5] at c4;have key:=zu (S:=q6B) (fun i=>match i with
  | 0=>[.r [[.s (tI m)],[.s (tI n)]],.i 2,.i 0,.b false,.i 0,.r (rI (List.replicate 232 0))]
  | 1=>[.r [[.s (tI m)],[.s (tI n)]],.i 2,.i 1,.b b1,.i (k1:Int),.r (rI m1)]
  | _=>[.r [[.s (tI m)],[.s (tI n)]],.i 2,.i 2,.b b2,.i (k2:Int),.r (rI m2)]) (0,[.b b2,.i (k2:Int),.r (rI m2)]) 2 (by omega) (fun i hi=>by
   have:i=0\/i=1:=by omega
   have d0:cS [[.s (tI m)],[.s (tI n)]] 0 0=tI m:=rfl;have d1:cS [[.s (tI m)],[.s (tI n)]] 1 0=tI n:=rfl;have d2:qm [[U.s (tI m)],[U.s (tI n)]]=2:=rfl;rcases this with rfl|rfl
   ·simp only;rw[qdx,d0,d2];simp only[show ((0:Nat):Int)=0 from rfl] at a1;have w:qC .i64 0 1=1:=by decide
    simp only[STD,r1,a1,w,show (0:Int)<2 by omega,show (0:Int)<=0 by omega,and_self]
   ·simp only;rw[qdx,d1,d2];have w:qC .i64 1 1=2:=by decide
    simp only[STD,r2,c1,w,show (1:Int)<2 by omega,show (0:Int)<=1 by omega,and_self]) (by
   simp only;rw[qdx];simp only[STD,show ¬(2:Int)<2 by omega])
 simp only at key;have hL:=qvy c2 c3 b2 (by rw[c4];exact hs);rw[c4] at hL;have d2:qm [[U.s (tI m)],[U.s (tI n)]]=2:=rfl;simp only[e0,d2];simp only[STD,key,hL]
theorem qKj {m n:Int}(hm:okL m)(hn:okL n)(hs:okL (m+n)):(q2Q [.s (tI m),.s (tI n)]).run=some (0,[.s (tI (m+n)),.i 0]):=by
 rw[qw5];have h:=qyC m n;by_cases hc:(tI m).length<=9/\(tI n).length<=9
 ·rw[if_pos hc] at h;have b1:=qiB hc.1;have b2:=qiB hc.2;have w:qC .i64 m n=m+n:=zb (by omega);simp only[STD,qgs hm hn,h,w,qA0 (m+n) (by omega)]
 ·rw[if_neg hc] at h;simp only[STD,qgs hm hn,h,qJR hm hn hs]
theorem qAJ (hm:okL m):(q1W [.s (tI m)]).run=some (0,[.s (tI (-m))]):=by
 rw[qn7];have hl:=qxB hm;have hp:=qqt m;rcases qec m with⟨h,e⟩|⟨h,e⟩|⟨h,e⟩
 ·have a1:(0:Int)<=qw (tI m)/\qw (tI m)<=qw (tI m):=by unfold qw;omega
  have a2:(0:Int)<=1/\1<=qw (tI m):=by unfold qw;omega
  have a3:qcE (tI m) 1 (qw (tI m))=tI (-m):=by unfold qcE qw;rw[qcu h,qk0 (m:=-m) (by omega),Int.natAbs_neg];simp
  simp only[STD,q31,e,a1,a2,a3,and_self,show ¬((-1:Int)=0) by omega,show ¬((-1:Int)=1) by omega]
 ·simp only[STD,q31,e];rw[h];rfl
 ·have a1:qw [45]+qw (tI m)<=140737488355328:=by unfold qw;simp;omega
  have a3:qeI [45] (tI m)=tI (-m):=by unfold qeI;rw[qcu (m:=-m) (by omega),qk0 (m:=m) (by omega),Int.natAbs_neg];rfl
  simp only[STD,q31,e,a1,a3,show ¬((1:Int)=0) by omega]
theorem qKG {m n:Int}(hm:okL m)(hn:okL n)(hs:okL (m-n)):(q7v [.s (tI m),.s (tI n)]).run=some (0,[.s (tI (m-n)),.i 0]):=by rw[qx3];have h:=qKj hm (quc hn) (by rwa [<-Int.sub_eq_add_neg]);rw[<-Int.sub_eq_add_neg] at h;simp only[STD,qgs hm hn,qAJ hn,h]
theorem qKM {m n:Int}(hm:okL m)(hn:okL n)(hs:okL (m*n)):(q5f [.s (tI m),.s (tI n)]).run=some (0,[.s (tI (m*n)),.i 0]):=by
 rw[qwg];have h:=qyC m n;by_cases hc:(tI m).length<=9/\(tI n).length<=9
 ·rw[if_pos hc] at h;have b1:=qiB hc.1;have b2:=qiB hc.2;have b3:=qBp (A:=999999999) (B:=999999999) (a:=m) (b:=n) (by omega) (by omega) (by omega) (by omega);have w:vd .i64 m n=m*n:=q35 (by omega);simp only[STD,qgs hm hn,h,w,qA0 (m*n) (by omega)]
 ·rw[if_neg hc] at h;unfold okL at hm hn;obtain⟨q1,l1,r1,w1,n1,v1,z1⟩:=qok m (by omega);obtain⟨q2,l2,r2,w2,n2,v2,z2⟩:=qok n (by omega);obtain⟨k,l,t1,t2,t3,t4⟩:=qHw w1 w2 (by omega) (decide (m<0)) (decide (n<0));have hv:sv (!(Go.Eng.beq (decide (m<0)) (decide (n<0)))) l=m*n:=by
   unfold sv;rw[t4,v1,v2];have e:((m.natAbs:Int)*(n.natAbs:Int))=(((m*n).natAbs:Nat):Int):=by rw[qMG];simp
   rw[e];unfold Go.Eng.beq;rcases qN3 m 0 with a|a|a
   ·rcases qN3 n 0 with b|b|b
    ·have:=Int.mul_pos_of_neg_of_neg a b;simp[a,b];omega
    ·subst b;simp
    ·have:=qNO a b;have b':¬n<0:=by omega
     simp[a,b'];omega
   ·subst a;simp
   ·have a':¬m<0:=by omega
    rcases qN3 n 0 with b|b|b
    ·have:=Int.mul_neg_of_pos_of_neg a b;simp[a',b];omega
    ·subst b;simp
    ·have:=Int.mul_pos a b;have b':¬n<0:=by omega
     simp[a',b'];omega
  have hL:=qvy t2 t3 (!(Go.Eng.beq (decide (m<0)) (decide (n<0)))) (by rw[hv];exact hs);rw[hv] at hL;simp only[STD,qgs hm hn,h,r1,r2,t1,hL]
theorem qC5 {l:List Int}(h:WOK n l)(hn:nrm n l){k:Nat}(hl:mv l<pB k):n<=k:=by
 rcases qLy k n with h1|h1
 ·have:=h.lo hn (by omega);have:=qcY (show k<=n-1 by omega);omega
 ·exact h1
theorem qF9 {k n:Int}(h0:n≠0)(hm:okL (k*n))(hn:okL n):(q4I [.s (tI (k*n)),.s (tI n)]).run=some (0,[.s (tI k),.s (tI 0),.i 0]):=by
 rw[qqy];have h:=qyC (k*n) n;have hz:¬tI n=[48]:=by rw[qbh];exact h0
 by_cases hc:(tI (k*n)).length<=9/\(tI n).length<=9
 ·rw[if_pos hc] at h;have b1:=qiB hc.1;have b2:=qiB hc.2;have hk:k.natAbs<=(k*n).natAbs:=by rw[qMG];have:k.natAbs*1<=k.natAbs*n.natAbs:=Nat.mul_le_mul_left _ (by omega);omega
  have w1:qb4 (k*n) n=0:=by unfold qb4;exact Int.mul_tmod_left k n
  have w2:qcK .i64 (k*n) n=k:=by rw[qMB];exact qiQ h0 (by omega)
  simp only[STD,qgs hm hn,zj,hz,h,h0,w1,w2,qek k (by omega),qek 0 (by omega)]
 ·rw[if_neg hc] at h;have lm:=qsR hm;have ln:=qsR hn;obtain⟨q1,l1,r1,w1,n1,v1,z1⟩:=qok (k*n) (by unfold okL at hm;omega);obtain⟨q2,l2,r2,w2,n2,v2,z2⟩:=qok n (by unfold okL at hn;omega);have hq2:q2<=114:=qC5 w2 n2 (by omega);have hq0:q2≠0:=fun h=>by rw[qmj w2 n2] at h;omega
  obtain⟨nq,lq,nr,lr,d1,d2,d3,d4,d5,d6,d7⟩:=qi6 w1 w2 n2 hq0 (by omega) (decide (k*n<0)) (decide (n<0));have e1:((k*n).natAbs:Int)=(k.natAbs:Int)*(n.natAbs:Int):=by rw[qMG];simp
  rw[v1,v2,e1] at d6;rw[v2] at d7;have b4:=d4.bd.1;have hr0:mv lr=0/\mv lq=k.natAbs:=by
   have hn0:(0:Int)<(n.natAbs:Int):=by omega
   have e2:((k.natAbs:Int)-mv lq)*(n.natAbs:Int)=mv lr:=by rw[Int.sub_mul];omega
   rcases qN3 ((k.natAbs:Int)-mv lq) 0 with a|a|a
   ·have:=qNO a hn0;omega
   ·rw[a,Int.zero_mul] at e2;omega
   ·have:=qNs (show 1<=(k.natAbs:Int)-mv lq by omega) (show 0<=(n.natAbs:Int) by omega);omega
  have hnr:nr=0:=by rw[qmj d4 d5];exact hr0.1
  have hv:sv (!(Go.Eng.beq (decide (k*n<0)) (decide (n<0)))) lq=k:=by
   unfold sv;rw[hr0.2];unfold Go.Eng.beq;rcases qN3 k 0 with a|a|a
   ·rcases qN3 n 0 with b|b|b
    ·have:=Int.mul_pos_of_neg_of_neg a b;have c:¬k*n<0:=by omega
     simp[b,c];omega
    ·exact absurd b h0
    ·have c:=qNO a b;have b':¬n<0:=by omega
     simp[b',c];omega
   ·subst a;simp
   ·rcases qN3 n 0 with b|b|b
    ·have c:=Int.mul_neg_of_pos_of_neg a b;simp[b,c];omega
    ·exact absurd b h0
    ·have:=Int.mul_pos a b;have c:¬k*n<0:=by omega
     have b':¬n<0:=by omega
     simp[b',c];omega
  have hT:=qzC d2 d3 (!(Go.Eng.beq (decide (k*n<0)) (decide (n<0))));rw[hv] at hT;have hT2:=qzC d4 d5 (decide (k*n<0));have hv0:sv (decide (k*n<0)) lr=0:=by unfold sv;rw[hr0.1];split<;>rfl
  rw[hv0] at hT2;have hnr':¬(0:Int)<(nr:Int):=by omega
  simp only[STD,qgs hm hn,zj,hz,h,r1,r2,d1,hnr',hT,hT2]
theorem qGB {m n:Int}(h:m.natAbs<=n.natAbs)(hn:okL n):okL m:=qLu (kI h) hn
theorem qL0 {k n:Int}(h0:n≠0)(hm:okL (k*n))(hn:okL n):(q7G [.s (tI (k*n)),.s (tI n)]).run=some (0,[.s (tI k),.i 0]):=by rw[qvA];have hk:okL k:=qGB (by rw[qMG];have:k.natAbs*1<=k.natAbs*n.natAbs:=Nat.mul_le_mul_left _ (by omega);omega) hm;simp only[STD,qF9 h0 hm hn,qmM hk]
theorem qDN (a b:Nat)(hb:b<9223372036854775808):(qh q26 [.i (a:Int),.i (b:Int)]).run=some (0,[.i ((Nat.gcd a b:Nat):Int)]):=by
 obtain⟨j,qs,h1,rfl,rfl⟩:=jQ (S:=q26) (fun k ps=>∃x y:Nat,ps=[.i (x:Int),.i (y:Int)]/\y=k/\Nat.gcd x y=Nat.gcd a b)
  (fun j qs=>j=0/\qs=[.i ((Nat.gcd a b:Nat):Int)]) (n:=b) hb (fun k ps hk ⟨x,y,hps,hy,hg⟩=>by
  subst hps;rw[qqs];by_cases h0:y=0
  ·right;refine⟨0,[.i (x:Int)],?_,rfl,?_⟩
   ·simp only[STD,h0];simp[]
   ·rw[<-hg,h0,Nat.gcd_zero_right]
  ·left;refine⟨x%y,[.i (y:Int),.i ((x%y:Nat):Int)],by rw[<-hy];exact qMP _ (by omega),?_,y,x%y,rfl,rfl,?_⟩
   ·simp only[STD,show ¬((y:Int)=0) by omega,qpu]
   ·rw[<-hg,qN2 y,<-Nat.gcd_rec,qN2]) (ps:=[.i (a:Int),.i (b:Int)]) ⟨a,b,rfl,rfl,rfl⟩
 exact h1
theorem qGx {l:List Int}(h:WOK n l)(hn:n<=1):mv l=l.getD 0 0:=by
 have:=qcd l 1 (by rw[h.len];omega);rw[vA h.dig h.z hn,qMH,Int.add_zero] at this;have hl:=h.len;obtain⟨x,t,rfl⟩:∃x t,l=x::t:=by
  cases l with
  | nil=>simp at hl
  | cons x t=>exact⟨x,t,rfl⟩
 rw[this];simp[mv]
theorem qJp {m n:Int}(hm:okL m)(hn:okL n):(q2L [.s (tI m),.s (tI n)]).run=some (0,[.s (tN (Nat.gcd m.natAbs n.natAbs)),.i 0]):=by
 rw[qvE];have lm:=qsR hm;have ln:=qsR hn;obtain⟨q1,l1,r1,w1,n1,v1,_⟩:=qok m (by unfold okL at hm;omega);obtain⟨q2,l2,r2,w2,n2,v2,_⟩:=qok n (by unfold okL at hn;omega);have hm':(tN m.natAbs).length<=1024:=hm;have hn':(tN n.natAbs).length<=1024:=hn;obtain⟨j,qs,g1,g2⟩:=jQ (S:=q6K) (fun k ps=>∃(x y:Nat) (b1 b2:Bool) (nx ny:Nat) (lx ly:List Int),ps=[.b b1,.i (nx:Int),.r (rI lx),.b b2,.i (ny:Int),.r (rI ly)] /\
   WOK nx lx/\nrm nx lx/\WOK ny ly/\nrm ny ly/\mv lx=x/\mv ly=y/\eM x y=k/\Nat.gcd x y=Nat.gcd m.natAbs n.natAbs/\(x:Int)<pB 114/\(y:Int)<pB 114)
  (fun j qs=>(j=0/\∃(b:Bool) (n':Nat) (l:List Int),qs=[.b b,.i (n':Int),.r (rI l)]/\WOK n' l/\nrm n' l/\mv l=((Nat.gcd m.natAbs n.natAbs:Nat):Int))\/(j=1/\qs=[.s (tN (Nat.gcd m.natAbs n.natAbs)),.i 0])) (n:=eM m.natAbs n.natAbs) (qzg (by omega) (by omega))
  (fun k ps hk ⟨x,y,b1,b2,nx,ny,lx,ly,hps,hw,hnw,hw2,hn2,hx,hy,he,hg,lx1,ly1⟩=>by
  subst hps;rw[qsa];have hxl:=hw.len;have hyl:=hw2.len;by_cases h0:ny=0
  ·right;have hy0:mv ly=0:=by rw[<-qmj hw2 hn2];exact h0
   have hy0':y=0:=by omega
   refine⟨0,[.b b1,.i (nx:Int),.r (rI lx)],?_,.inl ⟨rfl,b1,nx,lx,rfl,hw,hnw,?_⟩⟩
   ·simp only[STD,h0,show ¬(0:Int)<((0:Nat):Int) by omega]
   ·rw[hx,<-hg,hy0',Nat.gcd_zero_right]
  ·have a0:(0:Int)<(ny:Int):=by omega
   have hy0:y≠0:=fun h=>h0 (by rw[qmj hw2 hn2];omega);by_cases hc:nx<=1/\ny<=1
   ·right;have e1:=qGx hw hc.1;have e2:=qGx hw2 hc.2;have d1:cI (rI lx) 0 0=(x:Int):=by rw[show (0:Int)=((0:Nat):Int) from rfl,q5P,<-e1,hx]
    have d2:cI (rI ly) 0 0=(y:Int):=by rw[show (0:Int)=((0:Nat):Int) from rfl,q5P,<-e2,hy]
    have hy9:=hw2.get 0;rw[<-e2,hy] at hy9;have hE:=qDN x y (by omega);have hgl:Nat.gcd x y<=y:=Nat.gcd_le_right _ (by omega);have hO:=qek ((Nat.gcd x y:Nat):Int) (by omega);rw[q0W] at hO;have c1:(nx:Int)<=1:=by omega
    have c2:(ny:Int)<=1:=by omega
    refine⟨1,[.s (tN (Nat.gcd x y)),.i 0],?_,.inr ⟨rfl,by rw[hg]⟩⟩;simp only[STD,a0,c1,c2,d1,d2,hE,hO]
   ·left;have hny:ny<=114:=qC5 hw2 hn2 (by omega);obtain⟨nq,lq,nr,lr,d1,d2,d3,d4,d5,d6,d7⟩:=qi6 hw hw2 hn2 h0 (by omega) b1 b2;have hr:mv lr=((x%y:Nat):Int):=by
     have b4:=d4.bd.1;rw[hx,hy] at d6;rw[hy] at d7;have hy1:(0:Int)<(y:Int):=by omega
     have:=(Int.ediv_emod_unique hy1 (a:=(x:Int)) (r:=mv lr) (q:=mv lq)).2 ⟨by rw[qMB];omega,b4,d7⟩;rw[<-this.2];simp
    refine⟨eM y (x%y),[.b b2,.i (ny:Int),.r (rI ly),.b false,.i (nr:Int),.r (rI lr)],by rw[<-he];exact qEi hy0,?_,y,x%y,b2,false,ny,nr,ly,lr,rfl,hw2,hn2,d4,d5,hy,hr,rfl,?_,ly1,?_⟩
    ·by_cases c1:nx<=1
     ·have c2:¬(ny:Int)<=1:=by omega
      have c1':(nx:Int)<=1:=by omega
      simp only[STD,a0,c1',c2,d1]
     ·have c1':¬(nx:Int)<=1:=by omega
      simp only[STD,a0,c1',d1]
    ·rw[<-hg,qN2 y,<-Nat.gcd_rec,qN2]
    ·have:=qMP x (show 0<y by omega);omega) (ps:=[.b (decide (m<0)),.i (q1:Int),.r (rI l1),.b (decide (n<0)),.i (q2:Int),.r (rI l2)])
  ⟨m.natAbs,n.natAbs,_,_,q1,q2,l1,l2,rfl,w1,n1,w2,n2,v1,v2,rfl,rfl,lm,ln⟩
 rcases g2 with⟨rfl,b,n',l,rfl,a1,a2,a3⟩|⟨rfl,rfl⟩
 ·have hT:=qzC a1 a2 false;have hv:sv false l=((Nat.gcd m.natAbs n.natAbs:Nat):Int):=by unfold sv;rw[a3];rfl
  rw[hv,q0W] at hT;simp only[STD,qgs hm hn,r1,r2,g1,qT g1,hT]
 ·simp only[STD,qgs hm hn,r1,r2,g1,qT g1,show ¬(1=0) by omega]
end Go.Eng

namespace Go.Eng
variable {q:Rat}
theorem qbR:okL 1:=by show nl 1<=1024;decide
theorem q9M:okL 0:=by show nl 0<=1024;decide
theorem qJg (s:qLp)(hl:s.length<=1000000000):(q6q [.s s,.s [47]]).run=some (0,if sP s<s.length then [.s (s.take (sP s)),.s (s.drop (sP s+1)),.b true] else [.s s,.s [],.b false]):=by
 rw[qs6];have h:(wz [.s s,.s [47]]).run=some (0,if sP s<s.length then [.s (s.take (sP s)),.s (s.drop (sP s+1)),.b true] else [.s s,.s [],.b false]):=by
  rw[qbD];have hI:=qIn s;by_cases hc:sP s<s.length
  ·rw[if_pos hc] at hI ⊢;have w:qC .i64 (sP s:Int) (qw [47])=((sP s+1:Nat):Int):=by show qC .i64 (sP s:Int) 1=_;rw[zb (by omega)];omega
   have a1:(0:Int)<=(sP s:Int)/\(sP s:Int)<=qw s:=by unfold qw;omega
   have a2:(0:Int)<=0/\(0:Int)<=(sP s:Int):=by omega
   have a3:(0:Int)<=qw s/\qw s<=qw s:=by unfold qw;omega
   have a4:(0:Int)<=((sP s+1:Nat):Int)/\((sP s+1:Nat):Int)<=qw s:=by unfold qw;omega
   have e1:qcE s 0 (sP s:Int)=s.take (sP s):=by unfold qcE;simp
   have e2:qcE s ((sP s+1:Nat):Int) (qw s)=s.drop (sP s+1):=by unfold qcE qw;simp only[qLD];rw[qML]
   simp only[STD,hI,a1.1,a1.2,a2,a3,a4,and_self,w,e1,e2]
  ·rw[if_neg hc] at hI ⊢;have a:¬(0:Int)<=-1:=by omega
   simp only[STD,hI,a]
 by_cases hc:sP s<s.length
 ·rw[if_pos hc] at h ⊢;simp only[STD,h]
 ·rw[if_neg hc] at h ⊢;simp only[STD,h]
theorem qK8 (s:qLp)(hl:s.length<=1000000000):(qL [.s s]).run=some (0,[.s (spn s),.s (spd s),.b (decide (sP s<s.length))]):=by
 rw[qvU];have h:=qJg s hl;unfold spn spd;by_cases hc:sP s<s.length
 ·rw[if_pos hc] at h ⊢;rw[decide_eq_true hc];simp only[STD,h]
 ·rw[if_neg hc] at h ⊢;have:sP s=s.length:=by have:=qF1 s;omega
  rw[decide_eq_false hc,this,qML];simp only[STD,h]
theorem qJI (q:Rat):(sP (tQ q)<(tQ q).length)=(q.den≠1):=by
 by_cases h:q.den=1
 ·rw[qbw h,quI (qs9 _)];simp[h]
 ·rw[q6b h,qDB (qs9 _)];simp[h]
def okQ(q:Rat):Prop:=qn q<=1024/\qd q<=1024
theorem q2o (h:okQ q):okL q.num:=h.1
theorem kd (h:okQ q):okL (q.den:Int):=h.2
theorem q5r (h:okQ q):(tQ q).length<=3000:=by have:=qGQ q;have:=h.1;have:=h.2;omega
theorem q7j (h:okQ q):(qL [.s (tQ q)]).run=some (0,[.s (tI q.num),.s (tI (q.den:Int)),.b (decide (q.den≠1))]):=by have:=q5r h;rw[qK8 _ (by omega),qDL,qC0,q0W];simp only[qJI]
open Classical in
noncomputable def vI(s:qLp):Int:=if h:∃m:Int,s=tI m then h.choose else 0
theorem qyF (m:Int):vI (tI m)=m:=by unfold vI;have h:∃k:Int,tI m=tI k:=⟨m,rfl⟩;rw[dif_pos h];exact(qwf h.choose_spec).symm
theorem qo0 {s:qLp}(h:qxh s=0):∃m:Int,s=tI m/\okL m:=by
 unfold qxh at h;split at h
 ·rename_i hm;obtain⟨m,rfl⟩:=hm;rw[qwl] at h;split at h
  ·rename_i hl;exact⟨m,rfl,hl⟩
  ·omega
 ·omega
theorem qlS (s:qLp):qxh s=0\/qxh s=3\/qxh s=11:=by
 unfold qxh;split
 ·split<;>simp
 ·simp
noncomputable def qr1(s:qLp):Int:=
 if qxh (spn s)=3 then 3 else if qxh (spd s)=3 then 3 else if qxh (spn s)≠0 then 11 else if qxh (spd s)≠0 then 11
 else if sP s<s.length then (if sgn (vI (spd s)-1)<=0 then 3 else if Nat.gcd (vI (spn s)).natAbs (vI (spd s)).natAbs=1 then 0 else 3) else 0
theorem qGU (s:qLp):(spn s).length<=s.length:=by unfold spn;rw[qMw];omega
theorem qGv (s:qLp):(spd s).length<=s.length+1:=by unfold spd;split<;>simp<;>omega
theorem qa5 (s:qLp)(hl:s.length<=100000000):(qP [.s s]).run=some (0,[.i (qr1 s)]):=by
 rw[qrM];have hn:=qGU s;have hd:=qGv s;have h1:=qfW (spn s) (by omega);have h2:=qfW (spd s) (by omega);have hc:=qK8 s (by omega);have mx:qvr 11 0=11/\qvr 11 11=11/\qvr 0 11=11:=by decide
 unfold qr1;rcases qlS (spn s) with a|a|a<;>rcases qlS (spd s) with b|b|b<;>rw[a] at h1 ⊢<;>rw[b] at h2 ⊢
 ·obtain⟨m,em,om⟩:=qo0 a;obtain⟨n,en,on⟩:=qo0 b;rw[em] at h1 hc ⊢;rw[en] at h2 hc ⊢;have hC:=qh5 on (n:=1) qbR;rw[qEb] at hC;have hG:=qJp om on;rw[qyF,qyF];by_cases hs:sP s<s.length
  ·by_cases ho:sgn (n-1)<=0
   ·simp only[STD,hc,h1,h2,hs,hC,hG,ho,show ¬((0:Int)=3) by omega,show ¬((0:Int)≠0) by omega]
   ·by_cases hg:Nat.gcd m.natAbs n.natAbs=1
    ·simp only[STD,hc,h1,h2,hs,hC,hG,ho,hg,zj,q5J,show ¬((0:Int)=3) by omega,show ¬((0:Int)≠0) by omega]
    ·simp only[STD,hc,h1,h2,hs,hC,hG,ho,hg,zj,q5J,show ¬((0:Int)=3) by omega,show ¬((0:Int)≠0) by omega]
  ·simp only[STD,hc,h1,h2,hs,show ¬((0:Int)=3) by omega,show ¬((0:Int)≠0) by omega]
 all_goals simp only[STD,hc,h1,h2,mx,show ¬((0:Int)=3) by omega,show ¬((11:Int)=3) by omega,show ¬((11:Int)=0) by omega,show ¬((3:Int)=0) by omega]
theorem qtV (s:qLp)(hl:s.length<=100000000):(q6t [.s s]).run=some (0,[.i (qr1 s)]):=by
 rw[qsd];have hn:=qGU s;have hd:=qGv s;have h1:=qlr (spn s) (by omega);have h2:=qlr (spd s) (by omega);have hc:=qEm s (by omega);have hsl:=qDb s (by omega);unfold qr1;rcases qlS (spn s) with a|a|a<;>rcases qlS (spd s) with b|b|b<;>rw[a] at h1 ⊢<;>rw[b] at h2 ⊢
 ·obtain⟨m,em,om⟩:=qo0 a;obtain⟨n,en,on⟩:=qo0 b;rw[em] at h1 hc ⊢;rw[en] at h2 hc ⊢;unfold okL at om on;have hC:=quA n 1 (by omega) (by decide);rw[qEb] at hC;have hG:=qjI m n (by omega) (by omega);rw[qyF,qyF];by_cases hs:sP s<s.length
  ·rw[if_pos hs] at hsl;have a0:(0:Int)<=(sP s:Int):=by omega
   by_cases ho:sgn (n-1)<=0
   ·simp only[STD,hc,h1,h2,hsl,hs,a0,hC,hG,ho,show ¬((0:Int)=3) by omega]
   ·by_cases hg:Nat.gcd m.natAbs n.natAbs=1
    ·simp only[STD,hc,h1,h2,hsl,hs,a0,hC,hG,ho,hg,zj,q5J,show ¬((0:Int)=3) by omega]
    ·simp only[STD,hc,h1,h2,hsl,hs,a0,hC,hG,ho,hg,zj,q5J,show ¬((0:Int)=3) by omega]
  ·rw[if_neg hs] at hsl;simp only[STD,hc,h1,h2,hsl,hs,show ¬((0:Int)=3) by omega,show ¬((0:Int)<=-1) by omega]
 all_goals simp only[STD,hc,h1,h2,show ¬((0:Int)=3) by omega,show ¬((11:Int)=3) by omega,show ¬((11:Int)=0) by omega,show ¬((3:Int)=0) by omega]
theorem qqj (h:okQ q):qr1 (tQ q)=0:=by
 unfold qr1;have e1:spd (tQ q)=tI (q.den:Int):=by rw[qC0,q0W]
 rw[qDL,e1,qxy (q2o h),qxy (kd h)];simp only[qyF,qJI];by_cases hd:q.den=1
 ·simp[hd]
 ·have:=q.den_nz;have hs:¬sgn ((q.den:Int)-1)<=0:=by unfold sgn;rw[if_neg (by omega),if_neg (by omega)];omega
  have hr:Nat.gcd q.num.natAbs q.den=1:=q.reduced;simp[hd,hs,hr]
theorem qIb {s:qLp}(h:qr1 s=0):∃q:Rat,s=tQ q/\okQ q:=by
 unfold qr1 at h;split at h
 ·omega
 split at h
 ·omega
 split at h
 ·omega
 split at h
 ·omega
 rename_i h1 h2 h3 h4;obtain⟨m,em,om⟩:=qo0 (Decidable.byContradiction fun h=>h3 h);obtain⟨n,en,on⟩:=qo0 (Decidable.byContradiction fun h=>h4 h);rw[em,en,qyF,qyF] at h;split at h
 ·rename_i hs;split at h
  ·omega
  rename_i hsg;split at h
  ·rename_i hg;have hn1:1<n:=by
    unfold sgn at hsg;by_cases c1:n-1<0
    ·rw[if_pos c1] at hsg;omega
    ·rw[if_neg c1] at hsg;by_cases c2:n-1=0
     ·rw[if_pos c2] at hsg;omega
     ·omega
   obtain⟨k,rfl⟩:∃k:Nat,n=(k:Int):=⟨n.toNat,by omega⟩;refine⟨⟨m,k,by omega,hg⟩,?_,om,on⟩;rw[q6b (show k≠1 by omega)];have hslash:s=spn s++47::spd s:=by
    unfold spn spd;rw[if_pos hs];have h47:s[sP s]=47:=by have:=List.findIdx_getElem (p:=(·==47)) (w:=hs);exact eq_of_beq this
    rw[<-h47,List.getElem_cons_drop,qNy]
   rw[hslash,em,en,q0W]
  ·omega
 ·rename_i hs;have e:sP s=s.length:=by have:=qF1 s;omega
  have hsn:spn s=s:=by unfold spn;rw[e,qML]
  refine⟨(m:Rat),?_,?_,?_⟩
  ·rw[qtT,<-em,hsn]
  ·have:nl m<=1024:=om;unfold qn;simpa using this
  ·unfold qd;simp;decide
theorem qKW (m:Int):nl m<=(tI m).length:=by unfold nl tI;split<;>simp
theorem qr5 (q:Rat):qn q<=(tQ q).length/\(q.den=1\/qn q+1+qd q<=(tQ q).length):=by
 have h1:=qKW q.num;by_cases h:q.den=1
 ·rw[qbw h];exact⟨h1,.inl h⟩
 ·rw[q6b h];unfold qn qd dl;simp;omega
theorem qlW {l:List (List UInt8)}(hn:l.length<1000000)(h:∀s,s∈l->(qP [.s s]).run=some (0,[.i 0])):(qE [.r (rS l)]).run=some (0,[.i 0]):=by
 rw[qpA,qto];have key:=zu (S:=q1Y) (fun i=>[.r (rS l),.i (l.length:Int),.i (i:Int)]) (0,[]) l.length (by omega) (fun i hi=>by
  rw[qdZ,qD1 hi];have a1:(i:Int)<(l.length:Int):=by omega
  have a2:(i:Int)<qm (rS l):=by rw[qto];exact a1
  simp only[STD,a1,a2,qbz,and_self,h _ (qMg hi),kD hi (show l.length<9223372036854775808 by omega)]) (by
  rw[qdZ];have a1:¬(l.length:Int)<(l.length:Int):=by omega
  simp only[STD,a1])
 simp only[show (((0:Nat)):Int)=0 from rfl] at key;simp only[STD,key,qT key]
theorem q1F (h:okQ q):(qP [.s (tQ q)]).run=some (0,[.i 0]):=by have:=q5r h;rw[qa5 _ (by omega),qqj h]
theorem qi2 {a b:Rat}(ha:okQ a)(hb:okQ b):(qE [.r [[.s (tQ a)],[.s (tQ b)]]]).run=some (0,[.i 0]):=by
 exact qlW (l:=[tQ a,tQ b]) (by simp) (fun s hs=>by
  simp only[qLx,qNt,or_false] at hs;rcases hs with rfl|rfl
  ·exact q1F ha
  ·exact q1F hb)
theorem qIk {m n:Int}(hm:okL m)(hn:okL n)(h:okL (m+n)):(yQ [.s (tI m),.s (tI n),.i 0]).run=some (0,[.s (tI (m+n)),.i 0]):=by
 rw[qnT];have:(v6 [.s (tI m),.s (tI n),.i 0]).run=some (0,[.s (tI (m+n)),.i 0]):=by rw[qc6];simp only[STD,qKj hm hn h]
 simp only[STD,this]
theorem qyr {m n:Int}(hm:okL m)(hn:okL n)(h:okL (m-n)):(zx [.s (tI m),.s (tI n),.i 0]).run=some (0,[.s (tI (m-n)),.i 0]):=by
 rw[qnW];have:(wT [.s (tI m),.s (tI n),.i 0]).run=some (0,[.s (tI (m-n)),.i 0]):=by rw[qc8];simp only[STD,qKG hm hn h]
 simp only[STD,this]
theorem qHZ {m n:Int}(hm:okL m)(hn:okL n)(h:okL (m*n)):(zP [.s (tI m),.s (tI n),.i 0]).run=some (0,[.s (tI (m*n)),.i 0]):=by rw[qbZ];simp only[STD,qKM hm hn h]
theorem qIh {m n:Int}(hm:okL m)(hn:okL n):(wS [.s (tI m),.s (tI n),.i 0]).run=some (0,[.s (tN (Nat.gcd m.natAbs n.natAbs)),.i 0]):=by rw[qc0];simp only[STD,qJp hm hn]
theorem qvf {k n:Int}(h0:n≠0)(hm:okL (k*n))(hn:okL n):(z7 [.s (tI (k*n)),.s (tI n),.i 0]).run=some (0,[.s (tI k),.i 0]):=by rw[qc2];simp only[STD,qL0 h0 hm hn]
def prd:Int->List Int->Int
 | a,[]=>a
 | a,m::l=>prd (a*m) l
def qI1:Int->List Int->Prop
 | a,[]=>okL a
 | a,m::l=>okL a/\okL m/\qI1 (a*m) l
theorem qEx:∀(l:List Int) (pre:List Int) (a:Int),qI1 a l->pre.length+l.length<1000->∀f,l.length<f ->
  (qlV yG f [.s (tI a),.r (rS ((pre++l).map tI)),.i ((pre++l).length:Int),.i (pre.length:Int),.i 0]).run=some (0,[.s (tI (prd a l)),.i 0])
 | [],pre,a,h,hl,f,hf=>by
  obtain⟨f,rfl⟩:∃g,f=g+1:=⟨f-1,by simp at hf;omega⟩;refine q8z ?_;rw[qbC,qMC];have a1:¬(pre.length:Int)<(pre.length:Int):=by omega
  simp only[STD,a1];rfl
 | m::l,pre,a,h,hl,f,hf=>by
  obtain⟨f,rfl⟩:∃g,f=g+1:=⟨f-1,by simp at hf;omega⟩;obtain⟨h1,h2,h3⟩:=h;have hlt:pre.length<(pre++m::l).length:=by simp
  have ih:=qEx l (pre++[m]) (a*m) h3 (by simp at hl ⊢;omega) f (by simp at hf;omega);rw[qM4,List.singleton_append] at ih;have hok:okL (a*m):=by
   cases l with
   | nil=>exact h3
   | cons x l=>exact h3.1
  rw[qit (qs:=[.s (tI (a*m)),.r (rS ((pre++m::l).map tI)),.i ((pre++m::l).length:Int),.i ((pre++[m]).length:Int),.i 0])]
  ·exact ih
  ·rw[qbC];have hlt2:pre.length<((pre++m::l).map tI).length:=by simp
   rw[qD1 hlt2];have e:((pre++m::l).map tI)[pre.length]=tI m:=by simp
   rw[e];have a1:(pre.length:Int)<((pre++m::l).length:Int):=by omega
   have a2:(pre.length:Int)<qm (rS ((pre++m::l).map tI)):=by rw[qto];omega
   have w:qC .i64 (pre.length:Int) 1=((pre++[m]).length:Int):=by rw[zb (by omega)];simp
   simp only[STD,a1,a2,qbz,and_self,qHZ h1 h2 hok,w]
theorem qxe (l:List Int)(h:qI1 1 l)(hl:l.length<1000):(qg [.r (rS (l.map tI)),.i 0]).run=some (0,[.s (tI (prd 1 l)),.i 0]):=by
 rw[qnv,qto];have h1:=qEx l [] 1 h (by simp;omega) qhJ (by unfold qhJ;omega);simp only[qMD,qMA] at h1;have e:(qh yG [.s [49],.r (rS (l.map tI)),.i ((l.map tI).length:Int),.i 0,.i 0]).run=some (0,[.s (tI (prd 1 l)),.i 0]):=by rw[qLF];exact h1
 simp only[STD,e]
theorem qb6 {m n:Int}(hm:okL m)(hn:okL n)(h:okL (m*n)):(qg [.r [[.s (tI m)],[.s (tI n)]],.i 0]).run=some (0,[.s (tI (m*n)),.i 0]):=by have:=qxe [m,n] ⟨qbR,hm,by rw[qM3];exact hm,hn,by rw[qM3];exact h⟩ (by simp);simp only[prd,qM3] at this;exact this
theorem qwp (h:okQ q):(q29 [.s (tI q.num),.s (tI (q.den:Int))]).run=some (0,[.s (tQ q)]):=by
 rw[qqN,q0W];have l1:=qxB (q2o h);have l2:(tN q.den).length<=1024:=h.2;have a1:qw (tI q.num)+qw [47]<=140737488355328:=by unfold qw;simp;omega
 have a2:qw (qeI (tI q.num) [47])+qw (tN q.den)<=140737488355328:=by unfold qw qeI;simp;omega
 by_cases h1:q.den=1
 ·simp only[STD,zj,q5J,h1,qbw h1]
 ·simp only[STD,zj,q5J,h1,q6b h1,a1,a2];simp[qeI]
theorem qFQ (s:qLp):(uK [.s s,.s [45]]).run=some (0,[.b (decide (s.getD 0 0=45))]):=by rw[qiV];simp only[STD,qDZ]
theorem qED (n:Int):((tI n).getD 0 0=45)=(n<0):=by
 by_cases h:n<0
 ·rw[qcu h];simp[h]
 ·rw[qk0 h];obtain⟨c,t,e,h1,h2⟩:=qis (zY n.natAbs) (qrE _);rw[e];simp only[qNo,h,eq_iff_iff,iff_false];intro hc;subst hc;revert h1;decide
theorem qpi {m n:Int}(hn0:n≠0)(hm:okL m)(hn:okL n):(zf [.s (tI m),.s (tI n),.i 0]).run=some (0,[.s (tQ (Rat.divInt m n)),.i 0])/\okQ (Rat.divInt m n):=by
 have hG:=qIh hm hn;have hg0:0<Nat.gcd m.natAbs n.natAbs:=Nat.gcd_pos_of_pos_right _ (by omega);have hgn:Nat.gcd m.natAbs n.natAbs<=n.natAbs:=Nat.gcd_le_right _ (by omega);have hnum:=Rat.num_divInt m n;have hden:=Rat.den_divInt m n;rw[if_neg hn0] at hden;have hgc:Int.gcd n m=Nat.gcd m.natAbs n.natAbs:=by unfold Int.gcd;exact qN2 _ _
 rw[hgc] at hnum hden;obtain⟨k,hk⟩:((Nat.gcd m.natAbs n.natAbs:Nat):Int) ∣ m:=Int.ofNat_dvd_left.2 (Nat.gcd_dvd_left _ _);obtain⟨l,hl⟩:((Nat.gcd m.natAbs n.natAbs:Nat):Int) ∣ n:=Int.ofNat_dvd_left.2 (Nat.gcd_dvd_right _ _);generalize Nat.gcd m.natAbs n.natAbs=g at *;generalize Rat.divInt m n=q at *;have hgok:okL (g:Int):=qGB (by simpa using hgn) hn;have hm2:k*(g:Int)=m:=by rw[qMB];exact hk.symm
 have hn2:l*(g:Int)=n:=by rw[qMB];exact hl.symm
 have hgz:(g:Int)≠0:=by omega
 have hok:okQ q:=by
  constructor
  ·refine qLu (qkK ?_) hm;rw[hnum];refine qLu (qNr _ _) ?_;rw[qMG,qNN hn0];omega
  ·refine qLu (kI ?_) hn;rw[hden];exact qNi _ _
 refine⟨?_,hok⟩;rw[qj4];have hP:=qFQ (tI n);simp only[qED] at hP;by_cases hneg:n<0
 ·have e1:-k=q.num:=by rw[hnum,Int.sign_eq_neg_one_of_neg hneg,<-hm2];rw[show (-1:Int)*(k*(g:Int))=(-k)*(g:Int) by rw[Int.neg_mul,qM3,Int.neg_mul]];exact(qNj _ hgz).symm
  have e2:-l=(q.den:Int):=by
   rw[hden];have h3:(n.natAbs:Int)=(-l)*(g:Int):=by rw[Int.neg_mul];omega
   rw[Int.natCast_ediv,h3,qNj _ hgz]
  have hS:=qyr (m:=0) (n:=(g:Int)) q9M hgok (by rw[Int.zero_sub];exact quc hgok);rw[Int.zero_sub,q0W] at hS;have Q1:=qvf (k:=-k) (n:=-(g:Int)) (by omega) (by rw[qN7,hm2];exact hm) (quc hgok);have Q2:=qvf (k:=-l) (n:=-(g:Int)) (by omega) (by rw[qN7,hn2];exact hn) (quc hgok);rw[qN7,hm2,e1] at Q1;rw[qN7,hn2,e2] at Q2;have hS':(zx [.s [48],.s (tN g),.i 0]).run=some (0,[.s (tI (-(g:Int))),.i 0]):=hS;simp only[STD,hG,hP,hneg,hS',Q1,Q2,qwp hok]
 ·have e1:k=q.num:=by rw[hnum,Int.sign_eq_one_of_pos (by omega),qM3,<-hm2];exact(qNj _ hgz).symm
  have e2:l=(q.den:Int):=by
   rw[hden];have h3:(n.natAbs:Int)=l*(g:Int):=by omega
   rw[Int.natCast_ediv,h3,qNj _ hgz]
  have Q1:=qvf (k:=k) (n:=(g:Int)) hgz (by rw[hm2];exact hm) hgok;have Q2:=qvf (k:=l) (n:=(g:Int)) hgz (by rw[hn2];exact hn) hgok;rw[hm2,e1,q0W] at Q1;rw[hn2,e2,q0W] at Q2;simp only[STD,hG,hP,hneg,Q1,Q2,qwp hok]
end Go.Eng

