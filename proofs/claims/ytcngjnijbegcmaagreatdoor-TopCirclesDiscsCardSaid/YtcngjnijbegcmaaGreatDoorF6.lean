/- Texts of the proof, merged: what the code computes, and plain laws. No statement stands here. -/
import Derived.Test.YtcngjnijbegcmaaGreatDoorF5
namespace Go.Eng
abbrev qJ8(r t:TR):TR:=.br (okR r) t .fail
abbrev qJ9(c:Bool)(t:TR):TR:=.br c t .fail
abbrev qJa(l:List PV):TR:=.leaf (0,l)
variable (a0 a1 a2 a3 a4 a5 a6 a7 a8 a9 a10 a11 a12 a13 a14 a15 a16 a33:R)
variable (c0 c1 c2 c3 c4 c5 c6 c7 c8 c9 c10 c11 c12 c13 c14 c17 c18 c19 c34 c35 c36 c37:Int)
variable (d0 d1 d2 d3 d4 d5 d7 d8 d9 d10 d11 d15 d25 d31 d32:Bool)
variable (e0 e1 e2 e3 e4 e5 e6 e7 e8 e9 e10 e11 e12 e13 e14 e20 e21 e22 e23 e24 e26 e27 e28 e29 e30 e38 e39 e40 e41 e42:qJb)
theorem qaK:ww [.s e0,.s e1]=(let r0:=vO [.s e0,.s e1];qJ8 r0 (.br (ile 0 (gI r0 0)) (qJ9 (q7y (gI r0 0) (qB e0)) (qJ9 (q7y 0 (gI r0 0)) (qJ9 (q7y (qB e0) (qB e0)) (qJ9 (q7y (qz .i64 (gI r0 0) (qB e1)) (qB e0)) (qJa [.s (qfy e0 0 (gI r0 0)),.s (qfy e0 (qz .i64 (gI r0 0) (qB e1)) (qB e0)),.b true]))))) (qJa [.s e0,.s [],.b false]))):=by kernel_rfl
theorem qqC:q6e [.s e0,.s e1]=(let r0:=ww [.s e0,.s e1];qJ8 r0 (qJa [.s (gS r0 0),.s (gS r0 1),.b (gB r0 2)])):=by kernel_rfl
theorem qu1:qK [.s e0]=(let r0:=q6e [.s e0,.s [47]];qJ8 r0 (.br (not (gB r0 2)) (qJa [.s (gS r0 0),.s [49],.b (gB r0 2)]) (qJa [.s (gS r0 0),.s (gS r0 1),.b (gB r0 2)]))):=by kernel_rfl
theorem q61:qN [.s e0,.s e1]=(.br (ile (qB e1) (qB e0)) (qJ9 (q7y (qB e1) (qB e0)) (qJ9 (q7y 0 (qB e1)) (qJa [.b (seq (qfy e0 0 (qB e1)) e1)]))) (qJa [.b false])):=by kernel_rfl
theorem q5G:zo [.s e0,.s e1]=(let r0:=qN [.s e0,.s e1];qJ8 r0 (.br (gB r0 0) (qJ9 (q7y (qB e0) (qB e0)) (qJ9 (q7y (qB e1) (qB e0)) (qJa [.s (qfy e0 (qB e1) (qB e0))]))) (qJa [.s e0]))):=by kernel_rfl
theorem qg3:zh [.s e0,.s e1]=(let r0:=zo [.s e0,.s e1];qJ8 r0 (qJa [.s (gS r0 0)])):=by kernel_rfl
theorem qq7:zb [.s e0]=(let t0:=zh [.s e0,.s [45]];let s0:List UInt8:=(gS t0 0);let t1:TR:=(qJa [.i 3]);let t2:=q7G [.s s0,.s [48,49,50,51,52,53,54,55,56,57]];let t3:TR:=(.br (ilt 1024 (qB s0)) (qJa [.i 11]) (qJa [.i 0]));(qJ8 t0 (.br (seq s0 []) t1 (qJ8 t2 (.br (not (seq (gS t2 0) [])) t1 (qJ9 (inb 0 (qB s0)) (.br (ieq (sat s0 0) 48) (.br (not (seq e0 [48])) t1 t3) t3))))))):=by kernel_rfl
theorem qi3:q5H [.r a0,.i c1,.i c2]=(.br (ilt c2 c1) (qJ9 (inb c2 (qk a0)) (let r0:=zb [.s (cS a0 c2 0)];qJ8 r0 (.br (ine (gI r0 0) 0) (.leaf (2,[.i (gI r0 0)])) (qJa [.r a0,.i c1,.i (qz .i64 c2 1)])))) (.leaf (1,[]))):=by kernel_rfl
theorem quI:wA [.r a0]=(let r0:=qh q5H [.r a0,.i (qk a0),.i 0];qJ8 r0 (.br (jIs r0 0) (qJa [.i 0]) (qJa [.i (gI r0 0)]))):=by kernel_rfl
theorem qrB:yW [.s e0]=(.br (seq e0 [48]) (qJa [.i 0]) (qJ9 (inb 0 (qB e0)) (.br (ieq (sat e0 0) 45) (qJa [.i (-1)]) (qJa [.i 1])))):=by kernel_rfl
theorem qqA:q5N [.s e0,.s e1]=(.br (ine (qB e0) (qB e1)) (.br (ilt (qB e0) (qB e1)) (qJa [.i (-1)]) (qJa [.i 1])) (let r0:=q3x [.s e0,.s e1];qJ8 r0 (qJa [.i (gI r0 0)]))):=by kernel_rfl
theorem qmW:un [.s e0,.s e1]=(let r0:=wA [.r [[.s e0],[.s e1]]];qJ8 r0 (.br (ine (gI r0 0) 0) (qJa [.i 0,.i (gI r0 0)]) (let r1:=yW [.s e0];qJ8 r1 (let r2:=yW [.s e1];qJ8 r2 (.br (ilt (gI r1 0) (gI r2 0)) (qJa [.i (-1),.i 0]) (qJ8 r2 (.br (ilt (gI r2 0) (gI r1 0)) (qJa [.i 1,.i 0]) (let r3:=zh [.s e0,.s [45]];qJ8 r3 (let r4:=zh [.s e1,.s [45]];qJ8 r4 (let r5:=q5N [.s (gS r3 0),.s (gS r4 0)];qJ8 r5 (qJa [.i (vn .i64 (gI r1 0) (gI r5 0)),.i 0]))))))))))):=by kernel_rfl
theorem qey:jk [.b d0,.i c1,.r a2]=(let i0:Int:=(yM .i64 c1 1);let t0:TR:=(.leaf (1,[.b d0,.i c1,.r a2]));(.br (ilt 0 c1) (qJ9 (inb i0 232) (qJ9 (inb i0 232) (.br (ieq (cI a2 i0 0) 0) (qJa [.b d0,.i i0,.r a2]) t0))) t0)):=by kernel_rfl
theorem qgE:qU [.b d0,.i c1,.r a2]=(let r0:=qh jk [.b d0,.i c1,.r a2];qJ8 r0 (qJa [.b (gB r0 0),.i (gI r0 1),.r (gR r0 2)])):=by kernel_rfl
theorem qpu:q46 [.s e0,.b d1,.i c2,.r a3]=(let i0:Int:=(qB e0);let i1:Int:=(qqF 0 (yM .i64 i0 9));let t0:=jC [.s (qfy e0 i1 i0)];(.br (ilt 0 i0) (qJ9 (q7y i0 i0) (qJ9 (q7y i1 i0) (qJ8 t0 (qJ9 (inb c2 232) (qJ9 (inb c2 232) (qJ9 (q7y i1 i0) (qJ9 (q7y 0 i1) (qJa [.s (qfy e0 0 i1),.b d1,.i (qz .i64 c2 1),.r (qfD a3 c2 0 [.i (gI t0 0)])])))))))) (.leaf (1,[.b d1,.i c2,.r a3])))):=by kernel_rfl
theorem qrV:wG [.s e0]=(qJ9 (inb 0 (qB e0)) (let r0:=zh [.s e0,.s [45]];qJ8 r0 (let r1:=qh q46 [.s (gS r0 0),.b (ieq (sat e0 0) 45),.i 0,.r (q3O 232 [.i 0])];qJ8 r1 (let r2:=qU [.b (gB r1 0),.i (gI r1 1),.r (gR r1 2)];qJ8 r2 (qJa [.b (gB r2 0),.i (gI r2 1),.r (gR r2 2)]))))):=by kernel_rfl
theorem qv9:wJ [.i c0]=(qJ8 (q3W [.i c0]) (qJa [.s (gS (q3W [.i c0]) 0)])):=by kernel_rfl
theorem qfA:jO [.i c0,.b d1,.i c2,.r a3,.b d4,.i c5,.r a6]=(let b0:Bool:=(inb c0 232);let p0:List PV:=[.b d1,.i c2,.r a3,.b d4,.i c5,.r a6];(.br (ile 0 c0) (qJ9 b0 (qJ9 b0 (qJ9 b0 (qJ9 b0 (.br (ine (cI a3 c0 0) (cI a6 c0 0)) (qJ9 b0 (qJ9 b0 (qJ9 b0 (qJ9 b0 (.leaf (2,((.i (yM .i64 (cI a3 c0 0) (cI a6 c0 0)))::p0))))))) (qJa ((.i (yM .i64 c0 1))::p0))))))) (.leaf (1,p0)))):=by kernel_rfl
theorem qhJ:vh [.b d0,.i c1,.r a2,.b d3,.i c4,.r a5]=(.br (ine c1 c4) (qJa [.i (yM .i64 c1 c4),.b d0,.i c1,.r a2,.b d3,.i c4,.r a5]) (let r0:=qh jO [.i (yM .i64 c1 1),.b d0,.i c1,.r a2,.b d3,.i c4,.r a5];qJ8 r0 (.br (jIs r0 0) (qJa [.i 0,.b (gB r0 0),.i (gI r0 1),.r (gR r0 2),.b (gB r0 3),.i (gI r0 4),.r (gR r0 5)]) (qJa [.i (gI r0 0),.b (gB r0 1),.i (gI r0 2),.r (gR r0 3),.b (gB r0 4),.i (gI r0 5),.r (gR r0 6)])))):=by kernel_rfl
theorem qlC:q1N [.b d0,.i c1,.r a2,.b d3,.i c4,.r a5]=(let i0:Int:=(yM .i64 c4 1);let b0:Bool:=(ilt i0 0);let b1:Bool:=(ilt 1 c4);let p0:List PV:=[.b d0,.i c1,.r a2,.b d3,.i c4,.r a5];let t0:TR:=(qJa ((.i 1)::p0));let b2:Bool:=(ile c4 i0);let b3:Bool:=(inb i0 232);let i1:Int:=(cI a5 i0 0);let i2:Int:=(qz .i64 i1 1);let b4:Bool:=(ine i2 0);let b5:Bool:=(ine i1 0);let t1:TR:=(.br b0 (qJ9 b1 t0) (.br b2 (qJ9 b1 t0) (qJ9 b3 (qJ9 b3 (.br b1 (qJ9 b4 (.br (ilt 0 (qbR .i64 0 i2)) (qJa ((.i (qhs (qbR .i64 0 i2) 999999999))::p0)) t0)) (qJ9 b5 (.br (ilt 0 (qbR .i64 0 i1)) (qJa ((.i (qhs (qbR .i64 0 i1) 999999999))::p0)) t0)))))));let i3:Int:=(qz .i64 0 (cI a2 i0 0));let t2:TR:=(qJ9 b1 (.br (ilt 0 (qbR .i64 i3 1)) (qJa ((.i (qhs (qbR .i64 i3 1) 999999999))::p0)) t0));let t3:TR:=(.br b0 t1 (.br (ile c1 i0) t1 (qJ9 b3 (qJ9 b3 (.br b0 t2 (.br b2 t2 (qJ9 b3 (qJ9 b3 (.br b1 (qJ9 b4 (.br (ilt 0 (qbR .i64 i3 i2)) (qJa ((.i (qhs (qbR .i64 i3 i2) 999999999))::p0)) t0)) (qJ9 b5 (.br (ilt 0 (qbR .i64 i3 i1)) (qJa ((.i (qhs (qbR .i64 i3 i1) 999999999))::p0)) t0)))))))))));let i4:Int:=(vn .i64 (cI a2 c4 0) 1000000000);let i5:Int:=(qz .i64 i4 0);let t4:TR:=(qJ9 b1 (.br (ilt 0 (qbR .i64 i5 1)) (qJa ((.i (qhs (qbR .i64 i5 1) 999999999))::p0)) t0));let t5:TR:=(.br b0 t4 (.br b2 t4 (qJ9 b3 (qJ9 b3 (.br b1 (qJ9 b4 (.br (ilt 0 (qbR .i64 i5 i2)) (qJa ((.i (qhs (qbR .i64 i5 i2) 999999999))::p0)) t0)) (qJ9 b5 (.br (ilt 0 (qbR .i64 i5 i1)) (qJa ((.i (qhs (qbR .i64 i5 i1) 999999999))::p0)) t0)))))));let i6:Int:=(qz .i64 i4 (cI a2 i0 0));let t6:TR:=(qJ9 b1 (.br (ilt 0 (qbR .i64 i6 1)) (qJa ((.i (qhs (qbR .i64 i6 1) 999999999))::p0)) t0));(.br (ilt c4 0) t3 (.br (ile c1 c4) t3 (qJ9 (inb c4 232) (qJ9 (inb c4 232) (.br b0 t5 (.br (ile c1 i0) t5 (qJ9 b3 (qJ9 b3 (.br b0 t6 (.br b2 t6 (qJ9 b3 (qJ9 b3 (.br b1 (qJ9 b4 (.br (ilt 0 (qbR .i64 i6 i2)) (qJa ((.i (qhs (qbR .i64 i6 i2) 999999999))::p0)) t0)) (qJ9 b5 (.br (ilt 0 (qbR .i64 i6 i1)) (qJa ((.i (qhs (qbR .i64 i6 i1) 999999999))::p0)) t0)))))))))))))))):=by kernel_rfl
theorem q7X:jg [.i c0,.i c1,.i c2,.i c3,.b d4,.i c5,.r a6,.b d7,.i c8,.r a9]=(let i0:Int:=(qz .i64 c3 c1);let b0:Bool:=(inb i0 232);let i1:Int:=(qz .i64 (cI a6 i0 0) c2);let i2:Int:=(qz .i64 i1 (vn .i64 c0 (cI a9 c3 0)));let i3:Int:=(qbR .i64 i2 1000000000);let i4:Int:=(yM .i64 i2 (vn .i64 i3 1000000000));let p0:List PV:=[.b d7,.i c8,.r a9];let i5:Int:=(qqF c5 (qz .i64 i0 1));let i6:Int:=(qz .i64 c3 1);let i7:Int:=(qbR .i64 i1 1000000000);let i8:Int:=(yM .i64 i1 (vn .i64 i7 1000000000));let t0:TR:=(qJ9 b0 (qJ9 b0 (.br (ilt c3 c8) (qJ9 (inb c3 232) (qJ9 (inb c3 232) (.br (ilt i4 0) (qJ9 b0 (qJ9 b0 (qJa ((.i c0)::(.i c1)::(.i (yM .i64 i3 1))::(.i i6)::(.b d4)::(.i i5)::(.r (qfD a6 i0 0 [.i (qz .i64 i4 1000000000)]))::p0)))) (qJ9 b0 (qJ9 b0 (qJa ((.i c0)::(.i c1)::(.i i3)::(.i i6)::(.b d4)::(.i i5)::(.r (qfD a6 i0 0 [.i i4]))::p0))))))) (.br (ilt i8 0) (qJ9 b0 (qJ9 b0 (qJa ((.i c0)::(.i c1)::(.i (yM .i64 i7 1))::(.i i6)::(.b d4)::(.i i5)::(.r (qfD a6 i0 0 [.i (qz .i64 i8 1000000000)]))::p0)))) (qJ9 b0 (qJ9 b0 (qJa ((.i c0)::(.i c1)::(.i i7)::(.i i6)::(.b d4)::(.i i5)::(.r (qfD a6 i0 0 [.i i8]))::p0))))))));(.br (ilt c3 c8) t0 (.br (ine c2 0) t0 (.leaf (1,((.b d4)::(.i c5)::(.r a6)::p0)))))):=by kernel_rfl
theorem qj8:qZ [.i c0,.i c1,.b d2,.i c3,.r a4,.b d5,.i c6,.r a7]=(let r0:=qh jg [.i c0,.i c1,.i 0,.i 0,.b d2,.i c3,.r a4,.b d5,.i c6,.r a7];qJ8 r0 (let r1:=qU [.b (gB r0 0),.i (gI r0 1),.r (gR r0 2)];qJ8 r1 (qJa [.b (gB r1 0),.i (gI r1 1),.r (gR r1 2),.b (gB r0 3),.i (gI r0 4),.r (gR r0 5)]))):=by kernel_rfl
theorem qiM:jZ [.i c0,.i c1,.b d2,.i c3,.r a4,.b d5,.i c6,.r a7,.b d8,.i c9,.r a10,.b d11,.i c12,.r a13]=(let r0:=vh [.b d11,.i c12,.r a13,.b d5,.i c6,.r a7];qJ8 r0 (.br (ile 0 (gI r0 0)) (let r1:=q1N [.b (gB r0 1),.i (gI r0 2),.r (gR r0 3),.b (gB r0 4),.i (gI r0 5),.r (gR r0 6)];qJ8 r1 (let r2:=qZ [.i (yM .i64 0 (gI r1 0)),.i 0,.b (gB r1 1),.i (gI r1 2),.r (gR r1 3),.b (gB r1 4),.i (gI r1 5),.r (gR r1 6)];qJ8 r2 (qJa [.i c0,.i (qz .i64 c1 (gI r1 0)),.b d2,.i c3,.r a4,.b (gB r2 3),.i (gI r2 4),.r (gR r2 5),.b d8,.i c9,.r a10,.b (gB r2 0),.i (gI r2 1),.r (gR r2 2)]))) (.leaf (1,[.i c0,.i c1,.b d2,.i c3,.r a4,.b (gB r0 4),.i (gI r0 5),.r (gR r0 6),.b d8,.i c9,.r a10,.b (gB r0 1),.i (gI r0 2),.r (gR r0 3)])))):=by kernel_rfl
theorem qkV:q0S [.i c0,.b d1,.i c2,.r a3,.b d4,.i c5,.r a6,.b d7,.i c8,.r a9,.b d10,.i c11,.r a12]=(.br (ile 0 c0) (qJ9 (q7y 232 232) (qJ9 (q7y 1 232) (qJ9 (q7y c11 232) (qJ9 (q7y 0 c11) (qJ9 (inb c0 232) (qJ9 (inb c0 232) (let r0:=qU [.b d10,.i (qz .i64 c11 1),.r (qfD (qkP a12 1 a12 0 (qhs (qvG c11 0) (qvG 232 1))) 0 0 [.i (cI a3 c0 0)])];qJ8 r0 (let r1:=qh jZ [.i c0,.i 0,.b d1,.i c2,.r a3,.b d4,.i c5,.r a6,.b d7,.i c8,.r a9,.b (gB r0 0),.i (gI r0 1),.r (gR r0 2)];qJ8 r1 (qJ9 (inb (gI r1 0) 232) (qJ9 (inb (gI r1 0) 232) (qJa [.i (yM .i64 (gI r1 0) 1),.b (gB r1 2),.i (gI r1 3),.r (gR r1 4),.b (gB r1 5),.i (gI r1 6),.r (gR r1 7),.b (gB r1 8),.i (qqF (gI r1 9) (qz .i64 (gI r1 0) 1)),.r (qfD (gR r1 10) (gI r1 0) 0 [.i (gI r1 1)]),.b (gB r1 11),.i (gI r1 12),.r (gR r1 13)]))))))))))) (.leaf (1,[.b d1,.i c2,.r a3,.b d4,.i c5,.r a6,.b d7,.i c8,.r a9,.b d10,.i c11,.r a12]))):=by kernel_rfl
theorem qn8:uh [.b d0,.i c1,.r a2,.b d3,.i c4,.r a5]=(let r0:=qh q0S [.i (yM .i64 c1 1),.b d0,.i c1,.r a2,.b d3,.i c4,.r a5,.b false,.i 0,.r (q3O 232 [.i 0]),.b false,.i 0,.r (q3O 232 [.i 0])];qJ8 r0 (let r1:=qU [.b (gB r0 6),.i (gI r0 7),.r (gR r0 8)];qJ8 r1 (qJa [.b (gB r0 0),.i (gI r0 1),.r (gR r0 2),.b (gB r0 3),.i (gI r0 4),.r (gR r0 5),.b (gB r1 0),.i (gI r1 1),.r (gR r1 2),.b (gB r0 9),.i (gI r0 10),.r (gR r0 11)]))):=by kernel_rfl
theorem qpm:q1T [.i c0,.i c1]=(.br (ine c1 0) (qJ9 (ine c1 0) (qJa [.i c1,.i (qa8 c0 c1)])) (.leaf (1,[.i c0]))):=by kernel_rfl
theorem qpR:q6B [.b d0,.i c1,.r a2,.b d3,.i c4,.r a5]=(let t0:=qh q1T [.i (cI a2 0 0),.i (cI a5 0 0)];let t1:=wJ [.i (gI t0 0)];let t2:=uh [.b d0,.i c1,.r a2,.b d3,.i c4,.r a5];let t3:TR:=(qJ8 t2 (qJa [.b (gB t2 3),.i (gI t2 4),.r (gR t2 5),.b (gB t2 9),.i (gI t2 10),.r (gR t2 11)]));(.br (ilt 0 c4) (.br (ile c1 1) (.br (ile c4 1) (qJ8 t0 (qJ8 t1 (.leaf (2,[.s (gS t1 0),.i 0])))) t3) t3) (.leaf (1,[.b d0,.i c1,.r a2])))):=by kernel_rfl
theorem quO:q2D [.s e0,.s e1]=(let r0:=wA [.r [[.s e0],[.s e1]]];qJ8 r0 (.br (ine (gI r0 0) 0) (qJa [.s [],.i (gI r0 0)]) (let r1:=wG [.s e0];qJ8 r1 (let r2:=wG [.s e1];qJ8 r2 (let r3:=qh q6B [.b (gB r1 0),.i (gI r1 1),.r (gR r1 2),.b (gB r2 0),.i (gI r2 1),.r (gR r2 2)];qJ8 r3 (.br (jIs r3 0) (let r4:=zy [.b false,.i (gI r3 1),.r (gR r3 2)];qJ8 r4 (qJa [.s (gS r4 0),.i 0])) (qJa [.s (gS r3 0),.i (gI r3 1)]))))))):=by kernel_rfl
theorem qqB:z8 [.s e0]=(let t0:=qK [.s e0];let t1:=zb [.s (gS t0 0)];let p0:List PV:=[.s (gS t0 1)];let t2:TR:=(qJa [.i 3]);let i0:Int:=(gI (zb p0) 0);let t3:TR:=(qJa [.i (qqF (gI t1 0) i0)]);let t4:TR:=(qJa [.i 0]);let t5:=un [.s (gS t0 1),.s [49]];let t6:=q2D ((.s (gS t0 0))::p0);(qJ8 t0 (qJ8 t1 (qJ8 (zb p0) (.br (ieq (gI t1 0) 3) t2 (.br (ieq i0 3) t2 (.br (ine (gI t1 0) 0) t3 (.br (ine i0 0) t3 (.br (not (gB t0 2)) t4 (qJ8 t5 (qJ8 t6 (.br (ine (gI t5 1) 0) t2 (.br (ine (gI t6 1) 0) t2 (.br (ile (gI t5 0) 0) t2 (.br (not (seq (gS t6 0) [49])) t2 t4))))))))))))))):=by kernel_rfl
theorem q4R:q2I [.i c0,.i c1,.s e2,.s e3,.s e4,.r a5]=(.br (ilt c1 c0) (qJ9 (inb c1 (qk a5)) (let r0:=z8 [.s (cS a5 c1 0)];qJ8 r0 (.br (ine (gI r0 0) 0) (.leaf (2,[.i (gI r0 0)])) (qJa [.i c0,.i (qz .i64 c1 1),.s e2,.s e3,.s e4,.r a5])))) (.leaf (1,[.s e2,.s e3,.s e4]))):=by kernel_rfl
theorem qq9:q3v [.s e0,.s e1,.s e2]=(let r0:=qh q2I [.i (qk [[.s e0],[.s e1],[.s e2]]),.i 0,.s e0,.s e1,.s e2,.r [[.s e0],[.s e1],[.s e2]]];qJ8 r0 (.br (jIs r0 0) (qJ9 (inb 0 (qB (gS r0 2))) (.br (ieq (sat (gS r0 2) 0) 45) (qJa [.i 2]) (qJa [.i 0]))) (qJa [.i (gI r0 0)]))):=by kernel_rfl
theorem qgj:q44 [.r a0,.r a1,.i c2,.i c3]=(.br (ilt c3 c2) (qJ9 (inb c3 (qk a1)) (let r0:=q3v [.s (cS a1 c3 0),.s (cS a1 c3 1),.s (cS a1 c3 2)];qJ8 r0 (.br (ine (gI r0 0) 0) (.leaf (2,[.i (gI r0 0)])) (qJa [.r a0,.r a1,.i c2,.i (qz .i64 c3 1)])))) (.leaf (1,[.r a0]))):=by kernel_rfl
theorem qsF:q10 [.r a0]=(.br (ilt 64 (qk a0)) (qJa [.i 5]) (let r0:=qh q44 [.r a0,.r a0,.i (qk a0),.i 0];qJ8 r0 (.br (jIs r0 0) (.br (ieq (qk (gR r0 0)) 0) (qJa [.i 13]) (qJa [.i 0])) (qJa [.i (gI r0 0)])))):=by kernel_rfl
theorem qqf:yS [.s e0,.s e1]=(.br (ilt 9 (qB e0)) (qJa [.i 0,.i 0,.b false]) (.br (ilt 9 (qB e1)) (qJa [.i 0,.i 0,.b false]) (qJ8 (jC [.s e0]) (qJ8 (jC [.s e1]) (qJa [.i (gI (jC [.s e0]) 0),.i (gI (jC [.s e1]) 0),.b true]))))):=by kernel_rfl
theorem qnL:kG [.i c0]=(qJ8 (wJ [.i c0]) (qJa [.s (gS (wJ [.i c0]) 0),.i 0])):=by kernel_rfl
theorem qgB:yH [.i c0,.i c1,.b d2,.i c3,.r a4,.b d5,.i c6,.r a7,.b d8,.i c9,.r a10]=(.br (ilt c1 c0) (qJ9 (inb c1 232) (qJ9 (inb c1 232) (let r0:=qZ [.i (cI a7 c1 0),.i c1,.b d8,.i c9,.r a10,.b d2,.i c3,.r a4];qJ8 r0 (qJa [.i c0,.i (qz .i64 c1 1),.b (gB r0 3),.i (gI r0 4),.r (gR r0 5),.b d5,.i c6,.r a7,.b (gB r0 0),.i (gI r0 1),.r (gR r0 2)])))) (.leaf (1,[.b d2,.i c3,.r a4,.b d5,.i c6,.r a7,.b d8,.i c9,.r a10]))):=by kernel_rfl
theorem qiH:kq [.b d0,.i c1,.r a2,.b d3,.i c4,.r a5]=(let r0:=qh yH [.i c4,.i 0,.b d0,.i c1,.r a2,.b d3,.i c4,.r a5,.b (not (beq d0 d3)),.i 0,.r (q3O 232 [.i 0])];qJ8 r0 (qJa [.b (gB r0 0),.i (gI r0 1),.r (gR r0 2),.b (gB r0 3),.i (gI r0 4),.r (gR r0 5),.b (gB r0 6),.i (gI r0 7),.r (gR r0 8)])):=by kernel_rfl
theorem qfJ:wB [.b d0,.i c1,.r a2]=(let r0:=zy [.b d0,.i c1,.r a2];qJ8 r0 (let r1:=zb [.s (gS r0 0)];qJ8 r1 (.br (ine (gI r1 0) 0) (qJa [.s [],.i (gI r1 0),.b (gB r0 1),.i (gI r0 2),.r (gR r0 3)]) (qJa [.s (gS r0 0),.i 0,.b (gB r0 1),.i (gI r0 2),.r (gR r0 3)])))):=by kernel_rfl
theorem qtU:q57 [.s e0,.s e1]=(let r0:=wA [.r [[.s e0],[.s e1]]];qJ8 r0 (.br (ine (gI r0 0) 0) (qJa [.s [],.i (gI r0 0)]) (let r1:=yS [.s e0,.s e1];qJ8 r1 (.br (gB r1 2) (let r2:=kG [.i (vn .i64 (gI r1 0) (gI r1 1))];qJ8 r2 (qJa [.s (gS r2 0),.i (gI r2 1)])) (let r2:=wG [.s e0];qJ8 r2 (let r3:=wG [.s e1];qJ8 r3 (let r4:=kq [.b (gB r2 0),.i (gI r2 1),.r (gR r2 2),.b (gB r3 0),.i (gI r3 1),.r (gR r3 2)];qJ8 r4 (let r5:=wB [.b (gB r4 6),.i (gI r4 7),.r (gR r4 8)];qJ8 r5 (qJa [.s (gS r5 0),.i (gI r5 1)]))))))))):=by kernel_rfl
theorem qbc:zL [.s e0,.s e1,.i c2]=(.br (ine c2 0) (qJa [.s [48],.i c2]) (let r0:=q57 [.s e0,.s e1];qJ8 r0 (.br (ine (gI r0 1) 0) (qJa [.s [48],.i (gI r0 1)]) (qJa [.s (gS r0 0),.i (gI r0 1)])))):=by kernel_rfl
theorem qak:jX [.s e0,.r a1,.i c2,.i c3,.i c4]=(.br (ilt c3 c2) (qJ9 (inb c3 (qk a1)) (let r0:=zL [.s e0,.s (cS a1 c3 0),.i c4];qJ8 r0 (qJa [.s (gS r0 0),.r a1,.i c2,.i (qz .i64 c3 1),.i (gI r0 1)]))) (.leaf (1,[.s e0,.i c4]))):=by kernel_rfl
theorem ql3:qf [.r a0,.i c1]=(let r0:=qh jX [.s [49],.r a0,.i (qk a0),.i 0,.i c1];qJ8 r0 (qJa [.s (gS r0 0),.i (gI r0 1)])):=by kernel_rfl
theorem qka:vt [.b d0,.i c1,.r a2,.b d3,.i c4,.r a5]=(.br (beq d0 d3) (let r0:=qZ [.i 1,.i 0,.b d0,.i c1,.r a2,.b d3,.i c4,.r a5];qJ8 r0 (qJa [.b (gB r0 0),.i (gI r0 1),.r (gR r0 2),.b (gB r0 3),.i (gI r0 4),.r (gR r0 5)])) (let r0:=vh [.b d0,.i c1,.r a2,.b d3,.i c4,.r a5];qJ8 r0 (.br (ile 0 (gI r0 0)) (let r1:=qZ [.i (-1),.i 0,.b (gB r0 1),.i (gI r0 2),.r (gR r0 3),.b (gB r0 4),.i (gI r0 5),.r (gR r0 6)];qJ8 r1 (qJa [.b (gB r1 0),.i (gI r1 1),.r (gR r1 2),.b (gB r1 3),.i (gI r1 4),.r (gR r1 5)])) (let r1:=qZ [.i (-1),.i 0,.b (gB r0 4),.i (gI r0 5),.r (gR r0 6),.b (gB r0 1),.i (gI r0 2),.r (gR r0 3)];qJ8 r1 (qJa [.b (gB r1 0),.i (gI r1 1),.r (gR r1 2),.b (gB r0 4),.i (gI r0 5),.r (gR r0 6)]))))):=by kernel_rfl
theorem qcq:q6a [.r a0,.i c1,.i c2,.b d3,.i c4,.r a5]=(.br (ilt c2 c1) (qJ9 (inb c2 (qk a0)) (let r0:=wG [.s (cS a0 c2 0)];qJ8 r0 (let r1:=vt [.b d3,.i c4,.r a5,.b (gB r0 0),.i (gI r0 1),.r (gR r0 2)];qJ8 r1 (qJa [.r a0,.i c1,.i (qz .i64 c2 1),.b (gB r1 0),.i (gI r1 1),.r (gR r1 2)])))) (.leaf (1,[.b d3,.i c4,.r a5]))):=by kernel_rfl
theorem quE:qah [.r a0]=(let r0:=qh q6a [.r a0,.i (qk a0),.i 0,.b false,.i 0,.r (q3O 232 [.i 0])];qJ8 r0 (let r1:=wB [.b (gB r0 0),.i (gI r0 1),.r (gR r0 2)];qJ8 r1 (qJa [.s (gS r1 0),.i (gI r1 1)]))):=by kernel_rfl
theorem quJ:q2N [.s e0,.s e1]=(let r0:=wA [.r [[.s e0],[.s e1]]];qJ8 r0 (.br (ine (gI r0 0) 0) (qJa [.s [],.i (gI r0 0)]) (let r1:=yS [.s e0,.s e1];qJ8 r1 (.br (gB r1 2) (let r2:=kG [.i (qz .i64 (gI r1 0) (gI r1 1))];qJ8 r2 (qJa [.s (gS r2 0),.i (gI r2 1)])) (let r2:=qah [.r [[.s e0],[.s e1]]];qJ8 r2 (qJa [.s (gS r2 0),.i (gI r2 1)])))))):=by kernel_rfl
theorem qlo:q1H [.s e0]=(let r0:=yW [.s e0];qJ8 r0 (.br (ieq (gI r0 0) 0) (qJa [.s e0]) (.br (ieq (gI r0 0) 1) (qJ9 (ile ((qB [45])+(qB e0)) 140737488355328) (qJa [.s (qdK [45] e0)])) (qJ9 (q7y (qB e0) (qB e0)) (qJ9 (q7y 1 (qB e0)) (qJa [.s (qfy e0 1 (qB e0))])))))):=by kernel_rfl
theorem quN:q7a [.s e0,.s e1]=(let r0:=wA [.r [[.s e0],[.s e1]]];qJ8 r0 (.br (ine (gI r0 0) 0) (qJa [.s [],.i (gI r0 0)]) (let r1:=q1H [.s e1];qJ8 r1 (let r2:=q2N [.s e0,.s (gS r1 0)];qJ8 r2 (qJa [.s (gS r2 0),.i (gI r2 1)]))))):=by kernel_rfl
theorem qb9:wQ [.s e0,.s e1,.i c2]=(.br (ine c2 0) (qJa [.s [48],.i c2]) (let r0:=q7a [.s e0,.s e1];qJ8 r0 (.br (ine (gI r0 1) 0) (qJa [.s [48],.i (gI r0 1)]) (qJa [.s (gS r0 0),.i (gI r0 1)])))):=by kernel_rfl
theorem qm0:zu [.s e0,.s e1,.i c2]=(let r0:=wQ [.s e0,.s e1,.i c2];qJ8 r0 (qJa [.s (gS r0 0),.i (gI r0 1)])):=by kernel_rfl
theorem qqE:q2Y [.s e0,.s e1,.s e2,.s e3,.i c4]=(let r0:=qf [.r [[.s e0],[.s e3]],.i c4];qJ8 r0 (let r1:=qf [.r [[.s e2],[.s e1]],.i (gI r0 1)];qJ8 r1 (let r2:=zu [.s (gS r0 0),.s (gS r1 0),.i (gI r1 1)];qJ8 r2 (let r3:=qf [.r [[.s e1],[.s e3]],.i (gI r2 1)];qJ8 r3 (qJa [.s (gS r2 0),.s (gS r3 0),.i (gI r3 1)]))))):=by kernel_rfl
theorem qd1:q1y [.r a0,.i c1,.i c2]=(.br (ilt c2 c1) (qJ9 (inb c2 (qk a0)) (let r0:=z8 [.s (cS a0 c2 0)];qJ8 r0 (.br (ine (gI r0 0) 0) (.leaf (2,[.i (gI r0 0)])) (qJa [.r a0,.i c1,.i (qz .i64 c2 1)])))) (.leaf (1,[]))):=by kernel_rfl
theorem qoL:qA [.r a0]=(let r0:=qh q1y [.r a0,.i (qk a0),.i 0];qJ8 r0 (.br (jIs r0 0) (qJa [.i 0]) (qJa [.i (gI r0 0)]))):=by kernel_rfl
theorem qhM:ul [.s e0,.s e1]=(let r0:=qN [.s e0,.s e1];qJ8 r0 (qJa [.b (gB r0 0)])):=by kernel_rfl
theorem qoa:q1U [.s e0,.s e1]=(.br (seq e1 [49]) (qJa [.s e0]) (qJ9 (ile ((qB e0)+(qB [47])) 140737488355328) (qJ9 (ile ((qB (qdK e0 [47]))+(qB e1)) 140737488355328) (qJa [.s (qdK (qdK e0 [47]) e1)])))):=by kernel_rfl
theorem qp5:q4n [.s e0,.s e1]=(let t0:=wA [.r [[.s e0],[.s e1]]];let t1:=yS [.s e0,.s e1];let i0:Int:=(gI t1 1);let i1:Int:=(qa8 (gI t1 0) i0);let i2:Int:=(qbR .i64 (gI t1 0) i0);let t2:=wJ [.i (yM .i64 i2 1)];let t3:=wJ [.i (qz .i64 i1 i0)];let t4:TR:=(qJ8 (wJ [.i i2]) (qJ8 (wJ [.i i1]) (qJa [.s (gS (wJ [.i i2]) 0),.s (gS (wJ [.i i1]) 0),.i 0])));let t5:=wG [.s e0];let t6:=wG [.s e1];let t7:=uh [.b (gB t5 0),.i (gI t5 1),.r (gR t5 2),.b (gB t6 0),.i (gI t6 1),.r (gR t6 2)];let b0:Bool:=(not (beq (gB t7 0) (gB t7 3)));let t8:=vt [.b true,.i (gI t7 7),.r (gR t7 8),.b true,.i 1,.r (qfD (q3O 232 [.i 0]) 0 0 [.i 1])];let t9:=vt [.b (gB t7 0),.i (gI t7 10),.r (gR t7 11),.b (gB t7 3),.i (gI t7 4),.r (gR t7 5)];let t10:=zy [.b (gB t8 0),.i (gI t8 1),.r (gR t8 2)];let t11:=zy [.b (gB t9 0),.i (gI t9 1),.r (gR t9 2)];let t12:=zy [.b b0,.i (gI t7 7),.r (gR t7 8)];let t13:=zy [.b (gB t7 0),.i (gI t7 10),.r (gR t7 11)];let t14:TR:=(qJ8 t12 (qJ8 t13 (qJa [.s (gS t12 0),.s (gS t13 0),.i 0])));(qJ8 t0 (.br (ine (gI t0 0) 0) (qJa [.s [],.s [],.i (gI t0 0)]) (.br (seq e1 [48]) (qJa [.s [],.s [],.i 10]) (qJ8 t1 (.br (gB t1 2) (qJ9 (ine i0 0) (qJ9 (ine i0 0) (.br (ine i1 0) (.br (not (beq (ilt i1 0) (ilt i0 0))) (qJ8 t2 (qJ8 t3 (qJa [.s (gS t2 0),.s (gS t3 0),.i 0]))) t4) t4))) (qJ8 t5 (qJ8 t6 (qJ8 t7 (.br (ilt 0 (gI t7 10)) (.br b0 (qJ8 t8 (qJ8 t9 (qJ8 t10 (qJ8 t11 (qJa [.s (gS t10 0),.s (gS t11 0),.i 0]))))) t14) t14)))))))))):=by kernel_rfl
theorem qtz:q6Z [.s e0,.s e1]=(let r0:=q4n [.s e0,.s e1];qJ8 r0 (.br (ine (gI r0 2) 0) (qJa [.s [],.i (gI r0 2)]) (let r1:=zb [.s (gS r0 0)];qJ8 r1 (.br (ine (gI r1 0) 0) (qJa [.s [],.i (gI r1 0)]) (qJa [.s (gS r0 0),.i 0]))))):=by kernel_rfl
theorem qb1:wM [.s e0,.s e1,.i c2]=(.br (ine c2 0) (qJa [.s [48],.i c2]) (let r0:=q2D [.s e0,.s e1];qJ8 r0 (.br (ine (gI r0 1) 0) (qJa [.s [48],.i (gI r0 1)]) (qJa [.s (gS r0 0),.i (gI r0 1)])))):=by kernel_rfl
theorem qba:qW [.s e0,.s e1,.i c2]=(.br (ine c2 0) (qJa [.s [48],.i c2]) (let r0:=q6Z [.s e0,.s e1];qJ8 r0 (.br (ine (gI r0 1) 0) (qJa [.s [48],.i (gI r0 1)]) (qJa [.s (gS r0 0),.i (gI r0 1)])))):=by kernel_rfl
theorem qhv:z6 [.s e0,.s e1,.i c2]=(let r0:=wM [.s e0,.s e1,.i c2];qJ8 r0 (let r1:=ul [.s e1,.s [45]];qJ8 r1 (.br (gB r1 0) (let r2:=zu [.s [48],.s (gS r0 0),.i (gI r0 1)];qJ8 r2 (.br (ine (gI r2 1) 0) (qJa [.s [],.i (gI r2 1)]) (let r3:=qW [.s e0,.s (gS r2 0),.i (gI r2 1)];qJ8 r3 (let r4:=qW [.s e1,.s (gS r2 0),.i (gI r3 1)];qJ8 r4 (let r5:=q1U [.s (gS r3 0),.s (gS r4 0)];qJ8 r5 (qJa [.s (gS r5 0),.i (gI r4 1)])))))) (.br (ine (gI r0 1) 0) (qJa [.s [],.i (gI r0 1)]) (let r2:=qW [.s e0,.s (gS r0 0),.i (gI r0 1)];qJ8 r2 (let r3:=qW [.s e1,.s (gS r0 0),.i (gI r2 1)];qJ8 r3 (let r4:=q1U [.s (gS r2 0),.s (gS r3 0)];qJ8 r4 (qJa [.s (gS r4 0),.i (gI r3 1)])))))))):=by kernel_rfl
theorem qcD:vG [.s e0,.s e1]=(let r0:=qA [.r [[.s e0],[.s e1]]];qJ8 r0 (.br (ine (gI r0 0) 0) (qJa [.s [],.i (gI r0 0)]) (let r1:=qK [.s e0];qJ8 r1 (let r2:=qK [.s e1];qJ8 r2 (let r3:=q2Y [.s (gS r1 0),.s (gS r1 1),.s (gS r2 0),.s (gS r2 1),.i 0];qJ8 r3 (.br (ine (gI r3 2) 0) (qJa [.s [],.i (gI r3 2)]) (.br (seq (gS r3 1) [48]) (qJa [.s [],.i 10]) (let r4:=z6 [.s (gS r3 0),.s (gS r3 1),.i (gI r3 2)];qJ8 r4 (qJa [.s (gS r4 0),.i (gI r4 1)]))))))))):=by kernel_rfl
theorem qtB:zF [.s e0,.s e1]=(let r0:=vG [.s e0,.s e1];qJ8 r0 (qJa [.s (gS r0 0),.i (gI r0 1)])):=by kernel_rfl
theorem qb0:wV [.s e0,.s e1,.i c2]=(.br (ine c2 0) (qJa [.s [48],.i c2]) (let r0:=zF [.s e0,.s e1];qJ8 r0 (.br (ine (gI r0 1) 0) (qJa [.s [48],.i (gI r0 1)]) (qJa [.s (gS r0 0),.i (gI r0 1)])))):=by kernel_rfl
theorem qlE:zk [.s e0,.s e1,.i c2]=(let r0:=wV [.s e0,.s e1,.i c2];qJ8 r0 (qJa [.s (gS r0 0),.i (gI r0 1)])):=by kernel_rfl
theorem qjR:jo [.s e0,.s e1,.s e2,.s e3,.i c4]=(let r0:=zk [.s e0,.s e2,.i c4];qJ8 r0 (let r1:=zk [.s e1,.s e3,.i (gI r0 1)];qJ8 r1 (qJa [.s (gS r0 0),.s (gS r1 0),.i (gI r1 1)]))):=by kernel_rfl
theorem qbg:wR [.s e0,.s e1,.i c2]=(.br (ine c2 0) (qJa [.s [48],.i c2]) (let r0:=q2N [.s e0,.s e1];qJ8 r0 (.br (ine (gI r0 1) 0) (qJa [.s [48],.i (gI r0 1)]) (qJa [.s (gS r0 0),.i (gI r0 1)])))):=by kernel_rfl
theorem qlz:yw [.s e0,.s e1,.i c2]=(let r0:=wR [.s e0,.s e1,.i c2];qJ8 r0 (qJa [.s (gS r0 0),.i (gI r0 1)])):=by kernel_rfl
theorem qpW:q37 [.s e0,.s e1,.s e2,.s e3,.i c4]=(let r0:=qf [.r [[.s e0],[.s e3]],.i c4];qJ8 r0 (let r1:=qf [.r [[.s e2],[.s e1]],.i (gI r0 1)];qJ8 r1 (let r2:=yw [.s (gS r0 0),.s (gS r1 0),.i (gI r1 1)];qJ8 r2 (let r3:=qf [.r [[.s e1],[.s e3]],.i (gI r2 1)];qJ8 r3 (qJa [.s (gS r2 0),.s (gS r3 0),.i (gI r3 1)]))))):=by kernel_rfl
theorem qbX:vE [.s e0,.s e1]=(let r0:=qA [.r [[.s e0],[.s e1]]];qJ8 r0 (.br (ine (gI r0 0) 0) (qJa [.s [],.i (gI r0 0)]) (let r1:=qK [.s e0];qJ8 r1 (let r2:=qK [.s e1];qJ8 r2 (let r3:=q37 [.s (gS r1 0),.s (gS r1 1),.s (gS r2 0),.s (gS r2 1),.i 0];qJ8 r3 (.br (ine (gI r3 2) 0) (qJa [.s [],.i (gI r3 2)]) (.br (seq (gS r3 1) [48]) (qJa [.s [],.i 10]) (let r4:=z6 [.s (gS r3 0),.s (gS r3 1),.i (gI r3 2)];qJ8 r4 (qJa [.s (gS r4 0),.i (gI r4 1)]))))))))):=by kernel_rfl
theorem quZ:vY [.s e0,.s e1]=(let r0:=vE [.s e0,.s e1];qJ8 r0 (qJa [.s (gS r0 0),.i (gI r0 1)])):=by kernel_rfl
theorem qb3:v6 [.s e0,.s e1,.i c2]=(.br (ine c2 0) (qJa [.s [48],.i c2]) (let r0:=vY [.s e0,.s e1];qJ8 r0 (.br (ine (gI r0 1) 0) (qJa [.s [48],.i (gI r0 1)]) (qJa [.s (gS r0 0),.i (gI r0 1)])))):=by kernel_rfl
theorem qlp:zI [.s e0,.s e1,.i c2]=(let r0:=v6 [.s e0,.s e1,.i c2];qJ8 r0 (qJa [.s (gS r0 0),.i (gI r0 1)])):=by kernel_rfl
theorem qpT:q3l [.s e0,.s e1,.s e2,.s e3,.i c4]=(let r0:=qf [.r [[.s e0],[.s e2]],.i c4];qJ8 r0 (let r1:=qf [.r [[.s e1],[.s e3]],.i (gI r0 1)];qJ8 r1 (qJa [.s (gS r0 0),.s (gS r1 0),.i (gI r1 1)]))):=by kernel_rfl
theorem qbU:vu [.s e0,.s e1]=(let r0:=qA [.r [[.s e0],[.s e1]]];qJ8 r0 (.br (ine (gI r0 0) 0) (qJa [.s [],.i (gI r0 0)]) (let r1:=qK [.s e0];qJ8 r1 (let r2:=qK [.s e1];qJ8 r2 (let r3:=q3l [.s (gS r1 0),.s (gS r1 1),.s (gS r2 0),.s (gS r2 1),.i 0];qJ8 r3 (.br (ine (gI r3 2) 0) (qJa [.s [],.i (gI r3 2)]) (.br (seq (gS r3 1) [48]) (qJa [.s [],.i 10]) (let r4:=z6 [.s (gS r3 0),.s (gS r3 1),.i (gI r3 2)];qJ8 r4 (qJa [.s (gS r4 0),.i (gI r4 1)]))))))))):=by kernel_rfl
theorem qu0:vl [.s e0,.s e1]=(let r0:=vu [.s e0,.s e1];qJ8 r0 (qJa [.s (gS r0 0),.i (gI r0 1)])):=by kernel_rfl
theorem qb6:wU [.s e0,.s e1,.i c2]=(.br (ine c2 0) (qJa [.s [48],.i c2]) (let r0:=vl [.s e0,.s e1];qJ8 r0 (.br (ine (gI r0 1) 0) (qJa [.s [48],.i (gI r0 1)]) (qJa [.s (gS r0 0),.i (gI r0 1)])))):=by kernel_rfl
theorem qmh:qY [.s e0,.s e1,.i c2]=(let r0:=wU [.s e0,.s e1,.i c2];qJ8 r0 (qJa [.s (gS r0 0),.i (gI r0 1)])):=by kernel_rfl
theorem qls:v8 [.s e0,.s e1,.s e2,.s e3,.i c4]=(let r0:=qY [.s e0,.s e2,.i c4];qJ8 r0 (let r1:=qY [.s e1,.s e3,.i (gI r0 1)];qJ8 r1 (let r2:=zI [.s (gS r0 0),.s (gS r1 0),.i (gI r1 1)];qJ8 r2 (qJa [.s (gS r2 0),.i (gI r2 1)])))):=by kernel_rfl
theorem qqy:q3w [.s e0,.s e1,.s e2,.s e3,.i c4]=(let r0:=qf [.r [[.s e0],[.s e3]],.i c4];qJ8 r0 (let r1:=qf [.r [[.s e1],[.s e2]],.i (gI r0 1)];qJ8 r1 (qJa [.s (gS r0 0),.s (gS r1 0),.i (gI r1 1)]))):=by kernel_rfl
theorem qcT:vF [.s e0,.s e1]=(let r0:=qA [.r [[.s e0],[.s e1]]];qJ8 r0 (.br (ine (gI r0 0) 0) (qJa [.s [],.i (gI r0 0)]) (let r1:=qK [.s e0];qJ8 r1 (let r2:=qK [.s e1];qJ8 r2 (let r3:=q3w [.s (gS r1 0),.s (gS r1 1),.s (gS r2 0),.s (gS r2 1),.i 0];qJ8 r3 (.br (ine (gI r3 2) 0) (qJa [.s [],.i (gI r3 2)]) (.br (seq (gS r3 1) [48]) (qJa [.s [],.i 10]) (let r4:=z6 [.s (gS r3 0),.s (gS r3 1),.i (gI r3 2)];qJ8 r4 (qJa [.s (gS r4 0),.i (gI r4 1)]))))))))):=by kernel_rfl
theorem qtQ:kR [.s e0,.s e1]=(let r0:=qA [.r [[.s e0],[.s e1]]];qJ8 r0 (.br (ine (gI r0 0) 0) (qJa [.s [],.i (gI r0 0)]) (.br (seq e1 [48]) (qJa [.s [],.i 10]) (let r1:=vF [.s e0,.s e1];qJ8 r1 (qJa [.s (gS r1 0),.i (gI r1 1)]))))):=by kernel_rfl
theorem qb2:zM [.s e0,.s e1,.i c2]=(.br (ine c2 0) (qJa [.s [48],.i c2]) (let r0:=kR [.s e0,.s e1];qJ8 r0 (.br (ine (gI r0 1) 0) (qJa [.s [48],.i (gI r0 1)]) (qJa [.s (gS r0 0),.i (gI r0 1)])))):=by kernel_rfl
theorem qiF:j9 [.r a0,.i c1,.i c2,.i c3,.i c4]=(let t0:=jo [.s (cS a0 c2 0),.s (cS a0 c2 1),.s (cS a0 c1 0),.s (cS a0 c1 1),.i c4];let s0:List UInt8:=(gS t0 1);let s1:List UInt8:=(gS t0 0);let t1:=v8 [.s s1,.s s0,.s s1,.s s0,.i (gI t0 2)];let t2:=zI [.s (gS t1 0),.s (cS a0 c1 2),.i (gI t1 1)];let t3:=zk [.s (gS t2 0),.s (cS a0 c2 2),.i (gI t2 1)];let t4:=qY [.s [50],.s (gS t1 0),.i (gI t3 1)];let t5:=zM [.s (gS t3 0),.s (gS t4 0),.i (gI t4 1)];let t6:=qY [.s (gS t5 0),.s s1,.i (gI t5 1)];let t7:=zI [.s (cS a0 c1 0),.s (gS t6 0),.i (gI t6 1)];let t8:=qY [.s (gS t5 0),.s s0,.i (gI t7 1)];let t9:=zI [.s (cS a0 c1 1),.s (gS t8 0),.i (gI t8 1)];let t10:=zk [.s [48],.s s0,.i (gI t9 1)];let t11:=zM [.s (cS a0 c1 2),.s (gS t1 0),.i (gI t10 1)];let t12:=qY [.s (gS t5 0),.s (gS t5 0),.i (gI t11 1)];let t13:=zk [.s (gS t11 0),.s (gS t12 0),.i (gI t12 1)];let p0:List PV:=[.i (gI t13 1)];let t14:=zk ((.s [48])::(.s s1)::p0);let s2:List UInt8:=(gS t13 0);let b0:Bool:=(beq (seq s2 [48]) (ieq c3 0));let t15:TR:=(qJa [.s (gS t7 0),.s (gS t9 0),.s s0,.s (gS t14 0),.s s2,.b false,.i (gI t14 1)]);let t16:TR:=(qJa ((.s (gS t7 0))::(.s (gS t9 0))::(.s (gS t10 0))::(.s s1)::(.s s2)::(.b false)::p0));(qJ9 (inb c1 (qk a0)) (qJ9 (inb c2 (qk a0)) (.br (ieq c1 c2) (qJa [.s (cS a0 c1 0),.s (cS a0 c1 1),.s [48],.s [48],.s [48],.b (ieq c3 0),.i c4]) (qJ8 t0 (qJ8 t1 (.br (seq (gS t1 0) [48]) (qJa [.s [],.s [],.s [],.s [],.s [],.b false,.i (gI t1 1)]) (qJ8 t2 (qJ8 t3 (qJ8 t4 (qJ8 t5 (qJ8 t6 (qJ8 t7 (qJ8 t8 (qJ8 t9 (qJ8 t10 (qJ8 t11 (qJ8 t12 (qJ8 t13 (.br (ilt c3 0) (qJ8 t14 (.br (ieq (gI t14 1) 0) (qJ9 (inb 0 (qB s2)) (.br (ine (sat s2 0) 45) (qJa [.s (gS t7 0),.s (gS t9 0),.s s0,.s (gS t14 0),.s s2,.b b0,.i (gI t14 1)]) t15)) t15)) (.br (ieq (gI t13 1) 0) (qJ9 (inb 0 (qB s2)) (.br (ine (sat s2 0) 45) (qJa ((.s (gS t7 0))::(.s (gS t9 0))::(.s (gS t10 0))::(.s s1)::(.s s2)::(.b b0)::p0)) t16)) t16))))))))))))))))))))):=by kernel_rfl
theorem qsq:q2z [.s e0]=(let r0:=zb [.s e0];qJ8 r0 (.br (ine (gI r0 0) 0) (qJa [.i 0,.i (gI r0 0)]) (let r1:=yW [.s e0];qJ8 r1 (qJa [.i (gI r1 0),.i 0])))):=by kernel_rfl
theorem qkl:zA [.s e0,.i c1]=(.br (ine c1 0) (qJa [.i 0,.i c1]) (let r0:=q2z [.s e0];qJ8 r0 (qJa [.i (gI r0 0),.i (gI r0 1)]))):=by kernel_rfl
theorem qjP:ub [.s e0,.s e1,.s e2,.i c3]=(let r0:=zA [.s e0,.i c3];qJ8 r0 (let r1:=zA [.s e1,.i (gI r0 1)];qJ8 r1 (let r2:=zA [.s e2,.i (gI r1 1)];qJ8 r2 (.br (ile 0 (vn .i64 (gI r0 0) (vn .i64 (gI r1 0) (gI r2 0)))) (.br (ine (gI r0 0) 0) (qJa [.i (gI r0 0),.i (gI r2 1)]) (qJa [.i (vn .i64 (gI r1 0) (gI r2 0)),.i (gI r2 1)])) (let r3:=qf [.r [[.s e0],[.s e0]],.i (gI r2 1)];qJ8 r3 (let r4:=qf [.r [[.s e1],[.s e1],[.s e2]],.i (gI r3 1)];qJ8 r4 (let r5:=zu [.s (gS r3 0),.s (gS r4 0),.i (gI r4 1)];qJ8 r5 (let r6:=zA [.s (gS r5 0),.i (gI r5 1)];qJ8 r6 (qJa [.i (vn .i64 (gI r0 0) (gI r6 0)),.i (gI r6 1)]))))))))):=by kernel_rfl
theorem qkm:q0B [.s e0,.s e1,.s e2,.s e3,.s e4]=(let r0:=qA [.r [[.s e0],[.s e1],[.s e2],[.s e3],[.s e4]]];qJ8 r0 (.br (ine (gI r0 0) 0) (qJa [.i 0,.i (gI r0 0)]) (qJ9 (inb 0 (qB e2)) (.br (ieq (sat e2 0) 45) (qJa [.i 0,.i 2]) (qJ9 (inb 0 (qB e4)) (.br (ieq (sat e4 0) 45) (qJa [.i 0,.i 2]) (let r1:=qK [.s e0];qJ8 r1 (let r2:=qK [.s e1];qJ8 r2 (let r3:=qK [.s e2];qJ8 r3 (let r4:=qK [.s e3];qJ8 r4 (let r5:=qK [.s e4];qJ8 r5 (let r6:=qf [.r [[.s (gS r1 0)],[.s (gS r2 1)],[.s (gS r3 1)],[.s (gS r4 1)],[.s (gS r5 1)]],.i 0];qJ8 r6 (let r7:=qf [.r [[.s (gS r2 0)],[.s (gS r1 1)],[.s (gS r4 1)],[.s (gS r5 1)]],.i (gI r6 1)];qJ8 r7 (let r8:=qf [.r [[.s (gS r3 0)],[.s (gS r3 1)]],.i (gI r7 1)];qJ8 r8 (let r9:=qf [.r [[.s (gS r4 0)],[.s (gS r1 1)],[.s (gS r2 1)],[.s (gS r3 1)]],.i (gI r8 1)];qJ8 r9 (let r10:=qf [.r [[.s (gS r5 0)],[.s (gS r5 1)]],.i (gI r9 1)];qJ8 r10 (let r11:=ub [.s (gS r6 0),.s (gS r7 0),.s (gS r8 0),.i (gI r10 1)];qJ8 r11 (let r12:=zA [.s (gS r9 0),.i (gI r11 1)];qJ8 r12 (let r13:=zA [.s (gS r10 0),.i (gI r12 1)];qJ8 r13 (.br (ile 0 (vn .i64 (gI r11 0) (vn .i64 (gI r12 0) (gI r13 0)))) (.br (ieq (gI r11 0) 0) (qJa [.i (vn .i64 (gI r12 0) (gI r13 0)),.i (gI r13 1)]) (qJa [.i (gI r11 0),.i (gI r13 1)])) (let r14:=qf [.r [[.s (gS r6 0)],[.s (gS r6 0)]],.i (gI r13 1)];qJ8 r14 (let r15:=qf [.r [[.s (gS r7 0)],[.s (gS r7 0)],[.s (gS r8 0)]],.i (gI r14 1)];qJ8 r15 (let r16:=yw [.s (gS r14 0),.s (gS r15 0),.i (gI r15 1)];qJ8 r16 (let r17:=qf [.r [[.s (gS r9 0)],[.s (gS r9 0)],[.s (gS r10 0)]],.i (gI r16 1)];qJ8 r17 (let r18:=zu [.s (gS r16 0),.s (gS r17 0),.i (gI r17 1)];qJ8 r18 (let r19:=qf [.r [[.s [50]],[.s (gS r6 0)],[.s (gS r7 0)]],.i (gI r18 1)];qJ8 r19 (let r20:=ub [.s (gS r18 0),.s (gS r19 0),.s (gS r8 0),.i (gI r19 1)];qJ8 r20 (.br (ine (gI r20 1) 0) (qJa [.i 0,.i (gI r20 1)]) (qJa [.i (vn .i64 (gI r11 0) (gI r20 0)),.i 0]))))))))))))))))))))))))))))):=by kernel_rfl
theorem qll:q1w [.s e0,.s e1,.s e2]=(let r0:=q0B [.s e0,.s e1,.s e2,.s [48],.s [48]];qJ8 r0 (qJa [.i (gI r0 0),.i (gI r0 1)])):=by kernel_rfl
theorem qjB:q0H [.s e0,.s e1,.s e2,.i c3]=(.br (ine c3 0) (qJa [.i 0,.i c3]) (let r0:=q1w [.s e0,.s e1,.s e2];qJ8 r0 (qJa [.i (gI r0 0),.i (gI r0 1)]))):=by kernel_rfl
theorem qiN:yf [.s e0,.s e1,.s e2,.s e3,.s e4,.s e5,.s e6,.s e7,.i c8]=(let r0:=jo [.s e3,.s e4,.s e0,.s e1,.i c8];qJ8 r0 (let r1:=v8 [.s (gS r0 0),.s (gS r0 1),.s (gS r0 0),.s (gS r0 1),.i (gI r0 2)];qJ8 r1 (let r2:=v8 [.s e5,.s e6,.s e5,.s e6,.i (gI r1 1)];qJ8 r2 (let r3:=qY [.s e7,.s (gS r2 0),.i (gI r2 1)];qJ8 r3 (let r4:=zI [.s (gS r1 0),.s (gS r3 0),.i (gI r3 1)];qJ8 r4 (let r5:=zk [.s (gS r4 0),.s e2,.i (gI r4 1)];qJ8 r5 (let r6:=v8 [.s (gS r0 0),.s (gS r0 1),.s e5,.s e6,.i (gI r5 1)];qJ8 r6 (let r7:=qY [.s [50],.s (gS r6 0),.i (gI r6 1)];qJ8 r7 (let r8:=q0H [.s (gS r5 0),.s (gS r7 0),.s e7,.i (gI r7 1)];qJ8 r8 (qJa [.b (ile (gI r8 0) 0),.i (gI r8 1)])))))))))):=by kernel_rfl
theorem uQ:wP [.r a0,.i c1,.i c2,.r a3,.r a4,.r a5,.i c6,.i c7,.i c8,.b d9,.s e10,.s e11,.s e12,.s e13,.s e14,.b d15,.r a16,.i c17,.i c18,.i c19,.s e20,.s e21,.s e22,.s e23,.s e24,.b d25,.s e26,.s e27,.s e28,.s e29,.s e30,.b d31,.b d32,.r a33,.i c34,.i c35,.i c36,.i c37,.s e38,.s e39,.s e40,.s e41,.s e42]=(let t0:=yf [.s (cS a0 c2 0),.s (cS a0 c2 1),.s (cS a0 c2 2),.s e38,.s e39,.s e40,.s e41,.s e42,.i c34];let p0:List PV:=[.i c35,.i c36,.i c37,.s e38,.s e39,.s e40,.s e41,.s e42];let p1:List PV:=((.r a3)::(.r a4)::(.r a5)::(.i c6)::(.i c7)::(.i c8)::(.b d9)::(.s e10)::(.s e11)::(.s e12)::(.s e13)::(.s e14)::(.b d15)::(.r a16)::(.i c17)::(.i c18)::(.i c19)::(.s e20)::(.s e21)::(.s e22)::(.s e23)::(.s e24)::(.b d25)::(.s e26)::(.s e27)::(.s e28)::(.s e29)::(.s e30)::(.b d31)::(.b d32)::(.r a33)::(.i (gI t0 1))::p0);(.br (ilt c2 c1) (qJ9 (inb c2 (qk a0)) (qJ8 t0 (.br (not (gB t0 0)) (.leaf (2,((.i c2)::p1))) (qJa ((.r a0)::(.i c1)::(.i (qz .i64 c2 1))::p1))))) (.leaf (1,((.r a3)::(.r a4)::(.r a5)::(.i c6)::(.i c7)::(.i c8)::(.b d9)::(.s e10)::(.s e11)::(.s e12)::(.s e13)::(.s e14)::(.b d15)::(.r a16)::(.i c17)::(.i c18)::(.i c19)::(.s e20)::(.s e21)::(.s e22)::(.s e23)::(.s e24)::(.b d25)::(.s e26)::(.s e27)::(.s e28)::(.s e29)::(.s e30)::(.b d31)::(.b d32)::(.r a33)::(.i c34)::p0))))):=by kernel_rfl
theorem qhH:jn [.r a0,.i c1,.i c2,.i c3,.i c4]=(let r0:=j9 [.r a0,.i c1,.i c2,.i c3,.i c4];qJ8 r0 (.br (gB r0 5) (let r1:=qh wP [.r a0,.i (qk a0),.i 0,.r a0,.r a0,.r a0,.i c1,.i c2,.i c3,.b (gB r0 5),.s (gS r0 0),.s (gS r0 1),.s (gS r0 2),.s (gS r0 3),.s (gS r0 4),.b (gB r0 5),.r a0,.i c1,.i c2,.i c3,.s (gS r0 0),.s (gS r0 1),.s (gS r0 2),.s (gS r0 3),.s (gS r0 4),.b (gB r0 5),.s (gS r0 0),.s (gS r0 1),.s (gS r0 2),.s (gS r0 3),.s (gS r0 4),.b (gB r0 5),.b (gB r0 5),.r a0,.i (gI r0 6),.i c1,.i c2,.i c3,.s (gS r0 0),.s (gS r0 1),.s (gS r0 2),.s (gS r0 3),.s (gS r0 4)];qJ8 r1 (.br (jIs r1 0) (qJa [.b (ieq (gI r1 31) 0),.i (gI r1 31)]) (.br (not (ile 0 (gI r1 0))) (qJa [.b (ieq (gI r1 32) 0),.i (gI r1 32)]) (qJa [.b false,.i (gI r1 32)])))) (qJa [.b false,.i (gI r0 6)]))):=by kernel_rfl
theorem q42:vq [.i c0,.i c1,.i c2,.r a3,.i c4,.i c5,.i c6,.b d7,.i c8]=(.br (ilt c1 c0) (let r0:=jn [.r a3,.i c1,.i c1,.i 0,.i c2];qJ8 r0 (.br (gB r0 0) (.leaf (2,[.i (gI r0 1),.r a3,.i c1,.i c1,.i 0,.b true,.i c8])) (qJa [.i c0,.i (qz .i64 c1 1),.i (gI r0 1),.r a3,.i c4,.i c5,.i c6,.b d7,.i c8]))) (.leaf (1,[.i c2,.r a3,.i c4,.i c5,.i c6,.b d7,.i c8]))):=by kernel_rfl
theorem q3C:wY [.i c0,.i c1,.i c2,.i c3,.i c4,.i c5,.i c6,.r a7,.i c8,.i c9,.i c10,.b d11,.i c12,.r a13]=(.br (ilt c5 c4) (qJ9 (inb c5 (qk a13)) (let r0:=jn [.r a7,.i c0,.i c1,.i (cI a13 c5 0),.i c6];qJ8 r0 (.br (gB r0 0) (.leaf (2,[.i (gI r0 1),.r a7,.i c0,.i c1,.i (cI a13 c5 0),.b true,.i c12])) (qJa [.i c0,.i c1,.i c2,.i c3,.i c4,.i (qz .i64 c5 1),.i (gI r0 1),.r a7,.i c8,.i c9,.i c10,.b d11,.i c12,.r a13])))) (.leaf (1,[.i c0,.i c1,.i c2,.i c3,.i c6,.r a7,.i c8,.i c9,.i c10,.b d11,.i c12]))):=by kernel_rfl
theorem q3D:wN [.i c0,.i c1,.i c2,.i c3,.i c4,.r a5,.i c6,.i c7,.i c8,.b d9,.i c10]=(.br (ilt c1 c10) (let r0:=qh wY [.i c0,.i c1,.i c2,.i c3,.i (qk [[.i 0],[.i 1],[.i (-1)]]),.i 0,.i c4,.r a5,.i c6,.i c7,.i c8,.b d9,.i c10,.r [[.i 0],[.i 1],[.i (-1)]]];qJ8 r0 (.br (jIs r0 0) (qJa [.i (gI r0 0),.i (qz .i64 (gI r0 1) 1),.i (gI r0 2),.i (gI r0 3),.i (gI r0 4),.r (gR r0 5),.i (gI r0 6),.i (gI r0 7),.i (gI r0 8),.b (gB r0 9),.i (gI r0 10)]) (.leaf (2,[.i (gI r0 0),.r (gR r0 1),.i (gI r0 2),.i (gI r0 3),.i (gI r0 4),.b (gB r0 5),.i (gI r0 6)])))) (.leaf (1,[.i c2,.i c3,.i c4,.r a5,.i c6,.i c7,.i c8,.b d9,.i c10]))):=by kernel_rfl
theorem q48:vJ [.i c0,.i c1,.i c2,.r a3,.i c4,.i c5,.i c6,.b d7,.i c8]=(.br (ilt c1 c0) (let r0:=qh wN [.i c1,.i (qz .i64 c1 1),.i c0,.i c1,.i c2,.r a3,.i c4,.i c5,.i c6,.b d7,.i c8];qJ8 r0 (.br (jIs r0 0) (qJa [.i (gI r0 0),.i (qz .i64 (gI r0 1) 1),.i (gI r0 2),.r (gR r0 3),.i (gI r0 4),.i (gI r0 5),.i (gI r0 6),.b (gB r0 7),.i (gI r0 8)]) (.leaf (2,[.i (gI r0 0),.r (gR r0 1),.i (gI r0 2),.i (gI r0 3),.i (gI r0 4),.b (gB r0 5),.i (gI r0 6)])))) (.leaf (1,[.i c2,.r a3,.i c4,.i c5,.i c6,.b d7,.i c8]))):=by kernel_rfl
theorem qje:wH [.r a0,.i c1]=(let r0:=qh vq [.i (qk a0),.i 0,.i c1,.r a0,.i 0,.i 0,.i 0,.b false,.i (qk a0)];qJ8 r0 (.br (jIs r0 0) (let r1:=qh vJ [.i (gI r0 6),.i 0,.i (gI r0 0),.r (gR r0 1),.i (gI r0 2),.i (gI r0 3),.i (gI r0 4),.b (gB r0 5),.i (gI r0 6)];qJ8 r1 (.br (jIs r1 0) (qJa [.i 0,.i 0,.i 0,.b false,.i (gI r1 0)]) (qJa [.i (gI r1 2),.i (gI r1 3),.i (gI r1 4),.b (gB r1 5),.i (gI r1 0)]))) (qJa [.i (gI r0 2),.i (gI r0 3),.i (gI r0 4),.b (gB r0 5),.i (gI r0 0)]))):=by kernel_rfl
theorem qoN:q1R [.r a0]=(let r0:=q10 [.r a0];qJ8 r0 (.br (ine (gI r0 0) 0) (qJa [.b false,.i 0,.i 0,.i 0,.i (gI r0 0)]) (let r1:=wH [.r a0,.i 0];qJ8 r1 (.br (ine (gI r1 4) 0) (qJa [.b false,.i 0,.i 0,.i 0,.i (gI r1 4)]) (qJa [.b (gB r1 3),.i (gI r1 0),.i (gI r1 1),.i (gI r1 2),.i 0]))))):=by kernel_rfl
theorem q12:zm [.i c0,.i c1,.i c2,.i c3,.i c4,.i c5,.i c6,.r a7,.i c8,.i c9,.i c10,.r a11,.i c12,.r a13,.r a14]=(.br (ilt c1 c0) (qJ9 (inb c1 (qk a13)) (qJ9 (inb (cI a13 c1 0) (qk a11)) (qJ9 (ile ((qk a14)+(qk [[.s (cS a11 (cI a13 c1 0) 0),.s (cS a11 (cI a13 c1 0) 1),.s (cS a11 (cI a13 c1 0) 2)]])) 2932031007402) (qJa [.i c0,.i (qz .i64 c1 1),.i c2,.i c3,.i c4,.i c5,.i c6,.r a7,.i c8,.i c9,.i c10,.r a11,.i c12,.r a13,.r (uV a14 [[.s (cS a11 (cI a13 c1 0) 0),.s (cS a11 (cI a13 c1 0) 1),.s (cS a11 (cI a13 c1 0) 2)]])])))) (.leaf (1,[.i c2,.i c3,.i c4,.i c5,.i c6,.r a7,.i c8,.i c9,.i c10,.r a11,.i c12,.r a13,.r a14]))):=by kernel_rfl
theorem q45:vC [.i c0,.i c1,.i c2,.i c3,.r a4,.i c5]=(let t0:=qh zm [.i (qk [[.i c0],[.i c1]]),.i 0,.i c0,.i c1,.i c2,.i c3,.i c1,.r a4,.i (qk a4),.i c0,.i c1,.r a4,.i c5,.r [[.i c0],[.i c1]],.r []];let t1:=wH [.r (gR t0 12),.i (gI t0 10)];let t2:TR:=(qJa [.i (gI t0 0),.i (qz .i64 (gI t0 1) 1),.i (gI t0 2),.i (gI t0 3),.r (gR t0 9),.i (gI t1 4)]);(.br (ilt c1 (qk a4)) (qJ8 t0 (qJ8 t1 (.br (not (gB t1 3)) (.br (ieq (gI t1 4) 0) (.leaf (2,[.i 0,.r [[.i (gI t0 0)],[.i (gI t0 1)]]])) t2) t2))) (.leaf (1,[.i c2,.i c3,.r a4,.i c5])))):=by kernel_rfl
theorem q5w:j4 [.i c0,.i c1,.r a2,.i c3]=(.br (ilt c1 c0) (let r0:=qh vC [.i c1,.i (qz .i64 c1 1),.i c0,.i c1,.r a2,.i c3];qJ8 r0 (.br (jIs r0 0) (qJa [.i (gI r0 0),.i (qz .i64 (gI r0 1) 1),.r (gR r0 2),.i (gI r0 3)]) (.leaf (2,[.i (gI r0 0),.r (gR r0 1)])))) (.leaf (1,[.r a2,.i c3]))):=by kernel_rfl
theorem q13:zl [.i c0,.i c1,.i c2,.i c3,.i c4,.i c5,.i c6,.i c7,.r a8,.i c9,.i c10,.i c11,.i c12,.r a13,.i c14,.r a15,.r a16]=(.br (ilt c1 c0) (qJ9 (inb c1 (qk a15)) (qJ9 (inb (cI a15 c1 0) (qk a13)) (qJ9 (ile ((qk a16)+(qk [[.s (cS a13 (cI a15 c1 0) 0),.s (cS a13 (cI a15 c1 0) 1),.s (cS a13 (cI a15 c1 0) 2)]])) 2932031007402) (qJa [.i c0,.i (qz .i64 c1 1),.i c2,.i c3,.i c4,.i c5,.i c6,.i c7,.r a8,.i c9,.i c10,.i c11,.i c12,.r a13,.i c14,.r a15,.r (uV a16 [[.s (cS a13 (cI a15 c1 0) 0),.s (cS a13 (cI a15 c1 0) 1),.s (cS a13 (cI a15 c1 0) 2)]])])))) (.leaf (1,[.i c2,.i c3,.i c4,.i c5,.i c6,.i c7,.r a8,.i c9,.i c10,.i c11,.i c12,.r a13,.i c14,.r a15,.r a16]))):=by kernel_rfl
theorem q4j:vH [.i c0,.i c1,.i c2,.i c3,.i c4,.r a5,.i c6]=(let t0:=qh zl [.i (qk [[.i c0],[.i c1],[.i c2]]),.i 0,.i c0,.i c1,.i c2,.i c3,.i c4,.i c2,.r a5,.i (qk a5),.i c0,.i c1,.i c2,.r a5,.i c6,.r [[.i c0],[.i c1],[.i c2]],.r []];let t1:=wH [.r (gR t0 14),.i (gI t0 12)];let t2:TR:=(qJa [.i (gI t0 0),.i (gI t0 1),.i (qz .i64 (gI t0 2) 1),.i (gI t0 3),.i (gI t0 4),.r (gR t0 11),.i (gI t1 4)]);(.br (ilt c2 (qk a5)) (qJ8 t0 (qJ8 t1 (.br (not (gB t1 3)) (.br (ieq (gI t1 4) 0) (.leaf (2,[.i 0,.r [[.i (gI t0 0)],[.i (gI t0 1)],[.i (gI t0 2)]]])) t2) t2))) (.leaf (1,[.i c0,.i c1,.i c3,.i c4,.r a5,.i c6])))):=by kernel_rfl
theorem q3X:vA [.i c0,.i c1,.i c2,.i c3,.r a4,.i c5]=(.br (ilt c1 (qk a4)) (let r0:=qh vH [.i c0,.i c1,.i (qz .i64 c1 1),.i c2,.i c3,.r a4,.i c5];qJ8 r0 (.br (jIs r0 0) (qJa [.i (gI r0 0),.i (qz .i64 (gI r0 1) 1),.i (gI r0 2),.i (gI r0 3),.r (gR r0 4),.i (gI r0 5)]) (.leaf (2,[.i (gI r0 0),.r (gR r0 1)])))) (.leaf (1,[.i c2,.i c3,.r a4,.i c5]))):=by kernel_rfl
theorem q4x:vB [.i c0,.i c1,.r a2,.i c3]=(.br (ilt c1 c0) (let r0:=qh vA [.i c1,.i (qz .i64 c1 1),.i c0,.i c1,.r a2,.i c3];qJ8 r0 (.br (jIs r0 0) (qJa [.i (gI r0 0),.i (qz .i64 (gI r0 1) 1),.r (gR r0 2),.i (gI r0 3)]) (.leaf (2,[.i (gI r0 0),.r (gR r0 1)])))) (.leaf (1,[.i c3]))):=by kernel_rfl
theorem qfv:zY [.r a0]=(let r0:=q10 [.r a0];qJ8 r0 (.br (ine (gI r0 0) 0) (qJa [.r [],.i (gI r0 0)]) (let r1:=qh j4 [.i (qk a0),.i 0,.r a0,.i 0];qJ8 r1 (.br (jIs r1 0) (let r2:=qh vB [.i (qk (gR r1 0)),.i 0,.r (gR r1 0),.i (gI r1 1)];qJ8 r2 (.br (jIs r2 0) (qJa [.r [],.i (gI r2 0)]) (qJa [.r (gR r2 1),.i (gI r2 0)]))) (qJa [.r (gR r1 1),.i (gI r1 0)]))))):=by kernel_rfl
theorem qnd:jN [.i c0]=(.br (ile (-100000) c0) (qJa [.b (ile c0 100000)]) (qJa [.b false])):=by kernel_rfl
theorem qqh:kC [.i c0,.i c1]=(qJ8 (jN [.i c0]) (.br (gB (jN [.i c0]) 0) (qJ8 (jN [.i c1]) (qJa [.b (gB (jN [.i c1]) 0)])) (qJa [.b false]))):=by kernel_rfl
theorem q47:zw [.r a0,.i c1,.i c2]=(.br (ilt c2 c1) (qJ9 (inb c2 (qk a0)) (let r0:=kC [.i (cI a0 c2 0),.i (cI a0 c2 1)];qJ8 r0 (.br (not (gB r0 0)) (.leaf (2,[.i 2])) (qJa [.r a0,.i c1,.i (qz .i64 c2 1)])))) (.leaf (1,[]))):=by kernel_rfl
theorem qeo:jl [.r a0]=(let r0:=qh zw [.r a0,.i (qk a0),.i 0];qJ8 r0 (.br (jIs r0 0) (qJa [.i 0]) (qJa [.i (gI r0 0)]))):=by kernel_rfl
theorem qa1:wu [.r a0]=(.br (ilt 64 (qk a0)) (qJa [.i 5]) (let r0:=jl [.r a0];qJ8 r0 (qJa [.i (gI r0 0)]))):=by kernel_rfl
theorem qnE:q4B [.r a0]=(let r0:=wu [.r a0];qJ8 r0 (qJa [.i (gI r0 0)])):=by kernel_rfl
theorem qpp:q49 [.i c0]=(.br (ieq c0 0) (qJa [.i 13]) (qJa [.i 0])):=by kernel_rfl
theorem qph:q4b [.r a0]=(let r0:=q4B [.r a0];qJ8 r0 (.br (ine (gI r0 0) 0) (qJa [.i (gI r0 0)]) (let r1:=q49 [.i (qk a0)];qJ8 r1 (qJa [.i (gI r1 0)])))):=by kernel_rfl
theorem q5K:wL [.r a0]=(qJ9 (ile (qk a0) 17592186044416) (qJa [.r a0])):=by kernel_rfl
theorem qfz:qM [.i c0,.i c1,.i c2]=(qJa [.i c0,.i c1,.i c2]):=by kernel_rfl
theorem qeP:q0y [.i c0,.i c1,.i c2,.i c3,.i c4,.i c5,.i c6,.i c7,.i c8,.i c9,.i c10]=(let b0:Bool:=(ieq c1 2);let p0:List PV:=[.i (qz .i64 c1 1),.i c2,.i c3,.i c4,.i c5,.i c6,.i c7,.i c8,.i c9,.i c10];let i0:Int:=(yM .i64 c7 c4);let i1:Int:=(yM .i64 c10 c4);let b1:Bool:=(ieq c1 1);let i2:Int:=(yM .i64 c10 c3);let b2:Bool:=(ieq c1 0);let i3:Int:=(yM .i64 c10 c2);let i4:Int:=(yM .i64 c9 c4);let i5:Int:=(yM .i64 c9 c3);let i6:Int:=(yM .i64 c9 c2);let i7:Int:=(yM .i64 c8 c4);let i8:Int:=(yM .i64 c8 c3);let i9:Int:=(yM .i64 c8 c2);let i10:Int:=(yM .i64 c7 c3);let i11:Int:=(yM .i64 c7 c2);let i12:Int:=(yM .i64 c6 c4);let i13:Int:=(yM .i64 c6 c3);let i14:Int:=(yM .i64 c6 c2);let i15:Int:=(yM .i64 c5 c4);let i16:Int:=(yM .i64 c5 c3);let i17:Int:=(yM .i64 c5 c2);(.br (ilt c1 3) (.br b0 (.br b0 (.br b0 (.br b0 (qJa ((.i (qz .i64 c0 (vn .i64 i0 i1)))::p0)) (.br b1 (qJa ((.i (qz .i64 c0 (vn .i64 i0 i2)))::p0)) (qJ9 b2 (qJa ((.i (qz .i64 c0 (vn .i64 i0 i3)))::p0))))) (.br b1 (.br b0 (qJa ((.i (qz .i64 c0 (vn .i64 i0 i4)))::p0)) (.br b1 (qJa ((.i (qz .i64 c0 (vn .i64 i0 i5)))::p0)) (qJ9 b2 (qJa ((.i (qz .i64 c0 (vn .i64 i0 i6)))::p0))))) (qJ9 b2 (.br b0 (qJa ((.i (qz .i64 c0 (vn .i64 i0 i7)))::p0)) (.br b1 (qJa ((.i (qz .i64 c0 (vn .i64 i0 i8)))::p0)) (qJ9 b2 (qJa ((.i (qz .i64 c0 (vn .i64 i0 i9)))::p0)))))))) (.br b1 (.br b0 (.br b0 (qJa ((.i (qz .i64 c0 (vn .i64 i10 i1)))::p0)) (.br b1 (qJa ((.i (qz .i64 c0 (vn .i64 i10 i2)))::p0)) (qJ9 b2 (qJa ((.i (qz .i64 c0 (vn .i64 i10 i3)))::p0))))) (.br b1 (.br b0 (qJa ((.i (qz .i64 c0 (vn .i64 i10 i4)))::p0)) (.br b1 (qJa ((.i (qz .i64 c0 (vn .i64 i10 i5)))::p0)) (qJ9 b2 (qJa ((.i (qz .i64 c0 (vn .i64 i10 i6)))::p0))))) (qJ9 b2 (.br b0 (qJa ((.i (qz .i64 c0 (vn .i64 i10 i7)))::p0)) (.br b1 (qJa ((.i (qz .i64 c0 (vn .i64 i10 i8)))::p0)) (qJ9 b2 (qJa ((.i (qz .i64 c0 (vn .i64 i10 i9)))::p0)))))))) (qJ9 b2 (.br b0 (.br b0 (qJa ((.i (qz .i64 c0 (vn .i64 i11 i1)))::p0)) (.br b1 (qJa ((.i (qz .i64 c0 (vn .i64 i11 i2)))::p0)) (qJ9 b2 (qJa ((.i (qz .i64 c0 (vn .i64 i11 i3)))::p0))))) (.br b1 (.br b0 (qJa ((.i (qz .i64 c0 (vn .i64 i11 i4)))::p0)) (.br b1 (qJa ((.i (qz .i64 c0 (vn .i64 i11 i5)))::p0)) (qJ9 b2 (qJa ((.i (qz .i64 c0 (vn .i64 i11 i6)))::p0))))) (qJ9 b2 (.br b0 (qJa ((.i (qz .i64 c0 (vn .i64 i11 i7)))::p0)) (.br b1 (qJa ((.i (qz .i64 c0 (vn .i64 i11 i8)))::p0)) (qJ9 b2 (qJa ((.i (qz .i64 c0 (vn .i64 i11 i9)))::p0))))))))))) (.br b1 (.br b0 (.br b0 (.br b0 (qJa ((.i (qz .i64 c0 (vn .i64 i12 i1)))::p0)) (.br b1 (qJa ((.i (qz .i64 c0 (vn .i64 i12 i2)))::p0)) (qJ9 b2 (qJa ((.i (qz .i64 c0 (vn .i64 i12 i3)))::p0))))) (.br b1 (.br b0 (qJa ((.i (qz .i64 c0 (vn .i64 i12 i4)))::p0)) (.br b1 (qJa ((.i (qz .i64 c0 (vn .i64 i12 i5)))::p0)) (qJ9 b2 (qJa ((.i (qz .i64 c0 (vn .i64 i12 i6)))::p0))))) (qJ9 b2 (.br b0 (qJa ((.i (qz .i64 c0 (vn .i64 i12 i7)))::p0)) (.br b1 (qJa ((.i (qz .i64 c0 (vn .i64 i12 i8)))::p0)) (qJ9 b2 (qJa ((.i (qz .i64 c0 (vn .i64 i12 i9)))::p0)))))))) (.br b1 (.br b0 (.br b0 (qJa ((.i (qz .i64 c0 (vn .i64 i13 i1)))::p0)) (.br b1 (qJa ((.i (qz .i64 c0 (vn .i64 i13 i2)))::p0)) (qJ9 b2 (qJa ((.i (qz .i64 c0 (vn .i64 i13 i3)))::p0))))) (.br b1 (.br b0 (qJa ((.i (qz .i64 c0 (vn .i64 i13 i4)))::p0)) (.br b1 (qJa ((.i (qz .i64 c0 (vn .i64 i13 i5)))::p0)) (qJ9 b2 (qJa ((.i (qz .i64 c0 (vn .i64 i13 i6)))::p0))))) (qJ9 b2 (.br b0 (qJa ((.i (qz .i64 c0 (vn .i64 i13 i7)))::p0)) (.br b1 (qJa ((.i (qz .i64 c0 (vn .i64 i13 i8)))::p0)) (qJ9 b2 (qJa ((.i (qz .i64 c0 (vn .i64 i13 i9)))::p0)))))))) (qJ9 b2 (.br b0 (.br b0 (qJa ((.i (qz .i64 c0 (vn .i64 i14 i1)))::p0)) (.br b1 (qJa ((.i (qz .i64 c0 (vn .i64 i14 i2)))::p0)) (qJ9 b2 (qJa ((.i (qz .i64 c0 (vn .i64 i14 i3)))::p0))))) (.br b1 (.br b0 (qJa ((.i (qz .i64 c0 (vn .i64 i14 i4)))::p0)) (.br b1 (qJa ((.i (qz .i64 c0 (vn .i64 i14 i5)))::p0)) (qJ9 b2 (qJa ((.i (qz .i64 c0 (vn .i64 i14 i6)))::p0))))) (qJ9 b2 (.br b0 (qJa ((.i (qz .i64 c0 (vn .i64 i14 i7)))::p0)) (.br b1 (qJa ((.i (qz .i64 c0 (vn .i64 i14 i8)))::p0)) (qJ9 b2 (qJa ((.i (qz .i64 c0 (vn .i64 i14 i9)))::p0))))))))))) (qJ9 b2 (.br b0 (.br b0 (.br b0 (qJa ((.i (qz .i64 c0 (vn .i64 i15 i1)))::p0)) (.br b1 (qJa ((.i (qz .i64 c0 (vn .i64 i15 i2)))::p0)) (qJ9 b2 (qJa ((.i (qz .i64 c0 (vn .i64 i15 i3)))::p0))))) (.br b1 (.br b0 (qJa ((.i (qz .i64 c0 (vn .i64 i15 i4)))::p0)) (.br b1 (qJa ((.i (qz .i64 c0 (vn .i64 i15 i5)))::p0)) (qJ9 b2 (qJa ((.i (qz .i64 c0 (vn .i64 i15 i6)))::p0))))) (qJ9 b2 (.br b0 (qJa ((.i (qz .i64 c0 (vn .i64 i15 i7)))::p0)) (.br b1 (qJa ((.i (qz .i64 c0 (vn .i64 i15 i8)))::p0)) (qJ9 b2 (qJa ((.i (qz .i64 c0 (vn .i64 i15 i9)))::p0)))))))) (.br b1 (.br b0 (.br b0 (qJa ((.i (qz .i64 c0 (vn .i64 i16 i1)))::p0)) (.br b1 (qJa ((.i (qz .i64 c0 (vn .i64 i16 i2)))::p0)) (qJ9 b2 (qJa ((.i (qz .i64 c0 (vn .i64 i16 i3)))::p0))))) (.br b1 (.br b0 (qJa ((.i (qz .i64 c0 (vn .i64 i16 i4)))::p0)) (.br b1 (qJa ((.i (qz .i64 c0 (vn .i64 i16 i5)))::p0)) (qJ9 b2 (qJa ((.i (qz .i64 c0 (vn .i64 i16 i6)))::p0))))) (qJ9 b2 (.br b0 (qJa ((.i (qz .i64 c0 (vn .i64 i16 i7)))::p0)) (.br b1 (qJa ((.i (qz .i64 c0 (vn .i64 i16 i8)))::p0)) (qJ9 b2 (qJa ((.i (qz .i64 c0 (vn .i64 i16 i9)))::p0)))))))) (qJ9 b2 (.br b0 (.br b0 (qJa ((.i (qz .i64 c0 (vn .i64 i17 i1)))::p0)) (.br b1 (qJa ((.i (qz .i64 c0 (vn .i64 i17 i2)))::p0)) (qJ9 b2 (qJa ((.i (qz .i64 c0 (vn .i64 i17 i3)))::p0))))) (.br b1 (.br b0 (qJa ((.i (qz .i64 c0 (vn .i64 i17 i4)))::p0)) (.br b1 (qJa ((.i (qz .i64 c0 (vn .i64 i17 i5)))::p0)) (qJ9 b2 (qJa ((.i (qz .i64 c0 (vn .i64 i17 i6)))::p0))))) (qJ9 b2 (.br b0 (qJa ((.i (qz .i64 c0 (vn .i64 i17 i7)))::p0)) (.br b1 (qJa ((.i (qz .i64 c0 (vn .i64 i17 i8)))::p0)) (qJ9 b2 (qJa ((.i (qz .i64 c0 (vn .i64 i17 i9)))::p0)))))))))))))) (.leaf (1,[.i c0])))):=by kernel_rfl
theorem qqo:q1i [.i c0,.i c1,.i c2,.i c3,.i c4,.i c5,.i c6,.i c7,.i c8]=(let r0:=qM [.i c0,.i c1,.i c2];qJ8 r0 (let r1:=qM [.i c3,.i c4,.i c5];qJ8 r1 (let r2:=qM [.i c6,.i c7,.i c8];qJ8 r2 (let r3:=qh q0y [.i 0,.i 0,.i (gI r0 0),.i (gI r0 1),.i (gI r0 2),.i (gI r1 0),.i (gI r1 1),.i (gI r1 2),.i (gI r2 0),.i (gI r2 1),.i (gI r2 2)];qJ8 r3 (qJa [.i (gI r3 0)]))))):=by kernel_rfl
theorem qqz:jD [.i c0]=(qJ8 (wJ [.i c0]) (qJa [.s (gS (wJ [.i c0]) 0)])):=by kernel_rfl
theorem qq0:j8 [.i c0]=(.br (ile 0 c0) (qJa [.b (ile c0 16)]) (qJa [.b false])):=by kernel_rfl
theorem qql:kr [.i c0,.i c1,.r a2,.i c3]=(qJ9 (inb (qz .i64 (vn .i64 c0 c3) c1) (qk a2)) (let r0:=jD [.i (cI a2 (qz .i64 (vn .i64 c0 c3) c1) 0)];qJ8 r0 (qJa [.s (gS r0 0),.r a2,.i c3]))):=by kernel_rfl
theorem qdz:uX [.i c0,.i c1,.i c2,.i c3,.i c4,.i c5,.r a6,.i c7,.i c8,.i c9,.i c10,.i c11,.r a12]=(.br (ilt c5 c4) (let r0:=kr [.i c1,.i c5,.r a6,.i c7];qJ8 r0 (qJ9 (ile ((qk a12)+(qk [[.s (gS r0 0)]])) 8796093022208) (qJa [.i c0,.i c1,.i c2,.i c3,.i c4,.i (qz .i64 c5 1),.r (gR r0 1),.i (gI r0 2),.i c8,.i c9,.i c10,.i c11,.r (uV a12 [[.s (gS r0 0)]])]))) (.leaf (1,[.i c0,.i c2,.i c3,.r a6,.i c7,.i c8,.i c9,.i c10,.i c11,.r a12]))):=by kernel_rfl
theorem qfg:q0u [.i c0,.i c1,.i c2,.r a3,.i c4,.i c5,.i c6,.i c7,.i c8,.r a9]=(.br (ilt c2 c1) (let r0:=qh uX [.i c0,.i c2,.i c1,.i c2,.i c0,.i 0,.r a3,.i c4,.i c5,.i c6,.i c7,.i c8,.r a9];qJ8 r0 (qJa [.i (gI r0 0),.i (gI r0 1),.i (qz .i64 (gI r0 2) 1),.r (gR r0 3),.i (gI r0 4),.i (gI r0 5),.i (gI r0 6),.i (gI r0 7),.i (gI r0 8),.r (gR r0 9)])) (.leaf (1,[.r a3,.i c4,.i c5,.i c6,.i c7,.i c8,.r a9]))):=by kernel_rfl
theorem qpP:q6f [.i c0,.i c1,.r a2,.i c3]=(let r0:=qh q0u [.i c1,.i c0,.i 0,.r a2,.i c3,.i 0,.i 0,.i c0,.i c1,.r []];qJ8 r0 (qJa [.i (gI r0 4),.i (gI r0 5),.r (gR r0 6),.r (gR r0 0),.i (gI r0 1)])):=by kernel_rfl
theorem qus:qaG [.i c0,.i c1,.r a2]=(let r0:=j8 [.i c0];qJ8 r0 (.br (not (gB r0 0)) (qJa [.i 0,.i 0,.r [],.i 2]) (let r1:=j8 [.i c1];qJ8 r1 (.br (not (gB r1 0)) (qJa [.i 0,.i 0,.r [],.i 2]) (.br (ine (qk a2) (vn .i64 c0 c1)) (qJa [.i 0,.i 0,.r [],.i 8]) (let r2:=q6f [.i c0,.i c1,.r a2,.i c1];qJ8 r2 (qJa [.i (gI r2 0),.i (gI r2 1),.r (gR r2 2),.i 0]))))))):=by kernel_rfl
theorem qa9:jU [.r a0,.i c1,.i c2]=(.br (ilt c2 c1) (qJ9 (inb c2 (qk a0)) (let r0:=z8 [.s (cS a0 c2 0)];qJ8 r0 (.br (ine (gI r0 0) 0) (.leaf (2,[.i (gI r0 0)])) (qJa [.r a0,.i c1,.i (qz .i64 c2 1)])))) (.leaf (1,[]))):=by kernel_rfl
theorem qlA:ji [.r a0]=(let r0:=qh jU [.r a0,.i (qk a0),.i 0];qJ8 r0 (.br (jIs r0 0) (qJa [.i 0]) (qJa [.i (gI r0 0)]))):=by kernel_rfl
theorem qoB:jF [.i c0,.i c1,.r a2]=(qJ8 (j8 [.i c0]) (.br (not (gB (j8 [.i c0]) 0)) (qJa [.i 2]) (qJ8 (j8 [.i c1]) (.br (not (gB (j8 [.i c1]) 0)) (qJa [.i 2]) (.br (ine (qk a2) (vn .i64 c0 c1)) (qJa [.i 8]) (qJ8 (ji [.r a2]) (qJa [.i (gI (ji [.r a2]) 0)]))))))):=by kernel_rfl
theorem qhA:vg [.s e0,.i c1,.i c2]=(let t0:TR:=(.br (ine c2 0) (qJa [.s [48],.i c2]) (qJa [.s e0,.i c2]));(.br (ine c1 0) (.br (ieq c2 0) (.br (ine c1 0) (qJa [.s [48],.i c1]) (qJa [.s e0,.i c1])) t0) t0)):=by kernel_rfl
theorem qiw:ko [.s e0,.s e1,.i c2]=(let r0:=vY [.s e0,.s e1];qJ8 r0 (let r1:=vg [.s (gS r0 0),.i (gI r0 1),.i c2];qJ8 r1 (qJa [.s (gS r1 0),.i (gI r1 1)]))):=by kernel_rfl
theorem qjl:kz [.s e0,.s e1,.i c2]=(let r0:=vl [.s e0,.s e1];qJ8 r0 (let r1:=vg [.s (gS r0 0),.i (gI r0 1),.i c2];qJ8 r1 (qJa [.s (gS r1 0),.i (gI r1 1)]))):=by kernel_rfl
theorem qpx:q40 [.i c0,.i c1,.r a2,.i c3,.i c4]=(qJ9 (inb (qz .i64 (vn .i64 c3 c1) c4) (qk a2)) (qJa [.s (cS a2 (qz .i64 (vn .i64 c3 c1) c4) 0)])):=by kernel_rfl
theorem qbM:ue [.r a0,.i c1,.s e2,.i c3,.i c4,.r a5,.i c6,.i c7,.i c8,.i c9,.r a10,.i c11,.r a12]=(.br (ilt c7 c6) (qJ9 (inb c7 (qk a5)) (let r0:=q40 [.i c8,.i c9,.r a10,.i c1,.i c7];qJ8 r0 (let r1:=kz [.s (gS r0 0),.s (cS a5 c7 0),.i c11];qJ8 r1 (let r2:=ko [.s e2,.s (gS r1 0),.i (gI r1 1)];qJ8 r2 (qJa [.r a0,.i c1,.s (gS r2 0),.i c3,.i c4,.r a5,.i c6,.i (qz .i64 c7 1),.i c8,.i c9,.r a10,.i (gI r2 1),.r a12]))))) (.leaf (1,[.r a0,.s e2,.i c3,.i c4,.i c8,.i c9,.r a10,.i c11,.r a12]))):=by kernel_rfl
theorem qbL:u7 [.r a0,.i c1,.i c2,.i c3,.i c4,.r a5,.i c6,.r a7]=(.br (ilt c2 c1) (let r0:=qh ue [.r a0,.i c2,.s [48],.i c1,.i c2,.r a0,.i (qk a0),.i 0,.i c3,.i c4,.r a5,.i c6,.r a7];qJ8 r0 (qJ9 (ile ((qk (gR r0 8))+(qk [[.s (gS r0 1)]])) 8796093022208) (qJa [.r (gR r0 0),.i (gI r0 2),.i (qz .i64 (gI r0 3) 1),.i (gI r0 4),.i (gI r0 5),.r (gR r0 6),.i (gI r0 7),.r (uV (gR r0 8) [[.s (gS r0 1)]])]))) (.leaf (1,[.i c6,.r a7]))):=by kernel_rfl
theorem qp0:q4s [.i c0,.i c1,.r a2,.r a3]=(let r0:=jF [.i c0,.i c1,.r a2];qJ8 r0 (.br (ine (gI r0 0) 0) (qJa [.r [],.i (gI r0 0)]) (.br (ine (qk a3) c1) (qJa [.r [],.i 8]) (let r1:=ji [.r a3];qJ8 r1 (.br (ine (gI r1 0) 0) (qJa [.r [],.i (gI r1 0)]) (let r2:=qh u7 [.r a3,.i c0,.i 0,.i c0,.i c1,.r a2,.i 0,.r []];qJ8 r2 (.br (ine (gI r2 0) 0) (qJa [.r [],.i (gI r2 0)]) (qJa [.r (gR r2 1),.i 0])))))))):=by kernel_rfl
theorem qfN:q1Q [.s e0,.r a1,.i c2,.i c3]=(.br (ilt c3 c2) (qJ9 (inb c3 (qk a1)) (let r0:=vY [.s e0,.s (cS a1 c3 0)];qJ8 r0 (.br (ine (gI r0 1) 0) (.leaf (2,[.s [],.i (gI r0 1)])) (qJa [.s (gS r0 0),.r a1,.i c2,.i (qz .i64 c3 1)])))) (.leaf (1,[.s e0]))):=by kernel_rfl
theorem que:qau [.r a0]=(.br (ilt 4096 (qk a0)) (qJa [.s [],.i 5]) (let r0:=qA [.r a0];qJ8 r0 (.br (ine (gI r0 0) 0) (qJa [.s [],.i (gI r0 0)]) (let r1:=qh q1Q [.s [48],.r a0,.i (qk a0),.i 0];qJ8 r1 (.br (jIs r1 0) (qJa [.s (gS r1 0),.i 0]) (qJa [.s (gS r1 0),.i (gI r1 1)])))))):=by kernel_rfl
theorem uH:qS [.r a0,.s e1,.r a2,.i c3,.i c4]=(.br (ilt c4 c3) (qJ9 (inb c4 (qk a2)) (qJ9 (inb c4 (qk a0)) (let r0:=vl [.s (cS a2 c4 0),.s (cS a0 c4 0)];qJ8 r0 (.br (ine (gI r0 1) 0) (.leaf (2,[.s [],.i (gI r0 1)])) (let r1:=vY [.s e1,.s (gS r0 0)];qJ8 r1 (.br (ine (gI r1 1) 0) (.leaf (2,[.s [],.i (gI r1 1)])) (qJa [.r a0,.s (gS r1 0),.r a2,.i c3,.i (qz .i64 c4 1)]))))))) (.leaf (1,[.s e1]))):=by kernel_rfl
theorem q6I:qH [.r a0,.r a1]=(let r0:=qh qS [.r a1,.s [48],.r a0,.i (qk a0),.i 0];qJ8 r0 (.br (jIs r0 0) (qJa [.s (gS r0 0),.i 0]) (qJa [.s (gS r0 0),.i (gI r0 1)]))):=by kernel_rfl
theorem qdh:uT [.i c0,.i c1,.i c2,.i c3,.s e4,.s e5,.s e6,.r a7]=(let t0:=jD [.i (qzr [c0,c1,c2] c3)];let p0:List PV:=[.s (gS t0 0)];let t1:=zF ((.s e6)::p0);let i0:Int:=(qz .i64 c3 1);let t2:=zF ((.s e5)::p0);let t3:=zF ((.s e4)::p0);(.br (ilt c3 3) (qJ9 (inb c3 3) (.br (ieq c3 2) (qJ8 t0 (qJ8 t1 (.br (ine (gI t1 1) 0) (.leaf (2,[.s [],.i (gI t1 1)])) (qJ9 (ile ((qk a7)+(qk [[.s (gS t1 0)]])) 8796093022208) (qJa [.i c0,.i c1,.i c2,.i i0,.s e4,.s e5,.s e6,.r (uV a7 [[.s (gS t1 0)]])]))))) (.br (ieq c3 1) (qJ8 t0 (qJ8 t2 (.br (ine (gI t2 1) 0) (.leaf (2,[.s [],.i (gI t2 1)])) (qJ9 (ile ((qk a7)+(qk [[.s (gS t2 0)]])) 8796093022208) (qJa [.i c0,.i c1,.i c2,.i i0,.s e4,.s e5,.s e6,.r (uV a7 [[.s (gS t2 0)]])]))))) (qJ9 (ieq c3 0) (qJ8 t0 (qJ8 t3 (.br (ine (gI t3 1) 0) (.leaf (2,[.s [],.i (gI t3 1)])) (qJ9 (ile ((qk a7)+(qk [[.s (gS t3 0)]])) 8796093022208) (qJa [.i c0,.i c1,.i c2,.i i0,.s e4,.s e5,.s e6,.r (uV a7 [[.s (gS t3 0)]])]))))))))) (.leaf (1,[.r a7])))):=by kernel_rfl
theorem qok:vU [.s e0,.s e1,.s e2,.i c3,.i c4,.i c5]=(let r0:=qM [.i c3,.i c4,.i c5];qJ8 r0 (let r1:=qh uT [.i (gI r0 0),.i (gI r0 1),.i (gI r0 2),.i 0,.s e0,.s e1,.s e2,.r []];qJ8 r1 (.br (jIs r1 0) (let r2:=qH [.r (gR r1 0),.r (gR r1 0)];qJ8 r2 (qJa [.s (gS r2 0),.i (gI r2 1)])) (qJa [.s (gS r1 0),.i (gI r1 1)])))):=by kernel_rfl
theorem q8J:jr [.r a0,.i c1,.i c2,.i c3,.i c4,.i c5,.i c6,.s e7,.s e8,.s e9,.s e10,.r a11,.r a12]=(.br (ilt c6 c5) (qJ9 (inb 0 (qk a0)) (qJ9 (inb (qz .i64 c2 1) (qk a0)) (qJ9 (inb (qz .i64 c6 1) (qk a0)) (let r0:=q1i [.i (cI a0 0 0),.i (cI a0 0 1),.i (cI a0 0 2),.i (cI a0 (qz .i64 c2 1) 0),.i (cI a0 (qz .i64 c2 1) 1),.i (cI a0 (qz .i64 c2 1) 2),.i (cI a0 (qz .i64 c6 1) 0),.i (cI a0 (qz .i64 c6 1) 1),.i (cI a0 (qz .i64 c6 1) 2)];qJ8 r0 (qJ9 (ile ((qk a11)+(qk [[.i (vn .i64 2 (gI r0 0))]])) 17592186044416) (qJa [.r a0,.i c1,.i c2,.i c3,.i c4,.i c5,.i (qz .i64 c6 1),.s e7,.s e8,.s e9,.s e10,.r (uV a11 [[.i (vn .i64 2 (gI r0 0))]]),.r a12])))))) (.leaf (1,[.r a0,.i c1,.i c2,.i c3,.i c4,.s e7,.s e8,.s e9,.s e10,.r a11,.r a12]))):=by kernel_rfl
theorem qan:jS [.r a0,.i c1,.i c2,.i c3,.s e4,.s e5,.s e6,.s e7,.r a8,.r a9]=(let p0:List PV:=[.s e4,.s e5,.s e6,.s e7,.r a8,.r a9];let t0:=qh jr ((.r a0)::(.i c1)::(.i c3)::(.i c2)::(.i c3)::(.i c1)::(.i 0)::p0);let l0:R:=(gR t0 0);let i0:Int:=(qz .i64 (gI t0 2) 1);let t1:=q1i [.i (cI l0 0 0),.i (cI l0 0 1),.i (cI l0 0 2),.i (cI l0 i0 0),.i (cI l0 i0 1),.i (cI l0 i0 2),.i (cI l0 i0 0),.i (cI l0 i0 1),.i (cI l0 i0 2)];let t2:=jD [.i (gI t1 0)];(.br (ilt c3 c2) (qJ8 t0 (qJ9 (inb 0 (qk l0)) (qJ9 (inb i0 (qk l0)) (qJ9 (inb i0 (qk l0)) (qJ8 t1 (qJ8 t2 (qJ9 (ile ((qk (gR t0 10))+(qk [[.s (gS t2 0)]])) 8796093022208) (qJa [.r l0,.i (gI t0 1),.i (gI t0 3),.i (qz .i64 (gI t0 4) 1),.s (gS t0 5),.s (gS t0 6),.s (gS t0 7),.s (gS t0 8),.r (gR t0 9),.r (uV (gR t0 10) [[.s (gS t2 0)]])])))))))) (.leaf (1,((.r a0)::(.i c1)::p0))))):=by kernel_rfl
theorem q8U:jv [.r a0,.i c1,.i c2,.r a3,.i c4,.i c5,.s e6,.s e7,.s e8,.s e9,.r a10,.s e11,.s e12,.s e13,.s e14,.r a15]=(.br (ilt c5 c4) (qJ9 (inb c5 (qk a3)) (let r0:=qM [.i (cI a3 c5 0),.i (cI a3 c5 1),.i (cI a3 c5 2)];qJ8 r0 (qJ9 (inb c1 3) (let r1:=jD [.i (qzr [(gI r0 0),(gI r0 1),(gI r0 2)] c1)];qJ8 r1 (qJ9 (ile ((qk a15)+(qk [[.s (gS r1 0)]])) 8796093022208) (qJa [.r a0,.i c1,.i c2,.r a3,.i c4,.i (qz .i64 c5 1),.s e6,.s e7,.s e8,.s e9,.r a10,.s e11,.s e12,.s e13,.s e14,.r (uV a15 [[.s (gS r1 0)]])])))))) (.leaf (1,[.r a0,.i c1,.i c2,.s e6,.s e7,.s e8,.s e9,.r a10,.s e11,.s e12,.s e13,.s e14,.r a15]))):=by kernel_rfl
theorem q8P:jt [.r a0,.i c1,.s e2,.s e3,.s e4,.s e5,.r a6,.s e7,.s e8,.s e9,.s e10]=(let t0:=qh jv [.r a0,.i c1,.i c1,.r a0,.i (qk a0),.i 0,.s e2,.s e3,.s e4,.s e5,.r a6,.s e7,.s e8,.s e9,.s e10,.r []];let l0:R:=(gR t0 7);let t1:=qH [.r l0,.r (gR t0 12)];let b0:Bool:=(ine (gI t1 1) 0);let t2:TR:=(.leaf (2,[.b false,.i (gI t1 1),.s [],.s [],.s [],.s []]));let i0:Int:=(qz .i64 (gI t0 2) 1);let p0:List PV:=[.s (gS t0 10),.s (gS t0 11)];(.br (ilt c1 3) (qJ8 t0 (qJ8 t1 (.br (ieq (gI t0 1) 2) (.br b0 t2 (qJa [.r (gR t0 0),.i i0,.s (gS t0 3),.s (gS t0 4),.s (gS t0 5),.s (gS t0 6),.r l0,.s (gS t0 8),.s (gS t0 9),.s (gS t1 0),.s (gS t0 11)])) (.br (ieq (gI t0 1) 1) (.br b0 t2 (qJa ((.r (gR t0 0))::(.i i0)::(.s (gS t0 3))::(.s (gS t0 4))::(.s (gS t0 5))::(.s (gS t0 6))::(.r l0)::(.s (gS t0 8))::(.s (gS t1 0))::p0))) (qJ9 (ieq (gI t0 1) 0) (.br b0 t2 (qJa ((.r (gR t0 0))::(.i i0)::(.s (gS t0 3))::(.s (gS t0 4))::(.s (gS t0 5))::(.s (gS t0 6))::(.r l0)::(.s (gS t1 0))::(.s (gS t0 9))::p0)))))))) (.leaf (1,[.r a0,.s e2,.s e3,.s e4,.s e5,.r a6,.s e7,.s e8,.s e9,.s e10])))):=by kernel_rfl
theorem qdI:ka [.r a0]=(let r0:=qh jS [.r a0,.i (yM .i64 (qk a0) 1),.i (yM .i64 (qk a0) 1),.i 0,.s [],.s [],.s [],.s [],.r [],.r []];qJ8 r0 (let r1:=qaG [.i (gI r0 1),.i (gI r0 1),.r (gR r0 6)];qJ8 r1 (.br (ine (gI r1 3) 0) (qJa [.s [],.s [],.s [],.s [],.r [],.b false,.i (gI r1 3)]) (let r2:=yA [.i (gI r1 0),.i (gI r1 1),.r (gR r1 2)];qJ8 r2 (.br (ieq (gI r2 3) 14) (qJa [.s [],.s [],.s [],.s [],.r [],.b false,.i 0]) (.br (ine (gI r2 3) 0) (qJa [.s [],.s [],.s [],.s [],.r [],.b false,.i (gI r2 3)]) (let r3:=q4s [.i (gI r2 0),.i (gI r2 1),.r (gR r2 2),.r (gR r0 7)];qJ8 r3 (.br (ine (gI r3 1) 0) (qJa [.s [],.s [],.s [],.s [],.r [],.b false,.i (gI r3 1)]) (let r4:=qau [.r (gR r3 0)];qJ8 r4 (.br (ine (gI r4 1) 0) (qJa [.s [],.s [],.s [],.s [],.r [],.b false,.i (gI r4 1)]) (let r5:=zF [.s [49],.s (gS r4 0)];qJ8 r5 (.br (ine (gI r5 1) 0) (qJa [.s [],.s [],.s [],.s [],.r [],.b false,.i (gI r5 1)]) (qJ9 (ile ((qk [[.s (gS r5 0)]])+(qk (gR r3 0))) 8796093022208) (let r6:=qh jt [.r (gR r0 0),.i 0,.s (gS r0 2),.s (gS r0 3),.s (gS r0 4),.s (gS r0 5),.r (uV [[.s (gS r5 0)]] (gR r3 0)),.s [],.s [],.s [],.s []];qJ8 r6 (.br (jIs r6 0) (qJ9 (inb 0 (qk (gR r6 0))) (let r7:=vU [.s (gS r6 6),.s (gS r6 7),.s (gS r6 8),.i (cI (gR r6 0) 0 0),.i (cI (gR r6 0) 0 1),.i (cI (gR r6 0) 0 2)];qJ8 r7 (qJa [.s (gS r6 6),.s (gS r6 7),.s (gS r6 8),.s (gS r7 0),.r (gR r6 5),.b true,.i (gI r7 1)]))) (qJa [.s (gS r6 2),.s (gS r6 3),.s (gS r6 4),.s (gS r6 5),.r [],.b (gB r6 0),.i (gI r6 1)])))))))))))))))):=by kernel_rfl
theorem qaM:ya [.r a0,.r a1,.i c2,.i c3,.r a4]=(.br (ilt c3 c2) (qJ9 (inb c3 (qk a1)) (qJ9 (inb (cI a1 c3 0) (qk a0)) (qJ9 (ile ((qk a4)+(qk [[.i (cI a0 (cI a1 c3 0) 0),.i (cI a0 (cI a1 c3 0) 1),.i (cI a0 (cI a1 c3 0) 2)]])) 5864062014805) (qJa [.r a0,.r a1,.i c2,.i (qz .i64 c3 1),.r (uV a4 [[.i (cI a0 (cI a1 c3 0) 0),.i (cI a0 (cI a1 c3 0) 1),.i (cI a0 (cI a1 c3 0) 2)]])])))) (.leaf (1,[.r a4]))):=by kernel_rfl
theorem qlF:q1G [.r a0,.r a1]=(let r0:=qh ya [.r a0,.r a1,.i (qk a1),.i 0,.r []];qJ8 r0 (qJa [.r (gR r0 0)])):=by kernel_rfl
theorem qqq:q6v [.s e0]=(let r0:=z8 [.s e0];qJ8 r0 (.br (ine (gI r0 0) 0) (qJa [.s [],.s [],.i (gI r0 0)]) (let r1:=qK [.s e0];qJ8 r1 (qJa [.s (gS r1 0),.s (gS r1 1),.i 0])))):=by kernel_rfl
theorem qrz:q5o [.s e0]=(let r0:=q6v [.s e0];qJ8 r0 (.br (ine (gI r0 2) 0) (qJa [.i 0,.i (gI r0 2)]) (let r1:=q2z [.s (gS r0 0)];qJ8 r1 (qJa [.i (gI r1 0),.i (gI r1 1)])))):=by kernel_rfl
theorem qb5:qX [.s e0]=(qJ8 (q5o [.s e0]) (qJa [.b (ilt (gI (q5o [.s e0]) 0) 0)])):=by kernel_rfl
theorem wC:qF [.r a0,.i c1,.i c2]=(.br (ilt c2 c1) (qJ9 (inb c2 (qk a0)) (let r0:=qX [.s (cS a0 c2 0)];qJ8 r0 (.br (gB r0 0) (.leaf (2,[.i c2])) (qJa [.r a0,.i c1,.i (qz .i64 c2 1)])))) (.leaf (1,[]))):=by kernel_rfl
theorem um:qP [.r a0]=(let r0:=qh qF [.r a0,.i (qk a0),.i 0];qJ8 r0 (.br (jIs r0 0) (qJa [.i (-1)]) (qJa [.i (gI r0 0)]))):=by kernel_rfl
theorem q31:qV [.r a0]=(let r0:=qP [.r a0];qJ8 r0 (qJa [.b (ile 0 (gI r0 0))])):=by kernel_rfl
theorem qdd:vZ [.s e0,.s e1,.s e2,.s e3,.r a4]=(let r0:=qV [.r a4];qJ8 r0 (qJa [.b (not (gB r0 0))])):=by kernel_rfl
theorem qni:zJ [.s e0,.s e1]=(let r0:=qA [.r [[.s e0],[.s e1]]];qJ8 r0 (.br (ine (gI r0 0) 0) (qJa [.i 0,.i (gI r0 0)]) (let r1:=qK [.s e0];qJ8 r1 (let r2:=qK [.s e1];qJ8 r2 (let r3:=qf [.r [[.s (gS r1 0)],[.s (gS r2 1)]],.i 0];qJ8 r3 (let r4:=qf [.r [[.s (gS r2 0)],[.s (gS r1 1)]],.i (gI r3 1)];qJ8 r4 (.br (ine (gI r4 1) 0) (qJa [.i 0,.i (gI r4 1)]) (let r5:=un [.s (gS r3 0),.s (gS r4 0)];qJ8 r5 (qJa [.i (gI r5 0),.i (gI r5 1)]))))))))):=by kernel_rfl
theorem yO:z7 [.r a0,.i c1,.i c2,.s e3,.s e4,.s e5,.s e6,.r a7]=(.br (ilt c2 c1) (qJ9 (inb c2 (qk a0)) (let r0:=vU [.s e3,.s e4,.s e5,.i (cI a0 c2 0),.i (cI a0 c2 1),.i (cI a0 c2 2)];qJ8 r0 (.br (ine (gI r0 1) 0) (.leaf (2,[.b false,.i (gI r0 1)])) (let r1:=zJ [.s (gS r0 0),.s e6];qJ8 r1 (.br (ine (gI r1 1) 0) (.leaf (2,[.b false,.i (gI r1 1)])) (.br (ilt 0 (gI r1 0)) (.leaf (2,[.b false,.i (gI r1 1)])) (qJa [.r a0,.i c1,.i (qz .i64 c2 1),.s e3,.s e4,.s e5,.s e6,.r a7]))))))) (.leaf (1,[]))):=by kernel_rfl
theorem qbe:wW [.s e0,.s e1,.s e2,.s e3,.r a4,.r a5]=(let r0:=qh z7 [.r a5,.i (qk a5),.i 0,.s e0,.s e1,.s e2,.s e3,.r a4];qJ8 r0 (.br (jIs r0 0) (qJa [.b true,.i 0]) (qJa [.b (gB r0 0),.i (gI r0 1)]))):=by kernel_rfl
theorem q8Q:zW [.r a0,.r a1]=(let t0:=q1G [.r a0,.r a1];let t1:=ka [.r (gR t0 0)];let t2:TR:=(qJa [.s [],.s [],.s [],.s [],.r [],.b false,.i (gI t1 6)]);let t3:=vZ [.s (gS t1 0),.s (gS t1 1),.s (gS t1 2),.s (gS t1 3),.r (gR t1 4)];let t4:=wW [.s (gS t1 0),.s (gS t1 1),.s (gS t1 2),.s (gS t1 3),.r (gR t1 4),.r a0];(qJ8 t0 (qJ8 t1 (.br (ine (gI t1 6) 0) t2 (.br (not (gB t1 5)) t2 (qJ8 t3 (.br (not (gB t3 0)) t2 (qJ8 t4 (qJa [.s (gS t1 0),.s (gS t1 1),.s (gS t1 2),.s (gS t1 3),.r (gR t1 4),.b (gB t4 0),.i (gI t4 1)]))))))))):=by kernel_rfl
theorem q25:qQ [.r a0,.i c1,.i c2,.i c3,.i c4,.i c5,.r a6,.s e7,.s e8,.s e9,.s e10,.i c11,.i c12,.i c13,.r a14,.r a15]=(.br (ilt c1 c12) (let r0:=wL [.r a0];qJ8 r0 (qJ9 (ile ((qk (gR r0 0))+(qk [[.i c1]])) 17592186044416) (qJ9 (ile ((qk a15)+(qk [[.l (uV (gR r0 0) [[.i c1]])]])) 5864062014805) (let r1:=zW [.r a6,.r (uV (gR r0 0) [[.i c1]])];qJ8 r1 (.br (ine (gI r1 6) 0) .fail (.br (gB r1 5) (.leaf (2,[.r a6,.s (gS r1 0),.s (gS r1 1),.s (gS r1 2),.s (gS r1 3),.r (gR r1 4),.i 0,.i c12,.i c13,.r (uV (gR r0 0) [[.i c1]])])) (qJa [.r a0,.i (qz .i64 c1 1),.i c2,.i c3,.i c4,.i c5,.r a6,.s e7,.s e8,.s e9,.s e10,.i c11,.i c12,.i c13,.r a14,.r (uV a15 [[.l (uV (gR r0 0) [[.i c1]])]])]))))))) (.leaf (1,[.i c2,.i c3,.i c4,.i c5,.r a6,.s e7,.s e8,.s e9,.s e10,.i c11,.i c12,.i c13,.r a14,.r a15]))):=by kernel_rfl
theorem q2y:jh [.i c0,.i c1,.i c2,.i c3,.r a4,.s e5,.s e6,.s e7,.s e8,.i c9,.i c10,.i c11,.r a12,.r a13]=(let l0:R:=(cR a12 c3 0);let i0:Int:=(qk l0);let p0:List PV:=[.i c0,.i c1,.i c2,.i c3,.r a4,.s e5,.s e6,.s e7,.s e8,.i c9,.i c10,.i c11,.r a12,.r a13];let t0:=qh qQ ((.r l0)::(.i (qz .i64 (cI l0 (yM .i64 i0 1) 0) 1))::p0);let t1:=qh qQ ((.r l0)::(.i 0)::p0);(.br (ilt c3 c2) (qJ9 (inb c3 (qk a12)) (.br (ilt 0 i0) (qJ9 (inb (yM .i64 i0 1) i0) (qJ8 t0 (.br (jIs t0 0) (qJa [.i (gI t0 0),.i (gI t0 1),.i (gI t0 2),.i (qz .i64 (gI t0 3) 1),.r (gR t0 4),.s (gS t0 5),.s (gS t0 6),.s (gS t0 7),.s (gS t0 8),.i (gI t0 9),.i (gI t0 10),.i (gI t0 11),.r (gR t0 12),.r (gR t0 13)]) (.leaf (2,[.r (gR t0 0),.s (gS t0 1),.s (gS t0 2),.s (gS t0 3),.s (gS t0 4),.r (gR t0 5),.i (gI t0 6),.i (gI t0 7),.i (gI t0 8),.r (gR t0 9)]))))) (qJ8 t1 (.br (jIs t1 0) (qJa [.i (gI t1 0),.i (gI t1 1),.i (gI t1 2),.i (qz .i64 (gI t1 3) 1),.r (gR t1 4),.s (gS t1 5),.s (gS t1 6),.s (gS t1 7),.s (gS t1 8),.i (gI t1 9),.i (gI t1 10),.i (gI t1 11),.r (gR t1 12),.r (gR t1 13)]) (.leaf (2,[.r (gR t1 0),.s (gS t1 1),.s (gS t1 2),.s (gS t1 3),.s (gS t1 4),.r (gR t1 5),.i (gI t1 6),.i (gI t1 7),.i (gI t1 8),.r (gR t1 9)])))))) (.leaf (1,[.i c0,.i c1,.r a4,.s e5,.s e6,.s e7,.s e8,.i c9,.i c10,.i c11,.r a13])))):=by kernel_rfl
theorem q2G:je [.i c0,.i c1,.r a2,.s e3,.s e4,.s e5,.s e6,.i c7,.i c8,.i c9,.r a10]=(.br (ilt c1 c0) (let r0:=qh jh [.i c0,.i c1,.i (qk a10),.i 0,.r a2,.s e3,.s e4,.s e5,.s e6,.i c7,.i c8,.i c9,.r a10,.r []];qJ8 r0 (.br (jIs r0 0) (qJa [.i (gI r0 0),.i (qz .i64 (gI r0 1) 1),.r (gR r0 2),.s (gS r0 3),.s (gS r0 4),.s (gS r0 5),.s (gS r0 6),.i (gI r0 7),.i (gI r0 8),.i (gI r0 9),.r (gR r0 10)]) (.leaf (2,[.r (gR r0 0),.s (gS r0 1),.s (gS r0 2),.s (gS r0 3),.s (gS r0 4),.r (gR r0 5),.i (gI r0 6),.i (gI r0 7),.i (gI r0 8),.r (gR r0 9)])))) (.leaf (1,[.r a2,.s e3,.s e4,.s e5,.s e6,.i c7,.i c8,.i c9]))):=by kernel_rfl
theorem qn7:q0p [.r a0,.i c1]=(let r0:=qh je [.i c1,.i 0,.r a0,.s [],.s [],.s [],.s [],.i 0,.i (qk a0),.i c1,.r [[.l []]]];qJ8 r0 (.br (jIs r0 0) (qJa [.s [],.s [],.s [],.s [],.r [],.r [],.i 6]) (qJa [.s (gS r0 1),.s (gS r0 2),.s (gS r0 3),.s (gS r0 4),.r (gR r0 5),.r (gR r0 9),.i (gI r0 6)]))):=by kernel_rfl
theorem qa0:jY [.r a0,.i c1,.i c2,.r a3]=(.br (ilt c2 c1) (qJ9 (inb c2 (qk a0)) (qJ9 (ile ((qk a3)+(qk [[.i (cI a0 c2 0),.i (cI a0 c2 1),.i 0]])) 5864062014805) (qJa [.r a0,.i c1,.i (qz .i64 c2 1),.r (uV a3 [[.i (cI a0 c2 0),.i (cI a0 c2 1),.i 0]])]))) (.leaf (1,[.r a3]))):=by kernel_rfl
theorem qmd:q1K [.r a0]=(let r0:=qh jY [.r a0,.i (qk a0),.i 0,.r []];qJ8 r0 (qJa [.r (gR r0 0)])):=by kernel_rfl
theorem qdY:uB [.s e0,.s e1,.s e2,.s e3,.r a4]=(qJa [.s e0,.s e1]):=by kernel_rfl
theorem qma:w9 [.r a0]=(let r0:=q4b [.r a0];qJ8 r0 (.br (ine (gI r0 0) 0) (qJa [.s [],.s [],.s [],.r [],.i (gI r0 0)]) (let r1:=q1K [.r a0];qJ8 r1 (let r2:=q0p [.r (gR r1 0),.i 3];qJ8 r2 (.br (ine (gI r2 6) 0) (qJa [.s [],.s [],.s [],.r [],.i (gI r2 6)]) (let r3:=uB [.s (gS r2 0),.s (gS r2 1),.s (gS r2 2),.s (gS r2 3),.r (gR r2 4)];qJ8 r3 (qJa [.s (gS r3 0),.s (gS r3 1),.s (gS r2 3),.r (gR r2 5),.i 0]))))))):=by kernel_rfl
theorem qsa:qE [.s e0]=(.br (not (seq e0 [])) (qJ9 (inb 0 (qB e0)) (.br (ieq (sat e0 0) 45) (qJ9 (q7y (qB e0) (qB e0)) (qJ9 (q7y 1 (qB e0)) (qJa [.s (qfy e0 1 (qB e0))]))) (qJa [.s e0]))) (qJa [.s e0])):=by kernel_rfl
theorem qqp:qL [.s e0]=(qJ9 (inb 0 (qB e0)) (qJa [.b (ieq (sat e0 0) 45)])):=by kernel_rfl
theorem qoZ:zg [.s e0,.b d1]=(.br d1 (.br (not (seq e0 [48])) (qJ9 (ile ((qB [45])+(qB e0)) 140737488355328) (qJa [.s (qdK [45] e0)])) (qJa [.s e0])) (qJa [.s e0])):=by kernel_rfl
theorem qop:zZ [.s e0]=(let r0:=qE [.s e0];qJ8 r0 (let r1:=qL [.s e0];qJ8 r1 (let r2:=zg [.s (gS r0 0),.b (not (gB r1 0))];qJ8 r2 (qJa [.s (gS r2 0)])))):=by kernel_rfl
theorem qqx(y0:Int)(y1:qJb):q96 [.i y0,.s y1]=(.br (ilt 9 y0) (qJ9 (ile ((qB (qlQ [[.i (q1F .u8 (qz .i64 48 (qa8 y0 10)))]]))+(qB y1)) 140737488355328) (qJa [.i (qbR .i64 y0 10),.s (qdK (qlQ [[.i (q1F .u8 (qz .i64 48 (qa8 y0 10)))]]) y1)])) (.leaf (1,[.i y0,.s y1]))):=by kernel_rfl
theorem qti:q5c [.i c0]=(let t0:=qh q96 [.i c0,.s []];let s0:List UInt8:=(qlQ [[.i (q1F .u8 (qz .i64 48 (gI t0 0)))]]);let t1:TR:=(.br (ilt c0 0) .fail (qJ8 t0 (qJ9 (ile ((qB s0)+(qB (gS t0 1))) 140737488355328) (qJa [.s (qdK s0 (gS t0 1))]))));(.br (ieq c0 (yM .i64 0 c0)) (.br (ine c0 0) (qJa [.s [45,57,50,50,51,51,55,50,48,51,54,56,53,52,55,55,53,56,48,56]]) t1) t1)):=by kernel_rfl
theorem qsL(y0:Int)(y1:qJb):qbo [.i y0,.s y1]=(.br (ilt 9 y0) (qJ9 (ile ((qB (qlQ [[.i (q1F .u8 (qz .i64 48 (qa8 y0 10)))]]))+(qB y1)) 140737488355328) (qJa [.i (qbR .i64 y0 10),.s (qdK (qlQ [[.i (q1F .u8 (qz .i64 48 (qa8 y0 10)))]]) y1)])) (.leaf (1,[.i y0,.s y1]))):=by kernel_rfl
theorem qoC:zv [.i c0]=(let i0:Int:=(yM .i64 0 c0);let t0:=zZ [.s (gS (q5c [.i i0]) 0)];let t1:=qh qbo [.i c0,.s []];let s0:List UInt8:=(qlQ [[.i (q1F .u8 (qz .i64 48 (gI t1 0)))]]);let t2:TR:=(.br (ilt c0 0) (qJ8 (q5c [.i i0]) (qJ8 t0 (qJa [.s (gS t0 0)]))) (qJ8 t1 (qJ9 (ile ((qB s0)+(qB (gS t1 1))) 140737488355328) (qJa [.s (qdK s0 (gS t1 1))]))));(.br (ieq c0 i0) (.br (ine c0 0) (qJa [.s [45,57,50,50,51,51,55,50,48,51,54,56,53,52,55,55,53,56,48,56]]) t2) t2)):=by kernel_rfl
theorem qd0:uW [.s e0,.i c1,.s e2,.i c3]=(.br (ilt c3 (qB e2)) (qJ9 (inb c3 (qB e2)) (qJa [.s e0,.i (qz .i64 (vn .i64 10 c1) (q1F .i64 (yM .u8 (sat e2 c3) 48))),.s e2,.i (qz .i64 c3 1)])) (.leaf (1,[.s e0,.i c1]))):=by kernel_rfl
theorem qnT:u6 [.s e0]=(let r0:=qE [.s e0];qJ8 r0 (let r1:=qh uW [.s e0,.i 0,.s (gS r0 0),.i 0];qJ8 r1 (let r2:=qL [.s (gS r1 0)];qJ8 r2 (.br (gB r2 0) (qJa [.i (yM .i64 0 (gI r1 1))]) (qJa [.i (gI r1 1)]))))):=by kernel_rfl
theorem qq3:j6 [.s e0,.s e1]=(qJ8 (qE [.s e0]) (.br (ilt 18 (qB (gS (qE [.s e0]) 0))) (qJa [.i 0,.i 0,.b false]) (qJ8 (qE [.s e1]) (.br (ilt 18 (qB (gS (qE [.s e1]) 0))) (qJa [.i 0,.i 0,.b false]) (qJ8 (u6 [.s e0]) (qJ8 (u6 [.s e1]) (qJa [.i (gI (u6 [.s e0]) 0),.i (gI (u6 [.s e1]) 0),.b true]))))))):=by kernel_rfl
theorem qpH:q4w [.s e0]=(.br (ilt 1 (qB e0)) (qJ9 (inb 0 (qB e0)) (.br (ieq (sat e0 0) 48) (qJ9 (q7y (qB e0) (qB e0)) (qJ9 (q7y 1 (qB e0)) (qJa [.s (qfy e0 1 (qB e0))]))) (.leaf (1,[.s e0])))) (.leaf (1,[.s e0]))):=by kernel_rfl
theorem qrF:u4 [.s e0]=(let r0:=qh q4w [.s e0];qJ8 r0 (qJa [.s (gS r0 0)])):=by kernel_rfl
theorem qfP:q1W [.s e0,.i c1,.i c2,.r a3]=(.br (ilt c2 c1) (qJ9 (inb c2 (qk a3)) (qJa [.s e0,.i c1,.i (qz .i64 c2 1),.r (qfD a3 c2 0 [.i 48])])) (.leaf (1,[.s e0,.i c1,.r a3]))):=by kernel_rfl
theorem qsX:q5y [.s e0,.i c1]=(let t0:=qh q1W [.s e0,.i c1,.i 0,.r (q3O c1 [.i 0])];let i0:Int:=(qk (gR t0 2));let i1:Int:=(yM .i64 (gI t0 1) (qB (gS t0 0)));(qJ9 (ieq c1 c1) (qJ9 (q7y c1 140737488355328) (qJ8 t0 (qJ9 (ilt 0 i0) (qJ9 (q7y i1 i0) (qJ9 (ile (qB (gS t0 0)) (qvG i0 i1)) (qJa [.s (qlQ (qv7 (gR t0 2) i1 (gS t0 0)))])))))))):=by kernel_rfl
theorem qnR:q3Z [.i c0,.i c1,.i c2,.b d3]=(let i0:Int:=(q1F .i64 (yM .u8 c0 48));let i1:Int:=(q1F .i64 (yM .u8 c1 48));let i2:Int:=(qz .i64 (qz .i64 i0 i1) c2);let i3:Int:=(qz .i64 48 i2);let i4:Int:=(yM .i64 (yM .i64 i0 i1) c2);let i5:Int:=(qz .i64 48 i4);(.br d3 (.br (ilt 9 i2) (qJa [.i (q1F .u8 (yM .i64 i3 10)),.i 1]) (.br (ilt i2 0) (qJa [.i (q1F .u8 (qz .i64 i3 10)),.i 1]) (qJa [.i (q1F .u8 i3),.i 0]))) (.br (ilt 9 i4) (qJa [.i (q1F .u8 (yM .i64 i5 10)),.i 1]) (.br (ilt i4 0) (qJa [.i (q1F .u8 (qz .i64 i5 10)),.i 1]) (qJa [.i (q1F .u8 i5),.i 0]))))):=by kernel_rfl
theorem qmZ:q0L [.s e0,.s e1,.b d2,.i c3,.i c4,.r a5]=(.br (ile 0 c4) (qJ9 (inb c4 (qB e0)) (qJ9 (inb c4 (qB e1)) (let r0:=q3Z [.i (sat e0 c4),.i (sat e1 c4),.i c3,.b d2];qJ8 r0 (qJ9 (inb c4 (qk a5)) (qJa [.s e0,.s e1,.b d2,.i (gI r0 1),.i (yM .i64 c4 1),.r (qfD a5 c4 0 [.i (gI r0 0)])]))))) (.leaf (1,[.r a5]))):=by kernel_rfl
theorem qqa:yT [.s e0,.s e1,.b d2]=(let i0:Int:=(qz .i64 (qqF (qB e0) (qB e1)) 1);let t0:=q5y [.s e0,.i i0];let t1:=q5y [.s e1,.i i0];let t2:=qh q0L [.s (gS t0 0),.s (gS t1 0),.b d2,.i 0,.i (yM .i64 i0 1),.r (q3O i0 [.i 0])];let t3:=u4 [.s (qlQ (gR t2 0))];(qJ8 t0 (qJ8 t1 (qJ9 (ieq i0 i0) (qJ9 (q7y i0 140737488355328) (qJ8 t2 (qJ8 t3 (qJa [.s (gS t3 0)])))))))):=by kernel_rfl
theorem qs9:q2S [.s e0,.s e1]=(.br (ilt (qB e0) (qB e1)) (qJa [.b true]) (.br (ieq (qB e0) (qB e1)) (qJa [.b (slt e0 e1)]) (qJa [.b false]))):=by kernel_rfl
theorem qrL:q7O [.s e0,.s e1]=(let r0:=j6 [.s e0,.s e1];qJ8 r0 (.br (gB r0 2) (let r1:=zv [.i (qz .i64 (gI r0 0) (gI r0 1))];qJ8 r1 (qJa [.s (gS r1 0)])) (let r1:=qE [.s e0];qJ8 r1 (let r2:=qE [.s e1];qJ8 r2 (let r3:=qL [.s e0];qJ8 r3 (let r4:=qL [.s e1];qJ8 r4 (.br (beq (gB r3 0) (gB r4 0)) (let r5:=yT [.s (gS r1 0),.s (gS r2 0),.b true];qJ8 r5 (qJ8 r3 (let r6:=zg [.s (gS r5 0),.b (gB r3 0)];qJ8 r6 (qJa [.s (gS r6 0)])))) (let r5:=q2S [.s (gS r1 0),.s (gS r2 0)];qJ8 r5 (.br (gB r5 0) (let r6:=yT [.s (gS r2 0),.s (gS r1 0),.b false];qJ8 r6 (qJ8 r4 (let r7:=zg [.s (gS r6 0),.b (gB r4 0)];qJ8 r7 (qJa [.s (gS r7 0)])))) (let r6:=yT [.s (gS r1 0),.s (gS r2 0),.b false];qJ8 r6 (qJ8 r3 (let r7:=zg [.s (gS r6 0),.b (gB r3 0)];qJ8 r7 (qJa [.s (gS r7 0)]))))))))))))):=by kernel_rfl
theorem qqn:q18 [.s e0,.s e1]=(let r0:=zZ [.s e1];qJ8 r0 (let r1:=q7O [.s e0,.s (gS r0 0)];qJ8 r1 (qJa [.s (gS r1 0)]))):=by kernel_rfl
theorem qjX:u9 [.s e0,.s e1,.i c2,.i c3,.r a4]=(let i0:Int:=(qz .i64 (qz .i64 c2 c3) 1);(.br (ilt c3 (qB e1)) (qJ9 (inb i0 (qk a4)) (qJ9 (inb c2 (qB e0)) (qJ9 (inb c3 (qB e1)) (qJ9 (inb i0 (qk a4)) (qJa [.s e0,.s e1,.i c2,.i (qz .i64 c3 1),.r (qfD a4 i0 0 [.i (qz .i64 (cI a4 i0 0) (vn .i64 (q1F .i64 (yM .u8 (sat e0 c2) 48)) (q1F .i64 (yM .u8 (sat e1 c3) 48))))])]))))) (.leaf (1,[.s e0,.s e1,.i c2,.r a4])))):=by kernel_rfl
theorem qkz:ug [.s e0,.s e1,.i c2,.r a3]=(.br (ilt c2 (qB e0)) (let r0:=qh u9 [.s e0,.s e1,.i c2,.i 0,.r a3];qJ8 r0 (qJa [.s (gS r0 0),.s (gS r0 1),.i (qz .i64 (gI r0 2) 1),.r (gR r0 3)])) (.leaf (1,[.r a3]))):=by kernel_rfl
theorem qiQ:yl [.i c0,.i c1,.r a2,.r a3]=(.br (ile 0 c1) (qJ9 (inb c1 (qk a2)) (qJ9 (inb c1 (qk a3)) (qJa [.i (qbR .i64 (qz .i64 c0 (cI a2 c1 0)) 10),.i (yM .i64 c1 1),.r a2,.r (qfD a3 c1 0 [.i (q1F .u8 (qz .i64 48 (qa8 (qz .i64 c0 (cI a2 c1 0)) 10)))])]))) (.leaf (1,[.r a3]))):=by kernel_rfl
theorem qn0:q2v [.s e0,.s e1]=(let i0:Int:=(qz .i64 (qB e0) (qB e1));let t0:=qh ug [.s e0,.s e1,.i 0,.r (q3O i0 [.i 0])];let i1:Int:=(qk (gR t0 0));let t1:=qh yl [.i 0,.i (yM .i64 i1 1),.r (gR t0 0),.r (q3O i1 [.i 0])];let t2:=u4 [.s (qlQ (gR t1 0))];(qJ9 (ieq i0 i0) (qJ9 (q7y i0 17592186044416) (qJ8 t0 (qJ9 (ieq i1 i1) (qJ9 (q7y i1 140737488355328) (qJ8 t1 (qJ8 t2 (qJa [.s (gS t2 0)]))))))))):=by kernel_rfl
theorem qqt:q2Z [.s e0,.s e1]=(let p0:List PV:=[.s e1];let t0:=j6 ((.s e0)::p0);let t1:=zv [.i (vn .i64 (gI t0 0) (gI t0 1))];let t2:=q2v [.s (gS (qE [.s e0]) 0),.s (gS (qE p0) 0)];let t3:=zg [.s (gS t2 0),.b (not (beq (gB (qL [.s e0]) 0) (gB (qL p0) 0)))];let t4:TR:=(qJ8 (qE [.s e0]) (qJ8 (qE p0) (qJ8 t2 (qJ8 (qL [.s e0]) (qJ8 (qL p0) (qJ8 t3 (qJa [.s (gS t3 0)])))))));(qJ8 t0 (.br (gB t0 2) (.br (ile (qz .i64 (qB e0) (qB e1)) 18) (qJ8 t1 (qJa [.s (gS t1 0)])) t4) t4))):=by kernel_rfl
theorem qiY:ye [.s e0,.s e1,.s e2,.s e3,.i c4,.i c5]=(let r0:=q2S [.s e3,.s e1];qJ8 r0 (.br (not (gB r0 0)) (let r1:=yT [.s e3,.s e1,.b false];qJ8 r1 (qJa [.s e0,.s e1,.s e2,.s (gS r1 0),.i c4,.i (qz .u8 c5 1)])) (.leaf (1,[.s e0,.s e1,.s e2,.s e3,.i c4,.i c5])))):=by kernel_rfl
theorem qkA:q0r [.s e0,.s e1,.s e2,.s e3,.i c4]=(.br (ilt c4 (qB e0)) (qJ9 (q7y (qz .i64 c4 1) (qB e0)) (qJ9 (q7y c4 (qz .i64 c4 1)) (qJ9 (ile ((qB e3)+(qB (qfy e0 c4 (qz .i64 c4 1)))) 140737488355328) (let r0:=u4 [.s (qdK e3 (qfy e0 c4 (qz .i64 c4 1)))];qJ8 r0 (let r1:=qh ye [.s e0,.s e1,.s e2,.s (gS r0 0),.i c4,.i 48];qJ8 r1 (qJ9 (ile ((qB (gS r1 2))+(qB (qlQ [[.i (gI r1 5)]]))) 140737488355328) (qJa [.s (gS r1 0),.s (gS r1 1),.s (qdK (gS r1 2) (qlQ [[.i (gI r1 5)]])),.s (gS r1 3),.i (qz .i64 (gI r1 4) 1)]))))))) (.leaf (1,[.s e2,.s e3]))):=by kernel_rfl
theorem qmY:q2w [.s e0,.s e1]=(let r0:=qh q0r [.s e0,.s e1,.s [],.s [48],.i 0];qJ8 r0 (let r1:=u4 [.s (gS r0 0)];qJ8 r1 (qJa [.s (gS r1 0),.s (gS r0 1)]))):=by kernel_rfl
theorem qoU:vV [.s e0,.s e1]=(let p0:List PV:=[.s e1];let t0:=j6 ((.s e0)::p0);let i0:Int:=(gI t0 1);let i1:Int:=(qa8 (gI t0 0) i0);let i2:Int:=(qz .i64 i1 i0);let t1:=zv [.i (qbR .i64 (yM .i64 (gI t0 0) i2) i0)];let t2:=zv [.i (qbR .i64 (yM .i64 (gI t0 0) i1) i0)];let t3:TR:=(qJ9 (ine i0 0) (qJ8 t2 (qJ8 (zv [.i i1]) (qJa [.s (gS t2 0),.s (gS (zv [.i i1]) 0)]))));let t4:=q2w [.s (gS (qE [.s e0]) 0),.s (gS (qE p0) 0)];let t5:=qL [.s e0];let b0:Bool:=(not (beq (gB t5 0) (gB (qL p0) 0)));let t6:=zg [.s (gS t4 0),.b b0];let t7:=q18 [.s (gS t6 0),.s [49]];let t8:=q2Z ((.s (gS t7 0))::p0);let t9:=q18 [.s e0,.s (gS t8 0)];let t10:=q2Z ((.s (gS t6 0))::p0);let t11:=q18 [.s e0,.s (gS t10 0)];let t12:TR:=(qJ8 t10 (qJ8 t11 (qJa [.s (gS t6 0),.s (gS t11 0)])));(qJ8 t0 (.br (gB t0 2) (qJ9 (ine i0 0) (.br (ine i1 0) (.br (not (beq (ilt i1 0) (ilt i0 0))) (qJ9 (ine i0 0) (qJ8 t1 (qJ8 (zv [.i i2]) (qJa [.s (gS t1 0),.s (gS (zv [.i i2]) 0)])))) t3) t3)) (qJ8 (qE [.s e0]) (qJ8 (qE p0) (qJ8 t4 (qJ8 t5 (qJ8 (qL p0) (qJ8 t6 (.br (not (seq (gS t4 1) [48])) (qJ8 t5 (qJ8 (qL p0) (.br b0 (qJ8 t7 (qJ8 t8 (qJ8 t9 (qJa [.s (gS t7 0),.s (gS t9 0)])))) t12))) t12)))))))))):=by kernel_rfl
theorem qkc:ud [.i c0,.i c1]=(.br (ilt 0 c1) (qJ9 (ine c1 0) (qJa [.i c1,.i (qa8 c0 c1)])) (.leaf (1,[.i c0]))):=by kernel_rfl
theorem qm1:q1J [.s e0,.s e1]=(.br (not (seq e1 [48])) (let r0:=j6 [.s e0,.s e1];qJ8 r0 (.br (gB r0 2) (let r1:=qh ud [.i (gI r0 0),.i (gI r0 1)];qJ8 r1 (let r2:=zv [.i (gI r1 0)];qJ8 r2 (.leaf (2,[.s (gS r2 0)])))) (let r1:=vV [.s e0,.s e1];qJ8 r1 (qJa [.s e1,.s (gS r1 1)])))) (.leaf (1,[.s e0]))):=by kernel_rfl
theorem qp6:q3Y [.s e0,.s e1]=(let r0:=qE [.s e0];qJ8 r0 (let r1:=zg [.s (gS r0 0),.b false];qJ8 r1 (let r2:=qE [.s e1];qJ8 r2 (let r3:=zg [.s (gS r2 0),.b false];qJ8 r3 (let r4:=qh q1J [.s (gS r1 0),.s (gS r3 0)];qJ8 r4 (.br (jIs r4 0) (qJa [.s (gS r4 0)]) (qJa [.s (gS r4 0)]))))))):=by kernel_rfl
theorem qoD:q4p [.s e0,.s e1]=(let r0:=q3Y [.s e0,.s e1];qJ8 r0 (let r1:=qL [.s e1];qJ8 r1 (.br (gB r1 0) (let r2:=zZ [.s (gS r0 0)];qJ8 r2 (let r3:=vV [.s e0,.s (gS r2 0)];qJ8 r3 (let r4:=vV [.s e1,.s (gS r2 0)];qJ8 r4 (.br (seq (gS r4 0) [49]) (qJa [.s (gS r3 0)]) (qJ9 (ile ((qB (gS r3 0))+(qB [47])) 140737488355328) (qJ9 (ile ((qB (qdK (gS r3 0) [47]))+(qB (gS r4 0))) 140737488355328) (qJa [.s (qdK (qdK (gS r3 0) [47]) (gS r4 0))]))))))) (let r2:=vV [.s e0,.s (gS r0 0)];qJ8 r2 (let r3:=vV [.s e1,.s (gS r0 0)];qJ8 r3 (.br (seq (gS r3 0) [49]) (qJa [.s (gS r2 0)]) (qJ9 (ile ((qB (gS r2 0))+(qB [47])) 140737488355328) (qJ9 (ile ((qB (qdK (gS r2 0) [47]))+(qB (gS r3 0))) 140737488355328) (qJa [.s (qdK (qdK (gS r2 0) [47]) (gS r3 0))]))))))))):=by kernel_rfl
theorem qt4:q86 [.i c0,.i c1]=(let r0:=zv [.i c0];qJ8 r0 (let r1:=zv [.i c1];qJ8 r1 (let r2:=q4p [.s (gS r0 0),.s (gS r1 0)];qJ8 r2 (qJa [.s (gS r2 0)])))):=by kernel_rfl
theorem qq6:q3q [.i c0]=(qJ8 (zv [.i c0]) (qJa [.s (gS (zv [.i c0]) 0)])):=by kernel_rfl
theorem qm9  : ke []=(let r0:=w9 [.r [[.i 0,.i 0],[.i 6,.i 0]]];qJ8 r0 (.br (ieq (gI r0 4) 0) (qJa [.b (seq (gS r0 2) [57])]) (qJa [.b false]))):=by kernel_rfl
theorem qiv:j0 [.i c0,.i c1]=(.br (ilt c0 (-9000)) (qJa [.b true]) (.br (ilt 9000 c0) (qJa [.b true]) (.br (ilt c1 (-9000)) (qJa [.b true]) (qJa [.b (ilt 9000 c1)])))):=by kernel_rfl
theorem qy:qg [.r a0,.i c1,.i c2,.r a3,.r a4]=(.br (ilt c2 c1) (qJ9 (inb c2 (qk a0)) (let r0:=j0 [.i (cI a0 c2 0),.i (cI a0 c2 1)];qJ8 r0 (.br (gB r0 0) (.leaf (2,[.i c2,.r a3,.r a4])) (qJa [.r a0,.i c1,.i (qz .i64 c2 1),.r a3,.r a4])))) (.leaf (1,[.r a3,.r a4]))):=by kernel_rfl
theorem vj:qm [.r a0]=(let r0:=qh qg [.r a0,.i (qk a0),.i 0,.r a0,.r a0];qJ8 r0 (.br (jIs r0 0) (qJa [.b false]) (qJa [.b (ile 0 (gI r0 0))]))):=by kernel_rfl
theorem qmb:uR [.r a0]=(.br (ilt 0 (qk a0)) (.br (ile (qk a0) 8) (let r0:=qm [.r a0];qJ8 r0 (qJa [.b (not (gB r0 0))])) (qJa [.b false])) (qJa [.b false])):=by kernel_rfl
theorem q5Q:wK [.r a0,.i c1,.i c2]=(.br (ilt c2 (qk a0)) (qJ9 (inb c2 (qk a0)) (qJa [.r a0,.i (qhs c1 (cI a0 c2 0)),.i (qz .i64 c2 1)])) (.leaf (1,[.i c1]))):=by kernel_rfl
theorem qgZ:jb [.r a0]=(.br (ilt (qk a0) 1) .fail (qJ9 (inb 0 (qk a0)) (let r0:=qh wK [.r a0,.i (cI a0 0 0),.i 1];qJ8 r0 (qJa [.i (gI r0 0)])))):=by kernel_rfl
theorem q6c:wI [.r a0,.i c1,.i c2]=(.br (ilt c2 (qk a0)) (qJ9 (inb c2 (qk a0)) (qJa [.r a0,.i (qqF c1 (cI a0 c2 0)),.i (qz .i64 c2 1)])) (.leaf (1,[.i c1]))):=by kernel_rfl
theorem qfT:jd [.r a0]=(.br (ilt (qk a0) 1) .fail (qJ9 (inb 0 (qk a0)) (let r0:=qh wI [.r a0,.i (cI a0 0 0),.i 1];qJ8 r0 (qJa [.i (gI r0 0)])))):=by kernel_rfl
theorem q5x:wj [.r a0,.s e1,.r a2,.i c3,.i c4,.r a5]=(.br (ilt c4 c3) (qJ9 (inb c4 (qk a2)) (let r0:=q3q [.i (cI a2 c4 0)];qJ8 r0 (let r1:=q3q [.i (cI a2 c4 1)];qJ8 r1 (qJ9 (ile ((qk a5)+(qk [[.s (gS r0 0),.s (gS r1 0),.s e1]])) 2932031007402) (qJa [.r a0,.s e1,.r a2,.i c3,.i (qz .i64 c4 1),.r (uV a5 [[.s (gS r0 0),.s (gS r1 0),.s e1]])]))))) (.leaf (1,[.r a0,.s e1,.r a5]))):=by kernel_rfl
theorem q4m:zS [.r a0,.s e1,.r a2,.i c3,.i c4,.r a5]=(.br (ilt c4 c3) (qJ9 (inb c4 (qk a2)) (qJ9 (inb (cI a2 c4 0) (qk a0)) (qJ9 (ile ((qk a5)+(qk [[.i (cI a0 (cI a2 c4 0) 0),.i (cI a0 (cI a2 c4 0) 1)]])) 8796093022208) (qJa [.r a0,.s e1,.r a2,.i c3,.i (qz .i64 c4 1),.r (uV a5 [[.i (cI a0 (cI a2 c4 0) 0),.i (cI a0 (cI a2 c4 0) 1)]])])))) (.leaf (1,[.s e1,.r a5]))):=by kernel_rfl
theorem uA:vr [.r a0,.i c1,.i c2]=(let t0:TR:=(qJ8 (ke []) (qJa [.b (gB (ke []) 0)]));let t1:=q86 [.i (q1F .i64 c1),.i (qz .i64 1 (q1F .i64 (qa8 c2 50)))];let t2:=qh wj [.r a0,.s (gS t1 0),.r a0,.i (qk a0),.i 0,.r []];let t3:=w9 [.r (gR t2 0)];let p0:List PV:=[.r (gR t2 2)];let t4:=q1R p0;let t5:=zJ [.s (gS t2 1),.s (gS t3 2)];let t6:TR:=(qJa [.b false]);let l0:R:=(gR (zY p0) 0);let t7:=qh zS [.r (gR t2 0),.s (gS t2 1),.r l0,.i (qk l0),.i 0,.r []];let t8:=w9 [.r (gR t7 1)];let t9:=zJ [.s (gS t7 0),.s (gS t8 2)];(qJ8 (uR [.r a0]) (.br (not (gB (uR [.r a0]) 0)) t0 (.br (ilt 5 (qk a0)) t0 (qJ8 t1 (qJ8 t2 (qJ8 t3 (qJ8 t4 (qJ8 (zY p0) (qJ8 t5 (.br (ine (qz .i64 (qz .i64 (qz .i64 (gI t3 4) (gI t4 4)) (gI (zY p0) 1)) (gI t5 1)) 0) t6 (.br (not (beq (gB t4 0) (ile 0 (gI t5 0)))) t6 (.br (not (beq (gB t4 0) (ieq (qk l0) 0))) t6 (.br (gB t4 0) t0 (.br (ilt 3 (qk l0)) t6 (qJ8 (jb [.r l0]) (.br (ilt (gI (jb [.r l0]) 0) 0) t6 (qJ8 (jd [.r l0]) (.br (ile (qk (gR t2 0)) (gI (jd [.r l0]) 0)) t6 (qJ8 t7 (qJ8 t8 (qJ8 t9 (.br (ieq (gI t8 4) 0) (.br (ieq (gI t9 1) 0) (.br (ilt (gI t9 0) 0) t0 t6) t6) t6))))))))))))))))))))))):=by kernel_rfl
end Go.Eng

namespace Go.Eng
variable {n:Nat}
theorem qGN {α:Type}(b:Bool)(t e:Tree α):(Tree.br b t e).run=if b=true then t.run else e.run:=by cases b<;>rfl
theorem qCA {α:Type}(a:α):(Tree.leaf a).run=some a:=rfl
theorem qD0 {α:Type}:(Tree.fail:Tree α).run=none:=rfl
theorem zj {x y:Int}(h:-9223372036854775808<=x+y/\x+y<=9223372036854775807):qz .i64 x y=x+y:=by unfold qz IntKind.wrap;simp[IntKind.signed,IntKind.bits];omega
theorem jj {x y:Int}(h:-9223372036854775808<=x-y/\x-y<=9223372036854775807):yM .i64 x y=x-y:=by unfold yM IntKind.wrap;simp[IntKind.signed,IntKind.bits];omega
theorem q52 {x y:Int}(h:-9223372036854775808<=x*y/\x*y<=9223372036854775807):vn .i64 x y=x*y:=by unfold vn IntKind.wrap;simp[IntKind.signed,IntKind.bits];omega
theorem qAU (x y:Int):(ieq x y=true)=(x=y):=by simp[ieq]
theorem qFq (x y:Int):(ine x y=true)=(x≠y):=by simp[ine]
theorem qFL (x y:Int):(ilt x y=true)=(x<y):=by simp[ilt]
theorem qoi (x y:Int):(ile x y=true)=(x<=y):=by simp[ile]
theorem qG3 (x y:Bool):(Go.Eng.beq x y=true)=(x=y):=by simp[Go.Eng.beq]
theorem qGD {a b A B:Int}(h1:-A<=a)(h2:a<=A)(h3:-B<=b)(h4:b<=B):-(A*B)<=a*b/\a*b<=A*B:=by have e1:=qLa (show 0<=A-a by omega) (show 0<=B-b by omega);have e2:=qLa (show 0<=A+a by omega) (show 0<=B+b by omega);have e3:=qLa (show 0<=A-a by omega) (show 0<=B+b by omega);have e4:=qLa (show 0<=A+a by omega) (show 0<=B-b by omega);simp only[Int.sub_mul,Int.mul_sub,Int.add_mul,Int.mul_add] at e1 e2 e3 e4;omega
theorem qw6 {x:Int}(h:-9223372036854775807<=x/\x<=9223372036854775807):yM .i64 0 x=-x:=by rw[jj (by omega)];omega
theorem qkC {x:Int}(h:-9223372036854775808<=x/\x<=9223372036854775807):q1F .i64 x=x:=by unfold q1F IntKind.wrap;simp[IntKind.signed,IntKind.bits];omega
theorem qCF (b:Bool):((!b)=true)=¬(b=true):=by cases b<;>simp
theorem qDl (x y:Bool):(qD4 x y=true)=(x=true/\y=true):=by simp[qD4]
theorem qGI (i n:Int):(inb i n=true)=(0<=i/\i<n):=by simp[inb]
theorem qF5 (i n:Int):(q7y i n=true)=(0<=i/\i<=n):=by simp[q7y]
theorem STD:(∀(α:Type) (b:Bool) (t e:Tree α),(Tree.br b t e).run=if b=true then t.run else e.run)/\(∀(α:Type) (a:α),(Tree.leaf a).run=some a)/\(∀(α:Type),(Tree.fail:Tree α).run=none) /\(∀R:TR,okR R=R.run.isSome)/\(∀(α:Type) (a:α),(some a).isSome=true)/\(∀(R:TR) (i:Nat),gI R i=(pR R i).toI)/\(∀(R:TR) (i:Nat),gB R i=(pR R i).toB)/\(∀(R:TR) (i:Nat),gS R i=(pR R i).toS)/\(∀(R:TR) (i:Nat),gR R i=(pR R i).toR) /\(∀(R:TR) (i:Nat),pR R i=R.run.elim (.i 0) fun r=>r.2.getD i (.i 0))/\(∀(α β:Type) (b:β) (f:α->β) (a:α),(some a).elim b f=f a) /\(∀(a:PV) (l:List PV) (d:PV),(a::l).getD 0 d=a)/\(∀(a:PV) (l:List PV) (d:PV) (n:Nat),(a::l).getD (n+1) d=l.getD n d) /\(∀n,(PV.i n).toI=n)/\(∀b,(PV.b b).toB=b)/\(∀s,(PV.s s).toS=s)/\(∀l,(PV.r l).toR=l) /\(∀(α:Type) (h:Decidable True) (a b:α),@ite α True h a b=a)/\(∀(α:Type) (h:Decidable False) (a b:α),@ite α False h a b=b)/\((false=true)=False)/\((true=false)=False)/\((true=true)=True) /\(∀x y,(ieq x y=true)=(x=y))/\(∀x y,(ine x y=true)=(x≠y))/\(∀x y,(ilt x y=true)=(x<y))/\(∀x y,(ile x y=true)=(x<=y))/\(∀x y,(Go.Eng.beq x y=true)=(x=y)) /\(∀x y,(qD4 x y=true)=(x=true/\y=true))/\(∀b:Bool,((!b)=true)=¬(b=true))/\(∀i n,(inb i n=true)=(0<=i/\i<n))/\(∀i n,(q7y i n=true)=(0<=i/\i<=n)) /\(∀(p:Prop) (_:Decidable p),(decide p=true)=p)/\(∀(α:Type) (a b:α),(a≠b)=¬(a=b))/\(¬True)=False/\(¬False)=True:=
 ⟨fun _=>qGN,fun _=>qCA,fun _=>qD0,fun _=>rfl,fun _ _=>rfl,fun _ _=>rfl,fun _ _=>rfl,fun _ _=>rfl,fun _ _=>rfl,fun R i=>by unfold pR;cases R.run<;>rfl,fun _ _ _ _ _=>rfl,
  fun _ _ _=>rfl,fun _ _ _ _=>rfl,fun _=>rfl,fun _=>rfl,fun _=>rfl,fun _=>rfl,fun _ _ _ _=>by simp,fun _ _ _ _=>by simp,by simp,by simp,by simp,qAU,qFq,qFL,qoi,qG3,
  qDl,qCF,qGI,qF5,fun _ _=>by simp,fun _ _ _=>rfl,by simp,by simp⟩
theorem zt {R:TR}{j:Nat}{ps:List PV}(h:R.run=some (j,ps))(i:Nat):(jIs R i=true)=(j=i):=by simp[jIs,jR,h]
theorem run_bind {α β:Type}(t:Tree α)(f:α->Tree β):(t.bind f).run=t.run.bind fun a=>(f a).run:=by
 induction t with
 | leaf a=>rfl
 | br b t e iht ihe=>cases b<;>simp[Tree.bind,Tree.run,iht,ihe]
 | fail=>rfl
theorem qhe {S:List PV->TR}{ps qs:List PV}(h:(S ps).run=some (0,qs)):(qjt S (n+1) ps).run=(qjt S n qs).run:=by simp[qjt,run_bind,h]
theorem q7Q {S:List PV->TR}{n j:Nat}{ps qs:List PV}(h:(S ps).run=some (j+1,qs)):(qjt S (n+1) ps).run=some (j,qs):=by simp[qjt,run_bind,h,Tree.run]
def q1C{α:Type}(f:Nat->Option α):Nat->Nat->Option α
 | _,0=>none
 | i,k+1=>match f i with
  | some a=>some a
  | none=>q1C f (i+1) k
theorem qqI{S:List PV->TR}(st:Nat->List PV)(f:Nat->Option (Nat×List PV))(fin:Nat×List PV)(n:Nat)
  (h1:∀i,i<n->f i=none->(S (st i)).run=some (0,st (i+1))) (h2:∀i r,i<n->f i=some r->(S (st i)).run=some (r.1+1,r.2))
  (h3:(S (st n)).run=some (fin.1+1,fin.2)):∀(k i m:Nat),i+k=n->k<m->(qjt S m (st i)).run=some ((q1C f i k).getD fin)
 | 0,i,m,hi,hm=>by
  obtain⟨m,rfl⟩:∃m',m=m'+1:=⟨m-1,by omega⟩;have:i=n:=by omega
  subst this;rw[q7Q h3];rfl
 | k+1,i,m,hi,hm=>by
  obtain⟨m,rfl⟩:∃m',m=m'+1:=⟨m-1,by omega⟩;cases hf:f i with
  | none=>
   rw[qhe (h1 i (by omega) hf),qqI st f fin n h1 h2 h3 k (i+1) m (by omega) (by omega)];simp[q1C,hf]
  | some r=>
   rw[q7Q (h2 i r (by omega) hf)];simp[q1C,hf]
theorem q4o {S:List PV->TR}(st:Nat->List PV)(f:Nat->Option (Nat×List PV))(fin:Nat×List PV)(n:Nat)(hn:n<9223372036854775808)(h1:∀i,i<n->f i=none->(S (st i)).run=some (0,st (i+1))) (h2:∀i r,i<n->f i=some r->(S (st i)).run=some (r.1+1,r.2))(h3:(S (st n)).run=some (fin.1+1,fin.2)):(qh S (st 0)).run=some ((q1C f 0 n).getD fin):=qqI st f fin n h1 h2 h3 n 0 qgq (by omega) (Nat.lt_trans hn (by unfold qgq;decide))
theorem zf {S:List PV->TR}(st:Nat->List PV)(fin:Nat×List PV)(n:Nat)(hn:n<9223372036854775808)(h1:∀i,i<n->(S (st i)).run=some (0,st (i+1))) (h3:(S (st n)).run=some (fin.1+1,fin.2)):(qh S (st 0)).run=some fin:=by
 have h:=q4o st (fun _=>none) fin n hn (fun i hi _=>h1 i hi) (fun i r _ h=>by cases h) h3;have e:∀k i,q1C (fun _=>(none:Option (Nat×List PV))) i k=none:=by
  intro k;induction k with
  | zero=>intro i;rfl
  | succ k ih=>intro i;simp[q1C,ih]
 rw[e] at h;exact h
theorem kt{α:Type}{f:Nat->Option α}:∀{k i:Nat},q1C f i k=none->∀j,i<=j->j<i+k->f j=none
 | 0,i,_,j,h1,h2=>by omega
 | k+1,i,h,j,h1,h2=>by
  simp only[q1C] at h;cases hf:f i with
  | some a=>rw[hf] at h;cases h
  | none=>
   rw[hf] at h;rcases qKR h1 with rfl|h1
   ·exact hf
   ·exact kt h j h1 (by omega)
theorem qrw{α:Type}{f g:Nat->Option α}:∀{k i:Nat},(∀j,i<=j->j<i+k->f j=g j)->q1C f i k=q1C g i k
 | 0,i,_=>rfl
 | k+1,i,h=>by
  simp only[q1C];rw[h i (by omega) (by omega),qrw (fun j h1 h2=>h j (by omega) (by omega))]
theorem qrI{α β:Type}(g:α->β){f:Nat->Option α}:∀{k i:Nat},q1C (fun j=>(f j).map g) i k=(q1C f i k).map g
 | 0,i=>rfl
 | k+1,i=>by
  simp only[q1C];cases f i with
  | some a=>rfl
  | none=>exact qrI g
theorem kX {i n:Nat}(h:i<n)(hn:n<9223372036854775808):qz .i64 (i:Int) 1=((i+1:Nat):Int):=by rw[zj (by omega)];omega
theorem qAA {α:Type}(n:Nat):∀i,q1C (fun _=>(none:Option α)) i n=none:=by
 induction n with
 | zero=>intro i;rfl
 | succ n ih=>intro i;simp[q1C,ih]
def pick(p:Nat->Bool):Nat->R
 | 0=>[]
 | n+1=>if p n then uV (pick p n) [[.i (n:Int)]] else pick p n
def qpK(f:Nat->Int)(i:Nat):Option Int:=if f i=0 then none else some (f i)
theorem qBs {f:Nat->Int}(h:q1C (qpK f) 0 n=none)(i:Nat)(hi:i<n):f i=0:=by
 have:=kt h i (by omega) (by omega);unfold qpK at this;split at this
 ·assumption
 ·cases this
theorem qs8{f:Nat->Int}:∀{k i:Nat} {e:Int},q1C (qpK f) i k=some e->e≠0
 | 0,i,e,h=>by cases h
 | k+1,i,e,h=>by
  simp only[q1C] at h;unfold qpK at h;by_cases h0:f i=0
  ·rw[if_pos h0] at h;exact qs8 h
  ·rw[if_neg h0] at h;simp at h;omega
def qdc(e:Nat->Int)(n:Nat):Int:=(q1C (qpK e) 0 n).getD 0
theorem qvi {e:Nat->Int}(h:qdc e n=0)(i:Nat)(hi:i<n):e i=0:=by
 unfold qdc at h;cases hs:q1C (qpK e) 0 n with
 | none=>exact qBs hs i hi
 | some x=>rw[hs] at h;exact absurd h (qs8 hs)
theorem quL {e:Nat->Int}(h:∀i,i<n->e i=0):qdc e n=0:=by unfold qdc;rw[qrw (g:=fun _=>none) (fun j _ hj=>by unfold qpK;rw[if_pos (h j (by omega))]),qAA];rfl
theorem qxb {S:List PV->TR}(st:Nat->List PV)(e:Nat->Int)(caps fin:List PV)(n:Nat)(hn:n<9223372036854775808)(h:∀i,i<n->(S (st i)).run=if e i=0 then some (0,st (i+1)) else some (2,.i (e i)::caps)) (h3:(S (st n)).run=some (1,fin)) :(qh S (st 0)).run=some (if qdc e n=0 then (0,fin) else (1,.i (qdc e n)::caps)):=by
 have key:=q4o st (fun i=>(qpK e i).map fun x=>(1,PV.i x::caps)) (0,fin) n hn (fun i hi hf=>by
  rw[h i hi];unfold qpK at hf;split at hf
  ·rename_i h0;rw[if_pos h0]
  ·simp at hf) (fun i r hi hf=>by
  rw[h i hi];unfold qpK at hf;split at hf
  ·simp at hf
  ·rename_i h0;simp at hf;rw[if_neg h0,<-hf]) h3
 rw[key,qrI];unfold qdc;cases hs:q1C (qpK e) 0 n with
 | none=>simp
 | some x=>simp[qs8 hs]
theorem quF {l:R}{i:Nat}(h:i<l.length):(i:Int)<qk l:=by unfold qk;omega
theorem qCj (l:R):¬((l.length:Int)<qk l):=by unfold qk;omega
theorem q8N (i:Nat):(0:Int)<=(i:Int):=by omega
end Go.Eng

namespace Go.Eng
variable {n:Nat}
def dch(d:Nat):UInt8:=UInt8.ofNat (48+d)
def dv(c:UInt8):Nat:=c.toNat-48
def q6H(s:qJb):Prop:=∀c,c∈s->48<=c.toNat/\c.toNat<=57
def val(s:qJb):Nat:=s.foldl (fun a c=>10*a+dv c) 0
def tNf:Nat->Nat->List UInt8
 | 0,_=>[]
 | f+1,n=>if n<10 then [dch n] else tNf f (n/10)++[dch (n%10)]
def tN(n:Nat):List UInt8:=tNf (n+1) n
def tI(n:Int):List UInt8:=if n<0 then 45::tN n.natAbs else tN n.natAbs
theorem q2F {d:Nat}(h:d<10):(dch d).toNat=48+d:=by unfold dch;rw[UInt8.toNat_ofNat'];omega
theorem qmv {d:Nat}(h:d<10):dv (dch d)=d:=by unfold dv;rw[q2F h];omega
theorem qEm {c:UInt8}(h1:48<=c.toNat)(h2:c.toNat<=57):dch (dv c)=c:=by apply qLl.1;rw[q2F (by unfold dv;omega)];unfold dv;omega
theorem qjJ (s:qJb)(c:UInt8):val (s++[c])=10*val s+dv c:=by simp[val,List.foldl_append]
theorem qo6:∀(t:qJb) (a:Nat),t.foldl (fun a c=>10*a+dv c) a=a*10^t.length+val t
 | [],a=>by simp[val]
 | c::t,a=>by
  have h1:=qo6 t (10*a+dv c);have h2:=qo6 t (10*0+dv c);have h3:val (c::t)=t.foldl (fun a c=>10*a+dv c) (10*0+dv c):=rfl;rw[h3,h2,qL5,h1,qJM,qKN];grind
theorem qrU (s t:qJb):val (s++t)=val s*10^t.length+val t:=by
 have h:val (s++t)=t.foldl (fun a c=>10*a+dv c) (val s):=by simp[val,List.foldl_append]
 rw[h,qo6]
theorem q5I (c:UInt8)(t:qJb):val (c::t)=dv c*10^t.length+val t:=by have:=qrU [c] t;simpa[val] using this
theorem qeh:val []=0:=rfl
theorem qwH (c:UInt8):val [c]=dv c:=by simp[val]
theorem qnA:q6H []:=fun c h=>by cases h
theorem q0M {c:UInt8}{s:qJb}:q6H (c::s)↔(48<=c.toNat/\c.toNat<=57)/\q6H s:=by unfold q6H;simp
theorem q9e {s t:qJb}:q6H (s++t)↔q6H s/\q6H t:=by unfold q6H;simp only[qJG];exact⟨fun h=>⟨fun c hc=>h c (.inl hc),fun c hc=>h c (.inr hc)⟩,fun h c hc=>hc.elim (h.1 c) (h.2 c)⟩
theorem qzc {c:UInt8}(h:48<=c.toNat/\c.toNat<=57):dv c<10:=by unfold dv;omega
theorem q6N:∀{s:qJb},q6H s->val s<10^s.length
 | [],_=>by simp[val]
 | c::s,h=>by
  obtain⟨h1,h2⟩:=q0M.1 h;have ih:=q6N h2;have hd:=qzc h1;rw[q5I,qJM,qKN];have:dv c*10^s.length<=9*10^s.length:=qJD _ (by omega);omega
theorem qs2 {d:Nat}(h:d<10):q6H [dch d]:=by intro c hc;simp at hc;subst hc;rw[q2F h];omega
theorem qEv:∀(f g n:Nat),n<f->n<g->tNf f n=tNf g n
 | 0,_,n,h,_=>by omega
 | _,0,n,_,h=>by omega
 | f+1,g+1,n,h1,h2=>by
  unfold tNf;by_cases h:n<10
  ·rw[if_pos h,if_pos h]
  ·rw[if_neg h,if_neg h,qEv f g (n/10) (by omega) (by omega)]
theorem quy (h:n<10):tN n=[dch n]:=by unfold tN tNf;rw[if_pos h]
theorem qwv (h:10<=n):tN n=tN (n/10)++[dch (n%10)]:=by
 have:tN n=tNf n (n/10)++[dch (n%10)]:=by show tNf (n+1) n=_;rw[tNf,if_neg (by omega)]
 rw[this,qEv n (n/10+1) (n/10) (by omega) (by omega)];rfl
theorem qrQ (n:Nat):q6H (tN n)/\tN n≠[]/\val (tN n)=n:=by
 induction n using Nat.strongRecOn with
 | _ n ih=>
  by_cases h:n<10
  ·rw[quy h];exact⟨qs2 h,by simp,by rw[qwH,qmv h]⟩
  ·rw[qwv (by omega)];obtain⟨h1,h2,h3⟩:=ih (n/10) (by omega);refine⟨q9e.2 ⟨h1,qs2 (by omega)⟩,by simp,?_⟩;rw[qjJ,h3,qmv (by omega)];omega
theorem zX (n:Nat):q6H (tN n):=(qrQ n).1
theorem qoz (n:Nat):tN n≠[]:=(qrQ n).2.1
theorem q0G (n:Nat):val (tN n)=n:=(qrQ n).2.2
theorem qim (n:Nat):0<(tN n).length:=qKH.2 (qoz n)
theorem q1A:∀(k n:Nat),n<10^(k+1)->(tN n).length<=k+1
 | 0,n,h=>by rw[quy (by simpa using h)];simp
 | k+1,n,h=>by
  by_cases h10:n<10
  ·rw[quy h10];simp
  ·rw[qwv (by omega),qJB];have:=q1A k (n/10) (by rw[qKN] at h;omega);simp;omega
theorem qtY:∀(k n:Nat),10^k<=n->k<(tN n).length
 | 0,n,_=>qim n
 | k+1,n,h=>by
  have hp:0<10^k:=Nat.pow_pos (by omega);rw[qKN] at h;rw[qwv (by omega),qJB];have:=qtY k (n/10) (by omega);simp;omega
theorem q63 {k n:Nat}(h:(tN n).length<=k):n<10^k:=by have:=q6N (zX n);rw[q0G] at this;exact qJW this (qKO (by omega) h)
def lead(s:qJb):Prop:=s.length=1\/s.getD 0 0≠48
theorem qxv {s:qJb}(hd:q6H s)(hn:s≠[])(h:s.getD 0 0≠48):10^(s.length-1)<=val s:=by
 cases s with
 | nil=>exact absurd rfl hn
 | cons c s=>
  obtain⟨h1,h2⟩:=q0M.1 hd;simp at h;have hc:1<=dv c:=by unfold dv;have:c.toNat≠48:=fun e=>h (qLl.1 (by simpa using e));omega
  rw[q5I,qJM,qLu];have:1*10^s.length<=dv c*10^s.length:=qJD _ hc;omega
theorem qEk:∀(n:Nat) {s:qJb},s.length=n+1->q6H s->lead s->tN (val s)=s
 | 0,s,hl,hd,_=>by
  match s,hl with
  | [c],_=>
   have h1:=(q0M.1 hd).1;rw[qwH,quy (qzc h1),qEm h1.1 h1.2]
 | n+1,s,hl,hd,hz=>by
  obtain⟨i,c,rfl⟩:∃i c,s=i++[c]:=⟨s.dropLast,s.getLast (by intro h;simp[h] at hl),(List.dropLast_concat_getLast _).symm⟩;have hil:i.length=n+1:=by simpa using hl
  obtain⟨h1,h2⟩:=q9e.1 hd;have hc:=(q0M.1 h2).1;have hi:i≠[]:=by intro h;simp[h] at hil
  have hz0:i.getD 0 0≠48:=by
   rcases hz with hz|hz
   ·exact absurd (by simpa using hz) hi
   ·cases i with
    | nil=>exact absurd rfl hi
    | cons a i=>simpa using hz
  have hv:1<=val i:=qJg (Nat.one_le_pow _ _ (by omega)) (qxv h1 hi hz0);have hd10:=qzc hc;rw[qjJ,qwv (n:=10*val i+dv c) (by omega),show (10*val i+dv c)/10=val i by omega,show (10*val i+dv c)%10=dv c by omega,qEm hc.1 hc.2,qEk n hil h1 (.inr hz0)]
theorem qpw {s:qJb}(hd:q6H s)(hn:s≠[])(hz:lead s):s=tN (val s):=(qEk (s.length-1) (by have:=qKH.2 hn;omega) hd hz).symm
theorem qqR {m n:Nat}(h:tN m=tN n):m=n:=by rw[<-q0G m,h,q0G]
theorem qCb (n:Nat):lead (tN n):=by
 induction n using Nat.strongRecOn with
 | _ n ih=>
  by_cases h:n<10
  ·rw[quy h];exact .inl rfl
  ·rw[qwv (by omega)];right;by_cases h2:n/10<10
   ·rw[quy h2];intro e;have:(dch (n/10)).toNat=48:=by
     have e':dch (n/10)=48:=by simpa using e
     rw[e'];rfl
    rw[q2F h2] at this;omega
   ·have h3:(tN (n/10)).length≠1:=by have:=qtY 1 (n/10) (by omega);omega
    rcases ih (n/10) (by omega) with h4|h4
    ·exact absurd h4 h3
    ·cases hq:tN (n/10) with
     | nil=>exact absurd hq (qoz _)
     | cons a i=>rw[hq] at h4;simpa using h4
theorem qFV (t:qJb):slt [] t=!t.isEmpty:=by cases t<;>rfl
theorem qDh (a b:UInt8)(s t:qJb):slt (a::s) (b::t)=(decide (a<b)||(a==b&&slt s t)):=by unfold slt;simp only[Op.bytesLess]
theorem qvV:∀{s t:qJb},q6H s->q6H t->s.length=t.length->((slt s t=true)=(val s<val t))
 | [],[],_,_,_=>by simp[qFV,qeh]
 | a::s,b::t,h1,h2,hl=>by
  obtain⟨ha,hs⟩:=q0M.1 h1;obtain⟨hb,ht⟩:=q0M.1 h2;have hl':s.length=t.length:=by simpa using hl
  have ih:=qvV hs ht hl';have v1:=q6N hs;have v2:=q6N ht;rw[qDh,q5I,q5I,hl'];rw[hl'] at v1;have hab:(a<b)=(dv a<dv b):=by unfold dv;rw[UInt8.lt_iff_toNat_lt];simp only[eq_iff_iff];omega
  have hab2:(a=b)=(dv a=dv b):=by unfold dv;rw[<-qLl];simp only[eq_iff_iff];omega
  simp only[qKJ,decide_eq_true_eq,qJx,beq_iff_eq,eq_iff_iff,ih,hab,hab2];generalize 10^t.length=p at *;generalize dv a=x at *;generalize dv b=y at *;constructor
  ·rintro (h|⟨rfl,h⟩)
   ·have:=qJD p (show x+1<=y by omega);rw[qJt] at this;omega
   ·omega
  ·intro h;rcases Nat.lt_trichotomy x y with h3|h3|h3
   ·exact .inl h3
   ·subst h3;exact .inr ⟨rfl,by omega⟩
   ·have:=qJD p (show y+1<=x by omega);rw[qJt] at this;omega
theorem kf {m n:Nat}(h:m<=n):(tN m).length<=(tN n).length:=by
 rcases qJl (tN n).length (tN m).length with h1|h1
 ·have h2:=q63 (qJe (tN n).length);have h3:0<(tN n).length:=qim n;have:=q1A ((tN n).length-1) m (by rw[Nat.sub_add_cancel h3];omega);omega
 ·exact h1
theorem qw5 (m n:Nat):((tN m).length<(tN n).length\/(tN m).length=(tN n).length/\slt (tN m) (tN n)=true)↔m<n:=by
 constructor
 ·rintro (h|⟨h1,h2⟩)
  ·rcases qJl m n with h3|h3
   ·exact h3
   ·have:=kf h3;omega
  ·rw[qvV (zX m) (zX n) h1,q0G,q0G] at h2;exact h2
 ·intro h;have h1:=kf (Nat.le_of_lt h);rcases qJl (tN m).length (tN n).length with h3|h3
  ·exact .inl h3
  ·have h4:(tN m).length=(tN n).length:=by omega
   exact .inr ⟨h4,by rw[qvV (zX m) (zX n) h4,q0G,q0G];exact h⟩
theorem qxU (s:qJb):val (48::s)=val s:=by rw[q5I];simp[dv]
theorem qob (n:Nat)(s:qJb):val (List.replicate n 48++s)=val s:=by
 induction n with
 | zero=>rfl
 | succ n ih=>rw[qKG,qKc,qxU,ih]
theorem qln (n:Nat):q6H (List.replicate n 48):=by intro c hc;rw[(qLr.1 hc).2];decide
def rI(l:List Int):R:=l.map fun v=>[.i v]
theorem qgT (l:List Int):qk (rI l)=l.length:=by simp[qk,rI]
theorem qAn (l:List Int)(i:Int):cI (rI l) i 0=l.getD i.toNat 0:=by unfold cI wy rI;simp only[qJd,qJo];cases l[i.toNat]?<;>rfl
theorem qz5 (x v:U):qtS [x] 0 [v]=[v]:=rfl
theorem quv (l:List Int)(i v:Int):qfD (rI l) i 0 [.i v]=rI (l.set i.toNat v):=by
 unfold qfD rI;apply qK9;intro j;by_cases hj:j=i.toNat
 ·subst hj;by_cases hl:i.toNat<l.length
  ·simp[hl,qz5]
  ·rw[qJC (by simp;omega),qJC (by simp;omega)]
 ·rw[qJf (qJI hj),qJo,qJo,qJf (qJI hj)]
theorem qj6 (n v:Int):q3O n [.i v]=rI (List.replicate n.toNat v):=by simp[q3O,rI]
theorem qHV (l:List Int):qlQ (rI l)=l.map fun v=>UInt8.ofNat v.toNat:=by unfold qlQ rI;rw[List.map_map];rfl
theorem qGL (l:List Int)(i:Int)(s:qJb):qv7 (rI l) i s=rI (l.take i.toNat++s.map (fun c=>(c.toNat:Int))++l.drop (i.toNat+s.length)):=by unfold qv7 rI;simp[List.map_take,List.map_drop]
theorem ql7 (s:qJb):qlQ (rI (s.map fun c=>(c.toNat:Int)))=s:=by
 rw[qHV,List.map_map];have:((fun v:Int=>UInt8.ofNat v.toNat)∘fun c:UInt8=>(c.toNat:Int))=id:=by funext c;simp
 rw[this,List.map_id]
theorem qrG {s:qJb}{i:Nat}(h:i<s.length):sat s (i:Int)=(s[i].toNat:Int):=by unfold sat;simp[h]
theorem zV (s t:qJb):(seq s t=true)=(s=t):=by simp[seq]
theorem qFl {x:Int}(h:48<=x/\x<=255):yM .u8 x 48=x-48:=by unfold yM IntKind.wrap;simp[IntKind.signed,IntKind.bits];omega
theorem qqZ {x:Int}(h:0<=x/\x<=255):q1F .u8 x=x:=by unfold q1F IntKind.wrap;simp[IntKind.signed,IntKind.bits];omega
theorem qns (a b:Nat):qa8 (a:Int) (b:Int)=((a%b:Nat):Int):=by unfold qa8;rw[Int.tmod_eq_emod_of_nonneg (by omega)];rfl
theorem qxk {a b:Nat}(h:a<9223372036854775808):qbR .i64 (a:Int) (b:Int)=((a/b:Nat):Int):=by unfold qbR;rw[Int.tdiv_eq_ediv_of_nonneg (by omega)];have:(a:Int)/(b:Int)=((a/b:Nat):Int):=rfl;have h2:a/b<=a:=qL2 a b;rw[this];generalize a/b=q at *;unfold IntKind.wrap;simp[IntKind.signed,IntKind.bits];omega
theorem yI {S:List PV->TR}(I Q:Nat->List PV->Prop)(hn:n<9223372036854775808)(h:∀k ps,k<=n->I k ps->(∃k' qs,k'<k/\(S ps).run=some (0,qs)/\I k' qs)\/∃j qs,(S ps).run=some (j+1,qs)/\Q j qs) {ps:List PV} (h0:I n ps):∃j qs,(qh S ps).run=some (j,qs)/\Q j qs:=by
 have key:∀m k ps,k<=n->k<m->I k ps->∃j qs,(qjt S m ps).run=some (j,qs)/\Q j qs:=by
  intro m;induction m with
  | zero=>intro k ps _ h;omega
  | succ m ih=>
   intro k ps hk hm hI;rcases h k ps hk hI with⟨k',qs,h1,h2,h3⟩|⟨j,qs,h1,h2⟩
   ·obtain⟨j,rs,g1,g2⟩:=ih k' qs (by omega) (by omega) h3;exact⟨j,rs,by rw[qhe h2];exact g1,g2⟩
   ·exact⟨j,qs,q7Q h1,h2⟩
 exact key qgq n ps (qJe _) (Nat.lt_trans hn (by unfold qgq;decide)) h0
end Go.Eng

namespace Go.Eng
variable {i:Nat}
theorem qbh {m:Int}(h:m<0):tI m=45::tN m.natAbs:=by unfold tI;rw[if_pos h]
theorem qja {m:Int}(h:¬m<0):tI m=tN m.natAbs:=by unfold tI;rw[if_neg h]
theorem q0Z (n:Nat):tI (n:Int)=tN n:=by rw[qja (by omega)];rfl
theorem qwi:tN 0=[48]:=rfl
theorem qh9 {s:qJb}(hd:q6H s)(hn:s≠[]):∃c t,s=c::t/\48<=c.toNat/\c.toNat<=57:=by
 cases s with
 | nil=>exact absurd rfl hn
 | cons c t=>exact⟨c,t,rfl,(q0M.1 hd).1⟩
theorem qtH (m:Int):(tI m).length<=(tN m.natAbs).length+1:=by unfold tI;split<;>simp
theorem qnU (m:Int):0<(tI m).length:=by have:=qim m.natAbs;unfold tI;split<;>simp<;>omega
theorem qxN {m n:Int}(h:tI m=tI n):m=n:=by
 have key:∀{m n:Int},m<0->¬n<0->tI m≠tI n:=by intro m n h1 h2 e;rw[qbh h1,qja h2] at e;obtain⟨c,t,hc,h3,h4⟩:=qh9 (zX n.natAbs) (qoz _);rw[hc] at e;have:=(List.cons.inj e).1;rw[<-this] at h3;exact absurd h3 (by decide)
 by_cases h1:m<0<;>by_cases h2:n<0
 ·rw[qbh h1,qbh h2] at h;have:=qqR (List.cons.inj h).2;omega
 ·exact absurd h (key h1 h2)
 ·exact absurd h.symm (key h2 h1)
 ·rw[qja h1,qja h2] at h;have:=qqR h;omega
theorem qwZ (m:Int):(sat (tI m) 0=45)=(m<0):=by
 by_cases h:m<0
 ·rw[qbh h];simp[sat,h]
 ·rw[qja h];obtain⟨c,t,hc,h3,h4⟩:=qh9 (zX m.natAbs) (qoz _);rw[hc];simp[sat,h];omega
theorem wE (m:Int):(qE [.s (tI m)]).run=some (0,[.s (tN m.natAbs)]):=by
 rw[qsa];have hp:=qnU m;have hne:¬tI m=[]:=fun h=>by rw[h] at hp;simp at hp
 have h1:(0:Int)<qB (tI m):=by unfold qB;omega
 have h2:(1:Int)<=qB (tI m):=by omega
 simp only[STD,zV,hne,h1,h2,qwZ,qJE,show (0:Int)<=qB (tI m) by omega,and_self,show (0:Int)<=1 by omega];by_cases h:m<0
 ·rw[if_pos h,qbh h];simp[qfy,qB]
 ·rw[if_neg h,qja h]
theorem jB (m:Int):(qL [.s (tI m)]).run=some (0,[.b (decide (m<0))]):=by
 rw[qqp];have hp:=qnU m;have h1:(0:Int)<qB (tI m):=by unfold qB;omega
 have h2:ieq (sat (tI m) 0) 45=decide (m<0):=by have:=qwZ m;by_cases h:m<0<;>simp[ieq,h] at this ⊢<;>exact this
 simp only[STD,h1,h2,qJE,and_self]
theorem q03 (n:Nat)(b:Bool)(hl:(tN n).length<=100000000):(zg [.s (tN n),.b b]).run=some (0,[.s (tI (if b then -(n:Int) else n))]):=by
 rw[qoZ];have h1:qB [45]+qB (tN n)<=140737488355328:=by show (1:Int)+((tN n).length:Int)<=_;omega
 have h0:(tN n=[48])=(n=0):=by rw[<-qwi];exact propext ⟨fun h=>qqR h,fun h=>by rw[h]⟩
 simp only[STD,zV,h1,h0];cases b with
 | false=>simp[q0Z]
 | true=>
  by_cases hn:n=0
  ·subst hn;simp[tI,qwi]
  ·have:(-(n:Int))<0:=by omega
   simp[hn,qbh this,qdK]
theorem qbS (m:Int)(hl:(tN m.natAbs).length<=100000000):(zZ [.s (tI m)]).run=some (0,[.s (tI (-m))]):=by
 rw[qop];simp only[STD,wE,jB,q03 _ _ hl];have e:(if ¬m<0 then -(m.natAbs:Int) else (m.natAbs:Int))=-m:=by
  by_cases h:m<0
  ·rw[if_neg (by simp[h])];omega
  ·rw[if_pos (by simp[h])];omega
 rw[e]
theorem q94 {s:qJb}(h:i<s.length):val (s.take (i+1))=10*val (s.take i)+dv s[i]:=by rw[List.take_add_one,qJk h,Option.toList_some,qjJ]
theorem qut {s:qJb}(h:q6H s)(i:Nat):q6H (s.take i):=fun c hc=>h c (qLo hc)
theorem qzP {s:qJb}(h:q6H s)(i:Nat):q6H (s.drop i):=fun c hc=>h c (qLp hc)
theorem qnD {s:qJb}(h:q6H s)(hi:i<s.length):48<=s[i].toNat/\s[i].toNat<=57:=h _ (qJT hi)
theorem qw1 {s:qJb}(h:q6H s)(hi:i<s.length):q1F .i64 (yM .u8 (sat s (i:Int)) 48)=(dv s[i]:Int)/\dv s[i]<10:=by have hd:=qnD h hi;rw[qrG hi,qFl (by omega),qkC (by omega)];unfold dv;omega
theorem qhZ (m:Int)(hl:(tN m.natAbs).length<=18):(u6 [.s (tI m)]).run=some (0,[.i m]):=by
 rw[qnT];have hd:=zX m.natAbs;have k:=zf (S:=uW) (fun i=>[.s (tI m),.i (val ((tN m.natAbs).take i):Int),.s (tN m.natAbs),.i (i:Int)]) (0,[.s (tI m),.i (m.natAbs:Int)]) (tN m.natAbs).length (by omega) (fun i hi=>by
  rw[qd0];obtain⟨e1,e2⟩:=qw1 hd hi;have hv:=q6N (qut hd i);have hv2:10^((tN m.natAbs).take i).length<=100000000000000000:=qJg (qKO (n:=10) (by omega) (show _<=17 by rw[qK8];omega)) (by decide);have hv3:=qJW hv hv2;clear hv hv2;have hlt:(i:Int)<qB (tN m.natAbs):=by unfold qB;omega
  have e3:qz .i64 (vn .i64 10 (val ((tN m.natAbs).take i):Int)) (dv (tN m.natAbs)[i]:Int)=((10*val ((tN m.natAbs).take i)+dv (tN m.natAbs)[i]:Nat):Int):=by rw[q52 (by omega),zj (by omega)];omega
  simp only[STD,hlt,q8N,and_self,e1,kX hi (by omega),q94 hi,e3]) (by
  rw[qd0];have:¬((tN m.natAbs).length:Int)<qB (tN m.natAbs):=by unfold qB;omega
  simp only[STD,this,qKw,q0G])
 have k':(qh uW [.s (tI m),.i 0,.s (tN m.natAbs),.i 0]).run=_:=k;have hm:m.natAbs<1000000000000000000:=qJW (q63 hl) (by decide);have hneg:m<0->yM .i64 0 (m.natAbs:Int)=m:=fun h=>by rw[qw6 (by omega)];omega
 have hpos:¬m<0->(m.natAbs:Int)=m:=fun h=>by omega
 clear hm k hd;simp only[STD,wE,k',jB];by_cases h:m<0
 ·rw[if_pos h,hneg h]
 ·rw[if_neg h,hpos h]
theorem q5J (m n:Int):(j6 [.s (tI m),.s (tI n)]).run=some (0,if (tN m.natAbs).length<=18/\(tN n.natAbs).length<=18 then [.i m,.i n,.b true] else [.i 0,.i 0,.b false]):=by
 rw[qq3];have e:∀t:List UInt8,(18<qB t)=¬(t.length<=18):=fun t=>by unfold qB;simp only[eq_iff_iff];omega
 by_cases h1:(tN m.natAbs).length<=18
 ·by_cases h2:(tN n.natAbs).length<=18
  ·simp only[STD,wE,e,h1,h2,qhZ m h1,qhZ n h2,and_self]
  ·simp only[STD,wE,e,h1,h2,and_false]
 ·simp only[STD,wE,e,h1,false_and]
theorem qrO {d:Int}(h0:0<=d)(h:d<10):qlQ [[.i (q1F .u8 (qz .i64 48 d))]]=[dch d.toNat]:=by rw[zj (by omega),qqZ (by omega)];show [UInt8.ofNat (48+d).toNat]=[UInt8.ofNat (48+d.toNat)];rw[show (48+d).toNat=48+d.toNat by omega]
theorem qBj {S:List PV->TR}(hS:∀(y0:Int) (y1:qJb),S [.i y0,.s y1]=(.br (ilt 9 y0) (.br (ile ((qB (qlQ [[(.i (q1F .u8 (qz .i64 48 (qa8 y0 10))))]]))+(qB y1)) 140737488355328) (.leaf (0,[(.i (qbR .i64 y0 10)),(.s (qdK (qlQ [[(.i (q1F .u8 (qz .i64 48 (qa8 y0 10))))]]) y1))])) .fail) (.leaf (1,[(.i y0),(.s y1)]))))(n:Nat) (hn:n<9223372036854775808):∃(a:Nat) (r:qJb),(qh S [.i (n:Int),.s []]).run=some (0,[.i (a:Int),.s r])/\a<10/\tN n=tN a++r:=by
 have hlen:(tN n).length<=19:=q1A 18 n (by omega);obtain⟨j,qs,h1,h2⟩:=yI (S:=S) (fun k ps=>∃(r:qJb),ps=[.i (k:Int),.s r]/\tN n=tN k++r) (fun j qs=>∃(a:Nat) (r:qJb),j=0/\qs=[.i (a:Int),.s r]/\a<10/\tN n=tN a++r) hn (fun k ps hk ⟨r,hps,ht⟩=>by
  subst hps;by_cases h9:k<10
  ·right;have:¬(9:Int)<(k:Int):=by omega
   exact⟨0,_,by rw[hS];simp only[STD,this],k,r,rfl,rfl,h9,ht⟩
  ·left;have h9':(9:Int)<(k:Int):=by omega
   have hr:qa8 (k:Int) 10=((k%10:Nat):Int):=qns k 10;have hq:qbR .i64 (k:Int) 10=((k/10:Nat):Int):=qxk (b:=10) (by omega);have hd:qlQ [[(.i (q1F .u8 (qz .i64 48 (qa8 (k:Int) 10))))]]=[dch (k%10)]:=by rw[hr,qrO (by omega) (by omega)];rfl
   have hrl:r.length<=19:=by have:=congrArg List.length ht;rw[qJB] at this;omega
   have hle:qB [dch (k%10)]+qB r<=140737488355328:=by show (1:Int)+(r.length:Int)<=_;omega
   refine⟨k/10,[.i ((k/10:Nat):Int),.s ([dch (k%10)]++r)],by omega,?_,_,rfl,?_⟩
   ·rw[hS];simp only[STD,h9',hd,hq,hle];rfl
   ·rw[ht,qwv (by omega),qJQ]) (ps:=[.i (n:Int),.s []]) ⟨[],rfl,by simp⟩
 obtain⟨a,r,rfl,rfl,h3,h4⟩:=h2;exact⟨a,r,h1,h3,h4⟩
theorem qzF {a:Nat}{r:qJb}(ha:a<10):qdK (qlQ [[(.i (q1F .u8 (qz .i64 48 (a:Int))))]]) r=tN a++r:=by rw[qrO (by omega) (by omega),quy ha];rfl
theorem of_le {a:Nat}{r:qJb}(ha:a<10)(hr:r.length<=1000):qB (qlQ [[(.i (q1F .u8 (qz .i64 48 (a:Int))))]])+qB r<=140737488355328:=by rw[qrO (by omega) (by omega)];show (1:Int)+(r.length:Int)<=_;omega
theorem qEi {x:Int}(h1:-9223372036854775808<x)(h2:x<=9223372036854775807):yM .i64 0 x=-x:=qw6 (by omega)
theorem qGE (n:Nat)(hn:n<9223372036854775808):(q5c [.i (n:Int)]).run=some (0,[.s (tN n)])/\(zv [.i (n:Int)]).run=some (0,[.s (tN n)]):=by
 obtain⟨a,r,h1,h2,h3⟩:=qBj qqx n hn;obtain⟨a',r',h1',h2',h3'⟩:=qBj qsL n hn;have hlen:(tN n).length<=19:=q1A 18 n (by omega);have hr:r.length<=1000:=by have:=congrArg List.length h3;rw[qJB] at this;omega
 have hr':r'.length<=1000:=by have:=congrArg List.length h3';rw[qJB] at this;omega
 have hneg:yM .i64 0 (n:Int)=-(n:Int):=qEi (by omega) (by omega);have h0:((n:Int)=-(n:Int))=(n=0):=by simp only[eq_iff_iff];omega
 have hlt:¬(n:Int)<0:=by omega
 have hz:((n:Int)=0)=(n=0):=by simp only[eq_iff_iff];omega
 constructor
 ·rw[qti];simp only[STD,hneg,h0,hz,hlt,h1,qzF h2,of_le h2 hr,<-h3];by_cases h:n=0<;>simp[h]
 ·rw[qoC];simp only[STD,hneg,h0,hz,hlt,h1',qzF h2',of_le h2' hr',<-h3'];by_cases h:n=0<;>simp[h]
theorem uS (n:Int)(h1:-9223372036854775808<n)(h2:n<=9223372036854775807):(zv [.i n]).run=some (0,[.s (tI n)]):=by
 by_cases h:n<0
 ·obtain⟨a,ha⟩:∃a:Nat,n=-(a:Int):=⟨n.natAbs,by omega⟩;subst ha;have hneg:yM .i64 0 (-(a:Int))=(a:Int):=by rw[qEi (by omega) (by omega)];omega
  have hlen:(tN a).length<=19:=q1A 18 a (by omega);have ht:=qbS (a:Int) (by simp;omega);rw[q0Z] at ht;rw[qoC];have e1:¬(-(a:Int)=(a:Int)):=by omega
  simp only[STD,hneg,h,e1,(qGE a (by omega)).1,ht]
 ·obtain⟨a,rfl⟩:∃a:Nat,n=(a:Int):=⟨n.toNat,by omega⟩;rw[(qGE a (by omega)).2,q0Z]
theorem qgp (m n:Nat):(q2S [.s (tN m),.s (tN n)]).run=some (0,[.b (decide (m<n))]):=by
 rw[qs9];have h:=qw5 m n;have e1:(qB (tN m)<qB (tN n))=((tN m).length<(tN n).length):=by unfold qB;simp only[eq_iff_iff];omega
 have e2:(qB (tN m)=qB (tN n))=((tN m).length=(tN n).length):=by unfold qB;simp only[eq_iff_iff];omega
 simp only[STD,e1,e2];by_cases h1:(tN m).length<(tN n).length
 ·have:m<n:=h.1 (.inl h1);simp[h1,this]
 ·by_cases h2:(tN m).length=(tN n).length
  ·cases hs:slt (tN m) (tN n) with
   | true=>simp[h2,h.1 (.inr ⟨h2,hs⟩)]
   | false=>
    have:¬m<n:=fun hh=>by rcases h.2 hh with h3|⟨_,h3⟩<;>simp_all
    simp[h2,this]
  ·have:¬m<n:=fun hh=>by rcases h.2 hh with h3|⟨h3,_⟩<;>omega
   simp[h1,h2,this]
end Go.Eng

namespace Go.Eng
variable {k:Nat}
theorem qmQ (s:qJb)(n:Nat)(h0:0<n)(hn:n<=1000000000)(hl:s.length<=n):(q5y [.s s,.i (n:Int)]).run=some (0,[.s (List.replicate (n-s.length) 48++s)]):=by
 rw[qsX];have k:=zf (S:=q1W) (fun i=>[.s s,.i (n:Int),.i (i:Int),.r (rI (List.replicate i 48++List.replicate (n-i) 0))]) (0,[.s s,.i (n:Int),.r (rI (List.replicate n 48))]) n (by omega) (fun i hi=>by
  rw[qfP];have h1:(i:Int)<(n:Int):=by omega
  have h2:(i:Int)<qk (rI (List.replicate i 48++List.replicate (n-i) 0)):=by rw[qgT];simp;omega
  have h3:(List.replicate i (48:Int)++List.replicate (n-i) 0).set (i:Int).toNat 48=List.replicate (i+1) 48++List.replicate (n-(i+1)) 0:=by rw[qJq,List.set_append_right _ _ (by simp),List.length_replicate,qK3];rw[show n-i=(n-(i+1))+1 by omega,qKG,qJu,List.replicate_succ'];simp
  simp only[STD,h1,h2,q8N,and_self,kX hi (by omega),quv,h3]) (by
  rw[qfP];simp only[STD,Int.lt_irrefl,qK3,List.replicate_zero,qKl])
 have k':(qh q1W [.s s,.i (n:Int),.i 0,.r (rI (List.replicate n 0))]).run=some (0,[.s s,.i (n:Int),.r (rI (List.replicate n 48))]):=by simpa using k
 have e1:yM .i64 (n:Int) (qB s)=((n-s.length:Nat):Int):=by rw[jj (by unfold qB;omega)];unfold qB;omega
 have e2:(0:Int)<=(n:Int):=by omega
 have e3:(n:Int)<=140737488355328:=by omega
 have e4:(0:Int)<qk (rI (List.replicate n 48)):=by rw[qgT,List.length_replicate];omega
 have e5:((n-s.length:Nat):Int)<=qk (rI (List.replicate n 48)):=by rw[qgT,List.length_replicate];omega
 have e6:qB s<=qvG (qk (rI (List.replicate n 48))) ((n-s.length:Nat):Int):=by rw[qgT,List.length_replicate];unfold qvG qB;omega
 have e7:qlQ (rI (List.take ((n-s.length:Nat):Int).toNat (List.replicate n 48)++s.map (fun c=>(c.toNat:Int))++List.drop (((n-s.length:Nat):Int).toNat+s.length) (List.replicate n 48)))=List.replicate (n-s.length) 48++s:=by
  rw[qJq,List.take_replicate,List.drop_replicate,qKs (by omega),show n-(n-s.length+s.length)=0 by omega,List.replicate_zero,qKl];have:List.replicate (n-s.length) (48:Int)=(List.replicate (n-s.length) (48:UInt8)).map fun c=>(c.toNat:Int):=by rw[List.map_replicate];rfl
  rw[this,<-qJK,ql7]
 simp only[STD,qj6,qJq,e2,e3,and_self,k',e4,e5,e1,q8N,e6,qGL];rw[qJq] at e7;rw[e7]
theorem qbx {s:qJb}(hd:q6H s)(hn:s≠[])(hl:s.length<=1000000000):(u4 [.s s]).run=some (0,[.s (tN (val s))]):=by
 rw[qrF];obtain⟨j,qs,h1,h2⟩:=yI (S:=q4w) (fun k ps=>∃t:List UInt8,ps=[.s t]/\t.length=k/\q6H t/\t≠[]/\val t=val s) (fun j qs=>j=0/\qs=[.s (tN (val s))]) (n:=s.length) (by omega) (fun k ps hk ⟨t,hps,hlk,hdt,hnt,hv⟩=>by
  subst hps;have hp:0<t.length:=qKH.2 hnt;have hs0:(0:Int)<qB t:=by unfold qB;omega
  rw[qpH];by_cases h1:1<t.length
  ·have hs1:(1:Int)<qB t:=by unfold qB;omega
   obtain⟨c,u,rfl⟩:∃c u,t=c::u:=by
    cases t with
    | nil=>exact absurd rfl hnt
    | cons c u=>exact⟨c,u,rfl⟩
   have hsat:sat (c::u) 0=(c.toNat:Int):=by simp[sat]
   by_cases h48:c=48
   ·left;subst h48;have hu:u≠[]:=by intro h;subst h;simp at h1
    refine⟨u.length,[.s u],by simp at hlk;omega,?_,u,rfl,rfl,(q0M.1 hdt).2,hu,by rw[<-hv,qxU]⟩;have hsub:qfy (48::u) 1 (qB (48::u))=u:=by simp[qfy,qB]
    have h48':(((48:UInt8).toNat:Nat):Int)=48:=rfl;simp only[STD,hs1,hs0,hsat,h48',qJE,and_self,Int.le_of_lt hs1,Int.le_of_lt hs0,show (0:Int)<=1 by omega,hsub]
   ·right;have hne:¬((c.toNat:Int)=48):=fun h=>h48 (qLl.1 (by show c.toNat=48;omega));refine⟨0,[.s (c::u)],?_,rfl,?_⟩
    ·simp only[STD,hs1,hs0,hsat,hne,qJE,and_self]
    ·rw[<-hv,<-qpw hdt hnt (.inr (by simpa using h48))]
  ·right;have hs1:¬(1:Int)<qB t:=by unfold qB;omega
   refine⟨0,[.s t],?_,rfl,?_⟩
   ·simp only[STD,hs1]
   ·rw[<-hv,<-qpw hdt hnt (.inl (by omega))]) (ps:=[.s s]) ⟨s,rfl,rfl,hd,hn,rfl⟩
 obtain⟨rfl,rfl⟩:=h2;simp only[STD,h1]
theorem qCz {x y:UInt8}(hx:48<=x.toNat/\x.toNat<=57)(hy:48<=y.toNat/\y.toNat<=57)(c:Nat)(hc:c<=1)(add:Bool) :∃(d:UInt8) (c':Nat),(48<=d.toNat/\d.toNat<=57)/\c'<=1/\(q3Z [.i x.toNat,.i y.toNat,.i (c:Int),.b add]).run=some (0,[.i d.toNat,.i (c':Int)]) /\(if add then dv x+dv y+c=dv d+10*c' else dv x+10*c'=dv y+c+dv d):=by
 have ex:q1F .i64 (yM .u8 (x.toNat:Int) 48)=(dv x:Int):=by rw[qFl (by omega),qkC (by omega)];unfold dv;omega
 have ey:q1F .i64 (yM .u8 (y.toNat:Int) 48)=(dv y:Int):=by rw[qFl (by omega),qkC (by omega)];unfold dv;omega
 have lx:=qzc hx;have ly:=qzc hy;have mk:∀v:Nat,v<10->((dch v).toNat:Int)=48+v:=fun v hv=>by rw[q2F hv];omega
 rw[qnR];simp only[STD,ex,ey];cases add with
 | true=>
  simp only[STD];have e1:qz .i64 (qz .i64 (dv x:Int) (dv y:Int)) (c:Int)=((dv x+dv y+c:Nat):Int):=by rw[zj (x:=(dv x:Int)) (by omega),zj (by omega)];omega
  rw[e1];by_cases h9:9<dv x+dv y+c
  ·have h9':(9:Int)<((dv x+dv y+c:Nat):Int):=by omega
   refine⟨dch (dv x+dv y+c-10),1,by rw[q2F (by omega)];omega,by omega,?_,by rw[qmv (by omega)];omega⟩;rw[if_pos h9',zj (by omega),jj (by omega),qqZ (by omega),mk _ (by omega)];rw[show (48:Int)+((dv x+dv y+c:Nat):Int)-10=48+((dv x+dv y+c-10:Nat):Int) by omega];rfl
  ·have h9':¬(9:Int)<((dv x+dv y+c:Nat):Int):=by omega
   have h0:¬((dv x+dv y+c:Nat):Int)<0:=by omega
   refine⟨dch (dv x+dv y+c),0,by rw[q2F (by omega)];omega,by omega,?_,by rw[qmv (by omega)];omega⟩;rw[if_neg h9',if_neg h0,zj (by omega),qqZ (by omega),mk _ (by omega)];rfl
 | false=>
  simp only[STD];have e1:yM .i64 (yM .i64 (dv x:Int) (dv y:Int)) (c:Int)=(dv x:Int)-dv y-c:=by rw[jj (x:=(dv x:Int)) (by omega),jj (by omega)]
  rw[e1];have h9':¬(9:Int)<(dv x:Int)-dv y-c:=by omega
  rw[if_neg h9'];by_cases h0:(dv x:Int)-dv y-c<0
  ·refine⟨dch (dv x+10-dv y-c),1,by rw[q2F (by omega)];omega,by omega,?_,?_⟩
   ·rw[if_pos h0,zj (x:=48) (by omega),zj (by omega),qqZ (by omega),mk _ (by omega)];rw[show (48:Int)+((dv x:Int)-dv y-c)+10=48+((dv x+10-dv y-c:Nat):Int) by omega];rfl
   ·rw[qmv (by omega)];omega
  ·refine⟨dch (dv x-dv y-c),0,by rw[q2F (by omega)];omega,by omega,?_,?_⟩
   ·rw[if_neg h0,zj (by omega),qqZ (by omega),mk _ (by omega)];rw[show (48:Int)+((dv x:Int)-dv y-c)=48+((dv x-dv y-c:Nat):Int) by omega];rfl
   ·rw[qmv (by omega)];omega
theorem qC8 {s:qJb}(h:k<s.length):s.drop k=s[k]::s.drop (k+1):=(List.drop_eq_getElem_cons h)
theorem qxB {s:qJb}(h:k<s.length):val (s.drop k)=dv s[k]*10^(s.length-(k+1))+val (s.drop (k+1)):=by rw[qC8 h,q5I,qLd]
theorem quD {a b:qJb}{n:Nat}(ha:q6H a)(hb:q6H b)(hla:a.length=n)(hlb:b.length=n)(hn:n<=100000001)(add:Bool) :∃(t:qJb) (c:Nat),(qh q0L [.s a,.s b,.b add,.i 0,.i ((n:Int)-1),.r (rI (List.replicate n 0))]).run=some (0,[.r (rI (t.map fun c=>(c.toNat:Int)))])/\q6H t/\t.length=n /\(if add then val a+val b=val t+c*10^n else val a+c*10^n=val b+val t):=by
 obtain⟨j,qs,h1,h2⟩:=yI (S:=q0L) (fun k ps=>∃(t:qJb) (c:Nat),ps=[.s a,.s b,.b add,.i (c:Int),.i ((k:Int)-1),.r (rI (List.replicate k 0++t.map fun c=>(c.toNat:Int)))]/\c<=1/\q6H t/\k+t.length=n /\
   (if add then val (a.drop k)+val (b.drop k)=val t+c*10^(n-k) else val (a.drop k)+c*10^(n-k)=val (b.drop k)+val t))
  (fun j qs=>j=0/\∃(t:qJb) (c:Nat),qs=[.r (rI (t.map fun c=>(c.toNat:Int)))]/\q6H t/\t.length=n/\(if add then val a+val b=val t+c*10^n else val a+c*10^n=val b+val t)) (n:=n) (by omega) (fun k ps hk ⟨t,c,hps,hc,hdt,hlt,hrel⟩=>by
  subst hps;rw[qmZ];cases k with
  | zero=>
   right;have:¬(0:Int)<=((0:Nat):Int)-1:=by omega
   refine⟨0,[.r (rI (t.map fun c=>(c.toNat:Int)))],?_,rfl,t,c,rfl,hdt,by omega,by simpa using hrel⟩;simp only[STD,this,List.replicate_zero,qKm]
  | succ k=>
   left;have e0:((k+1:Nat):Int)-1=(k:Int):=by omega
   rw[e0];have hka:k<a.length:=by omega
   have hkb:k<b.length:=by omega
   obtain⟨d,c',hd,hc',hrun,hcol⟩:=qCz (qnD ha hka) (qnD hb hkb) c hc add;have h3:(k:Int)<qB a:=by unfold qB;omega
   have h4:(k:Int)<qB b:=by unfold qB;omega
   have h5:(k:Int)<qk (rI (List.replicate (k+1) 0++t.map fun c=>(c.toNat:Int))):=by rw[qgT];simp;omega
   have h6:(List.replicate (k+1) (0:Int)++t.map fun c=>(c.toNat:Int)).set (k:Int).toNat (d.toNat:Int)=List.replicate k 0++(d::t).map fun c=>(c.toNat:Int):=by rw[qJq,List.replicate_succ',qJQ,List.set_append_right _ _ (by simp),List.length_replicate,qK3];rfl
   have h7:yM .i64 (k:Int) 1=(k:Int)-1:=jj (by omega);refine⟨k,[.s a,.s b,.b add,.i (c':Int),.i ((k:Int)-1),.r (rI (List.replicate k 0++(d::t).map fun c=>(c.toNat:Int)))],by omega,?_,d::t,c',rfl,hc',q0M.2 ⟨hd,hdt⟩,by simp;omega,?_⟩
   ·simp only[STD,q8N,h3,h4,h5,and_self,qrG hka,qrG hkb,hrun,quv,h6,h7]
   ·rw[qxB hka,qxB hkb,q5I,hla,hlb,show t.length=n-(k+1) by omega,show n-k=(n-(k+1))+1 by omega,qKN];generalize 10^(n-(k+1))=p at *;cases add with
    | true=>
     simp only[↓reduceIte] at hrel hcol ⊢;have:=congrArg (·*p) hcol;simp only[qJt] at this;grind
    | false=>
     simp only[qJA,↓reduceIte] at hrel hcol ⊢;have:=congrArg (·*p) hcol;simp only[qJt] at this;grind) (ps:=[.s a,.s b,.b add,.i 0,.i ((n:Int)-1),.r (rI (List.replicate n 0))]) ⟨[],0,by simp,by omega,qnA,by simp,by
    rw[qKZ (by omega),qKZ (by omega)];cases add<;>simp[qeh]⟩
 obtain⟨rfl,t,c,rfl,h3,h4,h5⟩:=h2;exact⟨t,c,h1,h3,h4,h5⟩
theorem qBS {m n t c p:Nat}{add:Bool}(hm:m<p)(hn:n<p)(ht:t<p*10)(h4:if add then m+n=t+c*(p*10) else m+c*(p*10)=n+t)(hle:add=false->n<=m):t=if add then m+n else m-n:=by
 have hc0:c=0:=by
  rcases qKj c with h|h
  ·exact h
  ·exfalso;have h5:1*(p*10)<=c*(p*10):=qJD (p*10) h;cases add with
   | true=>simp only[↓reduceIte] at h4;omega
   | false=>simp only[qJA,↓reduceIte] at h4;have:=hle rfl;omega
 subst hc0;cases add with
 | true=>simp only[↓reduceIte] at h4 ⊢;omega
 | false=>simp only[qJA,↓reduceIte] at h4 ⊢;omega
theorem qrD (a b:Nat):qqF (a:Int) (b:Int)=((max a b:Nat):Int):=by unfold qqF;split<;>omega
theorem q9B (m n:Nat)(add:Bool)(hm:(tN m).length<=100000000)(hn:(tN n).length<=100000000)(hle:add=false->n<=m) :(yT [.s (tN m),.s (tN n),.b add]).run=some (0,[.s (tN (if add then m+n else m-n))]):=by
 rw[qqa];obtain⟨N,hN⟩:∃N,N=max (tN m).length (tN n).length+1:=⟨_,rfl⟩;have l1:(tN m).length<=N-1:=by omega
 have l2:(tN n).length<=N-1:=by omega
 have l3:N=N-1+1:=by omega
 have p1:10^(tN m).length<=10^(N-1):=qKO (Nat.succ_pos 9) l1;have p2:10^(tN n).length<=10^(N-1):=qKO (Nat.succ_pos 9) l2;have p3:10^N=10^(N-1)*10:=(congrArg (10^·) l3).trans (qKN (n:=10) (m:=N-1));have e0:qz .i64 (qqF (qB (tN m)) (qB (tN n))) 1=(N:Int):=by unfold qB;rw[qrD,zj (by omega)];omega
 have e1:yM .i64 (N:Int) 1=(N:Int)-1:=jj (by omega);have e2:(0:Int)<=(N:Int)/\(N:Int)<=140737488355328:=by omega
 have wa:=qmQ (tN m) N (by omega) (by omega) (by omega);have wb:=qmQ (tN n) N (by omega) (by omega) (by omega);have hda:q6H (List.replicate (N-(tN m).length) 48++tN m):=q9e.2 ⟨qln _,zX _⟩;have hdb:q6H (List.replicate (N-(tN n).length) 48++tN n):=q9e.2 ⟨qln _,zX _⟩;obtain⟨t,c,h1,h2,h3,h4⟩:=quD (n:=N) hda hdb (by simp;omega) (by simp;omega) (by omega) add;rw[qob,qob,q0G,q0G] at h4;have ht:t≠[]:=by intro h;subst h;simp at h3;omega
 have hb:=qbx h2 ht (by omega);have e3:q3O (N:Int) [.i 0]=rI (List.replicate N 0):=by rw[qj6];rfl
 have hvm:=q6N (zX m);have hvn:=q6N (zX n);have hvt:=q6N h2;rw[q0G] at hvm hvn;rw[h3] at hvt;rw[p3] at h4 hvt;have q1:=qJW hvm p1;have q2:=qJW hvn p2;clear hvm hvn p1 p2 p3;have hval:val t=if add then m+n else m-n:=qBS q1 q2 hvt h4 hle
 rw[hval] at hb;simp only[STD,e0,wa,wb,e1,e2,and_self,e3,h1,ql7,hb]
theorem qwR (m n:Nat):(tN (m+n)).length<=max (tN m).length (tN n).length+1:=by have h1:=q6N (zX m);have h2:=q6N (zX n);rw[q0G] at h1 h2;have p1:10^(tN m).length<=10^(max (tN m).length (tN n).length):=qKO (by omega) (by omega);have p2:10^(tN n).length<=10^(max (tN m).length (tN n).length):=qKO (by omega) (by omega);exact q1A _ _ (by rw[qKN];omega)
theorem qot (m n:Nat):(tN (m*n)).length<=(tN m).length+(tN n).length:=by
 have h1:=q6N (zX m);have h2:=q6N (zX n);rw[q0G] at h1 h2;have h3:=qim m;have h4:=qim n;have:m*n<10^((tN m).length+(tN n).length):=by rw[Nat.pow_add];exact Nat.mul_lt_mul'' h1 h2
 have:=q1A ((tN m).length+(tN n).length-1) (m*n) (by rwa [show (tN m).length+(tN n).length-1+1=(tN m).length+(tN n).length by omega]);omega
def nl(m:Int):Nat:=(tN m.natAbs).length
theorem qnM (m:Int):0<nl m:=qim _
theorem qoj (m:Int):nl (-m)=nl m:=by unfold nl;rw[Int.natAbs_neg]
theorem quj (m n:Int):nl (m+n)<=max (nl m) (nl n)+1:=by unfold nl;exact qJg (kf (Int.natAbs_add_le m n)) (qwR _ _)
theorem q4t (m n:Int):nl (m*n)<=nl m+nl n:=by unfold nl;rw[qKo];exact qot _ _
theorem qGB {m:Int}(h:nl m<=k):m.natAbs<10^k:=q63 h
theorem qtA (m n:Int)(hm:nl m<=100000000-1)(hn:nl n<=100000000-1):(q7O [.s (tI m),.s (tI n)]).run=some (0,[.s (tI (m+n))]):=by
 rw[qrL];have hm':(tN m.natAbs).length<=100000000-1:=hm;have hn':(tN n.natAbs).length<=100000000-1:=hn;have lt:=quj m n;by_cases hb:(tN m.natAbs).length<=18/\(tN n.natAbs).length<=18
 ·have b1:m.natAbs<1000000000000000000:=qJW (q63 hb.1) (by decide);have b2:n.natAbs<1000000000000000000:=qJW (q63 hb.2) (by decide);have e1:qz .i64 m n=m+n:=zj (by omega);have e2:=uS (m+n) (by omega) (by omega);clear b1 b2;have hbr:=q5J m n;rw[if_pos hb] at hbr;simp only[STD,hbr,e1,e2]
 ·have hbr:=q5J m n;rw[if_neg hb] at hbr;have hP:=q9B m.natAbs n.natAbs true (by omega) (by omega) (fun h=>by cases h);simp only[↓reduceIte] at hP;simp only[STD,hbr,wE,jB,qgp,decide_eq_decide,hP];have la:=qwR m.natAbs n.natAbs;by_cases hs:(m<0)=(n<0)
  ·have hs':(m<0↔n<0):=by rw[hs]
   rw[if_pos hs'];simp only[q03 _ _ (show (tN (m.natAbs+n.natAbs)).length<=100000000 by omega),STD];have e:(if m<0 then -((m.natAbs+n.natAbs:Nat):Int) else ((m.natAbs+n.natAbs:Nat):Int))=m+n:=by
    by_cases h:m<0
    ·rw[if_pos h];have:=hs'.1 h;omega
    ·rw[if_neg h];have:¬n<0:=fun q=>h (hs'.2 q);omega
   rw[e]
  ·have hs':¬(m<0↔n<0):=fun h=>hs (propext h);rw[if_neg hs'];by_cases hlt:m.natAbs<n.natAbs
   ·have hP2:=q9B n.natAbs m.natAbs false (by omega) (by omega) (fun _=>by omega);simp only[qJA,↓reduceIte] at hP2;have ls:(tN (n.natAbs-m.natAbs)).length<=100000000:=qJg (kf (Nat.sub_le _ _)) (by omega);simp only[STD,hlt,hP2,q03 _ _ ls];have e:(if n<0 then -((n.natAbs-m.natAbs:Nat):Int) else ((n.natAbs-m.natAbs:Nat):Int))=m+n:=by
     by_cases h:n<0
     ·rw[if_pos h];have:¬m<0:=fun q=>hs' ⟨fun _=>h,fun _=>q⟩;omega
     ·rw[if_neg h];have:m<0:=by
       rcases Decidable.em (m<0) with q|q
       ·exact q
       ·exact absurd ⟨fun x=>absurd x q,fun x=>absurd x h⟩ hs'
      omega
    rw[e]
   ·have hP2:=q9B m.natAbs n.natAbs false (by omega) (by omega) (fun _=>by omega);simp only[qJA,↓reduceIte] at hP2;have ls:(tN (m.natAbs-n.natAbs)).length<=100000000:=qJg (kf (Nat.sub_le _ _)) (by omega);simp only[STD,hlt,hP2,q03 _ _ ls];have e:(if m<0 then -((m.natAbs-n.natAbs:Nat):Int) else ((m.natAbs-n.natAbs:Nat):Int))=m+n:=by
     by_cases h:m<0
     ·rw[if_pos h];have:¬n<0:=fun q=>hs' ⟨fun _=>q,fun _=>h⟩;omega
     ·rw[if_neg h];have:n<0:=by
       rcases Decidable.em (n<0) with q|q
       ·exact q
       ·exact absurd ⟨fun x=>absurd x h,fun x=>absurd x q⟩ hs'
      omega
    rw[e]
theorem qk2 (m n:Int)(hm:nl m<=100000000-1)(hn:nl n<=100000000-1):(q18 [.s (tI m),.s (tI n)]).run=some (0,[.s (tI (m-n))]):=by rw[qqn];have ht:=qbS n (by have:(tN n.natAbs).length<=100000000-1:=hn;omega);have hp:=qtA m (-n) hm (by rw[qoj];exact hn);rw[<-Int.sub_eq_add_neg] at hp;simp only[STD,ht,hp]
def sgn(n:Int):Int:=if n<0 then -1 else if n=0 then 0 else 1
end Go.Eng

namespace Go.Eng
def wv(l:List Int):Int:=l.foldl (fun a x=>10*a+x) 0
theorem qsg:∀(t:List Int) (a:Int),t.foldl (fun a x=>10*a+x) a=a*10^t.length+wv t
 | [],a=>by simp[wv]
 | c::t,a=>by
  have h1:=qsg t (10*a+c);have h2:=qsg t (10*0+c);have h3:wv (c::t)=t.foldl (fun a x=>10*a+x) (10*0+c):=rfl;rw[h3,h2,qL5,h1,qJM,Int.pow_succ];grind
theorem ql2(c:Int)(t:List Int):wv (c::t)=c*10^t.length+wv t:=by have h3:wv (c::t)=t.foldl (fun a x=>10*a+x) (10*0+c):=rfl;rw[h3,qsg];grind
theorem qHv:wv []=0:=rfl
theorem qDz(n:Nat):wv (List.replicate n 0)=0:=by
 induction n with
 | zero=>rfl
 | succ n ih=>rw[qKG,ql2,ih];simp
theorem qEE:∀(l:List Int) (j:Nat) (hj:j<l.length) (y:Int),wv (l.set j y)=wv l+(y-l[j])*10^(l.length-(j+1))
 | [],j,hj,y=>by simp at hj
 | c::t,0,hj,y=>by
  rw[qJu,ql2,ql2];simp only[List.getElem_cons_zero,qJM,qLu,qK5];grind
 | c::t,j+1,hj,y=>by
  have hj':j<t.length:=by simpa using hj
  rw[qJw,ql2,ql2,qEE t j hj' y,qKE];simp only[List.getElem_cons_succ,qJM];rw[show t.length+1-(j+1+1)=t.length-(j+1) by omega];grind
theorem qFp{l:List Int}{k:Nat}(h:k<l.length):wv (l.drop k)=l[k]*10^(l.length-(k+1))+wv (l.drop (k+1)):=by rw[List.drop_eq_getElem_cons h,ql2,qLd]
theorem jE{l:List Int}{j:Nat}(h:j<l.length):l.getD j 0=l[j]:=by simp[h]
theorem qoX{n i:Nat}(h:i<n):(10:Int)^(n-i)=10^(n-(i+1))*10:=by rw[<-Int.pow_succ];congr 1;omega
theorem qCs{V A Q B:Int}:V*(Q*10)*B+A*B*Q=(10*V+A)*Q*B:=by grind
theorem qF6{P Q A V y:Int}:A*(10*V+y)*P*Q=A*V*(P*10)*Q+A*y*(P*Q):=by grind
theorem qt0{l:List Int}{j:Nat}{y B:Int}(h:∀x,x∈l->0<=x/\x<=B)(hy:0<=y/\y<=B):∀x,x∈l.set j y->0<=x/\x<=B:=by
 intro x hx;rcases qLw hx with h1|h1
 ·exact h x h1
 ·rw[h1];exact hy
theorem qyn{a b:qJb}(ha:q6H a)(hb:q6H b){i:Nat}(hi:i<a.length)(hla:a.length<=1000000)(hlb:b.length<=1000000){cols:List Int}(hc:cols.length=a.length+b.length){C:Nat}(hC:C<=1000000000000)(hB:∀x,x∈cols->0<=x/\x<=81*(C:Int)) :∃cols':List Int,(qh u9 [.s a,.s b,.i (i:Int),.i 0,.r (rI cols)]).run=some (0,[.s a,.s b,.i (i:Int),.r (rI cols')])/\cols'.length=a.length+b.length /\(∀x,x∈cols'->0<=x/\x<=81*((C+b.length:Nat):Int))/\wv cols'=wv cols+(dv a[i]:Int)*(val b:Int)*10^(a.length-(i+1)):=by
 obtain⟨j,qs,h1,h2⟩:=yI (S:=u9) (fun K ps=>∃(k:Nat) (cs:List Int),K+k=b.length/\ps=[.s a,.s b,.i (i:Int),.i (k:Int),.r (rI cs)]/\cs.length=a.length+b.length /\
   (∀x,x∈cs->0<=x/\x<=81*((C+k:Nat):Int))/\wv cs=wv cols+(dv a[i]:Int)*(val (b.take k):Int)*10^(b.length-k)*10^(a.length-(i+1)))
  (fun j qs=>j=0/\∃cs:List Int,qs=[.s a,.s b,.i (i:Int),.r (rI cs)]/\cs.length=a.length+b.length /\
   (∀x,x∈cs->0<=x/\x<=81*((C+b.length:Nat):Int))/\wv cs=wv cols+(dv a[i]:Int)*(val b:Int)*10^(a.length-(i+1))) (n:=b.length) (by omega) (fun K ps hK ⟨k,cs,hkK,hps,hlen,hbd,hw⟩=>by
  subst hps;rw[qjX];cases K with
  | zero=>
   right;obtain rfl:k=b.length:=by omega
   have:¬(b.length:Int)<qB b:=by unfold qB;omega
   refine⟨0,[.s a,.s b,.i (i:Int),.r (rI cs)],?_,rfl,cs,rfl,hlen,hbd,?_⟩
   ·simp only[STD,this]
   ·rw[hw,qKw,qK3];grind
  | succ K=>
   left;have hk:k<b.length:=by omega
   have g1:(k:Int)<qB b:=by unfold qB;omega
   have g2:(i:Int)<qB a:=by unfold qB;omega
   have e1:qz .i64 (qz .i64 (i:Int) (k:Int)) 1=((i+k+1:Nat):Int):=by rw[zj (x:=(i:Int)) (by omega),zj (by omega)];omega
   have hj:i+k+1<cs.length:=by omega
   have g3:((i+k+1:Nat):Int)<qk (rI cs):=by rw[qgT];omega
   obtain⟨da,la⟩:=qw1 ha hi;obtain⟨db,lb⟩:=qw1 hb hk;have hx:=hbd _ (qJT hj);have hmul:dv a[i]*dv b[k]<=9*9:=qK4 (by omega) (by omega);have e2:vn .i64 (dv a[i]:Int) (dv b[k]:Int)=((dv a[i]*dv b[k]:Nat):Int):=by rw[q52 (by rw[<-qK2];omega)];simp
   have e3:qz .i64 cs[i+k+1] ((dv a[i]*dv b[k]:Nat):Int)=cs[i+k+1]+((dv a[i]*dv b[k]:Nat):Int):=zj (by omega);have e4:=kX hk (by omega);refine⟨K,[.s a,.s b,.i (i:Int),.i ((k+1:Nat):Int),.r (rI (cs.set (i+k+1) (cs[i+k+1]+((dv a[i]*dv b[k]:Nat):Int))))],by omega,?_,k+1,_,by omega,rfl,by simpa using hlen,?_,?_⟩
   ·simp only[STD,g1,g2,q8N,and_self,e1,g3,da,db,e2,qAn,qJq,jE hj,e3,e4,quv]
   ·refine qt0 (fun x hx=>?_) ?_
    ·have:=hbd x hx;omega
    ·omega
   ·rw[qEE _ _ hj,hw,q94 hk,hlen];have p1:=qoX hk;have p2:(10:Int)^(a.length+b.length-(i+k+1+1))=10^(b.length-(k+1))*10^(a.length-(i+1)):=by rw[<-Int.pow_add];congr 1;omega
    rw[p1,p2];generalize (10:Int)^(b.length-(k+1))=P;generalize (10:Int)^(a.length-(i+1))=Q;simp only[qL9,qK2];generalize (dv a[i]:Int)=A;generalize (dv b[k]:Int)=y;generalize (val (b.take k):Int)=V;generalize cs[i+k+1]=c;have:=qF6 (P:=P) (Q:=Q) (A:=A) (V:=V) (y:=y);grind) (ps:=[.s a,.s b,.i (i:Int),.i 0,.r (rI cols)]) ⟨0,cols,by omega,rfl,hc,by simpa using hB,by simp[qeh]⟩
 obtain⟨rfl,cs,rfl,h3,h4,h5⟩:=h2;exact⟨cs,h1,h3,h4,h5⟩
theorem qz0{a b:qJb}(ha:q6H a)(hb:q6H b)(hla:a.length<=1000000)(hlb:b.length<=1000000) :∃cols:List Int,(qh ug [.s a,.s b,.i 0,.r (rI (List.replicate (a.length+b.length) 0))]).run=some (0,[.r (rI cols)])/\cols.length=a.length+b.length /\(∀x,x∈cols->0<=x/\x<=81000000000000)/\wv cols=(val a:Int)*(val b:Int):=by
 have hsq:∀i,i<=a.length->i*b.length<=1000000000000:=fun i hi=>by have:=qK4 (show i<=1000000 by omega) hlb;omega
 obtain⟨j,qs,h1,h2⟩:=yI (S:=ug) (fun K ps=>∃(i:Nat) (cs:List Int),K+i=a.length/\ps=[.s a,.s b,.i (i:Int),.r (rI cs)]/\cs.length=a.length+b.length /\
   (∀x,x∈cs->0<=x/\x<=81*((i*b.length:Nat):Int))/\wv cs=(val (a.take i):Int)*10^(a.length-i)*(val b:Int))
  (fun j qs=>j=0/\∃cs:List Int,qs=[.r (rI cs)]/\cs.length=a.length+b.length/\(∀x,x∈cs->0<=x/\x<=81000000000000)/\wv cs=(val a:Int)*(val b:Int)) (n:=a.length) (by omega) (fun K ps hK ⟨i,cs,hiK,hps,hlen,hbd,hw⟩=>by
  subst hps;rw[qkz];have hs:=hsq i (by omega);cases K with
  | zero=>
   right;obtain rfl:i=a.length:=by omega
   have:¬(a.length:Int)<qB a:=by unfold qB;omega
   refine⟨0,[.r (rI cs)],?_,rfl,cs,rfl,hlen,fun x hx=>?_,?_⟩
   ·simp only[STD,this]
   ·have:=hbd x hx;omega
   ·rw[hw,qKw,qK3];grind
  | succ K=>
   left;have hi:i<a.length:=by omega
   have g1:(i:Int)<qB a:=by unfold qB;omega
   obtain⟨cs',q1,q2,q3,q4⟩:=qyn ha hb hi hla hlb hlen (C:=i*b.length) hs hbd;have e4:=kX hi (by omega);refine⟨K,[.s a,.s b,.i ((i+1:Nat):Int),.r (rI cs')],by omega,?_,i+1,cs',by omega,rfl,q2,?_,?_⟩
   ·simp only[STD,g1,q1,e4]
   ·rw[qJt,qKV];exact q3
   ·rw[q4,hw,q94 hi];rw[qoX hi,qL9,qK2];exact qCs) (ps:=[.s a,.s b,.i 0,.r (rI (List.replicate (a.length+b.length) 0))]) ⟨0,List.replicate (a.length+b.length) 0,by omega,rfl,by simp,fun x hx=>by rw[(qLr.1 hx).2];omega,by rw[qDz];simp[qeh]⟩
 obtain⟨rfl,cs,rfl,h3,h4,h5⟩:=h2;exact⟨cs,h1,h3,h4,h5⟩
theorem qyP{cols:List Int}{N:Nat}(hl:cols.length=N)(hN:N<=2000000)(hB:∀x,x∈cols->0<=x/\x<=81000000000000) :∃(t:qJb) (c:Nat),(qh yl [.i 0,.i ((N:Int)-1),.r (rI cols),.r (rI (List.replicate N 0))]).run=some (0,[.r (rI (t.map fun c=>(c.toNat:Int)))])/\q6H t/\t.length=N/\wv cols=(val t:Int)+(c:Int)*10^N:=by
 obtain⟨j,qs,h1,h2⟩:=yI (S:=yl) (fun K ps=>∃(t:qJb) (c:Nat),ps=[.i (c:Int),.i ((K:Int)-1),.r (rI cols),.r (rI (List.replicate K 0++t.map fun c=>(c.toNat:Int)))]/\c<=81000000000000/\q6H t/\K+t.length=N /\
   wv (cols.drop K)=(val t:Int)+(c:Int)*10^(N-K))
  (fun j qs=>j=0/\∃(t:qJb) (c:Nat),qs=[.r (rI (t.map fun c=>(c.toNat:Int)))]/\q6H t/\t.length=N/\wv cols=(val t:Int)+(c:Int)*10^N) (n:=N) (by omega) (fun K ps hK ⟨t,c,hps,hc,hdt,hlt,hrel⟩=>by
  subst hps;rw[qiQ];cases K with
  | zero=>
   right;have:¬(0:Int)<=((0:Nat):Int)-1:=by omega
   refine⟨0,[.r (rI (t.map fun c=>(c.toNat:Int)))],?_,rfl,t,c,rfl,hdt,by omega,by simpa using hrel⟩;simp only[STD,this,List.replicate_zero,qKm]
  | succ K=>
   left;have e0:((K+1:Nat):Int)-1=(K:Int):=by omega
   rw[e0];have hk:K<cols.length:=by omega
   obtain⟨x,hx⟩:∃x:Nat,cols[K]=(x:Int)/\x<=81000000000000:=by have:=hB _ (qJT hk);exact⟨cols[K].toNat,by omega,by omega⟩
   have e1:qz .i64 (c:Int) (x:Int)=((c+x:Nat):Int):=by rw[zj (by omega)];omega
   have e2:qbR .i64 ((c+x:Nat):Int) 10=(((c+x)/10:Nat):Int):=qxk (b:=10) (by omega);have e3:qa8 ((c+x:Nat):Int) 10=(((c+x)%10:Nat):Int):=qns _ 10;have e4:q1F .u8 (qz .i64 48 (((c+x)%10:Nat):Int))=((dch ((c+x)%10)).toNat:Int):=by rw[zj (by omega),qqZ (by omega),q2F (by omega)];omega
   have h3:(K:Int)<qk (rI cols):=by rw[qgT];omega
   have h5:(K:Int)<qk (rI (List.replicate (K+1) 0++t.map fun c=>(c.toNat:Int))):=by rw[qgT];simp;omega
   have h6:(List.replicate (K+1) (0:Int)++t.map fun c=>(c.toNat:Int)).set K ((dch ((c+x)%10)).toNat:Int)=List.replicate K 0++(dch ((c+x)%10)::t).map fun c=>(c.toNat:Int):=by rw[List.replicate_succ',qJQ,List.set_append_right _ _ (by simp),List.length_replicate,qK3];rfl
   have h7:yM .i64 (K:Int) 1=(K:Int)-1:=jj (by omega);refine⟨K,[.i (((c+x)/10:Nat):Int),.i ((K:Int)-1),.r (rI cols),.r (rI (List.replicate K 0++(dch ((c+x)%10)::t).map fun c=>(c.toNat:Int)))],by omega,?_,_,_,rfl,by omega,q0M.2 ⟨by rw[q2F (by omega)];omega,hdt⟩,by simp;omega,?_⟩
   ·simp only[STD,q8N,h3,h5,and_self,qAn,qJq,jE hk,hx.1,e1,e2,e3,e4,quv,h6,h7]
   ·rw[qFp hk,hrel,q5I,hx.1,hl,qmv (by omega),show t.length=N-(K+1) by omega];rw[qoX (show K<N by omega)];have e:((c+x:Nat):Int)=10*(((c+x)/10:Nat):Int)+(((c+x)%10:Nat):Int):=by omega
    simp only[qL9,qK2,Int.natCast_pow] at e ⊢;generalize hP:(10:Int)^(N-(K+1))=P at *;generalize (((c+x)/10:Nat):Int)=q at *;generalize (((c+x)%10:Nat):Int)=r at *;have:(c:Int)=10*q+r-x:=by omega
    rw[this];grind) (ps:=[.i 0,.i ((N:Int)-1),.r (rI cols),.r (rI (List.replicate N 0))]) ⟨[],0,by simp,by omega,qnA,by simp,by
    rw[qKZ (by omega)];simp[qeh,qHv]⟩
 obtain⟨rfl,t,c,rfl,h3,h4,h5⟩:=h2;exact⟨t,c,h1,h3,h4,h5⟩
theorem qoq(m n:Nat)(hm:(tN m).length<=1000000)(hn:(tN n).length<=1000000):(q2v [.s (tN m),.s (tN n)]).run=some (0,[.s (tN (m*n))]):=by
 rw[qn0];obtain⟨cols,c1,c2,c3,c4⟩:=qz0 (zX m) (zX n) hm hn;obtain⟨N,hN⟩:∃N,N=(tN m).length+(tN n).length:=⟨_,rfl⟩;have hp:=qim m;rw[<-hN] at c1 c2;obtain⟨t,c,t1,t2,t3,t4⟩:=qyP c2 (by omega) c3;have ht:t≠[]:=by intro h;subst h;simp at t3;omega
 have hb:=qbx t2 ht (by omega);have e0:qz .i64 (qB (tN m)) (qB (tN n))=(N:Int):=by unfold qB;rw[zj (by omega)];omega
 have e1:(0:Int)<=(N:Int)/\(N:Int)<=17592186044416:=by omega
 have e1':(0:Int)<=(N:Int)/\(N:Int)<=140737488355328:=by omega
 have e2:q3O (N:Int) [.i 0]=rI (List.replicate N 0):=by rw[qj6];rfl
 have e3:qk (rI cols)=(N:Int):=by rw[qgT,c2]
 have e4:yM .i64 (N:Int) 1=(N:Int)-1:=jj (by omega);have hval:val t=m*n:=by
  have v1:=q6N (zX m);have v2:=q6N (zX n);have v3:=q6N t2;rw[t3] at v3;rw[c4,q0G,q0G] at t4;rw[q0G] at v1 v2;have v4:m*n<10^N:=by rw[hN,Nat.pow_add];exact Nat.mul_lt_mul'' v1 v2
  have t5:m*n=val t+c*10^N:=by
   have:((m*n:Nat):Int)=((val t+c*10^N:Nat):Int):=by simpa using t4
   omega
  clear t4 c4 v1 v2;generalize 10^N=P at *;rcases qKj c with h|h
  ·subst h;omega
  ·have:=qJD P h;omega
 rw[hval] at hb;simp only[STD,e0,e1,e1',and_self,e2,c1,e3,e4,t1,ql7,hb]
theorem qsQ(m n:Int)(hm:nl m<=1000000)(hn:nl n<=1000000):(q2Z [.s (tI m),.s (tI n)]).run=some (0,[.s (tI (m*n))]):=by
 rw[qqt];have hm':(tN m.natAbs).length<=1000000:=hm;have hn':(tN n.natAbs).length<=1000000:=hn;have hbr:=q5J m n;have hP:=qoq m.natAbs n.natAbs hm' hn';have lm:=qot m.natAbs n.natAbs;have hS:=fun b=>q03 (m.natAbs*n.natAbs) b (by omega);have tm:=qtH m;have tn:=qtH n;have e0:qz .i64 (qB (tI m)) (qB (tI n))=(((tI m).length+(tI n).length:Nat):Int):=by unfold qB;rw[zj (by omega)];omega
 have sg:(if (¬((m<0)=(n<0))) then -((m.natAbs*n.natAbs:Nat):Int) else ((m.natAbs*n.natAbs:Nat):Int))=m*n:=by
  by_cases h1:m<0<;>by_cases h2:n<0
  ·simp only[h1,h2,not_true_eq_false,if_false];rw[qK2,show (m.natAbs:Int)=-m by omega,show (n.natAbs:Int)=-n by omega];grind
  ·simp only[h1,h2];rw[if_pos (by simp),qK2,show (m.natAbs:Int)=-m by omega,show (n.natAbs:Int)=n by omega];grind
  ·simp only[h1,h2];rw[if_pos (by simp),qK2,show (m.natAbs:Int)=m by omega,show (n.natAbs:Int)=-n by omega];grind
  ·simp only[h1,h2,not_true_eq_false,if_false];rw[qK2,show (m.natAbs:Int)=m by omega,show (n.natAbs:Int)=n by omega]
 by_cases hb:(tN m.natAbs).length<=18/\(tN n.natAbs).length<=18
 ·rw[if_pos hb] at hbr;by_cases h18:(tI m).length+(tI n).length<=18
  ·have h18':(((tI m).length+(tI n).length:Nat):Int)<=18:=by omega
   have lmn:(tN (m*n).natAbs).length<=18:=by
    rw[qKo];have h3:∀q:Int,(tN q.natAbs).length<=(tI q).length:=fun q=>by unfold tI;split<;>simp
    have:=h3 m;have:=h3 n;omega
   have b1:(m*n).natAbs<1000000000000000000:=qJW (q63 lmn) (by decide);have e1:vn .i64 m n=m*n:=q52 (by omega);have e2:=uS (m*n) (by omega) (by omega);clear b1;simp only[STD,hbr,e0,h18',e1,e2]
  ·have h18':¬(((tI m).length+(tI n).length:Nat):Int)<=18:=by omega
   simp only[STD,hbr,e0,h18',wE,hP,jB,hS,decide_eq_decide];rw[<-sg];simp only[eq_iff_iff]
 ·rw[if_neg hb] at hbr;simp only[STD,hbr,wE,hP,jB,hS,decide_eq_decide];rw[<-sg];simp only[eq_iff_iff]
theorem qHB{x:Int}(h:0<=x/\x<=254):qz .u8 x 1=x+1:=by unfold qz IntKind.wrap;simp[IntKind.signed,IntKind.bits];omega
theorem qwq(a q:qJb)(i:Int){b x0:Nat}(hb:0<b)(hx:x0<10*b)(lb:(tN b).length<=1000000)(lx:(tN x0).length<=1000002) :(qh ye [.s a,.s (tN b),.s q,.s (tN x0),.i i,.i 48]).run=some (0,[.s a,.s (tN b),.s q,.s (tN (x0%b)),.i i,.i (48+((x0/b:Nat):Int))]):=by
 obtain⟨j,qs,h1,h2⟩:=yI (S:=ye) (fun k ps=>∃x c:Nat,ps=[.s a,.s (tN b),.s q,.s (tN x),.i i,.i (48+(c:Int))]/\x+c*b=x0/\c+k=10/\c<=9)
  (fun j qs=>j=0/\qs=[.s a,.s (tN b),.s q,.s (tN (x0%b)),.i i,.i (48+((x0/b:Nat):Int))]) (n:=10) (by omega) (fun k ps hk ⟨x,c,hps,he,hck,hc⟩=>by
  subst hps;rw[qiY];have hxl:x<=x0:=by rw[<-he];exact Nat.le_add_right _ _
  have hP:=q9B x b false (by have:=kf hxl;omega) (by omega);by_cases hlt:x<b
  ·right;refine⟨0,[.s a,.s (tN b),.s q,.s (tN x),.i i,.i (48+(c:Int))],?_,rfl,?_⟩
   ·simp only[STD,qgp,hlt,decide_true]
   ·have e1:x0/b=c:=by rw[<-he,Nat.add_mul_div_right _ _ hb,Nat.div_eq_of_lt hlt,qK5]
    have e2:x0%b=x:=by rw[<-he,Nat.add_mul_mod_self_right,Nat.mod_eq_of_lt hlt]
    rw[e1,e2]
  ·left;have hge:b<=x:=by omega
   have hP:=hP (fun _=>hge);simp only[qJA,↓reduceIte] at hP;have hc9:c+1<10:=by apply Nat.lt_of_mul_lt_mul_right (a:=b);have:(c+1)*b=c*b+b:=Nat.succ_mul c b;omega
   refine⟨k-1,[.s a,.s (tN b),.s q,.s (tN (x-b)),.i i,.i (48+((c+1:Nat):Int))],by omega,?_,x-b,c+1,rfl,?_,by omega,by omega⟩
   ·simp only[STD,qgp,hlt,decide_false,hP,qHB (show (0:Int)<=48+(c:Int)/\48+(c:Int)<=254 by omega)];rw[show (48+(c:Int)+1)=48+((c+1:Nat):Int) by omega]
   ·have:(c+1)*b=c*b+b:=Nat.succ_mul c b;omega) (ps:=[.s a,.s (tN b),.s q,.s (tN x0),.i i,.i 48]) ⟨x0,0,by simp,by simp,by omega,by omega⟩
 obtain⟨rfl,rfl⟩:=h2;exact h1
theorem qE9{s:qJb}{i:Nat}(h:i<s.length):qfy s (i:Int) (((i+1:Nat):Int))=[s[i]]:=by unfold qfy;simp only[qJq];rw[List.take_succ_eq_append_getElem h,List.drop_append_of_le_length (by simp;omega)];rw[List.drop_of_length_le (by simp;omega)];rfl
theorem qnV{m n:Nat}(hn:0<n)(lm:(tN m).length<=1000000)(ln:(tN n).length<=1000000) :(q2w [.s (tN m),.s (tN n)]).run=some (0,[.s (tN (m/n)),.s (tN (m%n))]):=by
 rw[qmY];have hdm:=zX m;obtain⟨j,qs,h1,rfl,q,h2,h3,h4,h5⟩:=yI (S:=q0r) (fun k ps=>∃(i r:Nat) (q:qJb),ps=[.s (tN m),.s (tN n),.s q,.s (tN r),.i (i:Int)]/\i+k=(tN m).length/\q.length=i/\q6H q/\val q*n+r=val ((tN m).take i)/\r<n)
  (fun j qs=>j=0/\∃q:List UInt8,qs=[.s q,.s (tN (m%n))]/\q.length=(tN m).length/\q6H q/\val q=m/n) (n:=(tN m).length) (by omega) (fun k ps hk ⟨i,r,q,hps,hik,hql,hdq,hv,hr⟩=>by
  subst hps;rw[qkA];by_cases hi:i<(tN m).length
  ·left;have hc:=qnD hdm hi;have hw:qz .i64 (i:Int) 1=((i+1:Nat):Int):=by rw[zj (by omega)];omega
   have hlr:(tN r).length<=(tN n).length:=kf (by omega);have hd10:=qzc hc;have hB:=qbx (s:=tN r++[(tN m)[i]]) (q9e.2 ⟨zX r,fun c hcc=>by simp at hcc;subst hcc;exact hc⟩) (by simp) (by simp;omega);rw[qjJ,q0G] at hB;have lx:(tN (10*r+dv (tN m)[i])).length<=1000002:=by
    have h10:10*r+dv (tN m)[i]<=10*n:=by omega
    have e10:(tN (10*n)).length<=(tN 10).length+(tN n).length:=qot 10 n;have e11:(tN 10).length=2:=by decide
    have:=kf h10;omega
   have hI:=qwq (tN m) q (i:Int) hn (x0:=10*r+dv (tN m)[i]) (by omega) ln lx;have hq10:(10*r+dv (tN m)[i])/n<10:=by rw[Nat.div_lt_iff_lt_mul hn];omega
   have hd1:(i:Int)<qB (tN m):=by unfold qB;omega
   have hd2:((i+1:Nat):Int)<=qB (tN m):=by unfold qB;omega
   have hrs:qlQ [[.i (48+(((10*r+dv (tN m)[i])/n:Nat):Int))]]=[dch ((10*r+dv (tN m)[i])/n)]:=by simp only[qlQ,qKi,List.map_nil,qLv,U.toI,dch];congr 2
   have hl1:qB (tN r)+qB [(tN m)[i]]<=140737488355328:=by unfold qB;simp;omega
   have hl2:qB q+qB [dch ((10*r+dv (tN m)[i])/n)]<=140737488355328:=by unfold qB;simp;omega
   refine⟨k-1,[.s (tN m),.s (tN n),.s (q++[dch ((10*r+dv (tN m)[i])/n)]),.s (tN ((10*r+dv (tN m)[i])%n)),.i ((i+1:Nat):Int)],by omega,?_,i+1,_,_,rfl,by omega,by simp[hql],?_,?_,qKC _ hn⟩
   ·simp only[STD,hw,hd1,hd2,qE9 hi,hl1,qdK,hB,hI,hrs,hl2,show (0:Int)<=(i:Int) by omega,show (0:Int)<=((i+1:Nat):Int) by omega,show (i:Int)<=((i+1:Nat):Int) by omega,and_self]
   ·exact q9e.2 ⟨hdq,qs2 hq10⟩
   ·rw[qjJ,qmv hq10,q94 hi,<-hv];have hdm:=qLg (10*r+dv (tN m)[i]) n;generalize (10*r+dv (tN m)[i])/n=c at *;generalize (10*r+dv (tN m)[i])%n=e at *;have e1:(10*val q+c)*n=10*(val q*n)+n*c:=by rw[qJt,Nat.mul_assoc,Nat.mul_comm c n]
    omega
  ·right;have hie:i=(tN m).length:=by omega
   have hd1:¬((i:Int)<qB (tN m)):=by unfold qB;omega
   rw[hie,qKw,q0G] at hv;have e1:m/n=val q:=by rw[<-hv,Nat.add_comm,Nat.add_mul_div_right _ _ hn,Nat.div_eq_of_lt hr,qK5]
   have e2:m%n=r:=by rw[<-hv,Nat.add_comm,Nat.add_mul_mod_self_right,Nat.mod_eq_of_lt hr]
   refine⟨0,[.s q,.s (tN r)],?_,rfl,q,by rw[e2],by omega,hdq,e1.symm⟩;simp only[STD,hd1]) (ps:=[.s (tN m),.s (tN n),.s [],.s [48],.i 0]) ⟨0,0,[],rfl,by omega,rfl,qnA,by simp[qeh],hn⟩
 subst h2;have hB:=qbx (s:=q) h4 (by intro h;subst h;have:=qim m;simp at h3;omega) (by omega);rw[h5] at hB;simp only[STD,h1,hB]
def fq(m n:Int):Int:=if 0<n then m/n else (-m)/(-n)
theorem qlP{m n q:Int}(h:(0<n/\q*n<=m/\m<q*n+n)\/(n<0/\q*n+n<m/\m<=q*n)):fq m n=q:=by
 unfold fq;rcases h with⟨h0,h1,h2⟩|⟨h0,h1,h2⟩
 ·rw[if_pos h0];exact((Int.ediv_emod_unique (r:=m-q*n) h0).2 ⟨by rw[qKk];omega,by omega,by omega⟩).1
 ·rw[if_neg (by omega)];have e:-n*q=-(q*n):=by rw[Int.neg_mul,qKk]
  exact((Int.ediv_emod_unique (r:=q*n-m) (show 0 < -n by omega)).2 ⟨by omega,by omega,by omega⟩).1
theorem qnk{n q:Int}(h:n≠0):fq (q*n) n=q:=by
 apply qlP;rcases Int.lt_or_lt_of_ne h with h|h
 ·exact .inr ⟨h,by omega,by omega⟩
 ·exact .inl ⟨h,by omega,by omega⟩
theorem qIR(m:Int){n:Int}(_:n≠0):(fq m n).natAbs<=m.natAbs+1:=by
 unfold fq;split
 ·have:=qLb m n;omega
 ·have:=qLb (-m) (-n);omega
theorem qlX(m:Int){n:Int}(hn:n≠0):n*m.tdiv n+qa8 m n=m/\(qa8 m n).natAbs<n.natAbs/\(0<=m->0<=qa8 m n)/\(m<=0->qa8 m n<=0):=by
 unfold qa8;refine⟨Int.mul_tdiv_add_tmod m n,?_,fun h=>Int.tmod_nonneg n h,fun h=>?_⟩
 ·rw[Int.natAbs_tmod];exact qKC _ (by omega)
 ·have:=Int.tmod_nonneg n (show 0<=-m by omega);rw[Int.neg_tmod] at this;omega
theorem qCI{m:Int}(h:(tN m.natAbs).length<=18):m.natAbs<1000000000000000000:=qJW (q63 h) (by decide)
theorem qhn{n t:Int}(hn:n≠0)(h:-9223372036854775808<=t/\t<=9223372036854775807):qbR .i64 (n*t) n=t:=by unfold qbR;rw[Int.mul_tdiv_cancel_left _ hn];unfold IntKind.wrap;simp[IntKind.signed,IntKind.bits];omega
theorem qFZ(m n:Int):(m.tdiv n).natAbs<=m.natAbs:=by rw[Int.natAbs_tdiv];exact qL2 _ _
theorem qD3{m n:Int}(hn:n≠0) :(qa8 m n≠0/\¬((qa8 m n<0)=(n<0))->fq m n=m.tdiv n-1/\m-fq m n*n=qa8 m n+n)/\(¬(qa8 m n≠0/\¬((qa8 m n<0)=(n<0)))->fq m n=m.tdiv n/\m-fq m n*n=qa8 m n):=by
 obtain⟨h1,h2,h3,h4⟩:=qlX m hn;generalize m.tdiv n=t at *;generalize qa8 m n=r at *;have e:n*t=t*n:=qKk _ _;have e2:(t-1)*n=t*n-n:=by rw[Int.sub_mul,qJP]
 constructor
 ·intro⟨c1,c2⟩;have c3:¬(r<0↔n<0):=fun h=>c2 (propext h);have:fq m n=t-1:=by
   apply qlP;rw[e2];rcases Int.lt_or_lt_of_ne hn with h|h
   ·have:¬r<0:=fun q=>c3 ⟨fun _=>h,fun _=>q⟩;exact .inr ⟨h,by omega,by omega⟩
   ·have:r<0:=by
     rcases Decidable.em (r<0) with q|q
     ·exact q
     ·exact absurd ⟨fun x=>by omega,fun x=>by omega⟩ c3
    exact .inl ⟨h,by omega,by omega⟩
  rw[this,e2];exact⟨rfl,by omega⟩
 ·intro c;have c':r=0\/(r<0↔n<0):=by
   rcases Decidable.em (r=0) with q|q
   ·exact .inl q
   ·right;rcases Decidable.em (r<0↔n<0) with q2|q2
    ·exact q2
    ·exact absurd ⟨q,fun h=>q2 (by rw[h])⟩ c
  have:fq m n=t:=by
   apply qlP;rcases Int.lt_or_lt_of_ne hn with h|h
   ·rcases c' with q|q
    ·exact .inr ⟨h,by omega,by omega⟩
    ·have:=q.2 h;exact .inr ⟨h,by omega,by omega⟩
   ·rcases c' with q|q
    ·exact .inl ⟨h,by omega,by omega⟩
    ·have:¬r<0:=fun x=>by have:=q.1 x;omega
     exact .inl ⟨h,by omega,by omega⟩
  rw[this];exact⟨rfl,by omega⟩
theorem qHR{m n:Int}(hn:n≠0) :(m.natAbs%n.natAbs≠0/\¬((m<0)=(n<0))->fq m n=-((m.natAbs/n.natAbs:Nat):Int)-1) /\(¬(m.natAbs%n.natAbs≠0/\¬((m<0)=(n<0)))->fq m n=if ¬((m<0)=(n<0)) then -((m.natAbs/n.natAbs:Nat):Int) else ((m.natAbs/n.natAbs:Nat):Int)):=by
 have hd:=qLg m.natAbs n.natAbs;have hl:=qKC m.natAbs (show 0<n.natAbs by omega);generalize m.natAbs/n.natAbs=q at *;generalize m.natAbs%n.natAbs=r at *;have hq:((n.natAbs*q:Nat):Int)=(n.natAbs:Int)*(q:Int):=by simp
 have e1:n<0->(n.natAbs:Int)*(q:Int)=-((q:Int)*n):=fun h=>by rw[show (n.natAbs:Int)=-n by omega,Int.neg_mul,qKk]
 have e2:0<n->(n.natAbs:Int)*(q:Int)=(q:Int)*n:=fun h=>by rw[show (n.natAbs:Int)=n by omega,qKk]
 have e3:(-(q:Int)-1)*n=-((q:Int)*n)-n:=by rw[Int.sub_mul,Int.neg_mul,qJP]
 have e4:(-(q:Int))*n=-((q:Int)*n):=Int.neg_mul _ _;constructor
 ·intro⟨c1,c2⟩;have c3:¬(m<0↔n<0):=fun h=>c2 (propext h);apply qlP;rw[e3];rcases Int.lt_or_lt_of_ne hn with h|h
  ·have:=e1 h;have:¬m<0:=fun q=>c3 ⟨fun _=>h,fun _=>q⟩;exact .inr ⟨h,by omega,by omega⟩
  ·have:=e2 h;have:m<0:=by
    rcases Decidable.em (m<0) with q|q
    ·exact q
    ·exact absurd ⟨fun x=>by omega,fun x=>by omega⟩ c3
   exact .inl ⟨h,by omega,by omega⟩
 ·intro c;by_cases c2:(m<0)=(n<0)
  ·rw[if_neg (by simpa using c2)];have c3:m<0↔n<0:=by rw[c2]
   apply qlP;rcases Int.lt_or_lt_of_ne hn with h|h
   ·have:=e1 h;have:=c3.2 h;exact .inr ⟨h,by omega,by omega⟩
   ·have:=e2 h;have:¬m<0:=fun x=>by have:=c3.1 x;omega
    exact .inl ⟨h,by omega,by omega⟩
  ·rw[if_pos c2];have hr:r=0:=by
    rcases qKj r with h|h
    ·exact h
    ·exact absurd ⟨by omega,c2⟩ c
   have c3:¬(m<0↔n<0):=fun h=>c2 (propext h);apply qlP;rw[e4];rcases Int.lt_or_lt_of_ne hn with h|h
   ·have:=e1 h;have:¬m<0:=fun q=>c3 ⟨fun _=>h,fun _=>q⟩;exact .inr ⟨h,by omega,by omega⟩
   ·have:=e2 h;have:m<=0:=by
     rcases Decidable.em (m<0) with q|q
     ·omega
     ·exact absurd ⟨fun x=>by omega,fun x=>by omega⟩ c3
    exact .inl ⟨h,by omega,by omega⟩
theorem qEV:tI 1=[49]:=rfl
theorem q5g(n:Nat):(tN n=[48])=(n=0):=by rw[<-qwi];exact propext ⟨fun h=>qqR h,fun h=>by rw[h]⟩
theorem qDK(m:Int){n:Int}(hn:n≠0):nl (fq m n)<=nl m+2:=by have h:=qIR m hn;have h2:=kf h;have h3:=qwR m.natAbs 1;have h4:(tN 1).length=1:=rfl;have:=qim m.natAbs;unfold nl;omega
theorem q4A(m n:Int)(hn0:n≠0)(hm:nl m<=400000)(hn:nl n<=400000):(vV [.s (tI m),.s (tI n)]).run=some (0,[.s (tI (fq m n)),.s (tI (m-fq m n*n))]):=by
 rw[qoU];have hbr:=q5J m n;by_cases hb:(tN m.natAbs).length<=18/\(tN n.natAbs).length<=18
 ·rw[if_pos hb] at hbr;have b1:=qCI hb.1;have b2:=qCI hb.2;obtain⟨h1,h2,h3,h4⟩:=qlX m hn0;obtain⟨g1,g2⟩:=qD3 (m:=m) hn0;have ht:=qFZ m n;by_cases c0:qa8 m n=0
  ·obtain⟨e1,e2⟩:=g2 (fun h=>h.1 c0);rw[e2,e1];have w1:yM .i64 m (qa8 m n)=n*m.tdiv n:=by rw[jj (by omega)];omega
   have w2:=qhn (t:=m.tdiv n) hn0 (by omega);have o1:=uS (m.tdiv n) (by omega) (by omega);have o2:=uS (qa8 m n) (by omega) (by omega);simp only[STD,hbr,hn0,c0] at w1 o2 ⊢;simp only[STD,w1,w2,o1,o2]
  ·by_cases c1:(qa8 m n<0)=(n<0)
   ·obtain⟨e1,e2⟩:=g2 (fun h=>h.2 c1);rw[e2,e1];have w1:yM .i64 m (qa8 m n)=n*m.tdiv n:=by rw[jj (by omega)];omega
    have w2:=qhn (t:=m.tdiv n) hn0 (by omega);have o1:=uS (m.tdiv n) (by omega) (by omega);have o2:=uS (qa8 m n) (by omega) (by omega);have hbq:(ilt (qa8 m n) 0=ilt n 0)=True:=by simp only[ilt,decide_eq_decide,eq_iff_iff,iff_true];rw[c1]
    simp only[STD,hbr,hn0,c0,hbq,w1,w2,o1,o2]
   ·obtain⟨e1,e2⟩:=g1 ⟨c0,c1⟩;rw[e2,e1];have w0:qz .i64 (qa8 m n) n=qa8 m n+n:=zj (by omega);have e3:n*(m.tdiv n-1)=n*m.tdiv n-n:=by rw[Int.mul_sub,Int.mul_one]
    have w1:yM .i64 m (qa8 m n+n)=n*(m.tdiv n-1):=by rw[jj (by omega)];omega
    have w2:=qhn (t:=m.tdiv n-1) hn0 (by omega);have o1:=uS (m.tdiv n-1) (by omega) (by omega);have o2:=uS (qa8 m n+n) (by omega) (by omega);have hbq:(ilt (qa8 m n) 0=ilt n 0)=False:=by simp only[ilt,decide_eq_decide,eq_iff_iff,iff_false];exact fun h=>c1 (propext h)
    simp only[STD,hbr,hn0,c0,hbq,w0,w1,w2,o1,o2]
 ·rw[if_neg hb] at hbr;have hm':(tN m.natAbs).length<=400000:=hm;have hn':(tN n.natAbs).length<=400000:=hn;have hD:=qnV (m:=m.natAbs) (n:=n.natAbs) (by omega) (by omega) (by omega);have lq:(tN (m.natAbs/n.natAbs)).length<=(tN m.natAbs).length:=kf (qL2 _ _);have hS:=fun b=>q03 (m.natAbs/n.natAbs) b (by omega);have hbq:(decide (m<0)=decide (n<0))=((m<0)=(n<0)):=by simp only[decide_eq_decide,eq_iff_iff]
  have lf:=qDK m hn0;have hT:=qsQ (fq m n) n (by omega) (by omega);have lt:=q4t (fq m n) n;have hM:=qk2 m (fq m n*n) (by omega) (by omega);obtain⟨g1,g2⟩:=qHR (m:=m) hn0;by_cases c1:(m<0)=(n<0)
  ·have e1:=g2 (fun h=>h.2 c1);rw[if_neg (by simpa using c1)] at e1;have hS':=hS false;simp only[qJA,if_false] at hS';rw[<-e1] at hS';have hnb:(!Go.Eng.beq (decide (m<0)) (decide (n<0)))=false:=by simp only[Go.Eng.beq,Bool.not_eq_false',beq_iff_eq];rw[hbq];exact c1
   by_cases c0:m.natAbs%n.natAbs=0
   ·simp only[STD,hbr,wE,hD,jB,hnb,hS',zV,q5g,c0,hT,hM]
   ·simp only[STD,hbr,wE,hD,jB,hnb,hS',zV,q5g,c0,hT,hM]
  ·have hnb:(!Go.Eng.beq (decide (m<0)) (decide (n<0)))=true:=by
    have:¬(decide (m<0)=decide (n<0)):=by rw[hbq];exact c1
    simp only[Go.Eng.beq,qKU,beq_eq_false_iff_ne];exact this
   have hS':=hS true;simp only[if_true] at hS';by_cases c0:m.natAbs%n.natAbs=0
   ·have e1:=g2 (fun h=>h.1 c0);rw[if_pos c1] at e1;rw[<-e1] at hS';simp only[STD,hbr,wE,hD,jB,hnb,hS',zV,q5g,c0,hT,hM]
   ·have e1:=g1 ⟨c0,c1⟩;have hMi:=qk2 (-((m.natAbs/n.natAbs:Nat):Int)) 1 (by rw[qoj];show (tN (m.natAbs/n.natAbs)).length<=_;omega) (by decide);rw[qEV,<-e1] at hMi;simp only[STD,hbr,wE,hD,jB,hnb,hS',zV,q5g,c0,hMi,hT,hM]
theorem qI0(x:Nat){y:Nat}(h:0<y):fq (x:Int) (y:Int)=((x/y:Nat):Int)/\(x:Int)-fq (x:Int) (y:Int)*(y:Int)=((x%y:Nat):Int):=by
 have e:fq (x:Int) (y:Int)=((x/y:Nat):Int):=by unfold fq;rw[if_pos (by omega)];rfl
 refine⟨e,?_⟩;rw[e];have:=qLg x y;have h2:((y*(x/y):Nat):Int)=((x/y:Nat):Int)*(y:Int):=by rw[Nat.mul_comm];simp
 omega
theorem qDr(a b:Nat)(hb:b<9223372036854775808):(qh ud [.i (a:Int),.i (b:Int)]).run=some (0,[.i ((Nat.gcd a b:Nat):Int)]):=by
 obtain⟨j,qs,h1,rfl,rfl⟩:=yI (S:=ud) (fun k ps=>∃x y:Nat,ps=[.i (x:Int),.i (y:Int)]/\y=k/\Nat.gcd x y=Nat.gcd a b)
  (fun j qs=>j=0/\qs=[.i ((Nat.gcd a b:Nat):Int)]) (n:=b) hb (fun k ps hk ⟨x,y,hps,hy,hg⟩=>by
  subst hps;rw[qkc];by_cases h0:y=0
  ·right;refine⟨0,[.i (x:Int)],?_,rfl,?_⟩
   ·simp only[STD,h0];simp[]
   ·rw[<-hg,h0,Nat.gcd_zero_right]
  ·left;refine⟨x%y,[.i (y:Int),.i ((x%y:Nat):Int)],by rw[<-hy];exact qKC _ (by omega),?_,y,x%y,rfl,rfl,?_⟩
   ·simp only[STD,show (0:Int)<(y:Int) by omega,show ¬((y:Int)=0) by omega,qns]
   ·rw[<-hg,qKP y,<-Nat.gcd_rec,qKP]) (ps:=[.i (a:Int),.i (b:Int)]) ⟨a,b,rfl,rfl,rfl⟩
 exact h1
def eM(a b:Nat):Nat:=if b=0 then 0 else Nat.log2 (a*b)+1+if a<b then 1 else 0
theorem qCh{m n:Nat}(h:m<=n):Nat.log2 m<=Nat.log2 n:=by
 by_cases hm:m=0
 ·subst hm;simp
 ·rcases qJl (Nat.log2 n) (Nat.log2 m) with h1|h1
  ·have:=(Nat.log2_lt (show n≠0 by omega)).1 h1;have h2:=Nat.log2_self_le hm;omega
  ·exact h1
theorem qBR{a b:Nat}(hb:b≠0):eM b (a%b)<eM a b:=by
 have hlt:=qKC a (show 0<b by omega);unfold eM;rw[if_neg hb];by_cases hr:a%b=0
 ·rw[if_pos hr];omega
 ·rw[if_neg hr,if_neg (show ¬b<a%b by omega)];by_cases hab:a<b
  ·rw[if_pos hab,Nat.mod_eq_of_lt hab,Nat.mul_comm b a];omega
  ·rw[if_neg hab];have hd:=qLg a b;have hq:1<=a/b:=(Nat.le_div_iff_mul_le (by omega)).2 (by omega);have h1:b*1<=b*(a/b):=Nat.mul_le_mul_left _ hq;have h2:2*(b*(a%b))<=a*b:=by
    have:2*(a%b)<=a:=by omega
    have:=qJD b this;rw[Nat.mul_assoc,Nat.mul_comm (a%b) b] at this;exact this
   have h3:=qCh h2;have h4:Nat.log2 (2*(b*(a%b)))=Nat.log2 (b*(a%b))+1:=by apply Nat.log2_two_mul;exact Nat.mul_ne_zero hb hr
   omega
theorem qAb{x k j:Nat}(h:(tN x).length<=k)(hj:4*k=j):x<2^j:=by
 have h3:x<10^k:=q63 h;have h4:(10:Nat)^k<=16^k:=Nat.pow_le_pow_left (by omega) _;have h5:(16:Nat)^k=2^j:=by rw[show (16:Nat)=2^4 from rfl,<-Nat.pow_mul,hj]
 rw[h5] at h4;exact qJW h3 h4
theorem qxP{a b:Nat}(ha:(tN a).length<=400000)(hb:(tN b).length<=400000):eM a b<9223372036854775808:=by
 unfold eM;have h1:=qot a b;by_cases h0:a*b=0
 ·rw[h0];simp;split<;>(try split)<;>omega
 ·obtain⟨j,hj⟩:∃j,j=3200000:=⟨_,rfl⟩;have h2:a*b<2^j:=qAb (k:=800000) (by omega) (by omega);have:=(Nat.log2_lt h0).2 h2;split<;>(try split)<;>omega
theorem qq5(m n:Int)(hm:nl m<=400000)(hn:nl n<=400000):(q3Y [.s (tI m),.s (tI n)]).run=some (0,[.s (tN (Nat.gcd m.natAbs n.natAbs))]):=by
 rw[qp6];have hm':(tN m.natAbs).length<=400000:=hm;have hn':(tN n.natAbs).length<=400000:=hn;have hS:=fun x (h:(tN x).length<=400000)=>q03 x false (by omega);simp only[qJA,if_false,q0Z] at hS;obtain⟨j,qs,h1,h2,rfl⟩:=yI (S:=q1J) (fun k ps=>∃x y:Nat,ps=[.s (tN x),.s (tN y)]/\eM x y=k/\Nat.gcd x y=Nat.gcd m.natAbs n.natAbs/\(tN x).length<=400000/\(tN y).length<=400000)
  (fun j qs=>(j=0\/j=1)/\qs=[.s (tN (Nat.gcd m.natAbs n.natAbs))]) (n:=eM m.natAbs n.natAbs) (qxP hm' hn') (fun k ps hk ⟨x,y,hps,hy,hg,lx,ly⟩=>by
  subst hps;rw[qm1];by_cases h0:y=0
  ·right;refine⟨0,[.s (tN x)],?_,.inl rfl,?_⟩
   ·simp only[STD,zV,q5g,h0]
   ·rw[<-hg,h0,Nat.gcd_zero_right]
  ·have hbr:=q5J (x:Int) (y:Int);rw[q0Z,q0Z] at hbr;simp only[Int.natAbs_natCast] at hbr;by_cases hb:(tN x).length<=18/\(tN y).length<=18
   ·right;rw[if_pos hb] at hbr;have b1:=qCI (m:=(x:Int)) hb.1;have b2:=qCI (m:=(y:Int)) hb.2;simp only[Int.natAbs_natCast] at b1 b2;have hE:=qDr x y (by omega);have hgl:Nat.gcd x y<=y:=Nat.gcd_le_right _ (by omega);have hO:=uS ((Nat.gcd x y:Nat):Int) (by omega) (by omega);rw[q0Z] at hO;refine⟨1,[.s (tN (Nat.gcd x y))],?_,.inr rfl,by rw[hg]⟩;simp only[STD,zV,q5g,h0,hbr,hE,hO]
   ·left;rw[if_neg hb] at hbr;have hP:=q4A (x:Int) (y:Int) (by omega) (by exact lx) (by exact ly);rw[q0Z,q0Z,(qI0 x (show 0<y by omega)).2,q0Z] at hP;refine⟨eM y (x%y),[.s (tN y),.s (tN (x%y))],by rw[<-hy];exact qBR h0,?_,y,x%y,rfl,rfl,?_,ly,qJg (kf (Nat.le_of_lt (qKC _ (by omega)))) ly⟩
    ·simp only[STD,zV,q5g,h0,hbr,hP]
    ·rw[<-hg,qKP y,<-Nat.gcd_rec,qKP]) (ps:=[.s (tN m.natAbs),.s (tN n.natAbs)]) ⟨_,_,rfl,rfl,rfl,hm',hn'⟩
 rcases h2 with rfl|rfl
 ·simp only[STD,wE,hS _ hm',hS _ hn',h1,zt h1,ite_self]
 ·simp only[STD,wE,hS _ hm',hS _ hn',h1,zt h1,ite_self]
def mag(s:qJb):List UInt8:=if s.getD 0 0=45 then s.drop 1 else s
theorem qub(m:Int):mag (tI m)=tN m.natAbs:=by
 unfold mag;by_cases h:m<0
 ·rw[qbh h];simp
 ·rw[qja h];obtain⟨c,t,e,h1,h2⟩:=qh9 (zX m.natAbs) (qoz _);rw[e];simp only[qLv];rw[if_neg];intro hc;subst hc;revert h1;decide
theorem qAR(s:qJb):(∃m:Int,s=tI m)↔mag s≠[]/\q6H (mag s)/\((mag s).getD 0 0=48->s.length=1):=by
 constructor
 ·rintro ⟨m,rfl⟩;rw[qub];refine⟨qoz _,zX _,fun h=>?_⟩;rcases qCb m.natAbs with h1|h1
  ·have h2:=qrQ m.natAbs;have hv:m.natAbs=0:=by obtain⟨c,e⟩:∃c,tN m.natAbs=[c]:=List.length_eq_one_iff.1 h1;rw[e] at h;simp at h;have:=q0G m.natAbs;rw[e,h] at this;simpa[val,dv] using this.symm
   have hm0:m=0:=by omega
   rw[hm0];rfl
  ·exact absurd h h1
 ·rintro ⟨h1,h2,h3⟩;by_cases h45:s.getD 0 0=45
  ·have hm:mag s=s.drop 1:=by unfold mag;rw[if_pos h45]
   obtain⟨c,t,rfl⟩:∃c t,s=c::t:=by
    cases s with
    | nil=>simp at h45
    | cons c t=>exact⟨c,t,rfl⟩
   simp at h45;subst h45;rw[hm] at h1 h2 h3;simp only[List.drop_succ_cons,List.drop_zero] at h1 h2 h3;have h4:t.getD 0 0≠48:=fun h=>by have:=h3 h;simp at this;exact h1 this
   have hv:=qxv h2 h1 h4;have hp:0<10^(t.length-1):=Nat.pow_pos (by omega);refine⟨-((val t:Nat):Int),?_⟩;rw[qbh (by omega)];simp only[Int.natAbs_neg,Int.natAbs_natCast];rw[<-qpw h2 h1 (.inr h4)]
  ·have hm:mag s=s:=by unfold mag;rw[if_neg h45]
   rw[hm] at h1 h2 h3;refine⟨((val s:Nat):Int),?_⟩;rw[q0Z];refine qpw h2 h1 ?_;by_cases h4:s.getD 0 0=48
   ·exact .inl (h3 h4)
   ·exact .inr h4
open Classical in
noncomputable def qxS(s:qJb):Int:=if ∃m:Int,s=tI m then (if (mag s).length<=1024 then 0 else 11) else 3
end Go.Eng

namespace Go.Eng
variable {q:Rat}
def tQ(q:Rat):List UInt8:=if q.den=1 then tI q.num else tI q.num++47::tN q.den
def dl(n:Nat):Nat:=(tN n).length
def qn(q:Rat):Nat:=nl q.num
def qd(q:Rat):Nat:=dl q.den
theorem qBU {s:qJb}(h:q6H s):∀c,c∈s->c≠47:=fun c hc e=>by have:=h c hc;rw[e] at this;revert this;decide
theorem qqi (m:Int):∀c,c∈tI m->c≠47:=by
 intro c hc;unfold tI at hc;split at hc
 ·rcases qJi.1 hc with rfl|hc
  ·decide
  ·exact qBU (zX _) c hc
 ·exact qBU (zX _) c hc
theorem qxr:∀{s s' t t':qJb},(∀c,c∈s->c≠47)->(∀c,c∈s'->c≠47)->s++47::t=s'++47::t'->s=s'/\t=t'
 | [],[],t,t',_,_,h=>⟨rfl,by simpa using h⟩
 | [],c::s',t,t',_,h2,h=>by
  simp only[qKm,qKc,qKK] at h;exact absurd h.1.symm (h2 c qJs)
 | c::s,[],t,t',h1,_,h=>by
  simp only[qKm,qKc,qKK] at h;exact absurd h.1 (h1 c qJs)
 | c::s,c'::s',t,t',h1,h2,h=>by
  simp only[qKc,qKK] at h;obtain⟨e1,e2⟩:=qxr (fun c hc=>h1 c (qJy _ hc)) (fun c hc=>h2 c (qJy _ hc)) h.2;exact⟨by rw[h.1,e1],e2⟩
theorem qac (h:q.den=1):tQ q=tI q.num:=by unfold tQ;rw[if_pos h]
theorem q62 (h:q.den≠1):tQ q=tI q.num++47::tN q.den:=by unfold tQ;rw[if_neg h]
theorem qGy {a b:Rat}(h:tQ a=tQ b):a=b:=by
 by_cases ha:a.den=1<;>by_cases hb:b.den=1
 ·rw[qac ha,qac hb] at h;exact Rat.ext (qxN h) (ha.trans hb.symm)
 ·rw[qac ha,q62 hb] at h;exact absurd rfl (qqi a.num 47 (by rw[h];simp))
 ·rw[q62 ha,qac hb] at h;exact absurd rfl (qqi b.num 47 (by rw[<-h];simp))
 ·rw[q62 ha,q62 hb] at h;obtain⟨e1,e2⟩:=qxr (qqi _) (qqi _) h;exact Rat.ext (qxN e1) (qqR e2)
theorem qzl (a b:Rat):(tQ a=tQ b)=(a=b):=propext ⟨qGy,fun h=>by rw[h]⟩
theorem qvW (m:Int):tQ (m:Rat)=tI m:=qac (by simp)
theorem qD2 (n:Nat):tQ (OfNat.ofNat n:Rat)=tN n:=by rw[qac (by simp)];simp only[Rat.num_ofNat];exact q0Z n
theorem qj2 {m n:Int}(h:m.natAbs<=n.natAbs):nl m<=nl n:=kf h
theorem qB8 {m n:Nat}(h:m<=n):dl m<=dl n:=kf h
theorem qBO (n:Nat):nl (n:Int)=dl n:=rfl
theorem qzG (m n:Nat):dl (m*n)<=dl m+dl n:=qot m n
theorem qBt (m n:Int):nl (m-n)<=max (nl m) (nl n)+1:=by
 rw[Int.sub_eq_add_neg];have:=quj m (-n)
 rwa [qoj] at this
theorem qh8 (N:Int)(D:Nat):nl (mkRat N D).num<=nl N/\dl (mkRat N D).den<=dl D:=by
 rw[Rat.num_mkRat,Rat.den_mkRat];by_cases h:D=0
 ·rw[if_pos h,if_pos h,h];exact⟨qj2 (by simp),by decide⟩
 ·rw[if_neg h,if_neg h];exact⟨qj2 (qLb _ _),qB8 (qL2 _ _)⟩
theorem qEI (a b:Rat):qn (a*b)<=qn a+qn b:=by unfold qn;rw[Rat.mul_def'];exact qJg (qh8 _ _).1 (q4t _ _)
theorem qEw (a b:Rat):qd (a*b)<=qd a+qd b:=by unfold qd;rw[Rat.mul_def'];exact qJg (qh8 _ _).2 (qzG _ _)
theorem qHh (a b:Rat):qn (a+b)<=max (qn a+qd b) (qn b+qd a)+1:=by unfold qn qd;rw[Rat.add_def'];have h1:=(qh8 (a.num*b.den+b.num*a.den) (a.den*b.den)).1;have h2:=quj (a.num*b.den) (b.num*a.den);have h3:=q4t a.num b.den;have h4:=q4t b.num a.den;rw[qBO] at h3 h4;omega
theorem qGG (a b:Rat):qd (a+b)<=qd a+qd b:=by unfold qd;rw[Rat.add_def'];exact qJg (qh8 _ _).2 (qzG _ _)
theorem qHU (a b:Rat):qn (a-b)<=max (qn a+qd b) (qn b+qd a)+1:=by unfold qn qd;rw[Rat.sub_def'];have h1:=(qh8 (a.num*b.den-b.num*a.den) (a.den*b.den)).1;have h2:=qBt (a.num*b.den) (b.num*a.den);have h3:=q4t a.num b.den;have h4:=q4t b.num a.den;rw[qBO] at h3 h4;omega
theorem qHT (a b:Rat):qd (a-b)<=qd a+qd b:=by unfold qd;rw[Rat.sub_def'];exact qJg (qh8 _ _).2 (qzG _ _)
theorem qHr (a:Rat):qn (-a)=qn a:=by unfold qn;rw[Rat.neg_num,qoj]
theorem qkQ (a:Rat):0<qn a:=qnM _
theorem qqQ (a:Rat):0<qd a:=qim _
theorem qH5 {a:Rat}(h:a≠0):qn a⁻¹<=qd a:=by unfold qn qd;rw[Rat.num_inv,<-qBO];apply qj2;rw[qKo,qLy (by rwa [Ne,Rat.num_eq_zero])];simp
theorem qH1 {a:Rat}(h:a≠0):qd a⁻¹<=qn a:=by unfold qn qd;rw[Rat.den_inv,if_neg (by rwa [Rat.num_eq_zero])];exact qJe _
theorem qHD (a:Rat){b:Rat}(h:b≠0):qn (a/b)<=qn a+qd b:=by rw[Rat.div_def];exact qJg (qEI _ _) (Nat.add_le_add_left (qH5 h) _)
theorem qGO (a:Rat){b:Rat}(h:b≠0):qd (a/b)<=qd a+qn b:=by rw[Rat.div_def];exact qJg (qEw _ _) (Nat.add_le_add_left (qH1 h) _)
def sgq(q:Rat):Int:=sgn q.num
theorem qeJ {m k:Int}(hk:0<k):sgn (m*k)=sgn m:=by
 unfold sgn;rcases qKQ m 0 with h|h|h
 ·have:=qLz h hk;rw[if_pos h,if_pos this]
 ·subst h;simp
 ·have:=Int.mul_pos h hk;rw[if_neg (by omega),if_neg (by omega),if_neg (by omega),if_neg (by omega)]
theorem qFz (m:Int):sgn (-m)=-sgn m:=by
 unfold sgn;rcases qKQ m 0 with h|h|h
 ·rw[if_pos h,if_neg (by omega),if_neg (by omega)];rfl
 ·subst h;rfl
 ·rw[if_pos (by omega),if_neg (by omega),if_neg (by omega)]
theorem qvB (h:0<q):sgq q=1:=by
 unfold sgq sgn;have h1:0<=q.num:=Rat.num_nonneg.2 (Rat.le_of_lt h);have h2:q.num≠0:=fun e=>by rw[Rat.num_eq_zero] at e;rw[e] at h;exact Rat.lt_irrefl h
 rw[if_neg (by omega),if_neg h2]
theorem qzJ (q:Rat):sgq (-q)=-sgq q:=by unfold sgq;rw[Rat.neg_num,qFz]
theorem qEe (h:q<0):sgq q=-1:=by
 have h1:0 < -q:=by grind
 have:=qvB h1;rw[qzJ] at this;omega
theorem qdj (q:Rat):(q<0/\sgq q=-1)\/(q=0/\sgq q=0)\/(0<q/\sgq q=1):=by
 by_cases h1:q<0
 ·exact .inl ⟨h1,qEe h1⟩
 ·by_cases h2:q=0
  ·exact .inr (.inl ⟨h2,by rw[h2];rfl⟩)
  ·exact .inr (.inr ⟨by grind,qvB (by grind)⟩)
theorem qlf (q:Rat):(sgq q<=0)=(q<=0):=by rcases qdj q with⟨h,e⟩|⟨h,e⟩|⟨h,e⟩<;>rw[e]<;>simp<;>grind
end Go.Eng

namespace Go.Eng
def sP(s:qJb):Nat:=s.findIdx (·==47)
def spn(s:qJb):List UInt8:=s.take (sP s)
def spd(s:qJb):List UInt8:=if sP s<s.length then s.drop (sP s+1) else [49]
theorem qG7(s:qJb):sP s<=s.length:=List.findIdx_le_length
theorem qH7{s:qJb}{i:Nat}(h:i<s.length)(h1:s[i]=47)(h2:∀j (hj:j<i),s[j]≠47):sP s=i:=by unfold sP;rw[List.findIdx_eq h];exact⟨by simp[h1],fun j hj=>by simp[h2 j hj]⟩
theorem qvt{s:qJb}(h:∀c,c∈s->c≠47):sP s=s.length:=by unfold sP;rw[List.findIdx_eq_length];intro x hx;simpa using h x hx
theorem qBl{s t:qJb}(h:∀c,c∈s->c≠47):sP (s++47::t)=s.length:=by
 apply qH7 (by simp)
 ·simp
 ·intro j hj;rw[List.getElem_append_left hj];exact h _ (qJT hj)
theorem qEJ(q:Rat):spn (tQ q)=tI q.num:=by
 unfold spn;by_cases h:q.den=1
 ·rw[qac h,qvt (qqi _),qKw]
 ·rw[q62 h,qBl (qqi _)];simp
theorem qEg(q:Rat):spd (tQ q)=tN q.den:=by
 unfold spd;by_cases h:q.den=1
 ·rw[qac h,qvt (qqi _),if_neg (Nat.lt_irrefl _),h];rfl
 ·rw[q62 h,qBl (qqi _),if_pos (by simp)];simp
theorem qGJ(q:Rat):(tQ q).length<=qn q+qd q+2:=by
 have h1:=qtH q.num;unfold qn qd nl dl;by_cases h:q.den=1
 ·rw[qac h];omega
 ·rw[q62 h];simp;omega
theorem q9I(n:Nat):(tN n=[49])=(n=1):=by have:tN 1=[49]:=rfl;rw[<-this];exact propext ⟨fun h=>qqR h,fun h=>by rw[h]⟩
theorem qEb(m n:Int)(hn:n≠0)(hm':nl m<=400000)(hn':nl n<=400000):(q4p [.s (tI m),.s (tI n)]).run=some (0,[.s (tQ (Rat.divInt m n))]):=by
 rw[qoD];have hS:=qq5 m n hm' hn';have hg0:0<Nat.gcd m.natAbs n.natAbs:=Nat.gcd_pos_of_pos_right _ (by omega);have hgn:Nat.gcd m.natAbs n.natAbs<=n.natAbs:=Nat.gcd_le_right _ (by omega);have hgl:(tN (Nat.gcd m.natAbs n.natAbs)).length<=400000:=qJg (kf hgn) hn';have hnum:=Rat.num_divInt m n;have hden:=Rat.den_divInt m n;rw[if_neg hn] at hden;have hgc:Int.gcd n m=Nat.gcd m.natAbs n.natAbs:=by unfold Int.gcd;exact qKP _ _
 rw[hgc] at hnum hden;obtain⟨k,hk⟩:((Nat.gcd m.natAbs n.natAbs:Nat):Int) ∣ m:=Int.ofNat_dvd_left.2 (Nat.gcd_dvd_left _ _);obtain⟨l,hl⟩:((Nat.gcd m.natAbs n.natAbs:Nat):Int) ∣ n:=Int.ofNat_dvd_left.2 (Nat.gcd_dvd_right _ _);generalize Nat.gcd m.natAbs n.natAbs=g at *;generalize Rat.divInt m n=q at *;have hB:=jB n;have hm2:k*(g:Int)=m:=by rw[qKk];exact hk.symm
 have hn2:l*(g:Int)=n:=by rw[qKk];exact hl.symm
 have hql:nl q.num<=400000:=by refine qJg (qj2 ?_) hm';rw[hnum];refine qJg (qLb _ _) ?_;rw[qKo,qLy hn];omega
 have hdl:(tN q.den).length<=400000:=by refine qJg (kf ?_) hn';rw[hden];exact qL2 _ _
 have hil:=qtH q.num;have hil2:(tN q.num.natAbs).length<=400000:=hql;have fin:(Tree.br (seq (tI (q.den:Int)) [49]) (Tree.leaf (0,[PV.s (tI q.num)])) (Tree.br (ile (qB (tI q.num)+qB [47]) 140737488355328) (Tree.br (ile (qB (qdK (tI q.num) [47])+qB (tI (q.den:Int))) 140737488355328)
   (Tree.leaf (0,[PV.s (qdK (qdK (tI q.num) [47]) (tI (q.den:Int)))])) Tree.fail) Tree.fail)).run=some (0,[PV.s (tQ q)]):=by
  rw[q0Z];have a1:qB (tI q.num)+qB [47]<=140737488355328:=by unfold qB;simp;omega
  have a2:qB (qdK (tI q.num) [47])+qB (tN q.den)<=140737488355328:=by unfold qB qdK;simp;omega
  by_cases h1:q.den=1
  ·simp only[STD,zV,q9I,h1,qac h1]
  ·simp only[STD,zV,q9I,h1,q62 h1,a1,a2];simp[qdK]
 by_cases hneg:n<0
 ·have hT:=qbS (g:Int) (by simp only[Int.natAbs_natCast];omega);rw[q0Z] at hT;have e1:fq m (-(g:Int))=q.num:=by have:fq ((-k)*(-(g:Int))) (-(g:Int))=-k:=qnk (by omega);rw[show (-k)*(-(g:Int))=m by rw[qLm];exact hm2] at this;rw[this,hnum,Int.sign_eq_neg_one_of_neg hneg,<-hm2];rw[show (-1:Int)*(k*(g:Int))=(-k)*(g:Int) by rw[Int.neg_mul,qJP,Int.neg_mul]];exact(qL3 _ (by omega)).symm
  have e2:fq n (-(g:Int))=(q.den:Int):=by
   have:fq ((-l)*(-(g:Int))) (-(g:Int))=-l:=qnk (by omega);rw[show (-l)*(-(g:Int))=n by rw[qLm];exact hn2] at this;rw[this,hden];have h3:(n.natAbs:Int)=(-l)*(g:Int):=by rw[Int.neg_mul];omega
   rw[Int.natCast_ediv,h3,qL3 _ (by omega)]
  have P1:=q4A m (-(g:Int)) (by omega) hm' (by rw[qoj];exact hgl);have P2:=q4A n (-(g:Int)) (by omega) hn' (by rw[qoj];exact hgl);rw[e1] at P1;rw[e2] at P2;simp only[STD,hS,hB,hneg,hT,P1,P2] at fin ⊢;exact fin
 ·have e1:fq m (g:Int)=q.num:=by have:fq (k*(g:Int)) (g:Int)=k:=qnk (by omega);rw[hm2] at this;rw[this,hnum,Int.sign_eq_one_of_pos (by omega),qJP,<-hm2];exact(qL3 _ (by omega)).symm
  have e2:fq n (g:Int)=(q.den:Int):=by
   have:fq (l*(g:Int)) (g:Int)=l:=qnk (by omega);rw[hn2] at this;rw[this,hden];have h3:(n.natAbs:Int)=l*(g:Int):=by omega
   rw[Int.natCast_ediv,h3,qL3 _ (by omega)]
  have P1:=q4A m (g:Int) (by omega) hm' hgl;have P2:=q4A n (g:Int) (by omega) hn' hgl;rw[e1,q0Z] at P1;rw[e2,q0Z] at P2;simp only[STD,hS,hB,hneg,P1,P2] at fin ⊢;rw[q0Z] at fin;exact fin
def sm(K:Nat)(q:Rat):Prop:=qn q<=K/\qd q<=K
theorem qDw(a:Rat):(0:Int)<(a.den:Int):=by have:=a.den_nz;omega
def qhL(a b c:Rat):Int:=if 0<=sgq a*(sgq b*sgq c) then (if sgq a=0 then sgq b*sgq c else sgq a) else sgq a*sgq (a*a-b*b*c)
theorem qBv(q:Rat):-1<=sgq q/\sgq q<=1:=by rcases qdj q with⟨_,e⟩|⟨_,e⟩|⟨_,e⟩<;>rw[e]<;>decide
theorem qIl{x y:Int}(hx:-1<=x/\x<=1)(hy:-1<=y/\y<=1):-1<=x*y/\x*y<=1:=by have:=qGD (A:=1) (B:=1) hx.1 hx.2 hy.1 hy.2;omega
theorem qle{x y:Int}(hx:-1<=x/\x<=1)(hy:-1<=y/\y<=1):vn .i64 x y=x*y:=q52 (by have:=qIl hx hy;omega)
variable {n:Nat}
def mv:List Int->Int
 | []=>0
 | x::l=>x+1000000000*mv l
def pB(n:Nat):Int:=1000000000^n
theorem q6E:pB 0=1:=rfl
theorem q9R (n:Nat):pB (n+1)=pB n*1000000000:=Int.pow_succ _ _
theorem qbk:∀n,0<pB n
 | 0=>by decide
 | n+1=>by rw[q9R];have:=qbk n;omega
theorem qHt (m n:Nat):pB (m+n)=pB m*pB n:=Int.pow_add _ _ _
theorem qc1 {m n:Nat}(h:m<=n):pB m<=pB n:=by
 obtain⟨k,rfl⟩:∃k,n=m+k:=⟨n-m,by omega⟩;induction k with
 | zero=>simp
 | succ k ih=>
  have h1:=ih (by omega);rw[show m+(k+1)=(m+k)+1 by omega,q9R];have:=qbk (m+k);omega
def dgs(l:List Int):Prop:=∀x,x∈l->0<=x/\x<1000000000
theorem qxO:∀(l:List Int) (j:Nat) (h:j<l.length) (y:Int),mv (l.set j y)=mv l+(y-l[j])*pB j
 | [],j,h,_=>by simp at h
 | x::l,0,_,y=>by simp only[qJu,mv,List.getElem_cons_zero,q6E];omega
 | x::l,j+1,h,y=>by
  have ih:=qxO l j (by simpa using h) y;simp only[qJw,mv,List.getElem_cons_succ,q9R];rw[ih];grind
theorem qyS:∀(l:List Int) (n:Nat),dgs l->(∀i,n<=i->l.getD i 0=0)->0<=mv l/\mv l<pB n
 | [],n,_,_=>⟨qJE _,qbk n⟩
 | x::l,0,hd,hz=>by
  have ih:=qyS l 0 (fun y hy=>hd y (qJy _ hy)) (fun i _=>by have:=hz (i+1) (by omega);simpa using this);have hx:x=0:=by simpa using hz 0 (by omega)
  rw[q6E] at ih ⊢;simp only[mv];omega
 | x::l,n+1,hd,hz=>by
  have ih:=qyS l n (fun y hy=>hd y (qJy _ hy)) (fun i hi=>by have:=hz (i+1) (by omega);simpa using this);have hx:=hd x qJs;rw[q9R];simp only[mv];generalize pB n=p at *;omega
theorem qHj:∀(l:List Int) (j:Nat) (h:j<l.length),dgs l->l[j]≠0->pB j<=mv l
 | [],j,h,_,_=>by simp at h
 | x::l,0,_,hd,hx=>by
  have h1:=hd x qJs;have h2:=(qyS l l.length (fun y hy=>hd y (qJy _ hy)) (fun i hi=>by simp[hi])).1;simp only[List.getElem_cons_zero] at hx;simp only[mv,q6E];omega
 | x::l,j+1,h,hd,hx=>by
  have ih:=qHj l j (by simpa using h) (fun y hy=>hd y (qJy _ hy)) (by simpa using hx);have h1:=hd x qJs;rw[q9R];simp only[mv];omega
theorem qxw:∀(s t:List Int),mv (s++t)=mv s+pB s.length*mv t
 | [],t=>by simp[mv,q6E]
 | x::s,t=>by
  simp only[qKc,mv,qJM,q9R];rw[qxw s t];grind
theorem qe8 (n:Nat):mv (List.replicate n 0)=0:=by
 induction n with
 | zero=>rfl
 | succ n ih=>simp[qKG,mv,ih]
theorem qc6 {l:List Int}{i:Nat}(h:i<l.length):mv (l.drop i)=l[i]+1000000000*mv (l.drop (i+1)):=by rw[List.drop_eq_getElem_cons h];rfl
theorem vD {l:List Int}{n i:Nat}(hd:dgs l)(hz:∀i,n<=i->l.getD i 0=0)(hi:n<=i):mv (l.drop i)=0:=by have:=qyS (l.drop i) 0 (fun x hx=>hd x (qLp hx)) (fun j _=>by have:=hz (i+j) (by omega);simpa[qJd] using this);rw[q6E] at this;omega
structure WOK (n:Nat) (l:List Int):Prop where
 len:l.length=232
 le:n<=232
 dig:dgs l
 z:∀i,n<=i->l.getD i 0=0
def nrm(n:Nat)(l:List Int):Prop:=n=0\/l.getD (n-1) 0≠0
theorem WOK.bd {l:List Int}(h:WOK n l):0<=mv l/\mv l<pB n:=qyS l n h.dig h.z
theorem WOK.lo {l:List Int}(h:WOK n l)(hn:nrm n l)(h0:n≠0):pB (n-1)<=mv l:=by
 have h1:=h.le;have h2:=h.len;rcases hn with hn|hn
 ·exact absurd hn h0
 ·refine qHj l (n-1) (by omega) h.dig ?_
  rwa [jE (by omega)] at hn
theorem qto (N i:Nat):(List.replicate N (0:Int)).getD i 0=0:=by rw[qJd,List.getElem?_replicate];split<;>rfl
theorem qCu (N:Nat):dgs (List.replicate N 0):=fun x hx=>by have:=(qLr.1 hx).2;omega
theorem WOK.zero:WOK 0 (List.replicate 232 0):=⟨List.length_replicate,by omega,qCu 232,fun i _=>qto 232 i⟩
theorem WOK.get {l:List Int}(h:WOK n l)(i:Nat):0<=l.getD i 0/\l.getD i 0<1000000000:=by
 rcases qJl i l.length with hi|hi
 ·rw[jE hi];exact h.dig _ (qJT hi)
 ·simp[hi]
theorem WOK.setW {l:List Int}(h:WOK n l){j:Nat}{y:Int}(hj:j<232)(hy:0<=y/\y<1000000000):WOK (max n (j+1)) (l.set j y):=by
 have h1:=h.le;refine⟨by simp[h.len],by omega,fun x hx=>?_,fun i hi=>?_⟩
 ·rcases qLw hx with hx|rfl
  ·exact h.dig x hx
  ·exact hy
 ·have:=h.z i (by omega);rw[qJd,qJf (by omega),<-qJd];exact this
theorem q5B (l:List Int)(i:Nat):cI (rI l) (i:Int) 0=l.getD i 0:=by rw[qAn,qJq]
theorem qix (l:List Int)(i:Nat)(v:Int):qfD (rI l) (i:Int) 0 [.i v]=rI (l.set i v):=by rw[quv,qJq]
theorem qk1 {l:List Int}(h:WOK n l)(b:Bool):∃m,(qU [.b b,.i (n:Int),.r (rI l)]).run=some (0,[.b b,.i ((m:Nat):Int),.r (rI l)])/\WOK m l/\nrm m l:=by
 rw[qgE];have h232:=h.le;obtain⟨j,qs,h1,rfl,m,rfl,h3,h4⟩:=yI (S:=jk) (fun k ps=>ps=[.b b,.i (k:Int),.r (rI l)]/\WOK k l)
  (fun j qs=>j=0/\∃m:Nat,qs=[.b b,.i (m:Int),.r (rI l)]/\WOK m l/\nrm m l) (n:=n) (by omega) (fun k ps hk ⟨hps,hw⟩=>by
  subst hps;rw[qey];have hk2:=hw.le;by_cases h0:k=0
  ·right;refine⟨0,_,?_,rfl,k,rfl,hw,.inl h0⟩;simp only[STD,h0];rfl
  ·have hs:yM .i64 (k:Int) 1=((k-1:Nat):Int):=by rw[jj (by omega)];omega
   have a1:(0:Int)<(k:Int):=by omega
   have a2:(0:Int)<=((k-1:Nat):Int)/\((k-1:Nat):Int)<232:=by omega
   by_cases hz:l.getD (k-1) 0=0
   ·left;refine⟨k-1,[.b b,.i ((k-1:Nat):Int),.r (rI l)],by omega,?_,rfl,hw.len,by omega,hw.dig,fun i hi=>?_⟩
    ·simp only[STD,a1,hs,a2,q5B,hz,and_self]
    ·rcases qKR hi with e|e
     ·rw[<-e];exact hz
     ·exact hw.z i (by omega)
   ·right;refine⟨0,[.b b,.i (k:Int),.r (rI l)],?_,rfl,k,rfl,hw,.inr hz⟩;simp only[STD,a1,hs,a2,q5B,hz,and_self]) (ps:=[.b b,.i (n:Int),.r (rI l)]) ⟨rfl,h⟩
 exact⟨m,by simp only[STD,h1],h3,h4⟩
theorem qH3 (s:Int):∃q r:Int,s.tdiv 1000000000=q/\s=q*1000000000+r/\(0<=s->0<=r)/\(s<=0->r<=0)/\-1000000000<r/\r<1000000000:=by obtain⟨h1,h2,h3,h4⟩:=qlX s (show (1000000000:Int)≠0 by decide);refine⟨_,qa8 s 1000000000,rfl,by omega,h3,h4,by omega,by omega⟩
theorem qy7 {f up rest:Int}{i n j:Nat}{l ly:List Int}{bx b2:Bool}{ny:Nat}{S:Int}(hj:((j:Nat):Int)=qz .i64 (i:Int) up)(hj2:j<232)(hw:WOK n l)(hin:i<233)(hS:S=if i<ny then l.getD j 0+rest+f*ly.getD i 0 else l.getD j 0+rest) (hr:-1000000000<=rest/\rest<=1000000000) (hfy:-999999999999999999<=f*ly.getD i 0/\f*ly.getD i 0<=999999999999999999) (hny:ny<=232)(hgo:i<ny\/rest≠0) :∃q s:Int,S=q*1000000000+s/\0<=s/\s<1000000000 /\(jg [.i f,.i up,.i rest,.i (i:Int),.b bx,.i (n:Int),.r (rI l),.b b2,.i (ny:Int),.r (rI ly)]).run=some (0,[.i f,.i up,.i q,.i ((i+1:Nat):Int),.b bx,.i ((max n (j+1):Nat):Int),.r (rI (l.set j s)),.b b2,.i (ny:Int),.r (rI ly)]):=by
 have hg:=hw.get j;obtain⟨q,r,e1,e2,e3,e4,e5,e6⟩:=qH3 S;have hSb:-1000000000999999999<=S/\S<=1000000001999999998:=by rw[hS];split<;>omega
 have w1:qbR .i64 S 1000000000=q:=by unfold qbR;rw[e1];unfold IntKind.wrap;simp[IntKind.signed,IntKind.bits];omega
 have w2:vn .i64 q 1000000000=q*1000000000:=q52 (by omega);have w3:yM .i64 S (q*1000000000)=r:=by rw[jj (by omega)];omega
 have w4:qz .i64 (l.getD j 0) rest=l.getD j 0+rest:=zj (by omega);have w5:qz .i64 (i:Int) 1=((i+1:Nat):Int):=by rw[zj (by omega)];omega
 have w6:qz .i64 (j:Int) 1=((j+1:Nat):Int):=by rw[zj (by omega)];omega
 have w7:qqF (n:Int) ((j+1:Nat):Int)=((max n (j+1):Nat):Int):=qrD _ _;have a1:(0:Int)<=(j:Int)/\(j:Int)<232:=by omega
 have hw8:r<0->qz .i64 r 1000000000=r+1000000000:=fun _=>zj (by omega);have hw9:r<0->yM .i64 q 1=q-1:=fun _=>jj (by omega);rw[q7X];by_cases hi:i<ny
 ·rw[if_pos hi] at hS;have a2:(i:Int)<(ny:Int):=by omega
  have a3:(0:Int)<=(i:Int)/\(i:Int)<232:=by omega
  have w10:vn .i64 f (ly.getD i 0)=f*ly.getD i 0:=q52 (by omega);have w11:qz .i64 (l.getD j 0+rest) (f*ly.getD i 0)=S:=by rw[zj (by omega),hS]
  by_cases hneg:r<0
  ·refine⟨q-1,r+1000000000,by omega,by omega,by omega,?_⟩;simp only[STD,a2,<-hj,a1,a3,q5B,w4,w10,w11,w1,w2,w3,hneg,hw8 hneg,hw9 hneg,w5,w6,w7,qix,and_self]
  ·refine⟨q,r,by omega,by omega,by omega,?_⟩;simp only[STD,a2,<-hj,a1,a3,q5B,w4,w10,w11,w1,w2,w3,hneg,w5,w6,w7,qix,and_self]
 ·rw[if_neg hi] at hS;have hr0:rest≠0:=hgo.resolve_left hi;have a2:¬(i:Int)<(ny:Int):=by omega
  rw[<-hS] at w4;by_cases hneg:r<0
  ·refine⟨q-1,r+1000000000,by omega,by omega,by omega,?_⟩;simp only[STD,a2,hr0,<-hj,a1,q5B,w4,w1,w2,w3,hneg,hw8 hneg,hw9 hneg,w5,w6,w7,qix,and_self]
  ·refine⟨q,r,by omega,by omega,by omega,?_⟩;simp only[STD,a2,hr0,<-hj,a1,q5B,w4,w1,w2,w3,hneg,w5,w6,w7,qix,and_self]
theorem qpA {f:Int}{up nx ny:Nat}{lx ly:List Int}(hx:WOK nx lx)(hy:WOK ny ly)(hf:-999999999<=f/\f<=999999999)(hup:ny+up<=232){T:Int}(hT:T=mv lx+f*mv ly*pB up)(h0:0<=T)(h1:T<pB 232)(bx b2:Bool) :∃(n:Nat) (l:List Int),(qZ [.i f,.i (up:Int),.b bx,.i (nx:Int),.r (rI lx),.b b2,.i (ny:Int),.r (rI ly)]).run=some (0,[.b bx,.i (n:Int),.r (rI l),.b b2,.i (ny:Int),.r (rI ly)])/\WOK n l/\nrm n l/\mv l=T:=by
 rw[qj8];have hny:=hy.le;obtain⟨j,qs,g1,rfl,n,l,rfl,g3,g4⟩:=yI (S:=jg) (fun k ps=>∃(i n:Nat) (rest:Int) (l:List Int),ps=[.i f,.i (up:Int),.i rest,.i (i:Int),.b bx,.i (n:Int),.r (rI l),.b b2,.i (ny:Int),.r (rI ly)] /\
   i+k=300/\i<=232/\WOK n l/\-1000000000<=rest/\rest<=1000000000/\mv l+rest*pB (i+up)+f*mv (ly.drop i)*pB (i+up)=T)
  (fun j qs=>j=0/\∃(n:Nat) (l:List Int),qs=[.b bx,.i (n:Int),.r (rI l),.b b2,.i (ny:Int),.r (rI ly)]/\WOK n l/\mv l=T) (n:=300) (by omega) (fun k ps hk ⟨i,n,rest,l,hps,hik,hi,hw,hr1,hr2,hv⟩=>by
  subst hps;have hg:=hy.get i;have hfy:=qGD (A:=999999999) (B:=999999999) hf.1 hf.2 (show -(999999999:Int)<=ly.getD i 0 by omega) (show ly.getD i 0<=999999999 by omega);have hbd:=hw.bd;have hn232:=hw.le;by_cases hgo:i<ny\/rest≠0
  ·left;have hj:i+up<232:=by
    rcases qJl i ny with h|h
    ·omega
    ·rcases qJl (i+up) 232 with h2|h2
     ·exact h2
     ·exfalso;have hr0:=hgo.resolve_left (by omega);rw[vD hy.dig hy.z h] at hv;have hP:=qc1 h2;have hlt:=qc1 hn232;simp only[qKp,Int.zero_mul,Int.add_zero] at hv;generalize pB (i+up)=P at *;rcases Int.lt_or_lt_of_ne hr0 with h3|h3
      ·have:rest*P<=-1*P:=qLc (by omega) (by have:=qbk 232;omega);omega
      ·have:1*P<=rest*P:=qLc (by omega) (by have:=qbk 232;omega);omega
   have hjw:(((i+up:Nat)):Int)=qz .i64 (i:Int) (up:Int):=by rw[zj (by omega)];omega
   obtain⟨q,s,s1,s2,s3,s4⟩:=qy7 (bx:=bx) (b2:=b2) (f:=f) (ly:=ly) hjw hj hw (by omega) rfl ⟨hr1,hr2⟩ (by omega) hny hgo;refine⟨k-1,_,by omega,s4,i+1,_,q,_,rfl,by omega,by omega,hw.setW hj ⟨s2,s3⟩,?_,?_,?_⟩
   ·have hgl:=hw.get (i+up);split at s1<;>omega
   ·have hgl:=hw.get (i+up);split at s1<;>omega
   ·have hjl:i+up<l.length:=by rw[hw.len];exact hj
    rw[qxO l (i+up) hjl,<-hv,show i+1+up=(i+up)+1 by omega,q9R];rw[jE hjl] at s1;have hil:i<ly.length:=by rw[hy.len];omega
    rw[qc6 hil];rw[jE hil] at s1;generalize pB (i+up)=P at *;generalize l[i+up]=d at *;by_cases hiny:i<ny
    ·rw[if_pos hiny] at s1;generalize ly[i]=y at *;generalize mv (ly.drop (i+1))=m at *;grind
    ·rw[if_neg hiny] at s1;have z1:ly[i]=0:=by rw[<-jE hil];exact hy.z i (by omega)
     rw[z1,vD hy.dig hy.z (show ny<=i+1 by omega)];grind
  ·right;have c1:¬i<ny:=fun h=>hgo (.inl h);have c2:rest=0:=Decidable.byContradiction fun h=>hgo (.inr h);refine⟨0,[.b bx,.i (n:Int),.r (rI l),.b b2,.i (ny:Int),.r (rI ly)],?_,rfl,n,l,rfl,hw,?_⟩
   ·rw[q7X];have a2:¬(i:Int)<(ny:Int):=by omega
    simp only[STD,a2,c2]
   ·rw[vD hy.dig hy.z (by omega),c2] at hv;simp only[qKp,Int.zero_mul,Int.add_zero] at hv;exact hv) (ps:=[.i f,.i (up:Int),.i 0,.i 0,.b bx,.i (nx:Int),.r (rI lx),.b b2,.i (ny:Int),.r (rI ly)])
  ⟨0,nx,0,lx,rfl,by omega,by omega,hx,by omega,by omega,by simp[hT]⟩
 obtain⟨m,t1,t2,t3⟩:=qk1 g3 bx;exact⟨m,l,by simp only[STD,g1,t1],t2,t3,g4⟩
end Go.Eng

namespace Go.Eng
theorem qbN(l:List Int)(j:Nat)(h:j<=l.length):mv l=mv (l.take j)+pB j*mv (l.drop j):=by have:=qxw (l.take j) (l.drop j);rw[qLh,qK8,qKs h] at this;exact this
theorem qCL{l:List Int}(h:dgs l)(j:Nat):dgs (l.take j):=fun x hx=>h x (qLo hx)
theorem q9K{l:List Int}(h:dgs l)(j:Nat):0<=mv (l.take j)/\mv (l.take j)<pB j:=
 qyS (l.take j) j (qCL h j) fun i hi=>by rw[qJd,qJC (by simp;omega)];rfl
theorem qmH{l:List Int}{i:Nat}(h:i<l.length):mv (l.take (i+1))=mv (l.take i)+l[i]*pB i:=by rw[List.take_succ_eq_append_getElem h,qxw,qK8,qKs (by omega)];simp only[mv];grind
theorem WOK.mono{n m:Nat}{l:List Int}(h:WOK n l)(hm:n<=m)(h2:m<=232):WOK m l:=⟨h.len,h2,h.dig,fun i hi=>h.z i (by omega)⟩
theorem qjv{n:Nat}{l:List Int}(h:WOK n l)(hn:nrm n l):(n=0)=(mv l=0):=by
 apply propext;constructor
 ·intro h0;have:=h.bd;rw[h0,q6E] at this;omega
 ·intro h0;rcases qKj n with h1|h1
  ·exact h1
  ·have:=h.lo hn (by omega);have:=qbk (n-1);omega
theorem qIE{n m:Nat}{l k:List Int}(h:WOK n l)(hn:nrm n l)(h2:WOK m k)(hle:mv l<=mv k):n<=m:=by
 rcases qJl m n with h3|h3
 ·exfalso;have h4:=h.lo hn (by omega);have h5:=h2.bd.2;have h6:=qc1 (show m<=n-1 by omega);omega
 ·exact h3
theorem qxW{nx ny:Nat}{lx ly:List Int}(hx:WOK nx lx)(hnx:nrm nx lx)(hy:WOK ny ly)(hny:nrm ny ly)(bx b2:Bool) :∃r:Int,(vh [.b bx,.i (nx:Int),.r (rI lx),.b b2,.i (ny:Int),.r (rI ly)]).run=some (0,[.i r,.b bx,.i (nx:Int),.r (rI lx),.b b2,.i (ny:Int),.r (rI ly)])/\((0<=r)=(mv ly<=mv lx)):=by
 rw[qhJ];have h1:=hx.le;have h2:=hy.le;by_cases hne:nx=ny
 ·subst hne;have hs:yM .i64 (nx:Int) 1=(nx:Int)-1:=jj (by omega);obtain⟨j,qs,g1,g2⟩:=yI (S:=jO) (fun k ps=>ps=[.i ((k:Int)-1),.b bx,.i (nx:Int),.r (rI lx),.b b2,.i (nx:Int),.r (rI ly)]/\k<=nx/\mv (lx.drop k)=mv (ly.drop k))
   (fun j qs=>(j=0/\qs=[.b bx,.i (nx:Int),.r (rI lx),.b b2,.i (nx:Int),.r (rI ly)]/\mv lx=mv ly)\/(j=1/\∃r:Int,qs=[.i r,.b bx,.i (nx:Int),.r (rI lx),.b b2,.i (nx:Int),.r (rI ly)]/\((0<=r)=(mv ly<=mv lx)))) (n:=nx) (by omega) (fun k ps hk ⟨hps,hkn,hd⟩=>by
   subst hps;rw[qfA];by_cases h0:k=0
   ·right;refine⟨0,_,?_,.inl ⟨rfl,rfl,?_⟩⟩
    ·have a:¬(0:Int)<=(k:Int)-1:=by omega
     simp only[STD,a]
    ·rw[h0] at hd;simpa using hd
   ·obtain⟨i,rfl⟩:∃i,k=i+1:=⟨k-1,by omega⟩;have e:(((i+1:Nat):Int)-1)=(i:Int):=by omega
    rw[e];have a1:(0:Int)<=(i:Int):=by omega
    have a2:(i:Int)<232:=by omega
    have gx:=hx.get i;have gy:=hy.get i;have hxl:i<lx.length:=by rw[hx.len];omega
    have hyl:i<ly.length:=by rw[hy.len];omega
    by_cases hc:lx.getD i 0=ly.getD i 0
    ·left;refine⟨i,[.i ((i:Int)-1),.b bx,.i (nx:Int),.r (rI lx),.b b2,.i (nx:Int),.r (rI ly)],by omega,?_,rfl,by omega,?_⟩
     ·have w:yM .i64 (i:Int) 1=(i:Int)-1:=jj (by omega);simp only[STD,a1,a2,and_self,q5B,hc,w]
     ·rw[qc6 hxl,qc6 hyl,hd];rw[jE hxl,jE hyl] at hc;rw[hc]
    ·right;have w:yM .i64 (lx.getD i 0) (ly.getD i 0)=lx.getD i 0-ly.getD i 0:=jj (by omega);refine⟨1,[.i (lx.getD i 0-ly.getD i 0),.b bx,.i (nx:Int),.r (rI lx),.b b2,.i (nx:Int),.r (rI ly)],?_,.inr ⟨rfl,_,rfl,?_⟩⟩
     ·simp only[STD,a1,a2,and_self,q5B,hc,w]
     ·have sx:=qbN lx i (by omega);have sy:=qbN ly i (by omega);rw[qc6 hxl] at sx;rw[qc6 hyl] at sy;have tx:=q9K hx.dig i;have ty:=q9K hy.dig i;rw[jE hxl,jE hyl] at hc ⊢;rw[hd] at sx;have hp:=qbk i;generalize pB i=P at *;generalize lx[i]=u at *;generalize ly[i]=v at *;generalize mv (ly.drop (i+1))=w at *;have e1:P*(u+1000000000*w)=P*u+P*(1000000000*w):=Int.mul_add _ _ _;have e2:P*(v+1000000000*w)=P*v+P*(1000000000*w):=Int.mul_add _ _ _;have e3:P*(u-v)=P*u-P*v:=Int.mul_sub _ _ _;apply propext;rcases Int.lt_or_lt_of_ne (show u-v≠0 by omega) with h|h
      ·have:P*(u-v)<=P*(-1):=qLA (by omega) (by omega);constructor
       ·intro;omega
       ·intro;omega
      ·have:P*1<=P*(u-v):=qLA (by omega) (by omega);constructor
       ·intro;omega
       ·intro;omega) (ps:=[.i ((nx:Int)-1),.b bx,.i (nx:Int),.r (rI lx),.b b2,.i (nx:Int),.r (rI ly)])
   ⟨rfl,qJe _,by rw[vD hx.dig hx.z (qJe _),vD hy.dig hy.z (qJe _)]⟩
  rcases g2 with⟨rfl,rfl,g2⟩|⟨rfl,r,rfl,g2⟩
  ·refine⟨0,?_,?_⟩
   ·simp only[STD,hs,g1,zt g1]
   ·apply propext;simp;omega
  ·refine⟨r,?_,g2⟩;simp only[STD,hs,g1,zt g1,show ¬(1=0) by omega]
 ·have hs:yM .i64 (nx:Int) (ny:Int)=(nx:Int)-(ny:Int):=jj (by omega);refine⟨(nx:Int)-(ny:Int),?_,?_⟩
  ·have a:¬(nx:Int)=(ny:Int):=by omega
   simp only[STD,a,hs]
  ·apply propext;have b1:=hx.bd;have b2:=hy.bd;rcases Nat.lt_or_gt_of_ne hne with h|h
   ·have:=hy.lo hny (by omega);have:=qc1 (show nx<=ny-1 by omega);constructor
    ·intro;omega
    ·intro;omega
   ·have:=hx.lo hnx (by omega);have:=qc1 (show ny<=nx-1 by omega);constructor
    ·intro;omega
    ·intro;omega
def sv(b:Bool)(l:List Int):Int:=if b then -mv l else mv l
theorem qEr{nx ny:Nat}{lx ly:List Int}(hx:WOK nx lx)(hnx:nrm nx lx)(hy:WOK ny ly)(hny:nrm ny ly)(hb:mv lx+mv ly<pB 232)(bx b2:Bool) :∃(b:Bool) (n:Nat) (l:List Int),(vt [.b bx,.i (nx:Int),.r (rI lx),.b b2,.i (ny:Int),.r (rI ly)]).run=some (0,[.b b,.i (n:Int),.r (rI l),.b b2,.i (ny:Int),.r (rI ly)])/\WOK n l/\nrm n l/\sv b l=sv bx lx+sv b2 ly:=by
 rw[qka];have h1:=hx.bd;have h2:=hy.bd;have l1:=hx.le;have l2:=hy.le;by_cases hs:bx=b2
 ·subst hs;obtain⟨n,l,g1,g2,g3,g4⟩:=qpA (f:=1) (up:=0) hx hy (by omega) (by omega) (T:=mv lx+mv ly) (by rw[q6E];omega) (by omega) hb bx bx;refine⟨bx,n,l,?_,g2,g3,?_⟩
  ·simp only[STD,show ((0:Nat):Int)=0 from rfl] at g1 ⊢;simp only[STD,g1]
  ·unfold sv;rw[g4];cases bx<;>simp<;>omega
 ·obtain⟨r,r1,r2⟩:=qxW hx hnx hy hny bx b2;by_cases hr:mv ly<=mv lx
  ·have hr':0<=r:=by rw[r2];exact hr
   obtain⟨n,l,g1,g2,g3,g4⟩:=qpA (f:=-1) (up:=0) hx hy (by omega) (by omega) (T:=mv lx-mv ly) (by rw[q6E];omega) (by omega) (by omega) bx b2;refine⟨bx,n,l,?_,g2,g3,?_⟩
   ·simp only[show ((0:Nat):Int)=0 from rfl] at g1;simp only[STD,hs,r1,hr',g1]
   ·unfold sv;rw[g4];cases bx<;>cases b2<;>simp_all<;>omega
  ·have hr':¬0<=r:=by rw[r2];exact hr
   obtain⟨n,l,g1,g2,g3,g4⟩:=qpA (f:=-1) (up:=0) hy hx (by omega) (by omega) (T:=mv ly-mv lx) (by rw[q6E];omega) (by omega) (by omega) b2 bx;refine⟨b2,n,l,?_,g2,g3,?_⟩
   ·simp only[show ((0:Nat):Int)=0 from rfl] at g1;simp only[STD,hs,r1,hr',g1]
   ·unfold sv;rw[g4];cases bx<;>cases b2<;>simp_all<;>omega
theorem qAf{x y:Int}{m n:Nat}(h0:0<=x)(h1:x<pB m)(h2:0<=y)(h3:y<=pB n):x*y<pB (m+n)\/y=0:=by
 rcases Int.lt_or_eq_of_le h2 with h|h
 ·left;rw[qHt];have e1:x*y<pB m*y:=Int.mul_lt_mul_of_pos_right h1 h;have e2:pB m*y<=pB m*pB n:=qLA h3 (by omega);omega
 ·exact .inr h.symm
theorem qFO{nx ny:Nat}{lx ly:List Int}(hx:WOK nx lx)(hy:WOK ny ly)(hb:nx+ny<=232)(bx b2:Bool) :∃(n:Nat) (l:List Int),(kq [.b bx,.i (nx:Int),.r (rI lx),.b b2,.i (ny:Int),.r (rI ly)]).run=some (0,[.b bx,.i (nx:Int),.r (rI lx),.b b2,.i (ny:Int),.r (rI ly),.b (!(Go.Eng.beq bx b2)),.i (n:Int),.r (rI l)])/\WOK n l/\nrm n l/\mv l=mv lx*mv ly:=by
 rw[qiH];have hbx:=hx.bd;have e0:q3O 232 [.i 0]=rI (List.replicate 232 0):=qj6 232 0;obtain⟨j,qs,g1,rfl,n,l,rfl,g2,g3,g4⟩:=yI (S:=yH) (fun k ps=>∃(i n:Nat) (l:List Int),ps=[.i (ny:Int),.i (i:Int),.b bx,.i (nx:Int),.r (rI lx),.b b2,.i (ny:Int),.r (rI ly),.b (!(Go.Eng.beq bx b2)),.i (n:Int),.r (rI l)] /\
   i+k=ny/\WOK n l/\nrm n l/\mv l=mv lx*mv (ly.take i))
  (fun j qs=>j=0/\∃(n:Nat) (l:List Int),qs=[.b bx,.i (nx:Int),.r (rI lx),.b b2,.i (ny:Int),.r (rI ly),.b (!(Go.Eng.beq bx b2)),.i (n:Int),.r (rI l)]/\WOK n l/\nrm n l/\mv l=mv lx*mv ly) (n:=ny) (by omega) (fun k ps hk ⟨i,n,l,hps,hik,hw,hn,hv⟩=>by
  subst hps;rw[qgB];by_cases hi:i<ny
  ·left;have hil:i<ly.length:=by rw[hy.len];omega
   have gy:=hy.get i;have tb:=q9K hy.dig i;have tb2:=q9K hy.dig (i+1);have hT:mv lx*mv (ly.take (i+1))=mv l+ly.getD i 0*mv lx*pB i:=by rw[qmH hil,hv,jE hil];grind
   have hlt:mv lx*mv (ly.take (i+1))<pB 232:=by
    rcases qAf (n:=i+1) hbx.1 hbx.2 tb2.1 (by omega) with h|h
    ·exact Int.lt_of_lt_of_le h (qc1 (by omega))
    ·rw[h,qKp];exact qbk _
   obtain⟨n',l',c1,c2,c3,c4⟩:=qpA (f:=ly.getD i 0) (up:=i) hw hx (by omega) (by omega) hT (qLa hbx.1 tb2.1) hlt (!(Go.Eng.beq bx b2)) bx;have w:qz .i64 (i:Int) 1=((i+1:Nat):Int):=by rw[zj (by omega)];omega
   refine⟨k-1,_,by omega,?_,i+1,n',l',rfl,by omega,c2,c3,c4⟩;have a1:(i:Int)<(ny:Int):=by omega
   have a2:(0:Int)<=(i:Int)/\(i:Int)<232:=by omega
   simp only[STD,a1,a2,and_self,q5B,c1,w]
  ·right;have hi2:i=ny:=by omega
   have a1:¬(i:Int)<(ny:Int):=by omega
   refine⟨0,[.b bx,.i (nx:Int),.r (rI lx),.b b2,.i (ny:Int),.r (rI ly),.b (!(Go.Eng.beq bx b2)),.i (n:Int),.r (rI l)],?_,rfl,n,l,rfl,hw,hn,?_⟩
   ·simp only[STD,a1]
   ·have:=qbN ly ny (by rw[hy.len];exact hy.le);rw[vD hy.dig hy.z (qJe _),qKp,Int.add_zero] at this;rw[hv,hi2,<-this])
  (ps:=[.i (ny:Int),.i 0,.b bx,.i (nx:Int),.r (rI lx),.b b2,.i (ny:Int),.r (rI ly),.b (!(Go.Eng.beq bx b2)),.i 0,.r (rI (List.replicate 232 0))])
  ⟨0,0,_,rfl,by omega,WOK.zero,.inl rfl,by rw[qe8];simp[mv]⟩
 refine⟨n,l,?_,g2,g3,g4⟩;simp only[e0];simp only[STD,g1]
theorem qyb{nx ny:Nat}{lx ly:List Int}(hx:WOK nx lx)(hnx:nrm nx lx)(hy:WOK ny ly)(hny:nrm ny ly)(h0:ny≠0)(hle:mv ly<=mv lx)(hlt:mv lx<pB (ny+1))(hn231:ny<=231)(bx b2:Bool) :∃k:Int,(q1N [.b bx,.i (nx:Int),.r (rI lx),.b b2,.i (ny:Int),.r (rI ly)]).run=some (0,[.i k,.b bx,.i (nx:Int),.r (rI lx),.b b2,.i (ny:Int),.r (rI ly)])/\1<=k/\k<=999999999/\k*mv ly<=mv lx:=by
 rw[qlC];obtain⟨m,rfl⟩:∃m,ny=m+1:=⟨ny-1,by omega⟩;have hxl:=hx.len;have hyl:=hy.len;have hnx1:m+1<=nx:=qIE hy hny hx hle;have hnx2:nx<=m+2:=by
  rcases qJl (m+2) nx with h|h
  ·exfalso;have h1:=hx.lo hnx (by omega);have h2:=qc1 (show m+1+1<=nx-1 by omega);omega
  ·exact h
 have gx1:=hx.get m;have gx2:=hx.get (m+1);have gy:=hy.get m;have sx:=qbN lx m (by omega);have sy:=qbN ly m (by omega);rw[qc6 (show m<lx.length by omega),qc6 (show m+1<lx.length by omega),vD hx.dig hx.z (show nx<=m+1+1 by omega)] at sx;rw[qc6 (show m<ly.length by omega),vD hy.dig hy.z (qJe _)] at sy;have tx:=q9K hx.dig m;have ty:=q9K hy.dig m;have hyn:ly.getD m 0≠0:=by
  rcases hny with h|h
  ·omega
  ·simpa using h
 have w1:yM .i64 ((m+1:Nat):Int) 1=(m:Int):=by rw[jj (by omega)];omega
 have c1:¬((m+1:Nat):Int)<0:=by omega
 have c2:¬(nx:Int)<=(m:Int):=by omega
 have c3:¬(m:Int)<0:=by omega
 have c4:¬((m+1:Nat):Int)<=(m:Int):=by omega
 have c5:(0:Int)<=(m:Int)/\(m:Int)<232:=by omega
 have c6:(0:Int)<=((m+1:Nat):Int)/\((m+1:Nat):Int)<232:=by omega
 have gex:lx[m]'(by omega)=lx.getD m 0:=(jE (by omega)).symm;have gex1:lx[m+1]'(by omega)=lx.getD (m+1) 0:=(jE (by omega)).symm;have gey:ly[m]'(by omega)=ly.getD m 0:=(jE (by omega)).symm;rw[gex,gex1] at sx;rw[gey] at sy;have hp:=qbk m;have key:∀a b:Int,a=lx.getD m 0+1000000000*lx.getD (m+1) 0->0<b->mv ly<=b*pB m->∀k,k=a/b->k*mv ly<=mv lx/\qhs k 999999999*mv ly<=mv lx:=by
  intro a b ha hb hbY k hk;have hk0:0<=k:=by rw[hk];exact Int.ediv_nonneg (by omega) (by omega)
  have hkb:k*b<=a:=by rw[hk];exact Int.ediv_mul_le a (by omega)
  have hY:=(hy.bd).1;have f1:k*mv ly<=k*(b*pB m):=qLA hbY hk0;have f2:k*b*pB m<=a*pB m:=qLc hkb (by omega);have f3:k*(b*pB m)=k*b*pB m:=(Int.mul_assoc _ _ _).symm;have f4:a*pB m=pB m*(lx.getD m 0+1000000000*(lx.getD (m+1) 0+1000000000*0)):=by rw[ha];grind
  have f5:k*mv ly<=mv lx:=by omega
  refine⟨f5,?_⟩;have:qhs k 999999999<=k:=by unfold qhs;split<;>omega
  have:=qLc this hY;omega
 have wq:∀a b:Int,0<=a->a<1000000000000000000->0<b->qbR .i64 a b=a/b:=by intro a b h1 h2 h3;unfold qbR;rw[Int.tdiv_eq_ediv_of_nonneg h1];have q1:0<=a/b:=Int.ediv_nonneg h1 (by omega);have q2:a/b<=a:=Int.ediv_le_self _ h1;generalize a/b=q at *;unfold IntKind.wrap;simp[IntKind.signed,IntKind.bits];omega
 have fin:∀k:Int,(0<k->k*mv ly<=mv lx/\qhs k 999999999*mv ly<=mv lx)->∃k':Int,(if 0<k then qhs k 999999999 else 1)=k'/\1<=k'/\k'<=999999999/\k'*mv ly<=mv lx:=by
  intro k hk;by_cases h:0<k
  ·rw[if_pos h];refine⟨_,rfl,?_,?_,(hk h).2⟩
   ·unfold qhs;split<;>omega
   ·unfold qhs;split<;>omega
  ·rw[if_neg h];exact⟨1,rfl,by omega,by omega,by omega⟩
 by_cases hcase:nx<=m+1
 ·have c7:(nx:Int)<=((m+1:Nat):Int):=by omega
  have z1:lx.getD (m+1) 0=0:=hx.z _ (by omega);have wa:qz .i64 0 (lx.getD m 0)=lx.getD m 0:=by rw[zj (by omega)];omega
  by_cases hm:m=0
  ·subst hm;have c8:¬(1:Int)<((0+1:Nat):Int):=by omega
   have hq:=wq (lx.getD 0 0) (ly.getD 0 0) (by omega) (by omega) (by omega);have hbY:mv ly<=ly.getD 0 0*pB 0:=by rw[q6E] at sy ty ⊢;omega
   obtain⟨k',f1,f2,f3,f4⟩:=fin (lx.getD 0 0/ly.getD 0 0) (fun _=>key _ _ (by rw[z1];omega) (by omega) hbY _ rfl);refine⟨k',?_,f2,f3,f4⟩;rw[<-f1];simp only[STD,c1,w1,c2,c3,c4,c5,c6,c7,c8,and_self,q5B,wa,hyn,hq];split<;>rfl
  ·have c8:(1:Int)<((m+1:Nat):Int):=by omega
   have wb:qz .i64 (ly.getD m 0) 1=ly.getD m 0+1:=zj (by omega);have hq:=wq (lx.getD m 0) (ly.getD m 0+1) (by omega) (by omega) (by omega);have hbY:mv ly<=(ly.getD m 0+1)*pB m:=by
    have:(ly.getD m 0+1)*pB m=pB m*(ly.getD m 0+1000000000*0)+pB m:=by grind
    omega
   obtain⟨k',f1,f2,f3,f4⟩:=fin (lx.getD m 0/(ly.getD m 0+1)) (fun _=>key _ _ (by rw[z1];omega) (by omega) hbY _ rfl);refine⟨k',?_,f2,f3,f4⟩;rw[<-f1];have hne:¬ly.getD m 0+1=0:=by omega
   simp only[STD,c1,w1,c2,c3,c4,c5,c6,c7,c8,and_self,q5B,wa,wb,hne,hq];split<;>rfl
 ·have c7:¬(nx:Int)<=((m+1:Nat):Int):=by omega
  have wm:vn .i64 (lx.getD (m+1) 0) 1000000000=lx.getD (m+1) 0*1000000000:=q52 (by omega);have wa:qz .i64 (lx.getD (m+1) 0*1000000000) (lx.getD m 0)=lx.getD (m+1) 0*1000000000+lx.getD m 0:=zj (by omega);by_cases hm:m=0
  ·subst hm;have c8:¬(1:Int)<((0+1:Nat):Int):=by omega
   have hq:=wq (lx.getD (0+1) 0*1000000000+lx.getD 0 0) (ly.getD 0 0) (by omega) (by omega) (by omega);have hbY:mv ly<=ly.getD 0 0*pB 0:=by rw[q6E] at sy ty ⊢;omega
   obtain⟨k',f1,f2,f3,f4⟩:=fin ((lx.getD (0+1) 0*1000000000+lx.getD 0 0)/ly.getD 0 0) (fun _=>key _ _ (by omega) (by omega) hbY _ rfl);refine⟨k',?_,f2,f3,f4⟩;rw[<-f1];simp only[STD,c1,w1,c2,c3,c4,c5,c6,c7,c8,and_self,q5B,wm,wa,hyn,hq];split<;>rfl
  ·have c8:(1:Int)<((m+1:Nat):Int):=by omega
   have wb:qz .i64 (ly.getD m 0) 1=ly.getD m 0+1:=zj (by omega);have hq:=wq (lx.getD (m+1) 0*1000000000+lx.getD m 0) (ly.getD m 0+1) (by omega) (by omega) (by omega);have hbY:mv ly<=(ly.getD m 0+1)*pB m:=by
    have:(ly.getD m 0+1)*pB m=pB m*(ly.getD m 0+1000000000*0)+pB m:=by grind
    omega
   obtain⟨k',f1,f2,f3,f4⟩:=fin ((lx.getD (m+1) 0*1000000000+lx.getD m 0)/(ly.getD m 0+1)) (fun _=>key _ _ (by omega) (by omega) hbY _ rfl);refine⟨k',?_,f2,f3,f4⟩;rw[<-f1];have hne:¬ly.getD m 0+1=0:=by omega
   simp only[STD,c1,w1,c2,c3,c4,c5,c6,c7,c8,and_self,q5B,wm,wa,wb,hne,hq];split<;>rfl
theorem qEn(u:Nat):Lib.decDigits u=tN u:=by
 induction u using Nat.strongRecOn with
 | _ u ih=>
  rw[Lib.decDigits];split
  ·rename_i h;rw[quy h];rfl
  ·rename_i h;rw[ih (u/10) (by omega)];exact(qwv (n:=u) (by omega)).symm
theorem qvh(n:Int):Lib.itoa n=tI n:=by
 unfold Lib.itoa;by_cases h:n<0
 ·rw[if_pos h,qEn,qbh h]
 ·rw[if_neg h,qEn,qja h];congr 1;omega
theorem qHQ(n:Int)(h:-9223372036854775808<=n/\n<=9223372036854775807):(q3W [.i n]).run=some (0,[.s (tI n)]):=by show (qAQ [.i n]).run=_;unfold qAQ;simp only;rw[if_pos h,qvh];rfl
theorem quC{c:UInt8}(h:48<=c.toNat/\c.toNat<=57):Lib.digitVal c=some (dv c):=by
 unfold Lib.digitVal dv
 simp_all
theorem qoK:∀{s:qJb} (a:Nat),q6H s->Lib.decFrom a s=some (a*10^s.length+val s)
 | [],a,_=>by simp[Lib.decFrom,val]
 | c::s,a,h=>by
  obtain⟨h1,h2⟩:=q0M.1 h;rw[Lib.decFrom,quC h1];simp only;rw[qoK _ h2,q5I,qJM,qKN];congr 1;grind
theorem qrr{s:qJb}(h:q6H s)(hn:s≠[]):Lib.decNat s=some (val s):=by unfold Lib.decNat;rw[if_neg (by simpa using hn),qoK 0 h];simp
theorem qv4{s:qJb}(h:q6H s)(hn:s≠[]):Lib.atoi s=some (val s:Int):=by
 obtain⟨c,t,e,h1,h2⟩:=qh9 h hn;rw[e] at h ⊢;have n1:(c==45)=false:=by rw[beq_eq_false_iff_ne];intro hc;subst hc;revert h1;decide
 have n2:(c==43)=false:=by rw[beq_eq_false_iff_ne];intro hc;subst hc;revert h1;decide
 unfold Lib.atoi;simp only[n1,n2,qJA,if_false];rw[qrr h (by simp)];rfl
theorem qAj(m:Int):Lib.atoi (tI m)=some m:=by
 by_cases h:m<0
 ·rw[qbh h];unfold Lib.atoi;simp only[beq_self_eq_true,if_true];rw[qrr (zX _) (qoz _),q0G];simp;omega
 ·rw[qja h,qv4 (zX _) (qoz _),q0G];congr 1;omega
theorem qCn{s:qJb}{n:Int}(hl:s.length<=18)(h:Lib.atoi s=some n):(jC [.s s]).run=some (0,[.i n]):=by show (qC1 [.s s]).run=_;unfold qC1;simp only;rw[if_pos hl,h];rfl
theorem qxi:∀s:List UInt8,Lib.indexByte s 47=if sP s<s.length then (sP s:Int) else -1
 | []=>by simp[Lib.indexByte,sP]
 | c::s=>by
  have ih:=qxi s;have hle:=qG7 s;unfold Lib.indexByte;by_cases h:c=47
  ·subst h;have:sP (47::s)=0:=qH7 (by simp) (by simp) (fun j hj=>by omega);rw[this];simp
  ·have hc:(c==47)=false:=by simpa using h
   have e:sP (c::s)=sP s+1:=by unfold sP;rw[List.findIdx_cons,hc];rfl
   rw[e];generalize sP s=k at *;have el:(c::s).length=s.length+1:=rfl;simp only[hc,el,ih,qJA,if_false];grind
theorem qFM(s:qJb):(vO [.s s,.s [47]]).run=some (0,[.i (if sP s<s.length then (sP s:Int) else -1)]):=by show (quW [.s s,.s [47]]).run=_;unfold quW;simp only;rw[<-qxi];rfl
theorem qxZ:∀{s t:qJb},q6H s->q6H t->s.length=t.length->Lib.compareBytes s t=sgn ((val s:Int)-(val t:Int))
 | [],[],_,_,_=>by simp[Lib.compareBytes,val,sgn]
 | [],_::_,_,_,h=>by simp at h
 | _::_,[],_,_,h=>by simp at h
 | a::s,b::t,hs,ht,h=>by
  obtain⟨h1,h2⟩:=q0M.1 hs;obtain⟨h3,h4⟩:=q0M.1 ht;have hl:s.length=t.length:=by simpa using h
  have ih:=qxZ h2 h4 hl;have v1:=q6N h2;have v2:=q6N h4;unfold Lib.compareBytes;rw[q5I,q5I,hl];rw[hl] at v1;have hp:0<10^t.length:=Nat.pow_pos (by omega);generalize 10^t.length=P at *;unfold dv;by_cases c1:a.toNat<b.toNat
  ·rw[if_pos (show a<b from c1)];have:(a.toNat-48+1)*P<=(b.toNat-48)*P:=qJD _ (by omega);rw[qJt,qKV] at this;unfold sgn;rw[if_pos (by omega)]
  ·rw[if_neg (show ¬a<b from c1)];by_cases c2:b.toNat<a.toNat
   ·rw[if_pos (show b<a from c2)];have:(b.toNat-48+1)*P<=(a.toNat-48)*P:=qJD _ (by omega);rw[qJt,qKV] at this;unfold sgn;rw[if_neg (by omega),if_neg (by omega)]
   ·rw[if_neg (show ¬b<a from c2),ih];have:a.toNat=b.toNat:=by omega
    rw[this];congr 1;omega
theorem qzg{s t:qJb}(hs:q6H s)(ht:q6H t)(h:s.length=t.length):(q3x [.s s,.s t]).run=some (0,[.i (sgn ((val s:Int)-(val t:Int)))]):=by show (qnn [.s s,.s t]).run=_;unfold qnn;simp only;rw[qxZ hs ht h];rfl
def qBr:List UInt8:=[48,49,50,51,52,53,54,55,56,57]
theorem qwV(c:UInt8):(qBr.contains c=true)↔(48<=c.toNat/\c.toNat<=57):=by
 constructor
 ·intro h;simp only[qBr,List.contains_eq_mem,qJi,qKx,or_false,decide_eq_true_eq] at h;rcases h with rfl|rfl|rfl|rfl|rfl|rfl|rfl|rfl|rfl|rfl<;>decide
 ·rintro ⟨h1,h2⟩;have hk:∃k,c=UInt8.ofNat k/\48<=k/\k<=57:=⟨c.toNat,by simp,h1,h2⟩;obtain⟨k,rfl,k1,k2⟩:=hk;have:k=48\/k=49\/k=50\/k=51\/k=52\/k=53\/k=54\/k=55\/k=56\/k=57:=by omega
  rcases this with rfl|rfl|rfl|rfl|rfl|rfl|rfl|rfl|rfl|rfl<;>decide
theorem q9F{p:UInt8->Bool}:∀{l:qJb},l.dropWhile p=[]↔∀x,x∈l->p x=true
 | []=>by simp
 | a::l=>by
  rw[List.dropWhile_cons];by_cases h:p a=true
  ·rw[if_pos h,q9F];simp[h]
  ·rw[if_neg h];simp[h]
theorem qh5(s:qJb):(Lib.trimS s qBr=[])=q6H s:=by
 apply propext;unfold Lib.trimS Lib.trimLeftS Lib.trimRightS;constructor
 ·intro h;have h1:∀c,c∈(s.reverse.dropWhile (qBr.contains ·)).reverse->qBr.contains c=true:=by intro c hc;have:=q9F.1 h c hc;simpa using this
  have h2:s.reverse.dropWhile (qBr.contains ·)=[]:=by
   cases hd:s.reverse.dropWhile (qBr.contains ·) with
   | nil=>rfl
   | cons c t=>
    exfalso;have h3:=List.head_dropWhile_not (p:=(qBr.contains ·)) (l:=s.reverse) (by rw[hd];simp);simp only[hd,List.head_cons] at h3;have:=h1 c (by rw[hd];simp);rw[this] at h3;cases h3
  intro c hc;have:=q9F.1 h2 c (by simpa using hc);exact(qwV c).1 (by simpa using this)
 ·intro h;have h2:s.reverse.dropWhile (qBr.contains ·)=[]:=by rw[q9F];intro c hc;exact(qwV c).2 (h c (by simpa using hc))
  rw[h2];rfl
theorem qHI(s:qJb)(hl:s.length<=9223372036854775807):(q7G [.s s,.s [48,49,50,51,52,53,54,55,56,57]]).run=some (0,[.s (Lib.trimS s qBr)]):=by show (qzB [.s s,.s qBr]).run=_;unfold qzB;simp only;rw[if_pos ⟨hl,by decide,by decide⟩];rfl
variable {n:Nat}
theorem qAg (n:Nat):pB n=((10^(9*n):Nat):Int):=by unfold pB;rw[Nat.pow_mul];simp
theorem qzk:∀k:Nat,k<=9->qfy [48,48,48,48,48,48,48,48,48] (k:Int) 9=List.replicate (9-k) 48
 | 0,_=>rfl
 | 1,_=>rfl
 | 2,_=>rfl
 | 3,_=>rfl
 | 4,_=>rfl
 | 5,_=>rfl
 | 6,_=>rfl
 | 7,_=>rfl
 | 8,_=>rfl
 | 9,_=>rfl
 | n+10,h=>by omega
theorem qG1 {v:Nat}(h:v<1000000000):q6H (qzT (tN v))/\(qzT (tN v)).length=9/\val (qzT (tN v))=v:=by
 have hl:(tN v).length<=9:=q1A 8 v (by omega);have e:qzT (tN v)=List.replicate (9-(tN v).length) 48++tN v:=by unfold qzT qdK;rw[show qB (tN v)=((tN v).length:Int) from rfl,qzk _ hl]
 rw[e];refine⟨q9e.2 ⟨qln _,zX v⟩,by simp;omega,by rw[qob,q0G]⟩
theorem qre{l:List Int}(hl:l.length=232)(hd:dgs l):∀i:Nat,i<=232->q6H (qjL (rI l) i)/\(qjL (rI l) i).length=9*i/\((val (qjL (rI l) i):Nat):Int)=mv (l.take i)
 | 0,_=>⟨qnA,rfl,by simp[qjL,qeh,mv]⟩
 | i+1,h=>by
  obtain⟨h1,h2,h3⟩:=qre hl hd i (by omega);have hil:i<l.length:=by omega
  have hg:=hd _ (qJT hil);have e:cI (rI l) (i:Int) 0=l[i]:=by rw[q5B,jE hil]
  have e2:Lib.itoa l[i]=tN l[i].toNat:=by rw[qvh,qja (by omega)];congr 1;omega
  obtain⟨p1,p2,p3⟩:=qG1 (v:=l[i].toNat) (by omega);unfold qjL;rw[e,e2];refine⟨q9e.2 ⟨p1,h1⟩,by rw[qJB,p2,h2];omega,?_⟩;rw[qrU,p3,h2,qmH hil,qAg];simp only[qL9,qK2,h3];rw[qL6 hg.1];omega
theorem qDE {l:List Int}(h:WOK n l)(hn:nrm n l)(b:Bool):qBG b (n:Int) (rI l)=tI (sv b l):=by
 unfold qBG;by_cases h0:n=0
 ·have h1:mv l=0:=by rw[<-qjv h hn];exact h0
  rw[if_pos (by omega)];unfold sv;rw[h1];cases b<;>rfl
 ·rw[if_neg (by omega)];obtain⟨m,rfl⟩:∃m,n=m+1:=⟨n-1,by omega⟩;have hle:=h.le;have hml:m<l.length:=by rw[h.len];omega
  have e1:(((m+1:Nat):Int)-1)=(m:Int):=by omega
  rw[e1,qJq,q5B,jE hml];have hg:=h.dig _ (qJT hml);have e2:Lib.itoa l[m]=tN l[m].toNat:=by rw[qvh,qja (by omega)];congr 1;omega
  obtain⟨t1,t2,t3⟩:=qre h.len h.dig m (by omega);have hnz:l[m]≠0:=by
   rcases hn with hn|hn
   ·omega
   ·rw[qLu,jE hml] at hn;exact hn
  have hlo:=h.lo hn h0;have hp:=qbk m;simp only[qLu] at hlo;have hv:((val (tN l[m].toNat++qjL (rI l) m):Nat):Int)=mv l:=by rw[qrU,q0G,t2,qbN l m (by omega),qc6 hml,vD h.dig h.z (qJe _),qAg];simp only[qL9,qK2,t3];rw[qL6 hg.1];grind
  have hT:tN l[m].toNat++qjL (rI l) m=tN (mv l).toNat:=by
   have hd:q6H (tN l[m].toNat++qjL (rI l) m):=q9e.2 ⟨zX _,t1⟩;have hne:tN l[m].toNat++qjL (rI l) m≠[]:=by simp[qoz]
   have hz:(tN l[m].toNat++qjL (rI l) m).getD 0 0≠48:=by
    have hv0:=q0G l[m].toNat;have hd0:=zX l[m].toNat;rcases qCb l[m].toNat with h1|h1
    ·obtain⟨c,e⟩:=List.length_eq_one_iff.1 h1;rw[e] at hv0 ⊢;simp only[qKc,qLv];intro hc;subst hc;rw[qwH] at hv0;simp[dv] at hv0;omega
    ·obtain⟨c,t,e,_⟩:=qh9 hd0 (qoz _);rw[e] at h1 ⊢;simpa using h1
   have:=qpw hd hne (.inr hz);rw[this];congr 1;omega
  rw[e2,qJQ,hT];unfold sv;cases b
  ·rw[if_neg (by simp),if_neg (by simp),qja (by omega)];simp;congr 1;omega
  ·rw[if_pos rfl,if_pos rfl,qbh (by omega)];simp;congr 1;omega
theorem qzb {l:List Int}(h:WOK n l):qs7 (n:Int) (rI l)=true:=by unfold qs7;have:=h.le;simp only[qJx,decide_eq_true_eq,qJL,qKu];refine⟨⟨by omega,by omega⟩,fun i _=>?_⟩;have:=h.get i;rw[q5B];exact this
theorem qxx {l:List Int}(h:WOK n l)(hn:nrm n l)(b:Bool):(zy [.b b,.i (n:Int),.r (rI l)]).run=some (0,[.s (tI (sv b l)),.b b,.i (n:Int),.r (rI l)]):=by show (qzy [.b b,.i (n:Int),.r (rI l)]).run=_;unfold qzy;simp only;rw[if_pos (qzb h),qDE h hn];rfl
end Go.Eng

namespace Go.Eng
theorem qCM{nr ny:Nat}{lr ly:List Int}(hr:WOK nr lr)(hnr:nrm nr lr)(hy:WOK ny ly)(hny:nrm ny ly)(h0:ny≠0)(hy231:ny<=231)(hlt:mv lr<mv ly*1000000000)(y0:Int)(xb:Bool)(xi:Int)(xr:R)(b2 qb:Bool)(qi:Int)(qr:R)(br:Bool) :∃(d:Int) (n:Nat) (l:List Int),(qh jZ [.i y0,.i 0,.b xb,.i xi,.r xr,.b b2,.i (ny:Int),.r (rI ly),.b qb,.i qi,.r qr,.b br,.i (nr:Int),.r (rI lr)]).run = some (0,[.i y0,.i d,.b xb,.i xi,.r xr,.b b2,.i (ny:Int),.r (rI ly),.b qb,.i qi,.r qr,.b br,.i (n:Int),.r (rI l)])/\WOK n l/\nrm n l/\0<=d/\d<1000000000/\mv lr=d*mv ly+mv l/\mv l<mv ly:=by
 have hyp:0<mv ly:=by have:=hy.lo hny h0;have:=qbk (ny-1);omega
 have hyb:=hy.bd;obtain⟨j,qs,g1,rfl,d,n,l,rfl,g2⟩:=yI (S:=jZ) (fun k ps=>∃(d:Int) (n:Nat) (l:List Int),ps=[.i y0,.i d,.b xb,.i xi,.r xr,.b b2,.i (ny:Int),.r (rI ly),.b qb,.i qi,.r qr,.b br,.i (n:Int),.r (rI l)] /\
   WOK n l/\nrm n l/\0<=d/\d+k=1000000000/\mv lr=d*mv ly+mv l)
  (fun j qs=>j=0/\∃(d:Int) (n:Nat) (l:List Int),qs=[.i y0,.i d,.b xb,.i xi,.r xr,.b b2,.i (ny:Int),.r (rI ly),.b qb,.i qi,.r qr,.b br,.i (n:Int),.r (rI l)]/\WOK n l/\nrm n l/\0<=d/\d<1000000000/\mv lr=d*mv ly+mv l/\mv l<mv ly) (n:=1000000000) (by omega)
  (fun k ps hk ⟨d,n,l,hps,hw,hn,hd0,hdk,hv⟩=>by
   subst hps;have hlb:=hw.bd;have hdlt:d<1000000000:=by
    rcases Int.lt_or_le d 1000000000 with h|h
    ·exact h
    ·have:=qLc h (show 0<=mv ly by omega);rw[qKk (mv ly)] at hlt;omega
   rw[qiM];obtain⟨r,r1,r2⟩:=qxW hw hn hy hny br b2;by_cases hle:mv ly<=mv l
   ·left;have hr0:0<=r:=by rw[r2];exact hle
    have hdm:=qLa hd0 (show 0<=mv ly by omega);have hl9:mv l<pB (ny+1):=by rw[q9R];omega
    obtain⟨q,e1,e2,e3,e4⟩:=qyb hw hn hy hny h0 hle hl9 hy231 br b2;obtain⟨n',l',c1,c2,c3,c4⟩:=qpA (f:=-q) (up:=0) hw hy (by omega) (by omega) (T:=mv l-q*mv ly) (by rw[q6E,Int.mul_one,Int.neg_mul];omega) (by omega)
     (by have:=hlb.2;have:=qc1 hw.le;have:=qLa (show 0<=q by omega) (show 0<=mv ly by omega);omega) br b2
    have hq2:(d+q)*mv ly+(mv l-q*mv ly)=d*mv ly+mv l:=by rw[Int.add_mul];omega
    have hdq:d+q<1000000000:=by
     rcases Int.lt_or_le (d+q) 1000000000 with h|h
     ·exact h
     ·have:=qLc h (show 0<=mv ly by omega);rw[qKk (mv ly)] at hlt;omega
    have w1:yM .i64 0 q=-q:=qw6 (by omega);have w2:qz .i64 d q=d+q:=zj (by omega);simp only[show ((0:Nat):Int)=0 from rfl] at c1;refine⟨(1000000000-(d+q)).toNat,[.i y0,.i (d+q),.b xb,.i xi,.r xr,.b b2,.i (ny:Int),.r (rI ly),.b qb,.i qi,.r qr,.b br,.i (n':Int),.r (rI l')],by omega,?_,d+q,n',l',rfl,c2,c3,by omega,by omega,by rw[c4];omega⟩;simp only[STD,r1,hr0,e1,w1,w2,c1]
   ·right;have hr0:¬0<=r:=by rw[r2];exact hle
    refine⟨0,_,?_,rfl,d,n,l,rfl,hw,hn,hd0,hdlt,hv,by omega⟩;simp only[STD,r1,hr0]) (ps:=[.i y0,.i 0,.b xb,.i xi,.r xr,.b b2,.i (ny:Int),.r (rI ly),.b qb,.i qi,.r qr,.b br,.i (nr:Int),.r (rI lr)]) ⟨0,nr,lr,rfl,hr,hnr,by omega,by omega,by omega⟩
 exact⟨d,n,l,g1,g2⟩
theorem qCG{n:Nat}{l:List Int}{d:Int}(h:WOK n l)(hn:n<=231)(hd:0<=d/\d<1000000000) :qfD (qkP (rI l) 1 (rI l) 0 (qhs (qvG (n:Int) 0) (qvG 232 1))) 0 0 [.i d]=rI (d::(l.take n++l.drop (1+n)))/\WOK (n+1) (d::(l.take n++l.drop (1+n)))/\mv (d::(l.take n++l.drop (1+n)))=d+1000000000*mv l:=by
 have hlen:=h.len;have e1:qhs (qvG (n:Int) 0) (qvG 232 1)=(n:Int):=by unfold qhs qvG;split<;>omega
 obtain⟨x,t,rfl⟩:∃x t,l=x::t:=by
  cases l with
  | nil=>simp at hlen
  | cons x t=>exact⟨x,t,rfl⟩
 refine⟨?_,⟨by simp;simp at hlen;omega,by omega,?_,?_⟩,?_⟩
 ·rw[e1];unfold qkP;have:(rI (x::t)).take (1:Int).toNat++((rI (x::t)).drop (0:Int).toNat).take (n:Int).toNat++(rI (x::t)).drop ((1:Int).toNat+(n:Int).toNat)=rI (x::((x::t).take n++(x::t).drop (1+n))):=by rw[qJq];simp[rI,List.map_take,List.map_drop]
  rw[this,show (0:Int)=((0:Nat):Int) from rfl,qix];rfl
 ·intro y hy;rcases qJi.1 hy with rfl|hy
  ·exact hd
  ·rcases qJG.1 hy with hy|hy
   ·exact h.dig _ (qLo hy)
   ·exact h.dig _ (qLp hy)
 ·intro i hi;obtain⟨j,rfl⟩:∃j,i=j+1:=⟨i-1,by omega⟩;have hz:=h.z (j+1) (by omega);rw[qJd] at hz ⊢;rw[qKe,qJz (by simp;omega)];rw[qKh,qK8,qKs (by omega)];rw[show 1+n+(j-n)=j+1 by omega];exact hz
 ·show d+1000000000*mv _=_;rw[qxw,qK8,qKs (by omega),vD h.dig h.z (show n<=1+n by omega)];have:=qbN (x::t) n (by omega);rw[vD h.dig h.z (qJe n)] at this;omega
theorem qfL{nx ny:Nat}{lx ly:List Int}(hx:WOK nx lx)(hy:WOK ny ly)(hny:nrm ny ly)(h0:ny≠0)(hy231:ny<=231)(bx b2:Bool) :∃(nq:Nat) (lq:List Int) (nr:Nat) (lr:List Int),(uh [.b bx,.i (nx:Int),.r (rI lx),.b b2,.i (ny:Int),.r (rI ly)]).run = some (0,[.b bx,.i (nx:Int),.r (rI lx),.b b2,.i (ny:Int),.r (rI ly),.b false,.i (nq:Int),.r (rI lq),.b false,.i (nr:Int),.r (rI lr)])/\WOK nq lq/\nrm nq lq/\WOK nr lr/\nrm nr lr/\mv lx=mv lq*mv ly+mv lr/\mv lr<mv ly:=by
 rw[qn8];have hyp:0<mv ly:=by have:=hy.lo hny h0;have:=qbk (ny-1);omega
 have hx232:=hx.le;have e0:q3O 232 [.i 0]=rI (List.replicate 232 0):=qj6 232 0;have hxl:=hx.len;obtain⟨j,qs,g1,rfl,nq,lq,nr,lr,rfl,g2,g3,g4,g5,g6⟩:=yI (S:=q0S) (fun k ps=>∃(Q:Int) (nq:Nat) (lq:List Int) (nr:Nat) (lr:List Int),
   ps=[.i ((k:Int)-1),.b bx,.i (nx:Int),.r (rI lx),.b b2,.i (ny:Int),.r (rI ly),.b false,.i (nq:Int),.r (rI lq),.b false,.i (nr:Int),.r (rI lr)]/\k<=nx/\WOK nq lq/\WOK nr lr/\nrm nr lr/\mv (lx.drop k)=Q*mv ly+mv lr/\mv lr<mv ly/\mv lq=pB k*Q/\∀i,i<k->lq.getD i 0=0)
  (fun j qs=>j=0/\∃(nq:Nat) (lq:List Int) (nr:Nat) (lr:List Int),qs=[.b bx,.i (nx:Int),.r (rI lx),.b b2,.i (ny:Int),.r (rI ly),.b false,.i (nq:Int),.r (rI lq),.b false,.i (nr:Int),.r (rI lr)]/\WOK nq lq/\WOK nr lr/\nrm nr lr/\mv lx=mv lq*mv ly+mv lr/\mv lr<mv ly) (n:=nx) (by omega)
  (fun k ps hk ⟨Q,nq,lq,nr,lr,hps,hkn,hwq,hwr,hnr,hv,hlt,hq,hz⟩=>by
   subst hps;rw[qkV];rcases qKj k with rfl|hk0
   ·right;have a1:¬(0:Int)<=((0:Nat):Int)-1:=by omega
    refine⟨0,[.b bx,.i (nx:Int),.r (rI lx),.b b2,.i (ny:Int),.r (rI ly),.b false,.i (nq:Int),.r (rI lq),.b false,.i (nr:Int),.r (rI lr)],?_,rfl,nq,lq,nr,lr,rfl,hwq,hwr,hnr,?_,hlt⟩
    ·simp only[STD,a1]
    ·rw[hq,q6E,qJP,<-hv,List.drop_zero]
   ·left;obtain⟨i,rfl⟩:∃i,k=i+1:=⟨k-1,by omega⟩;have e:(((i+1:Nat):Int)-1)=(i:Int):=by omega
    rw[e];have hnr231:nr<=231:=qJg (qIE hwr hnr hy (by omega)) hy231;have hil:i<lx.length:=by omega
    have gx:=hx.get i;obtain⟨s1,s2,s3⟩:=qCG hwr hnr231 (d:=lx.getD i 0) gx;obtain⟨m,t1,t2,t3⟩:=qk1 s2 false;have hX:mv (lx.drop i)=lx.getD i 0+1000000000*(Q*mv ly+mv lr):=by rw[qc6 hil,<-hv,jE hil]
    have hlt2:mv (lx.getD i 0::(lr.take nr++lr.drop (1+nr)))<mv ly*1000000000:=by rw[s3];omega
    obtain⟨d,n',l',d1,d2,d3,d4,d5,d6,d7⟩:=qCM t2 t3 hy hny h0 hy231 hlt2 (i:Int) bx (nx:Int) (rI lx) b2 false (nq:Int) (rI lq) false;rw[s3] at d6;have a1:(0:Int)<=(i:Int):=by omega
    have a2:(i:Int)<232:=by omega
    have a3:(0:Int)<=232/\(232:Int)<=232:=by omega
    have a4:(0:Int)<=1/\(1:Int)<=232:=by omega
    have a5:(0:Int)<=(nr:Int)/\(nr:Int)<=232:=by omega
    have a6:(0:Int)<=0/\(0:Int)<=(nr:Int):=by omega
    have w1:qz .i64 (nr:Int) 1=((nr+1:Nat):Int):=by rw[zj (by omega)];omega
    have w2:qz .i64 (i:Int) 1=((i+1:Nat):Int):=by rw[zj (by omega)];omega
    have w3:yM .i64 (i:Int) 1=(i:Int)-1:=jj (by omega);have w4:qqF (nq:Int) ((i+1:Nat):Int)=((max nq (i+1):Nat):Int):=qrD _ _;have hiq:i<lq.length:=by rw[hwq.len];omega
    have hzi:lq[i]=0:=by rw[<-jE hiq];exact hz i (by omega)
    refine⟨i,[.i ((i:Int)-1),.b bx,.i (nx:Int),.r (rI lx),.b b2,.i (ny:Int),.r (rI ly),.b false,.i ((max nq (i+1):Nat):Int),.r (rI (lq.set i d)),.b false,.i (n':Int),.r (rI l')],by omega,?_,Q*1000000000+d,_,_,_,_,rfl,by omega,hwq.setW (by omega) ⟨d4,d5⟩,d2,d3,?_,d7,?_,?_⟩
    ·simp only[q5B,s1,w1];simp only[STD,a1,a2,a3,a4,a5,a6,and_self,t1,d1,w2,w3,w4,qix]
    ·rw[hX,Int.add_mul,Int.mul_add];have:Q*1000000000*mv ly=1000000000*(Q*mv ly):=by grind
     omega
    ·rw[qxO lq i hiq,hzi,hq,q9R];grind
    ·intro a ha;rw[qJd,qJf (by omega),<-qJd];exact hz a (by omega))
  (ps:=[.i ((nx:Int)-1),.b bx,.i (nx:Int),.r (rI lx),.b b2,.i (ny:Int),.r (rI ly),.b false,.i 0,.r (rI (List.replicate 232 0)),.b false,.i 0,.r (rI (List.replicate 232 0))])
  ⟨0,0,_,0,_,rfl,qJe _,WOK.zero,WOK.zero,.inl rfl,by rw[vD hx.dig hx.z (qJe _),qe8];omega,by rw[qe8];exact hyp,by rw[qe8,qKp],fun i _=>qto 232 i⟩
 obtain⟨m,t1,t2,t3⟩:=qk1 g2 false;refine⟨m,lq,nr,lr,?_,t2,t3,g3,g4,g5,g6⟩;have hs:yM .i64 (nx:Int) 1=(nx:Int)-1:=jj (by omega);simp only[e0,hs];simp only[STD,g1,t1]
variable {m:Int}
theorem qH6 {c:UInt8}{t:qJb}:qfy (c::t) 0 1=[c]:=by simp[qfy]
theorem qBA (s:qJb):(qN [.s s,.s [45]]).run=some (0,[.b (decide (s.getD 0 0=45))]):=by
 rw[q61];have h1:qB [45]=1:=rfl;cases s with
 | nil=>
  have a:¬(1:Int)<=qB []:=by decide
  simp only[STD,h1,a];rfl
 | cons c t=>
  have a:(1:Int)<=qB (c::t):=by unfold qB;simp only[qJM];omega
  simp only[STD,h1,a,show (0:Int)<=1 by omega,show (0:Int)<=0 by omega,and_self,qH6];have e:seq [c] [45]=decide ((c::t).getD 0 0=45):=by rw[Bool.eq_iff_iff,zV];simp
  rw[e]
theorem qsE (s:qJb):(zh [.s s,.s [45]]).run=some (0,[.s (mag s)]):=by
 rw[qg3];have h:(zo [.s s,.s [45]]).run=some (0,[.s (mag s)]):=by
  rw[q5G];have h1:qB [45]=1:=rfl;unfold mag;by_cases h:s.getD 0 0=45
  ·rw[if_pos h];have a:(1:Int)<=qB s:=by
    cases s with
    | nil=>simp at h
    | cons c t=>unfold qB;simp only[qJM];omega
   have e:qfy s 1 (qB s)=s.drop 1:=by unfold qfy qB;simp
   simp only[STD,qBA,h,h1,a,and_self,qJE,show (0:Int)<=qB s by omega,show (0:Int)<=1 by omega,e]
  ·rw[if_neg h];simp only[STD,qBA,h]
 simp only[STD,h]
theorem qeb (s:qJb)(hl:s.length<=1000000000):(zb [.s s]).run=some (0,[.i (qxS s)]):=by
 rw[qq7];have hT:=qsE s;have hml:(mag s).length<=s.length:=by unfold mag;split<;>simp
 have hR:=qHI (mag s) (by omega);have hcan:=qAR s;unfold qxS;have hl3:(1024<qB (mag s))=¬((mag s).length<=1024):=by unfold qB;simp only[eq_iff_iff];omega
 by_cases hne:mag s=[]
 ·rw[if_neg (fun h=>(hcan.1 h).1 hne)];simp only[STD,hT,zV,hne]
 ·have hp:0<(mag s).length:=qKH.2 hne;have a1:(0:Int)<qB (mag s):=by unfold qB;omega
  have hs:sat (mag s) 0=((mag s)[0].toNat:Int):=qrG (i:=0) hp;have h48:((mag s)[0].toNat:Int)=48↔(mag s).getD 0 0=48:=by
   have:(mag s).getD 0 0=(mag s)[0]:=by simp[hp]
   rw[this];exact⟨fun h=>qLl.1 (by show (mag s)[0].toNat=48;omega),fun h=>by rw[h];rfl⟩
  by_cases hd:q6H (mag s)
  ·have hs1:((mag s).getD 0 0=48->s.length=1)↔(((mag s)[0].toNat:Int)=48->s=[48]):=by
    rw[h48];constructor
    ·intro h h2;obtain⟨c,e⟩:=List.length_eq_one_iff.1 (h h2);subst e;by_cases hc:c=45
     ·subst hc;exact absurd rfl hne
     ·have:mag [c]=[c]:=by unfold mag;rw[if_neg (by simpa using hc)]
      rw[this] at h2;simp at h2;rw[h2]
    ·intro h h2;rw[h h2];rfl
   by_cases hz:((mag s)[0].toNat:Int)=48
   ·by_cases h0:s=[48]
    ·rw[if_pos (hcan.2 ⟨hne,hd,hs1.2 fun _=>h0⟩)];by_cases hL:(mag s).length<=1024
     ·simp only[STD,hT,hR,zV,hne,qh5,hd,a1,hs,hz,hl3,hL,qJE,and_self];simp only[STD,h0]
     ·simp only[STD,hT,hR,zV,hne,qh5,hd,a1,hs,hz,hl3,hL,qJE,and_self];simp only[STD,h0]
    ·rw[if_neg (fun h=>h0 (hs1.1 (hcan.1 h).2.2 hz))];simp only[STD,hT,hR,zV,hne,qh5,hd,a1,hs,hz,h0,qJE,and_self]
   ·rw[if_pos (hcan.2 ⟨hne,hd,fun h=>absurd (h48.2 h) hz⟩)];by_cases hL:(mag s).length<=1024
    ·simp only[STD,hT,hR,zV,hne,qh5,hd,a1,hs,hz,hl3,hL,qJE,and_self]
    ·simp only[STD,hT,hR,zV,hne,qh5,hd,a1,hs,hz,hl3,hL,qJE,and_self]
  ·rw[if_neg (fun h=>hd (hcan.1 h).2.1)];simp only[STD,hT,hR,zV,hne,qh5,hd]
def okL(m:Int):Prop:=nl m<=1024
theorem qwC (h:okL m):qxS (tI m)=0:=by unfold qxS;rw[if_pos ⟨m,rfl⟩,qub,if_pos (show (tN m.natAbs).length<=1024 from h)]
theorem qvU (h:okL m):(tI m).length<=1025:=by have:=qtH m;unfold okL nl at h;omega
theorem qkJ (h:okL m):(zb [.s (tI m)]).run=some (0,[.i 0]):=by have:=qvU h;rw[qeb _ (by omega),qwC h]
def rS(l:List (List UInt8)):R:=l.map fun s=>[.s s]
theorem qrt (l:List (List UInt8)):qk (rS l)=l.length:=by simp[rS,qk]
theorem qBp {l:List (List UInt8)}{i:Nat}(h:i<l.length):cS (rS l) (i:Int) 0=l[i]:=by simp[cS,wy,rS,h,U.toS]
theorem qH0 {l:List (List UInt8)}(hn:l.length<1000000)(h:∀s,s∈l->(zb [.s s]).run=some (0,[.i 0])):(wA [.r (rS l)]).run=some (0,[.i 0]):=by
 rw[quI,qrt];have key:=zf (S:=q5H) (fun i=>[.r (rS l),.i (l.length:Int),.i (i:Int)]) (0,[]) l.length (by omega) (fun i hi=>by
  rw[qi3,qBp hi];have a1:(i:Int)<(l.length:Int):=by omega
  have a2:(i:Int)<qk (rS l):=by rw[qrt];exact a1
  simp only[STD,a1,a2,q8N,and_self,h _ (qJT hi),kX hi (show l.length<9223372036854775808 by omega)]) (by
  rw[qi3];have a1:¬(l.length:Int)<(l.length:Int):=by omega
  simp only[STD,a1])
 simp only[show (((0:Nat)):Int)=0 from rfl] at key;simp only[STD,key,zt key]
theorem qf4 {m n:Int}(hm:okL m)(hn:okL n):(wA [.r [[.s (tI m)],[.s (tI n)]]]).run=some (0,[.i 0]):=by
 have:=qH0 (l:=[tI m,tI n]) (by simp) (fun s hs=>by
  simp only[qJi,qKx,or_false] at hs;rcases hs with rfl|rfl
  ·exact qkJ hm
  ·exact qkJ hn)
 exact this
theorem qdp (n:Int)(h:-9223372036854775808<=n/\n<=9223372036854775807):(wJ [.i n]).run=some (0,[.s (tI n)]):=by rw[qv9];simp only[STD,qHQ n h]
theorem qaP (m:Int):(tI m=[48])=(m=0):=propext ⟨fun h=>qxN (n:=0) h,fun h=>by rw[h];rfl⟩
theorem q2A (m:Int):(yW [.s (tI m)]).run=some (0,[.i (sgn m)]):=by
 rw[qrB];have a1:(0:Int)<qB (tI m):=by have:=qnU m;unfold qB;omega
 have hs:(sat (tI m) 0=45)=(m<0):=qwZ m;unfold sgn;by_cases h0:m=0
 ·simp only[STD,zV,qaP,h0];rfl
 ·by_cases h1:m<0
  ·simp only[STD,zV,qaP,h0,a1,hs,h1,qJE,and_self]
  ·simp only[STD,zV,qaP,h0,a1,hs,h1,qJE,and_self]
theorem qmM (h:okL m):(q2z [.s (tI m)]).run=some (0,[.i (sgn m),.i 0]):=by rw[qsq];simp only[STD,qkJ h,q2A]
theorem qF8 (m n:Nat):(q5N [.s (tN m),.s (tN n)]).run=some (0,[.i (sgn ((m:Int)-(n:Int)))]):=by
 rw[qqA];have hl:(qB (tN m)=qB (tN n))=((tN m).length=(tN n).length):=by unfold qB;simp only[eq_iff_iff];omega
 have hl2:(qB (tN m)<qB (tN n))=((tN m).length<(tN n).length):=by unfold qB;simp only[eq_iff_iff];omega
 by_cases he:(tN m).length=(tN n).length
 ·have h:=qzg (zX m) (zX n) he;rw[q0G,q0G] at h;simp only[STD,hl,he,h]
 ·by_cases hlt:(tN m).length<(tN n).length
  ·have h:=(qw5 m n).1 (.inl hlt);simp only[STD,hl,hl2,he,hlt];unfold sgn;rw[if_pos (by omega)]
  ·have h:=(qw5 n m).1 (.inl (by omega));simp only[STD,hl,hl2,he,hlt];unfold sgn;rw[if_neg (by omega),if_neg (by omega)]
theorem qd3 (m:Int):(m<0/\sgn m=-1)\/(m=0/\sgn m=0)\/(0<m/\sgn m=1):=by
 unfold sgn;rcases qKQ m 0 with h|h|h
 ·rw[if_pos h];omega
 ·subst h;simp
 ·rw[if_neg (by omega),if_neg (by omega)];omega
theorem qo2 (m:Int):-1<=sgn m/\sgn m<=1:=by rcases qd3 m with⟨_,e⟩|⟨_,e⟩|⟨_,e⟩<;>omega
theorem qF3 (m n:Int):(if sgn m<sgn n then -1 else if sgn n<sgn m then 1 else sgn m*sgn ((m.natAbs:Int)-(n.natAbs:Int)))=sgn (m-n):=by
 rcases qd3 m with⟨a,ea⟩|⟨a,ea⟩|⟨a,ea⟩<;>rcases qd3 n with⟨b,eb⟩|⟨b,eb⟩|⟨b,eb⟩<;>rw[ea,eb]<;>simp only[Int.reduceLT,Int.reduceNeg,if_true,if_false] <;>
  rcases qd3 (m-n) with⟨c,ec⟩|⟨c,ec⟩|⟨c,ec⟩<;>rcases qd3 ((m.natAbs:Int)-(n.natAbs:Int)) with⟨d,ed⟩|⟨d,ed⟩|⟨d,ed⟩<;>omega
theorem qgY {m n:Int}(hm:okL m)(hn:okL n):(un [.s (tI m),.s (tI n)]).run=some (0,[.i (sgn (m-n)),.i 0]):=by
 rw[qmW];have h1:=qsE (tI m);have h2:=qsE (tI n);rw[qub] at h1 h2;have h3:=qF8 m.natAbs n.natAbs;have hw:∀a b:Int,-1<=a/\a<=1->-1<=b/\b<=1->vn .i64 a b=a*b:=fun a b ha hb=>q52 (by have:=qGD (A:=1) (B:=1) ha.1 ha.2 hb.1 hb.2;omega);have ba:=qo2 m;have bb:=qo2 n;have bc:=qo2 ((m.natAbs:Int)-(n.natAbs:Int));have e:=qF3 m n;by_cases c1:sgn m<sgn n
 ·rw[if_pos c1] at e;simp only[STD,qf4 hm hn,q2A,h1,h2,h3,c1,<-e]
 ·rw[if_neg c1] at e;by_cases c2:sgn n<sgn m
  ·rw[if_pos c2] at e;simp only[STD,qf4 hm hn,q2A,h1,h2,h3,c1,c2,<-e]
  ·rw[if_neg c2] at e;simp only[STD,qf4 hm hn,q2A,h1,h2,h3,c1,c2,hw _ _ ba bc,<-e]
theorem qmP (m:Int)(hm:nl m<=2000):∃(n:Nat) (l:List Int),(wG [.s (tI m)]).run=some (0,[.b (decide (m<0)),.i (n:Int),.r (rI l)])/\WOK n l/\nrm n l/\mv l=m.natAbs/\9*n<=nl m+8:=by
 rw[qrV];have h1:=qsE (tI m);rw[qub] at h1;have a1:(0:Int)<qB (tI m):=by have:=qnU m;unfold qB;omega
 have hb:ieq (sat (tI m) 0) 45=decide (m<0):=by rw[Bool.eq_iff_iff,qAU,qwZ];simp
 have e0:q3O 232 [.i 0]=rI (List.replicate 232 0):=qj6 232 0;have hL:(tN m.natAbs).length<=2000:=hm;obtain⟨j,qs,g1,rfl,n,l,rfl,g2,g3,g4⟩:=yI (S:=q46) (fun k ps=>∃(n:Nat) (l:List Int),ps=[.s ((tN m.natAbs).take k),.b (decide (m<0)),.i (n:Int),.r (rI l)]/\k<=(tN m.natAbs).length/\WOK n l /\
   (k=0/\9*n<=(tN m.natAbs).length+8\/k+9*n=(tN m.natAbs).length)/\((val (tN m.natAbs):Nat):Int)=((val ((tN m.natAbs).take k):Nat):Int)*pB n+mv l)
  (fun j qs=>j=0/\∃(n:Nat) (l:List Int),qs=[.b (decide (m<0)),.i (n:Int),.r (rI l)]/\WOK n l/\mv l=m.natAbs/\9*n<=(tN m.natAbs).length+8) (n:=(tN m.natAbs).length) (by omega)
  (fun k ps hk ⟨n,l,hps,hkl,hw,hkn,hv⟩=>by
   subst hps;rw[qpu];have hlk:qB ((tN m.natAbs).take k)=(k:Int):=by unfold qB;rw[qK8,qKs hkl]
   rcases qKj k with rfl|hk0
   ·right;refine⟨0,[.b (decide (m<0)),.i (n:Int),.r (rI l)],?_,rfl,n,l,rfl,hw,?_,by omega⟩
    ·have a:¬(0:Int)<qB ((tN m.natAbs).take 0):=by rw[hlk];omega
     simp only[STD,a]
    ·rw[q0G,List.take_zero,qeh] at hv;simp at hv;omega
   ·left;have hn231:n<=231:=by omega
    obtain⟨q,hq,hq9⟩:∃q:Nat,qqF 0 (yM .i64 (k:Int) 9)=(q:Int)/\q=k-9:=by refine⟨k-9,?_,rfl⟩;rw[jj (by omega)];unfold qqF;split<;>omega
    have hqk:q<=k:=by omega
    have hsub:qfy ((tN m.natAbs).take k) (q:Int) (k:Int)=((tN m.natAbs).take k).drop q:=by unfold qfy;simp[List.take_take]
    have hsub2:qfy ((tN m.natAbs).take k) 0 (q:Int)=(tN m.natAbs).take q:=by unfold qfy;simp[List.take_take,qKs hqk]
    have hdg:q6H (((tN m.natAbs).take k).drop q):=qzP (qut (zX _) k) q;have hdl:(((tN m.natAbs).take k).drop q).length=k-q:=by rw[qLd,qK8,qKs hkl]
    have hdn:((tN m.natAbs).take k).drop q≠[]:=by intro h;rw[h] at hdl;simp at hdl;omega
    have hA:=qCn (s:=((tN m.natAbs).take k).drop q) (by omega) (qv4 hdg hdn);have hvl:=q6N hdg;rw[hdl] at hvl;have hv9:val (((tN m.natAbs).take k).drop q)<1000000000:=qJW hvl (by have:(10:Nat)^(k-q)<=10^9:=qKO (by omega) (by omega);simpa using this);have b1:(0:Int)<(k:Int):=by omega
    have b2:(0:Int)<=(q:Int)/\(q:Int)<=(k:Int):=by omega
    have b3:(0:Int)<=(k:Int)/\(k:Int)<=(k:Int):=by omega
    have b4:(0:Int)<=(n:Int)/\(n:Int)<232:=by omega
    have b5:(0:Int)<=0/\(0:Int)<=(q:Int):=by omega
    have w1:qz .i64 (n:Int) 1=((n+1:Nat):Int):=by rw[zj (by omega)];omega
    have hnl:n<l.length:=by rw[hw.len];omega
    have hz:l[n]=0:=by rw[<-jE hnl];exact hw.z n (qJe _)
    have hW:=hw.setW (j:=n) (y:=((val (((tN m.natAbs).take k).drop q):Nat):Int)) (by omega) (by omega);rw[Nat.max_eq_right (by omega)] at hW;refine⟨q,[.s ((tN m.natAbs).take q),.b (decide (m<0)),.i ((n+1:Nat):Int),.r (rI (l.set n ((val (((tN m.natAbs).take k).drop q):Nat):Int)))],by omega,?_,n+1,_,rfl,by omega,hW,by omega,?_⟩
    ·simp only[STD,hlk,b1,hq,b2,b3,b4,b5,and_self,hsub,hsub2,hA,w1,qix]
    ·rw[qxO l n hnl,hz,hv];have hsp:val ((tN m.natAbs).take k)=val ((tN m.natAbs).take q)*10^(k-q)+val (((tN m.natAbs).take k).drop q):=by
      have h1:(tN m.natAbs).take k=((tN m.natAbs).take k).take q++((tN m.natAbs).take k).drop q:=(qLh q _).symm;have h2:((tN m.natAbs).take k).take q=(tN m.natAbs).take q:=by rw[List.take_take,qKs hqk]
      rw[h2] at h1;generalize ((tN m.natAbs).take k).drop q=D at *;rw[h1,qrU,hdl]
     rw[hsp,q9R];rcases qJl k 9 with h9|h9
     ·have:q=0:=by omega
      subst this;rw[List.take_zero,qeh];simp;omega
     ·have:k-q=9:=by omega
      rw[this];simp only[qL9,qK2];have e9:(((10:Nat)^9:Nat):Int)=1000000000:=by simp
      rw[e9];grind) (ps:=[.s ((tN m.natAbs).take (tN m.natAbs).length),.b (decide (m<0)),.i 0,.r (rI (List.replicate 232 0))])
  ⟨0,_,rfl,qJe _,WOK.zero,.inr (by omega),by rw[q6E,qKw,qe8];simp⟩
 rw[qKw] at g1;obtain⟨n2,t1,t2,t3⟩:=qk1 g2 (decide (m<0));refine⟨n2,l,?_,t2,t3,g3,?_⟩
 ·simp only[STD,e0,hb,h1,a1,qJE,and_self,g1,t1]
 ·have:=qIE t2 t3 g2 (qJE _);unfold nl;omega
end Go.Eng

namespace Go.Eng
variable {m:Int}{n:Nat}
theorem qFg {k n:Nat}(h:nl m<=k)(hk:k<=9*n):(m.natAbs:Int)<pB n:=by rw[qAg];have h1:=qGB h;have h2:(10:Nat)^k<=10^(9*n):=qKO (by omega) hk;omega
theorem qr8 (h:okL m):(m.natAbs:Int)<pB 114:=qFg (k:=1024) h (by omega)
theorem qsu (h:okL m):okL (-m):=by unfold okL;rw[qoj];exact h
theorem qCa:pB n+pB n<=pB (n+1):=by rw[q9R];have:=qbk n;omega
theorem qGz {b:Bool}{l:List Int}(h:0<=mv l):((sv b l).natAbs:Int)=mv l:=by unfold sv;cases b<;>simp<;>omega
theorem quH {l:List Int}(h:WOK n l)(hn:nrm n l)(b:Bool)(hk:okL (sv b l)):(wB [.b b,.i (n:Int),.r (rI l)]).run=some (0,[.s (tI (sv b l)),.i 0,.b b,.i (n:Int),.r (rI l)]):=by rw[qfJ];simp only[STD,qxx h hn,qkJ hk]
theorem qvk (m n:Int):(yS [.s (tI m),.s (tI n)]).run=some (0,if (tI m).length<=9/\(tI n).length<=9 then [.i m,.i n,.b true] else [.i 0,.i 0,.b false]):=by
 rw[qqf];have h1:(9<qB (tI m))=¬(tI m).length<=9:=by unfold qB;simp only[eq_iff_iff];omega
 have h2:(9<qB (tI n))=¬(tI n).length<=9:=by unfold qB;simp only[eq_iff_iff];omega
 by_cases a:(tI m).length<=9
 ·by_cases b:(tI n).length<=9
  ·simp only[STD,h1,h2,a,b,and_self,qCn (s:=tI m) (by omega) (qAj m),qCn (s:=tI n) (by omega) (qAj n)]
  ·simp only[STD,h1,h2,a,b,and_false]
 ·simp only[STD,h1,a,false_and]
theorem qhf (h:(tI m).length<=9):m.natAbs<1000000000:=by
 have:(tN m.natAbs).length<=9:=by
  unfold tI at h;split at h
  ·simp at h;omega
  ·exact h
 exact qJW (q63 this) (by simp)
theorem qxL (n:Int)(h:-9223372036854775808<=n/\n<=9223372036854775807):(kG [.i n]).run=some (0,[.s (tI n),.i 0]):=by rw[qnL];simp only[STD,qdp n h]
theorem qzx {l:List Int}(h:mv l=m.natAbs):sv (decide (m<0)) l=m:=by
 unfold sv;by_cases hm:m<0
 ·rw[decide_eq_true hm,if_pos rfl];omega
 ·rw[decide_eq_false hm,if_neg (by simp)];omega
theorem qHJ {m n:Int}(hm:okL m)(hn:okL n)(hs:okL (m+n)):(qah [.r [[.s (tI m)],[.s (tI n)]]]).run=some (0,[.s (tI (m+n)),.i 0]):=by
 rw[quE];have e0:q3O 232 [.i 0]=rI (List.replicate 232 0):=qj6 232 0;have lm:=qr8 hm;have ln:=qr8 hn;obtain⟨q1,l1,r1,w1,n1,v1,_⟩:=qmP m (by unfold okL at hm;omega);obtain⟨q2,l2,r2,w2,n2,v2,_⟩:=qmP n (by unfold okL at hn;omega);have hb2:=qc1 (show 115<=232 by omega);have hb1:pB 114+pB 114<=pB 115:=qCa;have hb0:=qbk 114;obtain⟨b1,k1,m1,a1,a2,a3,a4⟩:=qEr (lx:=List.replicate 232 0) (nx:=0) WOK.zero (.inl rfl) w1 n1 (by rw[qe8,v1];omega) false (decide (m<0));rw[qzx v1] at a4;have a5:sv b1 m1=m:=by
  have:sv false (List.replicate 232 0)=0:=by unfold sv;rw[if_neg (by simp),qe8]
  rw[a4,this];omega
 obtain⟨b2,k2,m2,c1,c2,c3,c4⟩:=qEr a2 a3 w2 n2 (by rw[<-qGz (b:=b1) a2.bd.1,a5,v2];omega) b1 (decide (n<0));rw[qzx v2,a5] at c4;have key:=zf (S:=q6a) (fun i=>match i with
  | 0=>[.r [[.s (tI m)],[.s (tI n)]],.i 2,.i 0,.b false,.i 0,.r (rI (List.replicate 232 0))]
  | 1=>[.r [[.s (tI m)],[.s (tI n)]],.i 2,.i 1,.b b1,.i (k1:Int),.r (rI m1)]
  | _=>[.r [[.s (tI m)],[.s (tI n)]],.i 2,.i 2,.b b2,.i (k2:Int),.r (rI m2)]) (0,[.b b2,.i (k2:Int),.r (rI m2)]) 2 (by omega) (fun i hi=>by
   have:i=0\/i=1:=by omega
   have d0:cS [[.s (tI m)],[.s (tI n)]] 0 0=tI m:=rfl;have d1:cS [[.s (tI m)],[.s (tI n)]] 1 0=tI n:=rfl;have d2:qk [[U.s (tI m)],[U.s (tI n)]]=2:=rfl;rcases this with rfl|rfl
   ·simp only;rw[qcq,d0,d2];simp only[show ((0:Nat):Int)=0 from rfl] at a1;have w:qz .i64 0 1=1:=by decide
    simp only[STD,r1,a1,w,show (0:Int)<2 by omega,show (0:Int)<=0 by omega,and_self]
   ·simp only;rw[qcq,d1,d2];have w:qz .i64 1 1=2:=by decide
    simp only[STD,r2,c1,w,show (1:Int)<2 by omega,show (0:Int)<=1 by omega,and_self]) (by
   simp only;rw[qcq];simp only[STD,show ¬(2:Int)<2 by omega])
 simp only at key;have hL:=quH c2 c3 b2 (by rw[c4];exact hs);rw[c4] at hL;have d2:qk [[U.s (tI m)],[U.s (tI n)]]=2:=rfl;simp only[e0,d2];simp only[STD,key,hL]
theorem qHc {m n:Int}(hm:okL m)(hn:okL n)(hs:okL (m+n)):(q2N [.s (tI m),.s (tI n)]).run=some (0,[.s (tI (m+n)),.i 0]):=by
 rw[quJ];have h:=qvk m n;by_cases hc:(tI m).length<=9/\(tI n).length<=9
 ·rw[if_pos hc] at h;have b1:=qhf hc.1;have b2:=qhf hc.2;have w:qz .i64 m n=m+n:=zj (by omega);simp only[STD,qf4 hm hn,h,w,qxL (m+n) (by omega)]
 ·rw[if_neg hc] at h;simp only[STD,qf4 hm hn,h,qHJ hm hn hs]
theorem qyu (hm:okL m):(q1H [.s (tI m)]).run=some (0,[.s (tI (-m))]):=by
 rw[qlo];have hl:=qvU hm;have hp:=qnU m;rcases qd3 m with⟨h,e⟩|⟨h,e⟩|⟨h,e⟩
 ·have a1:(0:Int)<=qB (tI m)/\qB (tI m)<=qB (tI m):=by unfold qB;omega
  have a2:(0:Int)<=1/\1<=qB (tI m):=by unfold qB;omega
  have a3:qfy (tI m) 1 (qB (tI m))=tI (-m):=by unfold qfy qB;rw[qbh h,qja (m:=-m) (by omega),Int.natAbs_neg];simp
  simp only[STD,q2A,e,a1,a2,a3,and_self,show ¬((-1:Int)=0) by omega,show ¬((-1:Int)=1) by omega]
 ·simp only[STD,q2A,e];rw[h];rfl
 ·have a1:qB [45]+qB (tI m)<=140737488355328:=by unfold qB;simp;omega
  have a3:qdK [45] (tI m)=tI (-m):=by unfold qdK;rw[qbh (m:=-m) (by omega),qja (m:=m) (by omega),Int.natAbs_neg];rfl
  simp only[STD,q2A,e,a1,a3,show ¬((1:Int)=0) by omega]
theorem qIp {m n:Int}(hm:okL m)(hn:okL n)(hs:okL (m-n)):(q7a [.s (tI m),.s (tI n)]).run=some (0,[.s (tI (m-n)),.i 0]):=by rw[quN];have h:=qHc hm (qsu hn) (by rwa [<-Int.sub_eq_add_neg]);rw[<-Int.sub_eq_add_neg] at h;simp only[STD,qf4 hm hn,qyu hn,h]
theorem qIn {m n:Int}(hm:okL m)(hn:okL n)(hs:okL (m*n)):(q57 [.s (tI m),.s (tI n)]).run=some (0,[.s (tI (m*n)),.i 0]):=by
 rw[qtU];have h:=qvk m n;by_cases hc:(tI m).length<=9/\(tI n).length<=9
 ·rw[if_pos hc] at h;have b1:=qhf hc.1;have b2:=qhf hc.2;have b3:=qGD (A:=999999999) (B:=999999999) (a:=m) (b:=n) (by omega) (by omega) (by omega) (by omega);have w:vn .i64 m n=m*n:=q52 (by omega);simp only[STD,qf4 hm hn,h,w,qxL (m*n) (by omega)]
 ·rw[if_neg hc] at h;unfold okL at hm hn;obtain⟨q1,l1,r1,w1,n1,v1,z1⟩:=qmP m (by omega);obtain⟨q2,l2,r2,w2,n2,v2,z2⟩:=qmP n (by omega);obtain⟨k,l,t1,t2,t3,t4⟩:=qFO w1 w2 (by omega) (decide (m<0)) (decide (n<0));have hv:sv (!(Go.Eng.beq (decide (m<0)) (decide (n<0)))) l=m*n:=by
   unfold sv;rw[t4,v1,v2];have e:((m.natAbs:Int)*(n.natAbs:Int))=(((m*n).natAbs:Nat):Int):=by rw[qKo];simp
   rw[e];unfold Go.Eng.beq;rcases qKQ m 0 with a|a|a
   ·rcases qKQ n 0 with b|b|b
    ·have:=Int.mul_pos_of_neg_of_neg a b;simp[a,b];omega
    ·subst b;simp
    ·have:=qLz a b;have b':¬n<0:=by omega
     simp[a,b'];omega
   ·subst a;simp
   ·have a':¬m<0:=by omega
    rcases qKQ n 0 with b|b|b
    ·have:=Int.mul_neg_of_pos_of_neg a b;simp[a',b];omega
    ·subst b;simp
    ·have:=Int.mul_pos a b;have b':¬n<0:=by omega
     simp[a',b'];omega
  have hL:=quH t2 t3 (!(Go.Eng.beq (decide (m<0)) (decide (n<0)))) (by rw[hv];exact hs);rw[hv] at hL;simp only[STD,qf4 hm hn,h,r1,r2,t1,hL]
theorem qC2 {l:List Int}(h:WOK n l)(hn:nrm n l){k:Nat}(hl:mv l<pB k):n<=k:=by
 rcases qJl k n with h1|h1
 ·have:=h.lo hn (by omega);have:=qc1 (show k<=n-1 by omega);omega
 ·exact h1
theorem qDR {k n:Int}(h0:n≠0)(hm:okL (k*n))(hn:okL n):(q4n [.s (tI (k*n)),.s (tI n)]).run=some (0,[.s (tI k),.s (tI 0),.i 0]):=by
 rw[qp5];have h:=qvk (k*n) n;have hz:¬tI n=[48]:=by rw[qaP];exact h0
 by_cases hc:(tI (k*n)).length<=9/\(tI n).length<=9
 ·rw[if_pos hc] at h;have b1:=qhf hc.1;have b2:=qhf hc.2;have hk:k.natAbs<=(k*n).natAbs:=by rw[qKo];have:k.natAbs*1<=k.natAbs*n.natAbs:=Nat.mul_le_mul_left _ (by omega);omega
  have w1:qa8 (k*n) n=0:=by unfold qa8;exact Int.mul_tmod_left k n
  have w2:qbR .i64 (k*n) n=k:=by rw[qKk];exact qhn h0 (by omega)
  simp only[STD,qf4 hm hn,zV,hz,h,h0,w1,w2,qdp k (by omega),qdp 0 (by omega)]
 ·rw[if_neg hc] at h;have lm:=qr8 hm;have ln:=qr8 hn;obtain⟨q1,l1,r1,w1,n1,v1,z1⟩:=qmP (k*n) (by unfold okL at hm;omega);obtain⟨q2,l2,r2,w2,n2,v2,z2⟩:=qmP n (by unfold okL at hn;omega);have hq2:q2<=114:=qC2 w2 n2 (by omega);have hq0:q2≠0:=fun h=>by rw[qjv w2 n2] at h;omega
  obtain⟨nq,lq,nr,lr,d1,d2,d3,d4,d5,d6,d7⟩:=qfL w1 w2 n2 hq0 (by omega) (decide (k*n<0)) (decide (n<0));have e1:((k*n).natAbs:Int)=(k.natAbs:Int)*(n.natAbs:Int):=by rw[qKo];simp
  rw[v1,v2,e1] at d6;rw[v2] at d7;have b4:=d4.bd.1;have hr0:mv lr=0/\mv lq=k.natAbs:=by
   have hn0:(0:Int)<(n.natAbs:Int):=by omega
   have e2:((k.natAbs:Int)-mv lq)*(n.natAbs:Int)=mv lr:=by rw[Int.sub_mul];omega
   rcases qKQ ((k.natAbs:Int)-mv lq) 0 with a|a|a
   ·have:=qLz a hn0;omega
   ·rw[a,Int.zero_mul] at e2;omega
   ·have:=qLc (show 1<=(k.natAbs:Int)-mv lq by omega) (show 0<=(n.natAbs:Int) by omega);omega
  have hnr:nr=0:=by rw[qjv d4 d5];exact hr0.1
  have hv:sv (!(Go.Eng.beq (decide (k*n<0)) (decide (n<0)))) lq=k:=by
   unfold sv;rw[hr0.2];unfold Go.Eng.beq;rcases qKQ k 0 with a|a|a
   ·rcases qKQ n 0 with b|b|b
    ·have:=Int.mul_pos_of_neg_of_neg a b;have c:¬k*n<0:=by omega
     simp[b,c];omega
    ·exact absurd b h0
    ·have c:=qLz a b;have b':¬n<0:=by omega
     simp[b',c];omega
   ·subst a;simp
   ·rcases qKQ n 0 with b|b|b
    ·have c:=Int.mul_neg_of_pos_of_neg a b;simp[b,c];omega
    ·exact absurd b h0
    ·have:=Int.mul_pos a b;have c:¬k*n<0:=by omega
     have b':¬n<0:=by omega
     simp[b',c];omega
  have hT:=qxx d2 d3 (!(Go.Eng.beq (decide (k*n<0)) (decide (n<0))));rw[hv] at hT;have hT2:=qxx d4 d5 (decide (k*n<0));have hv0:sv (decide (k*n<0)) lr=0:=by unfold sv;rw[hr0.1];split<;>rfl
  rw[hv0] at hT2;have hnr':¬(0:Int)<(nr:Int):=by omega
  simp only[STD,qf4 hm hn,zV,hz,h,r1,r2,d1,hnr',hT,hT2]
theorem qEH {m n:Int}(h:m.natAbs<=n.natAbs)(hn:okL n):okL m:=qJg (kf h) hn
theorem qID {k n:Int}(h0:n≠0)(hm:okL (k*n))(hn:okL n):(q6Z [.s (tI (k*n)),.s (tI n)]).run=some (0,[.s (tI k),.i 0]):=by rw[qtz];have hk:okL k:=qEH (by rw[qKo];have:k.natAbs*1<=k.natAbs*n.natAbs:=Nat.mul_le_mul_left _ (by omega);omega) hm;simp only[STD,qDR h0 hm hn,qkJ hk]
theorem qC5 (a b:Nat)(hb:b<9223372036854775808):(qh q1T [.i (a:Int),.i (b:Int)]).run=some (0,[.i ((Nat.gcd a b:Nat):Int)]):=by
 obtain⟨j,qs,h1,rfl,rfl⟩:=yI (S:=q1T) (fun k ps=>∃x y:Nat,ps=[.i (x:Int),.i (y:Int)]/\y=k/\Nat.gcd x y=Nat.gcd a b)
  (fun j qs=>j=0/\qs=[.i ((Nat.gcd a b:Nat):Int)]) (n:=b) hb (fun k ps hk ⟨x,y,hps,hy,hg⟩=>by
  subst hps;rw[qpm];by_cases h0:y=0
  ·right;refine⟨0,[.i (x:Int)],?_,rfl,?_⟩
   ·simp only[STD,h0];simp[]
   ·rw[<-hg,h0,Nat.gcd_zero_right]
  ·left;refine⟨x%y,[.i (y:Int),.i ((x%y:Nat):Int)],by rw[<-hy];exact qKC _ (by omega),?_,y,x%y,rfl,rfl,?_⟩
   ·simp only[STD,show ¬((y:Int)=0) by omega,qns]
   ·rw[<-hg,qKP y,<-Nat.gcd_rec,qKP]) (ps:=[.i (a:Int),.i (b:Int)]) ⟨a,b,rfl,rfl,rfl⟩
 exact h1
theorem qEG {l:List Int}(h:WOK n l)(hn:n<=1):mv l=l.getD 0 0:=by
 have:=qbN l 1 (by rw[h.len];omega);rw[vD h.dig h.z hn,qKp,Int.add_zero] at this;have hl:=h.len;obtain⟨x,t,rfl⟩:∃x t,l=x::t:=by
  cases l with
  | nil=>simp at hl
  | cons x t=>exact⟨x,t,rfl⟩
 rw[this];simp[mv]
theorem qHE {m n:Int}(hm:okL m)(hn:okL n):(q2D [.s (tI m),.s (tI n)]).run=some (0,[.s (tN (Nat.gcd m.natAbs n.natAbs)),.i 0]):=by
 rw[quO];have lm:=qr8 hm;have ln:=qr8 hn;obtain⟨q1,l1,r1,w1,n1,v1,_⟩:=qmP m (by unfold okL at hm;omega);obtain⟨q2,l2,r2,w2,n2,v2,_⟩:=qmP n (by unfold okL at hn;omega);have hm':(tN m.natAbs).length<=1024:=hm;have hn':(tN n.natAbs).length<=1024:=hn;obtain⟨j,qs,g1,g2⟩:=yI (S:=q6B) (fun k ps=>∃(x y:Nat) (b1 b2:Bool) (nx ny:Nat) (lx ly:List Int),ps=[.b b1,.i (nx:Int),.r (rI lx),.b b2,.i (ny:Int),.r (rI ly)] /\
   WOK nx lx/\nrm nx lx/\WOK ny ly/\nrm ny ly/\mv lx=x/\mv ly=y/\eM x y=k/\Nat.gcd x y=Nat.gcd m.natAbs n.natAbs/\(x:Int)<pB 114/\(y:Int)<pB 114)
  (fun j qs=>(j=0/\∃(b:Bool) (n':Nat) (l:List Int),qs=[.b b,.i (n':Int),.r (rI l)]/\WOK n' l/\nrm n' l/\mv l=((Nat.gcd m.natAbs n.natAbs:Nat):Int))\/(j=1/\qs=[.s (tN (Nat.gcd m.natAbs n.natAbs)),.i 0])) (n:=eM m.natAbs n.natAbs) (qxP (by omega) (by omega))
  (fun k ps hk ⟨x,y,b1,b2,nx,ny,lx,ly,hps,hw,hnw,hw2,hn2,hx,hy,he,hg,lx1,ly1⟩=>by
  subst hps;rw[qpR];have hxl:=hw.len;have hyl:=hw2.len;by_cases h0:ny=0
  ·right;have hy0:mv ly=0:=by rw[<-qjv hw2 hn2];exact h0
   have hy0':y=0:=by omega
   refine⟨0,[.b b1,.i (nx:Int),.r (rI lx)],?_,.inl ⟨rfl,b1,nx,lx,rfl,hw,hnw,?_⟩⟩
   ·simp only[STD,h0,show ¬(0:Int)<((0:Nat):Int) by omega]
   ·rw[hx,<-hg,hy0',Nat.gcd_zero_right]
  ·have a0:(0:Int)<(ny:Int):=by omega
   have hy0:y≠0:=fun h=>h0 (by rw[qjv hw2 hn2];omega);by_cases hc:nx<=1/\ny<=1
   ·right;have e1:=qEG hw hc.1;have e2:=qEG hw2 hc.2;have d1:cI (rI lx) 0 0=(x:Int):=by rw[show (0:Int)=((0:Nat):Int) from rfl,q5B,<-e1,hx]
    have d2:cI (rI ly) 0 0=(y:Int):=by rw[show (0:Int)=((0:Nat):Int) from rfl,q5B,<-e2,hy]
    have hy9:=hw2.get 0;rw[<-e2,hy] at hy9;have hE:=qC5 x y (by omega);have hgl:Nat.gcd x y<=y:=Nat.gcd_le_right _ (by omega);have hO:=qdp ((Nat.gcd x y:Nat):Int) (by omega);rw[q0Z] at hO;have c1:(nx:Int)<=1:=by omega
    have c2:(ny:Int)<=1:=by omega
    refine⟨1,[.s (tN (Nat.gcd x y)),.i 0],?_,.inr ⟨rfl,by rw[hg]⟩⟩;simp only[STD,a0,c1,c2,d1,d2,hE,hO]
   ·left;have hny:ny<=114:=qC2 hw2 hn2 (by omega);obtain⟨nq,lq,nr,lr,d1,d2,d3,d4,d5,d6,d7⟩:=qfL hw hw2 hn2 h0 (by omega) b1 b2;have hr:mv lr=((x%y:Nat):Int):=by
     have b4:=d4.bd.1;rw[hx,hy] at d6;rw[hy] at d7;have hy1:(0:Int)<(y:Int):=by omega
     have:=(Int.ediv_emod_unique hy1 (a:=(x:Int)) (r:=mv lr) (q:=mv lq)).2 ⟨by rw[qKk];omega,b4,d7⟩;rw[<-this.2];simp
    refine⟨eM y (x%y),[.b b2,.i (ny:Int),.r (rI ly),.b false,.i (nr:Int),.r (rI lr)],by rw[<-he];exact qBR hy0,?_,y,x%y,b2,false,ny,nr,ly,lr,rfl,hw2,hn2,d4,d5,hy,hr,rfl,?_,ly1,?_⟩
    ·by_cases c1:nx<=1
     ·have c2:¬(ny:Int)<=1:=by omega
      have c1':(nx:Int)<=1:=by omega
      simp only[STD,a0,c1',c2,d1]
     ·have c1':¬(nx:Int)<=1:=by omega
      simp only[STD,a0,c1',d1]
    ·rw[<-hg,qKP y,<-Nat.gcd_rec,qKP]
    ·have:=qKC x (show 0<y by omega);omega) (ps:=[.b (decide (m<0)),.i (q1:Int),.r (rI l1),.b (decide (n<0)),.i (q2:Int),.r (rI l2)])
  ⟨m.natAbs,n.natAbs,_,_,q1,q2,l1,l2,rfl,w1,n1,w2,n2,v1,v2,rfl,rfl,lm,ln⟩
 rcases g2 with⟨rfl,b,n',l,rfl,a1,a2,a3⟩|⟨rfl,rfl⟩
 ·have hT:=qxx a1 a2 false;have hv:sv false l=((Nat.gcd m.natAbs n.natAbs:Nat):Int):=by unfold sv;rw[a3];rfl
  rw[hv,q0Z] at hT;simp only[STD,qf4 hm hn,r1,r2,g1,zt g1,hT]
 ·simp only[STD,qf4 hm hn,r1,r2,g1,zt g1,show ¬(1=0) by omega]
end Go.Eng

namespace Go.Eng
variable {q:Rat}
theorem qaS:okL 1:=by show nl 1<=1024;decide
theorem q9n:okL 0:=by show nl 0<=1024;decide
theorem qI2 (s:qJb)(hl:s.length<=1000000000):(q6e [.s s,.s [47]]).run=some (0,if sP s<s.length then [.s (s.take (sP s)),.s (s.drop (sP s+1)),.b true] else [.s s,.s [],.b false]):=by
 rw[qqC];have h:(ww [.s s,.s [47]]).run=some (0,if sP s<s.length then [.s (s.take (sP s)),.s (s.drop (sP s+1)),.b true] else [.s s,.s [],.b false]):=by
  rw[qaK];have hI:=qFM s;by_cases hc:sP s<s.length
  ·rw[if_pos hc] at hI ⊢;have w:qz .i64 (sP s:Int) (qB [47])=((sP s+1:Nat):Int):=by show qz .i64 (sP s:Int) 1=_;rw[zj (by omega)];omega
   have a1:(0:Int)<=(sP s:Int)/\(sP s:Int)<=qB s:=by unfold qB;omega
   have a2:(0:Int)<=0/\(0:Int)<=(sP s:Int):=by omega
   have a3:(0:Int)<=qB s/\qB s<=qB s:=by unfold qB;omega
   have a4:(0:Int)<=((sP s+1:Nat):Int)/\((sP s+1:Nat):Int)<=qB s:=by unfold qB;omega
   have e1:qfy s 0 (sP s:Int)=s.take (sP s):=by unfold qfy;simp
   have e2:qfy s ((sP s+1:Nat):Int) (qB s)=s.drop (sP s+1):=by unfold qfy qB;simp only[qJq];rw[qKw]
   simp only[STD,hI,a1.1,a1.2,a2,a3,a4,and_self,w,e1,e2]
  ·rw[if_neg hc] at hI ⊢;have a:¬(0:Int)<=-1:=by omega
   simp only[STD,hI,a]
 by_cases hc:sP s<s.length
 ·rw[if_pos hc] at h ⊢;simp only[STD,h]
 ·rw[if_neg hc] at h ⊢;simp only[STD,h]
theorem qHa (s:qJb)(hl:s.length<=1000000000):(qK [.s s]).run=some (0,[.s (spn s),.s (spd s),.b (decide (sP s<s.length))]):=by
 rw[qu1];have h:=qI2 s hl;unfold spn spd;by_cases hc:sP s<s.length
 ·rw[if_pos hc] at h ⊢;rw[decide_eq_true hc];simp only[STD,h]
 ·rw[if_neg hc] at h ⊢;have:sP s=s.length:=by have:=qG7 s;omega
  rw[decide_eq_false hc,this,qKw];simp only[STD,h]
theorem qHz (q:Rat):(sP (tQ q)<(tQ q).length)=(q.den≠1):=by
 by_cases h:q.den=1
 ·rw[qac h,qvt (qqi _)];simp[h]
 ·rw[q62 h,qBl (qqi _)];simp[h]
def okQ(q:Rat):Prop:=qn q<=1024/\qd q<=1024
theorem q26 (h:okQ q):okL q.num:=h.1
theorem uL (h:okQ q):okL (q.den:Int):=h.2
theorem qnY (h:okQ q):(tQ q).length<=3000:=by have:=qGJ q;have:=h.1;have:=h.2;omega
theorem q6O (h:okQ q):(qK [.s (tQ q)]).run=some (0,[.s (tI q.num),.s (tI (q.den:Int)),.b (decide (q.den≠1))]):=by have:=qnY h;rw[qHa _ (by omega),qEJ,qEg,q0Z];simp only[qHz]
open Classical in
noncomputable def vI(s:qJb):Int:=if h:∃m:Int,s=tI m then h.choose else 0
theorem qzU (m:Int):vI (tI m)=m:=by unfold vI;have h:∃k:Int,tI m=tI k:=⟨m,rfl⟩;rw[dif_pos h];exact(qxN h.choose_spec).symm
theorem qrT {s:qJb}(h:qxS s=0):∃m:Int,s=tI m/\okL m:=by
 unfold qxS at h;split at h
 ·rename_i hm;obtain⟨m,rfl⟩:=hm;rw[qub] at h;split at h
  ·rename_i hl;exact⟨m,rfl,hl⟩
  ·omega
 ·omega
theorem qtt (s:qJb):qxS s=0\/qxS s=3\/qxS s=11:=by
 unfold qxS;split
 ·split<;>simp
 ·simp
noncomputable def qpX(s:qJb):Int:=
 if qxS (spn s)=3 then 3 else if qxS (spd s)=3 then 3 else if qxS (spn s)≠0 then 11 else if qxS (spd s)≠0 then 11
 else if sP s<s.length then (if sgn (vI (spd s)-1)<=0 then 3 else if Nat.gcd (vI (spn s)).natAbs (vI (spd s)).natAbs=1 then 0 else 3) else 0
theorem qHb (s:qJb):(spn s).length<=s.length:=by unfold spn;rw[qK8];omega
theorem qHm (s:qJb):(spd s).length<=s.length+1:=by unfold spd;split<;>simp<;>omega
theorem q9l (s:qJb)(hl:s.length<=100000000):(z8 [.s s]).run=some (0,[.i (qpX s)]):=by
 rw[qqB];have hn:=qHb s;have hd:=qHm s;have h1:=qeb (spn s) (by omega);have h2:=qeb (spd s) (by omega);have hc:=qHa s (by omega);have mx:qqF 11 0=11/\qqF 11 11=11/\qqF 0 11=11:=by decide
 unfold qpX;rcases qtt (spn s) with a|a|a<;>rcases qtt (spd s) with b|b|b<;>rw[a] at h1 ⊢<;>rw[b] at h2 ⊢
 ·obtain⟨m,em,om⟩:=qrT a;obtain⟨n,en,on⟩:=qrT b;rw[em] at h1 hc ⊢;rw[en] at h2 hc ⊢;have hC:=qgY on (n:=1) qaS;rw[qEV] at hC;have hG:=qHE om on;rw[qzU,qzU];by_cases hs:sP s<s.length
  ·by_cases ho:sgn (n-1)<=0
   ·simp only[STD,hc,h1,h2,hs,hC,hG,ho,show ¬((0:Int)=3) by omega,show ¬((0:Int)≠0) by omega]
   ·by_cases hg:Nat.gcd m.natAbs n.natAbs=1
    ·simp only[STD,hc,h1,h2,hs,hC,hG,ho,hg,zV,q9I,show ¬((0:Int)=3) by omega,show ¬((0:Int)≠0) by omega]
    ·simp only[STD,hc,h1,h2,hs,hC,hG,ho,hg,zV,q9I,show ¬((0:Int)=3) by omega,show ¬((0:Int)≠0) by omega]
  ·simp only[STD,hc,h1,h2,hs,show ¬((0:Int)=3) by omega,show ¬((0:Int)≠0) by omega]
 all_goals simp only[STD,hc,h1,h2,mx,show ¬((0:Int)=3) by omega,show ¬((11:Int)=3) by omega,show ¬((11:Int)=0) by omega,show ¬((3:Int)=0) by omega]
theorem qsw (h:okQ q):qpX (tQ q)=0:=by
 unfold qpX;have e1:spd (tQ q)=tI (q.den:Int):=by rw[qEg,q0Z]
 rw[qEJ,e1,qwC (q26 h),qwC (uL h)];simp only[qzU,qHz];by_cases hd:q.den=1
 ·simp[hd]
 ·have:=q.den_nz;have hs:¬sgn ((q.den:Int)-1)<=0:=by unfold sgn;rw[if_neg (by omega),if_neg (by omega)];omega
  have hr:Nat.gcd q.num.natAbs q.den=1:=q.reduced;simp[hd,hs,hr]
theorem qGd {s:qJb}(h:qpX s=0):∃q:Rat,s=tQ q/\okQ q:=by
 unfold qpX at h;split at h
 ·omega
 split at h
 ·omega
 split at h
 ·omega
 split at h
 ·omega
 rename_i h1 h2 h3 h4;obtain⟨m,em,om⟩:=qrT (Decidable.byContradiction fun h=>h3 h);obtain⟨n,en,on⟩:=qrT (Decidable.byContradiction fun h=>h4 h);rw[em,en,qzU,qzU] at h;split at h
 ·rename_i hs;split at h
  ·omega
  rename_i hsg;split at h
  ·rename_i hg;have hn1:1<n:=by
    unfold sgn at hsg;by_cases c1:n-1<0
    ·rw[if_pos c1] at hsg;omega
    ·rw[if_neg c1] at hsg;by_cases c2:n-1=0
     ·rw[if_pos c2] at hsg;omega
     ·omega
   obtain⟨k,rfl⟩:∃k:Nat,n=(k:Int):=⟨n.toNat,by omega⟩;refine⟨⟨m,k,by omega,hg⟩,?_,om,on⟩;rw[q62 (show k≠1 by omega)];have hslash:s=spn s++47::spd s:=by
    unfold spn spd;rw[if_pos hs];have h47:s[sP s]=47:=by have:=List.findIdx_getElem (p:=(·==47)) (w:=hs);exact eq_of_beq this
    rw[<-h47,List.getElem_cons_drop,qLh]
   rw[hslash,em,en,q0Z]
  ·omega
 ·rename_i hs;have e:sP s=s.length:=by have:=qG7 s;omega
  have hsn:spn s=s:=by unfold spn;rw[e,qKw]
  refine⟨(m:Rat),?_,?_,?_⟩
  ·rw[qvW,<-em,hsn]
  ·have:nl m<=1024:=om;unfold qn;simpa using this
  ·unfold qd;simp;decide
theorem qIg (m:Int):nl m<=(tI m).length:=by unfold nl tI;split<;>simp
theorem qpj (q:Rat):qn q<=(tQ q).length/\(q.den=1\/qn q+1+qd q<=(tQ q).length):=by
 have h1:=qIg q.num;by_cases h:q.den=1
 ·rw[qac h];exact⟨h1,.inl h⟩
 ·rw[q62 h];unfold qn qd dl;simp;omega
theorem qjF {l:List (List UInt8)}(hn:l.length<1000000)(h:∀s,s∈l->(z8 [.s s]).run=some (0,[.i 0])):(qA [.r (rS l)]).run=some (0,[.i 0]):=by
 rw[qoL,qrt];have key:=zf (S:=q1y) (fun i=>[.r (rS l),.i (l.length:Int),.i (i:Int)]) (0,[]) l.length (by omega) (fun i hi=>by
  rw[qd1,qBp hi];have a1:(i:Int)<(l.length:Int):=by omega
  have a2:(i:Int)<qk (rS l):=by rw[qrt];exact a1
  simp only[STD,a1,a2,q8N,and_self,h _ (qJT hi),kX hi (show l.length<9223372036854775808 by omega)]) (by
  rw[qd1];have a1:¬(l.length:Int)<(l.length:Int):=by omega
  simp only[STD,a1])
 simp only[show (((0:Nat)):Int)=0 from rfl] at key;simp only[STD,key,zt key]
theorem q3m (h:okQ q):(z8 [.s (tQ q)]).run=some (0,[.i 0]):=by have:=qnY h;rw[q9l _ (by omega),qsw h]
theorem qgG {a b:Rat}(ha:okQ a)(hb:okQ b):(qA [.r [[.s (tQ a)],[.s (tQ b)]]]).run=some (0,[.i 0]):=by
 exact qjF (l:=[tQ a,tQ b]) (by simp) (fun s hs=>by
  simp only[qJi,qKx,or_false] at hs;rcases hs with rfl|rfl
  ·exact q3m ha
  ·exact q3m hb)
theorem qEX {m n:Int}(hm:okL m)(hn:okL n)(h:okL (m+n)):(yw [.s (tI m),.s (tI n),.i 0]).run=some (0,[.s (tI (m+n)),.i 0]):=by
 rw[qlz];have:(wR [.s (tI m),.s (tI n),.i 0]).run=some (0,[.s (tI (m+n)),.i 0]):=by rw[qbg];simp only[STD,qHc hm hn h]
 simp only[STD,this]
theorem qwG {m n:Int}(hm:okL m)(hn:okL n)(h:okL (m-n)):(zu [.s (tI m),.s (tI n),.i 0]).run=some (0,[.s (tI (m-n)),.i 0]):=by
 rw[qm0];have:(wQ [.s (tI m),.s (tI n),.i 0]).run=some (0,[.s (tI (m-n)),.i 0]):=by rw[qb9];simp only[STD,qIp hm hn h]
 simp only[STD,this]
theorem qFb {m n:Int}(hm:okL m)(hn:okL n)(h:okL (m*n)):(zL [.s (tI m),.s (tI n),.i 0]).run=some (0,[.s (tI (m*n)),.i 0]):=by rw[qbc];simp only[STD,qIn hm hn h]
theorem qFP {m n:Int}(hm:okL m)(hn:okL n):(wM [.s (tI m),.s (tI n),.i 0]).run=some (0,[.s (tN (Nat.gcd m.natAbs n.natAbs)),.i 0]):=by rw[qb1];simp only[STD,qHE hm hn]
theorem qt8 {k n:Int}(h0:n≠0)(hm:okL (k*n))(hn:okL n):(qW [.s (tI (k*n)),.s (tI n),.i 0]).run=some (0,[.s (tI k),.i 0]):=by rw[qba];simp only[STD,qID h0 hm hn]
def prd:Int->List Int->Int
 | a,[]=>a
 | a,m::l=>prd (a*m) l
def qFn:Int->List Int->Prop
 | a,[]=>okL a
 | a,m::l=>okL a/\okL m/\qFn (a*m) l
theorem qA6:∀(l:List Int) (pre:List Int) (a:Int),qFn a l->pre.length+l.length<1000->∀f,l.length<f ->
  (qjt jX f [.s (tI a),.r (rS ((pre++l).map tI)),.i ((pre++l).length:Int),.i (pre.length:Int),.i 0]).run=some (0,[.s (tI (prd a l)),.i 0])
 | [],pre,a,h,hl,f,hf=>by
  obtain⟨f,rfl⟩:∃g,f=g+1:=⟨f-1,by simp at hf;omega⟩;refine q7Q ?_;rw[qak,qKl];have a1:¬(pre.length:Int)<(pre.length:Int):=by omega
  simp only[STD,a1];rfl
 | m::l,pre,a,h,hl,f,hf=>by
  obtain⟨f,rfl⟩:∃g,f=g+1:=⟨f-1,by simp at hf;omega⟩;obtain⟨h1,h2,h3⟩:=h;have hlt:pre.length<(pre++m::l).length:=by simp
  have ih:=qA6 l (pre++[m]) (a*m) h3 (by simp at hl ⊢;omega) f (by simp at hf;omega);rw[qJQ,List.singleton_append] at ih;have hok:okL (a*m):=by
   cases l with
   | nil=>exact h3
   | cons x l=>exact h3.1
  rw[qhe (qs:=[.s (tI (a*m)),.r (rS ((pre++m::l).map tI)),.i ((pre++m::l).length:Int),.i ((pre++[m]).length:Int),.i 0])]
  ·exact ih
  ·rw[qak];have hlt2:pre.length<((pre++m::l).map tI).length:=by simp
   rw[qBp hlt2];have e:((pre++m::l).map tI)[pre.length]=tI m:=by simp
   rw[e];have a1:(pre.length:Int)<((pre++m::l).length:Int):=by omega
   have a2:(pre.length:Int)<qk (rS ((pre++m::l).map tI)):=by rw[qrt];omega
   have w:qz .i64 (pre.length:Int) 1=((pre++[m]).length:Int):=by rw[zj (by omega)];simp
   simp only[STD,a1,a2,q8N,and_self,qFb h1 h2 hok,w]
theorem qth (l:List Int)(h:qFn 1 l)(hl:l.length<1000):(qf [.r (rS (l.map tI)),.i 0]).run=some (0,[.s (tI (prd 1 l)),.i 0]):=by
 rw[ql3,qrt];have h1:=qA6 l [] 1 h (by simp;omega) qgq (by unfold qgq;omega);simp only[qKm,qKr] at h1;have e:(qh jX [.s [49],.r (rS (l.map tI)),.i ((l.map tI).length:Int),.i 0,.i 0]).run=some (0,[.s (tI (prd 1 l)),.i 0]):=by rw[qJm];exact h1
 simp only[STD,e]
theorem qa2 {m n:Int}(hm:okL m)(hn:okL n)(h:okL (m*n)):(qf [.r [[.s (tI m)],[.s (tI n)]],.i 0]).run=some (0,[.s (tI (m*n)),.i 0]):=by have:=qth [m,n] ⟨qaS,hm,by rw[qJP];exact hm,hn,by rw[qJP];exact h⟩ (by simp);simp only[prd,qJP] at this;exact this
theorem qtI (h:okQ q):(q1U [.s (tI q.num),.s (tI (q.den:Int))]).run=some (0,[.s (tQ q)]):=by
 rw[qoa,q0Z];have l1:=qvU (q26 h);have l2:(tN q.den).length<=1024:=h.2;have a1:qB (tI q.num)+qB [47]<=140737488355328:=by unfold qB;simp;omega
 have a2:qB (qdK (tI q.num) [47])+qB (tN q.den)<=140737488355328:=by unfold qB qdK;simp;omega
 by_cases h1:q.den=1
 ·simp only[STD,zV,q9I,h1,qac h1]
 ·simp only[STD,zV,q9I,h1,q62 h1,a1,a2];simp[qdK]
theorem qE4 (s:qJb):(ul [.s s,.s [45]]).run=some (0,[.b (decide (s.getD 0 0=45))]):=by rw[qhM];simp only[STD,qBA]
theorem qCl (n:Int):((tI n).getD 0 0=45)=(n<0):=by
 by_cases h:n<0
 ·rw[qbh h];simp[h]
 ·rw[qja h];obtain⟨c,t,e,h1,h2⟩:=qh9 (zX n.natAbs) (qoz _);rw[e];simp only[qLv,h,eq_iff_iff,iff_false];intro hc;subst hc;revert h1;decide
theorem qnB {m n:Int}(hn0:n≠0)(hm:okL m)(hn:okL n):(z6 [.s (tI m),.s (tI n),.i 0]).run=some (0,[.s (tQ (Rat.divInt m n)),.i 0])/\okQ (Rat.divInt m n):=by
 have hG:=qFP hm hn;have hg0:0<Nat.gcd m.natAbs n.natAbs:=Nat.gcd_pos_of_pos_right _ (by omega);have hgn:Nat.gcd m.natAbs n.natAbs<=n.natAbs:=Nat.gcd_le_right _ (by omega);have hnum:=Rat.num_divInt m n;have hden:=Rat.den_divInt m n;rw[if_neg hn0] at hden;have hgc:Int.gcd n m=Nat.gcd m.natAbs n.natAbs:=by unfold Int.gcd;exact qKP _ _
 rw[hgc] at hnum hden;obtain⟨k,hk⟩:((Nat.gcd m.natAbs n.natAbs:Nat):Int) ∣ m:=Int.ofNat_dvd_left.2 (Nat.gcd_dvd_left _ _);obtain⟨l,hl⟩:((Nat.gcd m.natAbs n.natAbs:Nat):Int) ∣ n:=Int.ofNat_dvd_left.2 (Nat.gcd_dvd_right _ _);generalize Nat.gcd m.natAbs n.natAbs=g at *;generalize Rat.divInt m n=q at *;have hgok:okL (g:Int):=qEH (by simpa using hgn) hn;have hm2:k*(g:Int)=m:=by rw[qKk];exact hk.symm
 have hn2:l*(g:Int)=n:=by rw[qKk];exact hl.symm
 have hgz:(g:Int)≠0:=by omega
 have hok:okQ q:=by
  constructor
  ·refine qJg (qj2 ?_) hm;rw[hnum];refine qJg (qLb _ _) ?_;rw[qKo,qLy hn0];omega
  ·refine qJg (kf ?_) hn;rw[hden];exact qL2 _ _
 refine⟨?_,hok⟩;rw[qhv];have hP:=qE4 (tI n);simp only[qCl] at hP;by_cases hneg:n<0
 ·have e1:-k=q.num:=by rw[hnum,Int.sign_eq_neg_one_of_neg hneg,<-hm2];rw[show (-1:Int)*(k*(g:Int))=(-k)*(g:Int) by rw[Int.neg_mul,qJP,Int.neg_mul]];exact(qL3 _ hgz).symm
  have e2:-l=(q.den:Int):=by
   rw[hden];have h3:(n.natAbs:Int)=(-l)*(g:Int):=by rw[Int.neg_mul];omega
   rw[Int.natCast_ediv,h3,qL3 _ hgz]
  have hS:=qwG (m:=0) (n:=(g:Int)) q9n hgok (by rw[Int.zero_sub];exact qsu hgok);rw[Int.zero_sub,q0Z] at hS;have Q1:=qt8 (k:=-k) (n:=-(g:Int)) (by omega) (by rw[qLm,hm2];exact hm) (qsu hgok);have Q2:=qt8 (k:=-l) (n:=-(g:Int)) (by omega) (by rw[qLm,hn2];exact hn) (qsu hgok);rw[qLm,hm2,e1] at Q1;rw[qLm,hn2,e2] at Q2;have hS':(zu [.s [48],.s (tN g),.i 0]).run=some (0,[.s (tI (-(g:Int))),.i 0]):=hS;simp only[STD,hG,hP,hneg,hS',Q1,Q2,qtI hok]
 ·have e1:k=q.num:=by rw[hnum,Int.sign_eq_one_of_pos (by omega),qJP,<-hm2];exact(qL3 _ hgz).symm
  have e2:l=(q.den:Int):=by
   rw[hden];have h3:(n.natAbs:Int)=l*(g:Int):=by omega
   rw[Int.natCast_ediv,h3,qL3 _ hgz]
  have Q1:=qt8 (k:=k) (n:=(g:Int)) hgz (by rw[hm2];exact hm) hgok;have Q2:=qt8 (k:=l) (n:=(g:Int)) hgz (by rw[hn2];exact hn) hgok;rw[hm2,e1,q0Z] at Q1;rw[hn2,e2,q0Z] at Q2;simp only[STD,hG,hP,hneg,Q1,Q2,qtI hok]
end Go.Eng

namespace Go.Eng
variable {q:Rat}
theorem qz8 (a b:Rat):Rat.divInt (a.num*b.den+b.num*a.den) ((a.den:Int)*(b.den:Int))=a+b:=by rw[Rat.add_def',<-Rat.divInt_ofNat];simp
theorem qy4 (a b:Rat):Rat.divInt (a.num*b.den-b.num*a.den) ((a.den:Int)*(b.den:Int))=a-b:=by rw[Rat.sub_def',<-Rat.divInt_ofNat];simp
theorem qzn (a b:Rat):Rat.divInt (a.num*b.num) ((a.den:Int)*(b.den:Int))=a*b:=by rw[Rat.mul_def',<-Rat.divInt_ofNat];simp
theorem qyY (a b:Rat):Rat.divInt (a.num*b.den) ((a.den:Int)*b.num)=a/b:=by rw[Rat.div_def,Rat.inv_def,<-Rat.divInt_mul_divInt,Rat.num_divInt_den]
theorem qme (a b:Rat):(a.den:Int)*(b.den:Int)≠0:=by have:=Int.mul_pos (qDw a) (qDw b);omega
theorem qI9 {m:Int}(h:m≠0):¬tI m=[48]:=by rw[qaP];exact h
def bnd(N D:Nat)(q:Rat):Prop:=qn q<=N/\qd q<=D
theorem bnd.ok {N D:Nat}(h:bnd N D q)(hN:N<=1024)(hD:D<=1024):okQ q:=⟨qJg h.1 hN,qJg h.2 hD⟩
theorem bnd.sm {N D K:Nat}(h:bnd N D q)(hN:N<=K)(hD:D<=K):sm K q:=⟨qJg h.1 hN,qJg h.2 hD⟩
theorem bnd.mono {N D N' D':Nat}(h:bnd N D q)(hN:N<=N')(hD:D<=D'):bnd N' D' q:=⟨qJg h.1 hN,qJg h.2 hD⟩
theorem bnd.mul {N D N' D':Nat}{a b:Rat}(ha:bnd N D a)(hb:bnd N' D' b):bnd (N+N') (D+D') (a*b):=⟨qJg (qEI a b) (Nat.add_le_add ha.1 hb.1),qJg (qEw a b) (Nat.add_le_add ha.2 hb.2)⟩
theorem bnd.add {N D N' D' K:Nat}{a b:Rat}(ha:bnd N D a)(hb:bnd N' D' b)(h1:N+D'+1<=K)(h2:N'+D+1<=K):bnd K (D+D') (a+b):=⟨by have:=qHh a b;have:=ha.1;have:=ha.2;have:=hb.1;have:=hb.2;omega,by have:=qGG a b;have:=ha.2;have:=hb.2;omega⟩
theorem bnd.sub {N D N' D' K:Nat}{a b:Rat}(ha:bnd N D a)(hb:bnd N' D' b)(h1:N+D'+1<=K)(h2:N'+D+1<=K):bnd K (D+D') (a-b):=⟨by have:=qHU a b;have:=ha.1;have:=ha.2;have:=hb.1;have:=hb.2;omega,by have:=qHT a b;have:=ha.2;have:=hb.2;omega⟩
theorem bnd.div {N D N' D':Nat}{a b:Rat}(h0:b≠0)(ha:bnd N D a)(hb:bnd N' D' b):bnd (N+D') (D+N') (a/b):=⟨by have:=qHD a h0;have:=ha.1;have:=hb.2;omega,by have:=qGO a h0;have:=ha.2;have:=hb.1;omega⟩
theorem bnd.neg {N D:Nat}{a:Rat}(h:bnd N D a):bnd N D (-a):=⟨by rw[qHr];exact h.1,h.2⟩
theorem q2c:bnd 1 1 0:=⟨by decide,by decide⟩
theorem qwh:bnd 1 1 1:=⟨by decide,by decide⟩
theorem qrK:bnd 1 1 2:=⟨by decide,by decide⟩
theorem q8d {m n:Int}{N M:Nat}(hm:nl m<=N)(hn:nl n<=M)(h:N+M<=1024):okL (m*n):=by have:=q4t m n;unfold okL;omega
theorem qdN {N D N' D':Nat}{a b:Rat}(ha:bnd N D a)(hb:bnd N' D' b)(h1:N+N'<=1024)(h2:D+D'<=1024):(vl [.s (tQ a),.s (tQ b)]).run=some (0,[.s (tQ (a*b)),.i 0]):=by
 have oa:=ha.ok (by omega) (by omega);have ob:=hb.ok (by omega) (by omega);have k1:okL (a.num*b.num):=q8d ha.1 hb.1 h1;have k2:okL ((a.den:Int)*(b.den:Int)):=q8d ha.2 hb.2 h2;have m1:=qa2 (q26 oa) (q26 ob) k1;have m2:=qa2 (uL oa) (uL ob) k2;have hL:=(qnB (qme a b) k1 k2).1;rw[qzn] at hL;rw[qu0];have key:(vu [.s (tQ a),.s (tQ b)]).run=some (0,[.s (tQ (a*b)),.i 0]):=by
  rw[qbU];have h1:(q3l [.s (tI a.num),.s (tI (a.den:Int)),.s (tI b.num),.s (tI (b.den:Int)),.i 0]).run=some (0,[.s (tI (a.num*b.num)),.s (tI ((a.den:Int)*(b.den:Int))),.i 0]):=by rw[qpT];simp only[STD,m1,m2]
  simp only[STD,qgG oa ob,q6O oa,q6O ob,h1,zV,qI9 (qme a b),hL]
 simp only[STD,key]
theorem qdP {N D N' D':Nat}{a b:Rat}(ha:bnd N D a)(hb:bnd N' D' b)(h1:N+D'<=1023)(h2:N'+D<=1023)(h3:D+D'<=1024):(vY [.s (tQ a),.s (tQ b)]).run=some (0,[.s (tQ (a+b)),.i 0]):=by
 have p1:=qkQ a;have p2:=qkQ b;have p3:=qqQ a;have p4:=qqQ b;have oa:okQ a:=⟨by have:=ha.1;have:=hb.2;omega,by have:=ha.2;have:=hb.2;omega⟩;have ob:okQ b:=⟨by have:=hb.1;have:=ha.2;omega,by have:=ha.2;have:=hb.2;omega⟩;have k1:okL (a.num*(b.den:Int)):=q8d ha.1 hb.2 (by omega);have k2:okL (b.num*(a.den:Int)):=q8d hb.1 ha.2 (by omega);have k3:okL ((a.den:Int)*(b.den:Int)):=q8d ha.2 hb.2 h3;have k4:okL (a.num*(b.den:Int)+b.num*(a.den:Int)):=by have q1:=quj (a.num*(b.den:Int)) (b.num*(a.den:Int));have q2:=q4t a.num (b.den:Int);have q3:=q4t b.num (a.den:Int);have q4:nl a.num<=N:=ha.1;have q5:nl (b.den:Int)<=D':=hb.2;have q6:nl b.num<=N':=hb.1;have q7:nl (a.den:Int)<=D:=ha.2;unfold okL;omega
 have m1:=qa2 (q26 oa) (uL ob) k1;have m2:=qa2 (q26 ob) (uL oa) k2;have m3:=qa2 (uL oa) (uL ob) k3;have hL:=(qnB (qme a b) k4 k3).1;rw[qz8] at hL;rw[quZ];have key:(vE [.s (tQ a),.s (tQ b)]).run=some (0,[.s (tQ (a+b)),.i 0]):=by
  rw[qbX];have h1:(q37 [.s (tI a.num),.s (tI (a.den:Int)),.s (tI b.num),.s (tI (b.den:Int)),.i 0]).run=some (0,[.s (tI (a.num*b.den+b.num*a.den)),.s (tI ((a.den:Int)*(b.den:Int))),.i 0]):=by rw[qpW];simp only[STD,m1,m2,m3,qEX k1 k2 k4]
  simp only[STD,qgG oa ob,q6O oa,q6O ob,h1,zV,qI9 (qme a b),hL]
 simp only[STD,key]
theorem q7q {N D N' D':Nat}{a b:Rat}(ha:bnd N D a)(hb:bnd N' D' b)(h1:N+D'<=1023)(h2:N'+D<=1023)(h3:D+D'<=1024):(zF [.s (tQ a),.s (tQ b)]).run=some (0,[.s (tQ (a-b)),.i 0]):=by
 have p1:=qkQ a;have p2:=qkQ b;have p3:=qqQ a;have p4:=qqQ b;have oa:okQ a:=⟨by have:=ha.1;have:=hb.2;omega,by have:=ha.2;have:=hb.2;omega⟩;have ob:okQ b:=⟨by have:=hb.1;have:=ha.2;omega,by have:=ha.2;have:=hb.2;omega⟩;have k1:okL (a.num*(b.den:Int)):=q8d ha.1 hb.2 (by omega);have k2:okL (b.num*(a.den:Int)):=q8d hb.1 ha.2 (by omega);have k3:okL ((a.den:Int)*(b.den:Int)):=q8d ha.2 hb.2 h3;have k4:okL (a.num*(b.den:Int)-b.num*(a.den:Int)):=by have q1:=qBt (a.num*(b.den:Int)) (b.num*(a.den:Int));have q2:=q4t a.num (b.den:Int);have q3:=q4t b.num (a.den:Int);have q4:nl a.num<=N:=ha.1;have q5:nl (b.den:Int)<=D':=hb.2;have q6:nl b.num<=N':=hb.1;have q7:nl (a.den:Int)<=D:=ha.2;unfold okL;omega
 have m1:=qa2 (q26 oa) (uL ob) k1;have m2:=qa2 (q26 ob) (uL oa) k2;have m3:=qa2 (uL oa) (uL ob) k3;have hL:=(qnB (qme a b) k4 k3).1;rw[qy4] at hL;rw[qtB];have key:(vG [.s (tQ a),.s (tQ b)]).run=some (0,[.s (tQ (a-b)),.i 0]):=by
  rw[qcD];have h1:(q2Y [.s (tI a.num),.s (tI (a.den:Int)),.s (tI b.num),.s (tI (b.den:Int)),.i 0]).run=some (0,[.s (tI (a.num*b.den-b.num*a.den)),.s (tI ((a.den:Int)*(b.den:Int))),.i 0]):=by rw[qqE];simp only[STD,m1,m2,m3,qwG k1 k2 k4]
  simp only[STD,qgG oa ob,q6O oa,q6O ob,h1,zV,qI9 (qme a b),hL]
 simp only[STD,key]
theorem qef (q:Rat):(tQ q=[48])=(q=0):=by have:([48]:qJb)=tQ 0:=rfl;rw[this,qzl]
theorem qpB {N D N' D':Nat}{a b:Rat}(hb0:b≠0)(ha:bnd N D a)(hb:bnd N' D' b)(h1:N+D'<=1024)(h2:D+N'<=1024):(kR [.s (tQ a),.s (tQ b)]).run=some (0,[.s (tQ (a/b)),.i 0]):=by
 have oa:okQ a:=⟨by have:=ha.1;omega,by have:=ha.2;omega⟩;have ob:okQ b:=⟨by have:=hb.1;omega,by have:=hb.2;omega⟩;have k1:okL (a.num*(b.den:Int)):=q8d ha.1 hb.2 h1;have k2:okL ((a.den:Int)*b.num):=q8d ha.2 hb.1 h2;have hbn:b.num≠0:=fun h=>hb0 (Rat.num_eq_zero.1 h);have hz:(a.den:Int)*b.num≠0:=by have:=qDw a;exact Int.mul_ne_zero (by omega) hbn
 have m1:=qa2 (q26 oa) (uL ob) k1;have m2:=qa2 (uL oa) (q26 ob) k2;have hL:=(qnB hz k1 k2).1;rw[qyY] at hL;rw[qtQ];have key:(vF [.s (tQ a),.s (tQ b)]).run=some (0,[.s (tQ (a/b)),.i 0]):=by
  rw[qcT];have h1:(q3w [.s (tI a.num),.s (tI (a.den:Int)),.s (tI b.num),.s (tI (b.den:Int)),.i 0]).run=some (0,[.s (tI (a.num*b.den)),.s (tI ((a.den:Int)*b.num)),.i 0]):=by rw[qqy];simp only[STD,m1,m2]
  simp only[STD,qgG oa ob,q6O oa,q6O ob,h1,zV,qI9 hz,hL]
 simp only[STD,qgG oa ob,zV,qef,hb0,key]
theorem q8h {m:Int}(h:okL m):(zA [.s (tI m),.i 0]).run=some (0,[.i (sgn m),.i 0]):=by rw[qkl];simp only[STD,qmM h]
theorem qFc (m:Int):sgn m=sgq (m:Rat):=by unfold sgq;simp
theorem qvQ {q k:Rat}(hk:0<k):sgq (k*q)=sgq q:=by
 rcases qdj q with⟨h,e⟩|⟨h,e⟩|⟨h,e⟩
 ·rw[e,qEe];have:=(Rat.mul_neg_iff_of_pos_left hk).2 h;exact this
 ·rw[e,h,Rat.mul_zero];rfl
 ·rw[e,qvB];exact qJF hk h
theorem q3g (a:Rat):(0:Rat)<(a.den:Rat):=by have:=a.den_nz;exact Rat.natCast_pos.2 (by omega)
theorem qeW (a:Rat):(a.num:Rat)=a*(a.den:Rat):=by
 have h:a=(a.num:Rat)/(a.den:Rat):=by rw[<-Rat.mkRat_eq_div,Rat.mkRat_self]
 have h2:=Rat.div_mul_cancel (a:=(a.num:Rat)) (b:=(a.den:Rat)) (by have:=q3g a;grind);rw[<-h] at h2;exact h2.symm
def rX(a b c:Rat):Int:=a.num*b.den*c.den
def rY(a b:Rat):Int:=b.num*a.den
def rR(c:Rat):Int:=c.num*c.den
theorem qHZ (a b c:Rat):sgn (rX a b c)=sgq a:=by unfold rX sgq;rw[qeJ (qDw c),qeJ (qDw b)]
theorem qI4 (a b:Rat):sgn (rY a b)=sgq b:=by unfold rY sgq;rw[qeJ (qDw a)]
theorem qHy (c:Rat):sgn (rR c)=sgq c:=by unfold rR sgq;rw[qeJ (qDw c)]
theorem qGS (a b c:Rat):sgn (rX a b c*rX a b c-rY a b*rY a b*rR c)=sgq (a*a-b*b*c):=by
 rw[qFc];have h1:=q3g a;have h2:=q3g b;have h3:=q3g c;have hk:(0:Rat)<((a.den:Rat)*b.den*c.den)*((a.den:Rat)*b.den*c.den):=by have:=qJF (qJF h1 h2) h3;exact qJF this this
 rw[<-qvQ (q:=a*a-b*b*c) hk];congr 1;unfold rX rY rR;simp only[qK6,qJS,qeW,Rat.intCast_natCast];grind
theorem qBX (a b c:Rat):qhL a b c=if 0<=sgn (rX a b c)*(sgn (rY a b)*sgn (rR c)) then (if sgn (rX a b c)=0 then sgn (rY a b)*sgn (rR c) else sgn (rX a b c)) else sgn (rX a b c)*sgn (rX a b c*rX a b c-rY a b*rY a b*rR c):=by unfold qhL;rw[qHZ,qI4,qHy,qGS]
theorem qG0 {x y r:Int}(hx:okL x)(hy:okL y)(hr:okL r)(hxx:okL (x*x))(hyy:okL (y*y))(hyr:okL (y*y*r))(hd:okL (x*x-y*y*r)) :(ub [.s (tI x),.s (tI y),.s (tI r),.i 0]).run=some (0,[.i (if 0<=sgn x*(sgn y*sgn r) then (if sgn x=0 then sgn y*sgn r else sgn x) else sgn x*sgn (x*x-y*y*r)),.i 0]):=by
 rw[qjP];have bx:=qo2 x;have bY:=qo2 y;have br:=qo2 r;have bd:=qo2 (x*x-y*y*r);have m1:=qa2 hx hx hxx;have m2:=qth [y,y,r] ⟨qaS,hy,by rw[qJP];exact hy,hy,by rw[qJP];exact hyy,hr,by rw[qJP];exact hyr⟩ (by simp);simp only[prd,qJP] at m2;have m2':(qf [.r [[.s (tI y)],[.s (tI y)],[.s (tI r)]],.i 0]).run=some (0,[.s (tI (y*y*r)),.i 0]):=m2;by_cases hc:0<=sgn x*(sgn y*sgn r)
 ·by_cases h0:sgn x=0
  ·have w0:vn .i64 0 (sgn y*sgn r)=0:=by rw[q52 (by rw[Int.zero_mul];omega),Int.zero_mul]
   simp only[STD,q8h hx,q8h hy,q8h hr,qle bY br,h0,w0,Int.zero_mul,qJE,eq_self]
  ·simp only[STD,q8h hx,q8h hy,q8h hr,qle bY br,qle bx (qIl bY br),hc,h0]
 ·simp only[STD,q8h hx,q8h hy,q8h hr,qle bY br,qle bx (qIl bY br),hc,m1,m2',qwG hxx hyr hd,q8h hd,qle bx bd]
theorem qxY (m:Int):okL (0*m):=by rw[Int.zero_mul];exact q9n
theorem qFt {c:Rat}(h:0<=c):¬(tQ c).getD 0 0=45:=by
 have hn:¬c.num<0:=by have:=Rat.num_nonneg.2 h;omega
 have e:(tQ c).getD 0 0=(tI c.num).getD 0 0:=by
  by_cases hd:c.den=1
  ·rw[qac hd]
  ·rw[q62 hd];obtain⟨x,t,ex⟩:∃x t,tI c.num=x::t:=List.exists_cons_of_ne_nil (qKH.1 (qnU _));rw[ex];simp
 rw[e,qCl];exact hn
theorem qHs {c:Rat}(h:c<0):(tQ c).getD 0 0=45:=by
 have h1:¬0<=c:=by grind
 have hn:c.num<0:=by have h2:¬0<=c.num:=fun h=>h1 (Rat.num_nonneg.1 h);omega
 have e:(tQ c).getD 0 0=(tI c.num).getD 0 0:=by
  by_cases hd:c.den=1
  ·rw[qac hd]
  ·rw[q62 hd];obtain⟨x,t,ex⟩:∃x t,tI c.num=x::t:=List.exists_cons_of_ne_nil (qKH.1 (qnU _));rw[ex];simp
 rw[e,qCl];exact hn
theorem qjE (s:qJb):(sat s 0=45)=(s.getD 0 0=45):=by unfold sat;simp only[Int.toNat_zero,eq_iff_iff];exact⟨fun h=>qLl.1 (by show (s.getD 0 0).toNat=45;omega),fun h=>by rw[h];rfl⟩
structure RootOk (a b c:Rat):Prop where
 oa:okQ a
 ob:okQ b
 oc:okQ c
 x1:okL (a.num*b.den)
 x:okL (rX a b c)
 y:okL (rY a b)
 r:okL (rR c)
 xx:okL (rX a b c*rX a b c)
 yy:okL (rY a b*rY a b)
 yr:okL (rY a b*rY a b*rR c)
 d:okL (rX a b c*rX a b c-rY a b*rY a b*rR c)
theorem qz4 {a b c:Rat}(h:RootOk a b c)(hc:0<=c):(q1w [.s (tQ a),.s (tQ b),.s (tQ c)]).run=some (0,[.i (qhL a b c),.i 0]):=by
 rw[qll];have key:(q0B [.s (tQ a),.s (tQ b),.s (tQ c),.s [48],.s [48]]).run=some (0,[.i (qhL a b c),.i 0]):=by
  rw[qkm];have o0:okQ 0:=q2c.ok (by omega) (by omega);have hz:=q3m o0;rw[show tQ 0=[48] from rfl] at hz;have hch:=qjF (l:=[tQ a,tQ b,tQ c,[48],[48]]) (by simp) (fun s hs=>by
   simp only[qJi,qKx,or_false] at hs;rcases hs with rfl|rfl|rfl|rfl|rfl
   ·exact q3m h.oa
   ·exact q3m h.ob
   ·exact q3m h.oc
   ·exact hz
   ·exact hz)
  have hch':(qA [.r [[.s (tQ a)],[.s (tQ b)],[.s (tQ c)],[.s [48]],[.s [48]]]]).run=some (0,[.i 0]):=hch;have c0:=q6O o0;rw[show tQ 0=[48] from rfl] at c0;replace c0:(qK [.s [48]]).run=some (0,[.s [48],.s [49],.b false]):=c0;have l1:(0:Int)<qB (tQ c):=by have h1:=qpj c;have h2:=qkQ c;unfold qB;omega
  have l2:(0:Int)<qB [48]:=by decide
  have n1:¬sat (tQ c) 0=45:=by rw[qjE];exact qFt hc
  have n2:¬sat [48] 0=45:=by decide
  have mx:=qth [a.num,b.den,c.den,1,1] ⟨qaS,q26 h.oa,by rw[qJP];exact q26 h.oa,uL h.ob,by rw[qJP];exact h.x1,uL h.oc,by rw[qJP];exact h.x,qaS,by rw[qJP,Int.mul_one];exact h.x,qaS,by rw[qJP,Int.mul_one,Int.mul_one];exact h.x⟩ (by simp);have my:=qth [b.num,a.den,1,1] ⟨qaS,q26 h.ob,by rw[qJP];exact q26 h.ob,uL h.oa,by rw[qJP];exact h.y,qaS,by rw[qJP,Int.mul_one];exact h.y,qaS,by rw[qJP,Int.mul_one,Int.mul_one];exact h.y⟩ (by simp);have mr:=qa2 (q26 h.oc) (uL h.oc) h.r;have mz:=qth [0,a.den,b.den,c.den] ⟨qaS,q9n,by rw[qKp];exact q9n,uL h.oa,by simp only[qKp];exact qxY _,uL h.ob,by simp only[qKp,Int.zero_mul];exact q9n,uL h.oc,by simp only[qKp,Int.zero_mul];exact q9n⟩ (by simp);have mt:=qa2 (m:=0) (n:=1) q9n qaS (qxY _);simp only[prd,qJP,Int.mul_one,Int.zero_mul] at mx my mz mt;have mx':(qf [.r [[.s (tI a.num)],[.s (tI (b.den:Int))],[.s (tI (c.den:Int))],[.s [49]],[.s [49]]],.i 0]).run=some (0,[.s (tI (rX a b c)),.i 0]):=mx;have my':(qf [.r [[.s (tI b.num)],[.s (tI (a.den:Int))],[.s [49]],[.s [49]]],.i 0]).run=some (0,[.s (tI (rY a b)),.i 0]):=my;have mr':(qf [.r [[.s (tI c.num)],[.s (tI (c.den:Int))]],.i 0]).run=some (0,[.s (tI (rR c)),.i 0]):=mr;have mz':(qf [.r [[.s [48]],[.s (tI (a.den:Int))],[.s (tI (b.den:Int))],[.s (tI (c.den:Int))]],.i 0]).run=some (0,[.s (tI 0),.i 0]):=mz;have mt':(qf [.r [[.s [48]],[.s [49]]],.i 0]).run=some (0,[.s (tI 0),.i 0]):=mt;have hR:=qG0 h.x h.y h.r h.xx h.yy h.yr h.d;rw[<-qBX] at hR;have w1:vn .i64 (sgn 0) (sgn 0)=0:=by decide
  have w2:vn .i64 (qhL a b c) 0=0:=by rw[q52 (by rw[qKp];omega),qKp]
  by_cases h0:qhL a b c=0
  ·simp only[STD,hch',l1,l2,n1,n2,qJE,and_self,q6O h.oa,q6O h.ob,q6O h.oc,c0,mx',my',mr',mz',mt',hR,q8h q9n,w1,h0,show vn .i64 0 0=0 from rfl]
  ·simp only[STD,hch',l1,l2,n1,n2,qJE,and_self,q6O h.oa,q6O h.ob,q6O h.oc,c0,mx',my',mr',mz',mt',hR,q8h q9n,w1,w2,h0]
 simp only[STD,key]
theorem RootOk.of {N D N' D' R E:Nat}{a b c:Rat}(ha:bnd N D a)(hb:bnd N' D' b)(hc:bnd R E c)(h1:2*(N+D'+E)<=1023)(h2:2*(N'+D)+R+E<=1023):RootOk a b c:=by have q1:nl a.num<=N:=ha.1;have q2:nl (a.den:Int)<=D:=ha.2;have q3:nl b.num<=N':=hb.1;have q4:nl (b.den:Int)<=D':=hb.2;have q5:nl c.num<=R:=hc.1;have q6:nl (c.den:Int)<=E:=hc.2;have x1:=q4t a.num b.den;have x2:=q4t (a.num*b.den) c.den;have y1:=q4t b.num a.den;have r1:=q4t c.num c.den;have xx:=q4t (rX a b c) (rX a b c);have yy:=q4t (rY a b) (rY a b);have yr:=q4t (rY a b*rY a b) (rR c);have dd:=qBt (rX a b c*rX a b c) (rY a b*rY a b*rR c);have e1:nl (rX a b c)=nl (a.num*b.den*c.den):=rfl;have e2:nl (rY a b)=nl (b.num*a.den):=rfl;have e3:nl (rR c)=nl (c.num*c.den):=rfl;have p1:=qnM a.num;have p2:=qnM b.num;have p3:=qnM c.num;have p4:=qnM (a.den:Int);have p5:=qnM (b.den:Int);have p6:=qnM (c.den:Int);exact { oa:=⟨by show nl a.num<=1024;omega,by show nl (a.den:Int)<=1024;omega⟩,ob:=⟨by show nl b.num<=1024;omega,by show nl (b.den:Int)<=1024;omega⟩,oc:=⟨by show nl c.num<=1024;omega,by show nl (c.den:Int)<=1024;omega⟩,x1:=by unfold okL;omega,x:=by unfold okL;omega,y:=by unfold okL;omega,r:=by unfold okL;omega,xx:=by unfold okL;omega,yy:=by unfold okL;omega,yr:=by unfold okL;omega,d:=by unfold okL;omega }
end Go.Eng

namespace Go.Eng
variable {m:Int}
theorem q32 (hm:-999999999999999<=m/\m<=999999999999999):(jD [.i m]).run=some (0,[.s (tQ (m:Rat))]):=by rw[qqz,qvW];simp only[STD,qdp m (by omega)]
theorem qku (hm:-999999999999999<=m/\m<=999999999999999):(q3q [.i m]).run=some (0,[.s (tQ (m:Rat))]):=by rw[qq6,qvW];simp only[STD,uS m (by omega) (by omega)]
def co(x:Int):Prop:=-100000<=x/\x<=100000
theorem qh3 {x:Int}(h:co x):-999999999999999<=x/\x<=999999999999999:=by unfold co at h;omega
def qFa(l:R)(i:Nat):Prop:=co (cI l i 0)/\co (cI l i 1)/\co (cI l i 2)
def q7Y(l:R):Prop:=l.length<=64/\∀i,i<l.length->qFa l i
theorem qsb {k:Nat}(h:nl m<=k)(_:0<k):bnd k 1 (m:Rat):=by
 refine⟨?_,?_⟩
 ·unfold qn;rw[Rat.num_intCast];exact h
 ·unfold qd;rw[Rat.den_intCast];decide
theorem qIe {k:Nat}(h:m.natAbs<10^k)(hk:0<k):nl m<=k:=by obtain⟨j,rfl⟩:∃j,k=j+1:=⟨k-1,by omega⟩;exact q1A j _ h
theorem qtg {x:Int}(h:co x):bnd 6 1 (x:Rat):=qsb (qIe (by unfold co at h;omega) (by omega)) (by omega)
end Go.Eng

namespace Go.Eng
structure RelM (Z:Mx) (N C:Nat) (M:Nat->Nat->Rat):Prop where
 dim:Dim Z N C
 ok:∀i j,i<N->j<C->q7w Z i j=tQ (M i j)
theorem RelM.congr{Z:Mx}{N C:Nat}{M M':Nat->Nat->Rat}(h:RelM Z N C M)(e:∀i j,i<N->j<C->M i j=M' i j):RelM Z N C M':=⟨h.dim,fun i j hi hj=>by rw[h.ok i j hi hj,e i j hi hj]⟩
theorem qBy{Z:Mx}{N C i c:Nat}(h:Dim Z N C)(hi:i<N)(hc:c<C)(v:Bs)(a b:Nat):q7w (qyt Z i c v) a b=if a=i/\b=c then v else q7w Z a b:=by
 unfold q7w qyt;by_cases ha:a=i
 ·subst ha;have hl:(Z.getD a []).length=C:=h.row hi;have h1:((Z.set a ((Z.getD a []).set c v)).getD a [])=(Z.getD a []).set c v:=by rw[qJd,qJv (by rw[h.n];exact hi)];rfl
  rw[h1];by_cases hb:b=c
  ·subst hb;rw[if_pos ⟨rfl,rfl⟩,qJd,qJv (by omega)];rfl
  ·rw[if_neg (fun x=>hb x.2),qJd,qJf (fun e=>hb e.symm),<-qJd]
 ·rw[if_neg (fun x=>ha x.1)];have h1:((Z.set i ((Z.getD i []).set c v)).getD a [])=Z.getD a []:=by rw[qJd,qJf (fun e=>ha e.symm),qJd]
  rw[h1]
theorem qyO{Z:Mx}{N C i j:Nat}(h:Dim Z N C)(hi:i<N)(hj:j<N)(a b:Nat):q7w (qbf Z i j) a b=q7w Z (swI j i a) b:=by
 unfold q7w qbf swI;have hn:=h.n;have g:∀(L:Mx) (x y:Nat) (r:List Bs),L.length=N->x<N->(L.set x r).getD y []=if y=x then r else L.getD y []:=fun L x y r hL hx=>by
  by_cases e:y=x
  ·subst e;rw[if_pos rfl,qJd,qJv (by omega)];rfl
  ·rw[if_neg e,qJd,qJf (fun z=>e z.symm),qJd]
 rw[g _ j a _ (by rw[qKE,hn]) hj];by_cases e1:a=j
 ·rw[if_pos e1,if_pos e1]
 ·rw[if_neg e1,if_neg e1,g _ i a _ hn hi];by_cases e2:a=i
  ·rw[if_pos e2,if_pos e2]
  ·rw[if_neg e2,if_neg e2]
theorem RelM.set{Z:Mx}{N C:Nat}{M:Nat->Nat->Rat}(h:RelM Z N C M){i c:Nat}(hi:i<N)(hc:c<C)(q:Rat):RelM (qyt Z i c (tQ q)) N C (fun a b=>if a=i/\b=c then q else M a b):=
 ⟨h.dim.set hi _,fun a b ha hb=>by
  rw[qBy h.dim hi hc];split
  ·rfl
  ·exact h.ok a b ha hb⟩
theorem RelM.swap{Z:Mx}{N C:Nat}{M:Nat->Nat->Rat}(h:RelM Z N C M){i j:Nat}(hi:i<N)(hj:j<N):RelM (qbf Z i j) N C (fun a b=>M (swI j i a) b):=⟨h.dim.swap hi hj,fun a b ha hb=>by rw[qyO h.dim hi hj];exact h.ok _ b (qtX hj hi ha) hb⟩
theorem qAN{dv:Op2}{N C p:Nat}{M:Nat->Nat->Rat}{f:Rat}(hp:p<N)(hd:∀j,j<C->dv (tQ (M p j)) (tQ f)=some (tQ (M p j/f))) :
  ∀(g m:Nat),m+g=C->∀Z,RelM Z N C (fun i j=>if i=p/\j<m then M p j/f else M i j)->∃Z',qqj dv p (tQ f) C g Z=some Z'/\RelM Z' N C (fun i j=>if i=p then M p j/f else M i j)
 | 0,m,hm,Z,hZ=>⟨Z,rfl,hZ.congr fun i j hi hj=>by
   by_cases e:i=p
   ·rw[if_pos ⟨e,by omega⟩,if_pos e]
   ·rw[if_neg (fun x=>e x.1),if_neg e]⟩
 | g+1,m,hm,Z,hZ=>by
  have h1:C-(g+1)=m:=by omega
  have h2:q7w Z p m=tQ (M p m):=by rw[hZ.ok p m hp (by omega),if_neg (by omega)]
  unfold qqj;rw[h1,h2,hd m (by omega),qJH];exact qAN hp hd g (m+1) (by omega) _ ((hZ.set hp (show m<C by omega) (M p m/f)).congr fun i j hi hj=>by
   by_cases e:i=p
   ·subst e;by_cases e2:j=m
    ·subst e2;rw[if_pos ⟨rfl,rfl⟩,if_pos ⟨rfl,by omega⟩]
    ·rw[if_neg (fun x=>e2 x.2)];by_cases e3:j<m
     ·rw[if_pos ⟨rfl,e3⟩,if_pos ⟨rfl,by omega⟩]
     ·rw[if_neg (fun x=>e3 x.2),if_neg (fun x=>e3 (by omega))]
   ·rw[if_neg (fun x=>e x.1),if_neg (fun x=>e x.1),if_neg (fun x=>e x.1)])
theorem qqO{ml sb:Op2}{N C p i:Nat}{M:Nat->Nat->Rat}{t:Rat}(hp:p<N)(hi:i<N)(hip:i≠p)(h1:∀j,j<C->ml (tQ t) (tQ (M p j))=some (tQ (t*M p j)))(h2:∀j,j<C->sb (tQ (M i j)) (tQ (t*M p j))=some (tQ (M i j-t*M p j))) :
  ∀(g m:Nat),m+g=C->∀Z,RelM Z N C (fun a j=>if a=i/\j<m then M i j-t*M p j else M a j)->∃Z',qdU ml sb i p (tQ t) C g Z=some Z'/\RelM Z' N C (fun a j=>if a=i then M i j-t*M p j else M a j)
 | 0,m,hm,Z,hZ=>⟨Z,rfl,hZ.congr fun a j ha hj=>by
   by_cases e:a=i
   ·rw[if_pos ⟨e,by omega⟩,if_pos e]
   ·rw[if_neg (fun x=>e x.1),if_neg e]⟩
 | g+1,m,hm,Z,hZ=>by
  have e1:C-(g+1)=m:=by omega
  have q1:q7w Z p m=tQ (M p m):=by rw[hZ.ok p m hp (by omega),if_neg (fun x=>hip x.1.symm)]
  have q2:q7w Z i m=tQ (M i m):=by rw[hZ.ok i m hi (by omega),if_neg (by omega)]
  unfold qdU;rw[e1,q1,h1 m (by omega),qJH,q2,h2 m (by omega),qJH];exact qqO hp hi hip h1 h2 g (m+1) (by omega) _ ((hZ.set hi (show m<C by omega) (M i m-t*M p m)).congr fun a j ha hj=>by
   by_cases e:a=i
   ·subst e;by_cases e2:j=m
    ·subst e2;rw[if_pos ⟨rfl,rfl⟩,if_pos ⟨rfl,by omega⟩]
    ·rw[if_neg (fun x=>e2 x.2)];by_cases e3:j<m
     ·rw[if_pos ⟨rfl,e3⟩,if_pos ⟨rfl,by omega⟩]
     ·rw[if_neg (fun x=>e3 x.2),if_neg (fun x=>e3 (by omega))]
   ·rw[if_neg (fun x=>e x.1),if_neg (fun x=>e x.1),if_neg (fun x=>e x.1)])
theorem qs0{ml sb:Op2}{N C p k:Nat}{M:Nat->Nat->Rat}(hp:p<N)(hk:k<C)(h1:∀i j,i<N->i≠p->j<C->ml (tQ (M i k)) (tQ (M p j))=some (tQ (M i k*M p j)))
  (h2:∀i j,i<N->i≠p->j<C->sb (tQ (M i j)) (tQ (M i k*M p j))=some (tQ (M i j-M i k*M p j))) :
  ∀(g m:Nat),m+g=N->∀Z,RelM Z N C (fun i j=>if i<m/\i≠p then M i j-M i k*M p j else M i j)->∃Z',qn6 ml sb p k N C g Z=some Z'/\RelM Z' N C (fun i j=>if i≠p then M i j-M i k*M p j else M i j)
 | 0,m,hm,Z,hZ=>⟨Z,rfl,hZ.congr fun i j hi hj=>by
   by_cases e:i≠p
   ·rw[if_pos ⟨by omega,e⟩,if_pos e]
   ·rw[if_neg (fun x=>e x.2),if_neg e]⟩
 | g+1,m,hm,Z,hZ=>by
  have e1:N-(g+1)=m:=by omega
  have q1:q7w Z m k=tQ (M m k):=by rw[hZ.ok m k (by omega) hk,if_neg (by omega)]
  unfold qn6;rw[e1,q1];have zi:=qef (M m k);have skip:(m=p\/M m k=0)->RelM Z N C (fun i j=>if i<m+1/\i≠p then M i j-M i k*M p j else M i j):=fun h=>hZ.congr fun i j hi hj=>by
   by_cases e:i=m
   ·subst e;rw[if_neg (by omega)];rcases h with h|h
    ·rw[if_neg (fun x=>x.2 h)]
    ·by_cases e2:i=p
     ·rw[if_neg (fun x=>x.2 e2)]
     ·rw[if_pos ⟨by omega,e2⟩,h];grind
   ·by_cases e2:i<m/\i≠p
    ·rw[if_pos e2,if_pos ⟨by omega,e2.2⟩]
    ·rw[if_neg e2,if_neg (fun x=>e2 ⟨by omega,x.2⟩)]
  by_cases hc:m=p\/M m k=0
  ·rw[if_pos (by rw[zi];exact hc)];exact qs0 hp hk h1 h2 g (m+1) (by omega) Z (skip hc)
  ·rw[if_neg (by rw[zi];exact hc)];rw[not_or] at hc;obtain⟨Z1,r1,r2⟩:=qqO (ml:=ml) (sb:=sb) (M:=fun i j=>if i<m/\i≠p then M i j-M i k*M p j else M i j) (t:=M m k) hp (show m<N by omega) hc.1
    (fun j hj=>by rw[if_neg (by omega)];exact h1 m j (by omega) hc.1 hj) (fun j hj=>by rw[if_neg (by omega),if_neg (by omega)];exact h2 m j (by omega) hc.1 hj) C 0 (by omega) Z (hZ.congr fun i j hi hj=>by rw[if_neg (show ¬(i=m/\j<0) by omega)])
   rw[r1,qJH];exact qs0 hp hk h1 h2 g (m+1) (by omega) Z1 (r2.congr fun i j hi hj=>by
    by_cases e:i=m
    ·subst e;rw[if_pos rfl,if_neg (by omega),if_neg (by omega),if_pos ⟨by omega,hc.1⟩]
    ·rw[if_neg e];by_cases e2:i<m/\i≠p
     ·rw[if_pos e2,if_pos ⟨by omega,e2.2⟩]
     ·rw[if_neg e2,if_neg (fun x=>e2 ⟨by omega,x.2⟩)])
def pvI(M:Nat->Nat->Rat)(k N:Nat):Nat->Nat
 | 0=>N
 | g+1=>if M (N-(g+1)) k=0 then pvI M k N g else N-(g+1)
theorem ql0(M:Nat->Nat->Rat)(k N:Nat):∀g,g<=N->(pvI M k N g=N/\∀i,N-g<=i->i<N->M i k=0)\/(N-g<=pvI M k N g/\pvI M k N g<N/\M (pvI M k N g) k≠0)
 | 0,_=>.inl ⟨rfl,fun i h1 h2=>by omega⟩
 | g+1,h=>by
  unfold pvI;by_cases e:M (N-(g+1)) k=0
  ·rw[if_pos e];rcases ql0 M k N g (by omega) with⟨h1,h2⟩|⟨h1,h2,h3⟩
   ·refine .inl ⟨h1,fun i a b=>?_⟩;by_cases q:i=N-(g+1)
    ·rw[q];exact e
    ·exact h2 i (by omega) b
   ·exact .inr ⟨by omega,h2,h3⟩
  ·rw[if_neg e];exact .inr ⟨qJe _,by omega,e⟩
theorem qx3{Z:Mx}{N C k:Nat}{M:Nat->Nat->Rat}(h:RelM Z N C M)(hk:k<C):∀g,g<=N->qeL Z k N g=pvI M k N g
 | 0,_=>rfl
 | g+1,hg=>by
  unfold qeL pvI;rw[h.ok (N-(g+1)) k (by omega) hk,qx3 h hk g (by omega)];have zi:=qef (M (N-(g+1)) k);by_cases e:M (N-(g+1)) k=0
  ·rw[if_pos e,if_pos (by rw[zi];exact e)]
  ·rw[if_neg e,if_neg (by rw[zi];exact e)]
def pvQ(N c:Nat)(M:Nat->Nat->Rat):Option Nat:=if pvI M c N (N-c)=N then none else some (pvI M c N (N-c))
theorem qzR(N:Nat):Pivots N (pvQ N) where
 some:=fun c M i hc h=>by
  unfold pvQ at h;rcases ql0 M c N (N-c) (by omega) with⟨h1,_⟩|⟨h1,h2,h3⟩
  ·rw[if_pos h1] at h;cases h
  ·rw[if_neg (by omega)] at h;cases h;exact⟨by omega,h2,h3⟩
 none:=fun c M i h hci hi=>by
  unfold pvQ at h;rcases ql0 M c N (N-c) (by omega) with⟨_,h2⟩|⟨h1,h2,h3⟩
  ·exact h2 i (by omega) hi
  ·rw[if_neg (by omega)] at h;cases h
def gsP(k p i0:Nat)(M:Nat->Nat->Rat):Nat->Nat->Rat:=fun i j=>if i=p then M i0 j/M i0 k else M (swI p i0 i) j-M (swI p i0 i) k*(M i0 j/M i0 k)
theorem qGY(c i0:Nat)(M:Nat->Nat->Rat):gsP c c i0 M=gs c i0 M:=by funext i j;unfold gsP gs;simp only[Rat.div_def]
def BM(N C a b:Nat)(M:Nat->Nat->Rat):Prop:=∀i j,i<N->j<C->bnd a b (M i j)
structure OpsQ (ml dv sb:Op2):Prop where
 ml:∀{a b:Rat} {N D N' D':Nat},bnd N D a->bnd N' D' b->N+N'<=1024->D+D'<=1024->ml (tQ a) (tQ b)=some (tQ (a*b))
 dv:∀{a b:Rat} {N D N' D':Nat},b≠0->bnd N D a->bnd N' D' b->N+D'<=1024->D+N'<=1024->dv (tQ a) (tQ b)=some (tQ (a/b))
 sb:∀{a b:Rat} {N D N' D':Nat},bnd N D a->bnd N' D' b->N+D'<=1023->N'+D<=1023->D+D'<=1024->sb (tQ a) (tQ b)=some (tQ (a-b))
theorem qJ7:OpsQ (opF vl) (opF kR) (opF zF) where
 ml:=fun ha hb h1 h2=>by unfold opF;rw[qdN ha hb h1 h2];rfl
 dv:=fun h0 ha hb h1 h2=>by unfold opF;rw[qpB h0 ha hb h1 h2];rfl
 sb:=fun ha hb h1 h2 h3=>by unfold opF;rw[q7q ha hb h1 h2 h3];rfl
theorem qFj{ml dv sb:Op2}(ops:OpsQ ml dv sb){N C k p i0 a b u v:Nat}{s:RS}{M:Nat->Nat->Rat}{d:Rat}(hs:RelM s.Z N C M)(hb:BM N C a b M)(hd:s.det=tQ d)(hdb:bnd u v d)(hp:s.p=p)(hpN:p<N)(hk:k<C)(hi:i0<N) (hpi:p<=i0) (h0:M i0 k≠0) (hf:qeL s.Z k N (N-s.p)=i0) (c1:2*a+2*b<=1023) (c2:a+3*b<=1024) (c3:u+v+2+a<=1023) (c4:v+1+b<=1023) :∃s',qiS ml dv sb k N C s=some s'/\RelM s'.Z N C (gsP k p i0 M)/\BM N C (2*a+2*b+1) (a+3*b) (gsP k p i0 M)/\(∃d',s'.det=tQ d'/\bnd (u+v+2+a) (v+1+b) d')/\s'.p=p+1/\s'.lead=s.lead++[k]:=by
 subst hp;unfold qiS;rw[hf,if_neg (by omega)];have bi:∀j,j<C->bnd a b (M i0 j):=fun j hj=>hb i0 j hi hj;obtain⟨dd,e1,e2⟩:∃dd,(if i0=s.p then some s.det else sb [48] s.det)=some (tQ dd)/\bnd (u+v+2) (v+1) dd:=by
  by_cases e:i0=s.p
  ·exact⟨d,by rw[if_pos e,hd],hdb.mono (by omega) (by omega)⟩
  ·refine⟨0-d,?_,?_⟩
   ·rw[if_neg e,hd];have:([48]:Bs)=tQ 0:=by decide
    rw[this];exact ops.sb q2c hdb (by omega) (by omega) (by omega)
   ·have:=q2c.sub hdb (K:=u+v+2) (by omega) (by omega);exact this.mono (qJe _) (by omega)
 rw[e1,qJH];have h1:=hs.swap hi hpN;have hpv:q7w (qbf s.Z i0 s.p) s.p k=tQ (M i0 k):=by
  rw[h1.ok s.p k hpN hk];have:swI s.p i0 s.p=i0:=by unfold swI;rw[if_pos rfl]
  rw[this]
 rw[hpv,ops.ml e2 (bi k hk) (by omega) (by omega),qJH];have eq_p:∀j,M (swI s.p i0 s.p) j=M i0 j:=fun j=>by
  have:swI s.p i0 s.p=i0:=by unfold swI;rw[if_pos rfl]
  rw[this]
 obtain⟨Z1,q1,q2⟩:=qAN (dv:=dv) (M:=fun i j=>M (swI s.p i0 i) j) (f:=M i0 k) hpN (fun j hj=>by rw[eq_p];exact ops.dv h0 (bi j hj) (bi k hk) (by omega) (by omega)) C 0 (by omega) _ (h1.congr fun i j _ _=>by rw[if_neg (by omega)]);rw[q1,qJH];have yb:∀j,j<C->bnd (a+b) (b+a) (M i0 j/M i0 k):=fun j hj=>(bi j hj).div h0 (bi k hk);have sb':∀i j,i<N->j<C->bnd a b (M (swI s.p i0 i) j):=fun i j hi' hj=>hb _ j (qtX hpN hi hi') hj;obtain⟨Z2,q3,q4⟩:=qs0 (ml:=ml) (sb:=sb) (p:=s.p) (k:=k) (M:=fun i j=>if i=s.p then M i0 j/M i0 k else M (swI s.p i0 i) j) hpN hk
  (fun i j hi' e hj=>by rw[if_pos rfl,if_neg e];exact ops.ml (sb' i k hi' hk) (yb j hj) (by omega) (by omega))
  (fun i j hi' e hj=>by rw[if_pos rfl,if_neg e,if_neg e];exact ops.sb (sb' i j hi' hj) ((sb' i k hi' hk).mul (yb j hj)) (by omega) (by omega) (by omega)) N 0 (by omega) Z1
  (q2.congr fun i j _ _=>by
   rw[if_neg (show ¬(i<0/\i≠s.p) by omega)];by_cases e:i=s.p
   ·rw[if_pos e,if_pos e,eq_p]
   ·rw[if_neg e,if_neg e])
 rw[q3,qJH];refine⟨_,rfl,q4.congr fun i j _ _=>?_,fun i j hi' hj=>?_,⟨_,rfl,e2.mul (bi k hk)⟩,rfl,rfl⟩
 ·unfold gsP;by_cases e:i=s.p
  ·rw[if_pos e,if_neg (fun z=>z e),if_pos e]
  ·rw[if_neg e,if_pos e,if_neg e,if_neg e,if_pos rfl]
 ·unfold gsP;by_cases e:i=s.p
  ·rw[if_pos e];exact(yb j hj).mono (by omega) (by omega)
  ·rw[if_neg e];have:=(sb' i j hi' hj).sub ((sb' i k hi' hk).mul (yb j hj)) (K:=2*a+2*b+1) (by omega) (by omega);exact this.mono (qJe _) (by omega)
def bs:Nat->Nat×Nat
 | 0=>(13,1)
 | k+1=>(2*(bs k).1+2*(bs k).2+1,(bs k).1+3*(bs k).2)
def ds:Nat->Nat×Nat
 | 0=>(1,1)
 | k+1=>((ds k).1+(ds k).2+2+(bs k).1,(ds k).2+1+(bs k).2)
theorem qII(k:Nat)(h:k<3):2*(bs k).1+2*(bs k).2<=1023/\(bs k).1+3*(bs k).2<=1024/\(ds k).1+(ds k).2+2+(bs k).1<=1023/\(ds k).2+1+(bs k).2<=1023:=by
 match k,h with
 | 0,_=>decide
 | 1,_=>decide
 | 2,_=>decide
theorem BM.mono{N C a b a' b':Nat}{M:Nat->Nat->Rat}(h:BM N C a b M)(h1:a<=a')(h2:b<=b'):BM N C a' b' M:=fun i j hi hj=>(h i j hi hj).mono h1 h2
theorem qFG(k:Nat):(bs k).1<=(bs (k+1)).1/\(bs k).2<=(bs (k+1)).2/\(ds k).1<=(ds (k+1)).1/\(ds k).2<=(ds (k+1)).2:=by simp only[bs,ds];omega
theorem qzv{ml dv sb:Op2}(ops:OpsQ ml dv sb){N C:Nat}(hN:N<=3)(hC:N<=C):∀(g k:Nat),k+g=N->∀(s:RS) (M:Nat->Nat->Rat) (d:Rat),RelM s.Z N C M->BM N C (bs k).1 (bs k).2 M->s.det=tQ d->bnd (ds k).1 (ds k).2 d->s.p<=k->s.lead.length=s.p ->
  ∃fin M',qte ml dv sb N N C g s=some fin/\RelM fin.Z N C M'/\BM N C (bs N).1 (bs N).2 M'/\fin.lead.length<=s.p+g/\(s.p=k->(qdE N (pvQ N) g k M=some M'/\fin.lead.length=N)\/(qdE N (pvQ N) g k M=none/\fin.lead.length<N))
 | 0,k,hk,s,M,d,hs,hb,hd,hdb,hp,hl=>by
  have:k=N:=by omega
  subst this;exact⟨s,M,rfl,hs,hb,by omega,fun h=>.inl ⟨rfl,by omega⟩⟩
 | g+1,k,hk,s,M,d,hs,hb,hd,hdb,hp,hl=>by
  have hkN:N-(g+1)=k:=by omega
  obtain⟨m1,m2,m3,m4⟩:=qFG k;obtain⟨o1,o2,o3,o4⟩:=qII k (by omega);unfold qte;rw[hkN];have hf:=qx3 hs (show k<C by omega) (N-s.p) (by omega);rcases ql0 M k N (N-s.p) (by omega) with⟨h1,h2⟩|⟨h1,h2,h3⟩
  ·have e:qiS ml dv sb k N C s=some s:=by unfold qiS;rw[if_pos (by rw[hf];exact h1)]
   rw[e,qJH];obtain⟨fin,M',r1,r2,r3,r4,r5⟩:=qzv ops hN hC g (k+1) (by omega) s M d hs (hb.mono m1 m2) hd (hdb.mono m3 m4) (by omega) hl;refine⟨fin,M',r1,r2,r3,by omega,fun hpk=>.inr ⟨?_,by omega⟩⟩;subst hpk;unfold qdE pvQ;rw[if_pos h1]
  ·obtain⟨s',q1,q2,q3,⟨d',q4,q5⟩,q6,q7⟩:=qFj ops hs hb hd hdb rfl (show s.p<N by omega) (show k<C by omega) h2 (by omega) h3 hf o1 o2 o3 o4;rw[q1,qJH];obtain⟨fin,M',r1,r2,r3,r4,r5⟩:=qzv ops hN hC g (k+1) (by omega) s' _ d' q2 q3 q4 q5 (by omega) (by rw[q7,q6,qJB,hl];rfl);refine⟨fin,M',r1,r2,r3,by omega,fun hpk=>?_⟩;have hg:qdE N (pvQ N) (g+1) k M=qdE N (pvQ N) g (k+1) (gsP k s.p (pvI M k N (N-s.p)) M):=by subst hpk;rw[qGY];show (match pvQ N s.p M with|none=>none|some i0=>qdE N (pvQ N) g (s.p+1) (gs s.p i0 M))=_;unfold pvQ;rw[if_neg (by omega)]
   rw[hg];exact r5 (by omega)
end Go.Eng

