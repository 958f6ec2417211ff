/- Texts of the proof, merged: what the code computes, and plain laws. No statement stands here. -/
import Derived.Test.YtcngjnijbegcmaaGreatDoorM5
namespace Go.Eng
abbrev qEi(r t:TR):TR:=.br (okR r) t .fail
abbrev qEj(c:Bool)(t:TR):TR:=.br c t .fail
abbrev qEk(l:List PV):TR:=.leaf (0,l)
variable (a0 a1 a2 a3 a4 a5 a6 a7 a8 a9 a10 a11 a12 a13 a14 a15 a16 a33:R)
variable (c0 c1 c2 c3 c4 c5 c6 c7 c8 c9 c10 c11 c12 c13 c17 c18 c19 c34 c35 c36 c37:Int)
variable (d0 d1 d2 d3 d4 d5 d7 d8 d9 d10 d11 d15 d25 d31 d32:Bool)
variable (e0 e1 e2 e3 e4 e5 e6 e7 e8 e9 e10 e11 e12 e13 e14 e20 e21 e22 e23 e24 e26 e27 e28 e29 e30 e38 e39 e40 e41 e42:qEl)
theorem q7w:w8 [.s e0,.s e1]=(let r0:=v7 [.s e0,.s e1];qEi r0 (.br (ile 0 (gI r0 0)) (qEj (q8D (gI r0 0) (zp e0)) (qEj (q8D 0 (gI r0 0)) (qEj (q8D (zp e0) (zp e0)) (qEj (q8D (qO .i64 (gI r0 0) (zp e1)) (zp e0)) (qEk [.s (qg1 e0 0 (gI r0 0)),.s (qg1 e0 (qO .i64 (gI r0 0) (zp e1)) (zp e0)),.b true]))))) (qEk [.s e0,.s [],.b false]))):=by kernel_rfl
theorem qlH:q4t [.s e0,.s e1]=(let r0:=w8 [.s e0,.s e1];qEi r0 (qEk [.s (gS r0 0),.s (gS r0 1),.b (gB r0 2)])):=by kernel_rfl
theorem qqg:qE [.s e0]=(let r0:=q4t [.s e0,.s [47]];qEi r0 (.br (not (gB r0 2)) (qEk [.s (gS r0 0),.s [49],.b (gB r0 2)]) (qEk [.s (gS r0 0),.s (gS r0 1),.b (gB r0 2)]))):=by kernel_rfl
theorem q4y:qI [.s e0,.s e1]=(.br (ile (zp e1) (zp e0)) (qEj (q8D (zp e1) (zp e0)) (qEj (q8D 0 (zp e1)) (qEk [.b (seq (qg1 e0 0 (zp e1)) e1)]))) (qEk [.b false])):=by kernel_rfl
theorem q3M:ze [.s e0,.s e1]=(let r0:=qI [.s e0,.s e1];qEi r0 (.br (gB r0 0) (qEj (q8D (zp e0) (zp e0)) (qEj (q8D (zp e1) (zp e0)) (qEk [.s (qg1 e0 (zp e1) (zp e0))]))) (qEk [.s e0]))):=by kernel_rfl
theorem qd1:z8 [.s e0,.s e1]=(let r0:=ze [.s e0,.s e1];qEi r0 (qEk [.s (gS r0 0)])):=by kernel_rfl
theorem qm9:z7 [.s e0]=(let t0:=z8 [.s e0,.s [45]];let s0:List UInt8:=(gS t0 0);let t1:TR:=(qEk [.i 3]);let t2:=q5q [.s s0,.s [48,49,50,51,52,53,54,55,56,57]];let t3:TR:=(.br (ilt 1024 (zp s0)) (qEk [.i 11]) (qEk [.i 0]));(qEi t0 (.br (seq s0 []) t1 (qEi t2 (.br (not (seq (gS t2 0) [])) t1 (qEj (inb 0 (zp s0)) (.br (ieq (sat s0 0) 48) (.br (not (seq e0 [48])) t1 t3) t3))))))):=by kernel_rfl
theorem qeO:q48 [.r a0,.i c1,.i c2]=(.br (ilt c2 c1) (qEj (inb c2 (qm a0)) (let r0:=z7 [.s (cS a0 c2 0)];qEi r0 (.br (ine (gI r0 0) 0) (.leaf (2,[.i (gI r0 0)])) (qEk [.r a0,.i c1,.i (qO .i64 c2 1)])))) (.leaf (1,[]))):=by kernel_rfl
theorem qph:wd [.r a0]=(let r0:=qh q48 [.r a0,.i (qm a0),.i 0];qEi r0 (.br (jIs r0 0) (qEk [.i 0]) (qEk [.i (gI r0 0)]))):=by kernel_rfl
theorem qoa:jZ [.s e0]=(.br (seq e0 [48]) (qEk [.i 0]) (qEj (inb 0 (zp e0)) (.br (ieq (sat e0 0) 45) (qEk [.i (-1)]) (qEk [.i 1])))):=by kernel_rfl
theorem qm7:q4H [.s e0,.s e1]=(.br (ine (zp e0) (zp e1)) (.br (ilt (zp e0) (zp e1)) (qEk [.i (-1)]) (qEk [.i 1])) (let r0:=q1F [.s e0,.s e1];qEi r0 (qEk [.i (gI r0 0)]))):=by kernel_rfl
theorem qjk:yk [.s e0,.s e1]=(let r0:=wd [.r [[.s e0],[.s e1]]];qEi r0 (.br (ine (gI r0 0) 0) (qEk [.i 0,.i (gI r0 0)]) (let r1:=jZ [.s e0];qEi r1 (let r2:=jZ [.s e1];qEi r2 (.br (ilt (gI r1 0) (gI r2 0)) (qEk [.i (-1),.i 0]) (qEi r2 (.br (ilt (gI r2 0) (gI r1 0)) (qEk [.i 1,.i 0]) (let r3:=z8 [.s e0,.s [45]];qEi r3 (let r4:=z8 [.s e1,.s [45]];qEi r4 (let r5:=q4H [.s (gS r3 0),.s (gS r4 0)];qEi r5 (qEk [.i (vk .i64 (gI r1 0) (gI r5 0)),.i 0]))))))))))):=by kernel_rfl
theorem qbB:vU [.b d0,.i c1,.r a2]=(let i0:Int:=(q2k .i64 c1 1);let t0:TR:=(.leaf (1,[.b d0,.i c1,.r a2]));(.br (ilt 0 c1) (qEj (inb i0 232) (qEj (inb i0 232) (.br (ieq (cI a2 i0 0) 0) (qEk [.b d0,.i i0,.r a2]) t0))) t0)):=by kernel_rfl
theorem qcF:qU [.b d0,.i c1,.r a2]=(let r0:=qh vU [.b d0,.i c1,.r a2];qEi r0 (qEk [.b (gB r0 0),.i (gI r0 1),.r (gR r0 2)])):=by kernel_rfl
theorem qkP:q2r [.s e0,.b d1,.i c2,.r a3]=(let i0:Int:=(zp e0);let i1:Int:=(qqv 0 (q2k .i64 i0 9));let t0:=jj [.s (qg1 e0 i1 i0)];(.br (ilt 0 i0) (qEj (q8D i0 i0) (qEj (q8D i1 i0) (qEi t0 (qEj (inb c2 232) (qEj (inb c2 232) (qEj (q8D i1 i0) (qEj (q8D 0 i1) (qEk [.s (qg1 e0 0 i1),.b d1,.i (qO .i64 c2 1),.r (qeS a3 c2 0 [.i (gI t0 0)])])))))))) (.leaf (1,[.b d1,.i c2,.r a3])))):=by kernel_rfl
theorem qoi:wk [.s e0]=(qEj (inb 0 (zp e0)) (let r0:=z8 [.s e0,.s [45]];qEi r0 (let r1:=qh q2r [.s (gS r0 0),.b (ieq (sat e0 0) 45),.i 0,.r (q55 232 [.i 0])];qEi r1 (let r2:=qU [.b (gB r1 0),.i (gI r1 1),.r (gR r1 2)];qEi r2 (qEk [.b (gB r2 0),.i (gI r2 1),.r (gR r2 2)]))))):=by kernel_rfl
theorem qrx:wn [.i c0]=(qEi (q2J [.i c0]) (qEk [.s (gS (q2J [.i c0]) 0)])):=by kernel_rfl
theorem qcz:jp [.i c0,.b d1,.i c2,.r a3,.b d4,.i c5,.r a6]=(let b0:Bool:=(inb c0 232);let p0:List PV:=[.b d1,.i c2,.r a3,.b d4,.i c5,.r a6];(.br (ile 0 c0) (qEj b0 (qEj b0 (qEj b0 (qEj b0 (.br (ine (cI a3 c0 0) (cI a6 c0 0)) (qEj b0 (qEj b0 (qEj b0 (qEj b0 (.leaf (2,((.i (q2k .i64 (cI a3 c0 0) (cI a6 c0 0)))::p0))))))) (qEk ((.i (q2k .i64 c0 1))::p0))))))) (.leaf (1,p0)))):=by kernel_rfl
theorem qeo:wP [.b d0,.i c1,.r a2,.b d3,.i c4,.r a5]=(.br (ine c1 c4) (qEk [.i (q2k .i64 c1 c4),.b d0,.i c1,.r a2,.b d3,.i c4,.r a5]) (let r0:=qh jp [.i (q2k .i64 c1 1),.b d0,.i c1,.r a2,.b d3,.i c4,.r a5];qEi r0 (.br (jIs r0 0) (qEk [.i 0,.b (gB r0 0),.i (gI r0 1),.r (gR r0 2),.b (gB r0 3),.i (gI r0 4),.r (gR r0 5)]) (qEk [.i (gI r0 0),.b (gB r0 1),.i (gI r0 2),.r (gR r0 3),.b (gB r0 4),.i (gI r0 5),.r (gR r0 6)])))):=by kernel_rfl
theorem qi8:q0B [.b d0,.i c1,.r a2,.b d3,.i c4,.r a5]=(let i0:Int:=(q2k .i64 c4 1);let b0:Bool:=(ilt i0 0);let b1:Bool:=(ilt 1 c4);let p0:List PV:=[.b d0,.i c1,.r a2,.b d3,.i c4,.r a5];let t0:TR:=(qEk ((.i 1)::p0));let b2:Bool:=(ile c4 i0);let b3:Bool:=(inb i0 232);let i1:Int:=(cI a5 i0 0);let i2:Int:=(qO .i64 i1 1);let b4:Bool:=(ine i2 0);let b5:Bool:=(ine i1 0);let t1:TR:=(.br b0 (qEj b1 t0) (.br b2 (qEj b1 t0) (qEj b3 (qEj b3 (.br b1 (qEj b4 (.br (ilt 0 (qaQ .i64 0 i2)) (qEk ((.i (qg2 (qaQ .i64 0 i2) 999999999))::p0)) t0)) (qEj b5 (.br (ilt 0 (qaQ .i64 0 i1)) (qEk ((.i (qg2 (qaQ .i64 0 i1) 999999999))::p0)) t0)))))));let i3:Int:=(qO .i64 0 (cI a2 i0 0));let t2:TR:=(qEj b1 (.br (ilt 0 (qaQ .i64 i3 1)) (qEk ((.i (qg2 (qaQ .i64 i3 1) 999999999))::p0)) t0));let t3:TR:=(.br b0 t1 (.br (ile c1 i0) t1 (qEj b3 (qEj b3 (.br b0 t2 (.br b2 t2 (qEj b3 (qEj b3 (.br b1 (qEj b4 (.br (ilt 0 (qaQ .i64 i3 i2)) (qEk ((.i (qg2 (qaQ .i64 i3 i2) 999999999))::p0)) t0)) (qEj b5 (.br (ilt 0 (qaQ .i64 i3 i1)) (qEk ((.i (qg2 (qaQ .i64 i3 i1) 999999999))::p0)) t0)))))))))));let i4:Int:=(vk .i64 (cI a2 c4 0) 1000000000);let i5:Int:=(qO .i64 i4 0);let t4:TR:=(qEj b1 (.br (ilt 0 (qaQ .i64 i5 1)) (qEk ((.i (qg2 (qaQ .i64 i5 1) 999999999))::p0)) t0));let t5:TR:=(.br b0 t4 (.br b2 t4 (qEj b3 (qEj b3 (.br b1 (qEj b4 (.br (ilt 0 (qaQ .i64 i5 i2)) (qEk ((.i (qg2 (qaQ .i64 i5 i2) 999999999))::p0)) t0)) (qEj b5 (.br (ilt 0 (qaQ .i64 i5 i1)) (qEk ((.i (qg2 (qaQ .i64 i5 i1) 999999999))::p0)) t0)))))));let i6:Int:=(qO .i64 i4 (cI a2 i0 0));let t6:TR:=(qEj b1 (.br (ilt 0 (qaQ .i64 i6 1)) (qEk ((.i (qg2 (qaQ .i64 i6 1) 999999999))::p0)) t0));(.br (ilt c4 0) t3 (.br (ile c1 c4) t3 (qEj (inb c4 232) (qEj (inb c4 232) (.br b0 t5 (.br (ile c1 i0) t5 (qEj b3 (qEj b3 (.br b0 t6 (.br b2 t6 (qEj b3 (qEj b3 (.br b1 (qEj b4 (.br (ilt 0 (qaQ .i64 i6 i2)) (qEk ((.i (qg2 (qaQ .i64 i6 i2) 999999999))::p0)) t0)) (qEj b5 (.br (ilt 0 (qaQ .i64 i6 i1)) (qEk ((.i (qg2 (qaQ .i64 i6 i1) 999999999))::p0)) t0)))))))))))))))):=by kernel_rfl
theorem q5P:vE [.i c0,.i c1,.i c2,.i c3,.b d4,.i c5,.r a6,.b d7,.i c8,.r a9]=(let i0:Int:=(qO .i64 c3 c1);let b0:Bool:=(inb i0 232);let i1:Int:=(qO .i64 (cI a6 i0 0) c2);let i2:Int:=(qO .i64 i1 (vk .i64 c0 (cI a9 c3 0)));let i3:Int:=(qaQ .i64 i2 1000000000);let i4:Int:=(q2k .i64 i2 (vk .i64 i3 1000000000));let p0:List PV:=[.b d7,.i c8,.r a9];let i5:Int:=(qqv c5 (qO .i64 i0 1));let i6:Int:=(qO .i64 c3 1);let i7:Int:=(qaQ .i64 i1 1000000000);let i8:Int:=(q2k .i64 i1 (vk .i64 i7 1000000000));let t0:TR:=(qEj b0 (qEj b0 (.br (ilt c3 c8) (qEj (inb c3 232) (qEj (inb c3 232) (.br (ilt i4 0) (qEj b0 (qEj b0 (qEk ((.i c0)::(.i c1)::(.i (q2k .i64 i3 1))::(.i i6)::(.b d4)::(.i i5)::(.r (qeS a6 i0 0 [.i (qO .i64 i4 1000000000)]))::p0)))) (qEj b0 (qEj b0 (qEk ((.i c0)::(.i c1)::(.i i3)::(.i i6)::(.b d4)::(.i i5)::(.r (qeS a6 i0 0 [.i i4]))::p0))))))) (.br (ilt i8 0) (qEj b0 (qEj b0 (qEk ((.i c0)::(.i c1)::(.i (q2k .i64 i7 1))::(.i i6)::(.b d4)::(.i i5)::(.r (qeS a6 i0 0 [.i (qO .i64 i8 1000000000)]))::p0)))) (qEj b0 (qEj b0 (qEk ((.i c0)::(.i c1)::(.i i7)::(.i i6)::(.b d4)::(.i i5)::(.r (qeS a6 i0 0 [.i i8]))::p0))))))));(.br (ilt c3 c8) t0 (.br (ine c2 0) t0 (.leaf (1,((.b d4)::(.i c5)::(.r a6)::p0)))))):=by kernel_rfl
theorem qfX:qY [.i c0,.i c1,.b d2,.i c3,.r a4,.b d5,.i c6,.r a7]=(let r0:=qh vE [.i c0,.i c1,.i 0,.i 0,.b d2,.i c3,.r a4,.b d5,.i c6,.r a7];qEi r0 (let r1:=qU [.b (gB r0 0),.i (gI r0 1),.r (gR r0 2)];qEi r1 (qEk [.b (gB r1 0),.i (gI r1 1),.r (gR r1 2),.b (gB r0 3),.i (gI r0 4),.r (gR r0 5)]))):=by kernel_rfl
theorem qfj:jC [.i c0,.i c1,.b d2,.i c3,.r a4,.b d5,.i c6,.r a7,.b d8,.i c9,.r a10,.b d11,.i c12,.r a13]=(let r0:=wP [.b d11,.i c12,.r a13,.b d5,.i c6,.r a7];qEi r0 (.br (ile 0 (gI r0 0)) (let r1:=q0B [.b (gB r0 1),.i (gI r0 2),.r (gR r0 3),.b (gB r0 4),.i (gI r0 5),.r (gR r0 6)];qEi r1 (let r2:=qY [.i (q2k .i64 0 (gI r1 0)),.i 0,.b (gB r1 1),.i (gI r1 2),.r (gR r1 3),.b (gB r1 4),.i (gI r1 5),.r (gR r1 6)];qEi r2 (qEk [.i c0,.i (qO .i64 c1 (gI r1 0)),.b d2,.i c3,.r a4,.b (gB r2 3),.i (gI r2 4),.r (gR r2 5),.b d8,.i c9,.r a10,.b (gB r2 0),.i (gI r2 1),.r (gR r2 2)]))) (.leaf (1,[.i c0,.i c1,.b d2,.i c3,.r a4,.b (gB r0 4),.i (gI r0 5),.r (gR r0 6),.b d8,.i c9,.r a10,.b (gB r0 1),.i (gI r0 2),.r (gR r0 3)])))):=by kernel_rfl
theorem qga:kD [.i c0,.b d1,.i c2,.r a3,.b d4,.i c5,.r a6,.b d7,.i c8,.r a9,.b d10,.i c11,.r a12]=(.br (ile 0 c0) (qEj (q8D 232 232) (qEj (q8D 1 232) (qEj (q8D c11 232) (qEj (q8D 0 c11) (qEj (inb c0 232) (qEj (inb c0 232) (let r0:=qU [.b d10,.i (qO .i64 c11 1),.r (qeS (qgu a12 1 a12 0 (qg2 (quP c11 0) (quP 232 1))) 0 0 [.i (cI a3 c0 0)])];qEi r0 (let r1:=qh jC [.i c0,.i 0,.b d1,.i c2,.r a3,.b d4,.i c5,.r a6,.b d7,.i c8,.r a9,.b (gB r0 0),.i (gI r0 1),.r (gR r0 2)];qEi r1 (qEj (inb (gI r1 0) 232) (qEj (inb (gI r1 0) 232) (qEk [.i (q2k .i64 (gI r1 0) 1),.b (gB r1 2),.i (gI r1 3),.r (gR r1 4),.b (gB r1 5),.i (gI r1 6),.r (gR r1 7),.b (gB r1 8),.i (qqv (gI r1 9) (qO .i64 (gI r1 0) 1)),.r (qeS (gR r1 10) (gI r1 0) 0 [.i (gI r1 1)]),.b (gB r1 11),.i (gI r1 12),.r (gR r1 13)]))))))))))) (.leaf (1,[.b d1,.i c2,.r a3,.b d4,.i c5,.r a6,.b d7,.i c8,.r a9,.b d10,.i c11,.r a12]))):=by kernel_rfl
theorem qjl:yw [.b d0,.i c1,.r a2,.b d3,.i c4,.r a5]=(let r0:=qh kD [.i (q2k .i64 c1 1),.b d0,.i c1,.r a2,.b d3,.i c4,.r a5,.b false,.i 0,.r (q55 232 [.i 0]),.b false,.i 0,.r (q55 232 [.i 0])];qEi r0 (let r1:=qU [.b (gB r0 6),.i (gI r0 7),.r (gR r0 8)];qEi r1 (qEk [.b (gB r0 0),.i (gI r0 1),.r (gR r0 2),.b (gB r0 3),.i (gI r0 4),.r (gR r0 5),.b (gB r1 0),.i (gI r1 1),.r (gR r1 2),.b (gB r0 9),.i (gI r0 10),.r (gR r0 11)]))):=by kernel_rfl
theorem qjH:q0G [.i c0,.i c1]=(.br (ine c1 0) (qEj (ine c1 0) (qEk [.i c1,.i (qlA c0 c1)])) (.leaf (1,[.i c0]))):=by kernel_rfl
theorem qm2:q4B [.b d0,.i c1,.r a2,.b d3,.i c4,.r a5]=(let t0:=qh q0G [.i (cI a2 0 0),.i (cI a5 0 0)];let t1:=wn [.i (gI t0 0)];let t2:=yw [.b d0,.i c1,.r a2,.b d3,.i c4,.r a5];let t3:TR:=(qEi t2 (qEk [.b (gB t2 3),.i (gI t2 4),.r (gR t2 5),.b (gB t2 9),.i (gI t2 10),.r (gR t2 11)]));(.br (ilt 0 c4) (.br (ile c1 1) (.br (ile c4 1) (qEi t0 (qEi t1 (.leaf (2,[.s (gS t1 0),.i 0])))) t3) t3) (.leaf (1,[.b d0,.i c1,.r a2])))):=by kernel_rfl
theorem qqh:q1i [.s e0,.s e1]=(let r0:=wd [.r [[.s e0],[.s e1]]];qEi r0 (.br (ine (gI r0 0) 0) (qEk [.s [],.i (gI r0 0)]) (let r1:=wk [.s e0];qEi r1 (let r2:=wk [.s e1];qEi r2 (let r3:=qh q4B [.b (gB r1 0),.i (gI r1 1),.r (gR r1 2),.b (gB r2 0),.i (gI r2 1),.r (gR r2 2)];qEi r3 (.br (jIs r3 0) (let r4:=zj [.b false,.i (gI r3 1),.r (gR r3 2)];qEi r4 (qEk [.s (gS r4 0),.i 0])) (qEk [.s (gS r3 0),.i (gI r3 1)]))))))):=by kernel_rfl
theorem qmh:qJ [.s e0]=(let t0:=qE [.s e0];let t1:=z7 [.s (gS t0 0)];let p0:List PV:=[.s (gS t0 1)];let t2:TR:=(qEk [.i 3]);let i0:Int:=(gI (z7 p0) 0);let t3:TR:=(qEk [.i (qqv (gI t1 0) i0)]);let t4:TR:=(qEk [.i 0]);let t5:=yk [.s (gS t0 1),.s [49]];let t6:=q1i ((.s (gS t0 0))::p0);(qEi t0 (qEi t1 (qEi (z7 p0) (.br (ieq (gI t1 0) 3) t2 (.br (ieq i0 3) t2 (.br (ine (gI t1 0) 0) t3 (.br (ine i0 0) t3 (.br (not (gB t0 2)) t4 (qEi t5 (qEi t6 (.br (ine (gI t5 1) 0) t2 (.br (ine (gI t6 1) 0) t2 (.br (ile (gI t5 0) 0) t2 (.br (not (seq (gS t6 0) [49])) t2 t4))))))))))))))):=by kernel_rfl
theorem q2T:q1k [.i c0,.i c1,.s e2,.s e3,.s e4,.r a5]=(.br (ilt c1 c0) (qEj (inb c1 (qm a5)) (let r0:=qJ [.s (cS a5 c1 0)];qEi r0 (.br (ine (gI r0 0) 0) (.leaf (2,[.i (gI r0 0)])) (qEk [.i c0,.i (qO .i64 c1 1),.s e2,.s e3,.s e4,.r a5])))) (.leaf (1,[.s e2,.s e3,.s e4]))):=by kernel_rfl
theorem qlO:uo [.s e0,.s e1,.s e2]=(let r0:=qh q1k [.i (qm [[.s e0],[.s e1],[.s e2]]),.i 0,.s e0,.s e1,.s e2,.r [[.s e0],[.s e1],[.s e2]]];qEi r0 (.br (jIs r0 0) (qEj (inb 0 (zp (gS r0 2))) (.br (ieq (sat (gS r0 2) 0) 45) (qEk [.i 2]) (qEk [.i 0]))) (qEk [.i (gI r0 0)]))):=by kernel_rfl
theorem qcK:q2I [.r a0,.r a1,.i c2,.i c3]=(.br (ilt c3 c2) (qEj (inb c3 (qm a1)) (let r0:=uo [.s (cS a1 c3 0),.s (cS a1 c3 1),.s (cS a1 c3 2)];qEi r0 (.br (ine (gI r0 0) 0) (.leaf (2,[.i (gI r0 0)])) (qEk [.r a0,.r a1,.i c2,.i (qO .i64 c3 1)])))) (.leaf (1,[.r a0]))):=by kernel_rfl
theorem qoI:q3J [.r a0]=(.br (ilt 64 (qm a0)) (qEk [.i 5]) (let r0:=qh q2I [.r a0,.r a0,.i (qm a0),.i 0];qEi r0 (.br (jIs r0 0) (.br (ieq (qm (gR r0 0)) 0) (qEk [.i 13]) (qEk [.i 0])) (qEk [.i (gI r0 0)])))):=by kernel_rfl
theorem qme:jU [.s e0,.s e1]=(.br (ilt 9 (zp e0)) (qEk [.i 0,.i 0,.b false]) (.br (ilt 9 (zp e1)) (qEk [.i 0,.i 0,.b false]) (qEi (jj [.s e0]) (qEi (jj [.s e1]) (qEk [.i (gI (jj [.s e0]) 0),.i (gI (jj [.s e1]) 0),.b true]))))):=by kernel_rfl
theorem qjJ:uC [.i c0]=(qEi (wn [.i c0]) (qEk [.s (gS (wn [.i c0]) 0),.i 0])):=by kernel_rfl
theorem qda:jL [.i c0,.i c1,.b d2,.i c3,.r a4,.b d5,.i c6,.r a7,.b d8,.i c9,.r a10]=(.br (ilt c1 c0) (qEj (inb c1 232) (qEj (inb c1 232) (let r0:=qY [.i (cI a7 c1 0),.i c1,.b d8,.i c9,.r a10,.b d2,.i c3,.r a4];qEi r0 (qEk [.i c0,.i (qO .i64 c1 1),.b (gB r0 3),.i (gI r0 4),.r (gR r0 5),.b d5,.i c6,.r a7,.b (gB r0 0),.i (gI r0 1),.r (gR r0 2)])))) (.leaf (1,[.b d2,.i c3,.r a4,.b d5,.i c6,.r a7,.b d8,.i c9,.r a10]))):=by kernel_rfl
theorem qfb:ui [.b d0,.i c1,.r a2,.b d3,.i c4,.r a5]=(let r0:=qh jL [.i c4,.i 0,.b d0,.i c1,.r a2,.b d3,.i c4,.r a5,.b (not (beq d0 d3)),.i 0,.r (q55 232 [.i 0])];qEi r0 (qEk [.b (gB r0 0),.i (gI r0 1),.r (gR r0 2),.b (gB r0 3),.i (gI r0 4),.r (gR r0 5),.b (gB r0 6),.i (gI r0 7),.r (gR r0 8)])):=by kernel_rfl
theorem qdl:wi [.b d0,.i c1,.r a2]=(let r0:=zj [.b d0,.i c1,.r a2];qEi r0 (let r1:=z7 [.s (gS r0 0)];qEi r1 (.br (ine (gI r1 0) 0) (qEk [.s [],.i (gI r1 0),.b (gB r0 1),.i (gI r0 2),.r (gR r0 3)]) (qEk [.s (gS r0 0),.i 0,.b (gB r0 1),.i (gI r0 2),.r (gR r0 3)])))):=by kernel_rfl
theorem qpn:q3l [.s e0,.s e1]=(let r0:=wd [.r [[.s e0],[.s e1]]];qEi r0 (.br (ine (gI r0 0) 0) (qEk [.s [],.i (gI r0 0)]) (let r1:=jU [.s e0,.s e1];qEi r1 (.br (gB r1 2) (let r2:=uC [.i (vk .i64 (gI r1 0) (gI r1 1))];qEi r2 (qEk [.s (gS r2 0),.i (gI r2 1)])) (let r2:=wk [.s e0];qEi r2 (let r3:=wk [.s e1];qEi r3 (let r4:=ui [.b (gB r2 0),.i (gI r2 1),.r (gR r2 2),.b (gB r3 0),.i (gI r3 1),.r (gR r3 2)];qEi r4 (let r5:=wi [.b (gB r4 6),.i (gI r4 7),.r (gR r4 8)];qEi r5 (qEk [.s (gS r5 0),.i (gI r5 1)]))))))))):=by kernel_rfl
theorem q8q:zC [.s e0,.s e1,.i c2]=(.br (ine c2 0) (qEk [.s [48],.i c2]) (let r0:=q3l [.s e0,.s e1];qEi r0 (.br (ine (gI r0 1) 0) (qEk [.s [48],.i (gI r0 1)]) (qEk [.s (gS r0 0),.i (gI r0 1)])))):=by kernel_rfl
theorem q7H:jr [.s e0,.r a1,.i c2,.i c3,.i c4]=(.br (ilt c3 c2) (qEj (inb c3 (qm a1)) (let r0:=zC [.s e0,.s (cS a1 c3 0),.i c4];qEi r0 (qEk [.s (gS r0 0),.r a1,.i c2,.i (qO .i64 c3 1),.i (gI r0 1)]))) (.leaf (1,[.s e0,.i c4]))):=by kernel_rfl
theorem qhx:qf [.r a0,.i c1]=(let r0:=qh jr [.s [49],.r a0,.i (qm a0),.i 0,.i c1];qEi r0 (qEk [.s (gS r0 0),.i (gI r0 1)])):=by kernel_rfl
theorem qgh:wZ [.b d0,.i c1,.r a2,.b d3,.i c4,.r a5]=(.br (beq d0 d3) (let r0:=qY [.i 1,.i 0,.b d0,.i c1,.r a2,.b d3,.i c4,.r a5];qEi r0 (qEk [.b (gB r0 0),.i (gI r0 1),.r (gR r0 2),.b (gB r0 3),.i (gI r0 4),.r (gR r0 5)])) (let r0:=wP [.b d0,.i c1,.r a2,.b d3,.i c4,.r a5];qEi r0 (.br (ile 0 (gI r0 0)) (let r1:=qY [.i (-1),.i 0,.b (gB r0 1),.i (gI r0 2),.r (gR r0 3),.b (gB r0 4),.i (gI r0 5),.r (gR r0 6)];qEi r1 (qEk [.b (gB r1 0),.i (gI r1 1),.r (gR r1 2),.b (gB r1 3),.i (gI r1 4),.r (gR r1 5)])) (let r1:=qY [.i (-1),.i 0,.b (gB r0 4),.i (gI r0 5),.r (gR r0 6),.b (gB r0 1),.i (gI r0 2),.r (gR r0 3)];qEi r1 (qEk [.b (gB r1 0),.i (gI r1 1),.r (gR r1 2),.b (gB r0 4),.i (gI r0 5),.r (gR r0 6)]))))):=by kernel_rfl
theorem q9f:q4q [.r a0,.i c1,.i c2,.b d3,.i c4,.r a5]=(.br (ilt c2 c1) (qEj (inb c2 (qm a0)) (let r0:=wk [.s (cS a0 c2 0)];qEi r0 (let r1:=wZ [.b d3,.i c4,.r a5,.b (gB r0 0),.i (gI r0 1),.r (gR r0 2)];qEi r1 (qEk [.r a0,.i c1,.i (qO .i64 c2 1),.b (gB r1 0),.i (gI r1 1),.r (gR r1 2)])))) (.leaf (1,[.b d3,.i c4,.r a5]))):=by kernel_rfl
theorem qoS:q7L [.r a0]=(let r0:=qh q4q [.r a0,.i (qm a0),.i 0,.b false,.i 0,.r (q55 232 [.i 0])];qEi r0 (let r1:=wi [.b (gB r0 0),.i (gI r0 1),.r (gR r0 2)];qEi r1 (qEk [.s (gS r1 0),.i (gI r1 1)]))):=by kernel_rfl
theorem qpU:q1w [.s e0,.s e1]=(let r0:=wd [.r [[.s e0],[.s e1]]];qEi r0 (.br (ine (gI r0 0) 0) (qEk [.s [],.i (gI r0 0)]) (let r1:=jU [.s e0,.s e1];qEi r1 (.br (gB r1 2) (let r2:=uC [.i (qO .i64 (gI r1 0) (gI r1 1))];qEi r2 (qEk [.s (gS r2 0),.i (gI r2 1)])) (let r2:=q7L [.r [[.s e0],[.s e1]]];qEi r2 (qEk [.s (gS r2 0),.i (gI r2 1)])))))):=by kernel_rfl
theorem qhv:q0m [.s e0]=(let r0:=jZ [.s e0];qEi r0 (.br (ieq (gI r0 0) 0) (qEk [.s e0]) (.br (ieq (gI r0 0) 1) (qEj (ile ((zp [45])+(zp e0)) 140737488355328) (qEk [.s (qjo [45] e0)])) (qEj (q8D (zp e0) (zp e0)) (qEj (q8D 1 (zp e0)) (qEk [.s (qg1 e0 1 (zp e0))])))))):=by kernel_rfl
theorem qqu:q54 [.s e0,.s e1]=(let r0:=wd [.r [[.s e0],[.s e1]]];qEi r0 (.br (ine (gI r0 0) 0) (qEk [.s [],.i (gI r0 0)]) (let r1:=q0m [.s e1];qEi r1 (let r2:=q1w [.s e0,.s (gS r1 0)];qEi r2 (qEk [.s (gS r2 0),.i (gI r2 1)]))))):=by kernel_rfl
theorem q8s:wy [.s e0,.s e1,.i c2]=(.br (ine c2 0) (qEk [.s [48],.i c2]) (let r0:=q54 [.s e0,.s e1];qEi r0 (.br (ine (gI r0 1) 0) (qEk [.s [48],.i (gI r0 1)]) (qEk [.s (gS r0 0),.i (gI r0 1)])))):=by kernel_rfl
theorem qhX:zg [.s e0,.s e1,.i c2]=(let r0:=wy [.s e0,.s e1,.i c2];qEi r0 (qEk [.s (gS r0 0),.i (gI r0 1)])):=by kernel_rfl
theorem qlV:q1W [.s e0,.s e1,.s e2,.s e3,.i c4]=(let r0:=qf [.r [[.s e0],[.s e3]],.i c4];qEi r0 (let r1:=qf [.r [[.s e2],[.s e1]],.i (gI r0 1)];qEi r1 (let r2:=zg [.s (gS r0 0),.s (gS r1 0),.i (gI r1 1)];qEi r2 (let r3:=qf [.r [[.s e1],[.s e3]],.i (gI r2 1)];qEi r3 (qEk [.s (gS r2 0),.s (gS r3 0),.i (gI r3 1)]))))):=by kernel_rfl
theorem qaP:q0t [.r a0,.i c1,.i c2]=(.br (ilt c2 c1) (qEj (inb c2 (qm a0)) (let r0:=qJ [.s (cS a0 c2 0)];qEi r0 (.br (ine (gI r0 0) 0) (.leaf (2,[.i (gI r0 0)])) (qEk [.r a0,.i c1,.i (qO .i64 c2 1)])))) (.leaf (1,[]))):=by kernel_rfl
theorem qkG:qv [.r a0]=(let r0:=qh q0t [.r a0,.i (qm a0),.i 0];qEi r0 (.br (jIs r0 0) (qEk [.i 0]) (qEk [.i (gI r0 0)]))):=by kernel_rfl
theorem qet:yq [.s e0,.s e1]=(let r0:=qI [.s e0,.s e1];qEi r0 (qEk [.b (gB r0 0)])):=by kernel_rfl
theorem qkM:q0F [.s e0,.s e1]=(.br (seq e1 [49]) (qEk [.s e0]) (qEj (ile ((zp e0)+(zp [47])) 140737488355328) (qEj (ile ((zp (qjo e0 [47]))+(zp e1)) 140737488355328) (qEk [.s (qjo (qjo e0 [47]) e1)])))):=by kernel_rfl
theorem qjF:q2t [.s e0,.s e1]=(let t0:=wd [.r [[.s e0],[.s e1]]];let t1:=jU [.s e0,.s e1];let i0:Int:=(gI t1 1);let i1:Int:=(qlA (gI t1 0) i0);let i2:Int:=(qaQ .i64 (gI t1 0) i0);let t2:=wn [.i (q2k .i64 i2 1)];let t3:=wn [.i (qO .i64 i1 i0)];let t4:TR:=(qEi (wn [.i i2]) (qEi (wn [.i i1]) (qEk [.s (gS (wn [.i i2]) 0),.s (gS (wn [.i i1]) 0),.i 0])));let t5:=wk [.s e0];let t6:=wk [.s e1];let t7:=yw [.b (gB t5 0),.i (gI t5 1),.r (gR t5 2),.b (gB t6 0),.i (gI t6 1),.r (gR t6 2)];let b0:Bool:=(not (beq (gB t7 0) (gB t7 3)));let t8:=wZ [.b true,.i (gI t7 7),.r (gR t7 8),.b true,.i 1,.r (qeS (q55 232 [.i 0]) 0 0 [.i 1])];let t9:=wZ [.b (gB t7 0),.i (gI t7 10),.r (gR t7 11),.b (gB t7 3),.i (gI t7 4),.r (gR t7 5)];let t10:=zj [.b (gB t8 0),.i (gI t8 1),.r (gR t8 2)];let t11:=zj [.b (gB t9 0),.i (gI t9 1),.r (gR t9 2)];let t12:=zj [.b b0,.i (gI t7 7),.r (gR t7 8)];let t13:=zj [.b (gB t7 0),.i (gI t7 10),.r (gR t7 11)];let t14:TR:=(qEi t12 (qEi t13 (qEk [.s (gS t12 0),.s (gS t13 0),.i 0])));(qEi t0 (.br (ine (gI t0 0) 0) (qEk [.s [],.s [],.i (gI t0 0)]) (.br (seq e1 [48]) (qEk [.s [],.s [],.i 10]) (qEi t1 (.br (gB t1 2) (qEj (ine i0 0) (qEj (ine i0 0) (.br (ine i1 0) (.br (not (beq (ilt i1 0) (ilt i0 0))) (qEi t2 (qEi t3 (qEk [.s (gS t2 0),.s (gS t3 0),.i 0]))) t4) t4))) (qEi t5 (qEi t6 (qEi t7 (.br (ilt 0 (gI t7 10)) (.br b0 (qEi t8 (qEi t9 (qEi t10 (qEi t11 (qEk [.s (gS t10 0),.s (gS t11 0),.i 0]))))) t14) t14)))))))))):=by kernel_rfl
theorem qp7:q56 [.s e0,.s e1]=(let r0:=q2t [.s e0,.s e1];qEi r0 (.br (ine (gI r0 2) 0) (qEk [.s [],.i (gI r0 2)]) (let r1:=z7 [.s (gS r0 0)];qEi r1 (.br (ine (gI r1 0) 0) (qEk [.s [],.i (gI r1 0)]) (qEk [.s (gS r0 0),.i 0]))))):=by kernel_rfl
theorem q8x:wH [.s e0,.s e1,.i c2]=(.br (ine c2 0) (qEk [.s [48],.i c2]) (let r0:=q1i [.s e0,.s e1];qEi r0 (.br (ine (gI r0 1) 0) (qEk [.s [48],.i (gI r0 1)]) (qEk [.s (gS r0 0),.i (gI r0 1)])))):=by kernel_rfl
theorem q8t:qW [.s e0,.s e1,.i c2]=(.br (ine c2 0) (qEk [.s [48],.i c2]) (let r0:=q56 [.s e0,.s e1];qEi r0 (.br (ine (gI r0 1) 0) (qEk [.s [48],.i (gI r0 1)]) (qEk [.s (gS r0 0),.i (gI r0 1)])))):=by kernel_rfl
theorem qer:qZ [.s e0,.s e1,.i c2]=(let r0:=wH [.s e0,.s e1,.i c2];qEi r0 (let r1:=yq [.s e1,.s [45]];qEi r1 (.br (gB r1 0) (let r2:=zg [.s [48],.s (gS r0 0),.i (gI r0 1)];qEi r2 (.br (ine (gI r2 1) 0) (qEk [.s [],.i (gI r2 1)]) (let r3:=qW [.s e0,.s (gS r2 0),.i (gI r2 1)];qEi r3 (let r4:=qW [.s e1,.s (gS r2 0),.i (gI r3 1)];qEi r4 (let r5:=q0F [.s (gS r3 0),.s (gS r4 0)];qEi r5 (qEk [.s (gS r5 0),.i (gI r4 1)])))))) (.br (ine (gI r0 1) 0) (qEk [.s [],.i (gI r0 1)]) (let r2:=qW [.s e0,.s (gS r0 0),.i (gI r0 1)];qEi r2 (let r3:=qW [.s e1,.s (gS r0 0),.i (gI r2 1)];qEi r3 (let r4:=q0F [.s (gS r2 0),.s (gS r3 0)];qEi r4 (qEk [.s (gS r4 0),.i (gI r3 1)])))))))):=by kernel_rfl
theorem q9y:wX [.s e0,.s e1]=(let r0:=qv [.r [[.s e0],[.s e1]]];qEi r0 (.br (ine (gI r0 0) 0) (qEk [.s [],.i (gI r0 0)]) (let r1:=qE [.s e0];qEi r1 (let r2:=qE [.s e1];qEi r2 (let r3:=q1W [.s (gS r1 0),.s (gS r1 1),.s (gS r2 0),.s (gS r2 1),.i 0];qEi r3 (.br (ine (gI r3 2) 0) (qEk [.s [],.i (gI r3 2)]) (.br (seq (gS r3 1) [48]) (qEk [.s [],.i 10]) (let r4:=qZ [.s (gS r3 0),.s (gS r3 1),.i (gI r3 2)];qEi r4 (qEk [.s (gS r4 0),.i (gI r4 1)]))))))))):=by kernel_rfl
theorem qq6:zu [.s e0,.s e1]=(let r0:=wX [.s e0,.s e1];qEi r0 (qEk [.s (gS r0 0),.i (gI r0 1)])):=by kernel_rfl
theorem q8y:wt [.s e0,.s e1,.i c2]=(.br (ine c2 0) (qEk [.s [48],.i c2]) (let r0:=zu [.s e0,.s e1];qEi r0 (.br (ine (gI r0 1) 0) (qEk [.s [48],.i (gI r0 1)]) (qEk [.s (gS r0 0),.i (gI r0 1)])))):=by kernel_rfl
theorem qit:qS [.s e0,.s e1,.i c2]=(let r0:=wt [.s e0,.s e1,.i c2];qEi r0 (qEk [.s (gS r0 0),.i (gI r0 1)])):=by kernel_rfl
theorem qgA:zT [.s e0,.s e1,.s e2,.s e3,.i c4]=(let r0:=qS [.s e0,.s e2,.i c4];qEi r0 (let r1:=qS [.s e1,.s e3,.i (gI r0 1)];qEi r1 (qEk [.s (gS r0 0),.s (gS r1 0),.i (gI r1 1)]))):=by kernel_rfl
theorem q8C:wG [.s e0,.s e1,.i c2]=(.br (ine c2 0) (qEk [.s [48],.i c2]) (let r0:=q1w [.s e0,.s e1];qEi r0 (.br (ine (gI r0 1) 0) (qEk [.s [48],.i (gI r0 1)]) (qEk [.s (gS r0 0),.i (gI r0 1)])))):=by kernel_rfl
theorem qhQ:jJ [.s e0,.s e1,.i c2]=(let r0:=wG [.s e0,.s e1,.i c2];qEi r0 (qEk [.s (gS r0 0),.i (gI r0 1)])):=by kernel_rfl
theorem qmi:q1z [.s e0,.s e1,.s e2,.s e3,.i c4]=(let r0:=qf [.r [[.s e0],[.s e3]],.i c4];qEi r0 (let r1:=qf [.r [[.s e2],[.s e1]],.i (gI r0 1)];qEi r1 (let r2:=jJ [.s (gS r0 0),.s (gS r1 0),.i (gI r1 1)];qEi r2 (let r3:=qf [.r [[.s e1],[.s e3]],.i (gI r2 1)];qEi r3 (qEk [.s (gS r2 0),.s (gS r3 0),.i (gI r3 1)]))))):=by kernel_rfl
theorem q9j:wV [.s e0,.s e1]=(let r0:=qv [.r [[.s e0],[.s e1]]];qEi r0 (.br (ine (gI r0 0) 0) (qEk [.s [],.i (gI r0 0)]) (let r1:=qE [.s e0];qEi r1 (let r2:=qE [.s e1];qEi r2 (let r3:=q1z [.s (gS r1 0),.s (gS r1 1),.s (gS r2 0),.s (gS r2 1),.i 0];qEi r3 (.br (ine (gI r3 2) 0) (qEk [.s [],.i (gI r3 2)]) (.br (seq (gS r3 1) [48]) (qEk [.s [],.i 10]) (let r4:=qZ [.s (gS r3 0),.s (gS r3 1),.i (gI r3 2)];qEi r4 (qEk [.s (gS r4 0),.i (gI r4 1)]))))))))):=by kernel_rfl
theorem qpb:vB [.s e0,.s e1]=(let r0:=wV [.s e0,.s e1];qEi r0 (qEk [.s (gS r0 0),.i (gI r0 1)])):=by kernel_rfl
theorem q8A:wu [.s e0,.s e1,.i c2]=(.br (ine c2 0) (qEk [.s [48],.i c2]) (let r0:=vB [.s e0,.s e1];qEi r0 (.br (ine (gI r0 1) 0) (qEk [.s [48],.i (gI r0 1)]) (qEk [.s (gS r0 0),.i (gI r0 1)])))):=by kernel_rfl
theorem qid:zw [.s e0,.s e1,.i c2]=(let r0:=wu [.s e0,.s e1,.i c2];qEi r0 (qEk [.s (gS r0 0),.i (gI r0 1)])):=by kernel_rfl
theorem qm1:q1H [.s e0,.s e1,.s e2,.s e3,.i c4]=(let r0:=qf [.r [[.s e0],[.s e2]],.i c4];qEi r0 (let r1:=qf [.r [[.s e1],[.s e3]],.i (gI r0 1)];qEi r1 (qEk [.s (gS r0 0),.s (gS r1 0),.i (gI r1 1)]))):=by kernel_rfl
theorem qa5:wQ [.s e0,.s e1]=(let r0:=qv [.r [[.s e0],[.s e1]]];qEi r0 (.br (ine (gI r0 0) 0) (qEk [.s [],.i (gI r0 0)]) (let r1:=qE [.s e0];qEi r1 (let r2:=qE [.s e1];qEi r2 (let r3:=q1H [.s (gS r1 0),.s (gS r1 1),.s (gS r2 0),.s (gS r2 1),.i 0];qEi r3 (.br (ine (gI r3 2) 0) (qEk [.s [],.i (gI r3 2)]) (.br (seq (gS r3 1) [48]) (qEk [.s [],.i 10]) (let r4:=qZ [.s (gS r3 0),.s (gS r3 1),.i (gI r3 2)];qEi r4 (qEk [.s (gS r4 0),.i (gI r4 1)]))))))))):=by kernel_rfl
theorem qpm:wK [.s e0,.s e1]=(let r0:=wQ [.s e0,.s e1];qEi r0 (qEk [.s (gS r0 0),.i (gI r0 1)])):=by kernel_rfl
theorem q8v:wD [.s e0,.s e1,.i c2]=(.br (ine c2 0) (qEk [.s [48],.i c2]) (let r0:=wK [.s e0,.s e1];qEi r0 (.br (ine (gI r0 1) 0) (qEk [.s [48],.i (gI r0 1)]) (qEk [.s (gS r0 0),.i (gI r0 1)])))):=by kernel_rfl
theorem qig:qX [.s e0,.s e1,.i c2]=(let r0:=wD [.s e0,.s e1,.i c2];qEi r0 (qEk [.s (gS r0 0),.i (gI r0 1)])):=by kernel_rfl
theorem qin:zx [.s e0,.s e1,.s e2,.s e3,.i c4]=(let r0:=qX [.s e0,.s e2,.i c4];qEi r0 (let r1:=qX [.s e1,.s e3,.i (gI r0 1)];qEi r1 (let r2:=zw [.s (gS r0 0),.s (gS r1 0),.i (gI r1 1)];qEi r2 (qEk [.s (gS r2 0),.i (gI r2 1)])))):=by kernel_rfl
theorem qmm:q1Q [.s e0,.s e1,.s e2,.s e3,.i c4]=(let r0:=qf [.r [[.s e0],[.s e3]],.i c4];qEi r0 (let r1:=qf [.r [[.s e1],[.s e2]],.i (gI r0 1)];qEi r1 (qEk [.s (gS r0 0),.s (gS r1 0),.i (gI r1 1)]))):=by kernel_rfl
theorem q9D:wS [.s e0,.s e1]=(let r0:=qv [.r [[.s e0],[.s e1]]];qEi r0 (.br (ine (gI r0 0) 0) (qEk [.s [],.i (gI r0 0)]) (let r1:=qE [.s e0];qEi r1 (let r2:=qE [.s e1];qEi r2 (let r3:=q1Q [.s (gS r1 0),.s (gS r1 1),.s (gS r2 0),.s (gS r2 1),.i 0];qEi r3 (.br (ine (gI r3 2) 0) (qEk [.s [],.i (gI r3 2)]) (.br (seq (gS r3 1) [48]) (qEk [.s [],.i 10]) (let r4:=qZ [.s (gS r3 0),.s (gS r3 1),.i (gI r3 2)];qEi r4 (qEk [.s (gS r4 0),.i (gI r4 1)]))))))))):=by kernel_rfl
theorem qq7:uB [.s e0,.s e1]=(let r0:=qv [.r [[.s e0],[.s e1]]];qEi r0 (.br (ine (gI r0 0) 0) (qEk [.s [],.i (gI r0 0)]) (.br (seq e1 [48]) (qEk [.s [],.i 10]) (let r1:=wS [.s e0,.s e1];qEi r1 (qEk [.s (gS r1 0),.i (gI r1 1)]))))):=by kernel_rfl
theorem q8u:zD [.s e0,.s e1,.i c2]=(.br (ine c2 0) (qEk [.s [48],.i c2]) (let r0:=uB [.s e0,.s e1];qEi r0 (.br (ine (gI r0 1) 0) (qEk [.s [48],.i (gI r0 1)]) (qEk [.s (gS r0 0),.i (gI r0 1)])))):=by kernel_rfl
theorem qft:vD [.r a0,.i c1,.i c2,.i c3,.i c4]=(let t0:=zT [.s (cS a0 c2 0),.s (cS a0 c2 1),.s (cS a0 c1 0),.s (cS a0 c1 1),.i c4];let s0:List UInt8:=(gS t0 1);let s1:List UInt8:=(gS t0 0);let t1:=zx [.s s1,.s s0,.s s1,.s s0,.i (gI t0 2)];let t2:=zw [.s (gS t1 0),.s (cS a0 c1 2),.i (gI t1 1)];let t3:=qS [.s (gS t2 0),.s (cS a0 c2 2),.i (gI t2 1)];let t4:=qX [.s [50],.s (gS t1 0),.i (gI t3 1)];let t5:=zD [.s (gS t3 0),.s (gS t4 0),.i (gI t4 1)];let t6:=qX [.s (gS t5 0),.s s1,.i (gI t5 1)];let t7:=zw [.s (cS a0 c1 0),.s (gS t6 0),.i (gI t6 1)];let t8:=qX [.s (gS t5 0),.s s0,.i (gI t7 1)];let t9:=zw [.s (cS a0 c1 1),.s (gS t8 0),.i (gI t8 1)];let t10:=qS [.s [48],.s s0,.i (gI t9 1)];let t11:=zD [.s (cS a0 c1 2),.s (gS t1 0),.i (gI t10 1)];let t12:=qX [.s (gS t5 0),.s (gS t5 0),.i (gI t11 1)];let t13:=qS [.s (gS t11 0),.s (gS t12 0),.i (gI t12 1)];let p0:List PV:=[.i (gI t13 1)];let t14:=qS ((.s [48])::(.s s1)::p0);let s2:List UInt8:=(gS t13 0);let b0:Bool:=(beq (seq s2 [48]) (ieq c3 0));let t15:TR:=(qEk [.s (gS t7 0),.s (gS t9 0),.s s0,.s (gS t14 0),.s s2,.b false,.i (gI t14 1)]);let t16:TR:=(qEk ((.s (gS t7 0))::(.s (gS t9 0))::(.s (gS t10 0))::(.s s1)::(.s s2)::(.b false)::p0));(qEj (inb c1 (qm a0)) (qEj (inb c2 (qm a0)) (.br (ieq c1 c2) (qEk [.s (cS a0 c1 0),.s (cS a0 c1 1),.s [48],.s [48],.s [48],.b (ieq c3 0),.i c4]) (qEi t0 (qEi t1 (.br (seq (gS t1 0) [48]) (qEk [.s [],.s [],.s [],.s [],.s [],.b false,.i (gI t1 1)]) (qEi t2 (qEi t3 (qEi t4 (qEi t5 (qEi t6 (qEi t7 (qEi t8 (qEi t9 (qEi t10 (qEi t11 (qEi t12 (qEi t13 (.br (ilt c3 0) (qEi t14 (.br (ieq (gI t14 1) 0) (qEj (inb 0 (zp s2)) (.br (ine (sat s2 0) 45) (qEk [.s (gS t7 0),.s (gS t9 0),.s s0,.s (gS t14 0),.s s2,.b b0,.i (gI t14 1)]) t15)) t15)) (.br (ieq (gI t13 1) 0) (qEj (inb 0 (zp s2)) (.br (ine (sat s2 0) 45) (qEk ((.s (gS t7 0))::(.s (gS t9 0))::(.s (gS t10 0))::(.s s1)::(.s s2)::(.b b0)::p0)) t16)) t16))))))))))))))))))))):=by kernel_rfl
theorem qnR:q1n [.s e0]=(let r0:=z7 [.s e0];qEi r0 (.br (ine (gI r0 0) 0) (qEk [.i 0,.i (gI r0 0)]) (let r1:=jZ [.s e0];qEi r1 (qEk [.i (gI r1 0),.i 0])))):=by kernel_rfl
theorem qgd:zk [.s e0,.i c1]=(.br (ine c1 0) (qEk [.i 0,.i c1]) (let r0:=q1n [.s e0];qEi r0 (qEk [.i (gI r0 0),.i (gI r0 1)]))):=by kernel_rfl
theorem qh9:yi [.s e0,.s e1,.s e2,.i c3]=(let r0:=zk [.s e0,.i c3];qEi r0 (let r1:=zk [.s e1,.i (gI r0 1)];qEi r1 (let r2:=zk [.s e2,.i (gI r1 1)];qEi r2 (.br (ile 0 (vk .i64 (gI r0 0) (vk .i64 (gI r1 0) (gI r2 0)))) (.br (ine (gI r0 0) 0) (qEk [.i (gI r0 0),.i (gI r2 1)]) (qEk [.i (vk .i64 (gI r1 0) (gI r2 0)),.i (gI r2 1)])) (let r3:=qf [.r [[.s e0],[.s e0]],.i (gI r2 1)];qEi r3 (let r4:=qf [.r [[.s e1],[.s e1],[.s e2]],.i (gI r3 1)];qEi r4 (let r5:=zg [.s (gS r3 0),.s (gS r4 0),.i (gI r4 1)];qEi r5 (let r6:=zk [.s (gS r5 0),.i (gI r5 1)];qEi r6 (qEk [.i (vk .i64 (gI r0 0) (gI r6 0)),.i (gI r6 1)]))))))))):=by kernel_rfl
theorem qh2:kv [.s e0,.s e1,.s e2,.s e3,.s e4]=(let r0:=qv [.r [[.s e0],[.s e1],[.s e2],[.s e3],[.s e4]]];qEi r0 (.br (ine (gI r0 0) 0) (qEk [.i 0,.i (gI r0 0)]) (qEj (inb 0 (zp e2)) (.br (ieq (sat e2 0) 45) (qEk [.i 0,.i 2]) (qEj (inb 0 (zp e4)) (.br (ieq (sat e4 0) 45) (qEk [.i 0,.i 2]) (let r1:=qE [.s e0];qEi r1 (let r2:=qE [.s e1];qEi r2 (let r3:=qE [.s e2];qEi r3 (let r4:=qE [.s e3];qEi r4 (let r5:=qE [.s e4];qEi r5 (let r6:=qf [.r [[.s (gS r1 0)],[.s (gS r2 1)],[.s (gS r3 1)],[.s (gS r4 1)],[.s (gS r5 1)]],.i 0];qEi r6 (let r7:=qf [.r [[.s (gS r2 0)],[.s (gS r1 1)],[.s (gS r4 1)],[.s (gS r5 1)]],.i (gI r6 1)];qEi r7 (let r8:=qf [.r [[.s (gS r3 0)],[.s (gS r3 1)]],.i (gI r7 1)];qEi r8 (let r9:=qf [.r [[.s (gS r4 0)],[.s (gS r1 1)],[.s (gS r2 1)],[.s (gS r3 1)]],.i (gI r8 1)];qEi r9 (let r10:=qf [.r [[.s (gS r5 0)],[.s (gS r5 1)]],.i (gI r9 1)];qEi r10 (let r11:=yi [.s (gS r6 0),.s (gS r7 0),.s (gS r8 0),.i (gI r10 1)];qEi r11 (let r12:=zk [.s (gS r9 0),.i (gI r11 1)];qEi r12 (let r13:=zk [.s (gS r10 0),.i (gI r12 1)];qEi r13 (.br (ile 0 (vk .i64 (gI r11 0) (vk .i64 (gI r12 0) (gI r13 0)))) (.br (ieq (gI r11 0) 0) (qEk [.i (vk .i64 (gI r12 0) (gI r13 0)),.i (gI r13 1)]) (qEk [.i (gI r11 0),.i (gI r13 1)])) (let r14:=qf [.r [[.s (gS r6 0)],[.s (gS r6 0)]],.i (gI r13 1)];qEi r14 (let r15:=qf [.r [[.s (gS r7 0)],[.s (gS r7 0)],[.s (gS r8 0)]],.i (gI r14 1)];qEi r15 (let r16:=jJ [.s (gS r14 0),.s (gS r15 0),.i (gI r15 1)];qEi r16 (let r17:=qf [.r [[.s (gS r9 0)],[.s (gS r9 0)],[.s (gS r10 0)]],.i (gI r16 1)];qEi r17 (let r18:=zg [.s (gS r16 0),.s (gS r17 0),.i (gI r17 1)];qEi r18 (let r19:=qf [.r [[.s [50]],[.s (gS r6 0)],[.s (gS r7 0)]],.i (gI r18 1)];qEi r19 (let r20:=yi [.s (gS r18 0),.s (gS r19 0),.s (gS r8 0),.i (gI r19 1)];qEi r20 (.br (ine (gI r20 1) 0) (qEk [.i 0,.i (gI r20 1)]) (qEk [.i (vk .i64 (gI r11 0) (gI r20 0)),.i 0]))))))))))))))))))))))))))))):=by kernel_rfl
theorem qib:q0p [.s e0,.s e1,.s e2]=(let r0:=kv [.s e0,.s e1,.s e2,.s [48],.s [48]];qEi r0 (qEk [.i (gI r0 0),.i (gI r0 1)])):=by kernel_rfl
theorem qgb:j5 [.s e0,.s e1,.s e2,.i c3]=(.br (ine c3 0) (qEk [.i 0,.i c3]) (let r0:=q0p [.s e0,.s e1,.s e2];qEi r0 (qEk [.i (gI r0 0),.i (gI r0 1)]))):=by kernel_rfl
theorem qg0:ju [.s e0,.s e1,.s e2,.s e3,.s e4,.s e5,.s e6,.s e7,.i c8]=(let r0:=zT [.s e3,.s e4,.s e0,.s e1,.i c8];qEi r0 (let r1:=zx [.s (gS r0 0),.s (gS r0 1),.s (gS r0 0),.s (gS r0 1),.i (gI r0 2)];qEi r1 (let r2:=zx [.s e5,.s e6,.s e5,.s e6,.i (gI r1 1)];qEi r2 (let r3:=qX [.s e7,.s (gS r2 0),.i (gI r2 1)];qEi r3 (let r4:=zw [.s (gS r1 0),.s (gS r3 0),.i (gI r3 1)];qEi r4 (let r5:=qS [.s (gS r4 0),.s e2,.i (gI r4 1)];qEi r5 (let r6:=zx [.s (gS r0 0),.s (gS r0 1),.s e5,.s e6,.i (gI r5 1)];qEi r6 (let r7:=qX [.s [50],.s (gS r6 0),.i (gI r6 1)];qEi r7 (let r8:=j5 [.s (gS r5 0),.s (gS r7 0),.s e7,.i (gI r7 1)];qEi r8 (qEk [.b (ile (gI r8 0) 0),.i (gI r8 1)])))))))))):=by kernel_rfl
theorem yQ:wE [.r a0,.i c1,.i c2,.r a3,.r a4,.r a5,.i c6,.i c7,.i c8,.b d9,.s e10,.s e11,.s e12,.s e13,.s e14,.b d15,.r a16,.i c17,.i c18,.i c19,.s e20,.s e21,.s e22,.s e23,.s e24,.b d25,.s e26,.s e27,.s e28,.s e29,.s e30,.b d31,.b d32,.r a33,.i c34,.i c35,.i c36,.i c37,.s e38,.s e39,.s e40,.s e41,.s e42]=(let t0:=ju [.s (cS a0 c2 0),.s (cS a0 c2 1),.s (cS a0 c2 2),.s e38,.s e39,.s e40,.s e41,.s e42,.i c34];let p0:List PV:=[.i c35,.i c36,.i c37,.s e38,.s e39,.s e40,.s e41,.s e42];let p1:List PV:=((.r a3)::(.r a4)::(.r a5)::(.i c6)::(.i c7)::(.i c8)::(.b d9)::(.s e10)::(.s e11)::(.s e12)::(.s e13)::(.s e14)::(.b d15)::(.r a16)::(.i c17)::(.i c18)::(.i c19)::(.s e20)::(.s e21)::(.s e22)::(.s e23)::(.s e24)::(.b d25)::(.s e26)::(.s e27)::(.s e28)::(.s e29)::(.s e30)::(.b d31)::(.b d32)::(.r a33)::(.i (gI t0 1))::p0);(.br (ilt c2 c1) (qEj (inb c2 (qm a0)) (qEi t0 (.br (not (gB t0 0)) (.leaf (2,((.i c2)::p1))) (qEk ((.r a0)::(.i c1)::(.i (qO .i64 c2 1))::p1))))) (.leaf (1,((.r a3)::(.r a4)::(.r a5)::(.i c6)::(.i c7)::(.i c8)::(.b d9)::(.s e10)::(.s e11)::(.s e12)::(.s e13)::(.s e14)::(.b d15)::(.r a16)::(.i c17)::(.i c18)::(.i c19)::(.s e20)::(.s e21)::(.s e22)::(.s e23)::(.s e24)::(.b d25)::(.s e26)::(.s e27)::(.s e28)::(.s e29)::(.s e30)::(.b d31)::(.b d32)::(.r a33)::(.i c34)::p0))))):=by kernel_rfl
theorem qek:vY [.r a0,.i c1,.i c2,.i c3,.i c4]=(let r0:=vD [.r a0,.i c1,.i c2,.i c3,.i c4];qEi r0 (.br (gB r0 5) (let r1:=qh wE [.r a0,.i (qm a0),.i 0,.r a0,.r a0,.r a0,.i c1,.i c2,.i c3,.b (gB r0 5),.s (gS r0 0),.s (gS r0 1),.s (gS r0 2),.s (gS r0 3),.s (gS r0 4),.b (gB r0 5),.r a0,.i c1,.i c2,.i c3,.s (gS r0 0),.s (gS r0 1),.s (gS r0 2),.s (gS r0 3),.s (gS r0 4),.b (gB r0 5),.s (gS r0 0),.s (gS r0 1),.s (gS r0 2),.s (gS r0 3),.s (gS r0 4),.b (gB r0 5),.b (gB r0 5),.r a0,.i (gI r0 6),.i c1,.i c2,.i c3,.s (gS r0 0),.s (gS r0 1),.s (gS r0 2),.s (gS r0 3),.s (gS r0 4)];qEi r1 (.br (jIs r1 0) (qEk [.b (ieq (gI r1 31) 0),.i (gI r1 31)]) (.br (not (ile 0 (gI r1 0))) (qEk [.b (ieq (gI r1 32) 0),.i (gI r1 32)]) (qEk [.b false,.i (gI r1 32)])))) (qEk [.b false,.i (gI r0 6)]))):=by kernel_rfl
theorem q2z:wY [.i c0,.i c1,.i c2,.r a3,.i c4,.i c5,.i c6,.b d7,.i c8]=(.br (ilt c1 c0) (let r0:=vY [.r a3,.i c1,.i c1,.i 0,.i c2];qEi r0 (.br (gB r0 0) (.leaf (2,[.i (gI r0 1),.r a3,.i c1,.i c1,.i 0,.b true,.i c8])) (qEk [.i c0,.i (qO .i64 c1 1),.i (gI r0 1),.r a3,.i c4,.i c5,.i c6,.b d7,.i c8]))) (.leaf (1,[.i c2,.r a3,.i c4,.i c5,.i c6,.b d7,.i c8]))):=by kernel_rfl
theorem q21:wz [.i c0,.i c1,.i c2,.i c3,.i c4,.i c5,.i c6,.r a7,.i c8,.i c9,.i c10,.b d11,.i c12,.r a13]=(.br (ilt c5 c4) (qEj (inb c5 (qm a13)) (let r0:=vY [.r a7,.i c0,.i c1,.i (cI a13 c5 0),.i c6];qEi r0 (.br (gB r0 0) (.leaf (2,[.i (gI r0 1),.r a7,.i c0,.i c1,.i (cI a13 c5 0),.b true,.i c12])) (qEk [.i c0,.i c1,.i c2,.i c3,.i c4,.i (qO .i64 c5 1),.i (gI r0 1),.r a7,.i c8,.i c9,.i c10,.b d11,.i c12,.r a13])))) (.leaf (1,[.i c0,.i c1,.i c2,.i c3,.i c6,.r a7,.i c8,.i c9,.i c10,.b d11,.i c12]))):=by kernel_rfl
theorem q24:wv [.i c0,.i c1,.i c2,.i c3,.i c4,.r a5,.i c6,.i c7,.i c8,.b d9,.i c10]=(.br (ilt c1 c10) (let r0:=qh wz [.i c0,.i c1,.i c2,.i c3,.i (qm [[.i 0],[.i 1],[.i (-1)]]),.i 0,.i c4,.r a5,.i c6,.i c7,.i c8,.b d9,.i c10,.r [[.i 0],[.i 1],[.i (-1)]]];qEi r0 (.br (jIs r0 0) (qEk [.i (gI r0 0),.i (qO .i64 (gI r0 1) 1),.i (gI r0 2),.i (gI r0 3),.i (gI r0 4),.r (gR r0 5),.i (gI r0 6),.i (gI r0 7),.i (gI r0 8),.b (gB r0 9),.i (gI r0 10)]) (.leaf (2,[.i (gI r0 0),.r (gR r0 1),.i (gI r0 2),.i (gI r0 3),.i (gI r0 4),.b (gB r0 5),.i (gI r0 6)])))) (.leaf (1,[.i c2,.i c3,.i c4,.r a5,.i c6,.i c7,.i c8,.b d9,.i c10]))):=by kernel_rfl
theorem q2y:wT [.i c0,.i c1,.i c2,.r a3,.i c4,.i c5,.i c6,.b d7,.i c8]=(.br (ilt c1 c0) (let r0:=qh wv [.i c1,.i (qO .i64 c1 1),.i c0,.i c1,.i c2,.r a3,.i c4,.i c5,.i c6,.b d7,.i c8];qEi r0 (.br (jIs r0 0) (qEk [.i (gI r0 0),.i (qO .i64 (gI r0 1) 1),.i (gI r0 2),.r (gR r0 3),.i (gI r0 4),.i (gI r0 5),.i (gI r0 6),.b (gB r0 7),.i (gI r0 8)]) (.leaf (2,[.i (gI r0 0),.r (gR r0 1),.i (gI r0 2),.i (gI r0 3),.i (gI r0 4),.b (gB r0 5),.i (gI r0 6)])))) (.leaf (1,[.i c2,.r a3,.i c4,.i c5,.i c6,.b d7,.i c8]))):=by kernel_rfl
theorem qfx:ul [.r a0,.i c1]=(let r0:=qh wY [.i (qm a0),.i 0,.i c1,.r a0,.i 0,.i 0,.i 0,.b false,.i (qm a0)];qEi r0 (.br (jIs r0 0) (let r1:=qh wT [.i (gI r0 6),.i 0,.i (gI r0 0),.r (gR r0 1),.i (gI r0 2),.i (gI r0 3),.i (gI r0 4),.b (gB r0 5),.i (gI r0 6)];qEi r1 (.br (jIs r1 0) (qEk [.i 0,.i 0,.i 0,.b false,.i (gI r1 0)]) (qEk [.i (gI r1 2),.i (gI r1 3),.i (gI r1 4),.b (gB r1 5),.i (gI r1 0)]))) (qEk [.i (gI r0 2),.i (gI r0 3),.i (gI r0 4),.b (gB r0 5),.i (gI r0 0)]))):=by kernel_rfl
theorem qkB:q0H [.r a0]=(let r0:=q3J [.r a0];qEi r0 (.br (ine (gI r0 0) 0) (qEk [.b false,.i 0,.i 0,.i 0,.i (gI r0 0)]) (let r1:=ul [.r a0,.i 0];qEi r1 (.br (ine (gI r1 4) 0) (qEk [.b false,.i 0,.i 0,.i 0,.i (gI r1 4)]) (qEk [.b (gB r1 3),.i (gI r1 0),.i (gI r1 1),.i (gI r1 2),.i 0]))))):=by kernel_rfl
theorem qfG:u9 [.s e0,.s e1,.i c2]=(let r0:=qS [.s e0,.s e1,.i c2];qEi r0 (let r1:=j5 [.s (gS r0 0),.s [48],.s [48],.i (gI r0 1)];qEi r1 (qEk [.i (gI r1 0),.i (gI r1 1)]))):=by kernel_rfl
theorem qiu:q0A [.s e0,.s e1,.s e2,.s e3,.i c4]=(let r0:=zT [.s e0,.s e1,.s e2,.s e3,.i c4];qEi r0 (let r1:=zx [.s (gS r0 0),.s (gS r0 1),.s (gS r0 0),.s (gS r0 1),.i (gI r0 2)];qEi r1 (qEk [.s (gS r1 0),.i (gI r1 1)]))):=by kernel_rfl
theorem qjp:jm [.i c0]=(.br (ile (-100000) c0) (qEk [.b (ile c0 100000)]) (qEk [.b false])):=by kernel_rfl
theorem qlD:un [.i c0,.i c1]=(qEi (jm [.i c0]) (.br (gB (jm [.i c0]) 0) (qEi (jm [.i c1]) (qEk [.b (gB (jm [.i c1]) 0)])) (qEk [.b false]))):=by kernel_rfl
theorem q2s:zh [.r a0,.i c1,.i c2]=(.br (ilt c2 c1) (qEj (inb c2 (qm a0)) (let r0:=un [.i (cI a0 c2 0),.i (cI a0 c2 1)];qEi r0 (.br (not (gB r0 0)) (.leaf (2,[.i 2])) (qEk [.r a0,.i c1,.i (qO .i64 c2 1)])))) (.leaf (1,[]))):=by kernel_rfl
theorem qbz:vT [.r a0]=(let r0:=qh zh [.r a0,.i (qm a0),.i 0];qEi r0 (.br (jIs r0 0) (qEk [.i 0]) (qEk [.i (gI r0 0)]))):=by kernel_rfl
theorem q8a:w9 [.r a0]=(.br (ilt 64 (qm a0)) (qEk [.i 5]) (let r0:=vT [.r a0];qEi r0 (qEk [.i (gI r0 0)]))):=by kernel_rfl
theorem qli:q2K [.r a0]=(let r0:=w9 [.r a0];qEi r0 (qEk [.i (gI r0 0)])):=by kernel_rfl
theorem qkZ:q2E [.i c0]=(.br (ieq c0 0) (qEk [.i 13]) (qEk [.i 0])):=by kernel_rfl
theorem qkc:q2w [.r a0]=(let r0:=q2K [.r a0];qEi r0 (.br (ine (gI r0 0) 0) (qEk [.i (gI r0 0)]) (let r1:=q2E [.i (qm a0)];qEi r1 (qEk [.i (gI r1 0)])))):=by kernel_rfl
theorem q4k:wo [.r a0]=(qEj (ile (qm a0) 17592186044416) (qEk [.r a0])):=by kernel_rfl
theorem qcC:qH [.i c0,.i c1,.i c2]=(qEk [.i c0,.i c1,.i c2]):=by kernel_rfl
theorem qcj:kw [.i c0,.i c1,.i c2,.i c3,.i c4,.i c5,.i c6,.i c7,.i c8,.i c9,.i c10]=(let b0:Bool:=(ieq c1 2);let p0:List PV:=[.i (qO .i64 c1 1),.i c2,.i c3,.i c4,.i c5,.i c6,.i c7,.i c8,.i c9,.i c10];let i0:Int:=(q2k .i64 c7 c4);let i1:Int:=(q2k .i64 c10 c4);let b1:Bool:=(ieq c1 1);let i2:Int:=(q2k .i64 c10 c3);let b2:Bool:=(ieq c1 0);let i3:Int:=(q2k .i64 c10 c2);let i4:Int:=(q2k .i64 c9 c4);let i5:Int:=(q2k .i64 c9 c3);let i6:Int:=(q2k .i64 c9 c2);let i7:Int:=(q2k .i64 c8 c4);let i8:Int:=(q2k .i64 c8 c3);let i9:Int:=(q2k .i64 c8 c2);let i10:Int:=(q2k .i64 c7 c3);let i11:Int:=(q2k .i64 c7 c2);let i12:Int:=(q2k .i64 c6 c4);let i13:Int:=(q2k .i64 c6 c3);let i14:Int:=(q2k .i64 c6 c2);let i15:Int:=(q2k .i64 c5 c4);let i16:Int:=(q2k .i64 c5 c3);let i17:Int:=(q2k .i64 c5 c2);(.br (ilt c1 3) (.br b0 (.br b0 (.br b0 (.br b0 (qEk ((.i (qO .i64 c0 (vk .i64 i0 i1)))::p0)) (.br b1 (qEk ((.i (qO .i64 c0 (vk .i64 i0 i2)))::p0)) (qEj b2 (qEk ((.i (qO .i64 c0 (vk .i64 i0 i3)))::p0))))) (.br b1 (.br b0 (qEk ((.i (qO .i64 c0 (vk .i64 i0 i4)))::p0)) (.br b1 (qEk ((.i (qO .i64 c0 (vk .i64 i0 i5)))::p0)) (qEj b2 (qEk ((.i (qO .i64 c0 (vk .i64 i0 i6)))::p0))))) (qEj b2 (.br b0 (qEk ((.i (qO .i64 c0 (vk .i64 i0 i7)))::p0)) (.br b1 (qEk ((.i (qO .i64 c0 (vk .i64 i0 i8)))::p0)) (qEj b2 (qEk ((.i (qO .i64 c0 (vk .i64 i0 i9)))::p0)))))))) (.br b1 (.br b0 (.br b0 (qEk ((.i (qO .i64 c0 (vk .i64 i10 i1)))::p0)) (.br b1 (qEk ((.i (qO .i64 c0 (vk .i64 i10 i2)))::p0)) (qEj b2 (qEk ((.i (qO .i64 c0 (vk .i64 i10 i3)))::p0))))) (.br b1 (.br b0 (qEk ((.i (qO .i64 c0 (vk .i64 i10 i4)))::p0)) (.br b1 (qEk ((.i (qO .i64 c0 (vk .i64 i10 i5)))::p0)) (qEj b2 (qEk ((.i (qO .i64 c0 (vk .i64 i10 i6)))::p0))))) (qEj b2 (.br b0 (qEk ((.i (qO .i64 c0 (vk .i64 i10 i7)))::p0)) (.br b1 (qEk ((.i (qO .i64 c0 (vk .i64 i10 i8)))::p0)) (qEj b2 (qEk ((.i (qO .i64 c0 (vk .i64 i10 i9)))::p0)))))))) (qEj b2 (.br b0 (.br b0 (qEk ((.i (qO .i64 c0 (vk .i64 i11 i1)))::p0)) (.br b1 (qEk ((.i (qO .i64 c0 (vk .i64 i11 i2)))::p0)) (qEj b2 (qEk ((.i (qO .i64 c0 (vk .i64 i11 i3)))::p0))))) (.br b1 (.br b0 (qEk ((.i (qO .i64 c0 (vk .i64 i11 i4)))::p0)) (.br b1 (qEk ((.i (qO .i64 c0 (vk .i64 i11 i5)))::p0)) (qEj b2 (qEk ((.i (qO .i64 c0 (vk .i64 i11 i6)))::p0))))) (qEj b2 (.br b0 (qEk ((.i (qO .i64 c0 (vk .i64 i11 i7)))::p0)) (.br b1 (qEk ((.i (qO .i64 c0 (vk .i64 i11 i8)))::p0)) (qEj b2 (qEk ((.i (qO .i64 c0 (vk .i64 i11 i9)))::p0))))))))))) (.br b1 (.br b0 (.br b0 (.br b0 (qEk ((.i (qO .i64 c0 (vk .i64 i12 i1)))::p0)) (.br b1 (qEk ((.i (qO .i64 c0 (vk .i64 i12 i2)))::p0)) (qEj b2 (qEk ((.i (qO .i64 c0 (vk .i64 i12 i3)))::p0))))) (.br b1 (.br b0 (qEk ((.i (qO .i64 c0 (vk .i64 i12 i4)))::p0)) (.br b1 (qEk ((.i (qO .i64 c0 (vk .i64 i12 i5)))::p0)) (qEj b2 (qEk ((.i (qO .i64 c0 (vk .i64 i12 i6)))::p0))))) (qEj b2 (.br b0 (qEk ((.i (qO .i64 c0 (vk .i64 i12 i7)))::p0)) (.br b1 (qEk ((.i (qO .i64 c0 (vk .i64 i12 i8)))::p0)) (qEj b2 (qEk ((.i (qO .i64 c0 (vk .i64 i12 i9)))::p0)))))))) (.br b1 (.br b0 (.br b0 (qEk ((.i (qO .i64 c0 (vk .i64 i13 i1)))::p0)) (.br b1 (qEk ((.i (qO .i64 c0 (vk .i64 i13 i2)))::p0)) (qEj b2 (qEk ((.i (qO .i64 c0 (vk .i64 i13 i3)))::p0))))) (.br b1 (.br b0 (qEk ((.i (qO .i64 c0 (vk .i64 i13 i4)))::p0)) (.br b1 (qEk ((.i (qO .i64 c0 (vk .i64 i13 i5)))::p0)) (qEj b2 (qEk ((.i (qO .i64 c0 (vk .i64 i13 i6)))::p0))))) (qEj b2 (.br b0 (qEk ((.i (qO .i64 c0 (vk .i64 i13 i7)))::p0)) (.br b1 (qEk ((.i (qO .i64 c0 (vk .i64 i13 i8)))::p0)) (qEj b2 (qEk ((.i (qO .i64 c0 (vk .i64 i13 i9)))::p0)))))))) (qEj b2 (.br b0 (.br b0 (qEk ((.i (qO .i64 c0 (vk .i64 i14 i1)))::p0)) (.br b1 (qEk ((.i (qO .i64 c0 (vk .i64 i14 i2)))::p0)) (qEj b2 (qEk ((.i (qO .i64 c0 (vk .i64 i14 i3)))::p0))))) (.br b1 (.br b0 (qEk ((.i (qO .i64 c0 (vk .i64 i14 i4)))::p0)) (.br b1 (qEk ((.i (qO .i64 c0 (vk .i64 i14 i5)))::p0)) (qEj b2 (qEk ((.i (qO .i64 c0 (vk .i64 i14 i6)))::p0))))) (qEj b2 (.br b0 (qEk ((.i (qO .i64 c0 (vk .i64 i14 i7)))::p0)) (.br b1 (qEk ((.i (qO .i64 c0 (vk .i64 i14 i8)))::p0)) (qEj b2 (qEk ((.i (qO .i64 c0 (vk .i64 i14 i9)))::p0))))))))))) (qEj b2 (.br b0 (.br b0 (.br b0 (qEk ((.i (qO .i64 c0 (vk .i64 i15 i1)))::p0)) (.br b1 (qEk ((.i (qO .i64 c0 (vk .i64 i15 i2)))::p0)) (qEj b2 (qEk ((.i (qO .i64 c0 (vk .i64 i15 i3)))::p0))))) (.br b1 (.br b0 (qEk ((.i (qO .i64 c0 (vk .i64 i15 i4)))::p0)) (.br b1 (qEk ((.i (qO .i64 c0 (vk .i64 i15 i5)))::p0)) (qEj b2 (qEk ((.i (qO .i64 c0 (vk .i64 i15 i6)))::p0))))) (qEj b2 (.br b0 (qEk ((.i (qO .i64 c0 (vk .i64 i15 i7)))::p0)) (.br b1 (qEk ((.i (qO .i64 c0 (vk .i64 i15 i8)))::p0)) (qEj b2 (qEk ((.i (qO .i64 c0 (vk .i64 i15 i9)))::p0)))))))) (.br b1 (.br b0 (.br b0 (qEk ((.i (qO .i64 c0 (vk .i64 i16 i1)))::p0)) (.br b1 (qEk ((.i (qO .i64 c0 (vk .i64 i16 i2)))::p0)) (qEj b2 (qEk ((.i (qO .i64 c0 (vk .i64 i16 i3)))::p0))))) (.br b1 (.br b0 (qEk ((.i (qO .i64 c0 (vk .i64 i16 i4)))::p0)) (.br b1 (qEk ((.i (qO .i64 c0 (vk .i64 i16 i5)))::p0)) (qEj b2 (qEk ((.i (qO .i64 c0 (vk .i64 i16 i6)))::p0))))) (qEj b2 (.br b0 (qEk ((.i (qO .i64 c0 (vk .i64 i16 i7)))::p0)) (.br b1 (qEk ((.i (qO .i64 c0 (vk .i64 i16 i8)))::p0)) (qEj b2 (qEk ((.i (qO .i64 c0 (vk .i64 i16 i9)))::p0)))))))) (qEj b2 (.br b0 (.br b0 (qEk ((.i (qO .i64 c0 (vk .i64 i17 i1)))::p0)) (.br b1 (qEk ((.i (qO .i64 c0 (vk .i64 i17 i2)))::p0)) (qEj b2 (qEk ((.i (qO .i64 c0 (vk .i64 i17 i3)))::p0))))) (.br b1 (.br b0 (qEk ((.i (qO .i64 c0 (vk .i64 i17 i4)))::p0)) (.br b1 (qEk ((.i (qO .i64 c0 (vk .i64 i17 i5)))::p0)) (qEj b2 (qEk ((.i (qO .i64 c0 (vk .i64 i17 i6)))::p0))))) (qEj b2 (.br b0 (qEk ((.i (qO .i64 c0 (vk .i64 i17 i7)))::p0)) (.br b1 (qEk ((.i (qO .i64 c0 (vk .i64 i17 i8)))::p0)) (qEj b2 (qEk ((.i (qO .i64 c0 (vk .i64 i17 i9)))::p0)))))))))))))) (.leaf (1,[.i c0])))):=by kernel_rfl
theorem qm4:q09 [.i c0,.i c1,.i c2,.i c3,.i c4,.i c5,.i c6,.i c7,.i c8]=(let r0:=qH [.i c0,.i c1,.i c2];qEi r0 (let r1:=qH [.i c3,.i c4,.i c5];qEi r1 (let r2:=qH [.i c6,.i c7,.i c8];qEi r2 (let r3:=qh kw [.i 0,.i 0,.i (gI r0 0),.i (gI r0 1),.i (gI r0 2),.i (gI r1 0),.i (gI r1 1),.i (gI r1 2),.i (gI r2 0),.i (gI r2 1),.i (gI r2 2)];qEi r3 (qEk [.i (gI r3 0)]))))):=by kernel_rfl
theorem qlK:jk [.i c0]=(qEi (wn [.i c0]) (qEk [.s (gS (wn [.i c0]) 0)])):=by kernel_rfl
theorem qmj:vw [.i c0]=(.br (ile 0 c0) (qEk [.b (ile c0 16)]) (qEk [.b false])):=by kernel_rfl
theorem qmf:uc [.i c0,.i c1,.r a2,.i c3]=(qEj (inb (qO .i64 (vk .i64 c0 c3) c1) (qm a2)) (let r0:=jk [.i (cI a2 (qO .i64 (vk .i64 c0 c3) c1) 0)];qEi r0 (qEk [.s (gS r0 0),.r a2,.i c3]))):=by kernel_rfl
theorem qam:u4 [.i c0,.i c1,.i c2,.i c3,.i c4,.i c5,.r a6,.i c7,.i c8,.i c9,.i c10,.i c11,.r a12]=(.br (ilt c5 c4) (let r0:=uc [.i c1,.i c5,.r a6,.i c7];qEi r0 (qEj (ile ((qm a12)+(qm [[.s (gS r0 0)]])) 8796093022208) (qEk [.i c0,.i c1,.i c2,.i c3,.i c4,.i (qO .i64 c5 1),.r (gR r0 1),.i (gI r0 2),.i c8,.i c9,.i c10,.i c11,.r (yE a12 [[.s (gS r0 0)]])]))) (.leaf (1,[.i c0,.i c2,.i c3,.r a6,.i c7,.i c8,.i c9,.i c10,.i c11,.r a12]))):=by kernel_rfl
theorem qbS:kM [.i c0,.i c1,.i c2,.r a3,.i c4,.i c5,.i c6,.i c7,.i c8,.r a9]=(.br (ilt c2 c1) (let r0:=qh u4 [.i c0,.i c2,.i c1,.i c2,.i c0,.i 0,.r a3,.i c4,.i c5,.i c6,.i c7,.i c8,.r a9];qEi r0 (qEk [.i (gI r0 0),.i (gI r0 1),.i (qO .i64 (gI r0 2) 1),.r (gR r0 3),.i (gI r0 4),.i (gI r0 5),.i (gI r0 6),.i (gI r0 7),.i (gI r0 8),.r (gR r0 9)])) (.leaf (1,[.r a3,.i c4,.i c5,.i c6,.i c7,.i c8,.r a9]))):=by kernel_rfl
theorem qma:q4g [.i c0,.i c1,.r a2,.i c3]=(let r0:=qh kM [.i c1,.i c0,.i 0,.r a2,.i c3,.i 0,.i 0,.i c0,.i c1,.r []];qEi r0 (qEk [.i (gI r0 4),.i (gI r0 5),.r (gR r0 6),.r (gR r0 0),.i (gI r0 1)])):=by kernel_rfl
theorem qpc:q8h [.i c0,.i c1,.r a2]=(let r0:=vw [.i c0];qEi r0 (.br (not (gB r0 0)) (qEk [.i 0,.i 0,.r [],.i 2]) (let r1:=vw [.i c1];qEi r1 (.br (not (gB r1 0)) (qEk [.i 0,.i 0,.r [],.i 2]) (.br (ine (qm a2) (vk .i64 c0 c1)) (qEk [.i 0,.i 0,.r [],.i 8]) (let r2:=q4g [.i c0,.i c1,.r a2,.i c1];qEi r2 (qEk [.i (gI r2 0),.i (gI r2 1),.r (gR r2 2),.i 0]))))))):=by kernel_rfl
theorem q7Q:jA [.r a0,.i c1,.i c2]=(.br (ilt c2 c1) (qEj (inb c2 (qm a0)) (let r0:=qJ [.s (cS a0 c2 0)];qEi r0 (.br (ine (gI r0 0) 0) (.leaf (2,[.i (gI r0 0)])) (qEk [.r a0,.i c1,.i (qO .i64 c2 1)])))) (.leaf (1,[]))):=by kernel_rfl
theorem qhD:vM [.r a0]=(let r0:=qh jA [.r a0,.i (qm a0),.i 0];qEi r0 (.br (jIs r0 0) (qEk [.i 0]) (qEk [.i (gI r0 0)]))):=by kernel_rfl
theorem qls:jc [.i c0,.i c1,.r a2]=(qEi (vw [.i c0]) (.br (not (gB (vw [.i c0]) 0)) (qEk [.i 2]) (qEi (vw [.i c1]) (.br (not (gB (vw [.i c1]) 0)) (qEk [.i 2]) (.br (ine (qm a2) (vk .i64 c0 c1)) (qEk [.i 8]) (qEi (vM [.r a2]) (qEk [.i (gI (vM [.r a2]) 0)]))))))):=by kernel_rfl
theorem qem:wL [.s e0,.i c1,.i c2]=(let t0:TR:=(.br (ine c2 0) (qEk [.s [48],.i c2]) (qEk [.s e0,.i c2]));(.br (ine c1 0) (.br (ieq c2 0) (.br (ine c1 0) (qEk [.s [48],.i c1]) (qEk [.s e0,.i c1])) t0) t0)):=by kernel_rfl
theorem qfn:ur [.s e0,.s e1,.i c2]=(let r0:=vB [.s e0,.s e1];qEi r0 (let r1:=wL [.s (gS r0 0),.i (gI r0 1),.i c2];qEi r1 (qEk [.s (gS r1 0),.i (gI r1 1)]))):=by kernel_rfl
theorem qfp:ua [.s e0,.s e1,.i c2]=(let r0:=wK [.s e0,.s e1];qEi r0 (let r1:=wL [.s (gS r0 0),.i (gI r0 1),.i c2];qEi r1 (qEk [.s (gS r1 0),.i (gI r1 1)]))):=by kernel_rfl
theorem qjU:q2q [.i c0,.i c1,.r a2,.i c3,.i c4]=(qEj (inb (qO .i64 (vk .i64 c3 c1) c4) (qm a2)) (qEk [.s (cS a2 (qO .i64 (vk .i64 c3 c1) c4) 0)])):=by kernel_rfl
theorem q98:yg [.r a0,.i c1,.s e2,.i c3,.i c4,.r a5,.i c6,.i c7,.i c8,.i c9,.r a10,.i c11,.r a12]=(.br (ilt c7 c6) (qEj (inb c7 (qm a5)) (let r0:=q2q [.i c8,.i c9,.r a10,.i c1,.i c7];qEi r0 (let r1:=ua [.s (gS r0 0),.s (cS a5 c7 0),.i c11];qEi r1 (let r2:=ur [.s e2,.s (gS r1 0),.i (gI r1 1)];qEi r2 (qEk [.r a0,.i c1,.s (gS r2 0),.i c3,.i c4,.r a5,.i c6,.i (qO .i64 c7 1),.i c8,.i c9,.r a10,.i (gI r2 1),.r a12]))))) (.leaf (1,[.r a0,.s e2,.i c3,.i c4,.i c8,.i c9,.r a10,.i c11,.r a12]))):=by kernel_rfl
theorem q8K:yf [.r a0,.i c1,.i c2,.i c3,.i c4,.r a5,.i c6,.r a7]=(.br (ilt c2 c1) (let r0:=qh yg [.r a0,.i c2,.s [48],.i c1,.i c2,.r a0,.i (qm a0),.i 0,.i c3,.i c4,.r a5,.i c6,.r a7];qEi r0 (qEj (ile ((qm (gR r0 8))+(qm [[.s (gS r0 1)]])) 8796093022208) (qEk [.r (gR r0 0),.i (gI r0 2),.i (qO .i64 (gI r0 3) 1),.i (gI r0 4),.i (gI r0 5),.r (gR r0 6),.i (gI r0 7),.r (yE (gR r0 8) [[.s (gS r0 1)]])]))) (.leaf (1,[.i c6,.r a7]))):=by kernel_rfl
theorem qkr:q2m [.i c0,.i c1,.r a2,.r a3]=(let r0:=jc [.i c0,.i c1,.r a2];qEi r0 (.br (ine (gI r0 0) 0) (qEk [.r [],.i (gI r0 0)]) (.br (ine (qm a3) c1) (qEk [.r [],.i 8]) (let r1:=vM [.r a3];qEi r1 (.br (ine (gI r1 0) 0) (qEk [.r [],.i (gI r1 0)]) (let r2:=qh yf [.r a3,.i c0,.i 0,.i c0,.i c1,.r a2,.i 0,.r []];qEi r2 (.br (ine (gI r2 0) 0) (qEk [.r [],.i (gI r2 0)]) (qEk [.r (gR r2 1),.i 0])))))))):=by kernel_rfl
theorem qdD:q0M [.s e0,.r a1,.i c2,.i c3]=(.br (ilt c3 c2) (qEj (inb c3 (qm a1)) (let r0:=vB [.s e0,.s (cS a1 c3 0)];qEi r0 (.br (ine (gI r0 1) 0) (.leaf (2,[.s [],.i (gI r0 1)])) (qEk [.s (gS r0 0),.r a1,.i c2,.i (qO .i64 c3 1)])))) (.leaf (1,[.s e0]))):=by kernel_rfl
theorem qq8:q8d [.r a0]=(.br (ilt 4096 (qm a0)) (qEk [.s [],.i 5]) (let r0:=qv [.r a0];qEi r0 (.br (ine (gI r0 0) 0) (qEk [.s [],.i (gI r0 0)]) (let r1:=qh q0M [.s [48],.r a0,.i (qm a0),.i 0];qEi r1 (.br (jIs r1 0) (qEk [.s (gS r1 0),.i 0]) (qEk [.s (gS r1 0),.i (gI r1 1)])))))):=by kernel_rfl
theorem yG:qQ [.r a0,.s e1,.r a2,.i c3,.i c4]=(.br (ilt c4 c3) (qEj (inb c4 (qm a2)) (qEj (inb c4 (qm a0)) (let r0:=wK [.s (cS a2 c4 0),.s (cS a0 c4 0)];qEi r0 (.br (ine (gI r0 1) 0) (.leaf (2,[.s [],.i (gI r0 1)])) (let r1:=vB [.s e1,.s (gS r0 0)];qEi r1 (.br (ine (gI r1 1) 0) (.leaf (2,[.s [],.i (gI r1 1)])) (qEk [.r a0,.s (gS r1 0),.r a2,.i c3,.i (qO .i64 c4 1)]))))))) (.leaf (1,[.s e1]))):=by kernel_rfl
theorem q4O:qB [.r a0,.r a1]=(let r0:=qh qQ [.r a1,.s [48],.r a0,.i (qm a0),.i 0];qEi r0 (.br (jIs r0 0) (qEk [.s (gS r0 0),.i 0]) (qEk [.s (gS r0 0),.i (gI r0 1)]))):=by kernel_rfl
theorem qac:u6 [.i c0,.i c1,.i c2,.i c3,.s e4,.s e5,.s e6,.r a7]=(let t0:=jk [.i (quO [c0,c1,c2] c3)];let p0:List PV:=[.s (gS t0 0)];let t1:=zu ((.s e6)::p0);let i0:Int:=(qO .i64 c3 1);let t2:=zu ((.s e5)::p0);let t3:=zu ((.s e4)::p0);(.br (ilt c3 3) (qEj (inb c3 3) (.br (ieq c3 2) (qEi t0 (qEi t1 (.br (ine (gI t1 1) 0) (.leaf (2,[.s [],.i (gI t1 1)])) (qEj (ile ((qm a7)+(qm [[.s (gS t1 0)]])) 8796093022208) (qEk [.i c0,.i c1,.i c2,.i i0,.s e4,.s e5,.s e6,.r (yE a7 [[.s (gS t1 0)]])]))))) (.br (ieq c3 1) (qEi t0 (qEi t2 (.br (ine (gI t2 1) 0) (.leaf (2,[.s [],.i (gI t2 1)])) (qEj (ile ((qm a7)+(qm [[.s (gS t2 0)]])) 8796093022208) (qEk [.i c0,.i c1,.i c2,.i i0,.s e4,.s e5,.s e6,.r (yE a7 [[.s (gS t2 0)]])]))))) (qEj (ieq c3 0) (qEi t0 (qEi t3 (.br (ine (gI t3 1) 0) (.leaf (2,[.s [],.i (gI t3 1)])) (qEj (ile ((qm a7)+(qm [[.s (gS t3 0)]])) 8796093022208) (qEk [.i c0,.i c1,.i c2,.i i0,.s e4,.s e5,.s e6,.r (yE a7 [[.s (gS t3 0)]])]))))))))) (.leaf (1,[.r a7])))):=by kernel_rfl
theorem qln:vj [.s e0,.s e1,.s e2,.i c3,.i c4,.i c5]=(let r0:=qH [.i c3,.i c4,.i c5];qEi r0 (let r1:=qh u6 [.i (gI r0 0),.i (gI r0 1),.i (gI r0 2),.i 0,.s e0,.s e1,.s e2,.r []];qEi r1 (.br (jIs r1 0) (let r2:=qB [.r (gR r1 0),.r (gR r1 0)];qEi r2 (qEk [.s (gS r2 0),.i (gI r2 1)])) (qEk [.s (gS r1 0),.i (gI r1 1)])))):=by kernel_rfl
theorem q6D:j3 [.r a0,.i c1,.i c2,.i c3,.i c4,.i c5,.i c6,.s e7,.s e8,.s e9,.s e10,.r a11,.r a12]=(.br (ilt c6 c5) (qEj (inb 0 (qm a0)) (qEj (inb (qO .i64 c2 1) (qm a0)) (qEj (inb (qO .i64 c6 1) (qm a0)) (let r0:=q09 [.i (cI a0 0 0),.i (cI a0 0 1),.i (cI a0 0 2),.i (cI a0 (qO .i64 c2 1) 0),.i (cI a0 (qO .i64 c2 1) 1),.i (cI a0 (qO .i64 c2 1) 2),.i (cI a0 (qO .i64 c6 1) 0),.i (cI a0 (qO .i64 c6 1) 1),.i (cI a0 (qO .i64 c6 1) 2)];qEi r0 (qEj (ile ((qm a11)+(qm [[.i (vk .i64 2 (gI r0 0))]])) 17592186044416) (qEk [.r a0,.i c1,.i c2,.i c3,.i c4,.i c5,.i (qO .i64 c6 1),.s e7,.s e8,.s e9,.s e10,.r (yE a11 [[.i (vk .i64 2 (gI r0 0))]]),.r a12])))))) (.leaf (1,[.r a0,.i c1,.i c2,.i c3,.i c4,.s e7,.s e8,.s e9,.s e10,.r a11,.r a12]))):=by kernel_rfl
theorem q8f:jy [.r a0,.i c1,.i c2,.i c3,.s e4,.s e5,.s e6,.s e7,.r a8,.r a9]=(let p0:List PV:=[.s e4,.s e5,.s e6,.s e7,.r a8,.r a9];let t0:=qh j3 ((.r a0)::(.i c1)::(.i c3)::(.i c2)::(.i c3)::(.i c1)::(.i 0)::p0);let l0:R:=(gR t0 0);let i0:Int:=(qO .i64 (gI t0 2) 1);let t1:=q09 [.i (cI l0 0 0),.i (cI l0 0 1),.i (cI l0 0 2),.i (cI l0 i0 0),.i (cI l0 i0 1),.i (cI l0 i0 2),.i (cI l0 i0 0),.i (cI l0 i0 1),.i (cI l0 i0 2)];let t2:=jk [.i (gI t1 0)];(.br (ilt c3 c2) (qEi t0 (qEj (inb 0 (qm l0)) (qEj (inb i0 (qm l0)) (qEj (inb i0 (qm l0)) (qEi t1 (qEi t2 (qEj (ile ((qm (gR t0 10))+(qm [[.s (gS t2 0)]])) 8796093022208) (qEk [.r l0,.i (gI t0 1),.i (gI t0 3),.i (qO .i64 (gI t0 4) 1),.s (gS t0 5),.s (gS t0 6),.s (gS t0 7),.s (gS t0 8),.r (gR t0 9),.r (yE (gR t0 10) [[.s (gS t2 0)]])])))))))) (.leaf (1,((.r a0)::(.i c1)::p0))))):=by kernel_rfl
theorem q6I:vX [.r a0,.i c1,.i c2,.r a3,.i c4,.i c5,.s e6,.s e7,.s e8,.s e9,.r a10,.s e11,.s e12,.s e13,.s e14,.r a15]=(.br (ilt c5 c4) (qEj (inb c5 (qm a3)) (let r0:=qH [.i (cI a3 c5 0),.i (cI a3 c5 1),.i (cI a3 c5 2)];qEi r0 (qEj (inb c1 3) (let r1:=jk [.i (quO [(gI r0 0),(gI r0 1),(gI r0 2)] c1)];qEi r1 (qEj (ile ((qm a15)+(qm [[.s (gS r1 0)]])) 8796093022208) (qEk [.r a0,.i c1,.i c2,.r a3,.i c4,.i (qO .i64 c5 1),.s e6,.s e7,.s e8,.s e9,.r a10,.s e11,.s e12,.s e13,.s e14,.r (yE a15 [[.s (gS r1 0)]])])))))) (.leaf (1,[.r a0,.i c1,.i c2,.s e6,.s e7,.s e8,.s e9,.r a10,.s e11,.s e12,.s e13,.s e14,.r a15]))):=by kernel_rfl
theorem q6G:j4 [.r a0,.i c1,.s e2,.s e3,.s e4,.s e5,.r a6,.s e7,.s e8,.s e9,.s e10]=(let t0:=qh vX [.r a0,.i c1,.i c1,.r a0,.i (qm a0),.i 0,.s e2,.s e3,.s e4,.s e5,.r a6,.s e7,.s e8,.s e9,.s e10,.r []];let l0:R:=(gR t0 7);let t1:=qB [.r l0,.r (gR t0 12)];let b0:Bool:=(ine (gI t1 1) 0);let t2:TR:=(.leaf (2,[.b false,.i (gI t1 1),.s [],.s [],.s [],.s []]));let i0:Int:=(qO .i64 (gI t0 2) 1);let p0:List PV:=[.s (gS t0 10),.s (gS t0 11)];(.br (ilt c1 3) (qEi t0 (qEi t1 (.br (ieq (gI t0 1) 2) (.br b0 t2 (qEk [.r (gR t0 0),.i i0,.s (gS t0 3),.s (gS t0 4),.s (gS t0 5),.s (gS t0 6),.r l0,.s (gS t0 8),.s (gS t0 9),.s (gS t1 0),.s (gS t0 11)])) (.br (ieq (gI t0 1) 1) (.br b0 t2 (qEk ((.r (gR t0 0))::(.i i0)::(.s (gS t0 3))::(.s (gS t0 4))::(.s (gS t0 5))::(.s (gS t0 6))::(.r l0)::(.s (gS t0 8))::(.s (gS t1 0))::p0))) (qEj (ieq (gI t0 1) 0) (.br b0 t2 (qEk ((.r (gR t0 0))::(.i i0)::(.s (gS t0 3))::(.s (gS t0 4))::(.s (gS t0 5))::(.s (gS t0 6))::(.r l0)::(.s (gS t1 0))::(.s (gS t0 9))::p0)))))))) (.leaf (1,[.r a0,.s e2,.s e3,.s e4,.s e5,.r a6,.s e7,.s e8,.s e9,.s e10])))):=by kernel_rfl
theorem qay:yV [.r a0]=(let r0:=qh jy [.r a0,.i (q2k .i64 (qm a0) 1),.i (q2k .i64 (qm a0) 1),.i 0,.s [],.s [],.s [],.s [],.r [],.r []];qEi r0 (let r1:=q8h [.i (gI r0 1),.i (gI r0 1),.r (gR r0 6)];qEi r1 (.br (ine (gI r1 3) 0) (qEk [.s [],.s [],.s [],.s [],.r [],.b false,.i (gI r1 3)]) (let r2:=jI [.i (gI r1 0),.i (gI r1 1),.r (gR r1 2)];qEi r2 (.br (ieq (gI r2 3) 14) (qEk [.s [],.s [],.s [],.s [],.r [],.b false,.i 0]) (.br (ine (gI r2 3) 0) (qEk [.s [],.s [],.s [],.s [],.r [],.b false,.i (gI r2 3)]) (let r3:=q2m [.i (gI r2 0),.i (gI r2 1),.r (gR r2 2),.r (gR r0 7)];qEi r3 (.br (ine (gI r3 1) 0) (qEk [.s [],.s [],.s [],.s [],.r [],.b false,.i (gI r3 1)]) (let r4:=q8d [.r (gR r3 0)];qEi r4 (.br (ine (gI r4 1) 0) (qEk [.s [],.s [],.s [],.s [],.r [],.b false,.i (gI r4 1)]) (let r5:=zu [.s [49],.s (gS r4 0)];qEi r5 (.br (ine (gI r5 1) 0) (qEk [.s [],.s [],.s [],.s [],.r [],.b false,.i (gI r5 1)]) (qEj (ile ((qm [[.s (gS r5 0)]])+(qm (gR r3 0))) 8796093022208) (let r6:=qh j4 [.r (gR r0 0),.i 0,.s (gS r0 2),.s (gS r0 3),.s (gS r0 4),.s (gS r0 5),.r (yE [[.s (gS r5 0)]] (gR r3 0)),.s [],.s [],.s [],.s []];qEi r6 (.br (jIs r6 0) (qEj (inb 0 (qm (gR r6 0))) (let r7:=vj [.s (gS r6 6),.s (gS r6 7),.s (gS r6 8),.i (cI (gR r6 0) 0 0),.i (cI (gR r6 0) 0 1),.i (cI (gR r6 0) 0 2)];qEi r7 (qEk [.s (gS r6 6),.s (gS r6 7),.s (gS r6 8),.s (gS r7 0),.r (gR r6 5),.b true,.i (gI r7 1)]))) (qEk [.s (gS r6 2),.s (gS r6 3),.s (gS r6 4),.s (gS r6 5),.r [],.b (gB r6 0),.i (gI r6 1)])))))))))))))))):=by kernel_rfl
theorem q7U:jv [.r a0,.r a1,.i c2,.i c3,.r a4]=(.br (ilt c3 c2) (qEj (inb c3 (qm a1)) (qEj (inb (cI a1 c3 0) (qm a0)) (qEj (ile ((qm a4)+(qm [[.i (cI a0 (cI a1 c3 0) 0),.i (cI a0 (cI a1 c3 0) 1),.i (cI a0 (cI a1 c3 0) 2)]])) 5864062014805) (qEk [.r a0,.r a1,.i c2,.i (qO .i64 c3 1),.r (yE a4 [[.i (cI a0 (cI a1 c3 0) 0),.i (cI a0 (cI a1 c3 0) 1),.i (cI a0 (cI a1 c3 0) 2)]])])))) (.leaf (1,[.r a4]))):=by kernel_rfl
theorem qi1:q0q [.r a0,.r a1]=(let r0:=qh jv [.r a0,.r a1,.i (qm a1),.i 0,.r []];qEi r0 (qEk [.r (gR r0 0)])):=by kernel_rfl
theorem qlY:q3W [.s e0]=(let r0:=qJ [.s e0];qEi r0 (.br (ine (gI r0 0) 0) (qEk [.s [],.s [],.i (gI r0 0)]) (let r1:=qE [.s e0];qEi r1 (qEk [.s (gS r1 0),.s (gS r1 1),.i 0])))):=by kernel_rfl
theorem qo4:q3H [.s e0]=(let r0:=q3W [.s e0];qEi r0 (.br (ine (gI r0 2) 0) (qEk [.i 0,.i (gI r0 2)]) (let r1:=q1n [.s (gS r0 0)];qEi r1 (qEk [.i (gI r1 0),.i (gI r1 1)])))):=by kernel_rfl
theorem q8p:qV [.s e0]=(qEi (q3H [.s e0]) (qEk [.b (ilt (gI (q3H [.s e0]) 0) 0)])):=by kernel_rfl
theorem wg:qA [.r a0,.i c1,.i c2]=(.br (ilt c2 c1) (qEj (inb c2 (qm a0)) (let r0:=qV [.s (cS a0 c2 0)];qEi r0 (.br (gB r0 0) (.leaf (2,[.i c2])) (qEk [.r a0,.i c1,.i (qO .i64 c2 1)])))) (.leaf (1,[]))):=by kernel_rfl
theorem ym:qM [.r a0]=(let r0:=qh qA [.r a0,.i (qm a0),.i 0];qEi r0 (.br (jIs r0 0) (qEk [.i (-1)]) (qEk [.i (gI r0 0)]))):=by kernel_rfl
theorem q1M:qT [.r a0]=(let r0:=qM [.r a0];qEi r0 (qEk [.b (ile 0 (gI r0 0))])):=by kernel_rfl
theorem qaJ:vn [.s e0,.s e1,.s e2,.s e3,.r a4]=(let r0:=qT [.r a4];qEi r0 (qEk [.b (not (gB r0 0))])):=by kernel_rfl
theorem qje:yl [.s e0,.s e1]=(let r0:=qv [.r [[.s e0],[.s e1]]];qEi r0 (.br (ine (gI r0 0) 0) (qEk [.i 0,.i (gI r0 0)]) (let r1:=qE [.s e0];qEi r1 (let r2:=qE [.s e1];qEi r2 (let r3:=qf [.r [[.s (gS r1 0)],[.s (gS r2 1)]],.i 0];qEi r3 (let r4:=qf [.r [[.s (gS r2 0)],[.s (gS r1 1)]],.i (gI r3 1)];qEi r4 (.br (ine (gI r4 1) 0) (qEk [.i 0,.i (gI r4 1)]) (let r5:=yk [.s (gS r3 0),.s (gS r4 0)];qEi r5 (qEk [.i (gI r5 0),.i (gI r5 1)]))))))))):=by kernel_rfl
theorem jS:z6 [.r a0,.i c1,.i c2,.s e3,.s e4,.s e5,.s e6,.r a7]=(.br (ilt c2 c1) (qEj (inb c2 (qm a0)) (let r0:=vj [.s e3,.s e4,.s e5,.i (cI a0 c2 0),.i (cI a0 c2 1),.i (cI a0 c2 2)];qEi r0 (.br (ine (gI r0 1) 0) (.leaf (2,[.b false,.i (gI r0 1)])) (let r1:=yl [.s (gS r0 0),.s e6];qEi r1 (.br (ine (gI r1 1) 0) (.leaf (2,[.b false,.i (gI r1 1)])) (.br (ilt 0 (gI r1 0)) (.leaf (2,[.b false,.i (gI r1 1)])) (qEk [.r a0,.i c1,.i (qO .i64 c2 1),.s e3,.s e4,.s e5,.s e6,.r a7]))))))) (.leaf (1,[]))):=by kernel_rfl
theorem q8E:wF [.s e0,.s e1,.s e2,.s e3,.r a4,.r a5]=(let r0:=qh z6 [.r a5,.i (qm a5),.i 0,.s e0,.s e1,.s e2,.s e3,.r a4];qEi r0 (.br (jIs r0 0) (qEk [.b true,.i 0]) (qEk [.b (gB r0 0),.i (gI r0 1)]))):=by kernel_rfl
theorem q6z:zM [.r a0,.r a1]=(let t0:=q0q [.r a0,.r a1];let t1:=yV [.r (gR t0 0)];let t2:TR:=(qEk [.s [],.s [],.s [],.s [],.r [],.b false,.i (gI t1 6)]);let t3:=vn [.s (gS t1 0),.s (gS t1 1),.s (gS t1 2),.s (gS t1 3),.r (gR t1 4)];let t4:=wF [.s (gS t1 0),.s (gS t1 1),.s (gS t1 2),.s (gS t1 3),.r (gR t1 4),.r a0];(qEi t0 (qEi t1 (.br (ine (gI t1 6) 0) t2 (.br (not (gB t1 5)) t2 (qEi t3 (.br (not (gB t3 0)) t2 (qEi t4 (qEk [.s (gS t1 0),.s (gS t1 1),.s (gS t1 2),.s (gS t1 3),.r (gR t1 4),.b (gB t4 0),.i (gI t4 1)]))))))))):=by kernel_rfl
theorem q0P:qN [.r a0,.i c1,.i c2,.i c3,.i c4,.i c5,.r a6,.s e7,.s e8,.s e9,.s e10,.i c11,.i c12,.i c13,.r a14,.r a15]=(.br (ilt c1 c12) (let r0:=wo [.r a0];qEi r0 (qEj (ile ((qm (gR r0 0))+(qm [[.i c1]])) 17592186044416) (qEj (ile ((qm a15)+(qm [[.l (yE (gR r0 0) [[.i c1]])]])) 5864062014805) (let r1:=zM [.r a6,.r (yE (gR r0 0) [[.i c1]])];qEi r1 (.br (ine (gI r1 6) 0) .fail (.br (gB r1 5) (.leaf (2,[.r a6,.s (gS r1 0),.s (gS r1 1),.s (gS r1 2),.s (gS r1 3),.r (gR r1 4),.i 0,.i c12,.i c13,.r (yE (gR r0 0) [[.i c1]])])) (qEk [.r a0,.i (qO .i64 c1 1),.i c2,.i c3,.i c4,.i c5,.r a6,.s e7,.s e8,.s e9,.s e10,.i c11,.i c12,.i c13,.r a14,.r (yE a15 [[.l (yE (gR r0 0) [[.i c1]])]])]))))))) (.leaf (1,[.i c2,.i c3,.i c4,.i c5,.r a6,.s e7,.s e8,.s e9,.s e10,.i c11,.i c12,.i c13,.r a14,.r a15]))):=by kernel_rfl
theorem q1g:vJ [.i c0,.i c1,.i c2,.i c3,.r a4,.s e5,.s e6,.s e7,.s e8,.i c9,.i c10,.i c11,.r a12,.r a13]=(let l0:R:=(cR a12 c3 0);let i0:Int:=(qm l0);let p0:List PV:=[.i c0,.i c1,.i c2,.i c3,.r a4,.s e5,.s e6,.s e7,.s e8,.i c9,.i c10,.i c11,.r a12,.r a13];let t0:=qh qN ((.r l0)::(.i (qO .i64 (cI l0 (q2k .i64 i0 1) 0) 1))::p0);let t1:=qh qN ((.r l0)::(.i 0)::p0);(.br (ilt c3 c2) (qEj (inb c3 (qm a12)) (.br (ilt 0 i0) (qEj (inb (q2k .i64 i0 1) i0) (qEi t0 (.br (jIs t0 0) (qEk [.i (gI t0 0),.i (gI t0 1),.i (gI t0 2),.i (qO .i64 (gI t0 3) 1),.r (gR t0 4),.s (gS t0 5),.s (gS t0 6),.s (gS t0 7),.s (gS t0 8),.i (gI t0 9),.i (gI t0 10),.i (gI t0 11),.r (gR t0 12),.r (gR t0 13)]) (.leaf (2,[.r (gR t0 0),.s (gS t0 1),.s (gS t0 2),.s (gS t0 3),.s (gS t0 4),.r (gR t0 5),.i (gI t0 6),.i (gI t0 7),.i (gI t0 8),.r (gR t0 9)]))))) (qEi t1 (.br (jIs t1 0) (qEk [.i (gI t1 0),.i (gI t1 1),.i (gI t1 2),.i (qO .i64 (gI t1 3) 1),.r (gR t1 4),.s (gS t1 5),.s (gS t1 6),.s (gS t1 7),.s (gS t1 8),.i (gI t1 9),.i (gI t1 10),.i (gI t1 11),.r (gR t1 12),.r (gR t1 13)]) (.leaf (2,[.r (gR t1 0),.s (gS t1 1),.s (gS t1 2),.s (gS t1 3),.s (gS t1 4),.r (gR t1 5),.i (gI t1 6),.i (gI t1 7),.i (gI t1 8),.r (gR t1 9)])))))) (.leaf (1,[.i c0,.i c1,.r a4,.s e5,.s e6,.s e7,.s e8,.i c9,.i c10,.i c11,.r a13])))):=by kernel_rfl
theorem q1r:vF [.i c0,.i c1,.r a2,.s e3,.s e4,.s e5,.s e6,.i c7,.i c8,.i c9,.r a10]=(.br (ilt c1 c0) (let r0:=qh vJ [.i c0,.i c1,.i (qm a10),.i 0,.r a2,.s e3,.s e4,.s e5,.s e6,.i c7,.i c8,.i c9,.r a10,.r []];qEi r0 (.br (jIs r0 0) (qEk [.i (gI r0 0),.i (qO .i64 (gI r0 1) 1),.r (gR r0 2),.s (gS r0 3),.s (gS r0 4),.s (gS r0 5),.s (gS r0 6),.i (gI r0 7),.i (gI r0 8),.i (gI r0 9),.r (gR r0 10)]) (.leaf (2,[.r (gR r0 0),.s (gS r0 1),.s (gS r0 2),.s (gS r0 3),.s (gS r0 4),.r (gR r0 5),.i (gI r0 6),.i (gI r0 7),.i (gI r0 8),.r (gR r0 9)])))) (.leaf (1,[.r a2,.s e3,.s e4,.s e5,.s e6,.i c7,.i c8,.i c9]))):=by kernel_rfl
theorem qja:ky [.r a0,.i c1]=(let r0:=qh vF [.i c1,.i 0,.r a0,.s [],.s [],.s [],.s [],.i 0,.i (qm a0),.i c1,.r [[.l []]]];qEi r0 (.br (jIs r0 0) (qEk [.s [],.s [],.s [],.s [],.r [],.r [],.i 6]) (qEk [.s (gS r0 1),.s (gS r0 2),.s (gS r0 3),.s (gS r0 4),.r (gR r0 5),.r (gR r0 9),.i (gI r0 6)]))):=by kernel_rfl
theorem q81:jx [.r a0,.i c1,.i c2,.r a3]=(.br (ilt c2 c1) (qEj (inb c2 (qm a0)) (qEj (ile ((qm a3)+(qm [[.i (cI a0 c2 0),.i (cI a0 c2 1),.i 0]])) 5864062014805) (qEk [.r a0,.i c1,.i (qO .i64 c2 1),.r (yE a3 [[.i (cI a0 c2 0),.i (cI a0 c2 1),.i 0]])]))) (.leaf (1,[.r a3]))):=by kernel_rfl
theorem qhK:q0r [.r a0]=(let r0:=qh jx [.r a0,.i (qm a0),.i 0,.r []];qEi r0 (qEk [.r (gR r0 0)])):=by kernel_rfl
theorem qby:yC [.s e0,.s e1,.s e2,.s e3,.r a4]=(qEk [.s e0,.s e1]):=by kernel_rfl
theorem qhO:vO [.r a0]=(let r0:=q2w [.r a0];qEi r0 (.br (ine (gI r0 0) 0) (qEk [.s [],.s [],.s [],.r [],.i (gI r0 0)]) (let r1:=q0r [.r a0];qEi r1 (let r2:=ky [.r (gR r1 0),.i 3];qEi r2 (.br (ine (gI r2 6) 0) (qEk [.s [],.s [],.s [],.r [],.i (gI r2 6)]) (let r3:=yC [.s (gS r2 0),.s (gS r2 1),.s (gS r2 2),.s (gS r2 3),.r (gR r2 4)];qEi r3 (qEk [.s (gS r3 0),.s (gS r3 1),.s (gS r2 3),.r (gR r2 5),.i 0]))))))):=by kernel_rfl
theorem qoD:q5J [.s e0]=(.br (not (seq e0 [])) (qEj (inb 0 (zp e0)) (.br (ieq (sat e0 0) 45) (qEj (q8D (zp e0) (zp e0)) (qEj (q8D 1 (zp e0)) (qEk [.s (qg1 e0 1 (zp e0))]))) (qEk [.s e0]))) (qEk [.s e0])):=by kernel_rfl
theorem qm3:q3R [.s e0]=(qEj (inb 0 (zp e0)) (qEk [.b (ieq (sat e0 0) 45)])):=by kernel_rfl
theorem qkw:q2N [.s e0,.b d1]=(.br d1 (.br (not (seq e0 [48])) (qEj (ile ((zp [45])+(zp e0)) 140737488355328) (qEk [.s (qjo [45] e0)])) (qEk [.s e0])) (qEk [.s e0])):=by kernel_rfl
theorem qlw:yd [.s e0]=(let r0:=q5J [.s e0];qEi r0 (let r1:=q3R [.s e0];qEi r1 (let r2:=q2N [.s (gS r0 0),.b (not (gB r1 0))];qEi r2 (qEk [.s (gS r2 0)])))):=by kernel_rfl
theorem qmd(y0:Int)(y1:qEl):q7b [.i y0,.s y1]=(.br (ilt 9 y0) (qEj (ile ((zp (qqw [[.i (qev .u8 (qO .i64 48 (qlA y0 10)))]]))+(zp y1)) 140737488355328) (qEk [.i (qaQ .i64 y0 10),.s (qjo (qqw [[.i (qev .u8 (qO .i64 48 (qlA y0 10)))]]) y1)])) (.leaf (1,[.i y0,.s y1]))):=by kernel_rfl
theorem qpF:q3n [.i c0]=(let t0:=qh q7b [.i c0,.s []];let s0:List UInt8:=(qqw [[.i (qev .u8 (qO .i64 48 (gI t0 0)))]]);let t1:TR:=(.br (ilt c0 0) .fail (qEi t0 (qEj (ile ((zp s0)+(zp (gS t0 1))) 140737488355328) (qEk [.s (qjo s0 (gS t0 1))]))));(.br (ieq c0 (q2k .i64 0 c0)) (.br (ine c0 0) (qEk [.s [45,57,50,50,51,51,55,50,48,51,54,56,53,52,55,55,53,56,48,56]]) t1) t1)):=by kernel_rfl
theorem qnT(y0:Int)(y1:qEl):q8Y [.i y0,.s y1]=(.br (ilt 9 y0) (qEj (ile ((zp (qqw [[.i (qev .u8 (qO .i64 48 (qlA y0 10)))]]))+(zp y1)) 140737488355328) (qEk [.i (qaQ .i64 y0 10),.s (qjo (qqw [[.i (qev .u8 (qO .i64 48 (qlA y0 10)))]]) y1)])) (.leaf (1,[.i y0,.s y1]))):=by kernel_rfl
theorem qk5:q5n [.i c0]=(let i0:Int:=(q2k .i64 0 c0);let t0:=yd [.s (gS (q3n [.i i0]) 0)];let t1:=qh q8Y [.i c0,.s []];let s0:List UInt8:=(qqw [[.i (qev .u8 (qO .i64 48 (gI t1 0)))]]);let t2:TR:=(.br (ilt c0 0) (qEi (q3n [.i i0]) (qEi t0 (qEk [.s (gS t0 0)]))) (qEi t1 (qEj (ile ((zp s0)+(zp (gS t1 1))) 140737488355328) (qEk [.s (qjo s0 (gS t1 1))]))));(.br (ieq c0 i0) (.br (ine c0 0) (qEk [.s [45,57,50,50,51,51,55,50,48,51,54,56,53,52,55,55,53,56,48,56]]) t2) t2)):=by kernel_rfl
theorem qmk:q1D [.i c0]=(qEi (q5n [.i c0]) (qEk [.s (gS (q5n [.i c0]) 0)])):=by kernel_rfl
theorem q80:um [.i c0,.i c1,.s e2,.s e3,.s e4,.s e5,.s e6,.r a7]=(.br (ilt c1 c0) (qEj (inb c1 (qm a7)) (let r0:=qJ [.s (cS a7 c1 0)];qEi r0 (.br (ine (gI r0 0) 0) (.leaf (2,[.b false,.i (gI r0 0)])) (qEk [.i c0,.i (qO .i64 c1 1),.s e2,.s e3,.s e4,.s e5,.s e6,.r a7])))) (.leaf (1,[.s e2,.s e3,.s e4,.s e5,.s e6]))):=by kernel_rfl
theorem qie:vK [.s e0,.s e1,.s e2,.s e3,.s e4]=(let r0:=uo [.s e0,.s e1,.s e2];qEi r0 (.br (ine (gI r0 0) 0) (qEk [.b false,.i (gI r0 0)]) (let r1:=qh um [.i (qm [[.s e3],[.s e4]]),.i 0,.s e0,.s e1,.s e2,.s e3,.s e4,.r [[.s e3],[.s e4]]];qEi r1 (.br (jIs r1 0) (let r2:=q0A [.s (gS r1 0),.s (gS r1 1),.s (gS r1 3),.s (gS r1 4),.i 0];qEi r2 (let r3:=u9 [.s (gS r2 0),.s (gS r1 2),.i (gI r2 1)];qEi r3 (.br (ile (gI r3 0) 0) (qEk [.b (ieq (gI r3 1) 0),.i (gI r3 1)]) (qEk [.b false,.i (gI r3 1)])))) (qEk [.b (gB r1 0),.i (gI r1 1)]))))):=by kernel_rfl
theorem qhY:jE [.i c0,.i c1]=(.br (ilt c0 (-50)) (qEk [.b true]) (.br (ilt 50 c0) (qEk [.b true]) (.br (ilt c1 (-50)) (qEk [.b true]) (qEk [.b (ilt 50 c1)])))):=by kernel_rfl
theorem qx:qg [.r a0,.i c1,.i c2,.r a3,.r a4]=(.br (ilt c2 c1) (qEj (inb c2 (qm a0)) (let r0:=jE [.i (cI a0 c2 0),.i (cI a0 c2 1)];qEi r0 (.br (gB r0 0) (.leaf (2,[.i c2,.r a3,.r a4])) (qEk [.r a0,.i c1,.i (qO .i64 c2 1),.r a3,.r a4])))) (.leaf (1,[.r a3,.r a4]))):=by kernel_rfl
theorem ve:qk [.r a0]=(let r0:=qh qg [.r a0,.i (qm a0),.i 0,.r a0,.r a0];qEi r0 (.br (jIs r0 0) (qEk [.b false]) (qEk [.b (ile 0 (gI r0 0))]))):=by kernel_rfl
theorem qkX:uE [.r a0]=(.br (ilt 0 (qm a0)) (.br (ile (qm a0) 8) (let r0:=qk [.r a0];qEi r0 (qEk [.b (not (gB r0 0))])) (qEk [.b false])) (qEk [.b false])):=by kernel_rfl
theorem qia  : yU []=(let r0:=vO [.r [[.i 0,.i 0],[.i 6,.i 0]]];qEi r0 (.br (ieq (gI r0 4) 0) (qEk [.b (seq (gS r0 2) [57])]) (qEk [.b false]))):=by kernel_rfl
theorem q3k:qD [.r a0]=(qEj (ilt 0 (qm a0)) (qEj (ile ((qm [])+(qm a0)) 8796093022208) (qEk [.r (yE [] a0)]))):=by kernel_rfl
theorem q1q:zq [.r a0,.s e1,.i c2,.i c3,.s e4,.s e5,.r a6,.r a7]=(.br (ilt c3 c2) (qEj (inb c3 (qm a6)) (let r0:=q1D [.i (cI a6 c3 0)];qEi r0 (let r1:=q1D [.i (cI a6 c3 1)];qEi r1 (qEj (ile ((qm a7)+(qm [[.s (gS r0 0),.s (gS r1 0),.s e1]])) 2932031007402) (qEk [.r a0,.s e1,.i c2,.i (qO .i64 c3 1),.s e4,.s e5,.r a6,.r (yE a7 [[.s (gS r0 0),.s (gS r1 0),.s e1]])]))))) (.leaf (1,[.r a0,.s e4,.s e5,.r a7]))):=by kernel_rfl
theorem q1t:zr [.r a0,.i c1,.i c2,.s e3,.s e4,.r a5]=(.br (ilt c2 c1) (qEj (inb c2 (qm a5)) (let r0:=vK [.s (cS a5 c2 0),.s (cS a5 c2 1),.s (cS a5 c2 2),.s e3,.s e4];qEi r0 (.br (ine (gI r0 1) 0) (.leaf (2,[.b false])) (.br (ilt c2 (qm a0)) (.br (not (gB r0 0)) (.leaf (2,[.b false])) (qEk [.r a0,.i c1,.i (qO .i64 c2 1),.s e3,.s e4,.r a5])) (qEk [.r a0,.i c1,.i (qO .i64 c2 1),.s e3,.s e4,.r a5]))))) (.leaf (1,[.r a0,.s e3,.s e4,.r a5]))):=by kernel_rfl
theorem qar:vr [.r a0,.i c1,.i c2]=(let p0:List PV:=[.r a0];let t0:TR:=(qEi (yU []) (qEk [.b (gB (yU []) 0)]));let t1:=uE [.r [[.i c1,.i c2]]];let t2:=vO p0;let t3:TR:=(qEk [.b false]);let l0:R:=(yE (gR (qD p0) 0) [[.i c1,.i c2]]);let t4:=qh zq [.r a0,.s (gS t2 2),.i (qm l0),.i 0,.s (gS t2 0),.s (gS t2 1),.r l0,.r []];let t5:=qh zr [.r (gR t4 0),.i (qm (gR t4 3)),.i 0,.s (gS t4 1),.s (gS t4 2),.r (gR t4 3)];let i0:Int:=(qm (gR t5 0));let l1:R:=(gR t5 3);let t6:=vK [.s (cS l1 i0 0),.s (cS l1 i0 1),.s (cS l1 i0 2),.s (gS t5 1),.s (gS t5 2)];let t7:=q0H [.r l1];(qEi (uE p0) (.br (not (gB (uE p0) 0)) t0 (.br (ilt 5 (qm a0)) t0 (qEi t1 (.br (not (gB t1 0)) t0 (qEi t2 (.br (ine (gI t2 4) 0) t3 (qEi (qD p0) (qEj (ile ((qm (gR (qD p0) 0))+(qm [[.i c1,.i c2]])) 8796093022208) (qEi t4 (qEi t5 (.br (jIs t5 0) (qEj (inb i0 (qm l1)) (qEi t6 (qEi t7 (.br (ieq (gI t6 1) 0) (.br (ieq (gI t7 4) 0) (.br (beq (gB t7 0) (gB t6 0)) t0 t3) t3) t3)))) (qEk [.b (gB t5 0)])))))))))))))):=by kernel_rfl
end Go.Eng

namespace Go.Eng
variable {n:Nat}
theorem qBR {α:Type}(b:Bool)(t e:Tree α):(Tree.br b t e).run=if b=true then t.run else e.run:=by cases b<;>rfl
theorem qy9 {α:Type}(a:α):(Tree.leaf a).run=some a:=rfl
theorem qyu {α:Type}:(Tree.fail:Tree α).run=none:=rfl
theorem jG {x y:Int}(h:-9223372036854775808<=x+y/\x+y<=9223372036854775807):qO .i64 x y=x+y:=by unfold qO IntKind.wrap;simp[IntKind.signed,IntKind.bits];omega
theorem q1s {x y:Int}(h:-9223372036854775808<=x-y/\x-y<=9223372036854775807):q2k .i64 x y=x-y:=by unfold q2k IntKind.wrap;simp[IntKind.signed,IntKind.bits];omega
theorem q6e {x y:Int}(h:-9223372036854775808<=x*y/\x*y<=9223372036854775807):vk .i64 x y=x*y:=by unfold vk IntKind.wrap;simp[IntKind.signed,IntKind.bits];omega
theorem qvi (x y:Int):(ieq x y=true)=(x=y):=by simp[ieq]
theorem qAY (x y:Int):(ine x y=true)=(x≠y):=by simp[ine]
theorem qAo (x y:Int):(ilt x y=true)=(x<y):=by simp[ilt]
theorem quZ (x y:Int):(ile x y=true)=(x<=y):=by simp[ile]
theorem qBh (x y:Bool):(Go.Eng.beq x y=true)=(x=y):=by simp[Go.Eng.beq]
theorem qwA {a b A B:Int}(h1:-A<=a)(h2:a<=A)(h3:-B<=b)(h4:b<=B):-(A*B)<=a*b/\a*b<=A*B:=by have e1:=qGb (show 0<=A-a by omega) (show 0<=B-b by omega);have e2:=qGb (show 0<=A+a by omega) (show 0<=B+b by omega);have e3:=qGb (show 0<=A-a by omega) (show 0<=B+b by omega);have e4:=qGb (show 0<=A+a by omega) (show 0<=B-b by omega);simp only[Int.sub_mul,Int.mul_sub,Int.add_mul,Int.mul_add] at e1 e2 e3 e4;omega
theorem qwm {x:Int}(h:-9223372036854775807<=x/\x<=9223372036854775807):q2k .i64 0 x=-x:=by rw[q1s (by omega)];omega
theorem qyY (b:Bool):((!b)=true)=¬(b=true):=by cases b<;>simp
theorem qyv (x y:Bool):(qy4 x y=true)=(x=true/\y=true):=by simp[qy4]
theorem qCN (i n:Int):(inb i n=true)=(0<=i/\i<n):=by simp[inb]
theorem qBC (i n:Int):(q8D i n=true)=(0<=i/\i<=n):=by simp[q8D]
theorem STD:(∀(α:Type) (b:Bool) (t e:Tree α),(Tree.br b t e).run=if b=true then t.run else e.run)/\(∀(α:Type) (a:α),(Tree.leaf a).run=some a)/\(∀(α:Type),(Tree.fail:Tree α).run=none) /\(∀R:TR,okR R=R.run.isSome)/\(∀(α:Type) (a:α),(some a).isSome=true)/\(∀(R:TR) (i:Nat),gI R i=(pR R i).toI)/\(∀(R:TR) (i:Nat),gB R i=(pR R i).toB)/\(∀(R:TR) (i:Nat),gS R i=(pR R i).toS)/\(∀(R:TR) (i:Nat),gR R i=(pR R i).toR) /\(∀(R:TR) (i:Nat),pR R i=R.run.elim (.i 0) fun r=>r.2.getD i (.i 0))/\(∀(α β:Type) (b:β) (f:α->β) (a:α),(some a).elim b f=f a) /\(∀(a:PV) (l:List PV) (d:PV),(a::l).getD 0 d=a)/\(∀(a:PV) (l:List PV) (d:PV) (n:Nat),(a::l).getD (n+1) d=l.getD n d) /\(∀n,(PV.i n).toI=n)/\(∀b,(PV.b b).toB=b)/\(∀s,(PV.s s).toS=s)/\(∀l,(PV.r l).toR=l) /\(∀(α:Type) (h:Decidable True) (a b:α),@ite α True h a b=a)/\(∀(α:Type) (h:Decidable False) (a b:α),@ite α False h a b=b)/\((false=true)=False)/\((true=false)=False)/\((true=true)=True) /\(∀x y,(ieq x y=true)=(x=y))/\(∀x y,(ine x y=true)=(x≠y))/\(∀x y,(ilt x y=true)=(x<y))/\(∀x y,(ile x y=true)=(x<=y))/\(∀x y,(Go.Eng.beq x y=true)=(x=y)) /\(∀x y,(qy4 x y=true)=(x=true/\y=true))/\(∀b:Bool,((!b)=true)=¬(b=true))/\(∀i n,(inb i n=true)=(0<=i/\i<n))/\(∀i n,(q8D i n=true)=(0<=i/\i<=n)) /\(∀(p:Prop) (_:Decidable p),(decide p=true)=p)/\(∀(α:Type) (a b:α),(a≠b)=¬(a=b))/\(¬True)=False/\(¬False)=True:=
 ⟨fun _=>qBR,fun _=>qy9,fun _=>qyu,fun _=>rfl,fun _ _=>rfl,fun _ _=>rfl,fun _ _=>rfl,fun _ _=>rfl,fun _ _=>rfl,fun R i=>by unfold pR;cases R.run<;>rfl,fun _ _ _ _ _=>rfl,
  fun _ _ _=>rfl,fun _ _ _ _=>rfl,fun _=>rfl,fun _=>rfl,fun _=>rfl,fun _=>rfl,fun _ _ _ _=>by simp,fun _ _ _ _=>by simp,by simp,by simp,by simp,qvi,qAY,qAo,quZ,qBh,
  qyv,qyY,qCN,qBC,fun _ _=>by simp,fun _ _ _=>rfl,by simp,by simp⟩
theorem zJ {R:TR}{j:Nat}{ps:List PV}(h:R.run=some (j,ps))(i:Nat):(jIs R i=true)=(j=i):=by simp[jIs,jR,h]
theorem run_bind {α β:Type}(t:Tree α)(f:α->Tree β):(t.bind f).run=t.run.bind fun a=>(f a).run:=by
 induction t with
 | leaf a=>rfl
 | br b t e iht ihe=>cases b<;>simp[Tree.bind,Tree.run,iht,ihe]
 | fail=>rfl
theorem qee {S:List PV->TR}{ps qs:List PV}(h:(S ps).run=some (0,qs)):(qgZ S (n+1) ps).run=(qgZ S n qs).run:=by simp[qgZ,run_bind,h]
theorem q5U {S:List PV->TR}{n j:Nat}{ps qs:List PV}(h:(S ps).run=some (j+1,qs)):(qgZ S (n+1) ps).run=some (j,qs):=by simp[qgZ,run_bind,h,Tree.run]
def q5o{α:Type}(f:Nat->Option α):Nat->Nat->Option α
 | _,0=>none
 | i,k+1=>match f i with
  | some a=>some a
  | none=>q5o f (i+1) k
theorem qnf{S:List PV->TR}(st:Nat->List PV)(f:Nat->Option (Nat×List PV))(fin:Nat×List PV)(n:Nat)
  (h1:∀i,i<n->f i=none->(S (st i)).run=some (0,st (i+1))) (h2:∀i r,i<n->f i=some r->(S (st i)).run=some (r.1+1,r.2))
  (h3:(S (st n)).run=some (fin.1+1,fin.2)):∀(k i m:Nat),i+k=n->k<m->(qgZ S m (st i)).run=some ((q5o f i k).getD fin)
 | 0,i,m,hi,hm=>by
  obtain⟨m,rfl⟩:∃m',m=m'+1:=⟨m-1,by omega⟩;have:i=n:=by omega
  subst this;rw[q5U h3];rfl
 | k+1,i,m,hi,hm=>by
  obtain⟨m,rfl⟩:∃m',m=m'+1:=⟨m-1,by omega⟩;cases hf:f i with
  | none=>
   rw[qee (h1 i (by omega) hf),qnf st f fin n h1 h2 h3 k (i+1) m (by omega) (by omega)];simp[q5o,hf]
  | some r=>
   rw[q5U (h2 i r (by omega) hf)];simp[q5o,hf]
theorem q2n {S:List PV->TR}(st:Nat->List PV)(f:Nat->Option (Nat×List PV))(fin:Nat×List PV)(n:Nat)(hn:n<9223372036854775808)(h1:∀i,i<n->f i=none->(S (st i)).run=some (0,st (i+1))) (h2:∀i r,i<n->f i=some r->(S (st i)).run=some (r.1+1,r.2))(h3:(S (st n)).run=some (fin.1+1,fin.2)):(qh S (st 0)).run=some ((q5o f 0 n).getD fin):=qnf st f fin n h1 h2 h3 n 0 qcT (by omega) (Nat.lt_trans hn (by unfold qcT;decide))
theorem zI {S:List PV->TR}(st:Nat->List PV)(fin:Nat×List PV)(n:Nat)(hn:n<9223372036854775808)(h1:∀i,i<n->(S (st i)).run=some (0,st (i+1))) (h3:(S (st n)).run=some (fin.1+1,fin.2)):(qh S (st 0)).run=some fin:=by
 have h:=q2n st (fun _=>none) fin n hn (fun i hi _=>h1 i hi) (fun i r _ h=>by cases h) h3;have e:∀k i,q5o (fun _=>(none:Option (Nat×List PV))) i k=none:=by
  intro k;induction k with
  | zero=>intro i;rfl
  | succ k ih=>intro i;simp[q5o,ih]
 rw[e] at h;exact h
theorem q4d{α:Type}{f:Nat->Option α}:∀{k i:Nat},q5o f i k=none->∀j,i<=j->j<i+k->f j=none
 | 0,i,_,j,h1,h2=>by omega
 | k+1,i,h,j,h1,h2=>by
  simp only[q5o] at h;cases hf:f i with
  | some a=>rw[hf] at h;cases h
  | none=>
   rw[hf] at h;rcases qFR h1 with rfl|h1
   ·exact hf
   ·exact q4d h j h1 (by omega)
theorem qmr{α:Type}{f g:Nat->Option α}:∀{k i:Nat},(∀j,i<=j->j<i+k->f j=g j)->q5o f i k=q5o g i k
 | 0,i,_=>rfl
 | k+1,i,h=>by
  simp only[q5o];rw[h i (by omega) (by omega),qmr (fun j h1 h2=>h j (by omega) (by omega))]
theorem qoC{α β:Type}(g:α->β){f:Nat->Option α}:∀{k i:Nat},q5o (fun j=>(f j).map g) i k=(q5o f i k).map g
 | 0,i=>rfl
 | k+1,i=>by
  simp only[q5o];cases f i with
  | some a=>rfl
  | none=>exact qoC g
theorem q3f {i n:Nat}(h:i<n)(hn:n<9223372036854775808):qO .i64 (i:Int) 1=((i+1:Nat):Int):=by rw[jG (by omega)];omega
theorem qwG {α:Type}(n:Nat):∀i,q5o (fun _=>(none:Option α)) i n=none:=by
 induction n with
 | zero=>intro i;rfl
 | succ n ih=>intro i;simp[q5o,ih]
def pick(p:Nat->Bool):Nat->R
 | 0=>[]
 | n+1=>if p n then yE (pick p n) [[.i (n:Int)]] else pick p n
def qki(f:Nat->Int)(i:Nat):Option Int:=if f i=0 then none else some (f i)
theorem qvD {f:Nat->Int}(h:q5o (qki f) 0 n=none)(i:Nat)(hi:i<n):f i=0:=by
 have:=q4d h i (by omega) (by omega);unfold qki at this;split at this
 ·assumption
 ·cases this
theorem qoy{f:Nat->Int}:∀{k i:Nat} {e:Int},q5o (qki f) i k=some e->e≠0
 | 0,i,e,h=>by cases h
 | k+1,i,e,h=>by
  simp only[q5o] at h;unfold qki at h;by_cases h0:f i=0
  ·rw[if_pos h0] at h;exact qoy h
  ·rw[if_neg h0] at h;simp at h;omega
def qap(e:Nat->Int)(n:Nat):Int:=(q5o (qki e) 0 n).getD 0
theorem qrC {e:Nat->Int}(h:qap e n=0)(i:Nat)(hi:i<n):e i=0:=by
 unfold qap at h;cases hs:q5o (qki e) 0 n with
 | none=>exact qvD hs i hi
 | some x=>rw[hs] at h;exact absurd h (qoy hs)
theorem qpz {e:Nat->Int}(h:∀i,i<n->e i=0):qap e n=0:=by unfold qap;rw[qmr (g:=fun _=>none) (fun j _ hj=>by unfold qki;rw[if_pos (h j (by omega))]),qwG];rfl
theorem qsz {S:List PV->TR}(st:Nat->List PV)(e:Nat->Int)(caps fin:List PV)(n:Nat)(hn:n<9223372036854775808)(h:∀i,i<n->(S (st i)).run=if e i=0 then some (0,st (i+1)) else some (2,.i (e i)::caps)) (h3:(S (st n)).run=some (1,fin)) :(qh S (st 0)).run=some (if qap e n=0 then (0,fin) else (1,.i (qap e n)::caps)):=by
 have key:=q2n st (fun i=>(qki e i).map fun x=>(1,PV.i x::caps)) (0,fin) n hn (fun i hi hf=>by
  rw[h i hi];unfold qki at hf;split at hf
  ·rename_i h0;rw[if_pos h0]
  ·simp at hf) (fun i r hi hf=>by
  rw[h i hi];unfold qki at hf;split at hf
  ·simp at hf
  ·rename_i h0;simp at hf;rw[if_neg h0,<-hf]) h3
 rw[key,qoC];unfold qap;cases hs:q5o (qki e) 0 n with
 | none=>simp
 | some x=>simp[qoy hs]
theorem qxM {l:R}{i:Nat}(h:i<l.length):(i:Int)<qm l:=by unfold qm;omega
theorem qww (l:R):¬((l.length:Int)<qm l):=by unfold qm;omega
theorem qmx (i:Nat):(0:Int)<=(i:Int):=by omega
end Go.Eng

namespace Go.Eng
variable {n:Nat}
def dch(d:Nat):UInt8:=UInt8.ofNat (48+d)
def dv(c:UInt8):Nat:=c.toNat-48
def qc7(s:qEl):Prop:=∀c,c∈s->48<=c.toNat/\c.toNat<=57
def val(s:qEl):Nat:=s.foldl (fun a c=>10*a+dv c) 0
def tNf:Nat->Nat->List UInt8
 | 0,_=>[]
 | f+1,n=>if n<10 then [dch n] else tNf f (n/10)++[dch (n%10)]
def tN(n:Nat):List UInt8:=tNf (n+1) n
def tI(n:Int):List UInt8:=if n<0 then 45::tN n.natAbs else tN n.natAbs
theorem qhc {d:Nat}(h:d<10):(dch d).toNat=48+d:=by unfold dch;rw[UInt8.toNat_ofNat'];omega
theorem qzQ {d:Nat}(h:d<10):dv (dch d)=d:=by unfold dv;rw[qhc h];omega
theorem qzD {c:UInt8}(h1:48<=c.toNat)(h2:c.toNat<=57):dch (dv c)=c:=by apply UInt8.toNat_inj.1;rw[qhc (by unfold dv;omega)];unfold dv;omega
theorem qsQ (s:qEl)(c:UInt8):val (s++[c])=10*val s+dv c:=by simp[val,List.foldl_append]
theorem qle:∀(t:qEl) (a:Nat),t.foldl (fun a c=>10*a+dv c) a=a*10^t.length+val t
 | [],a=>by simp[val]
 | c::t,a=>by
  have h1:=qle t (10*a+dv c);have h2:=qle t (10*0+dv c);have h3:val (c::t)=t.foldl (fun a c=>10*a+dv c) (10*0+dv c):=rfl;rw[h3,h2,qGf,h1,qF3,qG1];grind
theorem qoB (s t:qEl):val (s++t)=val s*10^t.length+val t:=by
 have h:val (s++t)=t.foldl (fun a c=>10*a+dv c) (val s):=by simp[val,List.foldl_append]
 rw[h,qle]
theorem q93 (c:UInt8)(t:qEl):val (c::t)=dv c*10^t.length+val t:=by have:=qoB [c] t;simpa[val] using this
theorem qom:val []=0:=rfl
theorem qqM (c:UInt8):val [c]=dv c:=by simp[val]
theorem qym:qc7 []:=fun c h=>by cases h
theorem q2u {c:UInt8}{s:qEl}:qc7 (c::s)↔(48<=c.toNat/\c.toNat<=57)/\qc7 s:=by unfold qc7;simp
theorem qgR {s t:qEl}:qc7 (s++t)↔qc7 s/\qc7 t:=by unfold qc7;simp only[qEN];exact⟨fun h=>⟨fun c hc=>h c (.inl hc),fun c hc=>h c (.inr hc)⟩,fun h c hc=>hc.elim (h.1 c) (h.2 c)⟩
theorem qBw {c:UInt8}(h:48<=c.toNat/\c.toNat<=57):dv c<10:=by unfold dv;omega
theorem qdp:∀{s:qEl},qc7 s->val s<10^s.length
 | [],_=>by simp[val]
 | c::s,h=>by
  obtain⟨h1,h2⟩:=q2u.1 h;have ih:=qdp h2;have hd:=qBw h1;rw[q93,qF3,qG1];have:dv c*10^s.length<=9*10^s.length:=qER _ (by omega);omega
theorem qsF {d:Nat}(h:d<10):qc7 [dch d]:=by intro c hc;simp at hc;subst hc;rw[qhc h];omega
theorem qzX:∀(f g n:Nat),n<f->n<g->tNf f n=tNf g n
 | 0,_,n,h,_=>by omega
 | _,0,n,_,h=>by omega
 | f+1,g+1,n,h1,h2=>by
  unfold tNf;by_cases h:n<10
  ·rw[if_pos h,if_pos h]
  ·rw[if_neg h,if_neg h,qzX f g (n/10) (by omega) (by omega)]
theorem qp6 (h:n<10):tN n=[dch n]:=by unfold tN tNf;rw[if_pos h]
theorem qqD (h:10<=n):tN n=tN (n/10)++[dch (n%10)]:=by
 have:tN n=tNf n (n/10)++[dch (n%10)]:=by show tNf (n+1) n=_;rw[tNf,if_neg (by omega)]
 rw[this,qzX n (n/10+1) (n/10) (by omega) (by omega)];rfl
theorem qni (n:Nat):qc7 (tN n)/\tN n≠[]/\val (tN n)=n:=by
 induction n using Nat.strongRecOn with
 | _ n ih=>
  by_cases h:n<10
  ·rw[qp6 h];exact⟨qsF h,by simp,by rw[qqM,qzQ h]⟩
  ·rw[qqD (by omega)];obtain⟨h1,h2,h3⟩:=ih (n/10) (by omega);refine⟨qgR.2 ⟨h1,qsF (by omega)⟩,by simp,?_⟩;rw[qsQ,h3,qzQ (by omega)];omega
theorem jV (n:Nat):qc7 (tN n):=(qni n).1
theorem qjM (n:Nat):tN n≠[]:=(qni n).2.1
theorem q4Q (n:Nat):val (tN n)=n:=(qni n).2.2
theorem qlk (n:Nat):0<(tN n).length:=qFS.2 (qjM n)
theorem q0D:∀(k n:Nat),n<10^(k+1)->(tN n).length<=k+1
 | 0,n,h=>by rw[qp6 (by simpa using h)];simp
 | k+1,n,h=>by
  by_cases h10:n<10
  ·rw[qp6 h10];simp
  ·rw[qqD (by omega),qEL];have:=q0D k (n/10) (by rw[qG1] at h;omega);simp;omega
theorem qpB:∀(k n:Nat),10^k<=n->k<(tN n).length
 | 0,n,_=>qlk n
 | k+1,n,h=>by
  have hp:0<10^k:=Nat.pow_pos (by omega);rw[qG1] at h;rw[qqD (by omega),qEL];have:=qpB k (n/10) (by omega);simp;omega
theorem qho {k n:Nat}(h:(tN n).length<=k):n<10^k:=by have:=qdp (jV n);rw[q4Q] at this;exact qFI this (qGc (by omega) h)
def lead(s:qEl):Prop:=s.length=1\/s.getD 0 0≠48
theorem qsy {s:qEl}(hd:qc7 s)(hn:s≠[])(h:s.getD 0 0≠48):10^(s.length-1)<=val s:=by
 cases s with
 | nil=>exact absurd rfl hn
 | cons c s=>
  obtain⟨h1,h2⟩:=q2u.1 hd;simp at h;have hc:1<=dv c:=by unfold dv;have:c.toNat≠48:=fun e=>h (UInt8.toNat_inj.1 (by simpa using e));omega
  rw[q93,qF3,Nat.add_sub_cancel];have:1*10^s.length<=dv c*10^s.length:=qER _ hc;omega
theorem qA5:∀(n:Nat) {s:qEl},s.length=n+1->qc7 s->lead s->tN (val s)=s
 | 0,s,hl,hd,_=>by
  match s,hl with
  | [c],_=>
   have h1:=(q2u.1 hd).1;rw[qqM,qp6 (qBw h1),qzD h1.1 h1.2]
 | n+1,s,hl,hd,hz=>by
  obtain⟨i,c,rfl⟩:∃i c,s=i++[c]:=⟨s.dropLast,s.getLast (by intro h;simp[h] at hl),(List.dropLast_concat_getLast _).symm⟩;have hil:i.length=n+1:=by simpa using hl
  obtain⟨h1,h2⟩:=qgR.1 hd;have hc:=(q2u.1 h2).1;have hi:i≠[]:=by intro h;simp[h] at hil
  have hz0:i.getD 0 0≠48:=by
   rcases hz with hz|hz
   ·exact absurd (by simpa using hz) hi
   ·cases i with
    | nil=>exact absurd rfl hi
    | cons a i=>simpa using hz
  have hv:1<=val i:=qEr (Nat.one_le_pow _ _ (by omega)) (qsy h1 hi hz0);have hd10:=qBw hc;rw[qsQ,qqD (n:=10*val i+dv c) (by omega),show (10*val i+dv c)/10=val i by omega,show (10*val i+dv c)%10=dv c by omega,qzD hc.1 hc.2,qA5 n hil h1 (.inr hz0)]
theorem qrB {s:qEl}(hd:qc7 s)(hn:s≠[])(hz:lead s):s=tN (val s):=(qA5 (s.length-1) (by have:=qFS.2 hn;omega) hd hz).symm
theorem qq1 {m n:Nat}(h:tN m=tN n):m=n:=by rw[<-q4Q m,h,q4Q]
theorem qvC (n:Nat):lead (tN n):=by
 induction n using Nat.strongRecOn with
 | _ n ih=>
  by_cases h:n<10
  ·rw[qp6 h];exact .inl rfl
  ·rw[qqD (by omega)];right;by_cases h2:n/10<10
   ·rw[qp6 h2];intro e;have:(dch (n/10)).toNat=48:=by
     have e':dch (n/10)=48:=by simpa using e
     rw[e'];rfl
    rw[qhc h2] at this;omega
   ·have h3:(tN (n/10)).length≠1:=by have:=qpB 1 (n/10) (by omega);omega
    rcases ih (n/10) (by omega) with h4|h4
    ·exact absurd h4 h3
    ·cases hq:tN (n/10) with
     | nil=>exact absurd hq (qjM _)
     | cons a i=>rw[hq] at h4;simpa using h4
theorem qAk (t:qEl):slt [] t=!t.isEmpty:=by cases t<;>rfl
theorem qzn (a b:UInt8)(s t:qEl):slt (a::s) (b::t)=(decide (a<b)||(a==b&&slt s t)):=by unfold slt;simp only[Op.bytesLess]
theorem qrD:∀{s t:qEl},qc7 s->qc7 t->s.length=t.length->((slt s t=true)=(val s<val t))
 | [],[],_,_,_=>by simp[qAk,qom]
 | a::s,b::t,h1,h2,hl=>by
  obtain⟨ha,hs⟩:=q2u.1 h1;obtain⟨hb,ht⟩:=q2u.1 h2;have hl':s.length=t.length:=by simpa using hl
  have ih:=qrD hs ht hl';have v1:=qdp hs;have v2:=qdp ht;rw[qzn,q93,q93,hl'];rw[hl'] at v1;have hab:(a<b)=(dv a<dv b):=by unfold dv;rw[UInt8.lt_iff_toNat_lt];simp only[eq_iff_iff];omega
  have hab2:(a=b)=(dv a=dv b):=by unfold dv;rw[<-UInt8.toNat_inj];simp only[eq_iff_iff];omega
  simp only[qFK,decide_eq_true_eq,qED,beq_iff_eq,eq_iff_iff,ih,hab,hab2];generalize 10^t.length=p at *;generalize dv a=x at *;generalize dv b=y at *;constructor
  ·rintro (h|⟨rfl,h⟩)
   ·have:=qER p (show x+1<=y by omega);rw[qEJ] at this;omega
   ·omega
  ·intro h;rcases Nat.lt_trichotomy x y with h3|h3|h3
   ·exact .inl h3
   ·subst h3;exact .inr ⟨rfl,by omega⟩
   ·have:=qER p (show y+1<=x by omega);rw[qEJ] at this;omega
theorem qb1 {m n:Nat}(h:m<=n):(tN m).length<=(tN n).length:=by
 rcases qEu (tN n).length (tN m).length with h1|h1
 ·have h2:=qho (qEo (tN n).length);have h3:0<(tN n).length:=qlk n;have:=q0D ((tN n).length-1) m (by rw[Nat.sub_add_cancel h3];omega);omega
 ·exact h1
theorem qvE (m n:Nat):((tN m).length<(tN n).length\/(tN m).length=(tN n).length/\slt (tN m) (tN n)=true)↔m<n:=by
 constructor
 ·rintro (h|⟨h1,h2⟩)
  ·rcases qEu m n with h3|h3
   ·exact h3
   ·have:=qb1 h3;omega
  ·rw[qrD (jV m) (jV n) h1,q4Q,q4Q] at h2;exact h2
 ·intro h;have h1:=qb1 (Nat.le_of_lt h);rcases qEu (tN m).length (tN n).length with h3|h3
  ·exact .inl h3
  ·have h4:(tN m).length=(tN n).length:=by omega
   exact .inr ⟨h4,by rw[qrD (jV m) (jV n) h4,q4Q,q4Q];exact h⟩
theorem qzm (s:qEl):val (48::s)=val s:=by rw[q93];simp[dv]
theorem qwK (n:Nat)(s:qEl):val (List.replicate n 48++s)=val s:=by
 induction n with
 | zero=>rfl
 | succ n ih=>rw[qFW,qFu,qzm,ih]
theorem qtU (n:Nat):qc7 (List.replicate n 48):=by intro c hc;rw[(List.mem_replicate.1 hc).2];decide
def rI(l:List Int):R:=l.map fun v=>[.i v]
theorem qzH (l:List Int):qm (rI l)=l.length:=by simp[qm,rI]
theorem qAv (l:List Int)(i:Int):cI (rI l) i 0=l.getD i.toNat 0:=by unfold cI zY rI;simp only[qEn,qEy];cases l[i.toNat]?<;>rfl
theorem qtx (x v:U):qqb [x] 0 [v]=[v]:=rfl
theorem qDh (l:List Int)(i v:Int):qeS (rI l) i 0 [.i v]=rI (l.set i.toNat v):=by
 unfold qeS rI;apply qFd;intro j;by_cases hj:j=i.toNat
 ·subst hj;by_cases hl:i.toNat<l.length
  ·simp[hl,qtx]
  ·rw[qEM (by simp;omega),qEM (by simp;omega)]
 ·rw[qEp (qEQ hj),qEy,qEy,qEp (qEQ hj)]
theorem qnw (n v:Int):q55 n [.i v]=rI (List.replicate n.toNat v):=by simp[q55,rI]
theorem qBg {s:qEl}{i:Nat}(h:i<s.length):sat s (i:Int)=(s[i].toNat:Int):=by unfold sat;simp[h]
theorem jo (s t:qEl):(seq s t=true)=(s=t):=by simp[seq]
theorem qCO {x:Int}(h:0<=x/\x<=255):qev .u8 x=x:=by unfold qev IntKind.wrap;simp[IntKind.signed,IntKind.bits];omega
theorem qti (a b:Nat):qlA (a:Int) (b:Int)=((a%b:Nat):Int):=by unfold qlA;rw[Int.tmod_eq_emod_of_nonneg (by omega)];rfl
theorem qyC {a b:Nat}(h:a<9223372036854775808):qaQ .i64 (a:Int) (b:Int)=((a/b:Nat):Int):=by unfold qaQ;rw[Int.tdiv_eq_ediv_of_nonneg (by omega)];have:(a:Int)/(b:Int)=((a/b:Nat):Int):=rfl;have h2:a/b<=a:=Nat.div_le_self a b;rw[this];generalize a/b=q at *;unfold IntKind.wrap;simp[IntKind.signed,IntKind.bits];omega
theorem q5w {S:List PV->TR}(I Q:Nat->List PV->Prop)(hn:n<9223372036854775808)(h:∀k ps,k<=n->I k ps->(∃k' qs,k'<k/\(S ps).run=some (0,qs)/\I k' qs)\/∃j qs,(S ps).run=some (j+1,qs)/\Q j qs) {ps:List PV} (h0:I n ps):∃j qs,(qh S ps).run=some (j,qs)/\Q j qs:=by
 have key:∀m k ps,k<=n->k<m->I k ps->∃j qs,(qgZ S m ps).run=some (j,qs)/\Q j qs:=by
  intro m;induction m with
  | zero=>intro k ps _ h;omega
  | succ m ih=>
   intro k ps hk hm hI;rcases h k ps hk hI with⟨k',qs,h1,h2,h3⟩|⟨j,qs,h1,h2⟩
   ·obtain⟨j,rs,g1,g2⟩:=ih k' qs (by omega) (by omega) h3;exact⟨j,rs,by rw[qee h2];exact g1,g2⟩
   ·exact⟨j,qs,q5U h1,h2⟩
 exact key qcT n ps (qEo _) (Nat.lt_trans hn (by unfold qcT;decide)) h0
end Go.Eng

namespace Go.Eng
theorem q95{m:Int}(h:m<0):tI m=45::tN m.natAbs:=by unfold tI;rw[if_pos h]
theorem qfM{m:Int}(h:¬m<0):tI m=tN m.natAbs:=by unfold tI;rw[if_neg h]
theorem q90(n:Nat):tI (n:Int)=tN n:=by rw[qfM (by omega)];rfl
theorem qwQ:tN 0=[48]:=rfl
theorem qdY{s:qEl}(hd:qc7 s)(hn:s≠[]):∃c t,s=c::t/\48<=c.toNat/\c.toNat<=57:=by
 cases s with
 | nil=>exact absurd rfl hn
 | cons c t=>exact⟨c,t,rfl,(q2u.1 hd).1⟩
theorem qzy(m:Int):(tI m).length<=(tN m.natAbs).length+1:=by unfold tI;split<;>simp
theorem qjI(m:Int):0<(tI m).length:=by have:=qlk m.natAbs;unfold tI;split<;>simp<;>omega
theorem qsP{m n:Int}(h:tI m=tI n):m=n:=by
 have key:∀{m n:Int},m<0->¬n<0->tI m≠tI n:=by intro m n h1 h2 e;rw[q95 h1,qfM h2] at e;obtain⟨c,t,hc,h3,h4⟩:=qdY (jV n.natAbs) (qjM _);rw[hc] at e;have:=(List.cons.inj e).1;rw[<-this] at h3;exact absurd h3 (by decide)
 by_cases h1:m<0<;>by_cases h2:n<0
 ·rw[q95 h1,q95 h2] at h;have:=qq1 (List.cons.inj h).2;omega
 ·exact absurd h (key h1 h2)
 ·exact absurd h.symm (key h2 h1)
 ·rw[qfM h1,qfM h2] at h;have:=qq1 h;omega
theorem qsC(m:Int):(sat (tI m) 0=45)=(m<0):=by
 by_cases h:m<0
 ·rw[q95 h];simp[sat,h]
 ·rw[qfM h];obtain⟨c,t,hc,h3,h4⟩:=qdY (jV m.natAbs) (qjM _);rw[hc];simp[sat,h];omega
theorem qpg(m:Int):(q5J [.s (tI m)]).run=some (0,[.s (tN m.natAbs)]):=by
 rw[qoD];have hp:=qjI m;have hne:¬tI m=[]:=fun h=>by rw[h] at hp;simp at hp
 have h1:(0:Int)<zp (tI m):=by unfold zp;omega
 have h2:(1:Int)<=zp (tI m):=by omega
 simp only[STD,jo,hne,h1,h2,qsC,qES,show (0:Int)<=zp (tI m) by omega,and_self,show (0:Int)<=1 by omega];by_cases h:m<0
 ·rw[if_pos h,q95 h];simp[qg1,zp]
 ·rw[if_neg h,qfM h]
theorem qnG(m:Int):(q3R [.s (tI m)]).run=some (0,[.b (decide (m<0))]):=by
 rw[qm3];have hp:=qjI m;have h1:(0:Int)<zp (tI m):=by unfold zp;omega
 have h2:ieq (sat (tI m) 0) 45=decide (m<0):=by have:=qsC m;by_cases h:m<0<;>simp[ieq,h] at this ⊢<;>exact this
 simp only[STD,h1,h2,qES,and_self]
theorem qlW(n:Nat)(b:Bool)(hl:(tN n).length<=100000000):(q2N [.s (tN n),.b b]).run=some (0,[.s (tI (if b then -(n:Int) else n))]):=by
 rw[qkw];have h1:zp [45]+zp (tN n)<=140737488355328:=by show (1:Int)+((tN n).length:Int)<=_;omega
 have h0:(tN n=[48])=(n=0):=by rw[<-qwQ];exact propext ⟨fun h=>qq1 h,fun h=>by rw[h]⟩
 simp only[STD,jo,h1,h0];cases b with
 | false=>simp[q90]
 | true=>
  by_cases hn:n=0
  ·subst hn;simp[tI,qwQ]
  ·have:(-(n:Int))<0:=by omega
   simp[hn,q95 this,qjo]
theorem qlQ(m:Int)(hl:(tN m.natAbs).length<=100000000):(yd [.s (tI m)]).run=some (0,[.s (tI (-m))]):=by
 rw[qlw];simp only[STD,qpg,qnG,qlW _ _ hl];have e:(if ¬m<0 then -(m.natAbs:Int) else (m.natAbs:Int))=-m:=by
  by_cases h:m<0
  ·rw[if_neg (by simp[h])];omega
  ·rw[if_pos (by simp[h])];omega
 rw[e]
theorem qxv{s:qEl}(h:qc7 s)(i:Nat):qc7 (s.take i):=fun c hc=>h c (qGn hc)
theorem qx2{s:qEl}(h:qc7 s)(i:Nat):qc7 (s.drop i):=fun c hc=>h c (qGo hc)
theorem qnt{d:Int}(h0:0<=d)(h:d<10):qqw [[.i (qev .u8 (qO .i64 48 d))]]=[dch d.toNat]:=by rw[jG (by omega),qCO (by omega)];show [UInt8.ofNat (48+d).toNat]=[UInt8.ofNat (48+d.toNat)];rw[show (48+d).toNat=48+d.toNat by omega]
theorem qxT{S:List PV->TR}(hS:∀(y0:Int) (y1:qEl),S [.i y0,.s y1]=(.br (ilt 9 y0) (.br (ile ((zp (qqw [[(.i (qev .u8 (qO .i64 48 (qlA y0 10))))]]))+(zp y1)) 140737488355328) (.leaf (0,[(.i (qaQ .i64 y0 10)),(.s (qjo (qqw [[(.i (qev .u8 (qO .i64 48 (qlA y0 10))))]]) y1))])) .fail) (.leaf (1,[(.i y0),(.s y1)]))))(n:Nat) (hn:n<9223372036854775808):∃(a:Nat) (r:qEl),(qh S [.i (n:Int),.s []]).run=some (0,[.i (a:Int),.s r])/\a<10/\tN n=tN a++r:=by
 have hlen:(tN n).length<=19:=q0D 18 n (by omega);obtain⟨j,qs,h1,h2⟩:=q5w (S:=S) (fun k ps=>∃(r:qEl),ps=[.i (k:Int),.s r]/\tN n=tN k++r) (fun j qs=>∃(a:Nat) (r:qEl),j=0/\qs=[.i (a:Int),.s r]/\a<10/\tN n=tN a++r) hn (fun k ps hk ⟨r,hps,ht⟩=>by
  subst hps;by_cases h9:k<10
  ·right;have:¬(9:Int)<(k:Int):=by omega
   exact⟨0,_,by rw[hS];simp only[STD,this],k,r,rfl,rfl,h9,ht⟩
  ·left;have h9':(9:Int)<(k:Int):=by omega
   have hr:qlA (k:Int) 10=((k%10:Nat):Int):=qti k 10;have hq:qaQ .i64 (k:Int) 10=((k/10:Nat):Int):=qyC (b:=10) (by omega);have hd:qqw [[(.i (qev .u8 (qO .i64 48 (qlA (k:Int) 10))))]]=[dch (k%10)]:=by rw[hr,qnt (by omega) (by omega)];rfl
   have hrl:r.length<=19:=by have:=congrArg List.length ht;rw[qEL] at this;omega
   have hle:zp [dch (k%10)]+zp r<=140737488355328:=by show (1:Int)+(r.length:Int)<=_;omega
   refine⟨k/10,[.i ((k/10:Nat):Int),.s ([dch (k%10)]++r)],by omega,?_,_,rfl,?_⟩
   ·rw[hS];simp only[STD,h9',hd,hq,hle];rfl
   ·rw[ht,qqD (by omega),qF0]) (ps:=[.i (n:Int),.s []]) ⟨[],rfl,by simp⟩
 obtain⟨a,r,rfl,rfl,h3,h4⟩:=h2;exact⟨a,r,h1,h3,h4⟩
theorem qvu{a:Nat}{r:qEl}(ha:a<10):qjo (qqw [[(.i (qev .u8 (qO .i64 48 (a:Int))))]]) r=tN a++r:=by rw[qnt (by omega) (by omega),qp6 ha];rfl
theorem of_le{a:Nat}{r:qEl}(ha:a<10)(hr:r.length<=1000):zp (qqw [[(.i (qev .u8 (qO .i64 48 (a:Int))))]])+zp r<=140737488355328:=by rw[qnt (by omega) (by omega)];show (1:Int)+(r.length:Int)<=_;omega
theorem qzY{x:Int}(h1:-9223372036854775808<x)(h2:x<=9223372036854775807):q2k .i64 0 x=-x:=qwm (by omega)
theorem qCq(n:Nat)(hn:n<9223372036854775808):(q3n [.i (n:Int)]).run=some (0,[.s (tN n)])/\(q5n [.i (n:Int)]).run=some (0,[.s (tN n)]):=by
 obtain⟨a,r,h1,h2,h3⟩:=qxT qmd n hn;obtain⟨a',r',h1',h2',h3'⟩:=qxT qnT n hn;have hlen:(tN n).length<=19:=q0D 18 n (by omega);have hr:r.length<=1000:=by have:=congrArg List.length h3;rw[qEL] at this;omega
 have hr':r'.length<=1000:=by have:=congrArg List.length h3';rw[qEL] at this;omega
 have hneg:q2k .i64 0 (n:Int)=-(n:Int):=qzY (by omega) (by omega);have h0:((n:Int)=-(n:Int))=(n=0):=by simp only[eq_iff_iff];omega
 have hlt:¬(n:Int)<0:=by omega
 have hz:((n:Int)=0)=(n=0):=by simp only[eq_iff_iff];omega
 constructor
 ·rw[qpF];simp only[STD,hneg,h0,hz,hlt,h1,qvu h2,of_le h2 hr,<-h3];by_cases h:n=0<;>simp[h]
 ·rw[qk5];simp only[STD,hneg,h0,hz,hlt,h1',qvu h2',of_le h2' hr',<-h3'];by_cases h:n=0<;>simp[h]
theorem qtw(n:Int)(h1:-9223372036854775808<n)(h2:n<=9223372036854775807):(q5n [.i n]).run=some (0,[.s (tI n)]):=by
 by_cases h:n<0
 ·obtain⟨a,ha⟩:∃a:Nat,n=-(a:Int):=⟨n.natAbs,by omega⟩;subst ha;have hneg:q2k .i64 0 (-(a:Int))=(a:Int):=by rw[qzY (by omega) (by omega)];omega
  have hlen:(tN a).length<=19:=q0D 18 a (by omega);have ht:=qlQ (a:Int) (by simp;omega);rw[q90] at ht;rw[qk5];have e1:¬(-(a:Int)=(a:Int)):=by omega
  simp only[STD,hneg,h,e1,(qCq a (by omega)).1,ht]
 ·obtain⟨a,rfl⟩:∃a:Nat,n=(a:Int):=⟨n.toNat,by omega⟩;rw[(qCq a (by omega)).2,q90]
theorem qsW(a b:Nat):qqv (a:Int) (b:Int)=((max a b:Nat):Int):=by unfold qqv;split<;>omega
theorem qAW(m n:Nat):(tN (m+n)).length<=max (tN m).length (tN n).length+1:=by have h1:=qdp (jV m);have h2:=qdp (jV n);rw[q4Q] at h1 h2;have p1:10^(tN m).length<=10^(max (tN m).length (tN n).length):=qGc (by omega) (by omega);have p2:10^(tN n).length<=10^(max (tN m).length (tN n).length):=qGc (by omega) (by omega);exact q0D _ _ (by rw[qG1];omega)
theorem qrV(m n:Nat):(tN (m*n)).length<=(tN m).length+(tN n).length:=by
 have h1:=qdp (jV m);have h2:=qdp (jV n);rw[q4Q] at h1 h2;have h3:=qlk m;have h4:=qlk n;have:m*n<10^((tN m).length+(tN n).length):=by rw[Nat.pow_add];exact Nat.mul_lt_mul'' h1 h2
 have:=q0D ((tN m).length+(tN n).length-1) (m*n) (by rwa [show (tN m).length+(tN n).length-1+1=(tN m).length+(tN n).length by omega]);omega
def nl(m:Int):Nat:=(tN m.natAbs).length
theorem qkz(m:Int):0<nl m:=qlk _
theorem qwJ(m:Int):nl (-m)=nl m:=by unfold nl;rw[Int.natAbs_neg]
theorem qt3(m n:Int):nl (m+n)<=max (nl m) (nl n)+1:=by unfold nl;exact qEr (qb1 (Int.natAbs_add_le m n)) (qAW _ _)
theorem q3A(m n:Int):nl (m*n)<=nl m+nl n:=by unfold nl;rw[qFF];exact qrV _ _
theorem qCn{m:Int}{k:Nat}(h:nl m<=k):m.natAbs<10^k:=qho h
def sgn(n:Int):Int:=if n<0 then -1 else if n=0 then 0 else 1
theorem jW{l:List Int}{j:Nat}(h:j<l.length):l.getD j 0=l[j]:=by simp[h]
theorem qtG(m:Int){n:Int}(hn:n≠0):n*m.tdiv n+qlA m n=m/\(qlA m n).natAbs<n.natAbs/\(0<=m->0<=qlA m n)/\(m<=0->qlA m n<=0):=by
 unfold qlA;refine⟨Int.mul_tdiv_add_tmod m n,?_,fun h=>Int.tmod_nonneg n h,fun h=>?_⟩
 ·rw[Int.natAbs_tmod];exact Nat.mod_lt _ (by omega)
 ·have:=Int.tmod_nonneg n (show 0<=-m by omega);rw[Int.neg_tmod] at this;omega
theorem qtR{n t:Int}(hn:n≠0)(h:-9223372036854775808<=t/\t<=9223372036854775807):qaQ .i64 (n*t) n=t:=by unfold qaQ;rw[Int.mul_tdiv_cancel_left _ hn];unfold IntKind.wrap;simp[IntKind.signed,IntKind.bits];omega
theorem qCr:tI 1=[49]:=rfl
def eM(a b:Nat):Nat:=if b=0 then 0 else Nat.log2 (a*b)+1+if a<b then 1 else 0
theorem qwn{m n:Nat}(h:m<=n):Nat.log2 m<=Nat.log2 n:=by
 by_cases hm:m=0
 ·subst hm;simp
 ·rcases qEu (Nat.log2 n) (Nat.log2 m) with h1|h1
  ·have:=(Nat.log2_lt (show n≠0 by omega)).1 h1;have h2:=Nat.log2_self_le hm;omega
  ·exact h1
theorem qBo{a b:Nat}(hb:b≠0):eM b (a%b)<eM a b:=by
 have hlt:=Nat.mod_lt a (show 0<b by omega);unfold eM;rw[if_neg hb];by_cases hr:a%b=0
 ·rw[if_pos hr];omega
 ·rw[if_neg hr,if_neg (show ¬b<a%b by omega)];by_cases hab:a<b
  ·rw[if_pos hab,Nat.mod_eq_of_lt hab,Nat.mul_comm b a];omega
  ·rw[if_neg hab];have hd:=Nat.div_add_mod a b;have hq:1<=a/b:=(Nat.le_div_iff_mul_le (by omega)).2 (by omega);have h1:b*1<=b*(a/b):=Nat.mul_le_mul_left _ hq;have h2:2*(b*(a%b))<=a*b:=by
    have:2*(a%b)<=a:=by omega
    have:=qER b this;rw[Nat.mul_assoc,Nat.mul_comm (a%b) b] at this;exact this
   have h3:=qwn h2;have h4:Nat.log2 (2*(b*(a%b)))=Nat.log2 (b*(a%b))+1:=by apply Nat.log2_two_mul;exact Nat.mul_ne_zero hb hr
   omega
theorem qxx{x k j:Nat}(h:(tN x).length<=k)(hj:4*k=j):x<2^j:=by
 have h3:x<10^k:=qho h;have h4:(10:Nat)^k<=16^k:=Nat.pow_le_pow_left (by omega) _;have h5:(16:Nat)^k=2^j:=by rw[show (16:Nat)=2^4 from rfl,<-Nat.pow_mul,hj]
 rw[h5] at h4;exact qFI h3 h4
theorem qzs{a b:Nat}(ha:(tN a).length<=400000)(hb:(tN b).length<=400000):eM a b<9223372036854775808:=by
 unfold eM;have h1:=qrV a b;by_cases h0:a*b=0
 ·rw[h0];simp;split<;>(try split)<;>omega
 ·obtain⟨j,hj⟩:∃j,j=3200000:=⟨_,rfl⟩;have h2:a*b<2^j:=qxx (k:=800000) (by omega) (by omega);have:=(Nat.log2_lt h0).2 h2;split<;>(try split)<;>omega
def mag(s:qEl):List UInt8:=if s.getD 0 0=45 then s.drop 1 else s
theorem qpY(m:Int):mag (tI m)=tN m.natAbs:=by
 unfold mag;by_cases h:m<0
 ·rw[q95 h];simp
 ·rw[qfM h];obtain⟨c,t,e,h1,h2⟩:=qdY (jV m.natAbs) (qjM _);rw[e];simp only[List.getD_cons_zero];rw[if_neg];intro hc;subst hc;revert h1;decide
theorem qwi(s:qEl):(∃m:Int,s=tI m)↔mag s≠[]/\qc7 (mag s)/\((mag s).getD 0 0=48->s.length=1):=by
 constructor
 ·rintro ⟨m,rfl⟩;rw[qpY];refine⟨qjM _,jV _,fun h=>?_⟩;rcases qvC m.natAbs with h1|h1
  ·have h2:=qni m.natAbs;have hv:m.natAbs=0:=by obtain⟨c,e⟩:∃c,tN m.natAbs=[c]:=List.length_eq_one_iff.1 h1;rw[e] at h;simp at h;have:=q4Q m.natAbs;rw[e,h] at this;simpa[val,dv] using this.symm
   have hm0:m=0:=by omega
   rw[hm0];rfl
  ·exact absurd h h1
 ·rintro ⟨h1,h2,h3⟩;by_cases h45:s.getD 0 0=45
  ·have hm:mag s=s.drop 1:=by unfold mag;rw[if_pos h45]
   obtain⟨c,t,rfl⟩:∃c t,s=c::t:=by
    cases s with
    | nil=>simp at h45
    | cons c t=>exact⟨c,t,rfl⟩
   simp at h45;subst h45;rw[hm] at h1 h2 h3;simp only[List.drop_succ_cons,List.drop_zero] at h1 h2 h3;have h4:t.getD 0 0≠48:=fun h=>by have:=h3 h;simp at this;exact h1 this
   have hv:=qsy h2 h1 h4;have hp:0<10^(t.length-1):=Nat.pow_pos (by omega);refine⟨-((val t:Nat):Int),?_⟩;rw[q95 (by omega)];simp only[Int.natAbs_neg,Int.natAbs_natCast];rw[<-qrB h2 h1 (.inr h4)]
  ·have hm:mag s=s:=by unfold mag;rw[if_neg h45]
   rw[hm] at h1 h2 h3;refine⟨((val s:Nat):Int),?_⟩;rw[q90];refine qrB h2 h1 ?_;by_cases h4:s.getD 0 0=48
   ·exact .inl (h3 h4)
   ·exact .inr h4
open Classical in
noncomputable def qt9(s:qEl):Int:=if ∃m:Int,s=tI m then (if (mag s).length<=1024 then 0 else 11) else 3
end Go.Eng

namespace Go.Eng
variable {q:Rat}
def tQ(q:Rat):List UInt8:=if q.den=1 then tI q.num else tI q.num++47::tN q.den
def dl(n:Nat):Nat:=(tN n).length
def qn(q:Rat):Nat:=nl q.num
def qd(q:Rat):Nat:=dl q.den
theorem qvq {s:qEl}(h:qc7 s):∀c,c∈s->c≠47:=fun c hc e=>by have:=h c hc;rw[e] at this;revert this;decide
theorem qm5 (m:Int):∀c,c∈tI m->c≠47:=by
 intro c hc;unfold tI at hc;split at hc
 ·rcases qEt.1 hc with rfl|hc
  ·decide
  ·exact qvq (jV _) c hc
 ·exact qvq (jV _) c hc
theorem qse:∀{s s' t t':qEl},(∀c,c∈s->c≠47)->(∀c,c∈s'->c≠47)->s++47::t=s'++47::t'->s=s'/\t=t'
 | [],[],t,t',_,_,h=>⟨rfl,by simpa using h⟩
 | [],c::s',t,t',_,h2,h=>by
  simp only[qFM,qFu,qFL] at h;exact absurd h.1.symm (h2 c qEz)
 | c::s,[],t,t',h1,_,h=>by
  simp only[qFM,qFu,qFL] at h;exact absurd h.1 (h1 c qEz)
 | c::s,c'::s',t,t',h1,h2,h=>by
  simp only[qFu,qFL] at h;obtain⟨e1,e2⟩:=qse (fun c hc=>h1 c (qEE _ hc)) (fun c hc=>h2 c (qEE _ hc)) h.2;exact⟨by rw[h.1,e1],e2⟩
theorem q8N (h:q.den=1):tQ q=tI q.num:=by unfold tQ;rw[if_pos h]
theorem q53 (h:q.den≠1):tQ q=tI q.num++47::tN q.den:=by unfold tQ;rw[if_neg h]
theorem qBW {a b:Rat}(h:tQ a=tQ b):a=b:=by
 by_cases ha:a.den=1<;>by_cases hb:b.den=1
 ·rw[q8N ha,q8N hb] at h;exact Rat.ext (qsP h) (ha.trans hb.symm)
 ·rw[q8N ha,q53 hb] at h;exact absurd rfl (qm5 a.num 47 (by rw[h];simp))
 ·rw[q53 ha,q8N hb] at h;exact absurd rfl (qm5 b.num 47 (by rw[<-h];simp))
 ·rw[q53 ha,q53 hb] at h;obtain⟨e1,e2⟩:=qse (qm5 _) (qm5 _) h;exact Rat.ext (qsP e1) (qq1 e2)
theorem qtz (a b:Rat):(tQ a=tQ b)=(a=b):=propext ⟨qBW,fun h=>by rw[h]⟩
theorem qqQ (m:Int):tQ (m:Rat)=tI m:=q8N (by simp)
theorem qxZ (n:Nat):tQ (OfNat.ofNat n:Rat)=tN n:=by rw[q8N (by simp)];simp only[Rat.num_ofNat];exact q90 n
theorem qlq {m n:Int}(h:m.natAbs<=n.natAbs):nl m<=nl n:=qb1 h
theorem quR {m n:Nat}(h:m<=n):dl m<=dl n:=qb1 h
theorem qvG (n:Nat):nl (n:Int)=dl n:=rfl
theorem qwf (m n:Nat):dl (m*n)<=dl m+dl n:=qrV m n
theorem qvQ (m n:Int):nl (m-n)<=max (nl m) (nl n)+1:=by
 rw[Int.sub_eq_add_neg];have:=qt3 m (-n)
 rwa [qwJ] at this
theorem qdT (N:Int)(D:Nat):nl (mkRat N D).num<=nl N/\dl (mkRat N D).den<=dl D:=by
 rw[Rat.num_mkRat,Rat.den_mkRat];by_cases h:D=0
 ·rw[if_pos h,if_pos h,h];exact⟨qlq (by simp),by decide⟩
 ·rw[if_neg h,if_neg h];exact⟨qlq (qGw _ _),quR (Nat.div_le_self _ _)⟩
theorem qzG (a b:Rat):qn (a*b)<=qn a+qn b:=by unfold qn;rw[Rat.mul_def'];exact qEr (qdT _ _).1 (q3A _ _)
theorem qzO (a b:Rat):qd (a*b)<=qd a+qd b:=by unfold qd;rw[Rat.mul_def'];exact qEr (qdT _ _).2 (qwf _ _)
theorem qC0 (a b:Rat):qn (a+b)<=max (qn a+qd b) (qn b+qd a)+1:=by unfold qn qd;rw[Rat.add_def'];have h1:=(qdT (a.num*b.den+b.num*a.den) (a.den*b.den)).1;have h2:=qt3 (a.num*b.den) (b.num*a.den);have h3:=q3A a.num b.den;have h4:=q3A b.num a.den;rw[qvG] at h3 h4;omega
theorem qCA (a b:Rat):qd (a+b)<=qd a+qd b:=by unfold qd;rw[Rat.add_def'];exact qEr (qdT _ _).2 (qwf _ _)
theorem qCi (a b:Rat):qn (a-b)<=max (qn a+qd b) (qn b+qd a)+1:=by unfold qn qd;rw[Rat.sub_def'];have h1:=(qdT (a.num*b.den-b.num*a.den) (a.den*b.den)).1;have h2:=qvQ (a.num*b.den) (b.num*a.den);have h3:=q3A a.num b.den;have h4:=q3A b.num a.den;rw[qvG] at h3 h4;omega
theorem qDo (a b:Rat):qd (a-b)<=qd a+qd b:=by unfold qd;rw[Rat.sub_def'];exact qEr (qdT _ _).2 (qwf _ _)
theorem qCZ (a:Rat):qn (-a)=qn a:=by unfold qn;rw[Rat.neg_num,qwJ]
theorem qgr (a:Rat):0<qn a:=qkz _
theorem qnb (a:Rat):0<qd a:=qlk _
theorem qDa {a:Rat}(h:a≠0):qn a⁻¹<=qd a:=by unfold qn qd;rw[Rat.num_inv,<-qvG];apply qlq;rw[qFF,qGx (by rwa [Ne,Rat.num_eq_zero])];simp
theorem qD3 {a:Rat}(h:a≠0):qd a⁻¹<=qn a:=by unfold qn qd;rw[Rat.den_inv,if_neg (by rwa [Rat.num_eq_zero])];exact qEo _
theorem qC9 (a:Rat){b:Rat}(h:b≠0):qn (a/b)<=qn a+qd b:=by rw[Rat.div_def];exact qEr (qzG _ _) (Nat.add_le_add_left (qDa h) _)
theorem qCv (a:Rat){b:Rat}(h:b≠0):qd (a/b)<=qd a+qn b:=by rw[Rat.div_def];exact qEr (qzO _ _) (Nat.add_le_add_left (qD3 h) _)
def sgq(q:Rat):Int:=sgn q.num
theorem qbO {m k:Int}(hk:0<k):sgn (m*k)=sgn m:=by
 unfold sgn;rcases qFQ m 0 with h|h|h
 ·have:=qGy h hk;rw[if_pos h,if_pos this]
 ·subst h;simp
 ·have:=Int.mul_pos h hk;rw[if_neg (by omega),if_neg (by omega),if_neg (by omega),if_neg (by omega)]
theorem qAJ (m:Int):sgn (-m)=-sgn m:=by
 unfold sgn;rcases qFQ m 0 with h|h|h
 ·rw[if_pos h,if_neg (by omega),if_neg (by omega)];rfl
 ·subst h;rfl
 ·rw[if_pos (by omega),if_neg (by omega),if_neg (by omega)]
theorem qqG (h:0<q):sgq q=1:=by
 unfold sgq sgn;have h1:0<=q.num:=Rat.num_nonneg.2 (Rat.le_of_lt h);have h2:q.num≠0:=fun e=>by rw[Rat.num_eq_zero] at e;rw[e] at h;exact Rat.lt_irrefl h
 rw[if_neg (by omega),if_neg h2]
theorem qv5 (q:Rat):sgq (-q)=-sgq q:=by unfold sgq;rw[Rat.neg_num,qAJ]
theorem qzP (h:q<0):sgq q=-1:=by
 have h1:0 < -q:=by grind
 have:=qqG h1;rw[qv5] at this;omega
theorem qai (q:Rat):(q<0/\sgq q=-1)\/(q=0/\sgq q=0)\/(0<q/\sgq q=1):=by
 by_cases h1:q<0
 ·exact .inl ⟨h1,qzP h1⟩
 ·by_cases h2:q=0
  ·exact .inr (.inl ⟨h2,by rw[h2];rfl⟩)
  ·exact .inr (.inr ⟨by grind,qqG (by grind)⟩)
theorem qe3 (q:Rat):(sgq q<=0)=(q<=0):=by rcases qai q with⟨h,e⟩|⟨h,e⟩|⟨h,e⟩<;>rw[e]<;>simp<;>grind
end Go.Eng

namespace Go.Eng
def sP(s:qEl):Nat:=s.findIdx (·==47)
def spn(s:qEl):List UInt8:=s.take (sP s)
def spd(s:qEl):List UInt8:=if sP s<s.length then s.drop (sP s+1) else [49]
theorem qB8(s:qEl):sP s<=s.length:=List.findIdx_le_length
theorem qD8{s:qEl}{i:Nat}(h:i<s.length)(h1:s[i]=47)(h2:∀j (hj:j<i),s[j]≠47):sP s=i:=by unfold sP;rw[List.findIdx_eq h];exact⟨by simp[h1],fun j hj=>by simp[h2 j hj]⟩
theorem qry{s:qEl}(h:∀c,c∈s->c≠47):sP s=s.length:=by unfold sP;rw[List.findIdx_eq_length];intro x hx;simpa using h x hx
theorem qxD{s t:qEl}(h:∀c,c∈s->c≠47):sP (s++47::t)=s.length:=by
 apply qD8 (by simp)
 ·simp
 ·intro j hj;rw[List.getElem_append_left hj];exact h _ (qFp hj)
theorem qA3(q:Rat):spn (tQ q)=tI q.num:=by
 unfold spn;by_cases h:q.den=1
 ·rw[q8N h,qry (qm5 _),qG3]
 ·rw[q53 h,qxD (qm5 _)];simp
theorem qzB(q:Rat):spd (tQ q)=tN q.den:=by
 unfold spd;by_cases h:q.den=1
 ·rw[q8N h,qry (qm5 _),if_neg (Nat.lt_irrefl _),h];rfl
 ·rw[q53 h,qxD (qm5 _),if_pos (by simp)];simp
theorem qCU(q:Rat):(tQ q).length<=qn q+qd q+2:=by
 have h1:=qzy q.num;unfold qn qd nl dl;by_cases h:q.den=1
 ·rw[q8N h];omega
 ·rw[q53 h];simp;omega
theorem qeb(n:Nat):(tN n=[49])=(n=1):=by have:tN 1=[49]:=rfl;rw[<-this];exact propext ⟨fun h=>qq1 h,fun h=>by rw[h]⟩
def sm(K:Nat)(q:Rat):Prop:=qn q<=K/\qd q<=K
theorem qzj(a:Rat):(0:Int)<(a.den:Int):=by have:=a.den_nz;omega
def qel(a b c:Rat):Int:=if 0<=sgq a*(sgq b*sgq c) then (if sgq a=0 then sgq b*sgq c else sgq a) else sgq a*sgq (a*a-b*b*c)
theorem qxI(q:Rat):-1<=sgq q/\sgq q<=1:=by rcases qai q with⟨_,e⟩|⟨_,e⟩|⟨_,e⟩<;>rw[e]<;>decide
theorem qDC{x y:Int}(hx:-1<=x/\x<=1)(hy:-1<=y/\y<=1):-1<=x*y/\x*y<=1:=by have:=qwA (A:=1) (B:=1) hx.1 hx.2 hy.1 hy.2;omega
theorem qhG{x y:Int}(hx:-1<=x/\x<=1)(hy:-1<=y/\y<=1):vk .i64 x y=x*y:=q6e (by have:=qDC hx hy;omega)
variable {n:Nat}
def mv:List Int->Int
 | []=>0
 | x::l=>x+1000000000*mv l
def pB(n:Nat):Int:=1000000000^n
theorem q4C:pB 0=1:=rfl
theorem q83 (n:Nat):pB (n+1)=pB n*1000000000:=Int.pow_succ _ _
theorem q8O:∀n,0<pB n
 | 0=>by decide
 | n+1=>by rw[q83];have:=q8O n;omega
theorem qC5 (m n:Nat):pB (m+n)=pB m*pB n:=Int.pow_add _ _ _
theorem q9k {m n:Nat}(h:m<=n):pB m<=pB n:=by
 obtain⟨k,rfl⟩:∃k,n=m+k:=⟨n-m,by omega⟩;induction k with
 | zero=>simp
 | succ k ih=>
  have h1:=ih (by omega);rw[show m+(k+1)=(m+k)+1 by omega,q83];have:=q8O (m+k);omega
def dgs(l:List Int):Prop:=∀x,x∈l->0<=x/\x<1000000000
theorem qsn:∀(l:List Int) (j:Nat) (h:j<l.length) (y:Int),mv (l.set j y)=mv l+(y-l[j])*pB j
 | [],j,h,_=>by simp at h
 | x::l,0,_,y=>by simp only[qEF,mv,List.getElem_cons_zero,q4C];omega
 | x::l,j+1,h,y=>by
  have ih:=qsn l j (by simpa using h) y;simp only[qEG,mv,List.getElem_cons_succ,q83];rw[ih];grind
theorem qtW:∀(l:List Int) (n:Nat),dgs l->(∀i,n<=i->l.getD i 0=0)->0<=mv l/\mv l<pB n
 | [],n,_,_=>⟨qES _,q8O n⟩
 | x::l,0,hd,hz=>by
  have ih:=qtW l 0 (fun y hy=>hd y (qEE _ hy)) (fun i _=>by have:=hz (i+1) (by omega);simpa using this);have hx:x=0:=by simpa using hz 0 (by omega)
  rw[q4C] at ih ⊢;simp only[mv];omega
 | x::l,n+1,hd,hz=>by
  have ih:=qtW l n (fun y hy=>hd y (qEE _ hy)) (fun i hi=>by have:=hz (i+1) (by omega);simpa using this);have hx:=hd x qEz;rw[q83];simp only[mv];generalize pB n=p at *;omega
theorem qD6:∀(l:List Int) (j:Nat) (h:j<l.length),dgs l->l[j]≠0->pB j<=mv l
 | [],j,h,_,_=>by simp at h
 | x::l,0,_,hd,hx=>by
  have h1:=hd x qEz;have h2:=(qtW l l.length (fun y hy=>hd y (qEE _ hy)) (fun i hi=>by simp[hi])).1;simp only[List.getElem_cons_zero] at hx;simp only[mv,q4C];omega
 | x::l,j+1,h,hd,hx=>by
  have ih:=qD6 l j (by simpa using h) (fun y hy=>hd y (qEE _ hy)) (by simpa using hx);have h1:=hd x qEz;rw[q83];simp only[mv];omega
theorem qtc:∀(s t:List Int),mv (s++t)=mv s+pB s.length*mv t
 | [],t=>by simp[mv,q4C]
 | x::s,t=>by
  simp only[qFu,mv,qF3,q83];rw[qtc s t];grind
theorem qb9 (n:Nat):mv (List.replicate n 0)=0:=by
 induction n with
 | zero=>rfl
 | succ n ih=>simp[qFW,mv,ih]
theorem q9A {l:List Int}{i:Nat}(h:i<l.length):mv (l.drop i)=l[i]+1000000000*mv (l.drop (i+1)):=by rw[List.drop_eq_getElem_cons h];rfl
theorem wR {l:List Int}{n i:Nat}(hd:dgs l)(hz:∀i,n<=i->l.getD i 0=0)(hi:n<=i):mv (l.drop i)=0:=by have:=qtW (l.drop i) 0 (fun x hx=>hd x (qGo hx)) (fun j _=>by have:=hz (i+j) (by omega);simpa[qEn] using this);rw[q4C] at this;omega
structure WOK (n:Nat) (l:List Int):Prop where
 len:l.length=232
 le:n<=232
 dig:dgs l
 z:∀i,n<=i->l.getD i 0=0
def nrm(n:Nat)(l:List Int):Prop:=n=0\/l.getD (n-1) 0≠0
theorem WOK.bd {l:List Int}(h:WOK n l):0<=mv l/\mv l<pB n:=qtW l n h.dig h.z
theorem WOK.lo {l:List Int}(h:WOK n l)(hn:nrm n l)(h0:n≠0):pB (n-1)<=mv l:=by
 have h1:=h.le;have h2:=h.len;rcases hn with hn|hn
 ·exact absurd hn h0
 ·refine qD6 l (n-1) (by omega) h.dig ?_
  rwa [jW (by omega)] at hn
theorem qpC (N i:Nat):(List.replicate N (0:Int)).getD i 0=0:=by rw[qEn,List.getElem?_replicate];split<;>rfl
theorem qvM (N:Nat):dgs (List.replicate N 0):=fun x hx=>by have:=(List.mem_replicate.1 hx).2;omega
theorem WOK.zero:WOK 0 (List.replicate 232 0):=⟨List.length_replicate,by omega,qvM 232,fun i _=>qpC 232 i⟩
theorem WOK.get {l:List Int}(h:WOK n l)(i:Nat):0<=l.getD i 0/\l.getD i 0<1000000000:=by
 rcases qEu i l.length with hi|hi
 ·rw[jW hi];exact h.dig _ (qFp hi)
 ·simp[hi]
theorem WOK.setW {l:List Int}(h:WOK n l){j:Nat}{y:Int}(hj:j<232)(hy:0<=y/\y<1000000000):WOK (max n (j+1)) (l.set j y):=by
 have h1:=h.le;refine⟨by simp[h.len],by omega,fun x hx=>?_,fun i hi=>?_⟩
 ·rcases qGv hx with hx|rfl
  ·exact h.dig x hx
  ·exact hy
 ·have:=h.z i (by omega);rw[qEn,qEp (by omega),<-qEn];exact this
theorem q3B (l:List Int)(i:Nat):cI (rI l) (i:Int) 0=l.getD i 0:=by rw[qAv,qEK]
theorem qfg (l:List Int)(i:Nat)(v:Int):qeS (rI l) (i:Int) 0 [.i v]=rI (l.set i v):=by rw[qDh,qEK]
theorem qgn {l:List Int}(h:WOK n l)(b:Bool):∃m,(qU [.b b,.i (n:Int),.r (rI l)]).run=some (0,[.b b,.i ((m:Nat):Int),.r (rI l)])/\WOK m l/\nrm m l:=by
 rw[qcF];have h232:=h.le;obtain⟨j,qs,h1,rfl,m,rfl,h3,h4⟩:=q5w (S:=vU) (fun k ps=>ps=[.b b,.i (k:Int),.r (rI l)]/\WOK k l)
  (fun j qs=>j=0/\∃m:Nat,qs=[.b b,.i (m:Int),.r (rI l)]/\WOK m l/\nrm m l) (n:=n) (by omega) (fun k ps hk ⟨hps,hw⟩=>by
  subst hps;rw[qbB];have hk2:=hw.le;by_cases h0:k=0
  ·right;refine⟨0,_,?_,rfl,k,rfl,hw,.inl h0⟩;simp only[STD,h0];rfl
  ·have hs:q2k .i64 (k:Int) 1=((k-1:Nat):Int):=by rw[q1s (by omega)];omega
   have a1:(0:Int)<(k:Int):=by omega
   have a2:(0:Int)<=((k-1:Nat):Int)/\((k-1:Nat):Int)<232:=by omega
   by_cases hz:l.getD (k-1) 0=0
   ·left;refine⟨k-1,[.b b,.i ((k-1:Nat):Int),.r (rI l)],by omega,?_,rfl,hw.len,by omega,hw.dig,fun i hi=>?_⟩
    ·simp only[STD,a1,hs,a2,q3B,hz,and_self]
    ·rcases qFR hi with e|e
     ·rw[<-e];exact hz
     ·exact hw.z i (by omega)
   ·right;refine⟨0,[.b b,.i (k:Int),.r (rI l)],?_,rfl,k,rfl,hw,.inr hz⟩;simp only[STD,a1,hs,a2,q3B,hz,and_self]) (ps:=[.b b,.i (n:Int),.r (rI l)]) ⟨rfl,h⟩
 exact⟨m,by simp only[STD,h1],h3,h4⟩
theorem qDg (s:Int):∃q r:Int,s.tdiv 1000000000=q/\s=q*1000000000+r/\(0<=s->0<=r)/\(s<=0->r<=0)/\-1000000000<r/\r<1000000000:=by obtain⟨h1,h2,h3,h4⟩:=qtG s (show (1000000000:Int)≠0 by decide);refine⟨_,qlA s 1000000000,rfl,by omega,h3,h4,by omega,by omega⟩
theorem qu8 {f up rest:Int}{i n j:Nat}{l ly:List Int}{bx b2:Bool}{ny:Nat}{S:Int}(hj:((j:Nat):Int)=qO .i64 (i:Int) up)(hj2:j<232)(hw:WOK n l)(hin:i<233)(hS:S=if i<ny then l.getD j 0+rest+f*ly.getD i 0 else l.getD j 0+rest) (hr:-1000000000<=rest/\rest<=1000000000) (hfy:-999999999999999999<=f*ly.getD i 0/\f*ly.getD i 0<=999999999999999999) (hny:ny<=232)(hgo:i<ny\/rest≠0) :∃q s:Int,S=q*1000000000+s/\0<=s/\s<1000000000 /\(vE [.i f,.i up,.i rest,.i (i:Int),.b bx,.i (n:Int),.r (rI l),.b b2,.i (ny:Int),.r (rI ly)]).run=some (0,[.i f,.i up,.i q,.i ((i+1:Nat):Int),.b bx,.i ((max n (j+1):Nat):Int),.r (rI (l.set j s)),.b b2,.i (ny:Int),.r (rI ly)]):=by
 have hg:=hw.get j;obtain⟨q,r,e1,e2,e3,e4,e5,e6⟩:=qDg S;have hSb:-1000000000999999999<=S/\S<=1000000001999999998:=by rw[hS];split<;>omega
 have w1:qaQ .i64 S 1000000000=q:=by unfold qaQ;rw[e1];unfold IntKind.wrap;simp[IntKind.signed,IntKind.bits];omega
 have w2:vk .i64 q 1000000000=q*1000000000:=q6e (by omega);have w3:q2k .i64 S (q*1000000000)=r:=by rw[q1s (by omega)];omega
 have w4:qO .i64 (l.getD j 0) rest=l.getD j 0+rest:=jG (by omega);have w5:qO .i64 (i:Int) 1=((i+1:Nat):Int):=by rw[jG (by omega)];omega
 have w6:qO .i64 (j:Int) 1=((j+1:Nat):Int):=by rw[jG (by omega)];omega
 have w7:qqv (n:Int) ((j+1:Nat):Int)=((max n (j+1):Nat):Int):=qsW _ _;have a1:(0:Int)<=(j:Int)/\(j:Int)<232:=by omega
 have hw8:r<0->qO .i64 r 1000000000=r+1000000000:=fun _=>jG (by omega);have hw9:r<0->q2k .i64 q 1=q-1:=fun _=>q1s (by omega);rw[q5P];by_cases hi:i<ny
 ·rw[if_pos hi] at hS;have a2:(i:Int)<(ny:Int):=by omega
  have a3:(0:Int)<=(i:Int)/\(i:Int)<232:=by omega
  have w10:vk .i64 f (ly.getD i 0)=f*ly.getD i 0:=q6e (by omega);have w11:qO .i64 (l.getD j 0+rest) (f*ly.getD i 0)=S:=by rw[jG (by omega),hS]
  by_cases hneg:r<0
  ·refine⟨q-1,r+1000000000,by omega,by omega,by omega,?_⟩;simp only[STD,a2,<-hj,a1,a3,q3B,w4,w10,w11,w1,w2,w3,hneg,hw8 hneg,hw9 hneg,w5,w6,w7,qfg,and_self]
  ·refine⟨q,r,by omega,by omega,by omega,?_⟩;simp only[STD,a2,<-hj,a1,a3,q3B,w4,w10,w11,w1,w2,w3,hneg,w5,w6,w7,qfg,and_self]
 ·rw[if_neg hi] at hS;have hr0:rest≠0:=hgo.resolve_left hi;have a2:¬(i:Int)<(ny:Int):=by omega
  rw[<-hS] at w4;by_cases hneg:r<0
  ·refine⟨q-1,r+1000000000,by omega,by omega,by omega,?_⟩;simp only[STD,a2,hr0,<-hj,a1,q3B,w4,w1,w2,w3,hneg,hw8 hneg,hw9 hneg,w5,w6,w7,qfg,and_self]
  ·refine⟨q,r,by omega,by omega,by omega,?_⟩;simp only[STD,a2,hr0,<-hj,a1,q3B,w4,w1,w2,w3,hneg,w5,w6,w7,qfg,and_self]
theorem ql2 {f:Int}{up nx ny:Nat}{lx ly:List Int}(hx:WOK nx lx)(hy:WOK ny ly)(hf:-999999999<=f/\f<=999999999)(hup:ny+up<=232){T:Int}(hT:T=mv lx+f*mv ly*pB up)(h0:0<=T)(h1:T<pB 232)(bx b2:Bool) :∃(n:Nat) (l:List Int),(qY [.i f,.i (up:Int),.b bx,.i (nx:Int),.r (rI lx),.b b2,.i (ny:Int),.r (rI ly)]).run=some (0,[.b bx,.i (n:Int),.r (rI l),.b b2,.i (ny:Int),.r (rI ly)])/\WOK n l/\nrm n l/\mv l=T:=by
 rw[qfX];have hny:=hy.le;obtain⟨j,qs,g1,rfl,n,l,rfl,g3,g4⟩:=q5w (S:=vE) (fun k ps=>∃(i n:Nat) (rest:Int) (l:List Int),ps=[.i f,.i (up:Int),.i rest,.i (i:Int),.b bx,.i (n:Int),.r (rI l),.b b2,.i (ny:Int),.r (rI ly)] /\
   i+k=300/\i<=232/\WOK n l/\-1000000000<=rest/\rest<=1000000000/\mv l+rest*pB (i+up)+f*mv (ly.drop i)*pB (i+up)=T)
  (fun j qs=>j=0/\∃(n:Nat) (l:List Int),qs=[.b bx,.i (n:Int),.r (rI l),.b b2,.i (ny:Int),.r (rI ly)]/\WOK n l/\mv l=T) (n:=300) (by omega) (fun k ps hk ⟨i,n,rest,l,hps,hik,hi,hw,hr1,hr2,hv⟩=>by
  subst hps;have hg:=hy.get i;have hfy:=qwA (A:=999999999) (B:=999999999) hf.1 hf.2 (show -(999999999:Int)<=ly.getD i 0 by omega) (show ly.getD i 0<=999999999 by omega);have hbd:=hw.bd;have hn232:=hw.le;by_cases hgo:i<ny\/rest≠0
  ·left;have hj:i+up<232:=by
    rcases qEu i ny with h|h
    ·omega
    ·rcases qEu (i+up) 232 with h2|h2
     ·exact h2
     ·exfalso;have hr0:=hgo.resolve_left (by omega);rw[wR hy.dig hy.z h] at hv;have hP:=q9k h2;have hlt:=q9k hn232;simp only[qFo,Int.zero_mul,Int.add_zero] at hv;generalize pB (i+up)=P at *;rcases Int.lt_or_lt_of_ne hr0 with h3|h3
      ·have:rest*P<=-1*P:=qGd (by omega) (by have:=q8O 232;omega);omega
      ·have:1*P<=rest*P:=qGd (by omega) (by have:=q8O 232;omega);omega
   have hjw:(((i+up:Nat)):Int)=qO .i64 (i:Int) (up:Int):=by rw[jG (by omega)];omega
   obtain⟨q,s,s1,s2,s3,s4⟩:=qu8 (bx:=bx) (b2:=b2) (f:=f) (ly:=ly) hjw hj hw (by omega) rfl ⟨hr1,hr2⟩ (by omega) hny hgo;refine⟨k-1,_,by omega,s4,i+1,_,q,_,rfl,by omega,by omega,hw.setW hj ⟨s2,s3⟩,?_,?_,?_⟩
   ·have hgl:=hw.get (i+up);split at s1<;>omega
   ·have hgl:=hw.get (i+up);split at s1<;>omega
   ·have hjl:i+up<l.length:=by rw[hw.len];exact hj
    rw[qsn l (i+up) hjl,<-hv,show i+1+up=(i+up)+1 by omega,q83];rw[jW hjl] at s1;have hil:i<ly.length:=by rw[hy.len];omega
    rw[q9A hil];rw[jW hil] at s1;generalize pB (i+up)=P at *;generalize l[i+up]=d at *;by_cases hiny:i<ny
    ·rw[if_pos hiny] at s1;generalize ly[i]=y at *;generalize mv (ly.drop (i+1))=m at *;grind
    ·rw[if_neg hiny] at s1;have z1:ly[i]=0:=by rw[<-jW hil];exact hy.z i (by omega)
     rw[z1,wR hy.dig hy.z (show ny<=i+1 by omega)];grind
  ·right;have c1:¬i<ny:=fun h=>hgo (.inl h);have c2:rest=0:=Decidable.byContradiction fun h=>hgo (.inr h);refine⟨0,[.b bx,.i (n:Int),.r (rI l),.b b2,.i (ny:Int),.r (rI ly)],?_,rfl,n,l,rfl,hw,?_⟩
   ·rw[q5P];have a2:¬(i:Int)<(ny:Int):=by omega
    simp only[STD,a2,c2]
   ·rw[wR hy.dig hy.z (by omega),c2] at hv;simp only[qFo,Int.zero_mul,Int.add_zero] at hv;exact hv) (ps:=[.i f,.i (up:Int),.i 0,.i 0,.b bx,.i (nx:Int),.r (rI lx),.b b2,.i (ny:Int),.r (rI ly)])
  ⟨0,nx,0,lx,rfl,by omega,by omega,hx,by omega,by omega,by simp[hT]⟩
 obtain⟨m,t1,t2,t3⟩:=qgn g3 bx;exact⟨m,l,by simp only[STD,g1,t1],t2,t3,g4⟩
end Go.Eng

namespace Go.Eng
theorem q8L(l:List Int)(j:Nat)(h:j<=l.length):mv l=mv (l.take j)+pB j*mv (l.drop j):=by have:=qtc (l.take j) (l.drop j);rw[qGh,qFz,qFB h] at this;exact this
theorem qyl{l:List Int}(h:dgs l)(j:Nat):dgs (l.take j):=fun x hx=>h x (qGn hx)
theorem q7m{l:List Int}(h:dgs l)(j:Nat):0<=mv (l.take j)/\mv (l.take j)<pB j:=
 qtW (l.take j) j (qyl h j) fun i hi=>by rw[qEn,qEM (by simp;omega)];rfl
theorem qiQ{l:List Int}{i:Nat}(h:i<l.length):mv (l.take (i+1))=mv (l.take i)+l[i]*pB i:=by rw[List.take_succ_eq_append_getElem h,qtc,qFz,qFB (by omega)];simp only[mv];grind
theorem WOK.mono{n m:Nat}{l:List Int}(h:WOK n l)(hm:n<=m)(h2:m<=232):WOK m l:=⟨h.len,h2,h.dig,fun i hi=>h.z i (by omega)⟩
theorem qhj{n:Nat}{l:List Int}(h:WOK n l)(hn:nrm n l):(n=0)=(mv l=0):=by
 apply propext;constructor
 ·intro h0;have:=h.bd;rw[h0,q4C] at this;omega
 ·intro h0;rcases qFG n with h1|h1
  ·exact h1
  ·have:=h.lo hn (by omega);have:=q8O (n-1);omega
theorem qDy{n m:Nat}{l k:List Int}(h:WOK n l)(hn:nrm n l)(h2:WOK m k)(hle:mv l<=mv k):n<=m:=by
 rcases qEu m n with h3|h3
 ·exfalso;have h4:=h.lo hn (by omega);have h5:=h2.bd.2;have h6:=q9k (show m<=n-1 by omega);omega
 ·exact h3
theorem qt0{nx ny:Nat}{lx ly:List Int}(hx:WOK nx lx)(hnx:nrm nx lx)(hy:WOK ny ly)(hny:nrm ny ly)(bx b2:Bool) :∃r:Int,(wP [.b bx,.i (nx:Int),.r (rI lx),.b b2,.i (ny:Int),.r (rI ly)]).run=some (0,[.i r,.b bx,.i (nx:Int),.r (rI lx),.b b2,.i (ny:Int),.r (rI ly)])/\((0<=r)=(mv ly<=mv lx)):=by
 rw[qeo];have h1:=hx.le;have h2:=hy.le;by_cases hne:nx=ny
 ·subst hne;have hs:q2k .i64 (nx:Int) 1=(nx:Int)-1:=q1s (by omega);obtain⟨j,qs,g1,g2⟩:=q5w (S:=jp) (fun k ps=>ps=[.i ((k:Int)-1),.b bx,.i (nx:Int),.r (rI lx),.b b2,.i (nx:Int),.r (rI ly)]/\k<=nx/\mv (lx.drop k)=mv (ly.drop k))
   (fun j qs=>(j=0/\qs=[.b bx,.i (nx:Int),.r (rI lx),.b b2,.i (nx:Int),.r (rI ly)]/\mv lx=mv ly)\/(j=1/\∃r:Int,qs=[.i r,.b bx,.i (nx:Int),.r (rI lx),.b b2,.i (nx:Int),.r (rI ly)]/\((0<=r)=(mv ly<=mv lx)))) (n:=nx) (by omega) (fun k ps hk ⟨hps,hkn,hd⟩=>by
   subst hps;rw[qcz];by_cases h0:k=0
   ·right;refine⟨0,_,?_,.inl ⟨rfl,rfl,?_⟩⟩
    ·have a:¬(0:Int)<=(k:Int)-1:=by omega
     simp only[STD,a]
    ·rw[h0] at hd;simpa using hd
   ·obtain⟨i,rfl⟩:∃i,k=i+1:=⟨k-1,by omega⟩;have e:(((i+1:Nat):Int)-1)=(i:Int):=by omega
    rw[e];have a1:(0:Int)<=(i:Int):=by omega
    have a2:(i:Int)<232:=by omega
    have gx:=hx.get i;have gy:=hy.get i;have hxl:i<lx.length:=by rw[hx.len];omega
    have hyl:i<ly.length:=by rw[hy.len];omega
    by_cases hc:lx.getD i 0=ly.getD i 0
    ·left;refine⟨i,[.i ((i:Int)-1),.b bx,.i (nx:Int),.r (rI lx),.b b2,.i (nx:Int),.r (rI ly)],by omega,?_,rfl,by omega,?_⟩
     ·have w:q2k .i64 (i:Int) 1=(i:Int)-1:=q1s (by omega);simp only[STD,a1,a2,and_self,q3B,hc,w]
     ·rw[q9A hxl,q9A hyl,hd];rw[jW hxl,jW hyl] at hc;rw[hc]
    ·right;have w:q2k .i64 (lx.getD i 0) (ly.getD i 0)=lx.getD i 0-ly.getD i 0:=q1s (by omega);refine⟨1,[.i (lx.getD i 0-ly.getD i 0),.b bx,.i (nx:Int),.r (rI lx),.b b2,.i (nx:Int),.r (rI ly)],?_,.inr ⟨rfl,_,rfl,?_⟩⟩
     ·simp only[STD,a1,a2,and_self,q3B,hc,w]
     ·have sx:=q8L lx i (by omega);have sy:=q8L ly i (by omega);rw[q9A hxl] at sx;rw[q9A hyl] at sy;have tx:=q7m hx.dig i;have ty:=q7m hy.dig i;rw[jW hxl,jW hyl] at hc ⊢;rw[hd] at sx;have hp:=q8O i;generalize pB i=P at *;generalize lx[i]=u at *;generalize ly[i]=v at *;generalize mv (ly.drop (i+1))=w at *;have e1:P*(u+1000000000*w)=P*u+P*(1000000000*w):=Int.mul_add _ _ _;have e2:P*(v+1000000000*w)=P*v+P*(1000000000*w):=Int.mul_add _ _ _;have e3:P*(u-v)=P*u-P*v:=Int.mul_sub _ _ _;apply propext;rcases Int.lt_or_lt_of_ne (show u-v≠0 by omega) with h|h
      ·have:P*(u-v)<=P*(-1):=qGz (by omega) (by omega);constructor
       ·intro;omega
       ·intro;omega
      ·have:P*1<=P*(u-v):=qGz (by omega) (by omega);constructor
       ·intro;omega
       ·intro;omega) (ps:=[.i ((nx:Int)-1),.b bx,.i (nx:Int),.r (rI lx),.b b2,.i (nx:Int),.r (rI ly)])
   ⟨rfl,qEo _,by rw[wR hx.dig hx.z (qEo _),wR hy.dig hy.z (qEo _)]⟩
  rcases g2 with⟨rfl,rfl,g2⟩|⟨rfl,r,rfl,g2⟩
  ·refine⟨0,?_,?_⟩
   ·simp only[STD,hs,g1,zJ g1]
   ·apply propext;simp;omega
  ·refine⟨r,?_,g2⟩;simp only[STD,hs,g1,zJ g1,show ¬(1=0) by omega]
 ·have hs:q2k .i64 (nx:Int) (ny:Int)=(nx:Int)-(ny:Int):=q1s (by omega);refine⟨(nx:Int)-(ny:Int),?_,?_⟩
  ·have a:¬(nx:Int)=(ny:Int):=by omega
   simp only[STD,a,hs]
  ·apply propext;have b1:=hx.bd;have b2:=hy.bd;rcases Nat.lt_or_gt_of_ne hne with h|h
   ·have:=hy.lo hny (by omega);have:=q9k (show nx<=ny-1 by omega);constructor
    ·intro;omega
    ·intro;omega
   ·have:=hx.lo hnx (by omega);have:=q9k (show ny<=nx-1 by omega);constructor
    ·intro;omega
    ·intro;omega
def sv(b:Bool)(l:List Int):Int:=if b then -mv l else mv l
theorem qzL{nx ny:Nat}{lx ly:List Int}(hx:WOK nx lx)(hnx:nrm nx lx)(hy:WOK ny ly)(hny:nrm ny ly)(hb:mv lx+mv ly<pB 232)(bx b2:Bool) :∃(b:Bool) (n:Nat) (l:List Int),(wZ [.b bx,.i (nx:Int),.r (rI lx),.b b2,.i (ny:Int),.r (rI ly)]).run=some (0,[.b b,.i (n:Int),.r (rI l),.b b2,.i (ny:Int),.r (rI ly)])/\WOK n l/\nrm n l/\sv b l=sv bx lx+sv b2 ly:=by
 rw[qgh];have h1:=hx.bd;have h2:=hy.bd;have l1:=hx.le;have l2:=hy.le;by_cases hs:bx=b2
 ·subst hs;obtain⟨n,l,g1,g2,g3,g4⟩:=ql2 (f:=1) (up:=0) hx hy (by omega) (by omega) (T:=mv lx+mv ly) (by rw[q4C];omega) (by omega) hb bx bx;refine⟨bx,n,l,?_,g2,g3,?_⟩
  ·simp only[STD,show ((0:Nat):Int)=0 from rfl] at g1 ⊢;simp only[STD,g1]
  ·unfold sv;rw[g4];cases bx<;>simp<;>omega
 ·obtain⟨r,r1,r2⟩:=qt0 hx hnx hy hny bx b2;by_cases hr:mv ly<=mv lx
  ·have hr':0<=r:=by rw[r2];exact hr
   obtain⟨n,l,g1,g2,g3,g4⟩:=ql2 (f:=-1) (up:=0) hx hy (by omega) (by omega) (T:=mv lx-mv ly) (by rw[q4C];omega) (by omega) (by omega) bx b2;refine⟨bx,n,l,?_,g2,g3,?_⟩
   ·simp only[show ((0:Nat):Int)=0 from rfl] at g1;simp only[STD,hs,r1,hr',g1]
   ·unfold sv;rw[g4];cases bx<;>cases b2<;>simp_all<;>omega
  ·have hr':¬0<=r:=by rw[r2];exact hr
   obtain⟨n,l,g1,g2,g3,g4⟩:=ql2 (f:=-1) (up:=0) hy hx (by omega) (by omega) (T:=mv ly-mv lx) (by rw[q4C];omega) (by omega) (by omega) b2 bx;refine⟨b2,n,l,?_,g2,g3,?_⟩
   ·simp only[show ((0:Nat):Int)=0 from rfl] at g1;simp only[STD,hs,r1,hr',g1]
   ·unfold sv;rw[g4];cases bx<;>cases b2<;>simp_all<;>omega
theorem qx3{x y:Int}{m n:Nat}(h0:0<=x)(h1:x<pB m)(h2:0<=y)(h3:y<=pB n):x*y<pB (m+n)\/y=0:=by
 rcases Int.lt_or_eq_of_le h2 with h|h
 ·left;rw[qC5];have e1:x*y<pB m*y:=Int.mul_lt_mul_of_pos_right h1 h;have e2:pB m*y<=pB m*pB n:=qGz h3 (by omega);omega
 ·exact .inr h.symm
theorem qBq{nx ny:Nat}{lx ly:List Int}(hx:WOK nx lx)(hy:WOK ny ly)(hb:nx+ny<=232)(bx b2:Bool) :∃(n:Nat) (l:List Int),(ui [.b bx,.i (nx:Int),.r (rI lx),.b b2,.i (ny:Int),.r (rI ly)]).run=some (0,[.b bx,.i (nx:Int),.r (rI lx),.b b2,.i (ny:Int),.r (rI ly),.b (!(Go.Eng.beq bx b2)),.i (n:Int),.r (rI l)])/\WOK n l/\nrm n l/\mv l=mv lx*mv ly:=by
 rw[qfb];have hbx:=hx.bd;have e0:q55 232 [.i 0]=rI (List.replicate 232 0):=qnw 232 0;obtain⟨j,qs,g1,rfl,n,l,rfl,g2,g3,g4⟩:=q5w (S:=jL) (fun k ps=>∃(i n:Nat) (l:List Int),ps=[.i (ny:Int),.i (i:Int),.b bx,.i (nx:Int),.r (rI lx),.b b2,.i (ny:Int),.r (rI ly),.b (!(Go.Eng.beq bx b2)),.i (n:Int),.r (rI l)] /\
   i+k=ny/\WOK n l/\nrm n l/\mv l=mv lx*mv (ly.take i))
  (fun j qs=>j=0/\∃(n:Nat) (l:List Int),qs=[.b bx,.i (nx:Int),.r (rI lx),.b b2,.i (ny:Int),.r (rI ly),.b (!(Go.Eng.beq bx b2)),.i (n:Int),.r (rI l)]/\WOK n l/\nrm n l/\mv l=mv lx*mv ly) (n:=ny) (by omega) (fun k ps hk ⟨i,n,l,hps,hik,hw,hn,hv⟩=>by
  subst hps;rw[qda];by_cases hi:i<ny
  ·left;have hil:i<ly.length:=by rw[hy.len];omega
   have gy:=hy.get i;have tb:=q7m hy.dig i;have tb2:=q7m hy.dig (i+1);have hT:mv lx*mv (ly.take (i+1))=mv l+ly.getD i 0*mv lx*pB i:=by rw[qiQ hil,hv,jW hil];grind
   have hlt:mv lx*mv (ly.take (i+1))<pB 232:=by
    rcases qx3 (n:=i+1) hbx.1 hbx.2 tb2.1 (by omega) with h|h
    ·exact Int.lt_of_lt_of_le h (q9k (by omega))
    ·rw[h,qFo];exact q8O _
   obtain⟨n',l',c1,c2,c3,c4⟩:=ql2 (f:=ly.getD i 0) (up:=i) hw hx (by omega) (by omega) hT (qGb hbx.1 tb2.1) hlt (!(Go.Eng.beq bx b2)) bx;have w:qO .i64 (i:Int) 1=((i+1:Nat):Int):=by rw[jG (by omega)];omega
   refine⟨k-1,_,by omega,?_,i+1,n',l',rfl,by omega,c2,c3,c4⟩;have a1:(i:Int)<(ny:Int):=by omega
   have a2:(0:Int)<=(i:Int)/\(i:Int)<232:=by omega
   simp only[STD,a1,a2,and_self,q3B,c1,w]
  ·right;have hi2:i=ny:=by omega
   have a1:¬(i:Int)<(ny:Int):=by omega
   refine⟨0,[.b bx,.i (nx:Int),.r (rI lx),.b b2,.i (ny:Int),.r (rI ly),.b (!(Go.Eng.beq bx b2)),.i (n:Int),.r (rI l)],?_,rfl,n,l,rfl,hw,hn,?_⟩
   ·simp only[STD,a1]
   ·have:=q8L ly ny (by rw[hy.len];exact hy.le);rw[wR hy.dig hy.z (qEo _),qFo,Int.add_zero] at this;rw[hv,hi2,<-this])
  (ps:=[.i (ny:Int),.i 0,.b bx,.i (nx:Int),.r (rI lx),.b b2,.i (ny:Int),.r (rI ly),.b (!(Go.Eng.beq bx b2)),.i 0,.r (rI (List.replicate 232 0))])
  ⟨0,0,_,rfl,by omega,WOK.zero,.inl rfl,by rw[qb9];simp[mv]⟩
 refine⟨n,l,?_,g2,g3,g4⟩;simp only[e0];simp only[STD,g1]
theorem qu7{nx ny:Nat}{lx ly:List Int}(hx:WOK nx lx)(hnx:nrm nx lx)(hy:WOK ny ly)(hny:nrm ny ly)(h0:ny≠0)(hle:mv ly<=mv lx)(hlt:mv lx<pB (ny+1))(hn231:ny<=231)(bx b2:Bool) :∃k:Int,(q0B [.b bx,.i (nx:Int),.r (rI lx),.b b2,.i (ny:Int),.r (rI ly)]).run=some (0,[.i k,.b bx,.i (nx:Int),.r (rI lx),.b b2,.i (ny:Int),.r (rI ly)])/\1<=k/\k<=999999999/\k*mv ly<=mv lx:=by
 rw[qi8];obtain⟨m,rfl⟩:∃m,ny=m+1:=⟨ny-1,by omega⟩;have hxl:=hx.len;have hyl:=hy.len;have hnx1:m+1<=nx:=qDy hy hny hx hle;have hnx2:nx<=m+2:=by
  rcases qEu (m+2) nx with h|h
  ·exfalso;have h1:=hx.lo hnx (by omega);have h2:=q9k (show m+1+1<=nx-1 by omega);omega
  ·exact h
 have gx1:=hx.get m;have gx2:=hx.get (m+1);have gy:=hy.get m;have sx:=q8L lx m (by omega);have sy:=q8L ly m (by omega);rw[q9A (show m<lx.length by omega),q9A (show m+1<lx.length by omega),wR hx.dig hx.z (show nx<=m+1+1 by omega)] at sx;rw[q9A (show m<ly.length by omega),wR hy.dig hy.z (qEo _)] at sy;have tx:=q7m hx.dig m;have ty:=q7m hy.dig m;have hyn:ly.getD m 0≠0:=by
  rcases hny with h|h
  ·omega
  ·simpa using h
 have w1:q2k .i64 ((m+1:Nat):Int) 1=(m:Int):=by rw[q1s (by omega)];omega
 have c1:¬((m+1:Nat):Int)<0:=by omega
 have c2:¬(nx:Int)<=(m:Int):=by omega
 have c3:¬(m:Int)<0:=by omega
 have c4:¬((m+1:Nat):Int)<=(m:Int):=by omega
 have c5:(0:Int)<=(m:Int)/\(m:Int)<232:=by omega
 have c6:(0:Int)<=((m+1:Nat):Int)/\((m+1:Nat):Int)<232:=by omega
 have gex:lx[m]'(by omega)=lx.getD m 0:=(jW (by omega)).symm;have gex1:lx[m+1]'(by omega)=lx.getD (m+1) 0:=(jW (by omega)).symm;have gey:ly[m]'(by omega)=ly.getD m 0:=(jW (by omega)).symm;rw[gex,gex1] at sx;rw[gey] at sy;have hp:=q8O m;have key:∀a b:Int,a=lx.getD m 0+1000000000*lx.getD (m+1) 0->0<b->mv ly<=b*pB m->∀k,k=a/b->k*mv ly<=mv lx/\qg2 k 999999999*mv ly<=mv lx:=by
  intro a b ha hb hbY k hk;have hk0:0<=k:=by rw[hk];exact Int.ediv_nonneg (by omega) (by omega)
  have hkb:k*b<=a:=by rw[hk];exact Int.ediv_mul_le a (by omega)
  have hY:=(hy.bd).1;have f1:k*mv ly<=k*(b*pB m):=qGz hbY hk0;have f2:k*b*pB m<=a*pB m:=qGd hkb (by omega);have f3:k*(b*pB m)=k*b*pB m:=(Int.mul_assoc _ _ _).symm;have f4:a*pB m=pB m*(lx.getD m 0+1000000000*(lx.getD (m+1) 0+1000000000*0)):=by rw[ha];grind
  have f5:k*mv ly<=mv lx:=by omega
  refine⟨f5,?_⟩;have:qg2 k 999999999<=k:=by unfold qg2;split<;>omega
  have:=qGd this hY;omega
 have wq:∀a b:Int,0<=a->a<1000000000000000000->0<b->qaQ .i64 a b=a/b:=by intro a b h1 h2 h3;unfold qaQ;rw[Int.tdiv_eq_ediv_of_nonneg h1];have q1:0<=a/b:=Int.ediv_nonneg h1 (by omega);have q2:a/b<=a:=Int.ediv_le_self _ h1;generalize a/b=q at *;unfold IntKind.wrap;simp[IntKind.signed,IntKind.bits];omega
 have fin:∀k:Int,(0<k->k*mv ly<=mv lx/\qg2 k 999999999*mv ly<=mv lx)->∃k':Int,(if 0<k then qg2 k 999999999 else 1)=k'/\1<=k'/\k'<=999999999/\k'*mv ly<=mv lx:=by
  intro k hk;by_cases h:0<k
  ·rw[if_pos h];refine⟨_,rfl,?_,?_,(hk h).2⟩
   ·unfold qg2;split<;>omega
   ·unfold qg2;split<;>omega
  ·rw[if_neg h];exact⟨1,rfl,by omega,by omega,by omega⟩
 by_cases hcase:nx<=m+1
 ·have c7:(nx:Int)<=((m+1:Nat):Int):=by omega
  have z1:lx.getD (m+1) 0=0:=hx.z _ (by omega);have wa:qO .i64 0 (lx.getD m 0)=lx.getD m 0:=by rw[jG (by omega)];omega
  by_cases hm:m=0
  ·subst hm;have c8:¬(1:Int)<((0+1:Nat):Int):=by omega
   have hq:=wq (lx.getD 0 0) (ly.getD 0 0) (by omega) (by omega) (by omega);have hbY:mv ly<=ly.getD 0 0*pB 0:=by rw[q4C] at sy ty ⊢;omega
   obtain⟨k',f1,f2,f3,f4⟩:=fin (lx.getD 0 0/ly.getD 0 0) (fun _=>key _ _ (by rw[z1];omega) (by omega) hbY _ rfl);refine⟨k',?_,f2,f3,f4⟩;rw[<-f1];simp only[STD,c1,w1,c2,c3,c4,c5,c6,c7,c8,and_self,q3B,wa,hyn,hq];split<;>rfl
  ·have c8:(1:Int)<((m+1:Nat):Int):=by omega
   have wb:qO .i64 (ly.getD m 0) 1=ly.getD m 0+1:=jG (by omega);have hq:=wq (lx.getD m 0) (ly.getD m 0+1) (by omega) (by omega) (by omega);have hbY:mv ly<=(ly.getD m 0+1)*pB m:=by
    have:(ly.getD m 0+1)*pB m=pB m*(ly.getD m 0+1000000000*0)+pB m:=by grind
    omega
   obtain⟨k',f1,f2,f3,f4⟩:=fin (lx.getD m 0/(ly.getD m 0+1)) (fun _=>key _ _ (by rw[z1];omega) (by omega) hbY _ rfl);refine⟨k',?_,f2,f3,f4⟩;rw[<-f1];have hne:¬ly.getD m 0+1=0:=by omega
   simp only[STD,c1,w1,c2,c3,c4,c5,c6,c7,c8,and_self,q3B,wa,wb,hne,hq];split<;>rfl
 ·have c7:¬(nx:Int)<=((m+1:Nat):Int):=by omega
  have wm:vk .i64 (lx.getD (m+1) 0) 1000000000=lx.getD (m+1) 0*1000000000:=q6e (by omega);have wa:qO .i64 (lx.getD (m+1) 0*1000000000) (lx.getD m 0)=lx.getD (m+1) 0*1000000000+lx.getD m 0:=jG (by omega);by_cases hm:m=0
  ·subst hm;have c8:¬(1:Int)<((0+1:Nat):Int):=by omega
   have hq:=wq (lx.getD (0+1) 0*1000000000+lx.getD 0 0) (ly.getD 0 0) (by omega) (by omega) (by omega);have hbY:mv ly<=ly.getD 0 0*pB 0:=by rw[q4C] at sy ty ⊢;omega
   obtain⟨k',f1,f2,f3,f4⟩:=fin ((lx.getD (0+1) 0*1000000000+lx.getD 0 0)/ly.getD 0 0) (fun _=>key _ _ (by omega) (by omega) hbY _ rfl);refine⟨k',?_,f2,f3,f4⟩;rw[<-f1];simp only[STD,c1,w1,c2,c3,c4,c5,c6,c7,c8,and_self,q3B,wm,wa,hyn,hq];split<;>rfl
  ·have c8:(1:Int)<((m+1:Nat):Int):=by omega
   have wb:qO .i64 (ly.getD m 0) 1=ly.getD m 0+1:=jG (by omega);have hq:=wq (lx.getD (m+1) 0*1000000000+lx.getD m 0) (ly.getD m 0+1) (by omega) (by omega) (by omega);have hbY:mv ly<=(ly.getD m 0+1)*pB m:=by
    have:(ly.getD m 0+1)*pB m=pB m*(ly.getD m 0+1000000000*0)+pB m:=by grind
    omega
   obtain⟨k',f1,f2,f3,f4⟩:=fin ((lx.getD (m+1) 0*1000000000+lx.getD m 0)/(ly.getD m 0+1)) (fun _=>key _ _ (by omega) (by omega) hbY _ rfl);refine⟨k',?_,f2,f3,f4⟩;rw[<-f1];have hne:¬ly.getD m 0+1=0:=by omega
   simp only[STD,c1,w1,c2,c3,c4,c5,c6,c7,c8,and_self,q3B,wm,wa,wb,hne,hq];split<;>rfl
theorem qA8(u:Nat):Lib.decDigits u=tN u:=by
 induction u using Nat.strongRecOn with
 | _ u ih=>
  rw[Lib.decDigits];split
  ·rename_i h;rw[qp6 h];rfl
  ·rename_i h;rw[ih (u/10) (by omega)];exact(qqD (n:=u) (by omega)).symm
theorem qqF(n:Int):Lib.itoa n=tI n:=by
 unfold Lib.itoa;by_cases h:n<0
 ·rw[if_pos h,qA8,q95 h]
 ·rw[if_neg h,qA8,qfM h];congr 1;omega
theorem qCw(n:Int)(h:-9223372036854775808<=n/\n<=9223372036854775807):(q2J [.i n]).run=some (0,[.s (tI n)]):=by show (qxj [.i n]).run=_;unfold qxj;simp only;rw[if_pos h,qqF];rfl
theorem qoZ{c:UInt8}(h:48<=c.toNat/\c.toNat<=57):Lib.digitVal c=some (dv c):=by
 unfold Lib.digitVal dv
 simp_all
theorem qkN:∀{s:qEl} (a:Nat),qc7 s->Lib.decFrom a s=some (a*10^s.length+val s)
 | [],a,_=>by simp[Lib.decFrom,val]
 | c::s,a,h=>by
  obtain⟨h1,h2⟩:=q2u.1 h;rw[Lib.decFrom,qoZ h1];simp only;rw[qkN _ h2,q93,qF3,qG1];congr 1;grind
theorem qmH{s:qEl}(h:qc7 s)(hn:s≠[]):Lib.decNat s=some (val s):=by unfold Lib.decNat;rw[if_neg (by simpa using hn),qkN 0 h];simp
theorem qpt{s:qEl}(h:qc7 s)(hn:s≠[]):Lib.atoi s=some (val s:Int):=by
 obtain⟨c,t,e,h1,h2⟩:=qdY h hn;rw[e] at h ⊢;have n1:(c==45)=false:=by rw[beq_eq_false_iff_ne];intro hc;subst hc;revert h1;decide
 have n2:(c==43)=false:=by rw[beq_eq_false_iff_ne];intro hc;subst hc;revert h1;decide
 unfold Lib.atoi;simp only[n1,n2,qEY,if_false];rw[qmH h (by simp)];rfl
theorem qxG(m:Int):Lib.atoi (tI m)=some m:=by
 by_cases h:m<0
 ·rw[q95 h];unfold Lib.atoi;simp only[beq_self_eq_true,if_true];rw[qmH (jV _) (qjM _),q4Q];simp;omega
 ·rw[qfM h,qpt (jV _) (qjM _),q4Q];congr 1;omega
theorem qwr{s:qEl}{n:Int}(hl:s.length<=18)(h:Lib.atoi s=some n):(jj [.s s]).run=some (0,[.i n]):=by show (qx4 [.s s]).run=_;unfold qx4;simp only;rw[if_pos hl,h];rfl
theorem qsB:∀s:List UInt8,Lib.indexByte s 47=if sP s<s.length then (sP s:Int) else -1
 | []=>by simp[Lib.indexByte,sP]
 | c::s=>by
  have ih:=qsB s;have hle:=qB8 s;unfold Lib.indexByte;by_cases h:c=47
  ·subst h;have:sP (47::s)=0:=qD8 (by simp) (by simp) (fun j hj=>by omega);rw[this];simp
  ·have hc:(c==47)=false:=by simpa using h
   have e:sP (c::s)=sP s+1:=by unfold sP;rw[List.findIdx_cons,hc];rfl
   rw[e];generalize sP s=k at *;have el:(c::s).length=s.length+1:=rfl;simp only[hc,el,ih,qEY,if_false];grind
theorem qBJ(s:qEl):(v7 [.s s,.s [47]]).run=some (0,[.i (if sP s<s.length then (sP s:Int) else -1)]):=by show (qqr [.s s,.s [47]]).run=_;unfold qqr;simp only;rw[<-qsB];rfl
theorem qsq:∀{s t:qEl},qc7 s->qc7 t->s.length=t.length->Lib.compareBytes s t=sgn ((val s:Int)-(val t:Int))
 | [],[],_,_,_=>by simp[Lib.compareBytes,val,sgn]
 | [],_::_,_,_,h=>by simp at h
 | _::_,[],_,_,h=>by simp at h
 | a::s,b::t,hs,ht,h=>by
  obtain⟨h1,h2⟩:=q2u.1 hs;obtain⟨h3,h4⟩:=q2u.1 ht;have hl:s.length=t.length:=by simpa using h
  have ih:=qsq h2 h4 hl;have v1:=qdp h2;have v2:=qdp h4;unfold Lib.compareBytes;rw[q93,q93,hl];rw[hl] at v1;have hp:0<10^t.length:=Nat.pow_pos (by omega);generalize 10^t.length=P at *;unfold dv;by_cases c1:a.toNat<b.toNat
  ·rw[if_pos (show a<b from c1)];have:(a.toNat-48+1)*P<=(b.toNat-48)*P:=qER _ (by omega);rw[qEJ,qG6] at this;unfold sgn;rw[if_pos (by omega)]
  ·rw[if_neg (show ¬a<b from c1)];by_cases c2:b.toNat<a.toNat
   ·rw[if_pos (show b<a from c2)];have:(b.toNat-48+1)*P<=(a.toNat-48)*P:=qER _ (by omega);rw[qEJ,qG6] at this;unfold sgn;rw[if_neg (by omega),if_neg (by omega)]
   ·rw[if_neg (show ¬b<a from c2),ih];have:a.toNat=b.toNat:=by omega
    rw[this];congr 1;omega
theorem qu6{s t:qEl}(hs:qc7 s)(ht:qc7 t)(h:s.length=t.length):(q1F [.s s,.s t]).run=some (0,[.i (sgn ((val s:Int)-(val t:Int)))]):=by show (qjD [.s s,.s t]).run=_;unfold qjD;simp only;rw[qsq hs ht h];rfl
def qx5:List UInt8:=[48,49,50,51,52,53,54,55,56,57]
theorem qsr(c:UInt8):(qx5.contains c=true)↔(48<=c.toNat/\c.toNat<=57):=by
 constructor
 ·intro h;simp only[qx5,List.contains_eq_mem,qEt,qGu,or_false,decide_eq_true_eq] at h;rcases h with rfl|rfl|rfl|rfl|rfl|rfl|rfl|rfl|rfl|rfl<;>decide
 ·rintro ⟨h1,h2⟩;have hk:∃k,c=UInt8.ofNat k/\48<=k/\k<=57:=⟨c.toNat,by simp,h1,h2⟩;obtain⟨k,rfl,k1,k2⟩:=hk;have:k=48\/k=49\/k=50\/k=51\/k=52\/k=53\/k=54\/k=55\/k=56\/k=57:=by omega
  rcases this with rfl|rfl|rfl|rfl|rfl|rfl|rfl|rfl|rfl|rfl<;>decide
theorem q6P{p:UInt8->Bool}:∀{l:qEl},l.dropWhile p=[]↔∀x,x∈l->p x=true
 | []=>by simp
 | a::l=>by
  rw[List.dropWhile_cons];by_cases h:p a=true
  ·rw[if_pos h,q6P];simp[h]
  ·rw[if_neg h];simp[h]
theorem qec(s:qEl):(Lib.trimS s qx5=[])=qc7 s:=by
 apply propext;unfold Lib.trimS Lib.trimLeftS Lib.trimRightS;constructor
 ·intro h;have h1:∀c,c∈(s.reverse.dropWhile (qx5.contains ·)).reverse->qx5.contains c=true:=by intro c hc;have:=q6P.1 h c hc;simpa using this
  have h2:s.reverse.dropWhile (qx5.contains ·)=[]:=by
   cases hd:s.reverse.dropWhile (qx5.contains ·) with
   | nil=>rfl
   | cons c t=>
    exfalso;have h3:=List.head_dropWhile_not (p:=(qx5.contains ·)) (l:=s.reverse) (by rw[hd];simp);simp only[hd,List.head_cons] at h3;have:=h1 c (by rw[hd];simp);rw[this] at h3;cases h3
  intro c hc;have:=q6P.1 h2 c (by simpa using hc);exact(qsr c).1 (by simpa using this)
 ·intro h;have h2:s.reverse.dropWhile (qx5.contains ·)=[]:=by rw[q6P];intro c hc;exact(qsr c).2 (h c (by simpa using hc))
  rw[h2];rfl
theorem qCI(s:qEl)(hl:s.length<=9223372036854775807):(q5q [.s s,.s [48,49,50,51,52,53,54,55,56,57]]).run=some (0,[.s (Lib.trimS s qx5)]):=by show (qxF [.s s,.s qx5]).run=_;unfold qxF;simp only;rw[if_pos ⟨hl,by decide,by decide⟩];rfl
variable {n:Nat}
theorem qvS (n:Nat):pB n=((10^(9*n):Nat):Int):=by unfold pB;rw[Nat.pow_mul];simp
theorem qtM:∀k:Nat,k<=9->qg1 [48,48,48,48,48,48,48,48,48] (k:Int) 9=List.replicate (9-k) 48
 | 0,_=>rfl
 | 1,_=>rfl
 | 2,_=>rfl
 | 3,_=>rfl
 | 4,_=>rfl
 | 5,_=>rfl
 | 6,_=>rfl
 | 7,_=>rfl
 | 8,_=>rfl
 | 9,_=>rfl
 | n+10,h=>by omega
theorem qAN {v:Nat}(h:v<1000000000):qc7 (qvP (tN v))/\(qvP (tN v)).length=9/\val (qvP (tN v))=v:=by
 have hl:(tN v).length<=9:=q0D 8 v (by omega);have e:qvP (tN v)=List.replicate (9-(tN v).length) 48++tN v:=by unfold qvP qjo;rw[show zp (tN v)=((tN v).length:Int) from rfl,qtM _ hl]
 rw[e];refine⟨qgR.2 ⟨qtU _,jV v⟩,by simp;omega,by rw[qwK,q4Q]⟩
theorem qmZ{l:List Int}(hl:l.length=232)(hd:dgs l):∀i:Nat,i<=232->qc7 (qha (rI l) i)/\(qha (rI l) i).length=9*i/\((val (qha (rI l) i):Nat):Int)=mv (l.take i)
 | 0,_=>⟨qym,rfl,by simp[qha,qom,mv]⟩
 | i+1,h=>by
  obtain⟨h1,h2,h3⟩:=qmZ hl hd i (by omega);have hil:i<l.length:=by omega
  have hg:=hd _ (qFp hil);have e:cI (rI l) (i:Int) 0=l[i]:=by rw[q3B,jW hil]
  have e2:Lib.itoa l[i]=tN l[i].toNat:=by rw[qqF,qfM (by omega)];congr 1;omega
  obtain⟨p1,p2,p3⟩:=qAN (v:=l[i].toNat) (by omega);unfold qha;rw[e,e2];refine⟨qgR.2 ⟨p1,h1⟩,by rw[qEL,p2,h2];omega,?_⟩;rw[qoB,p3,h2,qiQ hil,qvS];simp only[Int.natCast_add,qFT,h3];rw[qG7 hg.1];omega
theorem qyf {l:List Int}(h:WOK n l)(hn:nrm n l)(b:Bool):qwu b (n:Int) (rI l)=tI (sv b l):=by
 unfold qwu;by_cases h0:n=0
 ·have h1:mv l=0:=by rw[<-qhj h hn];exact h0
  rw[if_pos (by omega)];unfold sv;rw[h1];cases b<;>rfl
 ·rw[if_neg (by omega)];obtain⟨m,rfl⟩:∃m,n=m+1:=⟨n-1,by omega⟩;have hle:=h.le;have hml:m<l.length:=by rw[h.len];omega
  have e1:(((m+1:Nat):Int)-1)=(m:Int):=by omega
  rw[e1,qEK,q3B,jW hml];have hg:=h.dig _ (qFp hml);have e2:Lib.itoa l[m]=tN l[m].toNat:=by rw[qqF,qfM (by omega)];congr 1;omega
  obtain⟨t1,t2,t3⟩:=qmZ h.len h.dig m (by omega);have hnz:l[m]≠0:=by
   rcases hn with hn|hn
   ·omega
   ·rw[Nat.add_sub_cancel,jW hml] at hn;exact hn
  have hlo:=h.lo hn h0;have hp:=q8O m;simp only[Nat.add_sub_cancel] at hlo;have hv:((val (tN l[m].toNat++qha (rI l) m):Nat):Int)=mv l:=by rw[qoB,q4Q,t2,q8L l m (by omega),q9A hml,wR h.dig h.z (qEo _),qvS];simp only[Int.natCast_add,qFT,t3];rw[qG7 hg.1];grind
  have hT:tN l[m].toNat++qha (rI l) m=tN (mv l).toNat:=by
   have hd:qc7 (tN l[m].toNat++qha (rI l) m):=qgR.2 ⟨jV _,t1⟩;have hne:tN l[m].toNat++qha (rI l) m≠[]:=by simp[qjM]
   have hz:(tN l[m].toNat++qha (rI l) m).getD 0 0≠48:=by
    have hv0:=q4Q l[m].toNat;have hd0:=jV l[m].toNat;rcases qvC l[m].toNat with h1|h1
    ·obtain⟨c,e⟩:=List.length_eq_one_iff.1 h1;rw[e] at hv0 ⊢;simp only[qFu,List.getD_cons_zero];intro hc;subst hc;rw[qqM] at hv0;simp[dv] at hv0;omega
    ·obtain⟨c,t,e,_⟩:=qdY hd0 (qjM _);rw[e] at h1 ⊢;simpa using h1
   have:=qrB hd hne (.inr hz);rw[this];congr 1;omega
  rw[e2,qF0,hT];unfold sv;cases b
  ·rw[if_neg (by simp),if_neg (by simp),qfM (by omega)];simp;congr 1;omega
  ·rw[if_pos rfl,if_pos rfl,q95 (by omega)];simp;congr 1;omega
theorem qui {l:List Int}(h:WOK n l):qoe (n:Int) (rI l)=true:=by unfold qoe;have:=h.le;simp only[qED,decide_eq_true_eq,qEU,qFv];refine⟨⟨by omega,by omega⟩,fun i _=>?_⟩;have:=h.get i;rw[q3B];exact this
theorem qsX {l:List Int}(h:WOK n l)(hn:nrm n l)(b:Bool):(zj [.b b,.i (n:Int),.r (rI l)]).run=some (0,[.s (tI (sv b l)),.b b,.i (n:Int),.r (rI l)]):=by show (qws [.b b,.i (n:Int),.r (rI l)]).run=_;unfold qws;simp only;rw[if_pos (qui h),qyf h hn];rfl
end Go.Eng

namespace Go.Eng
theorem qyn{nr ny:Nat}{lr ly:List Int}(hr:WOK nr lr)(hnr:nrm nr lr)(hy:WOK ny ly)(hny:nrm ny ly)(h0:ny≠0)(hy231:ny<=231)(hlt:mv lr<mv ly*1000000000)(y0:Int)(xb:Bool)(xi:Int)(xr:R)(b2 qb:Bool)(qi:Int)(qr:R)(br:Bool) :∃(d:Int) (n:Nat) (l:List Int),(qh jC [.i y0,.i 0,.b xb,.i xi,.r xr,.b b2,.i (ny:Int),.r (rI ly),.b qb,.i qi,.r qr,.b br,.i (nr:Int),.r (rI lr)]).run = some (0,[.i y0,.i d,.b xb,.i xi,.r xr,.b b2,.i (ny:Int),.r (rI ly),.b qb,.i qi,.r qr,.b br,.i (n:Int),.r (rI l)])/\WOK n l/\nrm n l/\0<=d/\d<1000000000/\mv lr=d*mv ly+mv l/\mv l<mv ly:=by
 have hyp:0<mv ly:=by have:=hy.lo hny h0;have:=q8O (ny-1);omega
 have hyb:=hy.bd;obtain⟨j,qs,g1,rfl,d,n,l,rfl,g2⟩:=q5w (S:=jC) (fun k ps=>∃(d:Int) (n:Nat) (l:List Int),ps=[.i y0,.i d,.b xb,.i xi,.r xr,.b b2,.i (ny:Int),.r (rI ly),.b qb,.i qi,.r qr,.b br,.i (n:Int),.r (rI l)] /\
   WOK n l/\nrm n l/\0<=d/\d+k=1000000000/\mv lr=d*mv ly+mv l)
  (fun j qs=>j=0/\∃(d:Int) (n:Nat) (l:List Int),qs=[.i y0,.i d,.b xb,.i xi,.r xr,.b b2,.i (ny:Int),.r (rI ly),.b qb,.i qi,.r qr,.b br,.i (n:Int),.r (rI l)]/\WOK n l/\nrm n l/\0<=d/\d<1000000000/\mv lr=d*mv ly+mv l/\mv l<mv ly) (n:=1000000000) (by omega)
  (fun k ps hk ⟨d,n,l,hps,hw,hn,hd0,hdk,hv⟩=>by
   subst hps;have hlb:=hw.bd;have hdlt:d<1000000000:=by
    rcases Int.lt_or_le d 1000000000 with h|h
    ·exact h
    ·have:=qGd h (show 0<=mv ly by omega);rw[qG8 (mv ly)] at hlt;omega
   rw[qfj];obtain⟨r,r1,r2⟩:=qt0 hw hn hy hny br b2;by_cases hle:mv ly<=mv l
   ·left;have hr0:0<=r:=by rw[r2];exact hle
    have hdm:=qGb hd0 (show 0<=mv ly by omega);have hl9:mv l<pB (ny+1):=by rw[q83];omega
    obtain⟨q,e1,e2,e3,e4⟩:=qu7 hw hn hy hny h0 hle hl9 hy231 br b2;obtain⟨n',l',c1,c2,c3,c4⟩:=ql2 (f:=-q) (up:=0) hw hy (by omega) (by omega) (T:=mv l-q*mv ly) (by rw[q4C,Int.mul_one,Int.neg_mul];omega) (by omega)
     (by have:=hlb.2;have:=q9k hw.le;have:=qGb (show 0<=q by omega) (show 0<=mv ly by omega);omega) br b2
    have hq2:(d+q)*mv ly+(mv l-q*mv ly)=d*mv ly+mv l:=by rw[Int.add_mul];omega
    have hdq:d+q<1000000000:=by
     rcases Int.lt_or_le (d+q) 1000000000 with h|h
     ·exact h
     ·have:=qGd h (show 0<=mv ly by omega);rw[qG8 (mv ly)] at hlt;omega
    have w1:q2k .i64 0 q=-q:=qwm (by omega);have w2:qO .i64 d q=d+q:=jG (by omega);simp only[show ((0:Nat):Int)=0 from rfl] at c1;refine⟨(1000000000-(d+q)).toNat,[.i y0,.i (d+q),.b xb,.i xi,.r xr,.b b2,.i (ny:Int),.r (rI ly),.b qb,.i qi,.r qr,.b br,.i (n':Int),.r (rI l')],by omega,?_,d+q,n',l',rfl,c2,c3,by omega,by omega,by rw[c4];omega⟩;simp only[STD,r1,hr0,e1,w1,w2,c1]
   ·right;have hr0:¬0<=r:=by rw[r2];exact hle
    refine⟨0,_,?_,rfl,d,n,l,rfl,hw,hn,hd0,hdlt,hv,by omega⟩;simp only[STD,r1,hr0]) (ps:=[.i y0,.i 0,.b xb,.i xi,.r xr,.b b2,.i (ny:Int),.r (rI ly),.b qb,.i qi,.r qr,.b br,.i (nr:Int),.r (rI lr)]) ⟨0,nr,lr,rfl,hr,hnr,by omega,by omega,by omega⟩
 exact⟨d,n,l,g1,g2⟩
theorem qyL{n:Nat}{l:List Int}{d:Int}(h:WOK n l)(hn:n<=231)(hd:0<=d/\d<1000000000) :qeS (qgu (rI l) 1 (rI l) 0 (qg2 (quP (n:Int) 0) (quP 232 1))) 0 0 [.i d]=rI (d::(l.take n++l.drop (1+n)))/\WOK (n+1) (d::(l.take n++l.drop (1+n)))/\mv (d::(l.take n++l.drop (1+n)))=d+1000000000*mv l:=by
 have hlen:=h.len;have e1:qg2 (quP (n:Int) 0) (quP 232 1)=(n:Int):=by unfold qg2 quP;split<;>omega
 obtain⟨x,t,rfl⟩:∃x t,l=x::t:=by
  cases l with
  | nil=>simp at hlen
  | cons x t=>exact⟨x,t,rfl⟩
 refine⟨?_,⟨by simp;simp at hlen;omega,by omega,?_,?_⟩,?_⟩
 ·rw[e1];unfold qgu;have:(rI (x::t)).take (1:Int).toNat++((rI (x::t)).drop (0:Int).toNat).take (n:Int).toNat++(rI (x::t)).drop ((1:Int).toNat+(n:Int).toNat)=rI (x::((x::t).take n++(x::t).drop (1+n))):=by rw[qEK];simp[rI,List.map_take,List.map_drop]
  rw[this,show (0:Int)=((0:Nat):Int) from rfl,qfg];rfl
 ·intro y hy;rcases qEt.1 hy with rfl|hy
  ·exact hd
  ·rcases qEN.1 hy with hy|hy
   ·exact h.dig _ (qGn hy)
   ·exact h.dig _ (qGo hy)
 ·intro i hi;obtain⟨j,rfl⟩:∃j,i=j+1:=⟨i-1,by omega⟩;have hz:=h.z (j+1) (by omega);rw[qEn] at hz ⊢;rw[qFh,qEH (by simp;omega)];rw[qFl,qFz,qFB (by omega)];rw[show 1+n+(j-n)=j+1 by omega];exact hz
 ·show d+1000000000*mv _=_;rw[qtc,qFz,qFB (by omega),wR h.dig h.z (show n<=1+n by omega)];have:=q8L (x::t) n (by omega);rw[wR h.dig h.z (qEo n)] at this;omega
theorem qcH{nx ny:Nat}{lx ly:List Int}(hx:WOK nx lx)(hy:WOK ny ly)(hny:nrm ny ly)(h0:ny≠0)(hy231:ny<=231)(bx b2:Bool) :∃(nq:Nat) (lq:List Int) (nr:Nat) (lr:List Int),(yw [.b bx,.i (nx:Int),.r (rI lx),.b b2,.i (ny:Int),.r (rI ly)]).run = some (0,[.b bx,.i (nx:Int),.r (rI lx),.b b2,.i (ny:Int),.r (rI ly),.b false,.i (nq:Int),.r (rI lq),.b false,.i (nr:Int),.r (rI lr)])/\WOK nq lq/\nrm nq lq/\WOK nr lr/\nrm nr lr/\mv lx=mv lq*mv ly+mv lr/\mv lr<mv ly:=by
 rw[qjl];have hyp:0<mv ly:=by have:=hy.lo hny h0;have:=q8O (ny-1);omega
 have hx232:=hx.le;have e0:q55 232 [.i 0]=rI (List.replicate 232 0):=qnw 232 0;have hxl:=hx.len;obtain⟨j,qs,g1,rfl,nq,lq,nr,lr,rfl,g2,g3,g4,g5,g6⟩:=q5w (S:=kD) (fun k ps=>∃(Q:Int) (nq:Nat) (lq:List Int) (nr:Nat) (lr:List Int),
   ps=[.i ((k:Int)-1),.b bx,.i (nx:Int),.r (rI lx),.b b2,.i (ny:Int),.r (rI ly),.b false,.i (nq:Int),.r (rI lq),.b false,.i (nr:Int),.r (rI lr)]/\k<=nx/\WOK nq lq/\WOK nr lr/\nrm nr lr/\mv (lx.drop k)=Q*mv ly+mv lr/\mv lr<mv ly/\mv lq=pB k*Q/\∀i,i<k->lq.getD i 0=0)
  (fun j qs=>j=0/\∃(nq:Nat) (lq:List Int) (nr:Nat) (lr:List Int),qs=[.b bx,.i (nx:Int),.r (rI lx),.b b2,.i (ny:Int),.r (rI ly),.b false,.i (nq:Int),.r (rI lq),.b false,.i (nr:Int),.r (rI lr)]/\WOK nq lq/\WOK nr lr/\nrm nr lr/\mv lx=mv lq*mv ly+mv lr/\mv lr<mv ly) (n:=nx) (by omega)
  (fun k ps hk ⟨Q,nq,lq,nr,lr,hps,hkn,hwq,hwr,hnr,hv,hlt,hq,hz⟩=>by
   subst hps;rw[qga];rcases qFG k with rfl|hk0
   ·right;have a1:¬(0:Int)<=((0:Nat):Int)-1:=by omega
    refine⟨0,[.b bx,.i (nx:Int),.r (rI lx),.b b2,.i (ny:Int),.r (rI ly),.b false,.i (nq:Int),.r (rI lq),.b false,.i (nr:Int),.r (rI lr)],?_,rfl,nq,lq,nr,lr,rfl,hwq,hwr,hnr,?_,hlt⟩
    ·simp only[STD,a1]
    ·rw[hq,q4C,qF1,<-hv,List.drop_zero]
   ·left;obtain⟨i,rfl⟩:∃i,k=i+1:=⟨k-1,by omega⟩;have e:(((i+1:Nat):Int)-1)=(i:Int):=by omega
    rw[e];have hnr231:nr<=231:=qEr (qDy hwr hnr hy (by omega)) hy231;have hil:i<lx.length:=by omega
    have gx:=hx.get i;obtain⟨s1,s2,s3⟩:=qyL hwr hnr231 (d:=lx.getD i 0) gx;obtain⟨m,t1,t2,t3⟩:=qgn s2 false;have hX:mv (lx.drop i)=lx.getD i 0+1000000000*(Q*mv ly+mv lr):=by rw[q9A hil,<-hv,jW hil]
    have hlt2:mv (lx.getD i 0::(lr.take nr++lr.drop (1+nr)))<mv ly*1000000000:=by rw[s3];omega
    obtain⟨d,n',l',d1,d2,d3,d4,d5,d6,d7⟩:=qyn t2 t3 hy hny h0 hy231 hlt2 (i:Int) bx (nx:Int) (rI lx) b2 false (nq:Int) (rI lq) false;rw[s3] at d6;have a1:(0:Int)<=(i:Int):=by omega
    have a2:(i:Int)<232:=by omega
    have a3:(0:Int)<=232/\(232:Int)<=232:=by omega
    have a4:(0:Int)<=1/\(1:Int)<=232:=by omega
    have a5:(0:Int)<=(nr:Int)/\(nr:Int)<=232:=by omega
    have a6:(0:Int)<=0/\(0:Int)<=(nr:Int):=by omega
    have w1:qO .i64 (nr:Int) 1=((nr+1:Nat):Int):=by rw[jG (by omega)];omega
    have w2:qO .i64 (i:Int) 1=((i+1:Nat):Int):=by rw[jG (by omega)];omega
    have w3:q2k .i64 (i:Int) 1=(i:Int)-1:=q1s (by omega);have w4:qqv (nq:Int) ((i+1:Nat):Int)=((max nq (i+1):Nat):Int):=qsW _ _;have hiq:i<lq.length:=by rw[hwq.len];omega
    have hzi:lq[i]=0:=by rw[<-jW hiq];exact hz i (by omega)
    refine⟨i,[.i ((i:Int)-1),.b bx,.i (nx:Int),.r (rI lx),.b b2,.i (ny:Int),.r (rI ly),.b false,.i ((max nq (i+1):Nat):Int),.r (rI (lq.set i d)),.b false,.i (n':Int),.r (rI l')],by omega,?_,Q*1000000000+d,_,_,_,_,rfl,by omega,hwq.setW (by omega) ⟨d4,d5⟩,d2,d3,?_,d7,?_,?_⟩
    ·simp only[q3B,s1,w1];simp only[STD,a1,a2,a3,a4,a5,a6,and_self,t1,d1,w2,w3,w4,qfg]
    ·rw[hX,Int.add_mul,Int.mul_add];have:Q*1000000000*mv ly=1000000000*(Q*mv ly):=by grind
     omega
    ·rw[qsn lq i hiq,hzi,hq,q83];grind
    ·intro a ha;rw[qEn,qEp (by omega),<-qEn];exact hz a (by omega))
  (ps:=[.i ((nx:Int)-1),.b bx,.i (nx:Int),.r (rI lx),.b b2,.i (ny:Int),.r (rI ly),.b false,.i 0,.r (rI (List.replicate 232 0)),.b false,.i 0,.r (rI (List.replicate 232 0))])
  ⟨0,0,_,0,_,rfl,qEo _,WOK.zero,WOK.zero,.inl rfl,by rw[wR hx.dig hx.z (qEo _),qb9];omega,by rw[qb9];exact hyp,by rw[qb9,qFo],fun i _=>qpC 232 i⟩
 obtain⟨m,t1,t2,t3⟩:=qgn g2 false;refine⟨m,lq,nr,lr,?_,t2,t3,g3,g4,g5,g6⟩;have hs:q2k .i64 (nx:Int) 1=(nx:Int)-1:=q1s (by omega);simp only[e0,hs];simp only[STD,g1,t1]
variable {m:Int}
theorem qCH {c:UInt8}{t:qEl}:qg1 (c::t) 0 1=[c]:=by simp[qg1]
theorem qvV (s:qEl):(qI [.s s,.s [45]]).run=some (0,[.b (decide (s.getD 0 0=45))]):=by
 rw[q4y];have h1:zp [45]=1:=rfl;cases s with
 | nil=>
  have a:¬(1:Int)<=zp []:=by decide
  simp only[STD,h1,a];rfl
 | cons c t=>
  have a:(1:Int)<=zp (c::t):=by unfold zp;simp only[qF3];omega
  simp only[STD,h1,a,show (0:Int)<=1 by omega,show (0:Int)<=0 by omega,and_self,qCH];have e:seq [c] [45]=decide ((c::t).getD 0 0=45):=by rw[Bool.eq_iff_iff,jo];simp
  rw[e]
theorem qoz (s:qEl):(z8 [.s s,.s [45]]).run=some (0,[.s (mag s)]):=by
 rw[qd1];have h:(ze [.s s,.s [45]]).run=some (0,[.s (mag s)]):=by
  rw[q3M];have h1:zp [45]=1:=rfl;unfold mag;by_cases h:s.getD 0 0=45
  ·rw[if_pos h];have a:(1:Int)<=zp s:=by
    cases s with
    | nil=>simp at h
    | cons c t=>unfold zp;simp only[qF3];omega
   have e:qg1 s 1 (zp s)=s.drop 1:=by unfold qg1 zp;simp
   simp only[STD,qvV,h,h1,a,and_self,qES,show (0:Int)<=zp s by omega,show (0:Int)<=1 by omega,e]
  ·rw[if_neg h];simp only[STD,qvV,h]
 simp only[STD,h]
theorem qbp (s:qEl)(hl:s.length<=1000000000):(z7 [.s s]).run=some (0,[.i (qt9 s)]):=by
 rw[qm9];have hT:=qoz s;have hml:(mag s).length<=s.length:=by unfold mag;split<;>simp
 have hR:=qCI (mag s) (by omega);have hcan:=qwi s;unfold qt9;have hl3:(1024<zp (mag s))=¬((mag s).length<=1024):=by unfold zp;simp only[eq_iff_iff];omega
 by_cases hne:mag s=[]
 ·rw[if_neg (fun h=>(hcan.1 h).1 hne)];simp only[STD,hT,jo,hne]
 ·have hp:0<(mag s).length:=qFS.2 hne;have a1:(0:Int)<zp (mag s):=by unfold zp;omega
  have hs:sat (mag s) 0=((mag s)[0].toNat:Int):=qBg (i:=0) hp;have h48:((mag s)[0].toNat:Int)=48↔(mag s).getD 0 0=48:=by
   have:(mag s).getD 0 0=(mag s)[0]:=by simp[hp]
   rw[this];exact⟨fun h=>UInt8.toNat_inj.1 (by show (mag s)[0].toNat=48;omega),fun h=>by rw[h];rfl⟩
  by_cases hd:qc7 (mag s)
  ·have hs1:((mag s).getD 0 0=48->s.length=1)↔(((mag s)[0].toNat:Int)=48->s=[48]):=by
    rw[h48];constructor
    ·intro h h2;obtain⟨c,e⟩:=List.length_eq_one_iff.1 (h h2);subst e;by_cases hc:c=45
     ·subst hc;exact absurd rfl hne
     ·have:mag [c]=[c]:=by unfold mag;rw[if_neg (by simpa using hc)]
      rw[this] at h2;simp at h2;rw[h2]
    ·intro h h2;rw[h h2];rfl
   by_cases hz:((mag s)[0].toNat:Int)=48
   ·by_cases h0:s=[48]
    ·rw[if_pos (hcan.2 ⟨hne,hd,hs1.2 fun _=>h0⟩)];by_cases hL:(mag s).length<=1024
     ·simp only[STD,hT,hR,jo,hne,qec,hd,a1,hs,hz,hl3,hL,qES,and_self];simp only[STD,h0]
     ·simp only[STD,hT,hR,jo,hne,qec,hd,a1,hs,hz,hl3,hL,qES,and_self];simp only[STD,h0]
    ·rw[if_neg (fun h=>h0 (hs1.1 (hcan.1 h).2.2 hz))];simp only[STD,hT,hR,jo,hne,qec,hd,a1,hs,hz,h0,qES,and_self]
   ·rw[if_pos (hcan.2 ⟨hne,hd,fun h=>absurd (h48.2 h) hz⟩)];by_cases hL:(mag s).length<=1024
    ·simp only[STD,hT,hR,jo,hne,qec,hd,a1,hs,hz,hl3,hL,qES,and_self]
    ·simp only[STD,hT,hR,jo,hne,qec,hd,a1,hs,hz,hl3,hL,qES,and_self]
  ·rw[if_neg (fun h=>hd (hcan.1 h).2.1)];simp only[STD,hT,hR,jo,hne,qec,hd]
def okL(m:Int):Prop:=nl m<=1024
theorem qqI (h:okL m):qt9 (tI m)=0:=by unfold qt9;rw[if_pos ⟨m,rfl⟩,qpY,if_pos (show (tN m.natAbs).length<=1024 from h)]
theorem qqP (h:okL m):(tI m).length<=1025:=by have:=qzy m;unfold okL nl at h;omega
theorem qgy (h:okL m):(z7 [.s (tI m)]).run=some (0,[.i 0]):=by have:=qqP h;rw[qbp _ (by omega),qqI h]
def rS(l:List (List UInt8)):R:=l.map fun s=>[.s s]
theorem qng (l:List (List UInt8)):qm (rS l)=l.length:=by simp[rS,qm]
theorem qwM {l:List (List UInt8)}{i:Nat}(h:i<l.length):cS (rS l) (i:Int) 0=l[i]:=by simp[cS,zY,rS,h,U.toS]
theorem qD1 {l:List (List UInt8)}(hn:l.length<1000000)(h:∀s,s∈l->(z7 [.s s]).run=some (0,[.i 0])):(wd [.r (rS l)]).run=some (0,[.i 0]):=by
 rw[qph,qng];have key:=zI (S:=q48) (fun i=>[.r (rS l),.i (l.length:Int),.i (i:Int)]) (0,[]) l.length (by omega) (fun i hi=>by
  rw[qeO,qwM hi];have a1:(i:Int)<(l.length:Int):=by omega
  have a2:(i:Int)<qm (rS l):=by rw[qng];exact a1
  simp only[STD,a1,a2,qmx,and_self,h _ (qFp hi),q3f hi (show l.length<9223372036854775808 by omega)]) (by
  rw[qeO];have a1:¬(l.length:Int)<(l.length:Int):=by omega
  simp only[STD,a1])
 simp only[show (((0:Nat)):Int)=0 from rfl] at key;simp only[STD,key,zJ key]
theorem qc4 {m n:Int}(hm:okL m)(hn:okL n):(wd [.r [[.s (tI m)],[.s (tI n)]]]).run=some (0,[.i 0]):=by
 have:=qD1 (l:=[tI m,tI n]) (by simp) (fun s hs=>by
  simp only[qEt,qGu,or_false] at hs;rcases hs with rfl|rfl
  ·exact qgy hm
  ·exact qgy hn)
 exact this
theorem qaa (n:Int)(h:-9223372036854775808<=n/\n<=9223372036854775807):(wn [.i n]).run=some (0,[.s (tI n)]):=by rw[qrx];simp only[STD,qCw n h]
theorem q7S (m:Int):(tI m=[48])=(m=0):=propext ⟨fun h=>qsP (n:=0) h,fun h=>by rw[h];rfl⟩
theorem q1h (m:Int):(jZ [.s (tI m)]).run=some (0,[.i (sgn m)]):=by
 rw[qoa];have a1:(0:Int)<zp (tI m):=by have:=qjI m;unfold zp;omega
 have hs:(sat (tI m) 0=45)=(m<0):=qsC m;unfold sgn;by_cases h0:m=0
 ·simp only[STD,jo,q7S,h0];rfl
 ·by_cases h1:m<0
  ·simp only[STD,jo,q7S,h0,a1,hs,h1,qES,and_self]
  ·simp only[STD,jo,q7S,h0,a1,hs,h1,qES,and_self]
theorem qiB (h:okL m):(q1n [.s (tI m)]).run=some (0,[.i (sgn m),.i 0]):=by rw[qnR];simp only[STD,qgy h,q1h]
theorem qBI (m n:Nat):(q4H [.s (tN m),.s (tN n)]).run=some (0,[.i (sgn ((m:Int)-(n:Int)))]):=by
 rw[qm7];have hl:(zp (tN m)=zp (tN n))=((tN m).length=(tN n).length):=by unfold zp;simp only[eq_iff_iff];omega
 have hl2:(zp (tN m)<zp (tN n))=((tN m).length<(tN n).length):=by unfold zp;simp only[eq_iff_iff];omega
 by_cases he:(tN m).length=(tN n).length
 ·have h:=qu6 (jV m) (jV n) he;rw[q4Q,q4Q] at h;simp only[STD,hl,he,h]
 ·by_cases hlt:(tN m).length<(tN n).length
  ·have h:=(qvE m n).1 (.inl hlt);simp only[STD,hl,hl2,he,hlt];unfold sgn;rw[if_pos (by omega)]
  ·have h:=(qvE n m).1 (.inl (by omega));simp only[STD,hl,hl2,he,hlt];unfold sgn;rw[if_neg (by omega),if_neg (by omega)]
theorem qal (m:Int):(m<0/\sgn m=-1)\/(m=0/\sgn m=0)\/(0<m/\sgn m=1):=by
 unfold sgn;rcases qFQ m 0 with h|h|h
 ·rw[if_pos h];omega
 ·subst h;simp
 ·rw[if_neg (by omega),if_neg (by omega)];omega
theorem qlu (m:Int):-1<=sgn m/\sgn m<=1:=by rcases qal m with⟨_,e⟩|⟨_,e⟩|⟨_,e⟩<;>omega
theorem qAA (m n:Int):(if sgn m<sgn n then -1 else if sgn n<sgn m then 1 else sgn m*sgn ((m.natAbs:Int)-(n.natAbs:Int)))=sgn (m-n):=by
 rcases qal m with⟨a,ea⟩|⟨a,ea⟩|⟨a,ea⟩<;>rcases qal n with⟨b,eb⟩|⟨b,eb⟩|⟨b,eb⟩<;>rw[ea,eb]<;>simp only[Int.reduceLT,Int.reduceNeg,if_true,if_false] <;>
  rcases qal (m-n) with⟨c,ec⟩|⟨c,ec⟩|⟨c,ec⟩<;>rcases qal ((m.natAbs:Int)-(n.natAbs:Int)) with⟨d,ed⟩|⟨d,ed⟩|⟨d,ed⟩<;>omega
theorem qdz {m n:Int}(hm:okL m)(hn:okL n):(yk [.s (tI m),.s (tI n)]).run=some (0,[.i (sgn (m-n)),.i 0]):=by
 rw[qjk];have h1:=qoz (tI m);have h2:=qoz (tI n);rw[qpY] at h1 h2;have h3:=qBI m.natAbs n.natAbs;have hw:∀a b:Int,-1<=a/\a<=1->-1<=b/\b<=1->vk .i64 a b=a*b:=fun a b ha hb=>q6e (by have:=qwA (A:=1) (B:=1) ha.1 ha.2 hb.1 hb.2;omega);have ba:=qlu m;have bb:=qlu n;have bc:=qlu ((m.natAbs:Int)-(n.natAbs:Int));have e:=qAA m n;by_cases c1:sgn m<sgn n
 ·rw[if_pos c1] at e;simp only[STD,qc4 hm hn,q1h,h1,h2,h3,c1,<-e]
 ·rw[if_neg c1] at e;by_cases c2:sgn n<sgn m
  ·rw[if_pos c2] at e;simp only[STD,qc4 hm hn,q1h,h1,h2,h3,c1,c2,<-e]
  ·rw[if_neg c2] at e;simp only[STD,qc4 hm hn,q1h,h1,h2,h3,c1,c2,hw _ _ ba bc,<-e]
theorem qiZ (m:Int)(hm:nl m<=2000):∃(n:Nat) (l:List Int),(wk [.s (tI m)]).run=some (0,[.b (decide (m<0)),.i (n:Int),.r (rI l)])/\WOK n l/\nrm n l/\mv l=m.natAbs/\9*n<=nl m+8:=by
 rw[qoi];have h1:=qoz (tI m);rw[qpY] at h1;have a1:(0:Int)<zp (tI m):=by have:=qjI m;unfold zp;omega
 have hb:ieq (sat (tI m) 0) 45=decide (m<0):=by rw[Bool.eq_iff_iff,qvi,qsC];simp
 have e0:q55 232 [.i 0]=rI (List.replicate 232 0):=qnw 232 0;have hL:(tN m.natAbs).length<=2000:=hm;obtain⟨j,qs,g1,rfl,n,l,rfl,g2,g3,g4⟩:=q5w (S:=q2r) (fun k ps=>∃(n:Nat) (l:List Int),ps=[.s ((tN m.natAbs).take k),.b (decide (m<0)),.i (n:Int),.r (rI l)]/\k<=(tN m.natAbs).length/\WOK n l /\
   (k=0/\9*n<=(tN m.natAbs).length+8\/k+9*n=(tN m.natAbs).length)/\((val (tN m.natAbs):Nat):Int)=((val ((tN m.natAbs).take k):Nat):Int)*pB n+mv l)
  (fun j qs=>j=0/\∃(n:Nat) (l:List Int),qs=[.b (decide (m<0)),.i (n:Int),.r (rI l)]/\WOK n l/\mv l=m.natAbs/\9*n<=(tN m.natAbs).length+8) (n:=(tN m.natAbs).length) (by omega)
  (fun k ps hk ⟨n,l,hps,hkl,hw,hkn,hv⟩=>by
   subst hps;rw[qkP];have hlk:zp ((tN m.natAbs).take k)=(k:Int):=by unfold zp;rw[qFz,qFB hkl]
   rcases qFG k with rfl|hk0
   ·right;refine⟨0,[.b (decide (m<0)),.i (n:Int),.r (rI l)],?_,rfl,n,l,rfl,hw,?_,by omega⟩
    ·have a:¬(0:Int)<zp ((tN m.natAbs).take 0):=by rw[hlk];omega
     simp only[STD,a]
    ·rw[q4Q,List.take_zero,qom] at hv;simp at hv;omega
   ·left;have hn231:n<=231:=by omega
    obtain⟨q,hq,hq9⟩:∃q:Nat,qqv 0 (q2k .i64 (k:Int) 9)=(q:Int)/\q=k-9:=by refine⟨k-9,?_,rfl⟩;rw[q1s (by omega)];unfold qqv;split<;>omega
    have hqk:q<=k:=by omega
    have hsub:qg1 ((tN m.natAbs).take k) (q:Int) (k:Int)=((tN m.natAbs).take k).drop q:=by unfold qg1;simp[List.take_take]
    have hsub2:qg1 ((tN m.natAbs).take k) 0 (q:Int)=(tN m.natAbs).take q:=by unfold qg1;simp[List.take_take,qFB hqk]
    have hdg:qc7 (((tN m.natAbs).take k).drop q):=qx2 (qxv (jV _) k) q;have hdl:(((tN m.natAbs).take k).drop q).length=k-q:=by rw[List.length_drop,qFz,qFB hkl]
    have hdn:((tN m.natAbs).take k).drop q≠[]:=by intro h;rw[h] at hdl;simp at hdl;omega
    have hA:=qwr (s:=((tN m.natAbs).take k).drop q) (by omega) (qpt hdg hdn);have hvl:=qdp hdg;rw[hdl] at hvl;have hv9:val (((tN m.natAbs).take k).drop q)<1000000000:=qFI hvl (by have:(10:Nat)^(k-q)<=10^9:=qGc (by omega) (by omega);simpa using this);have b1:(0:Int)<(k:Int):=by omega
    have b2:(0:Int)<=(q:Int)/\(q:Int)<=(k:Int):=by omega
    have b3:(0:Int)<=(k:Int)/\(k:Int)<=(k:Int):=by omega
    have b4:(0:Int)<=(n:Int)/\(n:Int)<232:=by omega
    have b5:(0:Int)<=0/\(0:Int)<=(q:Int):=by omega
    have w1:qO .i64 (n:Int) 1=((n+1:Nat):Int):=by rw[jG (by omega)];omega
    have hnl:n<l.length:=by rw[hw.len];omega
    have hz:l[n]=0:=by rw[<-jW hnl];exact hw.z n (qEo _)
    have hW:=hw.setW (j:=n) (y:=((val (((tN m.natAbs).take k).drop q):Nat):Int)) (by omega) (by omega);rw[Nat.max_eq_right (by omega)] at hW;refine⟨q,[.s ((tN m.natAbs).take q),.b (decide (m<0)),.i ((n+1:Nat):Int),.r (rI (l.set n ((val (((tN m.natAbs).take k).drop q):Nat):Int)))],by omega,?_,n+1,_,rfl,by omega,hW,by omega,?_⟩
    ·simp only[STD,hlk,b1,hq,b2,b3,b4,b5,and_self,hsub,hsub2,hA,w1,qfg]
    ·rw[qsn l n hnl,hz,hv];have hsp:val ((tN m.natAbs).take k)=val ((tN m.natAbs).take q)*10^(k-q)+val (((tN m.natAbs).take k).drop q):=by
      have h1:(tN m.natAbs).take k=((tN m.natAbs).take k).take q++((tN m.natAbs).take k).drop q:=(qGh q _).symm;have h2:((tN m.natAbs).take k).take q=(tN m.natAbs).take q:=by rw[List.take_take,qFB hqk]
      rw[h2] at h1;generalize ((tN m.natAbs).take k).drop q=D at *;rw[h1,qoB,hdl]
     rw[hsp,q83];rcases qEu k 9 with h9|h9
     ·have:q=0:=by omega
      subst this;rw[List.take_zero,qom];simp;omega
     ·have:k-q=9:=by omega
      rw[this];simp only[Int.natCast_add,qFT];have e9:(((10:Nat)^9:Nat):Int)=1000000000:=by simp
      rw[e9];grind) (ps:=[.s ((tN m.natAbs).take (tN m.natAbs).length),.b (decide (m<0)),.i 0,.r (rI (List.replicate 232 0))])
  ⟨0,_,rfl,qEo _,WOK.zero,.inr (by omega),by rw[q4C,qG3,qb9];simp⟩
 rw[qG3] at g1;obtain⟨n2,t1,t2,t3⟩:=qgn g2 (decide (m<0));refine⟨n2,l,?_,t2,t3,g3,?_⟩
 ·simp only[STD,e0,hb,h1,a1,qES,and_self,g1,t1]
 ·have:=qDy t2 t3 g2 (qES _);unfold nl;omega
end Go.Eng

namespace Go.Eng
variable {m:Int}{n:Nat}
theorem qBk {k n:Nat}(h:nl m<=k)(hk:k<=9*n):(m.natAbs:Int)<pB n:=by rw[qvS];have h1:=qCn h;have h2:(10:Nat)^k<=10^(9*n):=qGc (by omega) hk;omega
theorem qn2 (h:okL m):(m.natAbs:Int)<pB 114:=qBk (k:=1024) h (by omega)
theorem qny (h:okL m):okL (-m):=by unfold okL;rw[qwJ];exact h
theorem qwP:pB n+pB n<=pB (n+1):=by rw[q83];have:=q8O n;omega
theorem qC8 {b:Bool}{l:List Int}(h:0<=mv l):((sv b l).natAbs:Int)=mv l:=by unfold sv;cases b<;>simp<;>omega
theorem qqa {l:List Int}(h:WOK n l)(hn:nrm n l)(b:Bool)(hk:okL (sv b l)):(wi [.b b,.i (n:Int),.r (rI l)]).run=some (0,[.s (tI (sv b l)),.i 0,.b b,.i (n:Int),.r (rI l)]):=by rw[qdl];simp only[STD,qsX h hn,qgy hk]
theorem qrn (m n:Int):(jU [.s (tI m),.s (tI n)]).run=some (0,if (tI m).length<=9/\(tI n).length<=9 then [.i m,.i n,.b true] else [.i 0,.i 0,.b false]):=by
 rw[qme];have h1:(9<zp (tI m))=¬(tI m).length<=9:=by unfold zp;simp only[eq_iff_iff];omega
 have h2:(9<zp (tI n))=¬(tI n).length<=9:=by unfold zp;simp only[eq_iff_iff];omega
 by_cases a:(tI m).length<=9
 ·by_cases b:(tI n).length<=9
  ·simp only[STD,h1,h2,a,b,and_self,qwr (s:=tI m) (by omega) (qxG m),qwr (s:=tI n) (by omega) (qxG n)]
  ·simp only[STD,h1,h2,a,b,and_false]
 ·simp only[STD,h1,a,false_and]
theorem qe4 (h:(tI m).length<=9):m.natAbs<1000000000:=by
 have:(tN m.natAbs).length<=9:=by
  unfold tI at h;split at h
  ·simp at h;omega
  ·exact h
 exact qFI (qho this) (by simp)
theorem qtj (n:Int)(h:-9223372036854775808<=n/\n<=9223372036854775807):(uC [.i n]).run=some (0,[.s (tI n),.i 0]):=by rw[qjJ];simp only[STD,qaa n h]
theorem qva {l:List Int}(h:mv l=m.natAbs):sv (decide (m<0)) l=m:=by
 unfold sv;by_cases hm:m<0
 ·rw[decide_eq_true hm,if_pos rfl];omega
 ·rw[decide_eq_false hm,if_neg (by simp)];omega
theorem qCK {m n:Int}(hm:okL m)(hn:okL n)(hs:okL (m+n)):(q7L [.r [[.s (tI m)],[.s (tI n)]]]).run=some (0,[.s (tI (m+n)),.i 0]):=by
 rw[qoS];have e0:q55 232 [.i 0]=rI (List.replicate 232 0):=qnw 232 0;have lm:=qn2 hm;have ln:=qn2 hn;obtain⟨q1,l1,r1,w1,n1,v1,_⟩:=qiZ m (by unfold okL at hm;omega);obtain⟨q2,l2,r2,w2,n2,v2,_⟩:=qiZ n (by unfold okL at hn;omega);have hb2:=q9k (show 115<=232 by omega);have hb1:pB 114+pB 114<=pB 115:=qwP;have hb0:=q8O 114;obtain⟨b1,k1,m1,a1,a2,a3,a4⟩:=qzL (lx:=List.replicate 232 0) (nx:=0) WOK.zero (.inl rfl) w1 n1 (by rw[qb9,v1];omega) false (decide (m<0));rw[qva v1] at a4;have a5:sv b1 m1=m:=by
  have:sv false (List.replicate 232 0)=0:=by unfold sv;rw[if_neg (by simp),qb9]
  rw[a4,this];omega
 obtain⟨b2,k2,m2,c1,c2,c3,c4⟩:=qzL a2 a3 w2 n2 (by rw[<-qC8 (b:=b1) a2.bd.1,a5,v2];omega) b1 (decide (n<0));rw[qva v2,a5] at c4;have key:=zI (S:=q4q) (fun i=>match i with
  | 0=>[.r [[.s (tI m)],[.s (tI n)]],.i 2,.i 0,.b false,.i 0,.r (rI (List.replicate 232 0))]
  | 1=>[.r [[.s (tI m)],[.s (tI n)]],.i 2,.i 1,.b b1,.i (k1:Int),.r (rI m1)]
  | _=>[.r [[.s (tI m)],[.s (tI n)]],.i 2,.i 2,.b b2,.i (k2:Int),.r (rI m2)]) (0,[.b b2,.i (k2:Int),.r (rI m2)]) 2 (by omega) (fun i hi=>by
   have:i=0\/i=1:=by omega
   have d0:cS [[.s (tI m)],[.s (tI n)]] 0 0=tI m:=rfl;have d1:cS [[.s (tI m)],[.s (tI n)]] 1 0=tI n:=rfl;have d2:qm [[U.s (tI m)],[U.s (tI n)]]=2:=rfl;rcases this with rfl|rfl
   ·simp only;rw[q9f,d0,d2];simp only[show ((0:Nat):Int)=0 from rfl] at a1;have w:qO .i64 0 1=1:=by decide
    simp only[STD,r1,a1,w,show (0:Int)<2 by omega,show (0:Int)<=0 by omega,and_self]
   ·simp only;rw[q9f,d1,d2];have w:qO .i64 1 1=2:=by decide
    simp only[STD,r2,c1,w,show (1:Int)<2 by omega,show (0:Int)<=1 by omega,and_self]) (by
   simp only;rw[q9f];simp only[STD,show ¬(2:Int)<2 by omega])
 simp only at key;have hL:=qqa c2 c3 b2 (by rw[c4];exact hs);rw[c4] at hL;have d2:qm [[U.s (tI m)],[U.s (tI n)]]=2:=rfl;simp only[e0,d2];simp only[STD,key,hL]
theorem qCm {m n:Int}(hm:okL m)(hn:okL n)(hs:okL (m+n)):(q1w [.s (tI m),.s (tI n)]).run=some (0,[.s (tI (m+n)),.i 0]):=by
 rw[qpU];have h:=qrn m n;by_cases hc:(tI m).length<=9/\(tI n).length<=9
 ·rw[if_pos hc] at h;have b1:=qe4 hc.1;have b2:=qe4 hc.2;have w:qO .i64 m n=m+n:=jG (by omega);simp only[STD,qc4 hm hn,h,w,qtj (m+n) (by omega)]
 ·rw[if_neg hc] at h;simp only[STD,qc4 hm hn,h,qCK hm hn hs]
theorem qtJ (hm:okL m):(q0m [.s (tI m)]).run=some (0,[.s (tI (-m))]):=by
 rw[qhv];have hl:=qqP hm;have hp:=qjI m;rcases qal m with⟨h,e⟩|⟨h,e⟩|⟨h,e⟩
 ·have a1:(0:Int)<=zp (tI m)/\zp (tI m)<=zp (tI m):=by unfold zp;omega
  have a2:(0:Int)<=1/\1<=zp (tI m):=by unfold zp;omega
  have a3:qg1 (tI m) 1 (zp (tI m))=tI (-m):=by unfold qg1 zp;rw[q95 h,qfM (m:=-m) (by omega),Int.natAbs_neg];simp
  simp only[STD,q1h,e,a1,a2,a3,and_self,show ¬((-1:Int)=0) by omega,show ¬((-1:Int)=1) by omega]
 ·simp only[STD,q1h,e];rw[h];rfl
 ·have a1:zp [45]+zp (tI m)<=140737488355328:=by unfold zp;simp;omega
  have a3:qjo [45] (tI m)=tI (-m):=by unfold qjo;rw[q95 (m:=-m) (by omega),qfM (m:=m) (by omega),Int.natAbs_neg];rfl
  simp only[STD,q1h,e,a1,a3,show ¬((1:Int)=0) by omega]
theorem qE6 {m n:Int}(hm:okL m)(hn:okL n)(hs:okL (m-n)):(q54 [.s (tI m),.s (tI n)]).run=some (0,[.s (tI (m-n)),.i 0]):=by rw[qqu];have h:=qCm hm (qny hn) (by rwa [<-Int.sub_eq_add_neg]);rw[<-Int.sub_eq_add_neg] at h;simp only[STD,qc4 hm hn,qtJ hn,h]
theorem qDJ {m n:Int}(hm:okL m)(hn:okL n)(hs:okL (m*n)):(q3l [.s (tI m),.s (tI n)]).run=some (0,[.s (tI (m*n)),.i 0]):=by
 rw[qpn];have h:=qrn m n;by_cases hc:(tI m).length<=9/\(tI n).length<=9
 ·rw[if_pos hc] at h;have b1:=qe4 hc.1;have b2:=qe4 hc.2;have b3:=qwA (A:=999999999) (B:=999999999) (a:=m) (b:=n) (by omega) (by omega) (by omega) (by omega);have w:vk .i64 m n=m*n:=q6e (by omega);simp only[STD,qc4 hm hn,h,w,qtj (m*n) (by omega)]
 ·rw[if_neg hc] at h;unfold okL at hm hn;obtain⟨q1,l1,r1,w1,n1,v1,z1⟩:=qiZ m (by omega);obtain⟨q2,l2,r2,w2,n2,v2,z2⟩:=qiZ n (by omega);obtain⟨k,l,t1,t2,t3,t4⟩:=qBq w1 w2 (by omega) (decide (m<0)) (decide (n<0));have hv:sv (!(Go.Eng.beq (decide (m<0)) (decide (n<0)))) l=m*n:=by
   unfold sv;rw[t4,v1,v2];have e:((m.natAbs:Int)*(n.natAbs:Int))=(((m*n).natAbs:Nat):Int):=by rw[qFF];simp
   rw[e];unfold Go.Eng.beq;rcases qFQ m 0 with a|a|a
   ·rcases qFQ n 0 with b|b|b
    ·have:=Int.mul_pos_of_neg_of_neg a b;simp[a,b];omega
    ·subst b;simp
    ·have:=qGy a b;have b':¬n<0:=by omega
     simp[a,b'];omega
   ·subst a;simp
   ·have a':¬m<0:=by omega
    rcases qFQ n 0 with b|b|b
    ·have:=Int.mul_neg_of_pos_of_neg a b;simp[a',b];omega
    ·subst b;simp
    ·have:=Int.mul_pos a b;have b':¬n<0:=by omega
     simp[a',b'];omega
  have hL:=qqa t2 t3 (!(Go.Eng.beq (decide (m<0)) (decide (n<0)))) (by rw[hv];exact hs);rw[hv] at hL;simp only[STD,qc4 hm hn,h,r1,r2,t1,hL]
theorem quY {l:List Int}(h:WOK n l)(hn:nrm n l){k:Nat}(hl:mv l<pB k):n<=k:=by
 rcases qEu k n with h1|h1
 ·have:=h.lo hn (by omega);have:=q9k (show k<=n-1 by omega);omega
 ·exact h1
theorem qzo {k n:Int}(h0:n≠0)(hm:okL (k*n))(hn:okL n):(q2t [.s (tI (k*n)),.s (tI n)]).run=some (0,[.s (tI k),.s (tI 0),.i 0]):=by
 rw[qjF];have h:=qrn (k*n) n;have hz:¬tI n=[48]:=by rw[q7S];exact h0
 by_cases hc:(tI (k*n)).length<=9/\(tI n).length<=9
 ·rw[if_pos hc] at h;have b1:=qe4 hc.1;have b2:=qe4 hc.2;have hk:k.natAbs<=(k*n).natAbs:=by rw[qFF];have:k.natAbs*1<=k.natAbs*n.natAbs:=Nat.mul_le_mul_left _ (by omega);omega
  have w1:qlA (k*n) n=0:=by unfold qlA;exact Int.mul_tmod_left k n
  have w2:qaQ .i64 (k*n) n=k:=by rw[qG8];exact qtR h0 (by omega)
  simp only[STD,qc4 hm hn,jo,hz,h,h0,w1,w2,qaa k (by omega),qaa 0 (by omega)]
 ·rw[if_neg hc] at h;have lm:=qn2 hm;have ln:=qn2 hn;obtain⟨q1,l1,r1,w1,n1,v1,z1⟩:=qiZ (k*n) (by unfold okL at hm;omega);obtain⟨q2,l2,r2,w2,n2,v2,z2⟩:=qiZ n (by unfold okL at hn;omega);have hq2:q2<=114:=quY w2 n2 (by omega);have hq0:q2≠0:=fun h=>by rw[qhj w2 n2] at h;omega
  obtain⟨nq,lq,nr,lr,d1,d2,d3,d4,d5,d6,d7⟩:=qcH w1 w2 n2 hq0 (by omega) (decide (k*n<0)) (decide (n<0));have e1:((k*n).natAbs:Int)=(k.natAbs:Int)*(n.natAbs:Int):=by rw[qFF];simp
  rw[v1,v2,e1] at d6;rw[v2] at d7;have b4:=d4.bd.1;have hr0:mv lr=0/\mv lq=k.natAbs:=by
   have hn0:(0:Int)<(n.natAbs:Int):=by omega
   have e2:((k.natAbs:Int)-mv lq)*(n.natAbs:Int)=mv lr:=by rw[Int.sub_mul];omega
   rcases qFQ ((k.natAbs:Int)-mv lq) 0 with a|a|a
   ·have:=qGy a hn0;omega
   ·rw[a,Int.zero_mul] at e2;omega
   ·have:=qGd (show 1<=(k.natAbs:Int)-mv lq by omega) (show 0<=(n.natAbs:Int) by omega);omega
  have hnr:nr=0:=by rw[qhj d4 d5];exact hr0.1
  have hv:sv (!(Go.Eng.beq (decide (k*n<0)) (decide (n<0)))) lq=k:=by
   unfold sv;rw[hr0.2];unfold Go.Eng.beq;rcases qFQ k 0 with a|a|a
   ·rcases qFQ n 0 with b|b|b
    ·have:=Int.mul_pos_of_neg_of_neg a b;have c:¬k*n<0:=by omega
     simp[b,c];omega
    ·exact absurd b h0
    ·have c:=qGy a b;have b':¬n<0:=by omega
     simp[b',c];omega
   ·subst a;simp
   ·rcases qFQ n 0 with b|b|b
    ·have c:=Int.mul_neg_of_pos_of_neg a b;simp[b,c];omega
    ·exact absurd b h0
    ·have:=Int.mul_pos a b;have c:¬k*n<0:=by omega
     have b':¬n<0:=by omega
     simp[b',c];omega
  have hT:=qsX d2 d3 (!(Go.Eng.beq (decide (k*n<0)) (decide (n<0))));rw[hv] at hT;have hT2:=qsX d4 d5 (decide (k*n<0));have hv0:sv (decide (k*n<0)) lr=0:=by unfold sv;rw[hr0.1];split<;>rfl
  rw[hv0] at hT2;have hnr':¬(0:Int)<(nr:Int):=by omega
  simp only[STD,qc4 hm hn,jo,hz,h,r1,r2,d1,hnr',hT,hT2]
theorem qzR {m n:Int}(h:m.natAbs<=n.natAbs)(hn:okL n):okL m:=qEr (qb1 h) hn
theorem qDz {k n:Int}(h0:n≠0)(hm:okL (k*n))(hn:okL n):(q56 [.s (tI (k*n)),.s (tI n)]).run=some (0,[.s (tI k),.i 0]):=by rw[qp7];have hk:okL k:=qzR (by rw[qFF];have:k.natAbs*1<=k.natAbs*n.natAbs:=Nat.mul_le_mul_left _ (by omega);omega) hm;simp only[STD,qzo h0 hm hn,qgy hk]
theorem qvt (a b:Nat)(hb:b<9223372036854775808):(qh q0G [.i (a:Int),.i (b:Int)]).run=some (0,[.i ((Nat.gcd a b:Nat):Int)]):=by
 obtain⟨j,qs,h1,rfl,rfl⟩:=q5w (S:=q0G) (fun k ps=>∃x y:Nat,ps=[.i (x:Int),.i (y:Int)]/\y=k/\Nat.gcd x y=Nat.gcd a b)
  (fun j qs=>j=0/\qs=[.i ((Nat.gcd a b:Nat):Int)]) (n:=b) hb (fun k ps hk ⟨x,y,hps,hy,hg⟩=>by
  subst hps;rw[qjH];by_cases h0:y=0
  ·right;refine⟨0,[.i (x:Int)],?_,rfl,?_⟩
   ·simp only[STD,h0];simp[]
   ·rw[<-hg,h0,Nat.gcd_zero_right]
  ·left;refine⟨x%y,[.i (y:Int),.i ((x%y:Nat):Int)],by rw[<-hy];exact Nat.mod_lt _ (by omega),?_,y,x%y,rfl,rfl,?_⟩
   ·simp only[STD,show ¬((y:Int)=0) by omega,qti]
   ·rw[<-hg,Nat.gcd_comm y,<-Nat.gcd_rec,Nat.gcd_comm]) (ps:=[.i (a:Int),.i (b:Int)]) ⟨a,b,rfl,rfl,rfl⟩
 exact h1
theorem qzK {l:List Int}(h:WOK n l)(hn:n<=1):mv l=l.getD 0 0:=by
 have:=q8L l 1 (by rw[h.len];omega);rw[wR h.dig h.z hn,qFo,Int.add_zero] at this;have hl:=h.len;obtain⟨x,t,rfl⟩:∃x t,l=x::t:=by
  cases l with
  | nil=>simp at hl
  | cons x t=>exact⟨x,t,rfl⟩
 rw[this];simp[mv]
theorem qCX {m n:Int}(hm:okL m)(hn:okL n):(q1i [.s (tI m),.s (tI n)]).run=some (0,[.s (tN (Nat.gcd m.natAbs n.natAbs)),.i 0]):=by
 rw[qqh];have lm:=qn2 hm;have ln:=qn2 hn;obtain⟨q1,l1,r1,w1,n1,v1,_⟩:=qiZ m (by unfold okL at hm;omega);obtain⟨q2,l2,r2,w2,n2,v2,_⟩:=qiZ n (by unfold okL at hn;omega);have hm':(tN m.natAbs).length<=1024:=hm;have hn':(tN n.natAbs).length<=1024:=hn;obtain⟨j,qs,g1,g2⟩:=q5w (S:=q4B) (fun k ps=>∃(x y:Nat) (b1 b2:Bool) (nx ny:Nat) (lx ly:List Int),ps=[.b b1,.i (nx:Int),.r (rI lx),.b b2,.i (ny:Int),.r (rI ly)] /\
   WOK nx lx/\nrm nx lx/\WOK ny ly/\nrm ny ly/\mv lx=x/\mv ly=y/\eM x y=k/\Nat.gcd x y=Nat.gcd m.natAbs n.natAbs/\(x:Int)<pB 114/\(y:Int)<pB 114)
  (fun j qs=>(j=0/\∃(b:Bool) (n':Nat) (l:List Int),qs=[.b b,.i (n':Int),.r (rI l)]/\WOK n' l/\nrm n' l/\mv l=((Nat.gcd m.natAbs n.natAbs:Nat):Int))\/(j=1/\qs=[.s (tN (Nat.gcd m.natAbs n.natAbs)),.i 0])) (n:=eM m.natAbs n.natAbs) (qzs (by omega) (by omega))
  (fun k ps hk ⟨x,y,b1,b2,nx,ny,lx,ly,hps,hw,hnw,hw2,hn2,hx,hy,he,hg,lx1,ly1⟩=>by
  subst hps;rw[qm2];have hxl:=hw.len;have hyl:=hw2.len;by_cases h0:ny=0
  ·right;have hy0:mv ly=0:=by rw[<-qhj hw2 hn2];exact h0
   have hy0':y=0:=by omega
   refine⟨0,[.b b1,.i (nx:Int),.r (rI lx)],?_,.inl ⟨rfl,b1,nx,lx,rfl,hw,hnw,?_⟩⟩
   ·simp only[STD,h0,show ¬(0:Int)<((0:Nat):Int) by omega]
   ·rw[hx,<-hg,hy0',Nat.gcd_zero_right]
  ·have a0:(0:Int)<(ny:Int):=by omega
   have hy0:y≠0:=fun h=>h0 (by rw[qhj hw2 hn2];omega);by_cases hc:nx<=1/\ny<=1
   ·right;have e1:=qzK hw hc.1;have e2:=qzK hw2 hc.2;have d1:cI (rI lx) 0 0=(x:Int):=by rw[show (0:Int)=((0:Nat):Int) from rfl,q3B,<-e1,hx]
    have d2:cI (rI ly) 0 0=(y:Int):=by rw[show (0:Int)=((0:Nat):Int) from rfl,q3B,<-e2,hy]
    have hy9:=hw2.get 0;rw[<-e2,hy] at hy9;have hE:=qvt x y (by omega);have hgl:Nat.gcd x y<=y:=Nat.gcd_le_right _ (by omega);have hO:=qaa ((Nat.gcd x y:Nat):Int) (by omega);rw[q90] at hO;have c1:(nx:Int)<=1:=by omega
    have c2:(ny:Int)<=1:=by omega
    refine⟨1,[.s (tN (Nat.gcd x y)),.i 0],?_,.inr ⟨rfl,by rw[hg]⟩⟩;simp only[STD,a0,c1,c2,d1,d2,hE,hO]
   ·left;have hny:ny<=114:=quY hw2 hn2 (by omega);obtain⟨nq,lq,nr,lr,d1,d2,d3,d4,d5,d6,d7⟩:=qcH hw hw2 hn2 h0 (by omega) b1 b2;have hr:mv lr=((x%y:Nat):Int):=by
     have b4:=d4.bd.1;rw[hx,hy] at d6;rw[hy] at d7;have hy1:(0:Int)<(y:Int):=by omega
     have:=(Int.ediv_emod_unique hy1 (a:=(x:Int)) (r:=mv lr) (q:=mv lq)).2 ⟨by rw[qG8];omega,b4,d7⟩;rw[<-this.2];simp
    refine⟨eM y (x%y),[.b b2,.i (ny:Int),.r (rI ly),.b false,.i (nr:Int),.r (rI lr)],by rw[<-he];exact qBo hy0,?_,y,x%y,b2,false,ny,nr,ly,lr,rfl,hw2,hn2,d4,d5,hy,hr,rfl,?_,ly1,?_⟩
    ·by_cases c1:nx<=1
     ·have c2:¬(ny:Int)<=1:=by omega
      have c1':(nx:Int)<=1:=by omega
      simp only[STD,a0,c1',c2,d1]
     ·have c1':¬(nx:Int)<=1:=by omega
      simp only[STD,a0,c1',d1]
    ·rw[<-hg,Nat.gcd_comm y,<-Nat.gcd_rec,Nat.gcd_comm]
    ·have:=Nat.mod_lt x (show 0<y by omega);omega) (ps:=[.b (decide (m<0)),.i (q1:Int),.r (rI l1),.b (decide (n<0)),.i (q2:Int),.r (rI l2)])
  ⟨m.natAbs,n.natAbs,_,_,q1,q2,l1,l2,rfl,w1,n1,w2,n2,v1,v2,rfl,rfl,lm,ln⟩
 rcases g2 with⟨rfl,b,n',l,rfl,a1,a2,a3⟩|⟨rfl,rfl⟩
 ·have hT:=qsX a1 a2 false;have hv:sv false l=((Nat.gcd m.natAbs n.natAbs:Nat):Int):=by unfold sv;rw[a3];rfl
  rw[hv,q90] at hT;simp only[STD,qc4 hm hn,r1,r2,g1,zJ g1,hT]
 ·simp only[STD,qc4 hm hn,r1,r2,g1,zJ g1,show ¬(1=0) by omega]
end Go.Eng

namespace Go.Eng
variable {q:Rat}
theorem q8c:okL 1:=by show nl 1<=1024;decide
theorem q7g:okL 0:=by show nl 0<=1024;decide
theorem qCF (s:qEl)(hl:s.length<=1000000000):(q4t [.s s,.s [47]]).run=some (0,if sP s<s.length then [.s (s.take (sP s)),.s (s.drop (sP s+1)),.b true] else [.s s,.s [],.b false]):=by
 rw[qlH];have h:(w8 [.s s,.s [47]]).run=some (0,if sP s<s.length then [.s (s.take (sP s)),.s (s.drop (sP s+1)),.b true] else [.s s,.s [],.b false]):=by
  rw[q7w];have hI:=qBJ s;by_cases hc:sP s<s.length
  ·rw[if_pos hc] at hI ⊢;have w:qO .i64 (sP s:Int) (zp [47])=((sP s+1:Nat):Int):=by show qO .i64 (sP s:Int) 1=_;rw[jG (by omega)];omega
   have a1:(0:Int)<=(sP s:Int)/\(sP s:Int)<=zp s:=by unfold zp;omega
   have a2:(0:Int)<=0/\(0:Int)<=(sP s:Int):=by omega
   have a3:(0:Int)<=zp s/\zp s<=zp s:=by unfold zp;omega
   have a4:(0:Int)<=((sP s+1:Nat):Int)/\((sP s+1:Nat):Int)<=zp s:=by unfold zp;omega
   have e1:qg1 s 0 (sP s:Int)=s.take (sP s):=by unfold qg1;simp
   have e2:qg1 s ((sP s+1:Nat):Int) (zp s)=s.drop (sP s+1):=by unfold qg1 zp;simp only[qEK];rw[qG3]
   simp only[STD,hI,a1.1,a1.2,a2,a3,a4,and_self,w,e1,e2]
  ·rw[if_neg hc] at hI ⊢;have a:¬(0:Int)<=-1:=by omega
   simp only[STD,hI,a]
 by_cases hc:sP s<s.length
 ·rw[if_pos hc] at h ⊢;simp only[STD,h]
 ·rw[if_neg hc] at h ⊢;simp only[STD,h]
theorem qD4 (s:qEl)(hl:s.length<=1000000000):(qE [.s s]).run=some (0,[.s (spn s),.s (spd s),.b (decide (sP s<s.length))]):=by
 rw[qqg];have h:=qCF s hl;unfold spn spd;by_cases hc:sP s<s.length
 ·rw[if_pos hc] at h ⊢;rw[decide_eq_true hc];simp only[STD,h]
 ·rw[if_neg hc] at h ⊢;have:sP s=s.length:=by have:=qB8 s;omega
  rw[decide_eq_false hc,this,qG3];simp only[STD,h]
theorem qCd (q:Rat):(sP (tQ q)<(tQ q).length)=(q.den≠1):=by
 by_cases h:q.den=1
 ·rw[q8N h,qry (qm5 _)];simp[h]
 ·rw[q53 h,qxD (qm5 _)];simp[h]
def okQ(q:Rat):Prop:=qn q<=1024/\qd q<=1024
theorem q0W (h:okQ q):okL q.num:=h.1
theorem yK (h:okQ q):okL (q.den:Int):=h.2
theorem qcU (h:okQ q):(tQ q).length<=3000:=by have:=qCU q;have:=h.1;have:=h.2;omega
theorem q4P (h:okQ q):(qE [.s (tQ q)]).run=some (0,[.s (tI q.num),.s (tI (q.den:Int)),.b (decide (q.den≠1))]):=by have:=qcU h;rw[qD4 _ (by omega),qA3,qzB,q90];simp only[qCd]
open Classical in
noncomputable def vI(s:qEl):Int:=if h:∃m:Int,s=tI m then h.choose else 0
theorem qxi (m:Int):vI (tI m)=m:=by unfold vI;have h:∃k:Int,tI m=tI k:=⟨m,rfl⟩;rw[dif_pos h];exact(qsP h.choose_spec).symm
theorem qnY {s:qEl}(h:qt9 s=0):∃m:Int,s=tI m/\okL m:=by
 unfold qt9 at h;split at h
 ·rename_i hm;obtain⟨m,rfl⟩:=hm;rw[qpY] at h;split at h
  ·rename_i hl;exact⟨m,rfl,hl⟩
  ·omega
 ·omega
theorem qpp (s:qEl):qt9 s=0\/qt9 s=3\/qt9 s=11:=by
 unfold qt9;split
 ·split<;>simp
 ·simp
noncomputable def qlM(s:qEl):Int:=
 if qt9 (spn s)=3 then 3 else if qt9 (spd s)=3 then 3 else if qt9 (spn s)≠0 then 11 else if qt9 (spd s)≠0 then 11
 else if sP s<s.length then (if sgn (vI (spd s)-1)<=0 then 3 else if Nat.gcd (vI (spn s)).natAbs (vI (spd s)).natAbs=1 then 0 else 3) else 0
theorem qD7 (s:qEl):(spn s).length<=s.length:=by unfold spn;rw[qFz];omega
theorem qC2 (s:qEl):(spd s).length<=s.length+1:=by unfold spd;split<;>simp<;>omega
theorem q72 (s:qEl)(hl:s.length<=100000000):(qJ [.s s]).run=some (0,[.i (qlM s)]):=by
 rw[qmh];have hn:=qD7 s;have hd:=qC2 s;have h1:=qbp (spn s) (by omega);have h2:=qbp (spd s) (by omega);have hc:=qD4 s (by omega);have mx:qqv 11 0=11/\qqv 11 11=11/\qqv 0 11=11:=by decide
 unfold qlM;rcases qpp (spn s) with a|a|a<;>rcases qpp (spd s) with b|b|b<;>rw[a] at h1 ⊢<;>rw[b] at h2 ⊢
 ·obtain⟨m,em,om⟩:=qnY a;obtain⟨n,en,on⟩:=qnY b;rw[em] at h1 hc ⊢;rw[en] at h2 hc ⊢;have hC:=qdz on (n:=1) q8c;rw[qCr] at hC;have hG:=qCX om on;rw[qxi,qxi];by_cases hs:sP s<s.length
  ·by_cases ho:sgn (n-1)<=0
   ·simp only[STD,hc,h1,h2,hs,hC,hG,ho,show ¬((0:Int)=3) by omega,show ¬((0:Int)≠0) by omega]
   ·by_cases hg:Nat.gcd m.natAbs n.natAbs=1
    ·simp only[STD,hc,h1,h2,hs,hC,hG,ho,hg,jo,qeb,show ¬((0:Int)=3) by omega,show ¬((0:Int)≠0) by omega]
    ·simp only[STD,hc,h1,h2,hs,hC,hG,ho,hg,jo,qeb,show ¬((0:Int)=3) by omega,show ¬((0:Int)≠0) by omega]
  ·simp only[STD,hc,h1,h2,hs,show ¬((0:Int)=3) by omega,show ¬((0:Int)≠0) by omega]
 all_goals simp only[STD,hc,h1,h2,mx,show ¬((0:Int)=3) by omega,show ¬((11:Int)=3) by omega,show ¬((11:Int)=0) by omega,show ¬((3:Int)=0) by omega]
theorem qox (h:okQ q):qlM (tQ q)=0:=by
 unfold qlM;have e1:spd (tQ q)=tI (q.den:Int):=by rw[qzB,q90]
 rw[qA3,e1,qqI (q0W h),qqI (yK h)];simp only[qxi,qCd];by_cases hd:q.den=1
 ·simp[hd]
 ·have:=q.den_nz;have hs:¬sgn ((q.den:Int)-1)<=0:=by unfold sgn;rw[if_neg (by omega),if_neg (by omega)];omega
  have hr:Nat.gcd q.num.natAbs q.den=1:=q.reduced;simp[hd,hs,hr]
theorem qAV {s:qEl}(h:qlM s=0):∃q:Rat,s=tQ q/\okQ q:=by
 unfold qlM at h;split at h
 ·omega
 split at h
 ·omega
 split at h
 ·omega
 split at h
 ·omega
 rename_i h1 h2 h3 h4;obtain⟨m,em,om⟩:=qnY (Decidable.byContradiction fun h=>h3 h);obtain⟨n,en,on⟩:=qnY (Decidable.byContradiction fun h=>h4 h);rw[em,en,qxi,qxi] at h;split at h
 ·rename_i hs;split at h
  ·omega
  rename_i hsg;split at h
  ·rename_i hg;have hn1:1<n:=by
    unfold sgn at hsg;by_cases c1:n-1<0
    ·rw[if_pos c1] at hsg;omega
    ·rw[if_neg c1] at hsg;by_cases c2:n-1=0
     ·rw[if_pos c2] at hsg;omega
     ·omega
   obtain⟨k,rfl⟩:∃k:Nat,n=(k:Int):=⟨n.toNat,by omega⟩;refine⟨⟨m,k,by omega,hg⟩,?_,om,on⟩;rw[q53 (show k≠1 by omega)];have hslash:s=spn s++47::spd s:=by
    unfold spn spd;rw[if_pos hs];have h47:s[sP s]=47:=by have:=List.findIdx_getElem (p:=(·==47)) (w:=hs);exact eq_of_beq this
    rw[<-h47,List.getElem_cons_drop,qGh]
   rw[hslash,em,en,q90]
  ·omega
 ·rename_i hs;have e:sP s=s.length:=by have:=qB8 s;omega
  have hsn:spn s=s:=by unfold spn;rw[e,qG3]
  refine⟨(m:Rat),?_,?_,?_⟩
  ·rw[qqQ,<-em,hsn]
  ·have:nl m<=1024:=om;unfold qn;simpa using this
  ·unfold qd;simp;decide
theorem qDE (m:Int):nl m<=(tI m).length:=by unfold nl tI;split<;>simp
theorem qlj (q:Rat):qn q<=(tQ q).length/\(q.den=1\/qn q+1+qd q<=(tQ q).length):=by
 have h1:=qDE q.num;by_cases h:q.den=1
 ·rw[q8N h];exact⟨h1,.inl h⟩
 ·rw[q53 h];unfold qn qd dl;simp;omega
theorem qgP {l:List (List UInt8)}(hn:l.length<1000000)(h:∀s,s∈l->(qJ [.s s]).run=some (0,[.i 0])):(qv [.r (rS l)]).run=some (0,[.i 0]):=by
 rw[qkG,qng];have key:=zI (S:=q0t) (fun i=>[.r (rS l),.i (l.length:Int),.i (i:Int)]) (0,[]) l.length (by omega) (fun i hi=>by
  rw[qaP,qwM hi];have a1:(i:Int)<(l.length:Int):=by omega
  have a2:(i:Int)<qm (rS l):=by rw[qng];exact a1
  simp only[STD,a1,a2,qmx,and_self,h _ (qFp hi),q3f hi (show l.length<9223372036854775808 by omega)]) (by
  rw[qaP];have a1:¬(l.length:Int)<(l.length:Int):=by omega
  simp only[STD,a1])
 simp only[show (((0:Nat)):Int)=0 from rfl] at key;simp only[STD,key,zJ key]
theorem q0i (h:okQ q):(qJ [.s (tQ q)]).run=some (0,[.i 0]):=by have:=qcU h;rw[q72 _ (by omega),qox h]
theorem qd2 {a b:Rat}(ha:okQ a)(hb:okQ b):(qv [.r [[.s (tQ a)],[.s (tQ b)]]]).run=some (0,[.i 0]):=by
 exact qgP (l:=[tQ a,tQ b]) (by simp) (fun s hs=>by
  simp only[qEt,qGu,or_false] at hs;rcases hs with rfl|rfl
  ·exact q0i ha
  ·exact q0i hb)
theorem qAM {m n:Int}(hm:okL m)(hn:okL n)(h:okL (m+n)):(jJ [.s (tI m),.s (tI n),.i 0]).run=some (0,[.s (tI (m+n)),.i 0]):=by
 rw[qhQ];have:(wG [.s (tI m),.s (tI n),.i 0]).run=some (0,[.s (tI (m+n)),.i 0]):=by rw[q8C];simp only[STD,qCm hm hn h]
 simp only[STD,this]
theorem qqK {m n:Int}(hm:okL m)(hn:okL n)(h:okL (m-n)):(zg [.s (tI m),.s (tI n),.i 0]).run=some (0,[.s (tI (m-n)),.i 0]):=by
 rw[qhX];have:(wy [.s (tI m),.s (tI n),.i 0]).run=some (0,[.s (tI (m-n)),.i 0]):=by rw[q8s];simp only[STD,qE6 hm hn h]
 simp only[STD,this]
theorem qB1 {m n:Int}(hm:okL m)(hn:okL n)(h:okL (m*n)):(zC [.s (tI m),.s (tI n),.i 0]).run=some (0,[.s (tI (m*n)),.i 0]):=by rw[q8q];simp only[STD,qDJ hm hn h]
theorem qBl {m n:Int}(hm:okL m)(hn:okL n):(wH [.s (tI m),.s (tI n),.i 0]).run=some (0,[.s (tN (Nat.gcd m.natAbs n.natAbs)),.i 0]):=by rw[q8x];simp only[STD,qCX hm hn]
theorem qoE {k n:Int}(h0:n≠0)(hm:okL (k*n))(hn:okL n):(qW [.s (tI (k*n)),.s (tI n),.i 0]).run=some (0,[.s (tI k),.i 0]):=by rw[q8t];simp only[STD,qDz h0 hm hn]
def prd:Int->List Int->Int
 | a,[]=>a
 | a,m::l=>prd (a*m) l
def qAz:Int->List Int->Prop
 | a,[]=>okL a
 | a,m::l=>okL a/\okL m/\qAz (a*m) l
theorem qxK:∀(l:List Int) (pre:List Int) (a:Int),qAz a l->pre.length+l.length<1000->∀f,l.length<f ->
  (qgZ jr f [.s (tI a),.r (rS ((pre++l).map tI)),.i ((pre++l).length:Int),.i (pre.length:Int),.i 0]).run=some (0,[.s (tI (prd a l)),.i 0])
 | [],pre,a,h,hl,f,hf=>by
  obtain⟨f,rfl⟩:∃g,f=g+1:=⟨f-1,by simp at hf;omega⟩;refine q5U ?_;rw[q7H,qFC];have a1:¬(pre.length:Int)<(pre.length:Int):=by omega
  simp only[STD,a1];rfl
 | m::l,pre,a,h,hl,f,hf=>by
  obtain⟨f,rfl⟩:∃g,f=g+1:=⟨f-1,by simp at hf;omega⟩;obtain⟨h1,h2,h3⟩:=h;have hlt:pre.length<(pre++m::l).length:=by simp
  have ih:=qxK l (pre++[m]) (a*m) h3 (by simp at hl ⊢;omega) f (by simp at hf;omega);rw[qF0,List.singleton_append] at ih;have hok:okL (a*m):=by
   cases l with
   | nil=>exact h3
   | cons x l=>exact h3.1
  rw[qee (qs:=[.s (tI (a*m)),.r (rS ((pre++m::l).map tI)),.i ((pre++m::l).length:Int),.i ((pre++[m]).length:Int),.i 0])]
  ·exact ih
  ·rw[q7H];have hlt2:pre.length<((pre++m::l).map tI).length:=by simp
   rw[qwM hlt2];have e:((pre++m::l).map tI)[pre.length]=tI m:=by simp
   rw[e];have a1:(pre.length:Int)<((pre++m::l).length:Int):=by omega
   have a2:(pre.length:Int)<qm (rS ((pre++m::l).map tI)):=by rw[qng];omega
   have w:qO .i64 (pre.length:Int) 1=((pre++[m]).length:Int):=by rw[jG (by omega)];simp
   simp only[STD,a1,a2,qmx,and_self,qB1 h1 h2 hok,w]
theorem qqo (l:List Int)(h:qAz 1 l)(hl:l.length<1000):(qf [.r (rS (l.map tI)),.i 0]).run=some (0,[.s (tI (prd 1 l)),.i 0]):=by
 rw[qhx,qng];have h1:=qxK l [] 1 h (by simp;omega) qcT (by unfold qcT;omega);simp only[qFM,qFr] at h1;have e:(qh jr [.s [49],.r (rS (l.map tI)),.i ((l.map tI).length:Int),.i 0,.i 0]).run=some (0,[.s (tI (prd 1 l)),.i 0]):=by rw[qEA];exact h1
 simp only[STD,e]
theorem q7J {m n:Int}(hm:okL m)(hn:okL n)(h:okL (m*n)):(qf [.r [[.s (tI m)],[.s (tI n)]],.i 0]).run=some (0,[.s (tI (m*n)),.i 0]):=by have:=qqo [m,n] ⟨q8c,hm,by rw[qF1];exact hm,hn,by rw[qF1];exact h⟩ (by simp);simp only[prd,qF1] at this;exact this
theorem qpT (h:okQ q):(q0F [.s (tI q.num),.s (tI (q.den:Int))]).run=some (0,[.s (tQ q)]):=by
 rw[qkM,q90];have l1:=qqP (q0W h);have l2:(tN q.den).length<=1024:=h.2;have a1:zp (tI q.num)+zp [47]<=140737488355328:=by unfold zp;simp;omega
 have a2:zp (qjo (tI q.num) [47])+zp (tN q.den)<=140737488355328:=by unfold zp qjo;simp;omega
 by_cases h1:q.den=1
 ·simp only[STD,jo,qeb,h1,q8N h1]
 ·simp only[STD,jo,qeb,h1,q53 h1,a1,a2];simp[qjo]
theorem qy2 (s:qEl):(yq [.s s,.s [45]]).run=some (0,[.b (decide (s.getD 0 0=45))]):=by rw[qet];simp only[STD,qvV]
theorem qxy (n:Int):((tI n).getD 0 0=45)=(n<0):=by
 by_cases h:n<0
 ·rw[q95 h];simp[h]
 ·rw[qfM h];obtain⟨c,t,e,h1,h2⟩:=qdY (jV n.natAbs) (qjM _);rw[e];simp only[List.getD_cons_zero,h,eq_iff_iff,iff_false];intro hc;subst hc;revert h1;decide
theorem qjw {m n:Int}(hn0:n≠0)(hm:okL m)(hn:okL n):(qZ [.s (tI m),.s (tI n),.i 0]).run=some (0,[.s (tQ (Rat.divInt m n)),.i 0])/\okQ (Rat.divInt m n):=by
 have hG:=qBl hm hn;have hg0:0<Nat.gcd m.natAbs n.natAbs:=Nat.gcd_pos_of_pos_right _ (by omega);have hgn:Nat.gcd m.natAbs n.natAbs<=n.natAbs:=Nat.gcd_le_right _ (by omega);have hnum:=Rat.num_divInt m n;have hden:=Rat.den_divInt m n;rw[if_neg hn0] at hden;have hgc:Int.gcd n m=Nat.gcd m.natAbs n.natAbs:=by unfold Int.gcd;exact Nat.gcd_comm _ _
 rw[hgc] at hnum hden;obtain⟨k,hk⟩:((Nat.gcd m.natAbs n.natAbs:Nat):Int) ∣ m:=Int.ofNat_dvd_left.2 (Nat.gcd_dvd_left _ _);obtain⟨l,hl⟩:((Nat.gcd m.natAbs n.natAbs:Nat):Int) ∣ n:=Int.ofNat_dvd_left.2 (Nat.gcd_dvd_right _ _);generalize Nat.gcd m.natAbs n.natAbs=g at *;generalize Rat.divInt m n=q at *;have hgok:okL (g:Int):=qzR (by simpa using hgn) hn;have hm2:k*(g:Int)=m:=by rw[qG8];exact hk.symm
 have hn2:l*(g:Int)=n:=by rw[qG8];exact hl.symm
 have hgz:(g:Int)≠0:=by omega
 have hok:okQ q:=by
  constructor
  ·refine qEr (qlq ?_) hm;rw[hnum];refine qEr (qGw _ _) ?_;rw[qFF,qGx hn0];omega
  ·refine qEr (qb1 ?_) hn;rw[hden];exact Nat.div_le_self _ _
 refine⟨?_,hok⟩;rw[qer];have hP:=qy2 (tI n);simp only[qxy] at hP;by_cases hneg:n<0
 ·have e1:-k=q.num:=by rw[hnum,Int.sign_eq_neg_one_of_neg hneg,<-hm2];rw[show (-1:Int)*(k*(g:Int))=(-k)*(g:Int) by rw[Int.neg_mul,qF1,Int.neg_mul]];exact(Int.mul_ediv_cancel _ hgz).symm
  have e2:-l=(q.den:Int):=by
   rw[hden];have h3:(n.natAbs:Int)=(-l)*(g:Int):=by rw[Int.neg_mul];omega
   rw[Int.natCast_ediv,h3,Int.mul_ediv_cancel _ hgz]
  have hS:=qqK (m:=0) (n:=(g:Int)) q7g hgok (by rw[Int.zero_sub];exact qny hgok);rw[Int.zero_sub,q90] at hS;have Q1:=qoE (k:=-k) (n:=-(g:Int)) (by omega) (by rw[qGl,hm2];exact hm) (qny hgok);have Q2:=qoE (k:=-l) (n:=-(g:Int)) (by omega) (by rw[qGl,hn2];exact hn) (qny hgok);rw[qGl,hm2,e1] at Q1;rw[qGl,hn2,e2] at Q2;have hS':(zg [.s [48],.s (tN g),.i 0]).run=some (0,[.s (tI (-(g:Int))),.i 0]):=hS;simp only[STD,hG,hP,hneg,hS',Q1,Q2,qpT hok]
 ·have e1:k=q.num:=by rw[hnum,Int.sign_eq_one_of_pos (by omega),qF1,<-hm2];exact(Int.mul_ediv_cancel _ hgz).symm
  have e2:l=(q.den:Int):=by
   rw[hden];have h3:(n.natAbs:Int)=l*(g:Int):=by omega
   rw[Int.natCast_ediv,h3,Int.mul_ediv_cancel _ hgz]
  have Q1:=qoE (k:=k) (n:=(g:Int)) hgz (by rw[hm2];exact hm) hgok;have Q2:=qoE (k:=l) (n:=(g:Int)) hgz (by rw[hn2];exact hn) hgok;rw[hm2,e1,q90] at Q1;rw[hn2,e2,q90] at Q2;simp only[STD,hG,hP,hneg,Q1,Q2,qpT hok]
end Go.Eng

namespace Go.Eng
variable {q:Rat}
theorem qtr (a b:Rat):Rat.divInt (a.num*b.den+b.num*a.den) ((a.den:Int)*(b.den:Int))=a+b:=by rw[Rat.add_def',<-Rat.divInt_ofNat];simp
theorem quK (a b:Rat):Rat.divInt (a.num*b.den-b.num*a.den) ((a.den:Int)*(b.den:Int))=a-b:=by rw[Rat.sub_def',<-Rat.divInt_ofNat];simp
theorem qtm (a b:Rat):Rat.divInt (a.num*b.num) ((a.den:Int)*(b.den:Int))=a*b:=by rw[Rat.mul_def',<-Rat.divInt_ofNat];simp
theorem quw (a b:Rat):Rat.divInt (a.num*b.den) ((a.den:Int)*b.num)=a/b:=by rw[Rat.div_def,Rat.inv_def,<-Rat.divInt_mul_divInt,Rat.num_divInt_den]
theorem qhy (a b:Rat):(a.den:Int)*(b.den:Int)≠0:=by have:=Int.mul_pos (qzj a) (qzj b);omega
theorem qDt {m:Int}(h:m≠0):¬tI m=[48]:=by rw[q7S];exact h
def bnd(N D:Nat)(q:Rat):Prop:=qn q<=N/\qd q<=D
theorem bnd.ok {N D:Nat}(h:bnd N D q)(hN:N<=1024)(hD:D<=1024):okQ q:=⟨qEr h.1 hN,qEr h.2 hD⟩
theorem bnd.sm {N D K:Nat}(h:bnd N D q)(hN:N<=K)(hD:D<=K):sm K q:=⟨qEr h.1 hN,qEr h.2 hD⟩
theorem bnd.mono {N D N' D':Nat}(h:bnd N D q)(hN:N<=N')(hD:D<=D'):bnd N' D' q:=⟨qEr h.1 hN,qEr h.2 hD⟩
theorem bnd.mul {N D N' D':Nat}{a b:Rat}(ha:bnd N D a)(hb:bnd N' D' b):bnd (N+N') (D+D') (a*b):=⟨qEr (qzG a b) (Nat.add_le_add ha.1 hb.1),qEr (qzO a b) (Nat.add_le_add ha.2 hb.2)⟩
theorem bnd.add {N D N' D' K:Nat}{a b:Rat}(ha:bnd N D a)(hb:bnd N' D' b)(h1:N+D'+1<=K)(h2:N'+D+1<=K):bnd K (D+D') (a+b):=⟨by have:=qC0 a b;have:=ha.1;have:=ha.2;have:=hb.1;have:=hb.2;omega,by have:=qCA a b;have:=ha.2;have:=hb.2;omega⟩
theorem bnd.sub {N D N' D' K:Nat}{a b:Rat}(ha:bnd N D a)(hb:bnd N' D' b)(h1:N+D'+1<=K)(h2:N'+D+1<=K):bnd K (D+D') (a-b):=⟨by have:=qCi a b;have:=ha.1;have:=ha.2;have:=hb.1;have:=hb.2;omega,by have:=qDo a b;have:=ha.2;have:=hb.2;omega⟩
theorem bnd.div {N D N' D':Nat}{a b:Rat}(h0:b≠0)(ha:bnd N D a)(hb:bnd N' D' b):bnd (N+D') (D+N') (a/b):=⟨by have:=qC9 a h0;have:=ha.1;have:=hb.2;omega,by have:=qCv a h0;have:=ha.2;have:=hb.1;omega⟩
theorem bnd.neg {N D:Nat}{a:Rat}(h:bnd N D a):bnd N D (-a):=⟨by rw[qCZ];exact h.1,h.2⟩
theorem ko:bnd 1 1 0:=⟨by decide,by decide⟩
theorem qqO:bnd 1 1 1:=⟨by decide,by decide⟩
theorem qnA:bnd 1 1 2:=⟨by decide,by decide⟩
theorem q66 {m n:Int}{N M:Nat}(hm:nl m<=N)(hn:nl n<=M)(h:N+M<=1024):okL (m*n):=by have:=q3A m n;unfold okL;omega
theorem qb4 {N D N' D':Nat}{a b:Rat}(ha:bnd N D a)(hb:bnd N' D' b)(h1:N+N'<=1024)(h2:D+D'<=1024):(wK [.s (tQ a),.s (tQ b)]).run=some (0,[.s (tQ (a*b)),.i 0]):=by
 have oa:=ha.ok (by omega) (by omega);have ob:=hb.ok (by omega) (by omega);have k1:okL (a.num*b.num):=q66 ha.1 hb.1 h1;have k2:okL ((a.den:Int)*(b.den:Int)):=q66 ha.2 hb.2 h2;have m1:=q7J (q0W oa) (q0W ob) k1;have m2:=q7J (yK oa) (yK ob) k2;have hL:=(qjw (qhy a b) k1 k2).1;rw[qtm] at hL;rw[qpm];have key:(wQ [.s (tQ a),.s (tQ b)]).run=some (0,[.s (tQ (a*b)),.i 0]):=by
  rw[qa5];have h1:(q1H [.s (tI a.num),.s (tI (a.den:Int)),.s (tI b.num),.s (tI (b.den:Int)),.i 0]).run=some (0,[.s (tI (a.num*b.num)),.s (tI ((a.den:Int)*(b.den:Int))),.i 0]):=by rw[qm1];simp only[STD,m1,m2]
  simp only[STD,qd2 oa ob,q4P oa,q4P ob,h1,jo,qDt (qhy a b),hL]
 simp only[STD,key]
theorem qbt {N D N' D':Nat}{a b:Rat}(ha:bnd N D a)(hb:bnd N' D' b)(h1:N+D'<=1023)(h2:N'+D<=1023)(h3:D+D'<=1024):(vB [.s (tQ a),.s (tQ b)]).run=some (0,[.s (tQ (a+b)),.i 0]):=by
 have p1:=qgr a;have p2:=qgr b;have p3:=qnb a;have p4:=qnb b;have oa:okQ a:=⟨by have:=ha.1;have:=hb.2;omega,by have:=ha.2;have:=hb.2;omega⟩;have ob:okQ b:=⟨by have:=hb.1;have:=ha.2;omega,by have:=ha.2;have:=hb.2;omega⟩;have k1:okL (a.num*(b.den:Int)):=q66 ha.1 hb.2 (by omega);have k2:okL (b.num*(a.den:Int)):=q66 hb.1 ha.2 (by omega);have k3:okL ((a.den:Int)*(b.den:Int)):=q66 ha.2 hb.2 h3;have k4:okL (a.num*(b.den:Int)+b.num*(a.den:Int)):=by have q1:=qt3 (a.num*(b.den:Int)) (b.num*(a.den:Int));have q2:=q3A a.num (b.den:Int);have q3:=q3A b.num (a.den:Int);have q4:nl a.num<=N:=ha.1;have q5:nl (b.den:Int)<=D':=hb.2;have q6:nl b.num<=N':=hb.1;have q7:nl (a.den:Int)<=D:=ha.2;unfold okL;omega
 have m1:=q7J (q0W oa) (yK ob) k1;have m2:=q7J (q0W ob) (yK oa) k2;have m3:=q7J (yK oa) (yK ob) k3;have hL:=(qjw (qhy a b) k4 k3).1;rw[qtr] at hL;rw[qpb];have key:(wV [.s (tQ a),.s (tQ b)]).run=some (0,[.s (tQ (a+b)),.i 0]):=by
  rw[q9j];have h1:(q1z [.s (tI a.num),.s (tI (a.den:Int)),.s (tI b.num),.s (tI (b.den:Int)),.i 0]).run=some (0,[.s (tI (a.num*b.den+b.num*a.den)),.s (tI ((a.den:Int)*(b.den:Int))),.i 0]):=by rw[qmi];simp only[STD,m1,m2,m3,qAM k1 k2 k4]
  simp only[STD,qd2 oa ob,q4P oa,q4P ob,h1,jo,qDt (qhy a b),hL]
 simp only[STD,key]
theorem q5a {N D N' D':Nat}{a b:Rat}(ha:bnd N D a)(hb:bnd N' D' b)(h1:N+D'<=1023)(h2:N'+D<=1023)(h3:D+D'<=1024):(zu [.s (tQ a),.s (tQ b)]).run=some (0,[.s (tQ (a-b)),.i 0]):=by
 have p1:=qgr a;have p2:=qgr b;have p3:=qnb a;have p4:=qnb b;have oa:okQ a:=⟨by have:=ha.1;have:=hb.2;omega,by have:=ha.2;have:=hb.2;omega⟩;have ob:okQ b:=⟨by have:=hb.1;have:=ha.2;omega,by have:=ha.2;have:=hb.2;omega⟩;have k1:okL (a.num*(b.den:Int)):=q66 ha.1 hb.2 (by omega);have k2:okL (b.num*(a.den:Int)):=q66 hb.1 ha.2 (by omega);have k3:okL ((a.den:Int)*(b.den:Int)):=q66 ha.2 hb.2 h3;have k4:okL (a.num*(b.den:Int)-b.num*(a.den:Int)):=by have q1:=qvQ (a.num*(b.den:Int)) (b.num*(a.den:Int));have q2:=q3A a.num (b.den:Int);have q3:=q3A b.num (a.den:Int);have q4:nl a.num<=N:=ha.1;have q5:nl (b.den:Int)<=D':=hb.2;have q6:nl b.num<=N':=hb.1;have q7:nl (a.den:Int)<=D:=ha.2;unfold okL;omega
 have m1:=q7J (q0W oa) (yK ob) k1;have m2:=q7J (q0W ob) (yK oa) k2;have m3:=q7J (yK oa) (yK ob) k3;have hL:=(qjw (qhy a b) k4 k3).1;rw[quK] at hL;rw[qq6];have key:(wX [.s (tQ a),.s (tQ b)]).run=some (0,[.s (tQ (a-b)),.i 0]):=by
  rw[q9y];have h1:(q1W [.s (tI a.num),.s (tI (a.den:Int)),.s (tI b.num),.s (tI (b.den:Int)),.i 0]).run=some (0,[.s (tI (a.num*b.den-b.num*a.den)),.s (tI ((a.den:Int)*(b.den:Int))),.i 0]):=by rw[qlV];simp only[STD,m1,m2,m3,qqK k1 k2 k4]
  simp only[STD,qd2 oa ob,q4P oa,q4P ob,h1,jo,qDt (qhy a b),hL]
 simp only[STD,key]
theorem qbs (q:Rat):(tQ q=[48])=(q=0):=by have:([48]:qEl)=tQ 0:=rfl;rw[this,qtz]
theorem qll {N D N' D':Nat}{a b:Rat}(hb0:b≠0)(ha:bnd N D a)(hb:bnd N' D' b)(h1:N+D'<=1024)(h2:D+N'<=1024):(uB [.s (tQ a),.s (tQ b)]).run=some (0,[.s (tQ (a/b)),.i 0]):=by
 have oa:okQ a:=⟨by have:=ha.1;omega,by have:=ha.2;omega⟩;have ob:okQ b:=⟨by have:=hb.1;omega,by have:=hb.2;omega⟩;have k1:okL (a.num*(b.den:Int)):=q66 ha.1 hb.2 h1;have k2:okL ((a.den:Int)*b.num):=q66 ha.2 hb.1 h2;have hbn:b.num≠0:=fun h=>hb0 (Rat.num_eq_zero.1 h);have hz:(a.den:Int)*b.num≠0:=by have:=qzj a;exact Int.mul_ne_zero (by omega) hbn
 have m1:=q7J (q0W oa) (yK ob) k1;have m2:=q7J (yK oa) (q0W ob) k2;have hL:=(qjw hz k1 k2).1;rw[quw] at hL;rw[qq7];have key:(wS [.s (tQ a),.s (tQ b)]).run=some (0,[.s (tQ (a/b)),.i 0]):=by
  rw[q9D];have h1:(q1Q [.s (tI a.num),.s (tI (a.den:Int)),.s (tI b.num),.s (tI (b.den:Int)),.i 0]).run=some (0,[.s (tI (a.num*b.den)),.s (tI ((a.den:Int)*b.num)),.i 0]):=by rw[qmm];simp only[STD,m1,m2]
  simp only[STD,qd2 oa ob,q4P oa,q4P ob,h1,jo,qDt hz,hL]
 simp only[STD,qd2 oa ob,jo,qbs,hb0,key]
theorem q6c {m:Int}(h:okL m):(zk [.s (tI m),.i 0]).run=some (0,[.i (sgn m),.i 0]):=by rw[qgd];simp only[STD,qiB h]
theorem qBB (m:Int):sgn m=sgq (m:Rat):=by unfold sgq;simp
theorem qrm {q k:Rat}(hk:0<k):sgq (k*q)=sgq q:=by
 rcases qai q with⟨h,e⟩|⟨h,e⟩|⟨h,e⟩
 ·rw[e,qzP];have:=(Rat.mul_neg_iff_of_pos_left hk).2 h;exact this
 ·rw[e,h,Rat.mul_zero];rfl
 ·rw[e,qqG];exact qEP hk h
theorem q1P (a:Rat):(0:Rat)<(a.den:Rat):=by have:=a.den_nz;exact Rat.natCast_pos.2 (by omega)
theorem qcb (a:Rat):(a.num:Rat)=a*(a.den:Rat):=by
 have h:a=(a.num:Rat)/(a.den:Rat):=by rw[<-Rat.mkRat_eq_div,Rat.mkRat_self]
 have h2:=Rat.div_mul_cancel (a:=(a.num:Rat)) (b:=(a.den:Rat)) (by have:=q1P a;grind);rw[<-h] at h2;exact h2.symm
def rX(a b c:Rat):Int:=a.num*b.den*c.den
def rY(a b:Rat):Int:=b.num*a.den
def rR(c:Rat):Int:=c.num*c.den
theorem qBU (a b c:Rat):sgn (rX a b c)=sgq a:=by unfold rX sgq;rw[qbO (qzj c),qbO (qzj b)]
theorem qC1 (a b:Rat):sgn (rY a b)=sgq b:=by unfold rY sgq;rw[qbO (qzj a)]
theorem qCY (c:Rat):sgn (rR c)=sgq c:=by unfold rR sgq;rw[qbO (qzj c)]
theorem qCc (a b c:Rat):sgn (rX a b c*rX a b c-rY a b*rY a b*rR c)=sgq (a*a-b*b*c):=by
 rw[qBB];have h1:=q1P a;have h2:=q1P b;have h3:=q1P c;have hk:(0:Rat)<((a.den:Rat)*b.den*c.den)*((a.den:Rat)*b.den*c.den):=by have:=qEP (qEP h1 h2) h3;exact qEP this this
 rw[<-qrm (q:=a*a-b*b*c) hk];congr 1;unfold rX rY rR;simp only[qF2,qEB,qcb,Rat.intCast_natCast];grind
theorem qxf (a b c:Rat):qel a b c=if 0<=sgn (rX a b c)*(sgn (rY a b)*sgn (rR c)) then (if sgn (rX a b c)=0 then sgn (rY a b)*sgn (rR c) else sgn (rX a b c)) else sgn (rX a b c)*sgn (rX a b c*rX a b c-rY a b*rY a b*rR c):=by unfold qel;rw[qBU,qC1,qCY,qCc]
theorem qAZ {x y r:Int}(hx:okL x)(hy:okL y)(hr:okL r)(hxx:okL (x*x))(hyy:okL (y*y))(hyr:okL (y*y*r))(hd:okL (x*x-y*y*r)) :(yi [.s (tI x),.s (tI y),.s (tI r),.i 0]).run=some (0,[.i (if 0<=sgn x*(sgn y*sgn r) then (if sgn x=0 then sgn y*sgn r else sgn x) else sgn x*sgn (x*x-y*y*r)),.i 0]):=by
 rw[qh9];have bx:=qlu x;have bY:=qlu y;have br:=qlu r;have bd:=qlu (x*x-y*y*r);have m1:=q7J hx hx hxx;have m2:=qqo [y,y,r] ⟨q8c,hy,by rw[qF1];exact hy,hy,by rw[qF1];exact hyy,hr,by rw[qF1];exact hyr⟩ (by simp);simp only[prd,qF1] at m2;have m2':(qf [.r [[.s (tI y)],[.s (tI y)],[.s (tI r)]],.i 0]).run=some (0,[.s (tI (y*y*r)),.i 0]):=m2;by_cases hc:0<=sgn x*(sgn y*sgn r)
 ·by_cases h0:sgn x=0
  ·have w0:vk .i64 0 (sgn y*sgn r)=0:=by rw[q6e (by rw[Int.zero_mul];omega),Int.zero_mul]
   simp only[STD,q6c hx,q6c hy,q6c hr,qhG bY br,h0,w0,Int.zero_mul,qES,eq_self]
  ·simp only[STD,q6c hx,q6c hy,q6c hr,qhG bY br,qhG bx (qDC bY br),hc,h0]
 ·simp only[STD,q6c hx,q6c hy,q6c hr,qhG bY br,qhG bx (qDC bY br),hc,m1,m2',qqK hxx hyr hd,q6c hd,qhG bx bd]
theorem qsR (m:Int):okL (0*m):=by rw[Int.zero_mul];exact q7g
theorem qB0 {c:Rat}(h:0<=c):¬(tQ c).getD 0 0=45:=by
 have hn:¬c.num<0:=by have:=Rat.num_nonneg.2 h;omega
 have e:(tQ c).getD 0 0=(tI c.num).getD 0 0:=by
  by_cases hd:c.den=1
  ·rw[q8N hd]
  ·rw[q53 hd];obtain⟨x,t,ex⟩:∃x t,tI c.num=x::t:=List.exists_cons_of_ne_nil (qFS.1 (qjI _));rw[ex];simp
 rw[e,qxy];exact hn
theorem qC4 {c:Rat}(h:c<0):(tQ c).getD 0 0=45:=by
 have h1:¬0<=c:=by grind
 have hn:c.num<0:=by have h2:¬0<=c.num:=fun h=>h1 (Rat.num_nonneg.1 h);omega
 have e:(tQ c).getD 0 0=(tI c.num).getD 0 0:=by
  by_cases hd:c.den=1
  ·rw[q8N hd]
  ·rw[q53 hd];obtain⟨x,t,ex⟩:∃x t,tI c.num=x::t:=List.exists_cons_of_ne_nil (qFS.1 (qjI _));rw[ex];simp
 rw[e,qxy];exact hn
theorem qhb (s:qEl):(sat s 0=45)=(s.getD 0 0=45):=by unfold sat;simp only[Int.toNat_zero,eq_iff_iff];exact⟨fun h=>UInt8.toNat_inj.1 (by show (s.getD 0 0).toNat=45;omega),fun h=>by rw[h];rfl⟩
structure RootOk (a b c:Rat):Prop where
 oa:okQ a
 ob:okQ b
 oc:okQ c
 x1:okL (a.num*b.den)
 x:okL (rX a b c)
 y:okL (rY a b)
 r:okL (rR c)
 xx:okL (rX a b c*rX a b c)
 yy:okL (rY a b*rY a b)
 yr:okL (rY a b*rY a b*rR c)
 d:okL (rX a b c*rX a b c-rY a b*rY a b*rR c)
theorem quH {a b c:Rat}(h:RootOk a b c)(hc:0<=c):(q0p [.s (tQ a),.s (tQ b),.s (tQ c)]).run=some (0,[.i (qel a b c),.i 0]):=by
 rw[qib];have key:(kv [.s (tQ a),.s (tQ b),.s (tQ c),.s [48],.s [48]]).run=some (0,[.i (qel a b c),.i 0]):=by
  rw[qh2];have o0:okQ 0:=ko.ok (by omega) (by omega);have hz:=q0i o0;rw[show tQ 0=[48] from rfl] at hz;have hch:=qgP (l:=[tQ a,tQ b,tQ c,[48],[48]]) (by simp) (fun s hs=>by
   simp only[qEt,qGu,or_false] at hs;rcases hs with rfl|rfl|rfl|rfl|rfl
   ·exact q0i h.oa
   ·exact q0i h.ob
   ·exact q0i h.oc
   ·exact hz
   ·exact hz)
  have hch':(qv [.r [[.s (tQ a)],[.s (tQ b)],[.s (tQ c)],[.s [48]],[.s [48]]]]).run=some (0,[.i 0]):=hch;have c0:=q4P o0;rw[show tQ 0=[48] from rfl] at c0;replace c0:(qE [.s [48]]).run=some (0,[.s [48],.s [49],.b false]):=c0;have l1:(0:Int)<zp (tQ c):=by have h1:=qlj c;have h2:=qgr c;unfold zp;omega
  have l2:(0:Int)<zp [48]:=by decide
  have n1:¬sat (tQ c) 0=45:=by rw[qhb];exact qB0 hc
  have n2:¬sat [48] 0=45:=by decide
  have mx:=qqo [a.num,b.den,c.den,1,1] ⟨q8c,q0W h.oa,by rw[qF1];exact q0W h.oa,yK h.ob,by rw[qF1];exact h.x1,yK h.oc,by rw[qF1];exact h.x,q8c,by rw[qF1,Int.mul_one];exact h.x,q8c,by rw[qF1,Int.mul_one,Int.mul_one];exact h.x⟩ (by simp);have my:=qqo [b.num,a.den,1,1] ⟨q8c,q0W h.ob,by rw[qF1];exact q0W h.ob,yK h.oa,by rw[qF1];exact h.y,q8c,by rw[qF1,Int.mul_one];exact h.y,q8c,by rw[qF1,Int.mul_one,Int.mul_one];exact h.y⟩ (by simp);have mr:=q7J (q0W h.oc) (yK h.oc) h.r;have mz:=qqo [0,a.den,b.den,c.den] ⟨q8c,q7g,by rw[qFo];exact q7g,yK h.oa,by simp only[qFo];exact qsR _,yK h.ob,by simp only[qFo,Int.zero_mul];exact q7g,yK h.oc,by simp only[qFo,Int.zero_mul];exact q7g⟩ (by simp);have mt:=q7J (m:=0) (n:=1) q7g q8c (qsR _);simp only[prd,qF1,Int.mul_one,Int.zero_mul] at mx my mz mt;have mx':(qf [.r [[.s (tI a.num)],[.s (tI (b.den:Int))],[.s (tI (c.den:Int))],[.s [49]],[.s [49]]],.i 0]).run=some (0,[.s (tI (rX a b c)),.i 0]):=mx;have my':(qf [.r [[.s (tI b.num)],[.s (tI (a.den:Int))],[.s [49]],[.s [49]]],.i 0]).run=some (0,[.s (tI (rY a b)),.i 0]):=my;have mr':(qf [.r [[.s (tI c.num)],[.s (tI (c.den:Int))]],.i 0]).run=some (0,[.s (tI (rR c)),.i 0]):=mr;have mz':(qf [.r [[.s [48]],[.s (tI (a.den:Int))],[.s (tI (b.den:Int))],[.s (tI (c.den:Int))]],.i 0]).run=some (0,[.s (tI 0),.i 0]):=mz;have mt':(qf [.r [[.s [48]],[.s [49]]],.i 0]).run=some (0,[.s (tI 0),.i 0]):=mt;have hR:=qAZ h.x h.y h.r h.xx h.yy h.yr h.d;rw[<-qxf] at hR;have w1:vk .i64 (sgn 0) (sgn 0)=0:=by decide
  have w2:vk .i64 (qel a b c) 0=0:=by rw[q6e (by rw[qFo];omega),qFo]
  by_cases h0:qel a b c=0
  ·simp only[STD,hch',l1,l2,n1,n2,qES,and_self,q4P h.oa,q4P h.ob,q4P h.oc,c0,mx',my',mr',mz',mt',hR,q6c q7g,w1,h0,show vk .i64 0 0=0 from rfl]
  ·simp only[STD,hch',l1,l2,n1,n2,qES,and_self,q4P h.oa,q4P h.ob,q4P h.oc,c0,mx',my',mr',mz',mt',hR,q6c q7g,w1,w2,h0]
 simp only[STD,key]
theorem RootOk.of {N D N' D' R E:Nat}{a b c:Rat}(ha:bnd N D a)(hb:bnd N' D' b)(hc:bnd R E c)(h1:2*(N+D'+E)<=1023)(h2:2*(N'+D)+R+E<=1023):RootOk a b c:=by have q1:nl a.num<=N:=ha.1;have q2:nl (a.den:Int)<=D:=ha.2;have q3:nl b.num<=N':=hb.1;have q4:nl (b.den:Int)<=D':=hb.2;have q5:nl c.num<=R:=hc.1;have q6:nl (c.den:Int)<=E:=hc.2;have x1:=q3A a.num b.den;have x2:=q3A (a.num*b.den) c.den;have y1:=q3A b.num a.den;have r1:=q3A c.num c.den;have xx:=q3A (rX a b c) (rX a b c);have yy:=q3A (rY a b) (rY a b);have yr:=q3A (rY a b*rY a b) (rR c);have dd:=qvQ (rX a b c*rX a b c) (rY a b*rY a b*rR c);have e1:nl (rX a b c)=nl (a.num*b.den*c.den):=rfl;have e2:nl (rY a b)=nl (b.num*a.den):=rfl;have e3:nl (rR c)=nl (c.num*c.den):=rfl;have p1:=qkz a.num;have p2:=qkz b.num;have p3:=qkz c.num;have p4:=qkz (a.den:Int);have p5:=qkz (b.den:Int);have p6:=qkz (c.den:Int);exact { oa:=⟨by show nl a.num<=1024;omega,by show nl (a.den:Int)<=1024;omega⟩,ob:=⟨by show nl b.num<=1024;omega,by show nl (b.den:Int)<=1024;omega⟩,oc:=⟨by show nl c.num<=1024;omega,by show nl (c.den:Int)<=1024;omega⟩,x1:=by unfold okL;omega,x:=by unfold okL;omega,y:=by unfold okL;omega,r:=by unfold okL;omega,xx:=by unfold okL;omega,yy:=by unfold okL;omega,yr:=by unfold okL;omega,d:=by unfold okL;omega }
end Go.Eng

namespace Go.Eng
variable {m:Int}
theorem q1y (hm:-999999999999999<=m/\m<=999999999999999):(jk [.i m]).run=some (0,[.s (tQ (m:Rat))]):=by rw[qlK,qqQ];simp only[STD,qaa m (by omega)]
theorem qh8 (hm:-999999999999999<=m/\m<=999999999999999):(q1D [.i m]).run=some (0,[.s (tQ (m:Rat))]):=by rw[qmk,qqQ];simp only[STD,qtw m (by omega) (by omega)]
def co(x:Int):Prop:=-100000<=x/\x<=100000
theorem qei {x:Int}(h:co x):-999999999999999<=x/\x<=999999999999999:=by unfold co at h;omega
def qAU(l:R)(i:Nat):Prop:=co (cI l i 0)/\co (cI l i 1)/\co (cI l i 2)
def q6x(l:R):Prop:=l.length<=64/\∀i,i<l.length->qAU l i
theorem qop {k:Nat}(h:nl m<=k)(_:0<k):bnd k 1 (m:Rat):=by
 refine⟨?_,?_⟩
 ·unfold qn;rw[Rat.num_intCast];exact h
 ·unfold qd;rw[Rat.den_intCast];decide
theorem qDw {k:Nat}(h:m.natAbs<10^k)(hk:0<k):nl m<=k:=by obtain⟨j,rfl⟩:∃j,k=j+1:=⟨k-1,by omega⟩;exact q0D j _ h
theorem qpq {x:Int}(h:co x):bnd 6 1 (x:Rat):=qop (qDw (by unfold co at h;omega) (by omega)) (by omega)
end Go.Eng

namespace Go.Eng
structure RelM (Z:Mx) (N C:Nat) (M:Nat->Nat->Rat):Prop where
 dim:Dim Z N C
 ok:∀i j,i<N->j<C->q5B Z i j=tQ (M i j)
theorem RelM.congr{Z:Mx}{N C:Nat}{M M':Nat->Nat->Rat}(h:RelM Z N C M)(e:∀i j,i<N->j<C->M i j=M' i j):RelM Z N C M':=⟨h.dim,fun i j hi hj=>by rw[h.ok i j hi hj,e i j hi hj]⟩
theorem qvg{Z:Mx}{N C i c:Nat}(h:Dim Z N C)(hi:i<N)(hc:c<C)(v:Bs)(a b:Nat):q5B (qud Z i c v) a b=if a=i/\b=c then v else q5B Z a b:=by
 unfold q5B qud;by_cases ha:a=i
 ·subst ha;have hl:(Z.getD a []).length=C:=h.row hi;have h1:((Z.set a ((Z.getD a []).set c v)).getD a [])=(Z.getD a []).set c v:=by rw[qEn,qEC (by rw[h.n];exact hi)];rfl
  rw[h1];by_cases hb:b=c
  ·subst hb;rw[if_pos ⟨rfl,rfl⟩,qEn,qEC (by omega)];rfl
  ·rw[if_neg (fun x=>hb x.2),qEn,qEp (fun e=>hb e.symm),<-qEn]
 ·rw[if_neg (fun x=>ha x.1)];have h1:((Z.set i ((Z.getD i []).set c v)).getD a [])=Z.getD a []:=by rw[qEn,qEp (fun e=>ha e.symm),qEn]
  rw[h1]
theorem qtI{Z:Mx}{N C i j:Nat}(h:Dim Z N C)(hi:i<N)(hj:j<N)(a b:Nat):q5B (q8z Z i j) a b=q5B Z (swI j i a) b:=by
 unfold q5B q8z swI;have hn:=h.n;have g:∀(L:Mx) (x y:Nat) (r:List Bs),L.length=N->x<N->(L.set x r).getD y []=if y=x then r else L.getD y []:=fun L x y r hL hx=>by
  by_cases e:y=x
  ·subst e;rw[if_pos rfl,qEn,qEC (by omega)];rfl
  ·rw[if_neg e,qEn,qEp (fun z=>e z.symm),qEn]
 rw[g _ j a _ (by rw[qFN,hn]) hj];by_cases e1:a=j
 ·rw[if_pos e1,if_pos e1]
 ·rw[if_neg e1,if_neg e1,g _ i a _ hn hi];by_cases e2:a=i
  ·rw[if_pos e2,if_pos e2]
  ·rw[if_neg e2,if_neg e2]
theorem RelM.set{Z:Mx}{N C:Nat}{M:Nat->Nat->Rat}(h:RelM Z N C M){i c:Nat}(hi:i<N)(hc:c<C)(q:Rat):RelM (qud Z i c (tQ q)) N C (fun a b=>if a=i/\b=c then q else M a b):=
 ⟨h.dim.set hi _,fun a b ha hb=>by
  rw[qvg h.dim hi hc];split
  ·rfl
  ·exact h.ok a b ha hb⟩
theorem RelM.swap{Z:Mx}{N C:Nat}{M:Nat->Nat->Rat}(h:RelM Z N C M){i j:Nat}(hi:i<N)(hj:j<N):RelM (q8z Z i j) N C (fun a b=>M (swI j i a) b):=⟨h.dim.swap hi hj,fun a b ha hb=>by rw[qtI h.dim hi hj];exact h.ok _ b (qpv hj hi ha) hb⟩
theorem qvr{dv:Op2}{N C p:Nat}{M:Nat->Nat->Rat}{f:Rat}(hp:p<N)(hd:∀j,j<C->dv (tQ (M p j)) (tQ f)=some (tQ (M p j/f))) :
  ∀(g m:Nat),m+g=C->∀Z,RelM Z N C (fun i j=>if i=p/\j<m then M p j/f else M i j)->∃Z',qlS dv p (tQ f) C g Z=some Z'/\RelM Z' N C (fun i j=>if i=p then M p j/f else M i j)
 | 0,m,hm,Z,hZ=>⟨Z,rfl,hZ.congr fun i j hi hj=>by
   by_cases e:i=p
   ·rw[if_pos ⟨e,by omega⟩,if_pos e]
   ·rw[if_neg (fun x=>e x.1),if_neg e]⟩
 | g+1,m,hm,Z,hZ=>by
  have h1:C-(g+1)=m:=by omega
  have h2:q5B Z p m=tQ (M p m):=by rw[hZ.ok p m hp (by omega),if_neg (by omega)]
  unfold qlS;rw[h1,h2,hd m (by omega),qEO];exact qvr hp hd g (m+1) (by omega) _ ((hZ.set hp (show m<C by omega) (M p m/f)).congr fun i j hi hj=>by
   by_cases e:i=p
   ·subst e;by_cases e2:j=m
    ·subst e2;rw[if_pos ⟨rfl,rfl⟩,if_pos ⟨rfl,by omega⟩]
    ·rw[if_neg (fun x=>e2 x.2)];by_cases e3:j<m
     ·rw[if_pos ⟨rfl,e3⟩,if_pos ⟨rfl,by omega⟩]
     ·rw[if_neg (fun x=>e3 x.2),if_neg (fun x=>e3 (by omega))]
   ·rw[if_neg (fun x=>e x.1),if_neg (fun x=>e x.1),if_neg (fun x=>e x.1)])
theorem qnd{ml sb:Op2}{N C p i:Nat}{M:Nat->Nat->Rat}{t:Rat}(hp:p<N)(hi:i<N)(hip:i≠p)(h1:∀j,j<C->ml (tQ t) (tQ (M p j))=some (tQ (t*M p j)))(h2:∀j,j<C->sb (tQ (M i j)) (tQ (t*M p j))=some (tQ (M i j-t*M p j))) :
  ∀(g m:Nat),m+g=C->∀Z,RelM Z N C (fun a j=>if a=i/\j<m then M i j-t*M p j else M a j)->∃Z',qbk ml sb i p (tQ t) C g Z=some Z'/\RelM Z' N C (fun a j=>if a=i then M i j-t*M p j else M a j)
 | 0,m,hm,Z,hZ=>⟨Z,rfl,hZ.congr fun a j ha hj=>by
   by_cases e:a=i
   ·rw[if_pos ⟨e,by omega⟩,if_pos e]
   ·rw[if_neg (fun x=>e x.1),if_neg e]⟩
 | g+1,m,hm,Z,hZ=>by
  have e1:C-(g+1)=m:=by omega
  have q1:q5B Z p m=tQ (M p m):=by rw[hZ.ok p m hp (by omega),if_neg (fun x=>hip x.1.symm)]
  have q2:q5B Z i m=tQ (M i m):=by rw[hZ.ok i m hi (by omega),if_neg (by omega)]
  unfold qbk;rw[e1,q1,h1 m (by omega),qEO,q2,h2 m (by omega),qEO];exact qnd hp hi hip h1 h2 g (m+1) (by omega) _ ((hZ.set hi (show m<C by omega) (M i m-t*M p m)).congr fun a j ha hj=>by
   by_cases e:a=i
   ·subst e;by_cases e2:j=m
    ·subst e2;rw[if_pos ⟨rfl,rfl⟩,if_pos ⟨rfl,by omega⟩]
    ·rw[if_neg (fun x=>e2 x.2)];by_cases e3:j<m
     ·rw[if_pos ⟨rfl,e3⟩,if_pos ⟨rfl,by omega⟩]
     ·rw[if_neg (fun x=>e3 x.2),if_neg (fun x=>e3 (by omega))]
   ·rw[if_neg (fun x=>e x.1),if_neg (fun x=>e x.1),if_neg (fun x=>e x.1)])
theorem qnm{ml sb:Op2}{N C p k:Nat}{M:Nat->Nat->Rat}(hp:p<N)(hk:k<C)(h1:∀i j,i<N->i≠p->j<C->ml (tQ (M i k)) (tQ (M p j))=some (tQ (M i k*M p j)))
  (h2:∀i j,i<N->i≠p->j<C->sb (tQ (M i j)) (tQ (M i k*M p j))=some (tQ (M i j-M i k*M p j))) :
  ∀(g m:Nat),m+g=N->∀Z,RelM Z N C (fun i j=>if i<m/\i≠p then M i j-M i k*M p j else M i j)->∃Z',qjd ml sb p k N C g Z=some Z'/\RelM Z' N C (fun i j=>if i≠p then M i j-M i k*M p j else M i j)
 | 0,m,hm,Z,hZ=>⟨Z,rfl,hZ.congr fun i j hi hj=>by
   by_cases e:i≠p
   ·rw[if_pos ⟨by omega,e⟩,if_pos e]
   ·rw[if_neg (fun x=>e x.2),if_neg e]⟩
 | g+1,m,hm,Z,hZ=>by
  have e1:N-(g+1)=m:=by omega
  have q1:q5B Z m k=tQ (M m k):=by rw[hZ.ok m k (by omega) hk,if_neg (by omega)]
  unfold qjd;rw[e1,q1];have zi:=qbs (M m k);have skip:(m=p\/M m k=0)->RelM Z N C (fun i j=>if i<m+1/\i≠p then M i j-M i k*M p j else M i j):=fun h=>hZ.congr fun i j hi hj=>by
   by_cases e:i=m
   ·subst e;rw[if_neg (by omega)];rcases h with h|h
    ·rw[if_neg (fun x=>x.2 h)]
    ·by_cases e2:i=p
     ·rw[if_neg (fun x=>x.2 e2)]
     ·rw[if_pos ⟨by omega,e2⟩,h];grind
   ·by_cases e2:i<m/\i≠p
    ·rw[if_pos e2,if_pos ⟨by omega,e2.2⟩]
    ·rw[if_neg e2,if_neg (fun x=>e2 ⟨by omega,x.2⟩)]
  by_cases hc:m=p\/M m k=0
  ·rw[if_pos (by rw[zi];exact hc)];exact qnm hp hk h1 h2 g (m+1) (by omega) Z (skip hc)
  ·rw[if_neg (by rw[zi];exact hc)];rw[not_or] at hc;obtain⟨Z1,r1,r2⟩:=qnd (ml:=ml) (sb:=sb) (M:=fun i j=>if i<m/\i≠p then M i j-M i k*M p j else M i j) (t:=M m k) hp (show m<N by omega) hc.1
    (fun j hj=>by rw[if_neg (by omega)];exact h1 m j (by omega) hc.1 hj) (fun j hj=>by rw[if_neg (by omega),if_neg (by omega)];exact h2 m j (by omega) hc.1 hj) C 0 (by omega) Z (hZ.congr fun i j hi hj=>by rw[if_neg (show ¬(i=m/\j<0) by omega)])
   rw[r1,qEO];exact qnm hp hk h1 h2 g (m+1) (by omega) Z1 (r2.congr fun i j hi hj=>by
    by_cases e:i=m
    ·subst e;rw[if_pos rfl,if_neg (by omega),if_neg (by omega),if_pos ⟨by omega,hc.1⟩]
    ·rw[if_neg e];by_cases e2:i<m/\i≠p
     ·rw[if_pos e2,if_pos ⟨by omega,e2.2⟩]
     ·rw[if_neg e2,if_neg (fun x=>e2 ⟨by omega,x.2⟩)])
def pvI(M:Nat->Nat->Rat)(k N:Nat):Nat->Nat
 | 0=>N
 | g+1=>if M (N-(g+1)) k=0 then pvI M k N g else N-(g+1)
theorem qhd(M:Nat->Nat->Rat)(k N:Nat):∀g,g<=N->(pvI M k N g=N/\∀i,N-g<=i->i<N->M i k=0)\/(N-g<=pvI M k N g/\pvI M k N g<N/\M (pvI M k N g) k≠0)
 | 0,_=>.inl ⟨rfl,fun i h1 h2=>by omega⟩
 | g+1,h=>by
  unfold pvI;by_cases e:M (N-(g+1)) k=0
  ·rw[if_pos e];rcases qhd M k N g (by omega) with⟨h1,h2⟩|⟨h1,h2,h3⟩
   ·refine .inl ⟨h1,fun i a b=>?_⟩;by_cases q:i=N-(g+1)
    ·rw[q];exact e
    ·exact h2 i (by omega) b
   ·exact .inr ⟨by omega,h2,h3⟩
  ·rw[if_neg e];exact .inr ⟨qEo _,by omega,e⟩
theorem qsM{Z:Mx}{N C k:Nat}{M:Nat->Nat->Rat}(h:RelM Z N C M)(hk:k<C):∀g,g<=N->qbC Z k N g=pvI M k N g
 | 0,_=>rfl
 | g+1,hg=>by
  unfold qbC pvI;rw[h.ok (N-(g+1)) k (by omega) hk,qsM h hk g (by omega)];have zi:=qbs (M (N-(g+1)) k);by_cases e:M (N-(g+1)) k=0
  ·rw[if_pos e,if_pos (by rw[zi];exact e)]
  ·rw[if_neg e,if_neg (by rw[zi];exact e)]
def pvQ(N c:Nat)(M:Nat->Nat->Rat):Option Nat:=if pvI M c N (N-c)=N then none else some (pvI M c N (N-c))
theorem qwL(N:Nat):Pivots N (pvQ N) where
 some:=fun c M i hc h=>by
  unfold pvQ at h;rcases qhd M c N (N-c) (by omega) with⟨h1,_⟩|⟨h1,h2,h3⟩
  ·rw[if_pos h1] at h;cases h
  ·rw[if_neg (by omega)] at h;cases h;exact⟨by omega,h2,h3⟩
 none:=fun c M i h hci hi=>by
  unfold pvQ at h;rcases qhd M c N (N-c) (by omega) with⟨_,h2⟩|⟨h1,h2,h3⟩
  ·exact h2 i (by omega) hi
  ·rw[if_neg (by omega)] at h;cases h
def gsP(k p i0:Nat)(M:Nat->Nat->Rat):Nat->Nat->Rat:=fun i j=>if i=p then M i0 j/M i0 k else M (swI p i0 i) j-M (swI p i0 i) k*(M i0 j/M i0 k)
theorem qCj(c i0:Nat)(M:Nat->Nat->Rat):gsP c c i0 M=gs c i0 M:=by funext i j;unfold gsP gs;simp only[Rat.div_def]
def BM(N C a b:Nat)(M:Nat->Nat->Rat):Prop:=∀i j,i<N->j<C->bnd a b (M i j)
structure OpsQ (ml dv sb:Op2):Prop where
 ml:∀{a b:Rat} {N D N' D':Nat},bnd N D a->bnd N' D' b->N+N'<=1024->D+D'<=1024->ml (tQ a) (tQ b)=some (tQ (a*b))
 dv:∀{a b:Rat} {N D N' D':Nat},b≠0->bnd N D a->bnd N' D' b->N+D'<=1024->D+N'<=1024->dv (tQ a) (tQ b)=some (tQ (a/b))
 sb:∀{a b:Rat} {N D N' D':Nat},bnd N D a->bnd N' D' b->N+D'<=1023->N'+D<=1023->D+D'<=1024->sb (tQ a) (tQ b)=some (tQ (a-b))
theorem qEd:OpsQ (opF wK) (opF uB) (opF zu) where
 ml:=fun ha hb h1 h2=>by unfold opF;rw[qb4 ha hb h1 h2];rfl
 dv:=fun h0 ha hb h1 h2=>by unfold opF;rw[qll h0 ha hb h1 h2];rfl
 sb:=fun ha hb h1 h2 h3=>by unfold opF;rw[q5a ha hb h1 h2 h3];rfl
theorem qAD{ml dv sb:Op2}(ops:OpsQ ml dv sb){N C k p i0 a b u v:Nat}{s:RS}{M:Nat->Nat->Rat}{d:Rat}(hs:RelM s.Z N C M)(hb:BM N C a b M)(hd:s.det=tQ d)(hdb:bnd u v d)(hp:s.p=p)(hpN:p<N)(hk:k<C)(hi:i0<N) (hpi:p<=i0) (h0:M i0 k≠0) (hf:qbC s.Z k N (N-s.p)=i0) (c1:2*a+2*b<=1023) (c2:a+3*b<=1024) (c3:u+v+2+a<=1023) (c4:v+1+b<=1023) :∃s',qfB ml dv sb k N C s=some s'/\RelM s'.Z N C (gsP k p i0 M)/\BM N C (2*a+2*b+1) (a+3*b) (gsP k p i0 M)/\(∃d',s'.det=tQ d'/\bnd (u+v+2+a) (v+1+b) d')/\s'.p=p+1/\s'.lead=s.lead++[k]:=by
 subst hp;unfold qfB;rw[hf,if_neg (by omega)];have bi:∀j,j<C->bnd a b (M i0 j):=fun j hj=>hb i0 j hi hj;obtain⟨dd,e1,e2⟩:∃dd,(if i0=s.p then some s.det else sb [48] s.det)=some (tQ dd)/\bnd (u+v+2) (v+1) dd:=by
  by_cases e:i0=s.p
  ·exact⟨d,by rw[if_pos e,hd],hdb.mono (by omega) (by omega)⟩
  ·refine⟨0-d,?_,?_⟩
   ·rw[if_neg e,hd];have:([48]:Bs)=tQ 0:=by decide
    rw[this];exact ops.sb ko hdb (by omega) (by omega) (by omega)
   ·have:=ko.sub hdb (K:=u+v+2) (by omega) (by omega);exact this.mono (qEo _) (by omega)
 rw[e1,qEO];have h1:=hs.swap hi hpN;have hpv:q5B (q8z s.Z i0 s.p) s.p k=tQ (M i0 k):=by
  rw[h1.ok s.p k hpN hk];have:swI s.p i0 s.p=i0:=by unfold swI;rw[if_pos rfl]
  rw[this]
 rw[hpv,ops.ml e2 (bi k hk) (by omega) (by omega),qEO];have eq_p:∀j,M (swI s.p i0 s.p) j=M i0 j:=fun j=>by
  have:swI s.p i0 s.p=i0:=by unfold swI;rw[if_pos rfl]
  rw[this]
 obtain⟨Z1,q1,q2⟩:=qvr (dv:=dv) (M:=fun i j=>M (swI s.p i0 i) j) (f:=M i0 k) hpN (fun j hj=>by rw[eq_p];exact ops.dv h0 (bi j hj) (bi k hk) (by omega) (by omega)) C 0 (by omega) _ (h1.congr fun i j _ _=>by rw[if_neg (by omega)]);rw[q1,qEO];have yb:∀j,j<C->bnd (a+b) (b+a) (M i0 j/M i0 k):=fun j hj=>(bi j hj).div h0 (bi k hk);have sb':∀i j,i<N->j<C->bnd a b (M (swI s.p i0 i) j):=fun i j hi' hj=>hb _ j (qpv hpN hi hi') hj;obtain⟨Z2,q3,q4⟩:=qnm (ml:=ml) (sb:=sb) (p:=s.p) (k:=k) (M:=fun i j=>if i=s.p then M i0 j/M i0 k else M (swI s.p i0 i) j) hpN hk
  (fun i j hi' e hj=>by rw[if_pos rfl,if_neg e];exact ops.ml (sb' i k hi' hk) (yb j hj) (by omega) (by omega))
  (fun i j hi' e hj=>by rw[if_pos rfl,if_neg e,if_neg e];exact ops.sb (sb' i j hi' hj) ((sb' i k hi' hk).mul (yb j hj)) (by omega) (by omega) (by omega)) N 0 (by omega) Z1
  (q2.congr fun i j _ _=>by
   rw[if_neg (show ¬(i<0/\i≠s.p) by omega)];by_cases e:i=s.p
   ·rw[if_pos e,if_pos e,eq_p]
   ·rw[if_neg e,if_neg e])
 rw[q3,qEO];refine⟨_,rfl,q4.congr fun i j _ _=>?_,fun i j hi' hj=>?_,⟨_,rfl,e2.mul (bi k hk)⟩,rfl,rfl⟩
 ·unfold gsP;by_cases e:i=s.p
  ·rw[if_pos e,if_neg (fun z=>z e),if_pos e]
  ·rw[if_neg e,if_pos e,if_neg e,if_neg e,if_pos rfl]
 ·unfold gsP;by_cases e:i=s.p
  ·rw[if_pos e];exact(yb j hj).mono (by omega) (by omega)
  ·rw[if_neg e];have:=(sb' i j hi' hj).sub ((sb' i k hi' hk).mul (yb j hj)) (K:=2*a+2*b+1) (by omega) (by omega);exact this.mono (qEo _) (by omega)
def bs:Nat->Nat×Nat
 | 0=>(13,1)
 | k+1=>(2*(bs k).1+2*(bs k).2+1,(bs k).1+3*(bs k).2)
def ds:Nat->Nat×Nat
 | 0=>(1,1)
 | k+1=>((ds k).1+(ds k).2+2+(bs k).1,(ds k).2+1+(bs k).2)
theorem qDW(k:Nat)(h:k<3):2*(bs k).1+2*(bs k).2<=1023/\(bs k).1+3*(bs k).2<=1024/\(ds k).1+(ds k).2+2+(bs k).1<=1023/\(ds k).2+1+(bs k).2<=1023:=by
 match k,h with
 | 0,_=>decide
 | 1,_=>decide
 | 2,_=>decide
theorem BM.mono{N C a b a' b':Nat}{M:Nat->Nat->Rat}(h:BM N C a b M)(h1:a<=a')(h2:b<=b'):BM N C a' b' M:=fun i j hi hj=>(h i j hi hj).mono h1 h2
theorem qAq(k:Nat):(bs k).1<=(bs (k+1)).1/\(bs k).2<=(bs (k+1)).2/\(ds k).1<=(ds (k+1)).1/\(ds k).2<=(ds (k+1)).2:=by simp only[bs,ds];omega
theorem qvW{ml dv sb:Op2}(ops:OpsQ ml dv sb){N C:Nat}(hN:N<=3)(hC:N<=C):∀(g k:Nat),k+g=N->∀(s:RS) (M:Nat->Nat->Rat) (d:Rat),RelM s.Z N C M->BM N C (bs k).1 (bs k).2 M->s.det=tQ d->bnd (ds k).1 (ds k).2 d->s.p<=k->s.lead.length=s.p ->
  ∃fin M',qoP ml dv sb N N C g s=some fin/\RelM fin.Z N C M'/\BM N C (bs N).1 (bs N).2 M'/\fin.lead.length<=s.p+g/\(s.p=k->(qad N (pvQ N) g k M=some M'/\fin.lead.length=N)\/(qad N (pvQ N) g k M=none/\fin.lead.length<N))
 | 0,k,hk,s,M,d,hs,hb,hd,hdb,hp,hl=>by
  have:k=N:=by omega
  subst this;exact⟨s,M,rfl,hs,hb,by omega,fun h=>.inl ⟨rfl,by omega⟩⟩
 | g+1,k,hk,s,M,d,hs,hb,hd,hdb,hp,hl=>by
  have hkN:N-(g+1)=k:=by omega
  obtain⟨m1,m2,m3,m4⟩:=qAq k;obtain⟨o1,o2,o3,o4⟩:=qDW k (by omega);unfold qoP;rw[hkN];have hf:=qsM hs (show k<C by omega) (N-s.p) (by omega);rcases qhd M k N (N-s.p) (by omega) with⟨h1,h2⟩|⟨h1,h2,h3⟩
  ·have e:qfB ml dv sb k N C s=some s:=by unfold qfB;rw[if_pos (by rw[hf];exact h1)]
   rw[e,qEO];obtain⟨fin,M',r1,r2,r3,r4,r5⟩:=qvW ops hN hC g (k+1) (by omega) s M d hs (hb.mono m1 m2) hd (hdb.mono m3 m4) (by omega) hl;refine⟨fin,M',r1,r2,r3,by omega,fun hpk=>.inr ⟨?_,by omega⟩⟩;subst hpk;unfold qad pvQ;rw[if_pos h1]
  ·obtain⟨s',q1,q2,q3,⟨d',q4,q5⟩,q6,q7⟩:=qAD ops hs hb hd hdb rfl (show s.p<N by omega) (show k<C by omega) h2 (by omega) h3 hf o1 o2 o3 o4;rw[q1,qEO];obtain⟨fin,M',r1,r2,r3,r4,r5⟩:=qvW ops hN hC g (k+1) (by omega) s' _ d' q2 q3 q4 q5 (by omega) (by rw[q7,q6,qEL,hl];rfl);refine⟨fin,M',r1,r2,r3,by omega,fun hpk=>?_⟩;have hg:qad N (pvQ N) (g+1) k M=qad N (pvQ N) g (k+1) (gsP k s.p (pvI M k N (N-s.p)) M):=by subst hpk;rw[qCj];show (match pvQ N s.p M with|none=>none|some i0=>qad N (pvQ N) g (s.p+1) (gs s.p i0 M))=_;unfold pvQ;rw[if_neg (by omega)]
   rw[hg];exact r5 (by omega)
variable {n:Nat}
def yH(F:Nat->Nat->Bs)(n:Nat):R:=(mkL F n n).map fun x=>[.s x]
theorem qdQ (F:Nat->Nat->Bs)(n:Nat):(yH F n).length=n*n:=by unfold yH;rw[qEA,qde]
theorem qik (F:Nat->Nat->Bs){n i k:Nat}(hi:i<n)(hk:k<n):cS (yH F n) ((i*n+k:Nat):Int) 0=F i k:=by
 have e:((mkL F n n).map fun x=>[U.s x]).getD (i*n+k) []=[U.s (F i k)]:=by rw[qEn,qEy,qrQ F n n i k hi hk];rfl
 unfold cS zY yH;rw[qEK,e];rfl
theorem qpl {F G:Nat->Nat->Bs}(h:∀i k,i<n->k<n->F i k=G i k):yH F n=yH G n:=by
 unfold yH;congr 1;have:∀m,m<=n->mkL F n m=mkL G n m:=by
  intro m;induction m with
  | zero=>intro _;rfl
  | succ m ih=>
   intro hm;rw[mkL,mkL,ih (by omega)];congr 1;exact qFJ fun k hk=>h m k (by omega) (qFv.1 hk)
 exact this n (qEo _)
theorem qpR {l:R}(hl:l.length=n)(hn:n<1000000)(h:∀i,i<n->(qJ [.s (cS l (i:Int) 0)]).run=some (0,[.i 0])):(vM [.r l]).run=some (0,[.i 0]):=by
 rw[qhD];have key:=zI (S:=jA) (fun i=>[.r l,.i (n:Int),.i (i:Int)]) (0,[]) n (by omega) (fun i hi=>by
  rw[q7Q];have e:qm l=(n:Int):=by unfold qm;rw[hl]
  simp only[STD,e,h i hi,q3f hi (show n<9223372036854775808 by omega),show (i:Int)<n by omega,show (0:Int)<=i by omega,and_self]) (by
  rw[q7Q];simp only[STD,show ¬(n:Int)<n by omega])
 have e:qm l=(n:Int):=by unfold qm;rw[hl]
 have key':(qh jA [.r l,.i (qm l),.i 0]).run=some (0,[]):=by rw[e];exact key
 simp only[STD,key',zJ key']
theorem qA6 (h:n<=16):(vw [.i (n:Int)]).run=some (0,[.b true]):=by
 rw[qmj];have h1:(0:Int)<=n:=by omega
 have h2:(n:Int)<=16:=by omega
 have h3:ile (n:Int) 16=true:=by rw[quZ];exact h2
 simp only[STD,h1,h3]
theorem qeX {F:Nat->Nat->Bs}(hn:n<=16)(h:∀i k,i<n->k<n->(qJ [.s (F i k)]).run=some (0,[.i 0])):(jc [.i n,.i n,.r (yH F n)]).run=some (0,[.i 0]):=by
 rw[qls];have hnn:n*n<=16*16:=qFi hn hn;have e1:qm (yH F n)=((n*n:Nat):Int):=by unfold qm;rw[qdQ]
 have e2:vk .i64 (n:Int) (n:Int)=((n*n:Nat):Int):=by rw[q6e (by rw[<-qFT];omega)];simp
 have key:=qpR (l:=yH F n) (qdQ F n) (by omega) (fun j hj=>by
  have hn0:0<n:=by
   rcases qFG n with h0|h0
   ·subst h0;simp at hj
   ·exact h0
  have h1:j/n<n:=Nat.div_lt_of_lt_mul hj;have h2:j%n<n:=Nat.mod_lt _ hn0;have h3:j=j/n*n+j%n:=by rw[Nat.mul_comm];exact(Nat.div_add_mod j n).symm
  rw[h3,qik F h1 h2];exact h _ _ h1 h2)
 simp only[STD,qA6 hn,e1,e2,key]
def aug(n:Nat)(G:Nat->Nat->Rat):Nat->Nat->Rat:=fun i j=>if j<n then G i j else if j=n+i then 1 else 0
theorem qy1 (i k:Nat):qfd i k=tQ (if i=k then 1 else 0):=by
 unfold qfd;by_cases h:i=k
 ·rw[if_pos h,if_pos h];decide
 ·rw[if_neg h,if_neg h];decide
theorem qy8 {F:Nat->Nat->Bs}{G:Nat->Nat->Rat}(h:∀i k,i<n->k<n->F i k=tQ (G i k)):RelM ((List.range n).map (row0 F qfd n)) n (2*n) (aug n G):=by
 refine⟨⟨by simp,fun r hr=>?_⟩,fun i j hi hj=>?_⟩
 ·obtain⟨i,_,rfl⟩:=qF9.1 hr;unfold row0;rw[qEL,qEA,qEA,qF4];omega
 ·have e:((List.range n).map (row0 F qfd n)).getD i []=row0 F qfd n i:=by rw[qEn,qEy,qFe hi];rfl
  unfold q5B aug;rw[e];unfold row0;by_cases hjn:j<n
  ·rw[if_pos hjn,qEn,qEx (by simpa using hjn),qEy,qFe hjn];exact h i j hi hjn
  ·rw[if_neg hjn,qEn,qEH (by simp;omega),qEA,qF4,qEy,qFe (by omega)];simp only[qEZ,qFy,qy1];congr 1;by_cases e2:j=n+i
   ·rw[if_pos e2,if_pos (by omega)]
   ·rw[if_neg e2,if_neg (by omega)]
theorem qAj {G:Nat->Nat->Rat}(h:∀i k,i<n->k<n->bnd 13 1 (G i k)):BM n (2*n) 13 1 (aug n G):=fun i j hi _=>by
 unfold aug;by_cases h1:j<n
 ·rw[if_pos h1];exact h i j hi h1
 ·rw[if_neg h1];split
  ·exact qqO.mono (by omega) (by omega)
  ·exact ko.mono (by omega) (by omega)
theorem qBe (ck ml dv sb:List PV->TR){l:R}{fin:RS}(hn:n<=16)(hl:l.length=n*n)(hok:qBQ (ck [.i n,.i n,.r l])=true)(hf:qoP (opF ml) (opF dv) (opF sb) n n (2*n) n ⟨(List.range n).map (row0 (fun i k=>cS l ((i*n+k:Nat):Int) 0) qfd n),[49],[],0⟩=some fin) :qBM ck ml dv sb [.i n,.i n,.r l]=if fin.lead.length<n then .leaf (0,[.i 0,.i 0,.r [],.i 14]) else .leaf (0,[.i n,.i n,.r ((mkL (fun i k=>q5B fin.Z i (n+k)) n n).map fun x=>[.s x]),.i 0]):=by simp only[qBM,qEK];rw[if_pos ⟨trivial,by omega,by omega,hl,hok⟩,hf]
theorem qDG (n:Nat)(hn:n<=3):(bs n).1<=337/\(bs n).2<=322:=by
 match n,hn with
 | 0,_=>decide
 | 1,_=>decide
 | 2,_=>decide
 | 3,_=>decide
theorem qDQ:jI=qBM jc wK uB zu:=rfl
theorem qwv (hn:n<=3){G:Nat->Nat->Rat}(hG:∀i k,i<n->k<n->bnd 13 1 (G i k)) :(∃N,qad n (pvQ n) n 0 (aug n G)=some N/\BM n (2*n) 337 322 N/\(jI [.i n,.i n,.r (yH (fun i k=>tQ (G i k)) n)]).run=some (0,[.i n,.i n,.r (yH (fun i k=>tQ (N i (n+k))) n),.i 0])) \/(qad n (pvQ n) n 0 (aug n G)=none/\(jI [.i n,.i n,.r (yH (fun i k=>tQ (G i k)) n)]).run=some (0,[.i 0,.i 0,.r [],.i 14])):=by
 obtain⟨fin,M',r1,r2,r3,r4,r5⟩:=qvW qEd (N:=n) (C:=2*n) hn (by omega) n 0 (by omega) ⟨(List.range n).map (row0 (fun i k=>tQ (G i k)) qfd n),[49],[],0⟩ (aug n G) 1
  (qy8 fun _ _ _ _=>rfl) (qAj hG) (show ([49]:Bs)=tQ 1 by decide) qqO (qEo _) rfl
 have hck:qBQ (jc [.i n,.i n,.r (yH (fun i k=>tQ (G i k)) n)])=true:=by unfold qBQ;rw[qeX (by omega) fun i k hi hk=>q0i ((hG i k hi hk).ok (by omega) (by omega))];rfl
 have hZ:(List.range n).map (row0 (fun i k=>cS (yH (fun i k=>tQ (G i k)) n) ((i*n+k:Nat):Int) 0) qfd n)=(List.range n).map (row0 (fun i k=>tQ (G i k)) qfd n):=by
  refine qFJ fun i hi=>?_;have e:(List.range n).map (fun k=>cS (yH (fun i k=>tQ (G i k)) n) ((i*n+k:Nat):Int) 0)=(List.range n).map (fun k=>tQ (G i k)):=
   qFJ fun k hk=>qik (fun i k=>tQ (G i k)) (qFv.1 hi) (qFv.1 hk)
  show (List.range n).map (fun k=>cS (yH (fun i k=>tQ (G i k)) n) ((i*n+k:Nat):Int) 0)++_=(List.range n).map (fun k=>tQ (G i k))++_;rw[e]
 have hrun:(jI [.i n,.i n,.r (yH (fun i k=>tQ (G i k)) n)])=if fin.lead.length<n then .leaf (0,[.i 0,.i 0,.r [],.i 14]) else .leaf (0,[.i n,.i n,.r ((mkL (fun i k=>q5B fin.Z i (n+k)) n n).map fun x=>[.s x]),.i 0]):=by have hx:=qBe jc wK uB zu (show n<=16 by omega) (qdQ _ _) hck (by rw[hZ];exact r1);rw[<-qDQ] at hx;exact hx
 have hbs:=qDG n hn;rcases r5 rfl with⟨q1,q2⟩|⟨q1,q2⟩
 ·refine .inl ⟨M',q1,r3.mono hbs.1 hbs.2,?_⟩;rw[hrun,if_neg (by omega)];have e:(mkL (fun i k=>q5B fin.Z i (n+k)) n n).map (fun x=>[U.s x])=yH (fun i k=>tQ (M' i (n+k))) n:=qpl fun i k hi hk=>r2.ok i (n+k) hi (by omega);rw[e];rfl
 ·refine .inr ⟨q1,?_⟩;rw[hrun,if_pos q2];rfl
end Go.Eng

namespace Go.Eng
def txR(l:List Bs):R:=l.map fun x=>[.s x]
theorem qi4(l:List Bs):qm (txR l)=(l.length:Int):=by unfold txR qm;rw[qEA]
theorem qkm(l m:List Bs):yE (txR l) (txR m)=txR (l++m):=by unfold txR yE;rw[qEX]
theorem qku(x:Bs):[[U.s x]]=txR [x]:=rfl
theorem qvY{l:List Bs}{i:Nat}{x:Bs}(h:l[i]?=some x):cS (txR l) (i:Int) 0=x:=by
 have e:(l.map fun x=>[U.s x]).getD i []=[U.s x]:=by rw[qEn,qEy,h];rfl
 unfold cS zY txR;rw[qEK,e];rfl
theorem qog{a b:Nat}(h:a*b<9223372036854775808):vk .i64 (a:Int) (b:Int)=((a*b:Nat):Int):=by rw[q6e (by rw[<-qFT];omega)];simp
theorem qsd{a b:Nat}(h:a+b<9223372036854775808):qO .i64 (a:Int) (b:Int)=((a+b:Nat):Int):=by rw[jG (by omega)];simp
theorem qD0{n i k:Nat}(hi:i<n)(hk:k<n):i*n+k<n*n:=by have:=qER n (show i+1<=n by omega);rw[qEJ] at this;omega
theorem qDS{n i k:Nat}{L:R}{g:Int}(hn:n<=16)(hi:i<n)(hk:k<n)(hL:L.length=n*n)(hg:cI L ((i*n+k:Nat):Int) 0=g)(hb:-999999999999999<=g/\g<=999999999999999) :(uc [.i i,.i k,.r L,.i n]).run=some (0,[.s (tQ (g:Rat)),.r L,.i n]):=by
 have h1:=qD0 hi hk;have h2:n*n<=16*16:=qFi hn hn;rw[qmf,qog (by omega),qsd (by omega),hg];have e:qm L=((n*n:Nat):Int):=by unfold qm;rw[hL]
 simp only[STD,q1y hb,e,show (0:Int)<=((i*n+k:Nat):Int) by omega,show ((i*n+k:Nat):Int)<((n*n:Nat):Int) by omega,and_self]
theorem qCQ{n:Nat}{L:R}{g:Nat->Nat->Int}(hn:n<=16)(hL:L.length=n*n)(hg:∀i k,i<n->k<n->cI L ((i*n+k:Nat):Int) 0=g i k)(hb:∀i k,i<n->k<n->-999999999999999<=g i k/\g i k<=999999999999999) :(q4g [.i n,.i n,.r L,.i n]).run=some (0,[.i n,.i n,.r (yH (fun i k=>tQ (g i k:Rat)) n),.r L,.i n]):=by
 obtain⟨F,hF⟩:∃F:Nat->Nat->Bs,F=fun i k=>tQ (g i k:Rat):=⟨_,rfl⟩;have hnn:n*n<=16*16:=qFi hn hn;have ml:∀i,i<=n->(mkL F n i).length<=16*16:=fun i hi=>by rw[qde];exact qEr (qER n hi) hnn
 have inner:∀i,i<n->(qh u4 [.i n,.i i,.i n,.i i,.i n,.i 0,.r L,.i n,.i 0,.i 0,.i n,.i n,.r (txR (mkL F n i))]).run=some (0,[.i n,.i n,.i i,.r L,.i n,.i 0,.i 0,.i n,.i n,.r (txR (mkL F n (i+1)))]):=fun i hi=>by
  have key:=zI (S:=u4) (fun k=>[.i n,.i i,.i n,.i i,.i n,.i (k:Int),.r L,.i n,.i 0,.i 0,.i n,.i n,.r (txR (mkL F n i++(List.range k).map (F i)))]) (0,[.i n,.i n,.i i,.r L,.i n,.i 0,.i 0,.i n,.i n,.r (txR (mkL F n (i+1)))]) n (by omega) (fun k hk=>by
   rw[qam];have hlen:(mkL F n i++(List.range k).map (F i)).length<=1000:=by have:=ml i (by omega);rw[qEL,qEA,qF4];omega
   have e1:txR (mkL F n i++(List.range (k+1)).map (F i))=yE (txR (mkL F n i++(List.range k).map (F i))) [[.s (F i k)]]:=by rw[qku,qkm,qFU,qEX,<-qF0];rfl
   have e2:F i k=tQ (g i k:Rat):=by rw[hF]
   have e3:qm [[U.s (tQ (g i k:Rat))]]=1:=rfl;simp only[STD,qDS hn hi hk hL (hg i k hi hk) (hb i k hi hk),q3f hk (show n<9223372036854775808 by omega),e1,e2,e3,qi4,show (k:Int)<n by omega,show (((mkL F n i++(List.range k).map (F i)).length:Int)+1<=8796093022208) by omega]) (by
   rw[qam];simp only[STD,show ¬(n:Int)<n by omega,mkL])
  simpa using key
 have outer:=zI (S:=kM) (fun i=>[.i n,.i n,.i (i:Int),.r L,.i n,.i 0,.i 0,.i n,.i n,.r (txR (mkL F n i))]) (0,[.r L,.i n,.i 0,.i 0,.i n,.i n,.r (txR (mkL F n n))]) n (by omega) (fun i hi=>by
  rw[qbS];simp only[STD,inner i hi,q3f hi (show n<9223372036854775808 by omega),show (i:Int)<n by omega]) (by
  rw[qbS];simp only[STD,show ¬(n:Int)<n by omega])
 have key:(qh kM [.i n,.i n,.i 0,.r L,.i n,.i 0,.i 0,.i n,.i n,.r []]).run=some (0,[.r L,.i n,.i 0,.i 0,.i n,.i n,.r (txR (mkL F n n))]):=outer;rw[qma];simp only[STD,key];rw[hF];rfl
theorem qqy{n:Nat}{L:R}{g:Nat->Nat->Int}(hn:n<=16)(hL:L.length=n*n)(hg:∀i k,i<n->k<n->cI L ((i*n+k:Nat):Int) 0=g i k)(hb:∀i k,i<n->k<n->-999999999999999<=g i k/\g i k<=999999999999999) :(q8h [.i n,.i n,.r L]).run=some (0,[.i n,.i n,.r (yH (fun i k=>tQ (g i k:Rat)) n),.i 0]):=by
 have hnn:n*n<=16*16:=qFi hn hn;rw[qpc,qog (by omega)];have e:qm L=((n*n:Nat):Int):=by unfold qm;rw[hL]
 simp only[STD,qA6 hn,qCQ hn hL hg hb,e]
theorem qAc(x:Bs):(wL [.s x,.i 0,.i 0]).run=some (0,[.s x,.i 0]):=by rw[qem];simp only[STD]
theorem qDf{a b:Rat}{N D N' D':Nat}(ha:bnd N D a)(hb:bnd N' D' b)(h1:N+N'<=1024)(h2:D+D'<=1024):(ua [.s (tQ a),.s (tQ b),.i 0]).run=some (0,[.s (tQ (a*b)),.i 0]):=by rw[qfp];simp only[STD,qb4 ha hb h1 h2,qAc]
theorem qCt{a b:Rat}{N D N' D':Nat}(ha:bnd N D a)(hb:bnd N' D' b)(h1:N+D'<=1023)(h2:N'+D<=1023)(h3:D+D'<=1024):(ur [.s (tQ a),.s (tQ b),.i 0]).run=some (0,[.s (tQ (a+b)),.i 0]):=by rw[qfn];simp only[STD,qbt ha hb h1 h2 h3,qAc]
theorem qB9{F:Nat->Nat->Bs}{n i k:Nat}(hn:n<=16)(hi:i<n)(hk:k<n):(q2q [.i n,.i n,.r (yH F n),.i i,.i k]).run=some (0,[.s (F i k)]):=by
 have h1:=qD0 hi hk;have h2:n*n<=16*16:=qFi hn hn;rw[qjU,qog (by omega),qsd (by omega),qik F hi hk];have e:qm (yH F n)=((n*n:Nat):Int):=by unfold qm;rw[qdQ]
 simp only[STD,e,show (0:Int)<=((i*n+k:Nat):Int) by omega,show ((i*n+k:Nat):Int)<((n*n:Nat):Int) by omega,and_self]
def sbd:Nat->Nat×Nat
 | 0=>(1,1)
 | 1=>(352,324)
 | 2=>(676,647)
 | _=>(1000,970)
theorem qzV(m:Nat)(h:m<3):(sbd m).1+323<=1023/\350+(sbd m).2<=1023/\(sbd m).2+323<=1024/\(sbd m).1+323+1<=(sbd (m+1)).1/\350+(sbd m).2+1<=(sbd (m+1)).1/\(sbd m).2+323<=(sbd (m+1)).2:=by
 match m,h with
 | 0,_=>decide
 | 1,_=>decide
 | 2,_=>decide
theorem qAb{V B:Nat->Rat}{n:Nat}(hV:∀k,k<n->bnd 337 322 (V k))(hB:∀k,k<n->bnd 13 1 (B k)):∀m,m<=n->m<=3->bnd (sbd m).1 (sbd m).2 (su m fun k=>V k*B k)
 | 0,_,_=>ko
 | m+1,h1,h2=>by
  obtain⟨o1,o2,o3,o4,o5,o6⟩:=qzV m (by omega);exact((qAb hV hB m (by omega) (by omega)).add ((hV m (by omega)).mul (hB m (by omega))) o4 o5).mono (qEo _) o6
theorem qAO{n:Nat}(hn:n<=3){V:Nat->Nat->Rat}{B:Nat->Rat}(hV:∀i k,i<n->k<n->bnd 337 322 (V i k))(hB:∀k,k<n->bnd 13 1 (B k)) :(q2m [.i n,.i n,.r (yH (fun i k=>tQ (V i k)) n),.r (txR ((List.range n).map fun k=>tQ (B k)))]).run=some (0,[.r (txR ((List.range n).map fun i=>tQ (su n fun k=>V i k*B k))),.i 0]):=by
 obtain⟨bl,hbl⟩:∃bl,bl=txR ((List.range n).map fun k=>tQ (B k)):=⟨_,rfl⟩;have lb:qm bl=(n:Int):=by rw[hbl,qi4,qEA,qF4]
 have gb:∀k,k<n->cS bl (k:Int) 0=tQ (B k):=fun k hk=>by rw[hbl];exact qvY (by rw[qEy,qFe hk];rfl)
 have inner:∀i,i<n->∀acc:List Bs,(qh yg [.r bl,.i i,.s [48],.i n,.i i,.r bl,.i n,.i 0,.i n,.i n,.r (yH (fun i k=>tQ (V i k)) n),.i 0,.r (txR acc)]).run =
   some (0,[.r bl,.s (tQ (su n fun k=>V i k*B k)),.i n,.i i,.i n,.i n,.r (yH (fun i k=>tQ (V i k)) n),.i 0,.r (txR acc)]):=fun i hi acc=>by
  have key:=zI (S:=yg) (fun k=>[.r bl,.i i,.s (tQ (su k fun k=>V i k*B k)),.i n,.i i,.r bl,.i n,.i (k:Int),.i n,.i n,.r (yH (fun i k=>tQ (V i k)) n),.i 0,.r (txR acc)])
   (0,[.r bl,.s (tQ (su n fun k=>V i k*B k)),.i n,.i i,.i n,.i n,.r (yH (fun i k=>tQ (V i k)) n),.i 0,.r (txR acc)]) n (by omega) (fun k hk=>by
    rw[q98];obtain⟨o1,o2,o3,_,_,_⟩:=qzV k (by omega);have s1:=qAb (fun k hk=>hV i k hi hk) hB k (by omega) (by omega);simp only[STD,qB9 (F:=fun i k=>tQ (V i k)) (show n<=16 by omega) hi hk,gb k hk,lb,qDf (hV i k hi hk) (hB k hk) (by omega) (by omega),qCt s1 ((hV i k hi hk).mul (hB k hk)) o1 o2 o3,
     q3f hk (show n<9223372036854775808 by omega),show (k:Int)<n by omega,show (0:Int)<=k by omega,and_self]
    rfl) (by
    rw[q98];simp only[STD,show ¬(n:Int)<n by omega])
  exact key
 have outer:=zI (S:=yf) (fun i=>[.r bl,.i n,.i (i:Int),.i n,.i n,.r (yH (fun i k=>tQ (V i k)) n),.i 0,.r (txR ((List.range i).map fun i=>tQ (su n fun k=>V i k*B k)))])
  (0,[.i 0,.r (txR ((List.range n).map fun i=>tQ (su n fun k=>V i k*B k)))]) n (by omega) (fun i hi=>by
   rw[q8K];have e1:txR ((List.range (i+1)).map fun i=>tQ (su n fun k=>V i k*B k))=yE (txR ((List.range i).map fun i=>tQ (su n fun k=>V i k*B k))) [[.s (tQ (su n fun k=>V i k*B k))]]:=by rw[qku,qkm,qFU,qEX];rfl
   have e3:qm [[U.s (tQ (su n fun k=>V i k*B k))]]=1:=rfl;simp only[STD,lb,inner i hi,q3f hi (show n<9223372036854775808 by omega),show (i:Int)<n by omega,e1,e3,qi4,qEA,qF4,show (i:Int)+1<=8796093022208 by omega]) (by
   rw[q8K];simp only[STD,show ¬(n:Int)<n by omega])
 have key:(qh yf [.r bl,.i n,.i 0,.i n,.i n,.r (yH (fun i k=>tQ (V i k)) n),.i 0,.r []]).run=some (0,[.i 0,.r (txR ((List.range n).map fun i=>tQ (su n fun k=>V i k*B k)))]):=outer;have hck:=qeX (F:=fun i k=>tQ (V i k)) (show n<=16 by omega) fun i k hi hk=>q0i ((hV i k hi hk).ok (by omega) (by omega));have hnum:=qpR (l:=bl) (n:=n) (by have:=lb;unfold qm at this;omega) (by omega) (fun i hi=>by rw[gb i hi];exact q0i ((hB i hi).ok (by omega) (by omega)));rw[<-hbl,qkr];simp only[STD,hck,lb,hnum,key]
def qvT(ox oy oz ax ay az bx by' bz:Int):Int:=(ax-ox)*(bx-ox)+(ay-oy)*(by'-oy)+(az-oz)*(bz-oz)
theorem qwt{a b:Int}(ha:co a)(hb:co b):-200000<=a-b/\a-b<=200000:=by unfold co at ha hb;omega
theorem qfQ{a b c d:Int}(ha:co a)(hb:co b)(hc:co c)(hd:co d):-40000000000<=(a-b)*(c-d)/\(a-b)*(c-d)<=40000000000:=by have h1:=qwt ha hb;have h2:=qwt hc hd;have:=qwA h1.1 h1.2 h2.1 h2.2;omega
theorem qAG{ox oy oz ax ay az bx by' bz:Int}(h1:co ox)(h2:co oy)(h3:co oz)(h4:co ax)(h5:co ay)(h6:co az)(h7:co bx)(h8:co by')(h9:co bz):-120000000000<=qvT ox oy oz ax ay az bx by' bz/\qvT ox oy oz ax ay az bx by' bz<=120000000000:=by have p1:=qfQ h4 h1 h7 h1;have p2:=qfQ h5 h2 h8 h2;have p3:=qfQ h6 h3 h9 h3;unfold qvT;omega
theorem qiw{a b:Int}(ha:co a)(hb:co b):q2k .i64 a b=a-b:=q1s (by have:=qwt ha hb;omega)
theorem qrK{a b c d:Int}(ha:co a)(hb:co b)(hc:co c)(hd:co d):vk .i64 (a-b) (c-d)=(a-b)*(c-d):=q6e (by have:=qfQ ha hb hc hd;omega)
theorem qbe(x y z:Int):(qH [.i x,.i y,.i z]).run=some (0,[.i x,.i y,.i z]):=by rw[qcC];rfl
theorem qDX{ox oy oz ax ay az bx by' bz:Int}(h1:co ox)(h2:co oy)(h3:co oz)(h4:co ax)(h5:co ay)(h6:co az)(h7:co bx)(h8:co by')(h9:co bz) :(q09 [.i ox,.i oy,.i oz,.i ax,.i ay,.i az,.i bx,.i by',.i bz]).run=some (0,[.i (qvT ox oy oz ax ay az bx by' bz)]):=by
 have p1:=qfQ h4 h1 h7 h1;have p2:=qfQ h5 h2 h8 h2;have p3:=qfQ h6 h3 h9 h3;have key:=zI (S:=kw) (fun i=>[.i (if i=0 then 0 else if i=1 then (ax-ox)*(bx-ox) else if i=2 then (ax-ox)*(bx-ox)+(ay-oy)*(by'-oy) else qvT ox oy oz ax ay az bx by' bz),.i (i:Int),.i ox,.i oy,.i oz,.i ax,.i ay,.i az,.i bx,.i by',.i bz])
  (0,[.i (qvT ox oy oz ax ay az bx by' bz)]) 3 (by omega) (fun i hi=>by
   rw[qcj];rcases (show i=0\/i=1\/i=2 by omega) with rfl|rfl|rfl
   ·have e1:qO .i64 ((0:Nat):Int) 1=((1:Nat):Int):=by decide
    have e2:qO .i64 0 ((ax-ox)*(bx-ox))=(ax-ox)*(bx-ox):=by rw[jG (by omega)];omega
    simp only[STD,e1,qiw h4 h1,qiw h7 h1,qrK h4 h1 h7 h1,e2,show (((0:Nat):Int)<3)=True from eq_true (by decide),show (((0:Nat):Int)=2)=False from eq_false (by decide),show (((0:Nat):Int)=1)=False from eq_false (by decide),show (((0:Nat):Int)=0)=True from eq_true (by decide),qFs,show ((1:Nat)=0)=False from eq_false (by decide)]
   ·have e1:qO .i64 ((1:Nat):Int) 1=((2:Nat):Int):=by decide
    have e2:qO .i64 ((ax-ox)*(bx-ox)) ((ay-oy)*(by'-oy))=(ax-ox)*(bx-ox)+(ay-oy)*(by'-oy):=jG (by omega);simp only[STD,e1,qiw h5 h2,qiw h8 h2,qrK h5 h2 h8 h2,e2,show (((1:Nat):Int)<3)=True from eq_true (by decide),show (((1:Nat):Int)=2)=False from eq_false (by decide),show (((1:Nat):Int)=1)=True from eq_true (by decide),show ((1:Nat)=0)=False from eq_false (by decide),show ((1+1:Nat)=0)=False from eq_false (by decide),show ((1+1:Nat)=1)=False from eq_false (by decide)]
   ·have e1:qO .i64 ((2:Nat):Int) 1=((3:Nat):Int):=by decide
    have e2:qO .i64 ((ax-ox)*(bx-ox)+(ay-oy)*(by'-oy)) ((az-oz)*(bz-oz))=qvT ox oy oz ax ay az bx by' bz:=by rw[jG (by omega)];rfl
    simp only[STD,e1,qiw h6 h3,qiw h9 h3,qrK h6 h3 h9 h3,e2,show (((2:Nat):Int)<3)=True from eq_true (by decide),show (((2:Nat):Int)=2)=True from eq_true (by decide),show ((2:Nat)=0)=False from eq_false (by decide),show ((2:Nat)=1)=False from eq_false (by decide),show ((2+1:Nat)=0)=False from eq_false (by decide),show ((2+1:Nat)=1)=False from eq_false (by decide),show ((2+1:Nat)=2)=False from eq_false (by decide)]) (by
   rw[qcj];simp only[STD,show (((3:Nat):Int)<3)=False from eq_false (by decide),show ((3:Nat)=0)=False from eq_false (by decide),show ((3:Nat)=1)=False from eq_false (by decide),show ((3:Nat)=2)=False from eq_false (by decide)])
 have key':(qh kw [.i 0,.i 0,.i ox,.i oy,.i oz,.i ax,.i ay,.i az,.i bx,.i by',.i bz]).run=some (0,[.i (qvT ox oy oz ax ay az bx by' bz)]):=key;rw[qm4];simp only[STD,qbe,key']
variable {l:R}
def mkI(F:Nat->Nat->Int)(c:Nat):Nat->List Int
 | 0=>[]
 | i+1=>mkI F c i++(List.range c).map (F i)
theorem qhF(F:Nat->Nat->Int)(c:Nat):∀i,(mkI F c i).length=i*c
 | 0=>by simp[mkI]
 | i+1=>by rw[mkI,qEL,qhF F c i];simp[qEJ]
theorem qvm(F:Nat->Nat->Int)(c:Nat):∀(n i k:Nat),i<n->k<c->(mkI F c n)[i*c+k]?=some (F i k)
 | 0,i,k,h,_=>by omega
 | n+1,i,k,h,hk=>by
  rw[mkI];by_cases hi:i<n
  ·have:i*c+k<n*c:=by have:=qER c (show i+1<=n by omega);rw[qEJ] at this;omega
   rw[qEx (by rw[qhF];exact this)];exact qvm F c n i k hi hk
  ·have:i=n:=by omega
   subst this;rw[qEH (by rw[qhF];omega),qhF,show i*c+k-i*c=k by omega];simp[hk]
theorem qDd (F:Nat->Nat->Int){n i k:Nat}(hi:i<n)(hk:k<n):cI (rI (mkI F n n)) ((i*n+k:Nat):Int) 0=F i k:=by rw[qAv,qEK,qEn,qvm F n n i k hi hk];rfl
theorem qDk (l m:List Int):yE (rI l) (rI m)=rI (l++m):=by unfold rI yE;rw[qEX]
def dI(l:R)(i k:Nat):Int:=qvT (cI l 0 0) (cI l 0 1) (cI l 0 2) (cI l (i:Int) 0) (cI l (i:Int) 1) (cI l (i:Int) 2) (cI l (k:Int) 0) (cI l (k:Int) 1) (cI l (k:Int) 2)
def gI2(l:R)(i k:Nat):Int:=2*dI l (i+1) (k+1)
theorem q6x.row (h:q6x l){i:Nat}(hi:i<l.length):co (cI l (i:Int) 0)/\co (cI l (i:Int) 1)/\co (cI l (i:Int) 2):=h.2 i hi
theorem q6x.row0 (h:q6x l)(hi:0<l.length):co (cI l 0 0)/\co (cI l 0 1)/\co (cI l 0 2):=h.2 0 hi
theorem qBc (h:q6x l){i k:Nat}(hi:i<l.length)(hk:k<l.length):-120000000000<=dI l i k/\dI l i k<=120000000000:=by obtain⟨a1,a2,a3⟩:=h.row0 (show 0<l.length by omega);obtain⟨b1,b2,b3⟩:=h.row hi;obtain⟨c1,c2,c3⟩:=h.row hk;exact qAG a1 a2 a3 b1 b2 b3 c1 c2 c3
theorem qE9 (h:q6x l){i k:Nat}(hi:i<l.length)(hk:k<l.length) :(q09 [.i (cI l 0 0),.i (cI l 0 1),.i (cI l 0 2),.i (cI l (i:Int) 0),.i (cI l (i:Int) 1),.i (cI l (i:Int) 2),.i (cI l (k:Int) 0),.i (cI l (k:Int) 1),.i (cI l (k:Int) 2)]).run=some (0,[.i (dI l i k)]):=by obtain⟨a1,a2,a3⟩:=h.row0 (show 0<l.length by omega);obtain⟨b1,b2,b3⟩:=h.row hi;obtain⟨c1,c2,c3⟩:=h.row hk;exact qDX a1 a2 a3 b1 b2 b3 c1 c2 c3
theorem qtA {n i:Nat}(h:q6x l)(hl:l.length=n+1)(hi:i<n)(s1 s2 s3 s4:Bs)(rt:R) :(qh j3 [.r l,.i n,.i i,.i n,.i i,.i n,.i 0,.s s1,.s s2,.s s3,.s s4,.r (rI (mkI (gI2 l) n i)),.r rt]).run = some (0,[.r l,.i n,.i i,.i n,.i i,.s s1,.s s2,.s s3,.s s4,.r (rI (mkI (gI2 l) n (i+1))),.r rt]):=by
 have hn:n<=64:=by have:=h.1;omega
 have hlen:(mkI (gI2 l) n i).length<=64*64:=by rw[qhF];exact qFi (by omega) hn
 have key:=zI (S:=j3) (fun k=>[.r l,.i n,.i i,.i n,.i i,.i n,.i (k:Int),.s s1,.s s2,.s s3,.s s4,.r (rI (mkI (gI2 l) n i++(List.range k).map (gI2 l i))),.r rt])
  (0,[.r l,.i n,.i i,.i n,.i i,.s s1,.s s2,.s s3,.s s4,.r (rI (mkI (gI2 l) n (i+1))),.r rt]) n (by omega) (fun k hk=>by
   rw[q6D];have hL:qm l=((n+1:Nat):Int):=by unfold qm;rw[hl]
   have w1:qO .i64 (i:Int) 1=((i+1:Nat):Int):=q3f hi (by omega);have w2:qO .i64 (k:Int) 1=((k+1:Nat):Int):=q3f hk (by omega);have bd:=qBc h (i:=i+1) (k:=k+1) (by omega) (by omega);have w3:vk .i64 2 (dI l (i+1) (k+1))=gI2 l i k:=q6e (by omega);have e1:rI (mkI (gI2 l) n i++(List.range (k+1)).map (gI2 l i))=yE (rI (mkI (gI2 l) n i++(List.range k).map (gI2 l i))) [[.i (gI2 l i k)]]:=by rw[show [[U.i (gI2 l i k)]]=rI [gI2 l i k] from rfl,qDk,qFU,qEX,<-qF0];rfl
   have e3:qm [[U.i (gI2 l i k)]]=1:=rfl;have e4:((mkI (gI2 l) n i++(List.range k).map (gI2 l i)).length:Int)+1<=17592186044416:=by rw[qEL,qEA,qF4];omega
   simp only[STD,hL,w1,w2,qE9 h (i:=i+1) (k:=k+1) (by omega) (by omega),w3,e1,e3,qzH,e4,show (k:Int)<n by omega,show (0:Int)<=0 by omega,show (0:Int)<((n+1:Nat):Int) by omega,
    show (0:Int)<=((i+1:Nat):Int) by omega,show ((i+1:Nat):Int)<((n+1:Nat):Int) by omega,show (0:Int)<=((k+1:Nat):Int) by omega,show ((k+1:Nat):Int)<((n+1:Nat):Int) by omega,and_self]) (by
   rw[q6D];simp only[STD,show ¬(n:Int)<n by omega,mkI])
 simpa using key
theorem qxO {n:Nat}(h:q6x l)(hl:l.length=n+1)(s1 s2 s3 s4:Bs) :(qh jy [.r l,.i n,.i n,.i 0,.s s1,.s s2,.s s3,.s s4,.r [],.r []]).run = some (0,[.r l,.i n,.s s1,.s s2,.s s3,.s s4,.r (rI (mkI (gI2 l) n n)),.r (txR ((List.range n).map fun i=>tQ (dI l (i+1) (i+1):Rat)))]):=by
 have hn:n<=64:=by have:=h.1;omega
 have key:=zI (S:=jy) (fun i=>[.r l,.i n,.i n,.i (i:Int),.s s1,.s s2,.s s3,.s s4,.r (rI (mkI (gI2 l) n i)),.r (txR ((List.range i).map fun i=>tQ (dI l (i+1) (i+1):Rat)))])
  (0,[.r l,.i n,.s s1,.s s2,.s s3,.s s4,.r (rI (mkI (gI2 l) n n)),.r (txR ((List.range n).map fun i=>tQ (dI l (i+1) (i+1):Rat)))]) n (by omega) (fun i hi=>by
   rw[q8f];have hL:qm l=((n+1:Nat):Int):=by unfold qm;rw[hl]
   have w1:qO .i64 (i:Int) 1=((i+1:Nat):Int):=q3f hi (by omega);have bd:=qBc h (i:=i+1) (k:=i+1) (by omega) (by omega);have e1:txR ((List.range (i+1)).map fun i=>tQ (dI l (i+1) (i+1):Rat))=yE (txR ((List.range i).map fun i=>tQ (dI l (i+1) (i+1):Rat))) [[.s (tQ (dI l (i+1) (i+1):Rat))]]:=by rw[qku,qkm,qFU,qEX];rfl
   have e3:qm [[U.s (tQ (dI l (i+1) (i+1):Rat))]]=1:=rfl;simp only[STD,qtA h hl hi,hL,w1,qE9 h (i:=i+1) (k:=i+1) (by omega) (by omega),q1y (m:=dI l (i+1) (i+1)) (by omega),e1,e3,qi4,qEA,qF4,show (i:Int)<n by omega,
    show (i:Int)+1<=8796093022208 by omega,show (0:Int)<=0 by omega,show (0:Int)<((n+1:Nat):Int) by omega,show (0:Int)<=((i+1:Nat):Int) by omega,show ((i+1:Nat):Int)<((n+1:Nat):Int) by omega,and_self]) (by
   rw[q8f];simp only[STD,show ¬(n:Int)<n by omega])
 exact key
def pV(l:R):Nat->V3:=fun i=>⟨(cI l (i:Int) 0:Rat),(cI l (i:Int) 1:Rat),(cI l (i:Int) 2:Rat)⟩
theorem qsv (l:R)(i k:Nat):((gI2 l i k:Int):Rat)=qoF (pV l) i k:=by unfold gI2 dI qvT qoF q8o pV;simp only[qEB,qFa,qF2];rfl
theorem qDn (l:R)(i:Nat):((dI l (i+1) (i+1):Int):Rat)=d2 (pV l 0) (pV l (i+1)):=by unfold dI qvT d2 pV;simp only[qEB,qFa,qF2];show _=_;have:((cI l 0 0:Int):Rat)=(cI l ((0:Nat):Int) 0:Rat):=rfl;grind
end Go.Eng

namespace Go.Eng
variable {n:Nat}
theorem qrO (n:Nat)(G:Nat->Nat->Rat)(i:Nat)(x:Nat->Rat):su n (fun j=>aug n G i j*x j)=su n (fun j=>G i j*x j):=qj fun j hj=>by unfold aug;rw[if_pos hj]
theorem qv1 {G N:Nat->Nat->Rat}(h:qad n (pvQ n) n 0 (aug n G)=some N){i j:Nat}(hi:i<n)(_:j<n):su n (fun k=>G i k*N k (n+j))=if j=i then 1 else 0:=by
 obtain⟨h1,h2⟩:=qil (qwL n) n 0 _ N (by omega) (fun i j _ hj=>by omega) h;have:=(h2 (n+j) _).1 ((qfe h1 _ _).2 fun i _=>rfl) i hi;rw[qrO] at this;rw[this];unfold aug;show (if n+j<n then G i (n+j) else if n+j=n+i then (1:Rat) else 0)=_;rw[if_neg (by omega)];by_cases e:j=i
 ·rw[if_pos e,if_pos (by omega)]
 ·rw[if_neg e,if_neg (by omega)]
theorem qBb {G N:Nat->Nat->Rat}(h:qad n (pvQ n) n 0 (aug n G)=some N)(t:Nat->Rat)(ht:∀i,i<n->su n (fun j=>G i j*t j)=0):∀j,j<n->t j=0:=by
 obtain⟨h1,h2⟩:=qil (qwL n) n 0 _ N (by omega) (fun i j _ hj=>by omega) h;have sol:=(h2 n _).1 ((qfe h1 _ (fun i=>N i n)).2 fun i _=>rfl);have s2:qiT n n (aug n G) (fun i=>aug n G i n) (fun i=>N i n+t i):=fun i hi=>by have a:=sol i hi;have b:=ht i hi;rw[<-qrO] at b;rw[qj (g:=fun j=>aug n G i j*N j n+aug n G i j*t j) (fun j _=>by grind),q3G,b,a];grind
 intro j hj;have:=(qfe h1 _ _).1 ((h2 n _).2 s2) j hj;grind
def qCk(n:Nat)(N:Nat->Nat->Rat)(B:Nat->Rat):Nat->Rat:=fun i=>su n fun k=>N i (n+k)*B k
theorem qwH {G N:Nat->Nat->Rat}(h:qad n (pvQ n) n 0 (aug n G)=some N)(B:Nat->Rat){i:Nat}(hi:i<n):su n (fun k=>G i k*qCk n N B k)=B i:=by
 have e:su n (fun k=>G i k*qCk n N B k)=su n (fun j=>B j*su n (fun k=>G i k*N k (n+j))):=by rw[qj (g:=fun k=>su n (fun j=>B j*(G i k*N k (n+j)))) (fun k _=>by unfold qCk;rw[<-wj];exact qj fun j _=>by grind),qr3];exact qj fun j _=>by rw[wj]
 rw[e,q5N (k:=i) _ hi (fun j hj hne=>by rw[qv1 h hi hj,if_neg hne];grind),qv1 h hi hi,if_pos rfl];grind
theorem qBV {l:R}{N:Nat->Nat->Rat}(h:qad n (pvQ n) n 0 (aug n (qoF (pV l)))=some N):Bl n (pV l) (qCk n N fun k=>d2 (pV l 0) (pV l (k+1))):=⟨qdW.2 fun t ht=>qBb h t ht,fun _ hi=>qwH h _ hi⟩
theorem qya {c:Nat->V3}(h:qad n (pvQ n) n 0 (aug n (qoF c))=none):¬Ind (n+1) c:=by obtain⟨x,⟨j,hj,hne⟩,hs⟩:=qmO (qwL n) n 0 _ (by omega) (fun i j _ hj=>by omega) h;intro hi;exact hne (qdW.1 hi x (fun i hi=>by rw[<-qrO];exact hs i hi) j hj)
theorem qCT {q:Rat}{P M:Int}(hM:M≠0)(h:q*(M:Rat)=(P:Rat)):q.num.natAbs<=P.natAbs/\q.den<=M.natAbs:=by
 have hM':(M:Rat)≠0:=by intro e;exact hM (Rat.intCast_inj.1 (e.trans (by simp)))
 have e:q=Rat.divInt P M:=by rw[Rat.divInt_eq_div,<-h];exact(Rat.mul_div_cancel hM').symm
 rw[e];constructor
 ·rw[Rat.num_divInt];refine qEr (qGw _ _) ?_;rw[qFF,qGx hM];omega
 ·rw[Rat.den_divInt,if_neg hM];exact Nat.div_le_self _ _
def qxN(a b c d e f g h i:Rat):Rat:=a*(e*i-f*h)-b*(d*i-f*g)+c*(d*h-e*g)
theorem qBF (a b c d e f g h i p q r s t u v w x:Rat):qxN a b c d e f g h i*qxN p q r s t u v w x = qxN (a*p+b*s+c*v) (a*q+b*t+c*w) (a*r+b*u+c*x) (d*p+e*s+f*v) (d*q+e*t+f*w) (d*r+e*u+f*x) (g*p+h*s+i*v) (g*q+h*t+i*w) (g*r+h*u+i*x):=by unfold qxN;grind
end Go.Eng

namespace Go.Eng
theorem q2g{x y:Int}{a b:Nat}(hx:x.natAbs<=a)(hy:y.natAbs<=b):(x*y).natAbs<=a*b:=by rw[qFF];exact qFi hx hy
theorem qB2{x y:Int}{a b:Nat}(hx:x.natAbs<=a)(hy:y.natAbs<=b):(x+y).natAbs<=a+b:=by omega
theorem qfF{x y:Int}{a b:Nat}(hx:x.natAbs<=a)(hy:y.natAbs<=b):(x-y).natAbs<=a+b:=by omega
def qAg(a b c d e f g h i:Int):Int:=a*(e*i-f*h)-b*(d*i-f*g)+c*(d*h-e*g)
theorem qcQ(a b c d e f g h i:Int):((qAg a b c d e f g h i:Int):Rat)=qxN a b c d e f g h i:=by unfold qAg qxN;simp only[qEB,qFa,qF2]
theorem qnx{A:Nat}{a b c d e f g h i:Int}(ha:a.natAbs<=A)(hb:b.natAbs<=A)(hc:c.natAbs<=A)(hd:d.natAbs<=A)(he:e.natAbs<=A)(hf:f.natAbs<=A)(hg:g.natAbs<=A)(hh:h.natAbs<=A)(hi:i.natAbs<=A) :(qAg a b c d e f g h i).natAbs<=A*(A*A+A*A)+A*(A*A+A*A)+A*(A*A+A*A):=qB2 (qfF (q2g ha (qfF (q2g he hi) (q2g hf hh))) (q2g hb (qfF (q2g hd hi) (q2g hf hg)))) (q2g hc (qfF (q2g hd hh) (q2g he hg)))
def AA:Nat:=240000000000
theorem qCP{n:Nat}(hn:n<=3){g:Nat->Nat->Int}{b:Nat->Int}{N:Nat->Nat->Rat}{t:Nat->Rat}(hg:∀i k,i<n->k<n->(g i k).natAbs<=AA)(hb:∀i,i<n->(b i).natAbs<=AA)(hinv:∀i j,i<n->j<n->su n (fun k=>(g i k:Rat)*N k j)=if j=i then 1 else 0) (ht:∀i,i<n->su n (fun k=>(g i k:Rat)*t k)=(b i:Rat)) :∃D:Int,D≠0/\D.natAbs<=10^35/\∀i,i<n->∃T:Int,t i*(D:Rat)=(T:Rat)/\T.natAbs<=10^35:=by
 match n,hn with
 | 0,_=>exact⟨1,by decide,by decide,fun i hi=>by omega⟩
 | 1,_=>
  have g0:=hg 0 0 (by omega) (by omega);have b0:=hb 0 (by omega);have i0:=hinv 0 0 (by omega) (by omega);have t0:=ht 0 (by omega);simp only[su,if_true] at i0 t0;unfold AA at g0 b0;refine⟨g 0 0,fun e=>?_,by omega,fun i hi=>⟨b 0,?_,by omega⟩⟩
  ·rw[e] at i0;have:((0:Int):Rat)=0:=rfl;rw[this] at i0;grind
  ·have:i=0:=by omega
   subst this;grind
 | 2,_=>
  have g00:=hg 0 0 (by omega) (by omega);have g01:=hg 0 1 (by omega) (by omega);have g10:=hg 1 0 (by omega) (by omega);have g11:=hg 1 1 (by omega) (by omega);have b0:=hb 0 (by omega);have b1:=hb 1 (by omega);have i00:=hinv 0 0 (by omega) (by omega);have i01:=hinv 0 1 (by omega) (by omega);have i10:=hinv 1 0 (by omega) (by omega);have i11:=hinv 1 1 (by omega) (by omega);have t0:=ht 0 (by omega);have t1:=ht 1 (by omega);simp only[su,if_true,show (1=0)=False from eq_false (by decide),show (0=1)=False from eq_false (by decide),if_false] at i00 i01 i10 i11 t0 t1;have A2:AA*AA+AA*AA<=10^35:=by decide
  refine⟨g 0 0*g 1 1-g 0 1*g 1 0,fun e=>?_,qEr (qfF (q2g g00 g11) (q2g g01 g10)) A2,fun i hi=>?_⟩
  ·have e':((g 0 0:Int):Rat)*(g 1 1:Rat)-(g 0 1:Rat)*(g 1 0:Rat)=0:=by rw[<-qEB,<-qEB,<-qF2,e];rfl
   grind
  ·rcases (show i=0\/i=1 by omega) with rfl|rfl
   ·refine⟨b 0*g 1 1-g 0 1*b 1,?_,qEr (qfF (q2g b0 g11) (q2g g01 b1)) A2⟩;simp only[qEB,qF2];rw[<-t0,<-t1];grind
   ·refine⟨g 0 0*b 1-b 0*g 1 0,?_,qEr (qfF (q2g g00 b1) (q2g b0 g10)) A2⟩;simp only[qEB,qF2];rw[<-t0,<-t1];grind
 | 3,_=>
  have A3:AA*(AA*AA+AA*AA)+AA*(AA*AA+AA*AA)+AA*(AA*AA+AA*AA)<=10^35:=by decide
  have G:=fun i k (hi:i<3) (hk:k<3)=>hg i k hi hk;have i00:=hinv 0 0 (by omega) (by omega);have i01:=hinv 0 1 (by omega) (by omega);have i02:=hinv 0 2 (by omega) (by omega);have i10:=hinv 1 0 (by omega) (by omega);have i11:=hinv 1 1 (by omega) (by omega);have i12:=hinv 1 2 (by omega) (by omega);have i20:=hinv 2 0 (by omega) (by omega);have i21:=hinv 2 1 (by omega) (by omega);have i22:=hinv 2 2 (by omega) (by omega);have t0:=ht 0 (by omega);have t1:=ht 1 (by omega);have t2:=ht 2 (by omega);have B0:=hb 0 (by omega);have B1:=hb 1 (by omega);have B2:=hb 2 (by omega);simp only[su,if_true,Rat.zero_add,show (1=0)=False from eq_false (by decide),show (0=1)=False from eq_false (by decide),show (2=0)=False from eq_false (by decide),show (0=2)=False from eq_false (by decide),show (1=2)=False from eq_false (by decide),show (2=1)=False from eq_false (by decide),if_false] at i00 i01 i02 i10 i11 i12 i20 i21 i22 t0 t1 t2;have G00:=G 0 0 (by omega) (by omega);have G01:=G 0 1 (by omega) (by omega);have G02:=G 0 2 (by omega) (by omega);have G10:=G 1 0 (by omega) (by omega);have G11:=G 1 1 (by omega) (by omega);have G12:=G 1 2 (by omega) (by omega);have G20:=G 2 0 (by omega) (by omega);have G21:=G 2 1 (by omega) (by omega);have G22:=G 2 2 (by omega) (by omega);refine⟨qAg (g 0 0) (g 0 1) (g 0 2) (g 1 0) (g 1 1) (g 1 2) (g 2 0) (g 2 1) (g 2 2),fun e=>?_,qEr (qnx G00 G01 G02 G10 G11 G12 G20 G21 G22) A3,fun i hi=>?_⟩
  ·have e':=qcQ (g 0 0) (g 0 1) (g 0 2) (g 1 0) (g 1 1) (g 1 2) (g 2 0) (g 2 1) (g 2 2);rw[e] at e';have m:=qBF (g 0 0) (g 0 1) (g 0 2) (g 1 0) (g 1 1) (g 1 2) (g 2 0) (g 2 1) (g 2 2) (N 0 0) (N 0 1) (N 0 2) (N 1 0) (N 1 1) (N 1 2) (N 2 0) (N 2 1) (N 2 2);rw[i00,i01,i02,i10,i11,i12,i20,i21,i22,<-e'] at m;have z:((0:Int):Rat)=0:=rfl;have o:qxN 1 0 0 0 1 0 0 0 1=1:=by unfold qxN;grind
   rw[z,o] at m;grind
  ·rw[qcQ];rcases (show i=0\/i=1\/i=2 by omega) with rfl|rfl|rfl
   ·refine⟨qAg (b 0) (g 0 1) (g 0 2) (b 1) (g 1 1) (g 1 2) (b 2) (g 2 1) (g 2 2),?_,qEr (qnx B0 G01 G02 B1 G11 G12 B2 G21 G22) A3⟩;rw[qcQ,<-t0,<-t1,<-t2];unfold qxN;grind
   ·refine⟨qAg (g 0 0) (b 0) (g 0 2) (g 1 0) (b 1) (g 1 2) (g 2 0) (b 2) (g 2 2),?_,qEr (qnx G00 B0 G02 G10 B1 G12 G20 B2 G22) A3⟩;rw[qcQ,<-t0,<-t1,<-t2];unfold qxN;grind
   ·refine⟨qAg (g 0 0) (g 0 1) (b 0) (g 1 0) (g 1 1) (b 1) (g 2 0) (g 2 1) (b 2),?_,qEr (qnx G00 G01 B0 G10 G11 B1 G20 G21 B2) A3⟩;rw[qcQ,<-t0,<-t1,<-t2];unfold qxN;grind
theorem qnI{A B:Nat->Rat}{m NA DA NB DB:Nat}(hA:∀k,k<m->bnd NA DA (A k))(hB:∀k,k<m->bnd NB DB (B k)) :
  ∀k,k<=m->bnd (NA+NB+1+k*(DA+DB+2)) (1+k*(DA+DB)) (su k fun k=>A k*B k)
 | 0,_=>ko.mono (by omega) (by omega)
 | k+1,hk=>by
  have h:=qnI hA hB k (by omega);have e1:=qEJ k 1 (DA+DB+2);have e2:=qEJ k 1 (DA+DB);have e3:=Nat.mul_add k (DA+DB) 2;have:=h.add ((hA k (by omega)).mul (hB k (by omega))) (K:=NA+NB+1+(k+1)*(DA+DB+2)) (by omega) (by omega);exact this.mono (qEo _) (by omega)
theorem quS{A B:Nat->Rat}{m NA DA NB DB:Nat}(hm:m<=1000)(hA:∀k,k<m->bnd NA DA (A k))(hB:∀k,k<m->bnd NB DB (B k))(hc:NA+NB+1+m*(DA+DB+2)<=1023){a b:R}(la:qm a=m)(lb:qm b=m)(ga:∀k,k<m->cS a (k:Int) 0=tQ (A k)) (gb:∀k,k<m->cS b (k:Int) 0=tQ (B k)):(qB [.r a,.r b]).run=some (0,[.s (tQ (su m fun k=>A k*B k)),.i 0]):=by
 have key:=zI (S:=qQ) (fun k=>[.r b,.s (tQ (su k fun k=>A k*B k)),.r a,.i m,.i (k:Int)]) (0,[.s (tQ (su m fun k=>A k*B k))]) m (by omega) (fun k hk=>by
  rw[yG];have h:=qnI hA hB k (by omega);have e0:=qER (DA+DB+2) (show k+1<=m by omega);have e1:=qEJ k 1 (DA+DB+2);have e2:=qEJ k 1 (DA+DB);have e3:=Nat.mul_add k (DA+DB) 2;simp only[STD,la,lb,ga k hk,gb k hk,qb4 (hA k hk) (hB k hk) (by omega) (by omega),qbt h ((hA k hk).mul (hB k hk)) (by omega) (by omega) (by omega),q3f hk (show m<9223372036854775808 by omega),
   show (k:Int)<m by omega,show (0:Int)<=k by omega,and_self]
  rfl) (by
  rw[yG];simp only[STD,show ¬(m:Int)<m by omega])
 have key':(qh qQ [.r b,.s [48],.r a,.i (qm a),.i 0]).run=some (0,[.s (tQ (su m fun k=>A k*B k))]):=by rw[la];exact key
 rw[q4O];simp only[STD,key',zJ key']
theorem qEh(x y z:Bs):qm (txR [x,y,z])=((3:Nat):Int)/\cS (txR [x,y,z]) ((0:Nat):Int) 0=x/\cS (txR [x,y,z]) ((1:Nat):Int) 0=y/\cS (txR [x,y,z]) ((2:Nat):Int) 0=z:=⟨rfl,rfl,rfl,rfl⟩
theorem qCD(a b:V3):su 3 (fun k=>(if k=0 then a.x-b.x else if k=1 then a.y-b.y else a.z-b.z)*(if k=0 then a.x-b.x else if k=1 then a.y-b.y else a.z-b.z))=d2 a b:=by simp only[su,if_true,show (1=0)=False from eq_false (by decide),show (2=0)=False from eq_false (by decide),show (2=1)=False from eq_false (by decide),if_false];unfold d2;grind
structure CB (c:V3):Prop where
 x:bnd 42 36 c.x
 y:bnd 42 36 c.y
 z:bnd 42 36 c.z
def spV(x y z:Int):V3:=⟨(x:Rat),(y:Rat),(z:Rat)⟩
theorem qhM{c:Rat}{x:Int}(h:bnd 42 36 c)(hx:co x):bnd 44 37 (c-(x:Rat)):=h.sub (qpq hx) (by omega) (by omega)
theorem qst{c:V3}{x y z:Int}(hc:CB c)(hx:co x)(hy:co y)(hz:co z):bnd 317 223 (d2 c (spV x y z)):=by
 have key:∀k,k<3->bnd 44 37 (if k=0 then c.x-(spV x y z).x else if k=1 then c.y-(spV x y z).y else c.z-(spV x y z).z):=fun k _=>by
  split
  ·exact qhM hc.x hx
  ·split
   ·exact qhM hc.y hy
   ·exact qhM hc.z hz
 rw[<-qCD];exact qnI key key 3 (by omega)
theorem qBv(X Y Z:Bs):yE (txR (([X,Y,Z]:List Bs).take 0)) [[.s X]]=txR (([X,Y,Z]:List Bs).take (0+1))/\yE (txR (([X,Y,Z]:List Bs).take 1)) [[.s Y]]=txR (([X,Y,Z]:List Bs).take (1+1)) /\yE (txR (([X,Y,Z]:List Bs).take 2)) [[.s Z]]=txR (([X,Y,Z]:List Bs).take (2+1))/\qm (txR (([X,Y,Z]:List Bs).take 0))=0/\qm (txR (([X,Y,Z]:List Bs).take 1))=1/\qm (txR (([X,Y,Z]:List Bs).take 2))=2 /\qm [[U.s X]]=1/\qm [[U.s Y]]=1/\qm [[U.s Z]]=1:=⟨rfl,rfl,rfl,rfl,rfl,rfl,rfl,rfl,rfl⟩
theorem qrG{x y z:Int}{cx cy cz X Y Z:Bs}(hx:co x)(hy:co y)(hz:co z)(sx:(zu [.s cx,.s (tQ (x:Rat))]).run=some (0,[.s X,.i 0]))(sy:(zu [.s cy,.s (tQ (y:Rat))]).run=some (0,[.s Y,.i 0]))(sz:(zu [.s cz,.s (tQ (z:Rat))]).run=some (0,[.s Z,.i 0])):(qh u6 [.i x,.i y,.i z,.i 0,.s cx,.s cy,.s cz,.r []]).run=some (0,[.r (txR [X,Y,Z])]):=by
 obtain⟨t0,t1,t2,r0,r1,r2,q0,q1,q2⟩:=qBv X Y Z;have key:=zI (S:=u6) (fun k=>[.i x,.i y,.i z,.i (k:Int),.s cx,.s cy,.s cz,.r (txR (([X,Y,Z]:List Bs).take k))]) (0,[.r (txR [X,Y,Z])]) 3 (by omega) (fun k hk=>by
   rw[qac];rcases (show k=0\/k=1\/k=2 by omega) with rfl|rfl|rfl
   ·have e1:qO .i64 ((0:Nat):Int) 1=((0+1:Nat):Int):=by decide
    have e2:quO [x,y,z] ((0:Nat):Int)=x:=rfl;simp only[STD,e1,e2,q1y (qei hx),sx,t0,r0,q0,show (((0:Nat):Int)<3)=True from eq_true (by decide),show ((0:Int)<=((0:Nat):Int))=True from eq_true (by decide),
     show (((0:Nat):Int)=2)=False from eq_false (by decide),show (((0:Nat):Int)=1)=False from eq_false (by decide),show (((0:Nat):Int)=0)=True from eq_true (by decide),and_self,show ((0:Int)+1<=8796093022208)=True from eq_true (by decide)]
   ·have e1:qO .i64 ((1:Nat):Int) 1=((1+1:Nat):Int):=by decide
    have e2:quO [x,y,z] ((1:Nat):Int)=y:=rfl;simp only[STD,e1,e2,q1y (qei hy),sy,t1,r1,q1,show (((1:Nat):Int)<3)=True from eq_true (by decide),show ((0:Int)<=((1:Nat):Int))=True from eq_true (by decide),
     show (((1:Nat):Int)=2)=False from eq_false (by decide),show (((1:Nat):Int)=1)=True from eq_true (by decide),and_self,show ((1:Int)+1<=8796093022208)=True from eq_true (by decide)]
   ·have e1:qO .i64 ((2:Nat):Int) 1=((2+1:Nat):Int):=by decide
    have e2:quO [x,y,z] ((2:Nat):Int)=z:=rfl;simp only[STD,e1,e2,q1y (qei hz),sz,t2,r2,q2,show (((2:Nat):Int)<3)=True from eq_true (by decide),show ((0:Int)<=((2:Nat):Int))=True from eq_true (by decide),
     show (((2:Nat):Int)=2)=True from eq_true (by decide),and_self,show ((2:Int)+1<=8796093022208)=True from eq_true (by decide)]) (by
   rw[qac];simp only[STD,show (((3:Nat):Int)<3)=False from eq_false (by decide)];rfl)
 exact key
theorem qAa{c:V3}{x y z:Int}(hc:CB c)(hx:co x)(hy:co y)(hz:co z):(vj [.s (tQ c.x),.s (tQ c.y),.s (tQ c.z),.i x,.i y,.i z]).run=some (0,[.s (tQ (d2 c (spV x y z))),.i 0]):=by
 have key':=qrG hx hy hz (q5a hc.x (qpq hx) (by omega) (by omega) (by omega)) (q5a hc.y (qpq hy) (by omega) (by omega) (by omega)) (q5a hc.z (qpq hz) (by omega) (by omega) (by omega));have kb:∀k,k<3->bnd 44 37 (if k=0 then c.x-(spV x y z).x else if k=1 then c.y-(spV x y z).y else c.z-(spV x y z).z):=fun k _=>by
  split
  ·exact qhM hc.x hx
  ·split
   ·exact qhM hc.y hy
   ·exact qhM hc.z hz
 obtain⟨l0,l1,l2,l3⟩:=qEh (tQ (c.x-(x:Rat))) (tQ (c.y-(y:Rat))) (tQ (c.z-(z:Rat)));have gg:∀k:Nat,k<3->cS (txR [tQ (c.x-(x:Rat)),tQ (c.y-(y:Rat)),tQ (c.z-(z:Rat))]) (k:Int) 0=tQ (if k=0 then c.x-(spV x y z).x else if k=1 then c.y-(spV x y z).y else c.z-(spV x y z).z):=fun k hk=>by
  rcases (show k=0\/k=1\/k=2 by omega) with rfl|rfl|rfl
  ·exact l1
  ·exact l2
  ·exact l3
 have ht:=quS (m:=3) (by omega) kb kb (by decide) l0 l0 gg gg;rw[qCD] at ht;rw[qln];simp only[STD,qbe,key',zJ key',ht]
variable {n:Nat}
theorem qrM{t:Nat->Rat}{n:Nat}(h:∀k,k<n->bnd 36 36 (t k)):∀k,k<=n->bnd (38*k+1) (36*k+1) (su k t)
 | 0,_=>ko
 | k+1,hk=>by
  have:=(qrM h k (by omega)).add (h k (by omega)) (K:=38*(k+1)+1) (by omega) (by omega);exact this.mono (qEo _) (by omega)
theorem qnS (F:Nat->Bs){k:Nat}(hk:k<n):cS (txR ((List.range n).map F)) (k:Int) 0=F k:=qvY (by rw[qEy,qFe hk];rfl)
theorem qjP (n:Nat)(F:Nat->Bs):qm (txR ((List.range n).map F))=(n:Int):=by rw[qi4,qEA,qF4]
theorem qDA (hn:n<=3){t:Nat->Rat}(h:∀k,k<n->bnd 36 36 (t k)):(q8d [.r (txR ((List.range n).map fun k=>tQ (t k)))]).run=some (0,[.s (tQ (su n t)),.i 0]):=by
 obtain⟨bl,hbl⟩:∃bl,bl=txR ((List.range n).map fun k=>tQ (t k)):=⟨_,rfl⟩;have lb:qm bl=(n:Int):=by rw[hbl,qjP]
 have gb:∀k,k<n->cS bl (k:Int) 0=tQ (t k):=fun k hk=>by rw[hbl];exact qnS (fun k=>tQ (t k)) hk
 have ck:(qv [.r bl]).run=some (0,[.i 0]):=by rw[hbl];exact qgP (by simp;omega) (fun s hs=>by obtain⟨k,hk,rfl⟩:=qF9.1 hs;exact q0i ((h k (qFv.1 hk)).ok (by omega) (by omega)))
 have key:=zI (S:=q0M) (fun k=>[.s (tQ (su k t)),.r bl,.i n,.i (k:Int)]) (0,[.s (tQ (su n t))]) n (by omega) (fun k hk=>by
  rw[qdD];have sb:=qrM h k (by omega);simp only[STD,lb,gb k hk,qbt sb (h k hk) (by omega) (by omega) (by omega),q3f hk (show n<9223372036854775808 by omega),show (k:Int)<n by omega,show (0:Int)<=k by omega,and_self];rfl) (by
  rw[qdD];simp only[STD,show ¬(n:Int)<n by omega])
 have key':(qh q0M [.s [48],.r bl,.i (n:Int),.i 0]).run=some (0,[.s (tQ (su n t))]):=key;rw[<-hbl,qq8];simp only[STD,ck,key',zJ key',lb,show ¬(4096:Int)<n by omega]
theorem qed {q:Rat}{P M:Int}{a b:Nat}(hM:M≠0)(h:q*(M:Rat)=(P:Rat))(hP:P.natAbs<10^(a+1))(hD:M.natAbs<10^(b+1)):bnd (a+1) (b+1) q:=by obtain⟨h1,h2⟩:=qCT hM h;exact⟨q0D a _ (by omega),q0D b _ (by omega)⟩
theorem qz7 (hn:n<=3){t:Nat->Rat}{D:Int}(hD:D.natAbs<=10^35)(h:∀i,i<n->∃T:Int,t i*(D:Rat)=(T:Rat)/\T.natAbs<=10^35):∀j,j<n+1->∃W:Int,wts t n j*(D:Rat)=(W:Rat)/\W.natAbs<=4*10^35:=by
 have sums:∀k,k<=n->∃W:Int,su k t*(D:Rat)=(W:Rat)/\W.natAbs<=k*10^35:=by
  intro k;induction k with
  | zero=>exact fun _=>⟨0,by simp only[su];rw[Rat.zero_mul];rfl,by simp⟩
  | succ k ih=>
   intro hk;obtain⟨W,e1,e2⟩:=ih (by omega);obtain⟨T,e3,e4⟩:=h k (by omega);refine⟨W+T,?_,?_⟩
   ·simp only[su];rw[Rat.add_mul,e1,e3,qFa]
   ·rw[qEJ];omega
 intro j hj;unfold wts;by_cases e:j=0
 ·obtain⟨W,e1,e2⟩:=sums n (qEo _);refine⟨D-W,?_,?_⟩
  ·rw[if_pos e,qF2,<-e1];grind
  ·have:=qER (10^35) hn;omega
 ·obtain⟨T,e3,e4⟩:=h (j-1) (by omega);exact⟨T,by rw[if_neg e];exact e3,by omega⟩
theorem qyM (hn:n<=3){w:Nat->Rat}{x:Nat->Int}{D:Int}(hx:∀j,j<n+1->co (x j))(h:∀j,j<n+1->∃W:Int,w j*(D:Rat)=(W:Rat)/\W.natAbs<=4*10^35) :∃C:Int,su (n+1) (fun j=>w j*(x j:Rat))*(D:Rat)=(C:Rat)/\C.natAbs<=16*10^40:=by
 have sums:∀k,k<=n+1->∃C:Int,su k (fun j=>w j*(x j:Rat))*(D:Rat)=(C:Rat)/\C.natAbs<=k*(4*10^40):=by
  intro k;induction k with
  | zero=>exact fun _=>⟨0,by simp only[su];rw[Rat.zero_mul];rfl,by simp⟩
  | succ k ih=>
   intro hk;obtain⟨C,e1,e2⟩:=ih (by omega);obtain⟨W,e3,e4⟩:=h k (by omega);refine⟨C+W*x k,?_,?_⟩
   ·simp only[su];rw[Rat.add_mul,e1,qFa,qEB,<-e3];grind
   ·have hc:=hx k (by omega);have:=q2g e4 (show (x k).natAbs<=100000 by unfold co at hc;omega);rw[qEJ];omega
 obtain⟨C,e1,e2⟩:=sums (n+1) (qEo _);refine⟨C,e1,?_⟩;exact qEr e2 (qEr (qER (4*10^40) (show n+1<=4 by omega)) (by decide))
end Go.Eng

namespace Go.Eng
variable {l:R}
def axv(l:R)(a k:Nat):Int:=quO [cI l (k:Int) 0,cI l (k:Int) 1,cI l (k:Int) 2] (a:Int)
theorem q6x.ax (h:q6x l){k:Nat}(hk:k<l.length){a:Nat}(ha:a<3):co (axv l a k):=by
 obtain⟨h1,h2,h3⟩:=h.row hk;rcases (show a=0\/a=1\/a=2 by omega) with rfl|rfl|rfl
 ·exact h1
 ·exact h2
 ·exact h3
theorem qis {m a:Nat}(h:q6x l)(hl:l.length=m)(ha:a<3)(s1 s2 s3 s4 t1 t2 t3 t4:Bs)(wl:R) :(qh vX [.r l,.i a,.i a,.r l,.i m,.i 0,.s s1,.s s2,.s s3,.s s4,.r wl,.s t1,.s t2,.s t3,.s t4,.r []]).run = some (0,[.r l,.i a,.i a,.s s1,.s s2,.s s3,.s s4,.r wl,.s t1,.s t2,.s t3,.s t4,.r (txR ((List.range m).map fun k=>tQ (axv l a k:Rat)))]):=by
 have hm:m<=64:=by have:=h.1;omega
 have hL:qm l=(m:Int):=by unfold qm;rw[hl]
 have key:=zI (S:=vX) (fun k=>[.r l,.i a,.i a,.r l,.i m,.i (k:Int),.s s1,.s s2,.s s3,.s s4,.r wl,.s t1,.s t2,.s t3,.s t4,.r (txR ((List.range k).map fun k=>tQ (axv l a k:Rat)))])
  (0,[.r l,.i a,.i a,.s s1,.s s2,.s s3,.s s4,.r wl,.s t1,.s t2,.s t3,.s t4,.r (txR ((List.range m).map fun k=>tQ (axv l a k:Rat)))]) m (by omega) (fun k hk=>by
   rw[q6I];have e0:quO [cI l (k:Int) 0,cI l (k:Int) 1,cI l (k:Int) 2] (a:Int)=axv l a k:=rfl;have e1:txR ((List.range (k+1)).map fun k=>tQ (axv l a k:Rat))=yE (txR ((List.range k).map fun k=>tQ (axv l a k:Rat))) [[.s (tQ (axv l a k:Rat))]]:=by rw[qku,qkm,qFU,qEX];rfl
   have e3:qm [[U.s (tQ (axv l a k:Rat))]]=1:=rfl;simp only[STD,qbe,hL,e0,q1y (qei (h.ax (show k<l.length by omega) ha)),q3f hk (show m<9223372036854775808 by omega),e1,e3,qi4,qEA,qF4,show (k:Int)<m by omega,
    show (a:Int)<3 by omega,show (0:Int)<=a by omega,show (k:Int)+1<=8796093022208 by omega,show (0:Int)<=k by omega,and_self]) (by
   rw[q6I];simp only[STD,show ¬(m:Int)<m by omega])
 exact key
theorem qtC {m:Nat}(h:q6x l)(hl:l.length=m)(hm:m<=4){w:Nat->Rat}(hw:∀k,k<m->bnd 36 36 (w k))(s1 s2 s3 s4:Bs) :(qh j4 [.r l,.i 0,.s s1,.s s2,.s s3,.s s4,.r (txR ((List.range m).map fun k=>tQ (w k))),.s [],.s [],.s [],.s []]).run = some (0,[.r l,.s s1,.s s2,.s s3,.s s4,.r (txR ((List.range m).map fun k=>tQ (w k))),.s (tQ (cen m w (pV l)).x),.s (tQ (cen m w (pV l)).y),.s (tQ (cen m w (pV l)).z),.s []]):=by
 obtain⟨wl,hwl⟩:∃wl,wl=txR ((List.range m).map fun k=>tQ (w k)):=⟨_,rfl⟩;have hL:qm l=(m:Int):=by unfold qm;rw[hl]
 have lw:qm wl=(m:Int):=by rw[hwl,qjP]
 have gw:∀k,k<m->cS wl (k:Int) 0=tQ (w k):=fun k hk=>by rw[hwl];exact qnS (fun k=>tQ (w k)) hk
 rw[<-hwl];have tot:∀a,a<3->(qB [.r wl,.r (txR ((List.range m).map fun k=>tQ (axv l a k:Rat)))]).run=some (0,[.s (tQ (su m fun k=>w k*(axv l a k:Rat))),.i 0]):=fun a ha=>
  quS (by omega) hw (fun k hk=>qpq (h.ax (show k<l.length by omega) ha)) (by omega) lw (qjP _ _) gw (fun k hk=>qnS (fun k=>tQ (axv l a k:Rat)) hk)
 have q0:=tot 0 (by omega);have q1:=tot 1 (by omega);have q2:=tot 2 (by omega);have key:=zI (S:=j4) (fun a=>[.r l,.i (a:Int),.s s1,.s s2,.s s3,.s s4,.r wl,.s (if 0<a then tQ (su m fun k=>w k*(axv l 0 k:Rat)) else []),.s (if 1<a then tQ (su m fun k=>w k*(axv l 1 k:Rat)) else []),.s (if 2<a then tQ (su m fun k=>w k*(axv l 2 k:Rat)) else []),.s []])
  (0,[.r l,.s s1,.s s2,.s s3,.s s4,.r wl,.s (tQ (su m fun k=>w k*(axv l 0 k:Rat))),.s (tQ (su m fun k=>w k*(axv l 1 k:Rat))),.s (tQ (su m fun k=>w k*(axv l 2 k:Rat))),.s []]) 3 (by omega) (fun a ha=>by
   rw[q6G];rcases (show a=0\/a=1\/a=2 by omega) with rfl|rfl|rfl
   ·simp only[STD,hL,qis h hl ha,q0];rfl
   ·simp only[STD,hL,qis h hl ha,q1];rfl
   ·simp only[STD,hL,qis h hl ha,q2];rfl) (by
   rw[q6G];simp only[STD];rfl)
 exact key
end Go.Eng

namespace Go.Eng
theorem qzr(n:Nat)(t:Nat->Rat):yE [[.s (tQ (1-su n t))]] (txR ((List.range n).map fun k=>tQ (t k)))=txR ((List.range (n+1)).map fun j=>tQ (wts t n j)):=by rw[qku,qkm,List.range_succ_eq_map,qFq,List.map_map];rfl
theorem qy0{l:R}{n:Nat}(h:q6x l)(hl:l.length=n+1)(hn:n<=3) :(∃t,Bl n (pV l) t/\(∀j,j<n+1->bnd 36 36 (wts t n j))/\CB (cen (n+1) (wts t n) (pV l)) /\(yV [.r l]).run=some (0,[.s (tQ (cen (n+1) (wts t n) (pV l)).x),.s (tQ (cen (n+1) (wts t n) (pV l)).y),.s (tQ (cen (n+1) (wts t n) (pV l)).z),.s (tQ (d2 (cen (n+1) (wts t n) (pV l)) (pV l 0))),.r (txR ((List.range (n+1)).map fun j=>tQ (wts t n j))),.b true,.i 0])) \/(¬Ind (n+1) (pV l)/\(yV [.r l]).run=some (0,[.s [],.s [],.s [],.s [],.r [],.b false,.i 0])):=by
 have hL:qm l=((n+1:Nat):Int):=by unfold qm;rw[hl]
 have w0:q2k .i64 ((n+1:Nat):Int) 1=(n:Int):=by rw[q1s (by omega)];omega
 have bd:∀i k,i<n->k<n->-120000000000<=dI l (i+1) (k+1)/\dI l (i+1) (k+1)<=120000000000:=fun i k hi hk=>qBc h (by omega) (by omega);have bg:∀i k,i<n->k<n->(gI2 l i k).natAbs<=240000000000:=fun i k hi hk=>by have:=bd i k hi hk;unfold gI2;omega
 have r0:=qxO h hl [] [] [] [];have r1:=qqy (n:=n) (L:=rI (mkI (gI2 l) n n)) (g:=gI2 l) (by omega) (by unfold rI;rw[qEA,qhF]) (fun i k hi hk=>qDd _ hi hk) (fun i k hi hk=>by have:=bg i k hi hk;omega);rcases qwv hn (G:=fun i k=>(gI2 l i k:Rat)) (fun i k hi hk=>qop (qDw (by have:=bg i k hi hk;omega) (by omega)) (by omega)) with⟨N,g1,g2,g3⟩|⟨g1,g3⟩
 ·left;have eg:(fun i k=>(gI2 l i k:Rat))=qoF (pV l):=by funext i k;exact qsv l i k
  have eb:(fun k=>d2 (pV l 0) (pV l (k+1)))=fun k=>(dI l (k+1) (k+1):Rat):=by funext k;exact(qDn l k).symm
  obtain⟨t,et⟩:∃t,t=qCk n N fun k=>(dI l (k+1) (k+1):Rat):=⟨_,rfl⟩;have bl:Bl n (pV l) t:=by rw[eg] at g1;have:=qBV g1;rw[eb] at this;rw[et];exact this
  obtain⟨D,d0,d1,d2'⟩:=qCP hn (g:=gI2 l) (b:=fun i=>dI l (i+1) (i+1)) (N:=fun k j=>N k (n+j)) (t:=t) (fun i k hi hk=>bg i k hi hk)
   (fun i hi=>by have:=bd i i hi hi;show _<=240000000000;omega) (fun i j hi hj=>qv1 g1 hi hj) (fun i hi=>by rw[et];exact qwH g1 _ hi)
  have tb:∀k,k<n->bnd 36 36 (t k):=fun k hk=>by obtain⟨T,e1,e2⟩:=d2' k hk;exact qed (a:=35) (b:=35) d0 e1 (qG9 e2 (by decide)) (qG9 d1 (by decide))
  have wf:=qz7 hn d1 d2';have wb:∀j,j<n+1->bnd 36 36 (wts t n j):=fun j hj=>by obtain⟨W,e1,e2⟩:=wf j hj;exact qed (a:=35) (b:=35) d0 e1 (qG9 e2 (by decide)) (qG9 d1 (by decide))
  have cb:∀x:Nat->Int,(∀j,j<n+1->co (x j))->bnd 42 36 (su (n+1) fun j=>wts t n j*(x j:Rat)):=fun x hx=>by obtain⟨C,e1,e2⟩:=qyM hn hx wf;exact qed (a:=41) (b:=35) d0 e1 (qG9 e2 (by decide)) (qG9 d1 (by decide))
  have hCB:CB (cen (n+1) (wts t n) (pV l)):=⟨cb _ fun j hj=>(h.row (show j<l.length by omega)).1,cb _ fun j hj=>(h.row (show j<l.length by omega)).2.1,cb _ fun j hj=>(h.row (show j<l.length by omega)).2.2⟩;refine⟨t,bl,wb,hCB,?_⟩;have r3:=qAO hn (V:=fun i k=>N i (n+k)) (B:=fun k=>(dI l (k+1) (k+1):Rat)) (fun i k hi hk=>g2 i (n+k) hi (by omega)) (fun k hk=>qop (qDw (by have:=bd k k hk hk;omega) (by omega)) (by omega));have e3:(fun i=>tQ (su n fun k=>N i (n+k)*(dI l (k+1) (k+1):Rat)))=fun i=>tQ (t i):=by rw[et];rfl
  rw[e3] at r3;have r4:=qDA hn tb;have sb:=qrM tb n (qEo _);have r5:=q5a qqO sb (by omega) (by omega) (by omega);rw[show tQ 1=([49]:Bs) by decide] at r5;have r6:=qtC h hl (by omega) wb [] [] [] [];obtain⟨c,hc⟩:∃c,c=cen (n+1) (wts t n) (pV l):=⟨_,rfl⟩;rw[<-hc] at r6 hCB ⊢;obtain⟨z1,z2,z3⟩:=h.row0 (show 0<l.length by omega);have r7:(vj [.s (tQ c.x),.s (tQ c.y),.s (tQ c.z),.i (cI l 0 0),.i (cI l 0 1),.i (cI l 0 2)]).run=some (0,[.s (tQ (d2 c (pV l 0))),.i 0]):=qAa hCB z1 z2 z3;have e5:qm [[U.s (tQ (1-su n t))]]=1:=rfl;have e6:=qzr n t;rw[qay];simp only[STD,w0,r0,r1,g3,r3,r4,r5,e5,e6,qjP,r6,zJ r6,r7,hL,show (1:Int)+n<=8796093022208 by omega,show (0:Int)<((n+1:Nat):Int) by omega];rw[if_neg (by decide),if_pos ⟨by decide,trivial⟩]
 ·right;have eg:(fun i k=>(gI2 l i k:Rat))=qoF (pV l):=by funext i k;exact qsv l i k
  refine⟨by rw[eg] at g1;exact qya g1,?_⟩;rw[qay];simp only[STD,hL,w0,r0,r1,g3]
theorem qqi{a:Rat}(h:okQ a):(q3H [.s (tQ a)]).run=some (0,[.i (sgn a.num),.i 0]):=by
 have e1:(q3W [.s (tQ a)]).run=some (0,[.s (tI a.num),.s (tI (a.den:Int)),.i 0]):=by rw[qlY];simp only[STD,q0i h,q4P h]
 rw[qo4];simp only[STD,e1,qiB (q0W h)]
theorem qjV{N D N' D':Nat}{a b:Rat}(ha:bnd N D a)(hb:bnd N' D' b)(h1:N+D'<=1023)(h2:N'+D<=1023) :(yl [.s (tQ a),.s (tQ b)]).run=some (0,[.i (sgn (a.num*(b.den:Int)-b.num*(a.den:Int))),.i 0]):=by
 have p1:=qgr a;have p2:=qgr b;have p3:=qnb a;have p4:=qnb b;have oa:okQ a:=⟨by have:=ha.1;have:=hb.2;omega,by have:=ha.2;have:=hb.1;omega⟩;have ob:okQ b:=⟨by have:=hb.1;have:=ha.2;omega,by have:=ha.1;have:=hb.2;omega⟩;have k1:okL (a.num*(b.den:Int)):=q66 ha.1 hb.2 (by omega);have k2:okL (b.num*(a.den:Int)):=q66 hb.1 ha.2 (by omega);have m1:=q7J (q0W oa) (yK ob) k1;have m2:=q7J (q0W ob) (yK oa) k2;have m1':(qf [.r [[.s (tI a.num)],[.s (tI (b.den:Int))]],.i 0]).run=some (0,[.s (tI (a.num*(b.den:Int))),.i 0]):=m1;have m2':(qf [.r [[.s (tI b.num)],[.s (tI (a.den:Int))]],.i 0]).run=some (0,[.s (tI (b.num*(a.den:Int))),.i 0]):=m2;have hch:=qgP (l:=[tQ a,tQ b]) (by simp) (fun s hs=>by
  simp only[qEt,qGu,or_false] at hs;rcases hs with rfl|rfl
  ·exact q0i oa
  ·exact q0i ob)
 have hch':(qv [.r [[.s (tQ a)],[.s (tQ b)]]]).run=some (0,[.i 0]):=hch;rw[qje];simp only[STD,hch',q4P oa,q4P ob,m1',m2',qdz k1 k2]
theorem qCb{m:Int}:sgn m<0↔m<0:=by unfold sgn;split<;>(try split)<;>omega
theorem qAe{m:Int}:0<sgn m↔0<m:=by unfold sgn;split<;>(try split)<;>omega
theorem qCz{a:Rat}:a.num<0↔a<0:=by rw[<-Rat.not_le,<-Rat.num_nonneg];omega
theorem qzF{a b:Rat}:0<a.num*(b.den:Int)-b.num*(a.den:Int)↔b<a:=by rw[Rat.lt_iff];omega
theorem qh1{α:Type}{f:Nat->Option α}:∀{k i:Nat} {r:α},q5o f i k=some r->∃j,i<=j/\j<i+k/\f j=some r
 | 0,i,r,h=>by simp[q5o] at h
 | k+1,i,r,h=>by
  simp only[q5o] at h;cases hf:f i with
  | some a=>
   rw[hf] at h;exact⟨i,by omega,by omega,by rw[hf];exact h⟩
  | none=>
   rw[hf] at h;obtain⟨j,h1,h2,h3⟩:=qh1 h;exact⟨j,by omega,by omega,h3⟩
theorem qyS{n:Nat}(hn:n<=1000){w:Nat->Rat}(hw:∀k,k<n->okQ (w k)) :∃b,(qT [.r (txR ((List.range n).map fun k=>tQ (w k)))]).run=some (0,[.b b])/\(b=true↔∃k,k<n/\w k<0):=by
 obtain⟨x,hx⟩:∃x,x=txR ((List.range n).map fun k=>tQ (w k)):=⟨_,rfl⟩;have lx:qm x=(n:Int):=by rw[hx,qjP]
 have gx:∀k,k<n->cS x (k:Int) 0=tQ (w k):=fun k hk=>by rw[hx];exact qnS (fun k=>tQ (w k)) hk
 have one:∀k,k<n->(qV [.s (tQ (w k))]).run=some (0,[.b (decide (w k<0))]):=fun k hk=>by rw[q8p];simp only[STD,qqi (hw k hk)];rw[show ilt (sgn (w k).num) 0=decide (w k<0) from decide_eq_decide.2 (qCb.trans qCz)]
 have key:=q2n (S:=qA) (fun k=>[.r x,.i n,.i (k:Int)]) (fun k=>if w k<0 then some (1,[.i (k:Int)]) else none) (0,[]) n (by omega)
  (fun k hk hf=>by
   have h0:¬w k<0:=fun h=>by rw[if_pos h] at hf;cases hf
   rw[wg];simp only[STD,lx,gx k hk,one k hk,h0,q3f hk (show n<9223372036854775808 by omega),show (k:Int)<n by omega,show (0:Int)<=k by omega,and_self])
  (fun k r hk hf=>by
   have h0:w k<0:=qF5 fun h=>by rw[if_neg h] at hf;cases hf
   rw[if_pos h0] at hf;cases hf;rw[wg];simp only[STD,lx,gx k hk,one k hk,h0,show (k:Int)<n by omega,show (0:Int)<=k by omega,and_self])
  (by rw[wg];simp only[STD,show ¬(n:Int)<n by omega])
 rw[<-hx,q1M];cases hs:q5o (fun k=>if w k<0 then some (1,[PV.i (k:Int)]) else (none:Option (Nat×List PV))) 0 n with
 | none=>
  rw[hs] at key;have key':(qh qA [.r x,.i n,.i 0]).run=some (0,[]):=key;have r:(qM [.r x]).run=some (0,[.i (-1)]):=by rw[ym];simp only[STD,lx,key',zJ key']
  refine⟨false,by simp only[STD,r];rfl,⟨fun h=>(by cases h),fun⟨k,hk,h⟩=>?_⟩⟩;have:=q4d hs k (by omega) (by omega);simp only[if_pos h] at this;cases this
 | some r=>
  rw[hs] at key;obtain⟨k,h1,h2,h3⟩:=qh1 hs;have h0:w k<0:=qF5 fun h=>by simp only[if_neg h] at h3;cases h3
  simp only[if_pos h0] at h3;cases h3;have key':(qh qA [.r x,.i n,.i 0]).run=some (1,[.i (k:Int)]):=key;have r:(qM [.r x]).run=some (0,[.i (k:Int)]):=by rw[ym];simp only[STD,lx,key',zJ key',show ¬((1:Nat)=0) by decide]
  refine⟨true,?_,⟨fun _=>⟨k,by omega,h0⟩,fun _=>rfl⟩⟩;simp only[STD,r];rw[show ile 0 (k:Int)=true from by simp[ile]]
theorem qyK{n:Nat}(hn:n<=1000){w:Nat->Rat}(hw:∀k,k<n->okQ (w k))(s1 s2 s3 s4:Bs) :∃b,(vn [.s s1,.s s2,.s s3,.s s4,.r (txR ((List.range n).map fun k=>tQ (w k)))]).run=some (0,[.b b])/\(b=true↔∀k,k<n->0<=w k):=by
 obtain⟨b,h1,h2⟩:=qyS hn hw;refine⟨!b,by rw[qaJ];simp only[STD,h1],?_⟩;constructor
 ·intro h k hk;apply Rat.not_lt.1;intro hl;have:=h2.2 ⟨k,hk,hl⟩;rw[this] at h;cases h
 ·intro h;cases b with
  | false=>rfl
  | true=>
   obtain⟨k,hk,hl⟩:=h2.1 rfl;exact absurd (h k hk) (Rat.not_le.2 hl)
theorem qu3{l:R}(h:q6x l){c:V3}(hc:CB c){s:Rat}(hs:bnd 317 223 s)(wl:R) :∃b,(wF [.s (tQ c.x),.s (tQ c.y),.s (tQ c.z),.s (tQ s),.r wl,.r l]).run=some (0,[.b b,.i 0])/\(b=true↔∀k,k<l.length->d2 c (pV l k)<=s):=by
 have hl:=h.1;have lx:qm l=(l.length:Int):=rfl;have aw:∀k,k<l.length->(vj [.s (tQ c.x),.s (tQ c.y),.s (tQ c.z),.i (cI l (k:Int) 0),.i (cI l (k:Int) 1),.i (cI l (k:Int) 2)]).run=some (0,[.s (tQ (d2 c (pV l k))),.i 0]):=fun k hk=>by obtain⟨h1,h2,h3⟩:=h.row hk;exact qAa hc h1 h2 h3
 have cp:∀k,k<l.length->(yl [.s (tQ (d2 c (pV l k))),.s (tQ s)]).run=some (0,[.i (sgn ((d2 c (pV l k)).num*(s.den:Int)-s.num*((d2 c (pV l k)).den:Int))),.i 0]):=fun k hk=>by obtain⟨h1,h2,h3⟩:=h.row hk;exact qjV (qst hc h1 h2 h3) hs (by omega) (by omega)
 have key:=q2n (S:=z6) (fun k=>[.r l,.i l.length,.i (k:Int),.s (tQ c.x),.s (tQ c.y),.s (tQ c.z),.s (tQ s),.r wl]) (fun k=>if s<d2 c (pV l k) then some (1,[.b false,.i 0]) else none) (0,[]) l.length (by omega)
  (fun k hk hf=>by
   have h0:¬s<d2 c (pV l k):=fun h=>by rw[if_pos h] at hf;cases hf
   rw[jS];simp only[STD,lx,aw k hk,cp k hk,qAe,qzF,h0,q3f hk (show l.length<9223372036854775808 by omega),show (k:Int)<l.length by omega,show (0:Int)<=k by omega,and_self])
  (fun k r hk hf=>by
   have h0:s<d2 c (pV l k):=qF5 fun h=>by rw[if_neg h] at hf;cases hf
   rw[if_pos h0] at hf;cases hf;rw[jS];simp only[STD,lx,aw k hk,cp k hk,qAe,qzF,h0,show (k:Int)<l.length by omega,show (0:Int)<=k by omega,and_self])
  (by rw[jS];simp only[STD,show ¬(l.length:Int)<l.length by omega])
 rw[q8E];cases hs:q5o (fun k=>if s<d2 c (pV l k) then some (1,[PV.b false,.i 0]) else (none:Option (Nat×List PV))) 0 l.length with
 | none=>
  rw[hs] at key;have key':(qh z6 [.r l,.i l.length,.i 0,.s (tQ c.x),.s (tQ c.y),.s (tQ c.z),.s (tQ s),.r wl]).run=some (0,[]):=key;refine⟨true,by simp only[STD,lx,key',zJ key'],⟨fun _ k hk=>?_,fun _=>rfl⟩⟩;apply Rat.not_lt.1;intro h0;have:=q4d hs k (by omega) (by omega);simp only[if_pos h0] at this;cases this
 | some r=>
  rw[hs] at key;obtain⟨k,h1,h2,h3⟩:=qh1 hs;have h0:s<d2 c (pV l k):=qF5 fun h=>by simp only[if_neg h] at h3;cases h3
  simp only[if_pos h0] at h3;cases h3;have key':(qh z6 [.r l,.i l.length,.i 0,.s (tQ c.x),.s (tQ c.y),.s (tQ c.z),.s (tQ s),.r wl]).run=some (1,[.b false,.i 0]):=key;refine⟨false,by simp only[STD,lx,key',zJ key'];rfl,⟨fun h=>(by cases h),fun h=>?_⟩⟩;exact absurd (h k (by omega)) (Rat.not_le.2 h0)
variable {L:List Nat}{l:R}
def rN(L:List Nat):R:=rI (L.map fun k:Nat=>(k:Int))
def chR(l:R)(L:List Nat):R:=L.map fun k:Nat=>[.i (cI l (k:Int) 0),.i (cI l (k:Int) 1),.i (cI l (k:Int) 2)]
theorem qeG (L:List Nat):qm (rN L)=(L.length:Int):=by unfold rN;rw[qzH,qEA]
theorem qzN {j k:Nat}(h:L[j]?=some k):cI (rN L) (j:Int) 0=(k:Int):=by unfold rN;rw[qAv,qEK,qEn,qEy,h];rfl
theorem qjO (l:R)(L:List Nat):(chR l L).length=L.length:=by unfold chR;rw[qEA]
theorem qzt (hL:L.length<=1000)(h:∀k,k∈L->k<l.length):(q0q [.r l,.r (rN L)]).run=some (0,[.r (chR l L)]):=by
 have key:=zI (S:=jv) (fun j=>[.r l,.r (rN L),.i L.length,.i (j:Int),.r (chR l (L.take j))]) (0,[.r (chR l L)]) L.length (by omega) (fun j hj=>by
  obtain⟨k,hk⟩:∃k,L[j]?=some k:=⟨L[j],qEv hj⟩;have hkl:=h k (qFt hk);have e1:chR l (L.take (j+1))=yE (chR l (L.take j)) [[.i (cI l (k:Int) 0),.i (cI l (k:Int) 1),.i (cI l (k:Int) 2)]]:=by unfold chR yE;rw[List.take_add_one,hk,qEX];rfl
  have e2:qm (chR l (L.take j))=(j:Int):=by unfold qm;rw[qjO,qFz,qFB (by omega)]
  have e3:qm [[U.i (cI l (k:Int) 0),.i (cI l (k:Int) 1),.i (cI l (k:Int) 2)]]=1:=rfl;have e4:qm l=(l.length:Int):=rfl;rw[q7U];simp only[STD,qeG,qzN hk,e1,e2,e3,e4,q3f hj (show L.length<9223372036854775808 by omega),show (j:Int)<L.length by omega,show (0:Int)<=j by omega,show (0:Int)<=k by omega,show (k:Int)<l.length by omega,
   show (j:Int)+1<=5864062014805 by omega,and_self]) (by
  rw[q7U];simp only[STD,show ¬(L.length:Int)<L.length by omega,qG3])
 have key':(qh jv [.r l,.r (rN L),.i (L.length:Int),.i 0,.r []]).run=some (0,[.r (chR l L)]):=key;rw[qi1];simp only[STD,qeG,key']
theorem qwF {j k:Nat}(h:L[j]?=some k):cI (chR l L) (j:Int) 0=cI l (k:Int) 0/\cI (chR l L) (j:Int) 1=cI l (k:Int) 1/\cI (chR l L) (j:Int) 2=cI l (k:Int) 2:=by
 have e:(chR l L).getD ((j:Int).toNat) []=[.i (cI l (k:Int) 0),.i (cI l (k:Int) 1),.i (cI l (k:Int) 2)]:=by unfold chR;rw[qEK,qEn,qEy,h];rfl
 refine⟨?_,?_,?_⟩<;>(conv=>lhs;unfold cI zY)<;>rw[e]<;>rfl
theorem qxB (hs:q6x l)(hL:L.length<=64)(h:∀k,k∈L->k<l.length):q6x (chR l L):=by refine⟨by rw[qjO];exact hL,fun j hj=>?_⟩;rw[qjO] at hj;obtain⟨k,hk⟩:∃k,L[j]?=some k:=⟨L[j],qEv hj⟩;obtain⟨e1,e2,e3⟩:=qwF (l:=l) hk;have:=hs.2 k (h k (qFt hk));unfold qAU at this ⊢;rw[e1,e2,e3];exact this
def Lf(l:R)(L:List Nat)(j:Nat):Nat:=L.getD j l.length
theorem qDl (l:R)(L:List Nat):pV (chR l L)=fun j=>pV l (Lf l L j):=by
 funext j;unfold pV Lf;cases h:L[j]? with
 | some k=>
  obtain⟨e1,e2,e3⟩:=qwF (l:=l) h;rw[e1,e2,e3,qEn,h];rfl
 | none=>
  have h1:=List.getElem?_eq_none_iff.1 h;have e:(chR l L).getD ((j:Int).toNat) []=[]:=by rw[qEK,qEn,qEM (by rw[qjO];exact h1)];rfl
  have e':l.getD (((l.length:Nat):Int).toNat) []=[]:=by rw[qEK,qEn,qEM (qEo _)];rfl
  rw[qEn,h];show V3.mk _ _ _=V3.mk _ _ _;unfold cI zY;simp only[Option.getD_none];rw[e,e']
def qrq(p:Nat->V3)(m n:Nat)(L:Nat->Nat)(t:Nat->Rat):Prop:=Bl n (fun j=>p (L j)) t/\(∀j,j<n+1->0<=wts t n j)/\∀i,i<m->d2 (cen (n+1) (wts t n) fun j=>p (L j)) (p i)<=d2 (cen (n+1) (wts t n) fun j=>p (L j)) (p (L 0))
theorem qt5 {n:Nat}{c:Nat->V3}{t t':Nat->Rat}(h:Bl n c t)(h':Bl n c t'):∀j,j<n+1->wts t n j=wts t' n j:=fun j hj=>by
 unfold wts;have:=qBf h h';rw[qj this];by_cases e:j=0
 ·rw[if_pos e,if_pos e]
 ·rw[if_neg e,if_neg e];exact this (j-1) (by omega)
theorem qly {n:Nat}{w w':Nat->Rat}{c:Nat->V3}(h:∀j,j<n->w j=w' j):cen n w c=cen n w' c:=by
 have e:∀f:Nat->Rat,su n (fun j=>w j*f j)=su n fun j=>w' j*f j:=fun f=>qj fun j hj=>by rw[h j hj]
 unfold cen;rw[e,e,e]
end Go.Eng

